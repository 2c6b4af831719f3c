/-
  impl.isMember.
  Rows of bools of the call's own; a region that ends in a store.
  The reference's membership and order: spec.l01Zero, l12Sift, l12Has, l12Order.
  The reference's closure: spec.l01Own2, l01Inv, l10Comm, l12Close.
  append of one integer inside a region that draws its order.
  Small things of the subgroup statements.
  The subgroup of a list.
  Plain: the left cosets that are fixed: the representative of y x is x exactly if the conjugate of y by x lies in the subgroup.
  Plain: the transversal of a sequence, listed by the program and by number.
  impl.isNormal.
  Plain: the greatest normal subgroup within a subgroup.
  impl.keyOf: the bytes of all entries, each row closed by a semicolon.
  Plain: the conjugates of a subgroup, as sequences and as masks; the classes of conjugate subgroups.
  Plain: Hall subgroups as sequences: the orders, the way up to one, their one class, the one ascending list.
  Moves of a walk through a region whose order is open, their side conditions paid by themselves.
  spec.l01Part, l20Part: the part of an order for a set of primes.
  Plain: the index of a subgroup as a product over the free indices; the number of fixed cosets.
  NormalCore on both sides.
  CosetRepresentative on both sides.
  Plain: the numbers of the left cosets; the action of the elements on them.
  Plain: relators, their values under images, homomorphisms and preimages.
  Plain: a presentation whose relations are held by members of a monoid that cancel, no two vectors alike, is consistent; words of bijections; a regular realisation makes a presentation consistent.
  Plain: what CosetAction answers, and what FnCosetActions asks of it.
  Plain: collecting positive words: what is computed, and that in a group a collected word is worth its vector.
  append of one value, of one integer, to a row of the call's own.
  Plain: the quotient by a normal subgroup: its presentation, the projection.
  Plain: the presentation of the quotient by a normal subgroup is consistent; the projection is a homomorphism with the subgroup as kernel; lifted vectors.
  Plain: the exponents of a member of a subgroup along its sequence.
  Plain: the presentation of a subgroup: its generators are the members of the sequence; it is consistent; exponents.
  Tails and heads of a presentation.
-/
import Derived.Test.YtldheeicjnncoaaGreatE1
import Derived.Test.YtldheeicjnncoaaGreatE2
import Derived.Test.YtldheeicjnncoaaGreatE3
import Derived.Test.YtldheeicjnncoaaGreatE4
import Derived.Test.YtldheeicjnncoaaGreatE5
import Derived.Laws.BytesArg
import Derived.Deep.RegionHeld3
namespace Go.Proofs.YtldheeicjnncoaaGreat
open Go.RowKit

theorem Grp.repTo_mem {P : Pr} (G : Grp P) {H : List Int → Prop} (S : Sub P H) {X Y : List Int} (hX : Vec P.orders X) (h : RepTo P (cseq P H) X (cseq P H).length Y) : Y = zeros P.orders.length ↔ H X := by
  obtain ⟨h1, h2, h3⟩ := G.seq_facts S
  have hi := G.invV hX
  have hc := h.cos H S h2
  constructor
  · intro h0
    rw [h0, G.grp.er _ hi] at hc
    have := S.inv _ hc
    rwa [G.inv_inv hX] at this
  · intro hx
    have hy := S.mul _ _ hx hc
    rw [← G.ass hX hi h.vec, G.mul_inv hX, G.grp.el _ h.vec] at hy
    by_cases h0 : Y = zeros P.orders.length
    · exact h0
    · obtain ⟨d, hd, hT, hne⟩ := depth_ex h.vec h0
      obtain ⟨j, hj, hjd⟩ := h3 Y hy d hd hT hne
      exact absurd (by rw [← hjd]; exact h.zer j hj) hne

theorem isZeroB_zeros {o l : List Int} (h : Vec o l) : isZeroB l = true ↔ l = zeros o.length := by
  rw [isZeroB_true]
  constructor
  · intro h0
    refine ext_gt (by rw [h.1]; simp [zeros]) (fun i hi => ?_)
    rw [h0 i hi]; exact (gt_replicate _ _).symm
  · intro h0 i hi
    rw [h0]; exact gt_replicate _ _

set_option maxHeartbeats 400000 in
theorem isMember_ok (P : Pr) (G : Grp P) (w : World) (p uv xv : Value) (H : List Int → Prop) (X : List Int) (Sp Su Sx : Nat → Prop) (S : Sub P H) (hp : PresP Sp w p P) (hu : Rows2 Su w uv (cseq P H)) (hx : Ints Sx w xv X) (hX : Vec P.orders X) :
    Calls Tryz.prog 188 #[p, uv, xv] w (Ret w fun _ v => ∃ r : Bool, v = .bool r ∧ (r = true ↔ H X)) := by
  have hn6 := G.v.n6
  have hl := G.cseq_len S
  have hsq := (G.seq_facts S).1
  have hcon := representative_ok P G w p uv xv (cseq P H) X Sp Su Sx hp hu hsq (by omega) hx hX
  obtain ⟨pb, po, rfl⟩ := hp.shape
  obtain ⟨au, capu, rfl, _, _⟩ := Sl.shape hu
  obtain ⟨ax, capx, rfl, _, _⟩ := hx.shape
  have HQ := Lib.hid hsq; clear hsq
  go_enter Tryz.func188, Tryz.ntmps188
  go_wp2_with fail
  refine Calls.mono hcon ?_
  rintro e1 w1 ⟨v1, rfl, hg1, Y, hO, hR⟩
  clear hcon
  have hYi := hO.ints (by rw [hR.vec.1]; omega)
  obtain ⟨ay, capy, rfl, _, _⟩ := hYi.shape
  have hiff := (isZeroB_zeros hR.vec).trans (G.repTo_mem S hX hR)
  cases hb : isZeroB Y with
  | true =>
    rw [hb] at hiff
    have HI := Lib.hid hiff
    have hz := isZero_ok _ _ w1 Any hYi
    rw [hb] at hz
    clear hiff hb hR
    go_wp2_with fail
    refine Calls.mono hz ?_
    rintro e2 w2 ⟨rfl, rfl⟩
    clear hz
    go_wp2
    go_ret
    exact ⟨_, rfl, hg1, true, rfl, by simpa using HI.out⟩
  | false =>
    rw [hb] at hiff
    have HI := Lib.hid hiff
    have hz := isZero_ok _ _ w1 Any hYi
    rw [hb] at hz
    clear hiff hb hR
    go_wp2_with fail
    refine Calls.mono hz ?_
    rintro e2 w2 ⟨rfl, rfl⟩
    clear hz
    go_wp2
    go_ret
    exact ⟨_, rfl, hg1, false, rfl, by simpa using HI.out⟩

end Go.Proofs.YtldheeicjnncoaaGreat
namespace Go.Proofs.YtldheeicjnncoaaGreat
open Go.RowKit

/-! ### a row of bools of the call's own -/
/-- w' is reached from w by growth and at most one store into block g behind it -/
def Near (w : World) (g : Nat) (w' : World) : Prop := ∃ w1, Ext w w1 ∧ (w' = w1 ∨ ∃ j x, w' = w1.setCell ⟨g, j, none⟩ x)
theorem Near.of {w w' : World} {g : Nat} (h : Ext w w') : Near w g w' := ⟨w', h, .inl rfl⟩
theorem Near.store {w w' : World} {g j : Nat} {x : Value} (h : Ext w w') : Near w g (w'.setCell ⟨g, j, none⟩ x) := ⟨w', h, .inr ⟨j, x, rfl⟩⟩
theorem Near.cell {w w' : World} {g : Nat} (h : Near w g w') {a : Addr} {v : Value} (hc : w.cell? a = some v) (hne : a.block ≠ g) : w'.cell? a = some v := by
  obtain ⟨w1, h1, rfl | ⟨j, x, rfl⟩⟩ := h
  · exact h1.cell hc (by simp)
  · rw [World.cell?_setCell_far _ _ _ _ (by simpa using Ne.symm hne)]
    exact h1.cell hc (by simp)

end Go.Proofs.YtldheeicjnncoaaGreat
namespace Go.Proofs.YtldheeicjnncoaaGreat
open Go.RowKit

theorem l01Zero_ok (v : Value) (l : List Int) (w : World) (S : Nat → Prop) (h : Ints S w v l) :
    Calls Tryz.prog 185 #[v] w fun e w' => e = .returned (.bool (isZeroB l)) ∧ w = w' := by
  obtain ⟨a, cap, rfl, _, _⟩ := h.shape
  go_enter Tryz.func185, Tryz.ntmps185
  go_wp2
  go_loop [3] (fun i => ∃ k : Nat, i = .int .i64 k ∧ k ≤ l.length ∧ ∀ j, j < k → gt l j = 0) (fun i => l.length - (intOf i).toNat)
  case atStart => exact ⟨0, rfl, by omega, fun j hj => by omega⟩
  case round =>
    obtain ⟨k, rfl, hk, hz⟩ := hrel
    have HZ := Lib.hid hz; clear hz
    by_cases hlt : k < l.length
    · obtain ⟨b, off, rfl, _, _, hc⟩ := Ints.at h k hlt
      by_cases hx : gt l k = 0
      · have hb : (gt l k != 0) = false := by simp [hx]
        have HX := Lib.hid hx; clear hx
        go_wp2
        go_round
        case rel => exact ⟨k + 1, by go_num, by omega, fun j hj => by
          rcases Nat.lt_succ_iff_lt_or_eq.1 hj with h1 | h1
          · exact HZ.out j h1
          · rw [h1]; exact HX.out⟩
        case measure => simp [intOf]; omega
      · have hb : (gt l k != 0) = true := by simp [hx]
        have he : isZeroB l = false := by
          cases hq : isZeroB l with
          | false => rfl
          | true => exact absurd (isZeroB_true.1 hq k hlt) hx
        have HE := Lib.hid he; clear he hx
        go_wp2
        go_ret
        exact ⟨by rw [HE.out]; rfl, rfl⟩
    · have he : isZeroB l = true := isZeroB_true.2 (fun j hj => HZ.out j (by omega))
      have HE := Lib.hid he; clear he
      go_wp2
      go_ret
      exact ⟨by rw [HE.out]; rfl, rfl⟩

end Go.Proofs.YtldheeicjnncoaaGreat
namespace Go.Proofs.YtldheeicjnncoaaGreat
open Go.RowKit

/-- v[:k] at rows -/
theorem run_head_rows (w : World) (a : Option Addr) (n cap : Nat) (k : Int) (h0 : 0 ≤ k) (h1 : k ≤ cap) :
    (Instr.slice 25 (.slice a n cap) none (some (.int .i64 k)) none).run Tryz.prog w = .ok (.slice a k.toNat cap) w := by
  rw [run_slice_h w 25 a n cap (by kernel_rfl) .i64 k h0 h1]
  have : (sizeOf (Tryz.prog.elem 25)).run Tryz.prog w = .ok 1 w := by kernel_rfl
  rw [this]
  cases a with
  | none => simp [Result.andThen, sliced]
  | some a => simp [Result.andThen, sliced, Addr.add]

set_option maxHeartbeats 1000000 in
theorem l01Own2_ok (w : World) (v : Value) (L : List (List Int)) (S : Nat → Prop) (hv : Rows2 S w v L) (hL : ∀ x ∈ L, x.length ≤ 1000000) (hlen : L.length ≤ 1000000) :
    Calls Tryz.prog 216 #[v] w (Ret w fun w' r => RowsO w.heap.size w' r L) := by
  obtain ⟨a, cap, rfl, _, _⟩ := Sl.shape hv
  have HL := Lib.hid hL; clear hL
  go_enter Tryz.func216, Tryz.ntmps216
  go_wp2
  go_loopw [3, 4] (fun ov iv wr => ∃ (i : Nat) (v4 : Value), v4 = ov ∧ iv = .int .i64 i ∧ i ≤ L.length ∧ Ext w wr ∧ RowsO w.heap.size wr v4 (L.take i)) (fun _ iv _ => L.length - (intOf iv).toNat)
  case atStart => exact ⟨0, _, rfl, rfl, by omega, World.grownBy_alloc _ _ _, [], fun _ _ => False, rfl, World.ownsRow_lit w #[] 0 (Nat.le_refl _) (by decide) rfl, by simp, by simp, by simp⟩
  case round =>
    obtain ⟨i, v4, rfl, rfl, hi, hg, hO⟩ := hrel
    by_cases hlt : i < L.length
    · have hlt' : (i : Int) < L.length := by omega
      obtain ⟨b, off, a2, cap2, rfl, _, _, hc, hr⟩ := Rows2.at (Rows2.ext hv hg) i hlt
      have hstep := take_succ_gt L i hlt
      have hll := HL.out _ (gtMem hlt)
      have htl : (L.take i).length ≤ 1000000 := by rw [List.length_take]; omega
      have HST := Lib.hid (And.intro hstep hll); clear hstep hll
      go_wp2_with fail
      refine Calls.mono (l01Own_ok wr _ (gt L i) _ hr (by have := HST.out.2; omega)) ?_
      rintro eC wC ⟨vC, rfl, hgC, hOC⟩
      have hYO : OwnIn (From wr.heap.size) wC vC (gt L i) := OwnIn.of hOC (by have := HST.out.2; omega) (fun j h1 _ => h1)
      obtain ⟨ay, capy, hvy, _, _⟩ := hYO.ints.shape
      subst hvy
      clear hc
      go_wp2_with (first | (at_builtin; refine wp_app_row rfl _ _ rfl w.heap.size wr wC v4 _ (L.take i) (gt L i) rfl hO hgC hYO rfl rfl htl hg.size ?_; intro v5 w5 hO5 hg5 hg6; have hgw5 := hO.extw hg (Nat.le_refl _) hg5) | fail)
      go_roundw
      case rel => exact ⟨i + 1, v5, rfl, by go_num, by omega, hgw5, by rw [HST.out.1]; exact hO5⟩
      case measure => simp [intOf]; omega
    · have hie : i = L.length := by omega
      subst hie
      rw [List.take_length] at hO
      obtain ⟨az, capz, hvz, _, _⟩ := SlD.shape (hO.toD (by omega))
      subst hvz
      go_wp2
      go_ret
      exact ⟨_, rfl, hg, hO⟩

end Go.Proofs.YtldheeicjnncoaaGreat
namespace Go.Proofs.YtldheeicjnncoaaGreat
open Go.RowKit

theorem step_app_int {ops : Array Oper} {o : Oper} {a : Act} {K : Act → World → Prop} {Q : Exit → Act → World → Prop} {Ex : Prop} {w : World} (hgd : o.guard = none) (s x : Operand)
    (ho : o.op = Op.call { callee := Callee.builtin Builtin.append, args := #[s, x], argTypes := #[24, 24] }) (B : Nat) (v : Value) (l : List Int) (y : Int) (hs : a.eval s = v) (w2 : World) (hown : Own B w2 v l)
    (hw : w = w2.alloc (.cells #[.int .i64 y] 2)) (hx : a.eval x = .slice (some ⟨w2.heap.size, 0, none⟩) 1 1) (hlen : l.length ≤ 1000000) (hbase : B ≤ w2.heap.size)
    (h : ∀ v' w', Own B w' v' (l ++ [y]) → w2.grownBy w' v.ownBlock → K (a.put o.dst v') w') :
    if Region.wanted o (yielded ops a.tmps) = true then Oper.wp Tryz.prog o a w K Q else Ex := by
  subst hw
  have hga : Ext w2 (w2.alloc (.cells #[.int .i64 y] 2)) := World.grownBy_alloc _ _ _
  refine step_app 24 2 (.int .i64 0) 8 und_ints Tryz.infoInt rfl (by decide) hgd s x ho B v (l.map (Value.int .i64)) hs (hown.ext0 hga).v w2.heap.size (.int .i64 y) hx (by rw [World.cell?_alloc_at _ _ _ _ rfl]; rfl) rfl (by simpa using (by omega : l.length ≤ 2000000)) (by have := hga.size; omega) ?_
  intro v' w' h1 h2 _
  exact h v' w' (Own.of (by rw [List.map_append]; exact h1)) (grown_trans (grown_of_ext _ hga) h2)

end Go.Proofs.YtldheeicjnncoaaGreat
namespace Go.Proofs.YtldheeicjnncoaaGreat
open Go.RowKit

theorem rows3One {S : Nat → Prop} {w : World} {u : Value} {U : List (List Int)} (h : Rows2 S w u U) : Rows3 Any (w.alloc (.cells #[u] 25)) (.slice (some ⟨w.heap.size, 0, none⟩) 1 1) [U] := by
  refine ⟨_, 1, rfl, ⟨by simp, by simp, fun h => by cases h⟩, fun i hi => ?_⟩
  have : i = 0 := by simpa using hi
  subst this
  refine ⟨w.heap.size, 0, u, rfl, trivial, by simp, by rw [World.cell?_alloc_at _ _ _ _ rfl]; rfl, ?_⟩
  exact Rows2.sub (Rows2.ext h (World.grownBy_alloc _ _ _)) (fun _ _ _ => trivial)

end Go.Proofs.YtldheeicjnncoaaGreat
namespace Go.Proofs.YtldheeicjnncoaaGreat

/-- the subgroup of a list -/
abbrev gU (P : Pr) (U : List (List Int)) : List Int → Prop := genP P (fun x => x ∈ U)

end Go.Proofs.YtldheeicjnncoaaGreat
namespace Go.Proofs.YtldheeicjnncoaaGreat
open Go.RowKit

/-- a vector that is 0 at the depths of a sequence -/
def Zr (P : Pr) (U : List (List Int)) (x : List Int) : Prop := Vec P.orders x ∧ ∀ j, j < U.length → gt x (dep (gt U j)) = 0

theorem Grp.zr_one {P : Pr} (G : Grp P) {H : List Int → Prop} (S : Sub P H) {x y : List Int} (hx : Zr P (cseq P H) x) (hy : Zr P (cseq P H) y) (h : H (rMul P (rInv P x) y)) : x = y := by
  obtain ⟨_, _, h3⟩ := G.seq_facts S
  have hxi := G.invV hx.1
  have e1 : rMul P x (rMul P (rInv P x) y) = y := by rw [← G.ass hx.1 hxi hy.1, G.mul_inv hx.1, G.grp.el _ hy.1]
  by_cases hz : rMul P (rInv P x) y = zeros P.orders.length
  · rw [hz, G.grp.er _ hx.1] at e1; exact e1
  · exfalso
    have hzv := S.vec _ h
    obtain ⟨e, he, hT, h0⟩ := depth_ex hzv hz
    obtain ⟨j, hj, hje⟩ := h3 _ h e he hT h0
    have h2 := (G.right (Nat.le_of_lt he) hx.1 hT).2 he
    have hx0 := hx.2 j hj
    have hy0 := hy.2 j hj
    rw [hje] at hx0 hy0
    rw [e1, hx0, hy0, Int.zero_add] at h2
    have hb := hzv.2 e he
    rw [Int.emod_eq_of_lt hb.1 hb.2] at h2
    exact h0 h2.symm

end Go.Proofs.YtldheeicjnncoaaGreat
namespace Go.Proofs.YtldheeicjnncoaaGreat
open Go.RowKit

/-- the indices that are no depths -/
def frI (P : Pr) (U : List (List Int)) : List Nat := (List.range P.orders.length).filter (fun i => !(U.map dep).contains i)
def ordN' (P : Pr) (i : Nat) : Nat := (gt P.orders i).toNat
def szR (P : Pr) : List Nat → Nat
  | [] => 1
  | i :: r => szR P r * ordN' P i

end Go.Proofs.YtldheeicjnncoaaGreat
namespace Go.Proofs.YtldheeicjnncoaaGreat
open Go.RowKit

theorem gensOf_vec {P : Pr} (hP : Valid P) : ∀ g ∈ gensOf P.orders.length, Vec P.orders g := fun g hg => by
  unfold gensOf at hg
  obtain ⟨k, _, rfl⟩ := List.mem_map.1 hg
  exact unitV_vec hP k

/-- the generators conjugate the list into H -/
def NormG (P : Pr) (H : List Int → Prop) (U : List (List Int)) : Prop := ∀ g ∈ gensOf P.orders.length, ∀ x ∈ U, H (rConj P x g)

set_option maxRecDepth 100000 in
set_option maxHeartbeats 2000000 in
theorem isNormal_ok (P : Pr) (G : Grp P) (w : World) (p uv : Value) (H : List Int → Prop) (Sp Su : Nat → Prop) (S : Sub P H) (hp : PresP Sp w p P) (hu : Rows2 Su w uv (cseq P H)) :
    Calls Tryz.prog 90 #[p, uv] w (Ret w fun _ v => ∃ r : Bool, v = .bool r ∧ (r = true ↔ NormG P H (cseq P H))) := by
  have hP := G.v
  have hn6 := hP.n6
  have hl := G.cseq_len S
  have hUH := (G.seq_facts S).2.1
  obtain ⟨pb, po, rfl⟩ := hp.shape
  obtain ⟨au, capu, rfl, _, _⟩ := Sl.shape hu
  have hgl : (gensOf P.orders.length).length ≤ 6 := by unfold gensOf; simp; omega
  have HG := Lib.hid (And.intro (gensOf_vec hP) hUH); clear hUH
  go_enter Tryz.func90, Tryz.ntmps90
  go_wp2_with fail
  refine Calls.mono (generators_ok P hP w _ Sp hp) ?_
  rintro e1 w1 ⟨v1, rfl, hg1, hO⟩
  have hR := RowsD.rows (hO.toD (by omega))
  obtain ⟨a1, cap1, hv1, _, _⟩ := Sl.shape hR
  subst hv1
  generalize hgs : gensOf P.orders.length = GS at *
  have HGS := Lib.hid hgs; clear hgs hO
  go_wp2
  go_loopw [12] (fun iv wr => ∃ i : Nat, iv = .int .i64 i ∧ i ≤ GS.length ∧ Ext w1 wr ∧ Hid (∀ j, j < i → ∀ x ∈ cseq P H, H (rConj P x (gt GS j)))) (fun iv _ => GS.length - (intOf iv).toNat)
  case atStart => exact ⟨0, rfl, by omega, Ext.refl _, Lib.hid (fun j h => by omega)⟩
  case round =>
    obtain ⟨i, rfl, hi, hg, hN⟩ := hrel
    by_cases hlt : i < GS.length
    · have hlt' : (i : Int) < GS.length := by omega
      obtain ⟨b, off, a2, cap2, rfl, _, _, hc, hgi⟩ := Rows2.at hR i hlt
      have hcr := hg.cell hc (by simp)
      have hgV := HG.out.1 _ (gtMem hlt)
      have HV := Lib.hid hgV; clear hgV
      go_wp2
      clear hcr
      go_loopw [18] (fun jv wr => ∃ j : Nat, jv = .int .i64 j ∧ j ≤ (cseq P H).length ∧ Ext w1 wr ∧ Hid (∀ l, l < j → H (rConj P (gt (cseq P H) l) (gt GS i)))) (fun jv _ => (cseq P H).length - (intOf jv).toNat)
      case atStart => exact ⟨0, rfl, by omega, hg, Lib.hid (fun j h => by omega)⟩
      case round =>
        clear hg
        obtain ⟨j, rfl, hj, hg, hM⟩ := hrel
        have hgw := grown_trans hg1 hg
        by_cases hjl : j < (cseq P H).length
        · have hjl' : (j : Int) < (cseq P H).length := by omega
          obtain ⟨b3, off3, a3, cap3, rfl, _, _, hc3, hr3⟩ := Rows2.at (Rows2.ext hu hgw) j hjl
          have hxV := S.vec _ (HG.out.2 _ (gtMem hjl))
          have HX := Lib.hid hxV; clear hxV
          go_wp2_with fail
          refine Calls.mono (conjugate_ok P hP wr _ _ _ (gt (cseq P H) j) (gt GS i) Sp _ _ (hp.ext hgw) hr3 (hgi.ext hg) HX.out HV.out) ?_
          rintro eC wC ⟨vC, rfl, hgC, hOC⟩
          rw [G.iConj_eq HX.out HV.out] at hOC
          have hcV := G.conjV HX.out HV.out
          have hCI := hOC.ints (by rw [hcV.1]; omega)
          obtain ⟨aC, capC, hvC, _, _⟩ := hCI.shape
          subst hvC
          have HCV := Lib.hid hcV; clear hcV
          have hgwC := grown_trans hgw hgC
          go_wp2_with fail
          refine Calls.mono (isMember_ok P G wC _ _ _ H (rConj P (gt (cseq P H) j) (gt GS i)) Sp Su Any S (hp.ext hgwC) (Rows2.ext hu hgwC) hCI HCV.out) ?_
          rintro eM wM ⟨vM, rfl, hgM, r, rfl, hr⟩
          have hgT := grown_trans (grown_trans hg hgC) hgM
          cases r with
          | true =>
            have HR := Lib.hid (hr.1 rfl); clear hr
            go_wp2
            go_roundw
            case rel => exact ⟨j + 1, by go_num, by omega, hgT, Lib.hid (fun l hl => by
              rcases Nat.lt_succ_iff_lt_or_eq.1 hl with h | h
              · exact hM.out l h
              · rw [h]; exact HR.out)⟩
            case measure => simp [intOf]; omega
          | false =>
            have hno : ¬ H (rConj P (gt (cseq P H) j) (gt GS i)) := fun h => by have := hr.2 h; cases this
            have HR := Lib.hid hno; clear hr hno
            go_wp2
            go_ret
            exact ⟨_, rfl, grown_trans hg1 hgT, false, rfl, by
              simp only [Bool.false_eq_true, false_iff]
              intro h
              unfold NormG at h
              rw [HGS.out] at h
              exact HR.out (h _ (gtMem hlt) _ (gtMem hjl))⟩
        · have hje : j = (cseq P H).length := by omega
          subst hje
          go_wp2
          go_roundw
          case rel => exact ⟨i + 1, by go_num, by omega, hg, Lib.hid (fun l hl => by
            rcases Nat.lt_succ_iff_lt_or_eq.1 hl with h | h
            · exact hN.out l h
            · rw [h]
              intro x hx
              obtain ⟨m, hm, rfl⟩ := List.getElem_of_mem hx
              rw [← gt_eq _ m hm]; exact hM.out m hm)⟩
          case measure => simp [intOf]; omega
    · have hie : i = GS.length := by omega
      subst hie
      go_wp2
      go_ret
      exact ⟨_, rfl, grown_trans hg1 hg, true, rfl, by
        simp only [true_iff]
        unfold NormG
        rw [HGS.out]
        intro g hgm x hx
        obtain ⟨l, hl, rfl⟩ := List.getElem_of_mem hgm
        rw [← gt_eq _ l hl]; exact hN.out l hl x hx⟩

end Go.Proofs.YtldheeicjnncoaaGreat
namespace Go.Proofs.YtldheeicjnncoaaGreat

def NormP (P : Pr) (K : List Int → Prop) : Prop := ∀ x, K x → ∀ g, Vec P.orders g → K (rConj P x g)
section
variable {P : Pr} (G : Grp P)
include G

theorem Grp.conj_zeros {g : List Int} (hg : Vec P.orders g) : rConj P (zeros P.orders.length) g = zeros P.orders.length := by
  unfold rConj
  rw [G.grp.el _ hg, G.inv_mul hg]

theorem Grp.conj_inv {x g : List Int} (hx : Vec P.orders x) (hg : Vec P.orders g) : rConj P (rInv P x) g = rInv P (rConj P x g) := by
  refine G.inv_of (G.conjV hx hg) (G.conjV (G.invV hx) hg) ?_
  rw [← G.conj_hom hx (G.invV hx) hg, G.mul_inv hx, G.conj_zeros hg]

/-- the elements whose conjugates by g lie in a subgroup -/
theorem Grp.pull_sub {H : List Int → Prop} (S : Sub P H) {g : List Int} (hg : Vec P.orders g) : Sub P (fun y => Vec P.orders y ∧ H (rConj P y g)) :=
  ⟨fun _ h => h.1, ⟨G.oneV, by rw [G.conj_zeros hg]; exact S.one⟩, fun x y hx hy => ⟨G.mulV hx.1 hy.1, by rw [G.conj_hom hx.1 hy.1 hg]; exact S.mul _ _ hx.2 hy.2⟩,
    fun x hx => ⟨G.invV hx.1, by rw [G.conj_inv hx.1 hg]; exact S.inv _ hx.2⟩⟩

/-- the generators suffice -/
theorem Grp.norm_of_gens {K : List Int → Prop} (S : Sub P K) (h : ∀ j, j < P.orders.length → ∀ x, K x → K (rConj P x (unitV P.orders.length j))) : NormP P K := by
  have key : ∀ g, Vec P.orders g → ∀ x, K x → K (rConj P x g) := fun g hg => by
    refine G.gen_ind (fun g => ∀ x, K x → K (rConj P x g)) (fun x hx => ?_) (fun y j hy ih hj x hx => ?_) hg
    · rw [G.conj_one (S.vec x hx)]; exact hx
    · have hu := unitV_vec G.v j
      rw [← G.conj_mul (S.vec x hx) hy hu]
      exact h j hj _ (ih x hx)
  exact fun x hx g hg => key g hg x hx

omit G in
theorem gensOf_at (n j : Nat) (hj : j < n) : gt (gensOf n) j = unitV n j := by
  unfold gensOf
  have h : j < (List.range n).length := by rw [List.length_range]; exact hj
  rw [gt_map _ _ _ h]
  simp [gt, hj]
omit G in
theorem gensOf_len (n : Nat) : (gensOf n).length = n := by unfold gensOf; simp

theorem Grp.norm_iff {K : List Int → Prop} (S : Sub P K) : NormG P K (cseq P K) ↔ NormP P K := by
  have hf := (G.seq_facts S).2.1
  constructor
  · intro h
    refine G.norm_of_gens S (fun j hj x hx => ?_)
    have hu := unitV_vec G.v j
    have h1 : genP P (fun z => z ∈ cseq P K) x := by rw [G.genP_cseq S]; exact hx
    have hm : unitV P.orders.length j ∈ gensOf P.orders.length := by rw [← gensOf_at _ _ hj]; exact gtMem (by rw [gensOf_len]; exact hj)
    exact (h1 _ (G.pull_sub S hu) (fun z hz => ⟨S.vec z (hf z hz), h _ hm z hz⟩)).2
  · intro h g hg x hx
    exact h x (hf x hx) g (gensOf_vec G.v g hg)

end

end Go.Proofs.YtldheeicjnncoaaGreat
namespace Go.Proofs.YtldheeicjnncoaaGreat
open Go.RowKit

/-- the bytes as cells -/
def byV (l : List Int) : List Value := l.map (Value.int .u8)

theorem und_bytes : Tryz.prog.underlying 22 = some (.slice 5) := by kernel_rfl
theorem und_byte : Tryz.prog.underlying 5 = some (.int .u8) := by kernel_rfl
theorem und_str : Tryz.prog.underlying 9 = some .string := by kernel_rfl
theorem Tryz.infoByte : (Tryz.prog.info? 5).map (fun i => (i.zero, i.size, i.bytes)) = some (some (.int .u8 0), 1, 1) := by kernel_rfl

theorem conv_bytes {B : Nat} {w : World} {v : Value} {l : List Int} (h : OwnV B 5 w v (byV l)) : (convert 22 9 v).run Tryz.prog w = .ok (.string (strOfNums l)) w := by
  rcases h.form with ⟨rfl, h2⟩ | ⟨g, cap, rfl, _⟩
  · have : l = [] := by unfold byV at h2; rw [List.map_eq_nil_iff] at h2; exact h2
    subst this
    rw [run_convert_bytes_nil w _ _ und_bytes und_byte 0 0 _ und_str]
    rfl
  · have hl : (byV l).length = l.length := by unfold byV; rw [List.length_map]
    rw [hl]
    refine run_convert_bytes_arg w _ _ und_bytes und_byte g 0 l.length cap l rfl (fun i hi => ?_) _ und_str
    have := h.cell i (by rw [hl]; exact hi)
    rw [Nat.zero_add, this]
    unfold byV
    rw [gt_map _ _ _ hi]; rfl

end Go.Proofs.YtldheeicjnncoaaGreat
namespace Go.Proofs.YtldheeicjnncoaaGreat
open Go.RowKit

abbrev gP (P : Pr) (u : List (List Int)) : List Int → Prop := genP P (fun z => z ∈ u)

section
variable {P : Pr} (G : Grp P)
include G

end

end Go.Proofs.YtldheeicjnncoaaGreat
namespace Go.Proofs.YtldheeicjnncoaaGreat
open Go.RowKit

section
variable {P : Pr} {G : Grp P}

def toE (G : Grp P) (H : List Int → Prop) : El G → Prop := fun x => H x.1
theorem toE_sg {H : List Int → Prop} (S : Sub P H) : SG (toE G H) := ⟨S.one, fun _ _ h k => S.mul _ _ h k, fun _ h => S.inv _ h⟩
theorem order_cd {H : List Int → Prop} (S : Sub P H) : prodU P (cseq P H) (cseq P H).length = (cd (toE G H) : Int) := by
  rw [G.order_elems S]
  have h1 : ((elsIn (toE G H)).map (fun x : El G => x.1)).Nodup := by
    refine List.nodup_iff_pairwise_ne.2 ?_
    rw [List.pairwise_map]
    exact (List.nodup_iff_pairwise_ne.1 (elsIn_nodup _)).imp (fun {a b} hab e => hab (Subtype.ext e))
  have h2 := (List.perm_ext_iff_of_nodup (elemsIn_nodup G.v H) h1).2 (fun x => by
    rw [elemsIn_mem G.v S.vec, List.mem_map]
    constructor
    · intro hx
      exact ⟨⟨x, S.vec x hx⟩, elsIn_mem.2 hx, rfl⟩
    · rintro ⟨y, hy, rfl⟩
      exact elsIn_mem.1 hy)
  rw [h2.length_eq, List.length_map]
  rfl

/-- the depths of a sequence -/
def pvU (G : Grp P) (u : List (List Int)) : Nat → Prop := pv (toE G (gP P u))
theorem ordU (G : Grp P) {u : List (List Int)} (hu : SubB P u) : prodU P u u.length = (prd P (pvU G u) P.orders.length 0 : Nat) := by
  have S := G.subB hu
  have h := order_cd (G := G) S
  rw [cd_eq (toE_sg S)] at h
  have e : cseq P (genP P fun x => x ∈ u) = u := hu.2.symm
  rw [e] at h
  exact h

/-- the product of the orders below d at the depths with a property -/
noncomputable def prF (P : Pr) (Q : Nat → Prop) (d : Nat) : Nat := prd P Q d 0
theorem prd_app (Q : Nat → Prop) : ∀ f d, prd P Q (f + 1) d = prd P Q f d * prd P Q 1 (d + f)
  | 0, d => by
    show prd P Q 1 d = 1 * prd P Q 1 (d + 0)
    rw [Nat.one_mul]; rfl
  | f + 1, d => by
    have ih := prd_app Q f (d + 1)
    rw [prd, ih, ← Nat.mul_assoc, show d + 1 + f = d + (f + 1) by omega]
    conv => rhs; rw [prd]
open Classical in
theorem prF_succ (Q : Nat → Prop) (d : Nat) : prF P Q (d + 1) = prF P Q d * (if Q d then (gt P.orders d).toNat else 1) := by
  unfold prF
  rw [prd_app, Nat.zero_add, prd, prd, Nat.mul_one]
end

end Go.Proofs.YtldheeicjnncoaaGreat
namespace Go.Proofs.YtldheeicjnncoaaGreat
open Go.RowKit

theorem tk {P : Program} {ops : Array Oper} {Q : Exit → Act → World → Prop} {md : Region.Mode} {S : World → Prop} {oi : Oper} {v : Value} {fuel : Nat} {l l' : Array Bool} {a a' : Act} {w : World} (i : Nat)
    (h : wpAnyH P md ops Q S fuel l' a' w)
    (hi : ops[i]? = some oi := by rfl) (hs : Region.noSelect ops = true := by kernel_rfl) (hf : Region.free md ops l i = true := by kernel_rfl) (hr : (Region.ready md ops l).contains i = true := by kernel_rfl)
    (hw : Region.wanted oi (yielded ops a.tmps) = true := by rfl)
    (hy : ∀ w, S w → (execOp a.eval oi).run P w = .ok (.value v) w := by (intro w hSw; (try dsimp only at hSw); go_simp; try with_reducible rfl))
    (hl : l.setIfInBounds i true = l' := by (first | (simp only [List.setIfInBounds_toArray, List.set_cons_zero, List.set_cons_succ]; rfl) | rfl))
    (ha : a.put oi.dst v = a' := by (first | (simp only [Act.put, List.getElem_toArray, List.getElem_cons_succ, List.getElem_cons_zero, List.setIfInBounds_toArray, List.set_cons_zero, List.set_cons_succ]; rfl) | rfl))
    (hQ : ∀ c a w, Q (.panic c) (a.put oi.dst v) w → Q (.panic c) a w := by (intro _ _ _ h; exact h)) (hS : S w := by assumption) : wpAnyH P md ops Q S (fuel + 1) l a w := by
  subst hl ha
  exact wpAnyH_take hi hs hf hr hQ (Or.inl ⟨hw, hy⟩) hS h

theorem tku {P : Program} {ops : Array Oper} {Q : Exit → Act → World → Prop} {md : Region.Mode} {S : World → Prop} {oi : Oper} {fuel : Nat} {l l' : Array Bool} {a a' : Act} {w : World} (i : Nat)
    (h : wpAnyH P md ops Q S fuel l' a' w)
    (hi : ops[i]? = some oi := by rfl) (hs : Region.noSelect ops = true := by kernel_rfl) (hf : Region.free md ops l i = true := by kernel_rfl) (hr : (Region.ready md ops l).contains i = true := by kernel_rfl)
    (hw : Region.wanted oi (yielded ops a.tmps) = false := by rfl)
    (hl : l.setIfInBounds i true = l' := by (first | (simp only [List.setIfInBounds_toArray, List.set_cons_zero, List.set_cons_succ]; rfl) | rfl))
    (ha : a.put oi.dst undef = a' := by (first | (simp only [Act.put, List.getElem_toArray, List.getElem_cons_succ, List.getElem_cons_zero, List.setIfInBounds_toArray, List.set_cons_zero, List.set_cons_succ]; rfl) | rfl))
    (hQ : ∀ c a w, Q (.panic c) (a.put oi.dst undef) w → Q (.panic c) a w := by (intro _ _ _ h; exact h)) (hS : S w := by assumption) : wpAnyH P md ops Q S (fuel + 1) l a w := by
  subst hl ha
  exact wpAnyH_take hi hs hf hr hQ (Or.inr ⟨hw, rfl⟩) hS h

theorem rd1 {P : Program} {ops : Array Oper} {Q : Exit → Act → World → Prop} {md : Region.Mode} {S : World → Prop} {o : Oper} {fuel : Nat} {l l' : Array Bool} {a : Act} {w : World} (i : Nat)
    (h : ∀ K' : Act → World → Prop, Shut (∀ a w, S w → (S w → wpAnyH P md ops Q S fuel l' a w) → K' a w) → if Region.wanted o (yielded ops a.tmps) = true then Oper.wp P o a w K' Q else K' (a.put o.dst undef) w)
    (hr : Region.ready md ops l = [i] := by kernel_rfl) (ho : ops[i]? = some o := by rfl)
    (hl : l.setIfInBounds i true = l' := by (first | (simp only [List.setIfInBounds_toArray, List.set_cons_zero, List.set_cons_succ]; rfl) | rfl)) : wpAnyH P md ops Q S (fuel + 1) l a w := by
  subst hl
  exact wpAnyH_ready hr (by simp) (AllReadyH.cons ho h AllReadyH.nil)

theorem rd2 {P : Program} {ops : Array Oper} {Q : Exit → Act → World → Prop} {md : Region.Mode} {S : World → Prop} {o o2 : Oper} {fuel : Nat} {l l' l2 : Array Bool} {a : Act} {w : World} (i j : Nat)
    (h : ∀ K' : Act → World → Prop, Shut (∀ a w, S w → (S w → wpAnyH P md ops Q S fuel l' a w) → K' a w) → if Region.wanted o (yielded ops a.tmps) = true then Oper.wp P o a w K' Q else K' (a.put o.dst undef) w)
    (h2 : ∀ K' : Act → World → Prop, Shut (∀ a w, S w → (S w → wpAnyH P md ops Q S fuel l2 a w) → K' a w) → if Region.wanted o2 (yielded ops a.tmps) = true then Oper.wp P o2 a w K' Q else K' (a.put o2.dst undef) w)
    (hr : Region.ready md ops l = [i, j] := by kernel_rfl) (ho : ops[i]? = some o := by rfl) (ho2 : ops[j]? = some o2 := by rfl)
    (hl : l.setIfInBounds i true = l' := by (first | (simp only [List.setIfInBounds_toArray, List.set_cons_zero, List.set_cons_succ]; rfl) | rfl))
    (hl2 : l.setIfInBounds j true = l2 := by (first | (simp only [List.setIfInBounds_toArray, List.set_cons_zero, List.set_cons_succ]; rfl) | rfl)) : wpAnyH P md ops Q S (fuel + 1) l a w := by
  subst hl hl2
  exact wpAnyH_ready hr (by simp) (AllReadyH.cons ho h (AllReadyH.cons ho2 h2 AllReadyH.nil))

theorem ko {P : Program} {ops : Array Oper} {Q : Exit → Act → World → Prop} {md : Region.Mode} {S : World → Prop} {fuel : Nat} {l : Array Bool} {a a' : Act} {w : World} {K : Act → World → Prop}
    (hK : Shut (∀ a w, S w → (S w → wpAnyH P md ops Q S fuel l a w) → K a w)) (hS : S w) (h : S w → wpAnyH P md ops Q S fuel l a' w)
    (ha : a = a' := by (first | (simp only [Act.put, List.getElem_toArray, List.getElem_cons_succ, List.getElem_cons_zero, List.setIfInBounds_toArray, List.set_cons_zero, List.set_cons_succ]; rfl) | rfl)) : K a w := by
  subst ha
  exact hK.out _ _ hS h

end Go.Proofs.YtldheeicjnncoaaGreat
namespace Go.Proofs.YtldheeicjnncoaaGreat
open Go.RowKit

section
variable {P : Pr}
theorem prd_all (G : Grp P) : ((prd P (fun _ => True) P.orders.length 0 : Nat) : Int) = ordP P := by
  have key : ∀ k, k ≤ P.orders.length → ((prF P (fun _ => True) k : Nat) : Int) = prodTo P.orders k := by
    intro k
    induction k with
    | zero => intro _; rfl
    | succ k ih =>
      intro h
      obtain ⟨q, h1, h2, h3⟩ := ordN G (show k < P.orders.length by omega)
      rw [prF_succ, if_pos trivial, Int.natCast_mul, ih (by omega), h2, prodTo, h1]
  exact key _ (Nat.le_refl _)
end

end Go.Proofs.YtldheeicjnncoaaGreat
namespace Go.Proofs.YtldheeicjnncoaaGreat
open Go.RowKit

section
variable {P : Pr}
theorem szR_prF (p : Nat → Bool) : ∀ k, szR P ((List.range k).filter p).reverse = prF P (fun d => p d = true) k
  | 0 => rfl
  | k + 1 => by
    rw [List.range_succ, List.filter_append, List.reverse_append, prF_succ]
    by_cases h : p k = true
    · rw [List.filter_cons_of_pos h, List.filter_nil, List.reverse_singleton, List.singleton_append, if_pos h]
      show szR P _ * ordN' P k = _
      rw [szR_prF p k]; rfl
    · rw [List.filter_cons_of_neg h, List.filter_nil, List.reverse_nil, List.nil_append, if_neg h, Nat.mul_one, szR_prF p k]
theorem pvU_dep (G : Grp P) {U : List (List Int)} (h : SubB P U) (d : Nat) : pvU G U d ↔ d ∈ U.map dep := by
  have S := G.subB h
  obtain ⟨h1, h2, h3⟩ := G.seq_facts S
  have e : cseq P (gP P U) = U := h.2.symm
  rw [e] at h1 h2 h3
  constructor
  · rintro ⟨hd, x, hx, hT, h0⟩
    obtain ⟨j, hj, hjd⟩ := h3 x.1 hx d hd (dT_T.1 hT) h0
    exact List.mem_map.2 ⟨_, gt_mem hj, hjd⟩
  · intro hm
    obtain ⟨z, hz, rfl⟩ := List.mem_map.1 hm
    obtain ⟨hv, hlt, h1z⟩ := h1.1 z hz
    exact ⟨hlt, ⟨z, hv⟩, h2 z hz, dT_T.2 (dep_T hv), by show gt z (dep z) ≠ 0; rw [h1z]; decide⟩
/-- the order is the order of a subgroup times its index -/
theorem idx_mul (G : Grp P) {U : List (List Int)} (h : SubB P U) : ordP P = prodU P U U.length * ((szR P (frI P U).reverse : Nat) : Int) := by
  have e1 : szR P (frI P U).reverse = prd P (fun d => ¬ pvU G U d) P.orders.length 0 := by
    unfold frI
    rw [szR_prF]
    exact prd_congr _ _ (fun k _ _ => by rw [pvU_dep G h]; simp)
  rw [ordU G h, e1, ← Int.natCast_mul, prd_mul _ _ (fun k _ _ hk hh => hh hk)]
  rw [← prd_all G, Int.natCast_inj]
  exact prd_congr _ _ (fun k _ _ => ⟨fun _ => Classical.em _, fun _ => trivial⟩)
end

end Go.Proofs.YtldheeicjnncoaaGreat
namespace Go.Proofs.YtldheeicjnncoaaGreat
open Go.RowKit

def oneOk (P : Pr) (U : List (List Int)) : Prop := rconsB P = true ∧ SubB P U

end Go.Proofs.YtldheeicjnncoaaGreat
namespace Go.Proofs.YtldheeicjnncoaaGreat
open Go.RowKit

/-- a sequence of a subgroup and an element -/
def crOk (P : Pr) (U : List (List Int)) (X : List Int) : Prop := oneOk P U ∧ Vec P.orders X
/-- what the one representative of a left coset is -/
def IsRep (P : Pr) (U : List (List Int)) (X Y : List Int) : Prop := Rep P (gU P U) (gt (tabTo (cseq P (gU P U)) P.orders.length (cseq P (gU P U)).length)) X Y

theorem Grp.rep_of_to {P : Pr} (G : Grp P) {U : List (List Int)} (hU : SubB P U) {X Y : List Int} (h : RepTo P (cseq P (gU P U)) X (cseq P (gU P U)).length Y) : IsRep P U X Y := by
  have S := G.subB hU
  have hf := G.seq_facts S
  refine ⟨h.vec, h.cos _ S hf.2.1, fun e he hne => ?_⟩
  obtain ⟨m1, m2, m3⟩ := (G.ind_tab S).mem e he hne
  obtain ⟨j, hj, hd⟩ := hf.2.2 _ m1 e he m2 (by rw [m3]; decide)
  rw [← hd]; exact h.zer j hj

theorem Grp.isRep_one {P : Pr} (G : Grp P) {U : List (List Int)} (hU : SubB P U) {X Y Y' : List Int} (hX : Vec P.orders X) (h : IsRep P U X Y) (h' : IsRep P U X Y') : Y = Y' :=
  G.rep_one (G.ind_tab (G.subB hU)) hX h h'

open Classical in
noncomputable def crV (P : Pr) (U : List (List Int)) (X : List Int) : List Int := if h : crOk P U X ∧ ∃ Y, IsRep P U X Y then Classical.choose h.2 else []
theorem cr_ok {P : Pr} {U : List (List Int)} {X Y : List Int} (h : crOk P U X) (hY : IsRep P U X Y) : crV P U X = Y := by
  have hh : crOk P U X ∧ ∃ Y, IsRep P U X Y := ⟨h, Y, hY⟩
  unfold crV
  rw [dif_pos hh]
  exact (grp_of_r h.1.1).isRep_one h.1.2 h.2 (Classical.choose_spec hh.2) hY
theorem cr_is {P : Pr} {U : List (List Int)} {X : List Int} (h : crOk P U X) : IsRep P U X (crV P U X) := by
  have G := grp_of_r h.1.1
  obtain ⟨Y, hY⟩ := G.rep_ex (G.ind_tab (G.subB h.1.2)) h.2
  rw [cr_ok h hY]; exact hY

end Go.Proofs.YtldheeicjnncoaaGreat
namespace Go.Proofs.YtldheeicjnncoaaGreat
open Go.RowKit

section
variable {P : Pr} (G : Grp P)
include G

theorem Grp.isRep_zr {U : List (List Int)} (hU : SubB P U) {X Y : List Int} (h : IsRep P U X Y) : Zr P U Y := by
  have S := G.subB hU
  obtain ⟨h1, _, _⟩ := G.seq_facts S
  have e : cseq P (gU P U) = U := hU.2.symm
  rw [e] at h1
  refine ⟨h.1, fun j hj => ?_⟩
  have hd : dep (gt U j) < P.orders.length := (h1.1 _ (gtMem hj)).2.1
  refine h.2.2 _ hd ?_
  show gt (tabTo (cseq P (gU P U)) P.orders.length (cseq P (gU P U)).length) (dep (gt U j)) ≠ []
  rw [e]
  rcases tabTo_at P U U.length (Nat.le_refl _) _ hd with ⟨_, h2⟩ | ⟨k, hk, hkd, he⟩
  · exact absurd rfl (h2 j hj)
  · rw [he]
    intro hc
    have hv := (h1.1 _ (gtMem hk)).1.1
    rw [hc] at hv
    simp at hv
    omega

end

end Go.Proofs.YtldheeicjnncoaaGreat
namespace Go.Proofs.YtldheeicjnncoaaGreat

/-- the word of the first k entries of a vector -/
def nWord (e : List Int) : Nat → List Int
  | 0 => []
  | k + 1 => nWord e k ++ List.replicate (gt e k).toNat ((k : Int) + 1)
theorem nWord_len {e : List Int} (h : ∀ i, gt e i ≤ 7) : ∀ k, (nWord e k).length ≤ 7 * k
  | 0 => by simp [nWord]
  | k + 1 => by
    have := nWord_len h k
    have := h k
    simp only [nWord, List.length_append, List.length_replicate]; omega
section
variable {Q : Pr} (G : Grp Q)
include G

end

end Go.Proofs.YtldheeicjnncoaaGreat
namespace Go.Proofs.YtldheeicjnncoaaGreat

section
variable {α : Type} {m : α → α → α} {e : α} {P : Pr} {h : Nat → α}

theorem npr_skip {x : List Int} {i f : Nat} (hx : ∀ k, k < i → gt x k = 0) : npr m h x 0 e (i + f) = npr m h x i e f := by
  unfold npr
  rw [acc_split, acc_zero _ x 0 e i (fun l _ b => hx l (by omega)), Nat.zero_add]
theorem npr_skip2 {x : List Int} {i j f : Nat} (hij : i ≤ j) (hx : ∀ k, i ≤ k → k < j → gt x k = 0) : npr m h x i e ((j - i) + f) = npr m h x j e f := by
  unfold npr
  rw [acc_split, acc_zero _ x i e (j - i) (fun l a b => hx l a (by omega)), show i + (j - i) = j by omega]
theorem npr_unit (M : MonOn (fun _ : α => True) m e) {n i J : Nat} (hi : i ≤ J) (hJ : J < n) : npr m h (unitV n J) i e (n - i) = h J := by
  rw [npr_three M hi hJ (fun _ _ _ => trivial), gt_unit n J J hJ, if_pos rfl]
  have e1 : npr m h (unitV n J) i e (J - i) = e := acc_zero _ _ _ _ _ (fun l a b => by rw [gt_unit n J l (by omega), if_neg (by omega)])
  have e2 : npr m h (unitV n J) (J + 1) e (n - (J + 1)) = e := acc_zero _ _ _ _ _ (fun l a b => by rw [gt_unit n J l (by omega), if_neg (by omega)])
  rw [e1, e2, M.er _ trivial]
  show m e (m e (h J)) = h J
  rw [M.el _ trivial, M.el _ trivial]

/-- a power of one member drawn through another -/
theorem pow_thru (M : MonOn (fun _ : α => True) m e) {a b c : α} (H : m a b = m b c) (k : Nat) : m (iter k (fun y => m y a) e) b = m b (iter k (fun y => m y c) e) := by
  induction k with
  | zero => show m e b = m b e; rw [M.el _ trivial, M.er _ trivial]
  | succ k ih =>
    show m (m (iter k (fun y => m y a) e) a) b = m b (m (iter k (fun y => m y c) e) c)
    rw [M.ass _ _ _ trivial trivial trivial, H, ← M.ass _ _ _ trivial trivial trivial, ih, M.ass _ _ _ trivial trivial trivial]
theorem braid (M : MonOn (fun _ : α => True) m e) {a b c x y z z' : α} (k1 : m a c = m c x) (k2 : m b c = m c y) (k3 : m a b = m b z) (k4 : m z c = m c z') : m c (m x y) = m c (m y z') := by
  have A := fun x y z => M.ass x y z trivial trivial trivial
  calc m c (m x y) = m (m c x) y := (A c x y).symm
    _ = m (m a c) y := by rw [k1]
    _ = m a (m c y) := A a c y
    _ = m a (m b c) := by rw [k2]
    _ = m (m a b) c := (A a b c).symm
    _ = m (m b z) c := by rw [k3]
    _ = m b (m z c) := A b z c
    _ = m b (m c z') := by rw [k4]
    _ = m (m b c) z' := (A b c z').symm
    _ = m (m c y) z' := by rw [k2]
    _ = m c (m y z') := A c y z'

theorem real_level (hP : Valid P) (M : MonOn (fun _ : α => True) m e) (H : Holds P (fun _ => True) m e h 0)
    (canc : ∀ j, j < P.orders.length → ∀ a b, m (h j) a = m (h j) b → a = b)
    (inj : ∀ x y, Vec P.orders x → Vec P.orders y → npr m h x 0 e P.orders.length = npr m h y 0 e P.orders.length → x = y)
    {f i : Nat} (hi : i + (f + 1) = P.orders.length) (L : Lvl P f (i + 1)) : RLevel P f i := by
  have hin : i < P.orders.length := by omega
  have hf : P.orders.length - (i + 1) = f := by omega
  have hT : ∀ x y, T P (i + 1) x → T P (i + 1) y → npr m h x (i + 1) e f = npr m h y (i + 1) e f → x = y := fun x y hx hy he => by
    refine inj x y hx.1 hy.1 ?_
    have hn : P.orders.length = (i + 1) + f := by omega
    rw [hn, npr_skip (fun k hk => hx.2 k hk), npr_skip (fun k hk => hy.2 k hk), he]
  have vd : ∀ A B, Vec P.orders A → Vec P.orders B → npr m h (rAt P f (i + 1) A B) (i + 1) e f = m (npr m h A (i + 1) e f) (npr m h B (i + 1) e f) := vd_at hP M f (i + 1) (by omega) (H.up (by omega))
  have vi : ∀ x, m (npr m h x (i + 1) e f) (h i) = m (h i) (npr m h (rImage P f i x) (i + 1) e f) := vd_image hP M hi (H.up (by omega)) vd
  have np : ∀ J, i ≤ J → J < P.orders.length → npr m h (gt P.powers J) (i + 1) e f = iter (gt P.orders J).toNat (fun y => m y (h J)) e := fun J a b => by
    rw [H.pw J (by omega) b]
    have e1 : f = (J + 1 - (i + 1)) + (P.orders.length - (J + 1)) := by omega
    rw [e1, npr_skip2 (by omega) (fun k _ hk => (hP.pv J b).2 k (by omega))]
  have nu : ∀ J, i < J → J < P.orders.length → npr m h (unitV P.orders.length J) (i + 1) e f = h J := fun J a b => by
    have := npr_unit (h := h) M (n := P.orders.length) (i := i + 1) (J := J) (by omega) b
    rwa [hf] at this
  have cj : ∀ J K, i ≤ J → J < K → K < P.orders.length → m (h K) (h J) = m (h J) (npr m h (gt (gt P.conj J) (K - J - 1)) (i + 1) e f) := fun J K a b c => by
    rw [H.cj J K (by omega) b c]
    have e1 : f = (J + 1 - (i + 1)) + (P.orders.length - (J + 1)) := by omega
    rw [e1, npr_skip2 (by omega) (fun k _ hk => (cj_T hP b c).2 k (by omega))]
  have hc : ∀ J, i < J → J < P.orders.length → T P (i + 1) (gt (gt P.conj i) (J - i - 1)) := fun J a b => cj_T hP a b
  have hpow : ∀ x, Vec P.orders x → ∀ k, Vec P.orders (iter k (fun y => rAt P f (i + 1) y x) (zeros P.orders.length)) ∧ npr m h (iter k (fun y => rAt P f (i + 1) y x) (zeros P.orders.length)) (i + 1) e f = iter k (fun y => m y (npr m h x (i + 1) e f)) e := fun x hx k => by
    induction k with
    | zero => exact ⟨zeros_vec hP, acc_zero _ _ _ _ _ (fun j _ _ => gt_replicate _ _)⟩
    | succ k ih =>
      refine ⟨rAt_vec hP f (i + 1) _ _ (by omega) ih.1 hx, ?_⟩
      show npr m h (rAt P f (i + 1) _ x) (i + 1) e f = m _ _
      rw [vd _ _ ih.1 hx, ih.2]
  have hpT : ∀ x, T P (i + 1) x → ∀ k, T P (i + 1) (iter k (fun y => rAt P f (i + 1) y x) (zeros P.orders.length)) := fun x hx k => iter_inv (T P (i + 1)) _ (fun y hy => L.grp.cl _ _ hy hx) _ _ (T.zeros hP _)
  have him : ∀ x k, m (npr m h x (i + 1) e f) (iter k (fun y => m y (h i)) e) = m (iter k (fun y => m y (h i)) e) (npr m h (iter k (fun x => rImage P f i x) x) (i + 1) e f) := fun x k => by
    induction k with
    | zero =>
      show m (npr m h x (i + 1) e f) e = m e (npr m h x (i + 1) e f)
      rw [M.er _ trivial, M.el _ trivial]
    | succ k ih =>
      show m _ (m (iter k (fun y => m y (h i)) e) (h i)) = m (m (iter k (fun y => m y (h i)) e) (h i)) (npr m h (rImage P f i (iter k (fun x => rImage P f i x) x)) (i + 1) e f)
      rw [← M.ass _ _ _ trivial trivial trivial, ih, M.ass _ _ _ trivial trivial trivial, vi, M.ass _ _ _ trivial trivial trivial]
  have hiT : ∀ x, T P (i + 1) x → ∀ k, T P (i + 1) (iter k (fun x => rImage P f i x) x) := fun x hx k => iter_inv (T P (i + 1)) _ (fun y _ => rImage_T hP hi y) _ _ hx
  refine ⟨fun J a b => ?_, fun J K a b c => ?_, ?_, fun J a b => ?_⟩
  · show rRep (rAt P f (i + 1)) (zeros P.orders.length) (gt (gt P.conj i) (J - i - 1)) (gt P.orders J).toNat = rImage P f i (gt P.powers J)
    rw [L.rRep_eq (hc J a b)]
    refine hT _ _ (hpT _ (hc J a b) _) (rImage_T hP hi _) (canc i hin _ _ ?_)
    rw [(hpow _ (hc J a b).1 _).2, ← vi, np J (by omega) b]
    exact (pow_thru M (cj i J (Nat.le_refl _) a b) _).symm
  · have tK := hc K (by omega) c
    have tJ := hc J a (by omega)
    have tI := rImage_T hP hi (gt (gt P.conj J) (K - J - 1))
    refine hT _ _ (L.grp.cl _ _ tK tJ) (L.grp.cl _ _ tJ tI) (canc i hin _ _ ?_)
    rw [vd _ _ tK.1 tJ.1, vd _ _ tJ.1 tI.1]
    exact braid M (cj i K (Nat.le_refl _) (by omega) c) (cj i J (Nat.le_refl _) a (by omega)) (cj J K (by omega) b c) (vi _)
  · refine hT _ _ (rImage_T hP hi _) (pw_T hP hin) (canc i hin _ _ ?_)
    rw [← vi, np i (Nat.le_refl _) hin]
    exact pow_thru M rfl _
  · have tP := pw_T hP hin
    have tU := T.unit hP (i := i + 1) (j := J) (by omega) b
    refine hT _ _ (L.grp.cl _ _ tP (hiT _ tU _)) (L.grp.cl _ _ tU tP) ?_
    rw [vd _ _ tP.1 (hiT _ tU _).1, vd _ _ tU.1 tP.1, np i (Nat.le_refl _) hin, him]

theorem real_all (hP : Valid P) (M : MonOn (fun _ : α => True) m e) (H : Holds P (fun _ => True) m e h 0)
    (canc : ∀ j, j < P.orders.length → ∀ a b, m (h j) a = m (h j) b → a = b)
    (inj : ∀ x y, Vec P.orders x → Vec P.orders y → npr m h x 0 e P.orders.length = npr m h y 0 e P.orders.length → x = y) :
    ∀ f k, k + f = P.orders.length → ∀ j, k ≤ j → j < P.orders.length → RLevel P (P.orders.length - 1 - j) j
  | 0, k, hk, j, a, b => by omega
  | f + 1, k, hk, j, a, b => by
    by_cases hjk : j = k
    · subst hjk
      have L := lvl_of_R hP f (j + 1) (by omega) (fun q a' b' => real_all hP M H canc inj f (j + 1) (by omega) q a' b')
      have e2 : P.orders.length - 1 - j = f := by omega
      rw [e2]; exact real_level hP M H canc inj hk L
    · exact real_all hP M H canc inj f (k + 1) (by omega) j (by omega) b

open Classical in
theorem real_cons (hP : Valid P) (M : MonOn (fun _ : α => True) m e) (H : Holds P (fun _ => True) m e h 0)
    (canc : ∀ j, j < P.orders.length → ∀ a b, m (h j) a = m (h j) b → a = b)
    (inj : ∀ x y, Vec P.orders x → Vec P.orders y → npr m h x 0 e P.orders.length = npr m h y 0 e P.orders.length → x = y) : rconsB P = true := by
  unfold rconsB
  exact decide_eq_true ⟨hP, fun k hk => real_all hP M H canc inj P.orders.length 0 (by omega) k (by omega) hk⟩

/-! ### words -/

end

/-! ### bijections -/

theorem gt_range {n t : Nat} (h : t < n) : gt (List.range n) t = t := by simp [gt, h]
end Go.Proofs.YtldheeicjnncoaaGreat
namespace Go.Proofs.YtldheeicjnncoaaGreat
open Go.RowKit

/-- the index -/
def ixN (P : Pr) (U : List (List Int)) : Nat := szR P (frI P U).reverse
section
variable {P : Pr} (G : Grp P)
include G

theorem Grp.ix_mul {U : List (List Int)} (hU : SubB P U) : ((ixN P U : Nat) : Int) * prodU P U U.length = ordP P := by
  rw [Int.mul_comm]; exact (Go.Proofs.YtldheeicjnncoaaGreat.idx_mul G hU).symm
end

end Go.Proofs.YtldheeicjnncoaaGreat
namespace Go.Proofs.YtldheeicjnncoaaGreat

/-! ### the value in a group -/
section
variable {P : Pr} (G : Grp P)

theorem el_mon : MonOn (fun _ : El G => True) (· * ·) 1 := ⟨fun _ _ _ _ => trivial, trivial, fun x y z _ _ _ => El.ass x y z, fun x _ => El.ol x, fun x _ => El.or x⟩
/-- the generators as elements -/
def gE (j : Nat) : El G := ⟨unitV P.orders.length j, unitV_vec G.v j⟩
theorem npr_val (x : List Int) (i : Nat) : ∀ k, (npr (· * ·) (gE G) x i 1 k).1 = npr (rMul P) (unitV P.orders.length) x i (zeros P.orders.length) k
  | 0 => rfl
  | k + 1 => by
    have ih := npr_val x i k
    unfold npr at ih ⊢
    rw [acc, acc, ← ih]
    generalize acc (fun (y : El G) j => y * gE G j) x i 1 k = z
    induction (gt x (i + k)).toNat with
    | zero => rfl
    | succ m ihm =>
      show rMul P (iter m (fun y => y * gE G (i + k)) z).1 (unitV P.orders.length (i + k)) = _
      rw [ihm]; rfl
theorem el_holds : Holds P (fun _ : El G => True) (· * ·) 1 (gE G) 0 := by
  refine ⟨fun _ _ _ => trivial, fun j a b => ?_, fun j k a b c => ?_⟩
  · apply Subtype.ext
    rw [npr_val, ← G.rel.pw j a b]
    induction (gt P.orders j).toNat with
    | zero => rfl
    | succ m ihm =>
      show rMul P (iter m (fun y => y * gE G j) 1).1 (unitV P.orders.length j) = _
      rw [ihm]; rfl
  · apply Subtype.ext
    have := G.rel.cj j k a b c
    rw [← npr_val G] at this
    exact this
theorem el_nf {x : List Int} (hx : Vec P.orders x) : (npr (· * ·) (gE G) x 0 1 P.orders.length).1 = x := by rw [npr_val]; exact G.nf hx

end

/-! ### normal words -/

end Go.Proofs.YtldheeicjnncoaaGreat
namespace Go.Proofs.YtldheeicjnncoaaGreat
open Go.RowKit

/-- append of one value to a row of the call's own -/
theorem wp_app_v (T E : Nat) (z : Value) (bytes : Nat) (hT : Tryz.prog.underlying T = some (.slice E)) (hE : (Tryz.prog.info? E).map (fun i => (i.zero, i.size, i.bytes)) = some (some z, 1, bytes))
    (hzs : z.cells.size = 1) (hbt : bytes ≤ 64) {ops : Array Oper} {rest : List Oper} {o : Oper} {a : Act} {Q : Exit → Act → World → Prop} {w : World} (hgd : o.guard = none) (s x : Operand)
    (ho : o.op = Op.call { callee := Callee.builtin Builtin.append, args := #[s, x], argTypes := #[T, T] }) (base : Nat) (w1 : World) (v u : Value) (xs : List Value) (hs : a.eval s = v) (hown : OwnV base E w1 v xs)
    (hw : w = w1.alloc (.cells #[u] E)) (hu : u.oneCell' = true) (hx : a.eval x = .slice (some ⟨w1.heap.size, 0, none⟩) 1 1) (hlen : xs.length ≤ 1000000) (hbase : base ≤ w1.heap.size)
    (h : ∀ v' w', OwnV base E w' v' (xs ++ [u]) → w1.grownBy w' v.ownBlock → wpList Tryz.prog ops Q rest (a.put o.dst v') w') :
    wpList Tryz.prog ops Q (o :: rest) a w := by
  subst hw
  have hga : Ext w1 (w1.alloc (.cells #[u] E)) := World.grownBy_alloc _ _ _
  refine wp_app T E z bytes hT hE hzs hbt hgd s x ho base v xs hs (hown.kept hga (by cases hv : v.ownBlock <;> simp)) (some ⟨w1.heap.size, 0, none⟩) 1 1 [u] hx rfl (by simp) ?_ ?_ (by omega) (by have := hga.size; omega) ?_
  · intro j hj
    have : j = 0 := by omega
    subst this
    exact ⟨_, _, rfl, by rw [World.cell?_alloc_at _ _ _ _ rfl]; rfl⟩
  · intro u' hu'
    simp at hu'; subst hu'; exact hu
  · intro v' w' h1 h2 _ _
    exact h v' w' h1 (grown_trans (grown_of_ext _ hga) h2)

theorem wp_app_int {ops : Array Oper} {rest : List Oper} {o : Oper} {a : Act} {Q : Exit → Act → World → Prop} {w : World} (hgd : o.guard = none) (s x : Operand)
    (ho : o.op = Op.call { callee := Callee.builtin Builtin.append, args := #[s, x], argTypes := #[24, 24] }) (B : Nat) (v : Value) (l : List Int) (y : Int) (hs : a.eval s = v) (w2 : World) (hown : Own B w2 v l)
    (hw : w = w2.alloc (.cells #[.int .i64 y] 2)) (hx : a.eval x = .slice (some ⟨w2.heap.size, 0, none⟩) 1 1) (hlen : l.length ≤ 1000000) (hbase : B ≤ w2.heap.size)
    (h : ∀ v' w', Own B w' v' (l ++ [y]) → w2.grownBy w' v.ownBlock → wpList Tryz.prog ops Q rest (a.put o.dst v') w') :
    wpList Tryz.prog ops Q (o :: rest) a w :=
  wp_app_v 24 2 (.int .i64 0) 8 und_ints Tryz.infoInt rfl (by decide) hgd s x ho B w2 v (.int .i64 y) (l.map (Value.int .i64)) hs hown.v hw rfl hx (by rw [List.length_map]; exact hlen) hbase
    (fun v' w' h1 h2 => h v' w' (Own.of (by rw [List.map_append]; exact h1)) h2)

/-- the same; and where the new row lies -/
theorem wp_app_vb (T E : Nat) (z : Value) (bytes : Nat) (hT : Tryz.prog.underlying T = some (.slice E)) (hE : (Tryz.prog.info? E).map (fun i => (i.zero, i.size, i.bytes)) = some (some z, 1, bytes))
    (hzs : z.cells.size = 1) (hbt : bytes ≤ 64) {ops : Array Oper} {rest : List Oper} {o : Oper} {a : Act} {Q : Exit → Act → World → Prop} {w : World} (hgd : o.guard = none) (s x : Operand)
    (ho : o.op = Op.call { callee := Callee.builtin Builtin.append, args := #[s, x], argTypes := #[T, T] }) (base : Nat) (w1 : World) (v u : Value) (xs : List Value) (hs : a.eval s = v) (hown : OwnV base E w1 v xs)
    (hw : w = w1.alloc (.cells #[u] E)) (hu : u.oneCell' = true) (hx : a.eval x = .slice (some ⟨w1.heap.size, 0, none⟩) 1 1) (hlen : xs.length ≤ 1000000) (hbase : base ≤ w1.heap.size)
    (h : ∀ v' w', OwnV base E w' v' (xs ++ [u]) → w1.grownBy w' v.ownBlock → (v'.ownBlock = v.ownBlock ∨ ∀ k, v'.ownBlock = some k → w1.heap.size ≤ k) → wpList Tryz.prog ops Q rest (a.put o.dst v') w') :
    wpList Tryz.prog ops Q (o :: rest) a w := by
  subst hw
  have hga : Ext w1 (w1.alloc (.cells #[u] E)) := World.grownBy_alloc _ _ _
  refine wp_app T E z bytes hT hE hzs hbt hgd s x ho base v xs hs (hown.kept hga (by cases hv : v.ownBlock <;> simp)) (some ⟨w1.heap.size, 0, none⟩) 1 1 [u] hx rfl (by simp) ?_ ?_ (by omega) (by have := hga.size; omega) ?_
  · intro j hj
    have : j = 0 := by omega
    subst this
    exact ⟨_, _, rfl, by rw [World.cell?_alloc_at _ _ _ _ rfl]; rfl⟩
  · intro u' hu'
    simp at hu'; subst hu'; exact hu
  · intro v' w' h1 h2 _ h4
    exact h v' w' h1 (grown_trans (grown_of_ext _ hga) h2) (h4.elim .inl (fun e => .inr (fun k hk => by rw [e] at hk; cases hk; exact hga.size)))

theorem wp_app_intb {ops : Array Oper} {rest : List Oper} {o : Oper} {a : Act} {Q : Exit → Act → World → Prop} {w : World} (hgd : o.guard = none) (s x : Operand)
    (ho : o.op = Op.call { callee := Callee.builtin Builtin.append, args := #[s, x], argTypes := #[24, 24] }) (B : Nat) (v : Value) (l : List Int) (y : Int) (hs : a.eval s = v) (w2 : World) (hown : Own B w2 v l)
    (hw : w = w2.alloc (.cells #[.int .i64 y] 2)) (hx : a.eval x = .slice (some ⟨w2.heap.size, 0, none⟩) 1 1) (hlen : l.length ≤ 1000000) (hbase : B ≤ w2.heap.size)
    (h : ∀ v' w', Own B w' v' (l ++ [y]) → w2.grownBy w' v.ownBlock → (v'.ownBlock = v.ownBlock ∨ ∀ k, v'.ownBlock = some k → w2.heap.size ≤ k) → wpList Tryz.prog ops Q rest (a.put o.dst v') w') :
    wpList Tryz.prog ops Q (o :: rest) a w :=
  wp_app_vb 24 2 (.int .i64 0) 8 und_ints Tryz.infoInt rfl (by decide) hgd s x ho B w2 v (.int .i64 y) (l.map (Value.int .i64)) hs hown.v hw rfl hx (by rw [List.length_map]; exact hlen) hbase
    (fun v' w' h1 h2 h3 => h v' w' (Own.of (by rw [List.map_append]; exact h1)) h2 h3)

end Go.Proofs.YtldheeicjnncoaaGreat
namespace Go.Proofs.YtldheeicjnncoaaGreat
open Go.RowKit

/-- the exponents of a coset -/
noncomputable def prjV (P : Pr) (U : List (List Int)) (X : List Int) : List Int := (frI P U).map (fun i => gt (crV P U X) i)
/-- the presentation of the quotient -/
noncomputable def quoP (P : Pr) (U : List (List Int)) : Pr :=
  { orders := (frI P U).map (fun i => gt P.orders i)
    powers := (frI P U).map (fun i => prjV P U (pw P (unitV P.orders.length i) (gt P.orders i).toNat))
    conj := (List.range (frI P U).length).map (fun k => ((frI P U).drop (k + 1)).map (fun j => prjV P U (rConj P (unitV P.orders.length j) (unitV P.orders.length (gt (frI P U) k))))) }

theorem fr_mem {P : Pr} {U : List (List Int)} {i : Nat} : i ∈ frI P U ↔ i < P.orders.length ∧ i ∉ U.map dep := by
  unfold frI
  rw [List.mem_filter, List.mem_range]
  simp
theorem fr_at {P : Pr} {U : List (List Int)} {k : Nat} (hk : k < (frI P U).length) : gt (frI P U) k < P.orders.length ∧ gt (frI P U) k ∉ U.map dep := by
  refine fr_mem.1 ?_
  simp only [gt, List.getD_eq_getElem?_getD, List.getElem?_eq_getElem hk, Option.getD_some]
  exact List.getElem_mem hk
theorem fr_mono {P : Pr} {U : List (List Int)} {k l : Nat} (hkl : k < l) (hl : l < (frI P U).length) : gt (frI P U) k < gt (frI P U) l := by
  have h : (frI P U).Pairwise (· < ·) := List.pairwise_lt_range.filter _
  have := List.pairwise_iff_getElem.1 h k l (by omega) hl hkl
  simp only [gt, List.getD_eq_getElem?_getD, List.getElem?_eq_getElem hl, List.getElem?_eq_getElem (show k < (frI P U).length by omega), Option.getD_some]
  exact this
theorem gt_prj {P : Pr} {U : List (List Int)} {X : List Int} {k : Nat} (hk : k < (frI P U).length) : gt (prjV P U X) k = gt (crV P U X) (gt (frI P U) k) := by
  unfold prjV
  rw [gt_map _ _ _ hk]
theorem gt_quoO {P : Pr} {U : List (List Int)} {k : Nat} (hk : k < (frI P U).length) : gt (quoP P U).orders k = gt P.orders (gt (frI P U) k) := by
  show gt ((frI P U).map _) k = _
  rw [gt_map _ _ _ hk]
theorem quo_n (P : Pr) (U : List (List Int)) : (quoP P U).orders.length = (frI P U).length := by
  show ((frI P U).map _).length = _
  rw [List.length_map]

section
variable {P : Pr} (G : Grp P)
include G
omit G in
theorem prj_vec {U : List (List Int)} (hr : rconsB P = true) (hU : SubB P U) {X : List Int} (hX : Vec P.orders X) : Vec (quoP P U).orders (prjV P U X) := by
  have hi := cr_is (P := P) (U := U) (X := X) ⟨⟨hr, hU⟩, hX⟩
  refine ⟨by rw [quo_n]; unfold prjV; rw [List.length_map], fun k hk => ?_⟩
  rw [quo_n] at hk
  rw [gt_prj hk, gt_quoO hk]
  exact hi.1.2 _ (fr_at hk).1
/-- a representative begins where the element begins, or later -/
theorem cr_zero {U : List (List Int)} (hr : rconsB P = true) (hU : SubB P U) {X : List Int} (hX : Vec P.orders X) {d : Nat} (hz : ZeroTo d X) : ZeroTo d (crV P U X) := by
  have hi := cr_is (P := P) (U := U) (X := X) ⟨⟨hr, hU⟩, hX⟩
  obtain ⟨hYv, hZ, hp⟩ := hi
  have I := G.ind_tab (G.subB hU)
  generalize crV P U X = Y at *
  have hXi := G.invV hX
  have e1 : rMul P X (rMul P (rInv P X) Y) = Y := by rw [← G.ass hX hXi hYv, G.mul_inv hX, G.grp.el _ hYv]
  by_cases hz0 : rMul P (rInv P X) Y = zeros P.orders.length
  · rw [hz0, G.grp.er _ hX] at e1
    rw [← e1]; exact hz
  · have hzv := I.sub.vec _ hZ
    obtain ⟨e, he, hT, h0⟩ := depth_ex hzv hz0
    have hpv := I.piv _ hZ e he hT h0
    have h2 := G.right (Nat.le_of_lt he) hX hT
    rw [e1] at h2
    have hYe := hp e he hpv
    have hed : d < e := by
      rcases Nat.lt_or_ge d e with h | h
      · exact h
      · exfalso
        have h3 := h2.2 he
        rw [hYe, hz e h, Int.zero_add] at h3
        have hb := hzv.2 e he
        rw [Int.emod_eq_of_lt hb.1 hb.2] at h3
        exact h0 h3.symm
    intro k hk
    rw [h2.1 k (by omega)]; exact hz k hk
/-- the power of a generator is the presentation's -/
theorem pw_unit {i : Nat} (hi : i < P.orders.length) : pw P (unitV P.orders.length i) (gt P.orders i).toNat = gt P.powers i := by
  have hP := G.v
  have k1 := (el_holds G).pw i (Nat.zero_le _) hi
  have e2 : P.orders.length = (i + 1) + (P.orders.length - (i + 1)) := by omega
  have k2 := npr_skip (m := fun a b : El G => a * b) (h := gE G) (e := (1 : El G)) (x := gt P.powers i) (i := i + 1) (f := P.orders.length - (i + 1)) (fun l hl => (hP.pv i hi).2 l (by omega))
  rw [← e2] at k2
  rw [← k2] at k1
  have k3 : iter (gt P.orders i).toNat (fun y => y * gE G i) 1 = npr (· * ·) (gE G) (gt P.powers i) 0 1 P.orders.length := k1
  have k4 := congrArg Subtype.val k3
  rw [el_nf G (hP.pv i hi).1] at k4
  rw [← k4]
  induction (gt P.orders i).toNat with
  | zero => rfl
  | succ m ih => rw [pw_succ, ih]; rfl
/-- the conjugate of a generator is the presentation's -/
theorem cj_unit {i k : Nat} (hi : i + k + 1 < P.orders.length) : rConj P (unitV P.orders.length (i + k + 1)) (unitV P.orders.length i) = gt (gt P.conj i) k := by
  have hP := G.v
  have k1 := (el_holds G).cj i (i + k + 1) (Nat.zero_le _) (by omega) (by omega)
  have e2 : P.orders.length = (i + 1) + (P.orders.length - (i + 1)) := by omega
  have hcv := (hP.cv i (by omega)).2 k (by omega)
  have k2 := npr_skip (m := fun a b : El G => a * b) (h := gE G) (e := (1 : El G)) (x := gt (gt P.conj i) k) (i := i + 1) (f := P.orders.length - (i + 1)) (fun l hl => hcv.2 l (by omega))
  rw [← e2] at k2
  rw [show i + k + 1 - i - 1 = k by omega, ← k2] at k1
  have k3 : gE G (i + k + 1) * gE G i = gE G i * npr (· * ·) (gE G) (gt (gt P.conj i) k) 0 1 P.orders.length := k1
  have k4 : (gE G i)⁻¹ * (gE G (i + k + 1) * gE G i) = npr (· * ·) (gE G) (gt (gt P.conj i) k) 0 1 P.orders.length := by rw [k3, El.ilc]
  have k5 := congrArg Subtype.val k4
  rw [el_nf G hcv.1] at k5
  rw [← k5]; rfl
omit G in
theorem fr_sz {f : Nat → Int} (hf : ∀ i, f i = ((ordN' P i : Nat) : Int)) : ∀ r : List Nat, prodTo (r.reverse.map f) r.length = ((szR P r : Nat) : Int)
  | [] => rfl
  | a :: r => by
    have ih := fr_sz hf r
    have e : ((a :: r).reverse.map f) = r.reverse.map f ++ [f a] := by simp
    have hl : (r.reverse.map f).length = r.length := by simp
    rw [e]
    show prodTo (r.reverse.map f ++ [f a]) (r.length + 1) = ((szR P r * ordN' P a : Nat) : Int)
    rw [prodTo]
    have h1 : gt (r.reverse.map f ++ [f a]) r.length = f a := by
      simp [gt, List.getD_eq_getElem?_getD]
    have h2 : ∀ k, k ≤ r.length → prodTo (r.reverse.map f ++ [f a]) k = prodTo (r.reverse.map f) k := by
      intro k
      induction k with
      | zero => intro _; rfl
      | succ k ihk =>
        intro hk
        have h3 : gt (r.reverse.map f ++ [f a]) k = gt (r.reverse.map f) k := by
          simp only [gt, List.getD_eq_getElem?_getD]
          rw [List.getElem?_append_left (show k < (r.reverse.map f).length by omega)]
        rw [prodTo, prodTo, ihk (by omega), h3]
    rw [h1, h2 _ (Nat.le_refl _), ih, hf, Int.natCast_mul]
theorem quo_valid {U : List (List Int)} (hr : rconsB P = true) (hU : SubB P U) : Valid (quoP P U) := by
  have hP := G.v
  have hz : ∀ {X : List Int}, Vec P.orders X → ∀ k, k < (frI P U).length → ZeroTo (gt (frI P U) k) X → ZeroTo k (prjV P U X) := fun {X} hX k hk hz l hl => by
    rw [gt_prj (by omega)]
    refine cr_zero G hr hU hX hz _ ?_
    rcases Nat.lt_or_ge l k with h | h
    · exact Nat.le_of_lt (fr_mono h hk)
    · have : l = k := by omega
      rw [this]; exact Nat.le_refl _
  refine ⟨?_, ?_, ?_, ?_, ?_, ?_, ?_⟩
  · have h7 : ∀ i, gt P.orders i = ((ordN' P i : Nat) : Int) := fun i => by
      unfold ordN'
      by_cases hi : i < P.orders.length
      · have := hP.ord7 i hi; omega
      · rw [gt_big (by omega)]; rfl
    have h1 := fr_sz (P := P) (f := fun i => gt P.orders i) h7 (frI P U).reverse
    rw [List.reverse_reverse, List.length_reverse] at h1
    have h2 := G.ix_mul hU
    have h3 : 1 ≤ prodU P U U.length := by
      have h := (G.seq_facts (G.subB hU)).1
      rw [← hU.2] at h
      exact (prodU_729 hP h _ (Nat.le_refl _)).1
    have h4 : ordP P ≤ 729 := hP.le729
    have h5 : ((ixN P U : Nat) : Int) * 1 ≤ ((ixN P U : Nat) : Int) * prodU P U U.length := Int.mul_le_mul_of_nonneg_left h3 (by omega)
    rw [quo_n]
    show prodTo ((frI P U).map (fun i => gt P.orders i)) _ ≤ 729
    rw [h1]
    show ((ixN P U : Nat) : Int) ≤ 729
    omega
  · rw [quo_n]
    have : (frI P U).length ≤ P.orders.length := by
      unfold frI
      have := List.length_filter_le (fun i => !(U.map dep).contains i) (List.range P.orders.length)
      rw [List.length_range] at this; exact this
    have := hP.n6; omega
  · rw [quo_n]; show ((frI P U).map _).length = _; rw [List.length_map]
  · rw [quo_n]; show ((List.range _).map _).length = _; rw [List.length_map, List.length_range]
  · intro k hk
    rw [quo_n] at hk
    rw [gt_quoO hk]; exact hP.ord _ (fr_at hk).1
  · intro k hk
    rw [quo_n] at hk
    have e : gt (quoP P U).powers k = prjV P U (gt P.powers (gt (frI P U) k)) := by
      show gt ((frI P U).map _) k = _
      rw [gt_map _ _ _ hk, pw_unit G (fr_at hk).1]
    rw [e]
    have hv := hP.pv _ (fr_at hk).1
    exact ⟨prj_vec hr hU hv.1, hz hv.1 k hk hv.2⟩
  · intro k hk
    rw [quo_n] at hk
    have e : gt (quoP P U).conj k = ((frI P U).drop (k + 1)).map (fun j => prjV P U (rConj P (unitV P.orders.length j) (unitV P.orders.length (gt (frI P U) k)))) := by
      show gt ((List.range _).map _) k = _
      rw [gt_map _ _ _ (by rw [List.length_range]; exact hk), gt_range hk]
    rw [e, quo_n]
    refine ⟨by rw [List.length_map, List.length_drop]; omega, fun l hl => ?_⟩
    have hl2 : k + 1 + l < (frI P U).length := by omega
    have h1 : gt (((frI P U).drop (k + 1)).map (fun j => prjV P U (rConj P (unitV P.orders.length j) (unitV P.orders.length (gt (frI P U) k))))) l = prjV P U (rConj P (unitV P.orders.length (gt (frI P U) (k + 1 + l))) (unitV P.orders.length (gt (frI P U) k))) := by
      rw [gt_map _ _ _ (by rw [List.length_drop]; omega)]
      have h2 : gt ((frI P U).drop (k + 1)) l = gt (frI P U) (k + 1 + l) := by simp [gt, List.getElem?_drop]
      rw [h2]
    rw [h1]
    obtain ⟨i, hi⟩ : ∃ i, i = gt (frI P U) k := ⟨_, rfl⟩
    have hj := (fr_at hl2).1
    have hij := fr_mono (P := P) (U := U) (show k < k + 1 + l by omega) hl2
    obtain ⟨d, hd⟩ : ∃ d, gt (frI P U) (k + 1 + l) = gt (frI P U) k + d + 1 := ⟨gt (frI P U) (k + 1 + l) - gt (frI P U) k - 1, by omega⟩
    rw [hd, cj_unit G (by omega)]
    have hv := (hP.cv _ (fr_at hk).1).2 d (by omega)
    exact ⟨prj_vec hr hU hv.1, hz hv.1 k hk hv.2⟩
end

end Go.Proofs.YtldheeicjnncoaaGreat
namespace Go.Proofs.YtldheeicjnncoaaGreat
open Go.RowKit

/-- the vector with some entries at the free indices -/
noncomputable def liftV (P : Pr) (U : List (List Int)) (Y : List Int) : List Int := (List.range P.orders.length).map (fun i => gt Y ((frI P U).findIdx (fun j => j == i)))

theorem fr_idx {P : Pr} {U : List (List Int)} {k : Nat} (hk : k < (frI P U).length) : (frI P U).findIdx (fun j => j == gt (frI P U) k) = k := by
  rw [List.findIdx_eq hk]
  refine ⟨by simp [gt, List.getD_eq_getElem?_getD, List.getElem?_eq_getElem hk], fun j hj => ?_⟩
  have h := fr_mono (P := P) (U := U) hj hk
  have e : (frI P U)[j]'(by omega) = gt (frI P U) j := by simp [gt, List.getD_eq_getElem?_getD, List.getElem?_eq_getElem (show j < (frI P U).length by omega)]
  rw [e]
  simp only [beq_eq_false_iff_ne]
  omega
theorem gt_lift {P : Pr} {U : List (List Int)} {Y : List Int} {k : Nat} (hk : k < (frI P U).length) : gt (liftV P U Y) (gt (frI P U) k) = gt Y k := by
  unfold liftV
  have h := (fr_at hk).1
  rw [gt_map _ _ _ (by rw [List.length_range]; exact h), gt_range h, fr_idx hk]
theorem gt_lift0 {P : Pr} {U : List (List Int)} {Y : List Int} (hY : Y.length = (frI P U).length) {i : Nat} (hi : ¬ i ∈ frI P U) : gt (liftV P U Y) i = 0 := by
  by_cases h : i < P.orders.length
  · unfold liftV
    rw [gt_map _ _ _ (by rw [List.length_range]; exact h), gt_range h]
    have e : (frI P U).findIdx (fun j => j == i) = (frI P U).length := by
      rw [List.findIdx_eq_length]
      intro x hx
      simp only [beq_eq_false_iff_ne]
      intro e; exact hi (e ▸ hx)
    rw [e]; exact gt_big (by omega)
  · exact gt_big (by unfold liftV; rw [List.length_map, List.length_range]; omega)
theorem fr_ex {P : Pr} {U : List (List Int)} {i : Nat} (h : i ∈ frI P U) : ∃ k, k < (frI P U).length ∧ gt (frI P U) k = i := by
  obtain ⟨k, hk, e⟩ := mem_gt h
  exact ⟨k, hk, e⟩
theorem lift_zr {P : Pr} {U : List (List Int)} (hP : Valid P) {Y : List Int} (hY : Vec (quoP P U).orders Y) : Zr P U (liftV P U Y) := by
  have hl : Y.length = (frI P U).length := by rw [hY.1, quo_n]
  refine ⟨⟨by unfold liftV; rw [List.length_map, List.length_range], fun i hi => ?_⟩, fun j hj => ?_⟩
  · by_cases h : i ∈ frI P U
    · obtain ⟨k, hk, rfl⟩ := fr_ex h
      rw [gt_lift hk, ← gt_quoO hk]
      exact hY.2 k (by rw [quo_n]; exact hk)
    · rw [gt_lift0 hl h]
      have := hP.ord7 i hi; omega
  · exact gt_lift0 hl (fun h => (fr_mem.1 h).2 (List.mem_map.2 ⟨gt U j, gtMem hj, rfl⟩))

/-- a product over the indices of a list, the other entries being zero -/
theorem acc_fr {α : Type} (g : α → Nat → α) (p : Nat → Bool) (X Y : List Int) (out : α) (fr : Nat → Nat) : ∀ n, (∀ k, k < ((List.range n).filter p).length → fr k = gt ((List.range n).filter p) k ∧ gt Y k = gt X (fr k)) → (∀ i, i < n → p i = false → gt X i = 0) →
    acc g X 0 out n = acc (fun y k => g y (fr k)) Y 0 out ((List.range n).filter p).length
  | 0, _, _ => rfl
  | n + 1, h, hz => by
    have e : (List.range (n + 1)).filter p = (List.range n).filter p ++ (if p n then [n] else []) := by
      rw [List.range_succ, List.filter_append]
      congr 1
      by_cases hp : p n = true <;> simp [hp]
    by_cases hp : p n = true
    · rw [if_pos hp] at e
      rw [e] at h ⊢
      rw [List.length_append] at h ⊢
      have ih := acc_fr g p X Y out fr n (fun k hk => by
        have := h k (by rw [List.length_singleton]; omega)
        rw [gt_append_left _ _ _ hk] at this; exact this) (fun i hi => hz i (by omega))
      show iter (gt X (0 + n)).toNat _ (acc g X 0 out n) = iter (gt Y (0 + _)).toNat _ (acc _ Y 0 out _)
      rw [ih, Nat.zero_add, Nat.zero_add]
      have h2 := h ((List.range n).filter p).length (by rw [List.length_singleton]; omega)
      have h3 : gt ((List.range n).filter p ++ [n]) ((List.range n).filter p).length = n := by simp [gt]
      rw [h3] at h2
      rw [h2.2, h2.1]
      show _ = iter _ (fun y => g y (fr ((List.range n).filter p).length)) _
      rw [h2.1]
    · rw [if_neg hp, List.append_nil] at e
      rw [e] at h ⊢
      have ih := acc_fr g p X Y out fr n h (fun i hi => hz i (by omega))
      show iter (gt X (0 + n)).toNat _ (acc g X 0 out n) = _
      rw [ih, Nat.zero_add, hz n (by omega) (by simpa using hp)]; rfl

theorem iter_map {α β : Type} (f : α → β) (g : α → α) (g' : β → β) (h : ∀ a, f (g a) = g' (f a)) (x : α) : ∀ n, f (iter n g x) = iter n g' (f x)
  | 0 => rfl
  | n + 1 => by show f (g (iter n g x)) = g' (iter n g' (f x)); rw [h, iter_map f g g' h x n]
theorem acc_map {α β : Type} (f : α → β) (g : α → Nat → α) (g' : β → Nat → β) (h : ∀ a k, f (g a k) = g' (f a) k) (X : List Int) (i : Nat) (out : α) : ∀ n, f (acc g X i out n) = acc g' X i (f out) n
  | 0 => rfl
  | n + 1 => by
    show f (iter _ _ (acc g X i out n)) = iter _ _ (acc g' X i (f out) n)
    rw [iter_map f _ (fun y => g' y (i + n)) (fun a => h a (i + n)), acc_map f g g' h X i out n]

section
variable {P : Pr} (G : Grp P)

/-- the cosets as a type -/
def quS {N : El G → Prop} (S : SG N) : Setoid (El G) := ⟨eqv N, eqv_refl S, eqv_symm S, eqv_trans S⟩
theorem eqv_mul {N : El G → Prop} (S : SG N) (hN : ∀ n g, N n → N (g⁻¹ * (n * g))) {x x' y y' : El G} (h : eqv N x x') (k : eqv N y y') : eqv N (x * y) (x' * y') := by
  have e : (x * y)⁻¹ * (x' * y') = (y⁻¹ * ((x⁻¹ * x') * y)) * (y⁻¹ * y') := by
    rw [El.mi]
    simp only [El.ass, El.irc]
  unfold eqv
  rw [e]
  exact S.mul _ _ (hN _ _ h) k
/-- the product of cosets -/
def qm {N : El G → Prop} (S : SG N) (hN : ∀ n g, N n → N (g⁻¹ * (n * g))) (a b : Quotient (quS G S)) : Quotient (quS G S) :=
  Quotient.lift₂ (fun x y => Quotient.mk (quS G S) (x * y)) (fun _ _ _ _ h k => Quotient.sound (s := quS G S) (eqv_mul G S hN h k)) a b
theorem qm_mon {N : El G → Prop} (S : SG N) (hN : ∀ n g, N n → N (g⁻¹ * (n * g))) : MonOn (fun _ : Quotient (quS G S) => True) (qm G S hN) (Quotient.mk (quS G S) 1) :=
  ⟨fun _ _ _ _ => trivial, trivial,
   fun x y z _ _ _ => Quotient.inductionOn x (fun a => Quotient.inductionOn y (fun b => Quotient.inductionOn z (fun c => congrArg (Quotient.mk (quS G S)) (El.ass a b c)))),
   fun x _ => Quotient.inductionOn x (fun a => congrArg (Quotient.mk (quS G S)) (El.ol a)),
   fun x _ => Quotient.inductionOn x (fun a => congrArg (Quotient.mk (quS G S)) (El.or a))⟩

/-- the members of a subgroup given by its sequence -/
def nU (U : List (List Int)) (x : El G) : Prop := gU P U x.1
theorem nU_sg {U : List (List Int)} (hU : SubB P U) : SG (nU G U) := by
  have S := G.subB hU
  exact ⟨S.one, fun _ _ h k => S.mul _ _ h k, fun _ h => S.inv _ h⟩
theorem nU_nrm {U : List (List Int)} (hn : NormP P (gU P U)) : ∀ n g : El G, nU G U n → nU G U (g⁻¹ * (n * g)) := fun n g h => hn n.1 h g.1 g.2
include G in
theorem cr_lift (hr : rconsB P = true) {U : List (List Int)} (hU : SubB P U) {X : List Int} (hX : Zr P U X) : crV P U X = X := by
  have S := G.subB hU
  have hi := cr_is (P := P) (U := U) (X := X) ⟨⟨hr, hU⟩, hX.1⟩
  have z := G.isRep_zr hU hi
  have hUe : cseq P (gP P U) = U := hU.2.symm
  exact (G.zr_one S (by rw [hUe]; exact hX) (by rw [hUe]; exact z) hi.2.1).symm
include G in
theorem prj_lift (hr : rconsB P = true) {U : List (List Int)} (hU : SubB P U) {Y : List Int} (hY : Vec (quoP P U).orders Y) : prjV P U (liftV P U Y) = Y := by
  have z := lift_zr G.v hY
  unfold prjV
  rw [cr_lift G hr hU z]
  apply ext_gt
  · rw [List.length_map, hY.1, quo_n]
  · intro k hk
    rw [List.length_map] at hk
    rw [gt_map _ _ _ hk, gt_lift hk]
include G in
section
variable {U : List (List Int)} (hr : rconsB P = true) (hU : SubB P U) (hn : NormP P (gU P U))
include hr hU

/-- the generators of the quotient as cosets -/
def qg (k : Nat) : Quotient (quS G (nU_sg G hU)) := Quotient.mk _ (gE G (gt (frI P U) k))
theorem q_prj {X : List Int} (hX : Vec P.orders X) : npr (qm G (nU_sg G hU) (nU_nrm G hn)) (qg G hU) (prjV P U X) 0 (Quotient.mk _ 1) (frI P U).length = Quotient.mk (quS G (nU_sg G hU)) ⟨X, hX⟩ := by
  have hi := cr_is (P := P) (U := U) (X := X) ⟨⟨hr, hU⟩, hX⟩
  have z := G.isRep_zr hU hi
  have h1 : acc (fun (y : El G) j => y * gE G j) (crV P U X) 0 1 P.orders.length = acc (fun (y : El G) k => y * gE G (gt (frI P U) k)) (prjV P U X) 0 1 (frI P U).length :=
    acc_fr (fun (y : El G) j => y * gE G j) (fun i => !(U.map dep).contains i) (crV P U X) (prjV P U X) 1 (gt (frI P U)) P.orders.length (fun k hk => ⟨rfl, gt_prj hk⟩) (fun i hi hp => by
      have hp2 : i ∈ U.map dep := by simpa using hp
      obtain ⟨u, hu, rfl⟩ := List.mem_map.1 hp2
      obtain ⟨j, hj, rfl⟩ := mem_gt hu
      exact z.2 j hj)
  have h2 := acc_map (Quotient.mk (quS G (nU_sg G hU))) (fun (y : El G) k => y * gE G (gt (frI P U) k)) (fun y k => qm G (nU_sg G hU) (nU_nrm G hn) y (qg G hU k)) (fun _ _ => rfl) (prjV P U X) 0 1 (frI P U).length
  have h3 : npr (· * ·) (gE G) (crV P U X) 0 1 P.orders.length = (⟨crV P U X, z.1⟩ : El G) := Subtype.ext (el_nf G z.1)
  unfold npr at h3 ⊢
  rw [← h2, ← h1, h3]
  exact Quotient.sound (s := quS G (nU_sg G hU)) (eqv_symm (nU_sg G hU) hi.2.1)
theorem quo_holds : Holds (quoP P U) (fun _ => True) (qm G (nU_sg G hU) (nU_nrm G hn)) (Quotient.mk _ 1) (qg G hU) 0 := by
  have hQ := quo_valid G hr hU
  refine ⟨fun _ _ _ => trivial, fun k _ hk => ?_, fun k l _ hkl hl => ?_⟩
  · rw [quo_n] at hk
    have hi := (fr_at hk).1
    have e2 : (quoP P U).orders.length = (k + 1) + ((quoP P U).orders.length - (k + 1)) := by rw [quo_n]; omega
    have k2 := npr_skip (m := qm G (nU_sg G hU) (nU_nrm G hn)) (h := qg G hU) (e := (Quotient.mk _ 1)) (x := gt (quoP P U).powers k) (i := k + 1) (f := (quoP P U).orders.length - (k + 1)) (fun l hl => (hQ.pv k (by rw [quo_n]; exact hk)).2 l (by omega))
    rw [← e2] at k2
    rw [← k2]
    have e : gt (quoP P U).powers k = prjV P U (pw P (unitV P.orders.length (gt (frI P U) k)) (gt P.orders (gt (frI P U) k)).toNat) := by
      show gt ((frI P U).map _) k = _
      rw [gt_map _ _ _ hk]
    have hv : Vec P.orders (pw P (unitV P.orders.length (gt (frI P U) k)) (gt P.orders (gt (frI P U) k)).toNat) := G.pw_vec (unitV_vec G.v _) _
    rw [e, quo_n, q_prj G hr hU hn hv, gt_quoO hk]
    have k3 : ∀ m : Nat, iter m (fun y => qm G (nU_sg G hU) (nU_nrm G hn) y (qg G hU k)) (Quotient.mk (quS G (nU_sg G hU)) 1) = Quotient.mk (quS G (nU_sg G hU)) (iter m (fun y => y * gE G (gt (frI P U) k)) 1) := fun m =>
      (iter_map (Quotient.mk (quS G (nU_sg G hU))) (fun y : El G => y * gE G (gt (frI P U) k)) (fun y => qm G (nU_sg G hU) (nU_nrm G hn) y (qg G hU k)) (fun _ => rfl) 1 m).symm
    rw [k3]
    congr 1
    apply Subtype.ext
    show _ = pw P (unitV P.orders.length (gt (frI P U) k)) _
    induction (gt P.orders (gt (frI P U) k)).toNat with
    | zero => rfl
    | succ m ih => rw [pw_succ, ← ih]; rfl
  · rw [quo_n] at hl
    have hk : k < (frI P U).length := by omega
    have hc := (hQ.cv k (by rw [quo_n]; exact hk)).2 (l - k - 1) (by rw [quo_n]; omega)
    have e2 : (quoP P U).orders.length = (k + 1) + ((quoP P U).orders.length - (k + 1)) := by rw [quo_n]; omega
    have k2 := npr_skip (m := qm G (nU_sg G hU) (nU_nrm G hn)) (h := qg G hU) (e := (Quotient.mk _ 1)) (x := gt (gt (quoP P U).conj k) (l - k - 1)) (i := k + 1) (f := (quoP P U).orders.length - (k + 1)) (fun j hj => hc.2 j (by omega))
    rw [← e2] at k2
    rw [← k2]
    have e : gt (gt (quoP P U).conj k) (l - k - 1) = prjV P U (rConj P (unitV P.orders.length (gt (frI P U) l)) (unitV P.orders.length (gt (frI P U) k))) := by
      show gt (gt ((List.range _).map _) k) _ = _
      rw [gt_map _ _ _ (by rw [List.length_range]; exact hk), gt_range hk, gt_map _ _ _ (by rw [List.length_drop]; omega)]
      have h2 : gt ((frI P U).drop (k + 1)) (l - k - 1) = gt (frI P U) l := by simp [gt, List.getElem?_drop, show k + 1 + (l - k - 1) = l by omega]
      rw [h2]
    have hv : Vec P.orders (rConj P (unitV P.orders.length (gt (frI P U) l)) (unitV P.orders.length (gt (frI P U) k))) := ((gE G (gt (frI P U) k))⁻¹ * (gE G (gt (frI P U) l) * gE G (gt (frI P U) k))).2
    rw [e, quo_n, q_prj G hr hU hn hv]
    show Quotient.mk (quS G (nU_sg G hU)) (gE G (gt (frI P U) l) * gE G (gt (frI P U) k)) = Quotient.mk (quS G (nU_sg G hU)) (gE G (gt (frI P U) k) * ((gE G (gt (frI P U) k))⁻¹ * (gE G (gt (frI P U) l) * gE G (gt (frI P U) k))))
    rw [El.irc]
theorem q_inj {x y : List Int} (hx : Vec (quoP P U).orders x) (hy : Vec (quoP P U).orders y) (h : npr (qm G (nU_sg G hU) (nU_nrm G hn)) (qg G hU) x 0 (Quotient.mk _ 1) (frI P U).length = npr (qm G (nU_sg G hU) (nU_nrm G hn)) (qg G hU) y 0 (Quotient.mk _ 1) (frI P U).length) : x = y := by
  have zx := lift_zr G.v hx
  have zy := lift_zr G.v hy
  have S := G.subB hU
  rw [← prj_lift G hr hU hx, ← prj_lift G hr hU hy, q_prj G hr hU hn zx.1, q_prj G hr hU hn zy.1] at h
  have h2 : eqv (nU G U) (⟨_, zx.1⟩ : El G) (⟨_, zy.1⟩ : El G) := Quotient.exact (s := quS G (nU_sg G hU)) h
  have hUe : cseq P (gP P U) = U := hU.2.symm
  have h3 := G.zr_one S (by rw [hUe]; exact zx) (by rw [hUe]; exact zy) h2
  have h3 : liftV P U x = liftV P U y := h3
  rw [← prj_lift G hr hU hx, ← prj_lift G hr hU hy, h3]
include G hn in
/-- the quotient's presentation is consistent -/
theorem quo_cons : rconsB (quoP P U) = true := by
  refine real_cons (quo_valid G hr hU) (qm_mon G (nU_sg G hU) (nU_nrm G hn)) (quo_holds G hr hU hn) (fun j hj a b => ?_) (fun x y hx hy h => ?_)
  · refine Quotient.inductionOn a (fun a => Quotient.inductionOn b (fun b h => ?_))
    have h2 : eqv (nU G U) (gE G (gt (frI P U) j) * a) (gE G (gt (frI P U) j) * b) := Quotient.exact (s := quS G (nU_sg G hU)) h
    refine Quotient.sound (s := quS G (nU_sg G hU)) ?_
    show nU G U (a⁻¹ * b)
    have e : (gE G (gt (frI P U) j) * a)⁻¹ * (gE G (gt (frI P U) j) * b) = a⁻¹ * b := by rw [El.mi, El.ass, El.ilc]
    rw [← e]; exact h2
  · rw [quo_n] at h; exact q_inj G hr hU hn hx hy h
include G hn in
include G in
end
end

end Go.Proofs.YtldheeicjnncoaaGreat
namespace Go.Proofs.YtldheeicjnncoaaGreat

/-- the product of the first i elements of a sequence with exponents -/
def exP (P : Pr) (U : List (List Int)) (a : List Int) : Nat → List Int
  | 0 => zeros P.orders.length
  | i + 1 => rMul P (exP P U a i) (pw P (gt U i) (gt a i).toNat)

/-- on the way: the exponents so far, what is left of the member X -/
structure Mex (P : Pr) (U : List (List Int)) (H : List Int → Prop) (X : List Int) (i : Nat) (out x : List Int) : Prop where
  len : out.length = i
  mem : H x
  low : ∀ j, j < i → ∀ k, k ≤ dep (gt U j) → gt x k = 0
  prod : rMul P (exP P U out i) x = X
  rng : ∀ j, j < i → 0 ≤ gt out j ∧ gt out j < gt P.orders (dep (gt U j))

theorem exP_app {P : Pr} {U : List (List Int)} {a b : List Int} : ∀ i, i ≤ a.length → exP P U (a ++ b) i = exP P U a i
  | 0, _ => rfl
  | i + 1, h => by
    have e : gt (a ++ b) i = gt a i := gt_append_left _ _ _ (by omega)
    rw [exP, exP, exP_app i (by omega), e]

section
variable {P : Pr} (G : Grp P)
include G

theorem Grp.exP_vec {U : List (List Int)} (hU : ∀ z ∈ U, Vec P.orders z) (a : List Int) : ∀ i, i ≤ U.length → Vec P.orders (exP P U a i)
  | 0, _ => G.oneV
  | i + 1, h => G.mulV (Grp.exP_vec hU a i (by omega)) (G.pw_vec (hU _ (gtMem (by omega))) _)

/-- the inverse of a power takes the leading entry away -/
theorem Grp.mex_drop {u x : List Int} {d : Nat} (hd : d < P.orders.length) (hu : T P d u) (h1 : gt u d = 1) (hx : T P d x) : T P (d + 1) (rMul P (rInv P (pw P u (gt x d).toNat)) x) := by
  have ho := G.v.ord7 d hd
  have hb := hx.1.2 d hd
  have hp := G.pw_T (Nat.le_of_lt hd) hu (gt x d).toNat
  have hi := G.T_inv (Nat.le_of_lt hd) hp
  have hm := G.T_mul (Nat.le_of_lt hd) hi hx
  refine hm.up ?_
  have e1 := (G.right (Nat.le_of_lt hd) hi.1 hp).2 hd
  rw [G.inv_mul hp.1, G.pw_at hd hu, h1, Int.mul_one, Int.toNat_of_nonneg hb.1, Int.emod_eq_of_lt hb.1 hb.2] at e1
  rw [(G.right (Nat.le_of_lt hd) hi.1 hx).2 hd, ← e1]
  exact gt_replicate _ _

theorem Mex.zero {U : List (List Int)} {H : List Int → Prop} {X : List Int} (hX : Vec P.orders X) (h : H X) : Mex P U H X 0 [] X :=
  ⟨rfl, h, fun j hj => by omega, by rw [exP, G.grp.el _ hX], fun j hj => by omega⟩

/-- what is left lies deep -/
theorem Mex.deep {H : List Int → Prop} (S : Sub P H) {X : List Int} {i : Nat} {out x : List Int} (h : Mex P (cseq P H) H X i out x) : dep x = P.orders.length ∨ ∃ j, i ≤ j ∧ j < (cseq P H).length ∧ dep (gt (cseq P H) j) = dep x := by
  have hf := G.seq_facts S
  have hV := S.vec x h.mem
  have hl := dep_le x
  rw [hV.1] at hl
  rcases Nat.lt_or_ge (dep x) P.orders.length with h1 | h1
  · have h0 := dep_ne (x := x) (by rw [hV.1]; exact h1)
    obtain ⟨j, hj, he⟩ := hf.2.2 x h.mem (dep x) h1 (dep_T hV) h0
    refine .inr ⟨j, ?_, hj, he⟩
    rcases Nat.lt_or_ge j i with h2 | h2
    · exact absurd (h.low j h2 (dep x) (by omega)) h0
    · exact h2
  · exact .inl (by omega)

theorem Mex.step {H : List Int → Prop} (S : Sub P H) {X : List Int} {i : Nat} {out x : List Int} (h : Mex P (cseq P H) H X i out x) (hi : i < (cseq P H).length) :
    Mex P (cseq P H) H X (i + 1) (out ++ [gt x (dep (gt (cseq P H) i))]) (rMul P (rInv P (pw P (gt (cseq P H) i) (gt x (dep (gt (cseq P H) i))).toNat)) x) := by
  have hf := G.seq_facts S
  obtain ⟨u1, u2, u3⟩ := hf.1.1 _ (gtMem hi)
  have hV := S.vec x h.mem
  have hT : T P (dep (gt (cseq P H) i)) x := by
    refine ⟨hV, fun k hk => ?_⟩
    rcases Mex.deep G S h with h1 | ⟨j, h1, h2, h3⟩
    · exact dep_zero (by omega)
    · have : dep (gt (cseq P H) i) ≤ dep (gt (cseq P H) j) := by
        rcases Nat.lt_or_ge i j with h4 | h4
        · exact Nat.le_of_lt (hf.1.2 i j h4 h2)
        · have : i = j := by omega
          rw [this]; exact Nat.le_refl _
      exact dep_zero (by omega)
  have hb := hV.2 (dep (gt (cseq P H) i)) u2
  have hd := G.mex_drop u2 (dep_T u1) u3 hT
  have hpv := G.pw_vec u1 (gt x (dep (gt (cseq P H) i))).toNat
  have hlen : gt (out ++ [gt x (dep (gt (cseq P H) i))]) i = gt x (dep (gt (cseq P H) i)) := by
    have := h.len
    subst this
    exact gt_concat _ _
  have hUv : ∀ z ∈ cseq P H, Vec P.orders z := fun z hz => (hf.1.1 z hz).1
  refine ⟨by rw [List.length_append, h.len]; rfl, S.mul _ _ (S.inv _ ?_) h.mem, fun j hj k hk => ?_, ?_, fun j hj => ?_⟩
  · have : ∀ k, H (pw P (gt (cseq P H) i) k) := fun k => by
      induction k with
      | zero => exact S.one
      | succ k ih => rw [pw_succ]; exact S.mul _ _ ih (hf.2.1 _ (gtMem hi))
    exact this _
  · have hk2 : k ≤ dep (gt (cseq P H) i) := by
      rcases Nat.lt_succ_iff_lt_or_eq.1 hj with h4 | h4
      · have := hf.1.2 j i h4 hi; omega
      · rw [h4] at hk; exact hk
    exact hd.2 k (by omega)
  · rw [exP, exP_app i (by rw [h.len]; exact Nat.le_refl _), hlen]
    have hev := G.exP_vec hUv out i (Nat.le_of_lt hi)
    rw [G.ass hev hpv (G.mulV (G.invV hpv) hV), ← G.ass hpv (G.invV hpv) hV, G.mul_inv hpv, G.grp.el _ hV]
    exact h.prod
  · rcases Nat.lt_succ_iff_lt_or_eq.1 hj with h4 | h4
    · have e : gt (out ++ [gt x (dep (gt (cseq P H) i))]) j = gt out j := by
        have := h.len
        exact gt_append_left _ _ _ (by omega)
      rw [e]; exact h.rng j h4
    · subst h4
      rw [hlen]; exact hb

theorem Mex.done {H : List Int → Prop} (S : Sub P H) {X : List Int} {out x : List Int} (h : Mex P (cseq P H) H X (cseq P H).length out x) : x = zeros P.orders.length ∧ exP P (cseq P H) out (cseq P H).length = X := by
  have hf := G.seq_facts S
  have hx : x = zeros P.orders.length := by
    rcases Mex.deep G S h with h1 | ⟨j, h1, h2, _⟩
    · exact (dep_top G.v (S.vec x h.mem)).1 h1
    · omega
  refine ⟨hx, ?_⟩
  have hp := h.prod
  rw [hx, G.grp.er _ (G.exP_vec (fun z hz => (hf.1.1 z hz).1) out _ (Nat.le_refl _))] at hp
  exact hp

end

end Go.Proofs.YtldheeicjnncoaaGreat
namespace Go.Proofs.YtldheeicjnncoaaGreat
open Go.RowKit

open Classical in
/-- the exponents of a member -/
noncomputable def mxV (P : Pr) (U : List (List Int)) (X : List Int) : List Int :=
  if h : ∃ out : List Int, out.length = U.length ∧ (∀ j, j < U.length → 0 ≤ gt out j ∧ gt out j < gt P.orders (dep (gt U j))) ∧ exP P U out U.length = X then Classical.choose h else []
/-- the presentation of the subgroup -/
noncomputable def subP (P : Pr) (U : List (List Int)) : Pr :=
  { orders := U.map (fun u => gt P.orders (dep u))
    powers := U.map (fun u => mxV P U (pw P u (gt P.orders (dep u)).toNat))
    conj := (List.range U.length).map (fun k => (U.drop (k + 1)).map (fun y => mxV P U (rConj P y (gt U k)))) }

theorem sub_n (P : Pr) (U : List (List Int)) : (subP P U).orders.length = U.length := by
  show (U.map _).length = _
  rw [List.length_map]
theorem gt_subO {P : Pr} {U : List (List Int)} {k : Nat} (hk : k < U.length) : gt (subP P U).orders k = gt P.orders (dep (gt U k)) := by
  show gt (U.map _) k = _
  rw [gt_map _ _ _ hk]
theorem gt_subP {P : Pr} {U : List (List Int)} {k : Nat} (hk : k < U.length) : gt (subP P U).powers k = mxV P U (pw P (gt U k) (gt P.orders (dep (gt U k))).toNat) := by
  show gt (U.map _) k = _
  rw [gt_map _ _ _ hk]
theorem gt_subC {P : Pr} {U : List (List Int)} {k l : Nat} (hkl : k < l) (hl : l < U.length) : gt (gt (subP P U).conj k) (l - k - 1) = mxV P U (rConj P (gt U l) (gt U k)) := by
  show gt (gt ((List.range _).map _) k) _ = _
  rw [gt_map _ _ _ (by rw [List.length_range]; omega), gt_range (by omega), gt_map _ _ _ (by rw [List.length_drop]; omega)]
  have h2 : gt (U.drop (k + 1)) (l - k - 1) = gt U l := by simp [gt, List.getElem?_drop, show k + 1 + (l - k - 1) = l by omega]
  rw [h2]

section
variable {P : Pr} (G : Grp P) {U : List (List Int)} (hU : SubB P U)
include G hU

theorem sub_ok : SeqOk P U := by
  have h := (G.seq_facts (G.subB hU)).1
  rw [← hU.2] at h; exact h
/-- the members of the sequence as elements -/
def uE (k : Nat) : El G := if h : k < U.length then ⟨gt U k, ((sub_ok G hU).1 _ (gtMem h)).1⟩ else 1
theorem uE_val {k : Nat} (h : k < U.length) : (uE G hU k).1 = gt U k := by
  have e : uE G hU k = ⟨gt U k, ((sub_ok G hU).1 _ (gtMem h)).1⟩ := dif_pos h
  rw [e]
theorem uE_dT {k : Nat} (h : k < U.length) : dep (gt U k) < P.orders.length ∧ dT (dep (gt U k)) (uE G hU k) ∧ gt (uE G hU k).1 (dep (gt U k)) = 1 := by
  obtain ⟨h1, h2, h3⟩ := (sub_ok G hU).1 _ (gtMem h)
  refine ⟨h2, fun j hj => ?_, ?_⟩
  · rw [uE_val G hU h]; exact dep_zero hj
  · rw [uE_val G hU h]; exact h3
/-- the product of the powers from an index on -/
def sx (a : List Int) (i f : Nat) : El G := npr (· * ·) (uE G hU) a i 1 f
omit hU in
theorem iter_ep (x : El G) : ∀ n, iter n (fun y : El G => y * x) 1 = ep x n
  | 0 => rfl
  | n + 1 => by show iter n _ 1 * x = ep x n * x; rw [iter_ep x n]
theorem sx_front (a : List Int) (i f : Nat) : sx G hU a i (f + 1) = ep (uE G hU i) (gt a i).toNat * sx G hU a (i + 1) f := by
  have h1 : sx G hU a i (f + 1) = npr (· * ·) (uE G hU) a (i + 1) (iter (gt a i).toNat (fun y => y * uE G hU i) 1) f := acc_front (fun (y : El G) j => y * uE G hU j) a i 1 f
  rw [h1, npr_out (el_mon G) trivial (fun _ _ _ => trivial), iter_ep G]; rfl
theorem exP_sx (a : List Int) : ∀ i, i ≤ U.length → exP P U a i = (sx G hU a 0 i).1
  | 0, _ => rfl
  | i + 1, h => by
    have ih := exP_sx a i (by omega)
    have e : sx G hU a 0 (i + 1) = sx G hU a 0 i * ep (uE G hU i) (gt a i).toNat := by
      have h1 : sx G hU a 0 (i + 1) = iter (gt a (0 + i)).toNat (fun y => y * uE G hU (0 + i)) (sx G hU a 0 i) := rfl
      have h2 := (el_mon G).pow_out (h := uE G hU i) (y := sx G hU a 0 i) trivial trivial (gt a i).toNat
      rw [h1, Nat.zero_add, ← iter_ep G]
      exact h2
    rw [e, exP, ih]
    show _ = rMul P _ (ep _ _).1
    rw [ep_val, uE_val G hU (by omega)]
theorem sx_dT (a : List Int) : ∀ f i, i + f = U.length → ∀ d, d ≤ P.orders.length → (∀ j, i ≤ j → j < U.length → d ≤ dep (gt U j)) → dT d (sx G hU a i f)
  | 0, _, _, d, hd, _ => (dT_sg hd).one
  | f + 1, i, hi, d, hd, h => by
    rw [sx_front G hU]
    refine (dT_sg hd).mul _ _ (ep_dT hd ?_ _) (sx_dT a f (i + 1) (by omega) d hd (fun j hj hj2 => h j (by omega) hj2))
    intro j hj
    exact (uE_dT G hU (by omega)).2.1 j (by have := h i (Nat.le_refl _) (by omega); omega)
theorem sx_lead (a : List Int) {i : Nat} (hi : i < U.length) (ha : 0 ≤ gt a i ∧ gt a i < gt P.orders (dep (gt U i))) : gt (sx G hU a i (U.length - i)).1 (dep (gt U i)) = gt a i := by
  obtain ⟨h1, h2, h3⟩ := uE_dT G hU hi
  have e : U.length - i = (U.length - (i + 1)) + 1 := by omega
  rw [e, sx_front G hU]
  have k1 : dT (dep (gt U i) + 1) (sx G hU a (i + 1) (U.length - (i + 1))) := sx_dT G hU a _ _ (by omega) _ (by omega) (fun j hj hj2 => (sub_ok G hU).2 i j (by omega) hj2)
  have k2 := el_same h1 (x := ep (uE G hU i) (gt a i).toNat) (y := ep (uE G hU i) (gt a i).toNat * sx G hU a (i + 1) (U.length - (i + 1))) (by rw [El.ilc]; exact k1)
  rw [← k2, ep_at h1 h2, h3, Int.mul_one, Int.toNat_of_nonneg ha.1, Int.emod_eq_of_lt ha.1 ha.2]
theorem sx_inj {a b : List Int} (ha : ∀ j, j < U.length → 0 ≤ gt a j ∧ gt a j < gt P.orders (dep (gt U j))) (hb : ∀ j, j < U.length → 0 ≤ gt b j ∧ gt b j < gt P.orders (dep (gt U j))) : ∀ f i, i + f = U.length → sx G hU a i f = sx G hU b i f → ∀ j, i ≤ j → j < U.length → gt a j = gt b j
  | 0, i, hi, _, j, h1, h2 => by omega
  | f + 1, i, hi, he, j, h1, h2 => by
    have la := sx_lead G hU a (i := i) (by omega) (ha i (by omega))
    have lb := sx_lead G hU b (i := i) (by omega) (hb i (by omega))
    have e : U.length - i = f + 1 := by omega
    rw [e] at la lb
    rw [he] at la
    have hi0 : gt a i = gt b i := by rw [← la, ← lb]
    rw [sx_front G hU, sx_front G hU, hi0] at he
    have he2 : sx G hU a (i + 1) f = sx G hU b (i + 1) f := by
      rw [← El.ilc (ep (uE G hU i) (gt b i).toNat) (sx G hU a (i + 1) f), he, El.ilc]
    by_cases hj : j = i
    · rw [hj]; exact hi0
    · exact sx_inj ha hb f (i + 1) (by omega) he2 j (by omega) h2
theorem ex_one {a b : List Int} (la : a.length = U.length) (lb : b.length = U.length) (ha : ∀ j, j < U.length → 0 ≤ gt a j ∧ gt a j < gt P.orders (dep (gt U j))) (hb : ∀ j, j < U.length → 0 ≤ gt b j ∧ gt b j < gt P.orders (dep (gt U j))) (h : exP P U a U.length = exP P U b U.length) : a = b := by
  rw [exP_sx G hU a _ (Nat.le_refl _), exP_sx G hU b _ (Nat.le_refl _)] at h
  exact ext_gt (by rw [la, lb]) (fun j hj => sx_inj G hU ha hb U.length 0 (Nat.zero_add _) (Subtype.ext h) j (Nat.zero_le _) (by omega))
theorem mx_ex {X : List Int} (hX : gU P U X) : ∃ out, Mex P U (gU P U) X U.length out (zeros P.orders.length) := by
  have S := G.subB hU
  have e : cseq P (gP P U) = U := hU.2.symm
  have hV := S.vec _ hX
  have key : ∀ i, i ≤ (cseq P (gP P U)).length → ∃ out x, Mex P (cseq P (gP P U)) (gP P U) X i out x := fun i => by
    induction i with
    | zero => intro _; exact ⟨[], X, Mex.zero G hV hX⟩
    | succ i ih =>
      intro hi
      obtain ⟨out, x, h⟩ := ih (by omega)
      exact ⟨_, _, Mex.step G S h hi⟩
  obtain ⟨out, x, h⟩ := key _ (Nat.le_refl _)
  have hd := Mex.done G S h
  rw [hd.1] at h
  rw [e] at h
  exact ⟨out, h⟩
theorem mx_done {X out : List Int} (h : Mex P U (gU P U) X U.length out (zeros P.orders.length)) : exP P U out U.length = X := by
  have S := G.subB hU
  have e : cseq P (gP P U) = U := hU.2.symm
  have h' : Mex P (cseq P (gP P U)) (gP P U) X (cseq P (gP P U)).length out (zeros P.orders.length) := by rw [e]; exact h
  have := (Mex.done G S h').2
  rw [e] at this; exact this
theorem mx_spec {X : List Int} (hX : gU P U X) : (mxV P U X).length = U.length ∧ (∀ j, j < U.length → 0 ≤ gt (mxV P U X) j ∧ gt (mxV P U X) j < gt P.orders (dep (gt U j))) ∧ exP P U (mxV P U X) U.length = X := by
  obtain ⟨out, h⟩ := mx_ex G hU hX
  have hex : ∃ out : List Int, out.length = U.length ∧ (∀ j, j < U.length → 0 ≤ gt out j ∧ gt out j < gt P.orders (dep (gt U j))) ∧ exP P U out U.length = X := ⟨out, h.len, h.rng, mx_done G hU h⟩
  unfold mxV
  rw [dif_pos hex]
  exact Classical.choose_spec hex
theorem mx_one {X out : List Int} (hX : gU P U X) (h : Mex P U (gU P U) X U.length out (zeros P.orders.length)) : out = mxV P U X := by
  obtain ⟨h1, h2, h3⟩ := mx_spec G hU hX
  exact ex_one G hU h.len h1 h.rng h2 (by rw [h3]; exact mx_done G hU h)
theorem mx_vec {X : List Int} (hX : gU P U X) : Vec (subP P U).orders (mxV P U X) := by
  obtain ⟨h1, h2, _⟩ := mx_spec G hU hX
  refine ⟨by rw [sub_n, h1], fun k hk => ?_⟩
  rw [sub_n] at hk
  rw [gt_subO hk]; exact h2 k hk
omit G hU in
theorem sv_rng {a : List Int} (ha : Vec (subP P U).orders a) : a.length = U.length ∧ ∀ j, j < U.length → 0 ≤ gt a j ∧ gt a j < gt P.orders (dep (gt U j)) := by
  refine ⟨by rw [ha.1, sub_n], fun j hj => ?_⟩
  have := ha.2 j (by rw [sub_n]; exact hj)
  rw [gt_subO hj] at this; exact this
theorem mx_zero {X : List Int} (hX : gU P U X) {k : Nat} (hk : k < U.length) (hz : ∀ j, j ≤ dep (gt U k) → gt X j = 0) : ZeroTo k (mxV P U X) := by
  obtain ⟨h1, h2, h3⟩ := mx_spec G hU hX
  rw [exP_sx G hU _ _ (Nat.le_refl _)] at h3
  intro l hl
  induction l using Nat.strongRecOn with
  | ind l ih =>
    have e : U.length = l + (U.length - l) := by omega
    have e1 : sx G hU (mxV P U X) 0 U.length = sx G hU (mxV P U X) l (U.length - l) := by
      have := npr_skip (m := fun a b : El G => a * b) (h := uE G hU) (e := (1 : El G)) (x := mxV P U X) (i := l) (f := U.length - l) (fun j hj => ih j hj (by omega))
      rw [← e] at this; exact this
    have e2 := sx_lead G hU (mxV P U X) (i := l) (by omega) (h2 l (by omega))
    rw [← e1, h3] at e2
    rw [← e2]
    refine hz _ ?_
    rcases Nat.lt_or_ge l k with h | h
    · exact Nat.le_of_lt ((sub_ok G hU).2 l k h hk)
    · have : l = k := by omega
      rw [this]; exact Nat.le_refl _
theorem u_pw {k : Nat} (hk : k < U.length) : gU P U (pw P (gt U k) (gt P.orders (dep (gt U k))).toNat) ∧ ∀ j, j ≤ dep (gt U k) → gt (pw P (gt U k) (gt P.orders (dep (gt U k))).toNat) j = 0 := by
  obtain ⟨h1, h2, h3⟩ := uE_dT G hU hk
  have S := G.subB hU
  have hm : gU P U (gt U k) := (genP_mem (gtMem hk))
  have ho := G.v.ord7 _ h1
  refine ⟨?_, fun j hj => ?_⟩
  · generalize (gt P.orders (dep (gt U k))).toNat = m
    induction m with
    | zero => exact S.one
    | succ m ih => rw [pw_succ]; exact S.mul _ _ ih hm
  · rw [← uE_val G hU hk, ← ep_val]
    rcases Nat.lt_or_ge j (dep (gt U k)) with h | h
    · rw [uE_val G hU hk]; exact ep_dT (Nat.le_of_lt h1) h2 _ j h
    · have : j = dep (gt U k) := by omega
      rw [this]
      rw [uE_val G hU hk, ep_at h1 h2, h3, Int.mul_one, Int.toNat_of_nonneg (by omega), Int.emod_self]
theorem u_cj {k l : Nat} (hkl : k < l) (hl : l < U.length) : gU P U (rConj P (gt U l) (gt U k)) ∧ ∀ j, j ≤ dep (gt U k) → gt (rConj P (gt U l) (gt U k)) j = 0 := by
  obtain ⟨h1, h2, h3⟩ := uE_dT G hU (k := k) (by omega)
  obtain ⟨g1, g2, g3⟩ := uE_dT G hU hl
  have S := G.subB hU
  have hmk : gU P U (gt U k) := (genP_mem (gtMem (by omega)))
  have hml : gU P U (gt U l) := (genP_mem (gtMem hl))
  have hd := (sub_ok G hU).2 k l hkl hl
  refine ⟨S.mul _ _ (S.inv _ hmk) (S.mul _ _ hml hmk), fun j hj => ?_⟩
  have hlz : gt (uE G hU l).1 (dep (gt U k)) = 0 := g2 _ hd
  have hll : dT (dep (gt U k)) (uE G hU l) := fun j hj => g2 j (by omega)
  have k1 := (G.right (Nat.le_of_lt h1) (uE G hU l).2 (dT_T.1 h2)).2 h1
  have k2 : gt (uE G hU l * uE G hU k).1 (dep (gt U k)) = 1 := by
    show gt (rMul P _ _) _ = 1
    have ho := G.v.ord7 _ h1
    rw [k1, hlz, h3, Int.zero_add, Int.emod_eq_of_lt (by omega) (by omega)]
  have k3 := el_diff h1 h2 ((dT_sg (Nat.le_of_lt h1)).mul _ _ hll h2) (by rw [h3, k2])
  have e : rConj P (gt U l) (gt U k) = ((uE G hU k)⁻¹ * (uE G hU l * uE G hU k)).1 := by
    show _ = rMul P (rInv P _) (rMul P _ _)
    rw [uE_val G hU hl, uE_val G hU (show k < U.length by omega)]; rfl
  rw [e]
  exact k3 j (by omega)
theorem sub_valid : Valid (subP P U) := by
  have hP := G.v
  have hd := fun k (hk : k < U.length) => (uE_dT G hU hk).1
  refine ⟨?_, ?_, ?_, ?_, ?_, ?_, ?_⟩
  · have e : ∀ k, k ≤ U.length → prodTo (subP P U).orders k = prodU P U k := fun k => by
      induction k with
      | zero => intro _; rfl
      | succ k ih => intro h; rw [prodTo, prodU, ih (by omega), gt_subO (by omega)]
    rw [sub_n, e _ (Nat.le_refl _)]
    exact (prodU_729 hP (sub_ok G hU) _ (Nat.le_refl _)).2
  · rw [sub_n]
    have h1 := G.cseq_len (G.subB hU)
    have e : cseq P (gP P U) = U := hU.2.symm
    rw [e] at h1
    have := hP.n6; omega
  · rw [sub_n]; show (U.map _).length = _; rw [List.length_map]
  · rw [sub_n]; show ((List.range _).map _).length = _; rw [List.length_map, List.length_range]
  · intro k hk
    rw [sub_n] at hk
    rw [gt_subO hk]; exact hP.ord _ (hd k hk)
  · intro k hk
    rw [sub_n] at hk
    rw [gt_subP hk]
    have h := u_pw G hU hk
    exact ⟨mx_vec G hU h.1, mx_zero G hU h.1 hk h.2⟩
  · intro k hk
    rw [sub_n] at hk
    refine ⟨?_, fun j hj => ?_⟩
    · have e : gt (subP P U).conj k = (U.drop (k + 1)).map (fun y => mxV P U (rConj P y (gt U k))) := by
        show gt ((List.range U.length).map _) k = _
        rw [gt_map _ _ _ (by rw [List.length_range]; exact hk), gt_range hk]
      rw [e, List.length_map, List.length_drop, sub_n]; omega
    · rw [sub_n] at hj
      have e := gt_subC (P := P) (U := U) (k := k) (l := k + 1 + j) (by omega) (by omega)
      rw [show k + 1 + j - k - 1 = j by omega] at e
      rw [e]
      have h := u_cj G hU (k := k) (l := k + 1 + j) (by omega) (by omega)
      exact ⟨mx_vec G hU h.1, mx_zero G hU h.1 hk h.2⟩
theorem sx_mx {X : El G} (hX : gU P U X.1) : npr (· * ·) (uE G hU) (mxV P U X.1) 0 1 U.length = X := by
  have h := (mx_spec G hU hX).2.2
  rw [exP_sx G hU _ _ (Nat.le_refl _)] at h
  exact Subtype.ext h
theorem sub_holds : Holds (subP P U) (fun _ => True) (fun a b : El G => a * b) 1 (uE G hU) 0 := by
  have hQ := sub_valid G hU
  refine ⟨fun _ _ _ => trivial, fun k _ hk => ?_, fun k l _ hkl hl => ?_⟩
  · rw [sub_n] at hk
    have e2 : (subP P U).orders.length = (k + 1) + ((subP P U).orders.length - (k + 1)) := by rw [sub_n]; omega
    have k2 := npr_skip (m := fun a b : El G => a * b) (h := uE G hU) (e := (1 : El G)) (x := gt (subP P U).powers k) (i := k + 1) (f := (subP P U).orders.length - (k + 1)) (fun l hl => (hQ.pv k (by rw [sub_n]; exact hk)).2 l (by omega))
    rw [← e2] at k2
    rw [← k2, gt_subP hk, sub_n, gt_subO hk]
    have h := (u_pw G hU hk).1
    have e3 : pw P (gt U k) (gt P.orders (dep (gt U k))).toNat = (ep (uE G hU k) (gt P.orders (dep (gt U k))).toNat).1 := by rw [ep_val, uE_val G hU hk]
    rw [e3] at h ⊢
    rw [sx_mx G hU h]
    exact iter_ep G _ _
  · rw [sub_n] at hl
    have hk : k < U.length := by omega
    have hc := (hQ.cv k (by rw [sub_n]; exact hk)).2 (l - k - 1) (by rw [sub_n]; omega)
    have e2 : (subP P U).orders.length = (k + 1) + ((subP P U).orders.length - (k + 1)) := by rw [sub_n]; omega
    have k2 := npr_skip (m := fun a b : El G => a * b) (h := uE G hU) (e := (1 : El G)) (x := gt (gt (subP P U).conj k) (l - k - 1)) (i := k + 1) (f := (subP P U).orders.length - (k + 1)) (fun j hj => hc.2 j (by omega))
    rw [← e2] at k2
    rw [← k2, gt_subC hkl hl, sub_n]
    have h := (u_cj G hU hkl hl).1
    have e : rConj P (gt U l) (gt U k) = ((uE G hU k)⁻¹ * (uE G hU l * uE G hU k)).1 := by
      show _ = rMul P (rInv P _) (rMul P _ _)
      rw [uE_val G hU hl, uE_val G hU hk]; rfl
    rw [e] at h ⊢
    rw [sx_mx G hU h, El.irc]
/-- the subgroup's presentation is consistent -/
theorem sub_cons : rconsB (subP P U) = true := by
  refine real_cons (sub_valid G hU) (el_mon G) (sub_holds G hU) (fun j hj a b h => ?_) (fun x y hx hy h => ?_)
  · have h2 : uE G hU j * a = uE G hU j * b := h
    rw [← El.ilc (uE G hU j) a, h2, El.ilc]
  · rw [sub_n] at h
    obtain ⟨l1, r1⟩ := sv_rng hx
    obtain ⟨l2, r2⟩ := sv_rng hy
    exact ext_gt (by rw [l1, l2]) (fun j hj => sx_inj G hU r1 r2 U.length 0 (Nat.zero_add _) h j (Nat.zero_le _) (by omega))
end

end Go.Proofs.YtldheeicjnncoaaGreat
namespace Go.Proofs.YtldheeicjnncoaaGreat

/-- the tail at an index -/
def tailP (P : Pr) (i : Nat) : Pr :=
  { orders := P.orders.drop i
    powers := (P.powers.drop i).map (fun x => x.drop i)
    conj := (P.conj.drop i).map (fun r => r.map (fun x => x.drop i)) }
/-- the head at an index -/
def headP (P : Pr) (i : Nat) : Pr :=
  { orders := P.orders.take i
    powers := (P.powers.take i).map (fun x => x.take i)
    conj := (List.range i).map (fun k => ((gt P.conj k).take (i - 1 - k)).map (fun x => x.take i)) }
/-- the tail is normal, by the relations -/
def TlN (P : Pr) (i : Nat) : Prop := ∀ h, h < i → ∀ j, i ≤ j → j < P.orders.length → ∀ k, k < i → gt (gt (gt P.conj h) (j - h - 1)) k = 0

end Go.Proofs.YtldheeicjnncoaaGreat
