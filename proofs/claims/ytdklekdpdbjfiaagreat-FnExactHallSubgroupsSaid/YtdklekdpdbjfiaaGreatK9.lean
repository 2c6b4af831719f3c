/-
  impl.meet, impl.productSize.
  spec.l13Conj: a conjugate of a subgroup.
  Plain: the entries of a list at the places with a property.
  Plain: the minimal normal subgroups, as both sides pick them.
  spec.l20Part, l20Found, l20All. (Printed by gen_found.py.)
  Plain: the values of the Hall statements.
  spec.l19Table: the numbers of all products.
  spec.l19Span: the mask of the subgroup that some elements generate.
  spec.l19Sequence: the sequence of the subgroup that a mask tells.
  spec.l19Bits: the mask of a subgroup's sequence.
  spec.l19Full: the lattice by the reference.
  spec.l19Code, l19All, l19Own.
  impl.copyRows, impl.core.
  The reference's intersections, conjugates and sizes of product sets: spec.l13Meet, l13Conj, l13Size; impl.productSize.
  spec.l02Unit, l12Whole: the whole group's sequence.
  spec.l02Unit, l12Whole, l13Core.
  The library's sort on a slice that the call has built: any elements of one cell in blocks of their own, any comparison that lays blocks and draws but turns nothing.
  The library's sort at [][][]int64 with the lattice's comparison.
  The library's sort with the comparison of Hall subgroups. (Turned from CmpW, SortL3.)
  The key tells the subgroup.
  append of a subgroup that lay there before to a list of subgroups. (Printed from AppTake.)
  Vectors of different kinds lie in different blocks; an append that tells where the new vector lies.
  (*impl.lattice).classes: the first subgroups of the classes of conjugate subgroups, and the sizes.
  impl.hallSubgroups. (Printed by gen_hall.py.)
  HallSubgroups, HallSubgroup, SylowCount, PrimeCore: the program's side.
  HallSubgroups, HallSubgroup, SylowCount, PrimeCore: the reference's side.
  The rows' arguments: how a presentation that came in, or a list, reads in this claim's words.
-/
import Derived.Test.YtdklekdpdbjfiaaGreatK5
import Derived.Test.YtdklekdpdbjfiaaGreatK8
import Derived.Test.YtdklekdpdbjfiaaGreatK6
import Derived.Test.YtdklekdpdbjfiaaGreatK7
import Derived.Test.YtdklekdpdbjfiaaGreatK1
import Derived.Test.YtdklekdpdbjfiaaGreatK2
import Derived.Carry
import Derived.Deep.Slices
import Derived.ChangeSame
import Derived.ChangeSlices
import Derived.JoinedOf
import Derived.JoinedAt
import Derived.JoinedCond
import Derived.ReadAgain
/- impl.meet, impl.productSize. -/
namespace Go.Proofs.YtdklekdpdbjfiaaGreat
open Go.RowKit

/-- the members of the first k rows that lie in K -/
def inTo (E : List (List Int)) (K : List Int → Prop) (k : Nat) (x : List Int) : Prop := x ∈ E.take k ∧ K x

theorem inTo_succ {E : List (List Int)} {K : List Int → Prop} {k : Nat} (hk : k < E.length) (hK : K (gt E k)) : (fun x => inTo E K k x ∨ x ∈ [gt E k]) = inTo E K (k + 1) := by
  funext x
  unfold inTo
  rw [take_succ_gt E k hk]
  simp only [List.mem_append, List.mem_singleton, eq_iff_iff]
  constructor
  · rintro (⟨h1, h2⟩ | h)
    · exact ⟨.inl h1, h2⟩
    · exact ⟨.inr h, by rw [h]; exact hK⟩
  · rintro ⟨h | h, h2⟩
    · exact .inl ⟨h, h2⟩
    · exact .inr h
theorem inTo_skip {E : List (List Int)} {K : List Int → Prop} {k : Nat} (hk : k < E.length) (hK : ¬ K (gt E k)) : inTo E K (k + 1) = inTo E K k := by
  funext x
  unfold inTo
  rw [take_succ_gt E k hk]
  simp only [List.mem_append, List.mem_singleton, eq_iff_iff]
  constructor
  · rintro ⟨h | h, h2⟩
    · exact ⟨h, h2⟩
    · exact absurd (by rw [← h]; exact h2) hK
  · rintro ⟨h, h2⟩
    exact ⟨.inl h, h2⟩
theorem inTo_zero (E : List (List Int)) (K : List Int → Prop) : inTo E K 0 = fun _ => False := by
  funext x; unfold inTo; simp
theorem inTo_all {P : Pr} {H K : List Int → Prop} (hP : Valid P) (S : Sub P H) (E : List (List Int)) (hE : E = elemsIn P H) : inTo E K E.length = fun x => H x ∧ K x := by
  funext x
  unfold inTo
  rw [List.take_length, hE, elemsIn_mem hP S.vec]

theorem rows2One {S S' : Nat → Prop} {w : World} {u : Value} {X : List Int} (h : Ints S w u X) (hS : ∀ k, S k → k < w.heap.size → S' k) (hn : S' w.heap.size) : Rows2 S' (w.alloc (.cells #[u] 22)) (.slice (some ⟨w.heap.size, 0, none⟩) 1 1) [X] := by
  refine ⟨_, 1, rfl, ⟨by simp, by simp, fun h => by cases h⟩, fun i hi => ?_⟩
  have : i = 0 := by simpa using hi
  subst this
  have hg : Ext w (w.alloc (.cells #[u] 22)) := World.grownBy_alloc _ _ _
  refine ⟨w.heap.size, 0, u, rfl, hn, by simp, by rw [World.cell?_alloc_at _ _ _ _ rfl]; rfl, ?_⟩
  exact Ints.mono h (fun k hk hlt => ⟨hS k hk hlt, Nat.lt_of_lt_of_le hlt hg.size, hg.block k hlt (by simp)⟩)

set_option maxRecDepth 100000 in
set_option maxHeartbeats 8000000 in
theorem meet_ok (P : Pr) (G : Grp P) (w : World) (p uv vv : Value) (H K : List Int → Prop) (Sp Su Sv : Nat → Prop) (S : Sub P H) (R : Sub P K) (hp : PresP Sp w p P) (hu : Rows2 Su w uv (cseq P H)) (hv : Rows2 Sv w vv (cseq P K)) :
    Calls Tryz.prog 97 #[p, uv, vv] w (Ret w fun w' v => RowsO w.heap.size w' v (cseq P (fun x => H x ∧ K x))) := by
  have hP := G.v
  have hn6 := hP.n6
  obtain ⟨pb, po, rfl⟩ := hp.shape
  have hlH := G.cseq_len S
  have hlK := G.cseq_len R
  have hsH := (G.seq_facts S).1
  have hsK := (G.seq_facts R).1
  obtain ⟨au, capu, rfl, _, _⟩ := Sl.shape hu
  obtain ⟨av, capv, rfl, _, _⟩ := Sl.shape hv
  have hsel : ∃ (H1 K1 : List Int → Prop) (u1 v1 : Value), Sub P H1 ∧ Sub P K1 ∧ Rows2 Any w u1 (cseq P H1) ∧ Rows2 Any w v1 (cseq P K1) ∧ (fun x => H1 x ∧ K1 x) = (fun x => H x ∧ K x) ∧
      ((prodU P (cseq P K) (cseq P K).length < prodU P (cseq P H) (cseq P H).length ∧ u1 = .slice av (cseq P K).length capv ∧ v1 = .slice au (cseq P H).length capu) ∨
       (¬ prodU P (cseq P K) (cseq P K).length < prodU P (cseq P H) (cseq P H).length ∧ u1 = .slice au (cseq P H).length capu ∧ v1 = .slice av (cseq P K).length capv)) := by
    have hu' := Rows2.sub hu (S' := Any) (fun _ _ _ => trivial)
    have hv' := Rows2.sub hv (S' := Any) (fun _ _ _ => trivial)
    by_cases h : prodU P (cseq P K) (cseq P K).length < prodU P (cseq P H) (cseq P H).length
    · exact ⟨K, H, _, _, R, S, hv', hu', funext fun x => propext ⟨fun h => ⟨h.2, h.1⟩, fun h => ⟨h.2, h.1⟩⟩, .inl ⟨h, rfl, rfl⟩⟩
    · exact ⟨H, K, _, _, S, R, hu', hv', rfl, .inr ⟨h, rfl, rfl⟩⟩
  obtain ⟨H1, K1, u1, v1, S1, R1, hu1, hv1, hHK, hsel⟩ := hsel
  have hlH1 := G.cseq_len S1
  have hE := G.els_sorted S1
  have hs1 := (G.seq_facts S1).1
  have HX := Lib.hid (And.intro hsH (And.intro hsK (And.intro hHK (And.intro hE hs1)))); clear hsH hsK hHK hE hs1
  obtain ⟨E, hEe⟩ : ∃ E, E = elemsIn P H1 := ⟨_, rfl⟩
  have hEl : E.length ≤ 729 := by rw [hEe]; exact elemsIn_len hP H1
  have HE := Lib.hid hEe; clear hEe
  go_enter Tryz.func97, Tryz.ntmps97
  go_wp2_with fail
  refine Calls.mono (sizeOf_ok P hP w _ _ (cseq P H) Sp Su hp hu HX.out.1 (by omega)) ?_
  rintro eA wA ⟨vA, rfl, hgA, rfl⟩
  go_wp2_with fail
  refine Calls.mono (sizeOf_ok P hP wA _ _ (cseq P K) Sp Sv (hp.ext hgA) (Rows2.ext hv hgA) HX.out.2.1 (by omega)) ?_
  rintro eB wB ⟨vB, rfl, hgB, rfl⟩
  have hgw := grown_trans hgA hgB
  obtain ⟨m1, hm1⟩ : ∃ m1, m1 = prodU P (cseq P H) (cseq P H).length := ⟨_, rfl⟩
  obtain ⟨m2, hm2⟩ : ∃ m2, m2 = prodU P (cseq P K) (cseq P K).length := ⟨_, rfl⟩
  rw [← hm1, ← hm2] at hsel ⊢
  clear hm1 hm2 hu hv
  rcases hsel with ⟨hc, rfl, rfl⟩ | ⟨hc, rfl, rfl⟩
  all_goals
    go_wp2_with fail
    clear hc
    refine Calls.mono (newSequence_ok P wB _ Sp (fun _ => False) (hp.ext hgw) hn6) ?_
    rintro e1 w1 ⟨v1, rfl, hg1, sb, gb, rfl, hs⟩
    have hgb := hs.tab.lt
    have hsb := hs.sB
    have hsl := hs.slt
    have hgw1 := grown_trans hgw hg1
    go_wp2_with fail
    refine Calls.mono (elementsOf_ok P G w1 _ _ (cseq P H1) Sp Any (hp.ext hgw1) (Rows2.ext hu1 hgw1) HX.out.2.2.2.2 (by omega)) ?_
    rintro e2 w2 ⟨v2, rfl, hg2, hO⟩
    rw [HX.out.2.2.2.1, ← HE.out] at hO
    have hgw2 := grown_trans hgw1 hg2
    have hER := RowsD.rows (SlO.toD hO (by omega))
    obtain ⟨ae, cape, hve, _, _⟩ := Sl.shape hER
    subst hve
    have hER2 : Rows2 (fun j => w1.heap.size ≤ j) w2 (.slice ae E.length cape) E := hER
    have hs2 := hs.ext hg2
    have hwB := hgw.size
    clear hO hER hs
    go_wp2
    go_loopw [25] (fun iv wr => ∃ (k : Nat) (b : List (List Int)), iv = .int .i64 k ∧ k ≤ E.length ∧ Ext w wr ∧ SeqAt wB.heap.size (fun _ => False) wr sb gb (.pointer (some ⟨pb, po, none⟩)) P.orders.length b ∧ Rows2 (fun j => w1.heap.size ≤ j) wr (.slice ae E.length cape) E ∧ Hid (Ind P (genP P (inTo E K1 k)) (gt b))) (fun iv _ => E.length - (intOf iv).toNat)
    case atStart => exact ⟨0, _, rfl, by omega, hgw2, hs2, hER2, Lib.hid (by rw [inTo_zero, G.genP_none]; exact G.ind_one)⟩
    case round =>
      clear hs2 hER2
      obtain ⟨k, b, rfl, hk, hg, hs, hER, hI⟩ := hrel
      by_cases hlt : k < E.length
      · have hlt' : (k : Int) < E.length := by omega
        obtain ⟨bb, off, a2, cap2, rfl, _, _, hc, hr⟩ := Rows2.at hER k hlt
        have hXV : Vec P.orders (gt E k) := S1.vec _ ((elemsIn_mem hP S1.vec _).1 (by rw [← HE.out]; exact gtMem hlt))
        have HXV := Lib.hid hXV; clear hXV
        go_wp2_with fail
        clear hc
        refine Calls.mono (isMember_ok P G wr _ _ _ K1 (gt E k) Sp Any _ R1 (hp.ext hg) (Rows2.ext hv1 hg) hr HXV.out) ?_
        rintro e3 w3 ⟨v3, rfl, hg3, r, rfl, hr3⟩
        have hg03 := grown_trans hg hg3
        cases r with
        | false =>
          have hI2 : Hid (Ind P (genP P (inTo E K1 (k + 1))) (gt b)) := Lib.hid (by rw [inTo_skip hlt (fun h => by have := hr3.2 h; cases this)]; exact hI.out)
          have hs3 := hs.ext hg3
          have hER3 := Rows2.ext hER hg3
          clear hr3
          go_wp2
          go_roundw
          case rel => exact ⟨k + 1, b, by go_num, by omega, hg03, hs3, hER3, hI2⟩
          case measure => simp [intOf]; omega
        | true =>
          have hin := inTo_succ hlt (hr3.1 rfl)
          have HIN := Lib.hid hin; clear hin hr3
          have hga : Ext w3 (w3.alloc (.cells #[.slice a2 (gt E k).length cap2] 22)) := World.grownBy_alloc _ _ _
          have hg3s := hg3.size
          have hws := hs.slt
          have hwt := hs.tab.lt
          have hlit := rows2One (S' := fun j => ¬ (j = gb ∨ j = sb)) (Ints.ext hr hg3) (fun j hj hlt => by omega) (by omega)
          have hgwa := grown_trans hg03 hga
          have hadd := add_ok P G (w3.alloc (.cells #[.slice a2 (gt E k).length cap2] 22)) sb gb wB.heap.size _ _ [gt E k] b _ (hp.mono (fun j _ hj => ⟨by omega, Nat.lt_of_lt_of_le hj hgwa.size, hgwa.block j hj (by simp)⟩)) ((hs.ext hg3).ext hga) hI.out (fun x hx => by rw [List.mem_singleton.1 hx]; exact HXV.out) hlit (by simp)
          have HA := Lib.hid hadd; clear hadd
          go_wp2_with fail
          refine Calls.mono HA.out ?_
          rintro e4 w4 ⟨b4, g4, rfl, hg4, hs4, hA4, _, _⟩
          rw [genP_or, HIN.out] at hA4
          have hgw4 : Ext w w4 := grown_own hgwa hg4 (fun j hj hlt => by cases hj; omega)
          have hER4 : Rows2 (fun j => w1.heap.size ≤ j) w4 (.slice (some ⟨bb, off, none⟩) E.length cape) E := Rows2.mono hER (fun j hj hlt => ⟨hj, Nat.lt_of_lt_of_le hlt (Nat.le_trans hg3.size (Nat.le_trans hga.size hg4.size)), (hg4.block j (Nat.lt_of_lt_of_le hlt (Nat.le_trans hg3.size hga.size)) (fun e => by cases e; omega)).trans ((hga.block j (Nat.lt_of_lt_of_le hlt hg3.size) (by simp)).trans (hg3.block j hlt (by simp)))⟩)
          have HA4 := Lib.hid hA4; clear hA4 HA hlit
          go_wp2
          go_roundw
          case rel => exact ⟨k + 1, b4, by go_num, by omega, hgw4, hs4, hER4, HA4⟩
          case measure => simp [intOf]; omega
      · have hke : k = E.length := by omega
        have hI2 : Hid (Ind P (fun x => H x ∧ K x) (gt b)) := Lib.hid (by
          have h := hI.out
          rw [hke, inTo_all hP S1 E HE.out, genP_self (S1.and R1), HX.out.2.2.1] at h
          exact h)
        subst hke
        clear hI
        go_wp2_with fail
        refine Calls.mono (canonical_ok P G wr sb gb wB.heap.size _ b _ _ _ (hp.ext hg) hs hI2.out) ?_
        rintro e5 w5 ⟨v5, rfl, hg5, hO5⟩
        go_wp2
        go_ret
        exact ⟨_, rfl, grown_trans hg hg5, hO5.weak hg.size⟩

end Go.Proofs.YtdklekdpdbjfiaaGreat

/- spec.l13Conj: a conjugate of a subgroup. -/
namespace Go.Proofs.YtdklekdpdbjfiaaGreat
open Go.RowKit

set_option maxRecDepth 100000 in
set_option maxHeartbeats 4000000 in
theorem l13Conj_ok (P : Pr) (G : Grp P) (w : World) (pv uv xv : Value) (L : List (List Int)) (X : List Int) (Sp Su Sx : Nat → Prop) (hpv : PresV Sp w pv P) (hu : Rows2 Su w uv L) (hL : ∀ y ∈ L, Vec P.orders y) (hlen : L.length ≤ 10000) (hx : Ints Sx w xv X) (hX : Vec P.orders X) :
    Calls Tryz.prog 129 #[pv, uv, xv] w (Ret w fun w' v => Rows2 Any w' v (cseq P (genP P (fun z => z ∈ conjL P L X)))) := by
  have hP := G.v
  have hn6 := hP.n6
  obtain ⟨vo, vp, vc, rfl, h3⟩ := hpv
  have hp0 := PresP.box h3 31
  have hg0 : Ext w (w.alloc (.cells #[vo, vp, vc] 31)) := World.grownBy_alloc _ _ _
  have hs0 : (w.alloc (.cells #[vo, vp, vc] 31)).heap.size = w.heap.size + 1 := by simp
  have hu0 := Rows2.ext hu hg0
  have hx0 := hx.ext hg0
  obtain ⟨au, capu, rfl, _, _⟩ := Sl.shape hu
  obtain ⟨ax, capx, rfl, _, _⟩ := hx.shape
  obtain ⟨vo6, vp6, vc6, _, _, hc0, hc1, hc2, h36⟩ := hp0.at
  simp only [Nat.zero_add] at hc1 hc2
  have hcl : (conjL P L X).length = L.length := by unfold conjL; rw [List.length_map]
  have hCV : ∀ z ∈ conjL P L X, Vec P.orders z := fun z hz => by
    unfold conjL at hz
    obtain ⟨y, hy, rfl⟩ := List.mem_map.1 hz
    exact G.conjV (hL y hy) hX
  have HL := Lib.hid (And.intro hL (And.intro hX (And.intro hcl hCV))); clear hL hX hcl hCV hp0 hu hx
  go_enter Tryz.func129, Tryz.ntmps129
  go_wp2
  have HS := Lib.hid hs0; clear hs0
  generalize hw0 : w.alloc (.cells #[vo, vp, vc] 31) = w0 at *
  clear hw0
  have f1 : ∀ w', Ext w0 w' → w'.cell? ⟨w.heap.size, 0, none⟩ = some vo6 := fun w' h => h.cell hc0 (by simp)
  have f2 : ∀ w', Ext w0 w' → w'.cell? ⟨w.heap.size, 1, none⟩ = some vp6 := fun w' h => h.cell hc1 (by simp)
  have f3 : ∀ w', Ext w0 w' → w'.cell? ⟨w.heap.size, 2, none⟩ = some vc6 := fun w' h => h.cell hc2 (by simp)
  have HF := Lib.hid (And.intro f1 (And.intro f2 f3)); clear f1 f2 f3 hc0 hc1 hc2
  go_loopw [7, 8] (fun ov iv wr => ∃ (k : Nat) (v4 : Value), v4 = ov ∧ iv = .int .i64 k ∧ k ≤ L.length ∧ Ext w0 wr ∧ ShQ (fun _ => False) w0.heap.size wr v4 ((conjL P L X).take k)) (fun _ iv _ => L.length - (intOf iv).toNat)
  case atStart => exact ⟨0, _, rfl, rfl, by omega, World.grownBy_alloc _ _ _, by rw [← HS.out]; exact ShQ.lit _ _ _ (Nat.le_refl _)⟩
  case round =>
    obtain ⟨k, v4, rfl, rfl, hk, hg, hQ⟩ := hrel
    by_cases hlt : k < L.length
    · have hlt' : (k : Int) < L.length := by omega
      obtain ⟨b, off, a2, cap2, rfl, _, _, hc, hr⟩ := Rows2.at hu0 k hlt
      have hyV := HL.out.1 _ (gtMem hlt)
      have hstep : (conjL P L X).take (k + 1) = (conjL P L X).take k ++ [rConj P (gt L k) X] := by
        rw [take_succ_gt _ k (by rw [HL.out.2.2.1]; exact hlt)]
        unfold conjL
        rw [gt_map _ _ _ hlt]
      have htl : ((conjL P L X).take k).length ≤ 1000000 := by rw [List.length_take]; have := HL.out.2.2.1; omega
      have hcV := G.conjV hyV HL.out.2.1
      have hqlt : ∀ j, v4.ownBlock = some j → w0.heap.size ≤ j := fun j hj => (hQ.lt j hj).1
      have HST := Lib.hid (And.intro hstep (And.intro hyV (And.intro htl hcV))); clear hstep hyV htl hcV
      obtain ⟨f1, f2, f3⟩ := HF.out
      have f4 : ∀ w', Ext w0 w' → w'.cell? ⟨b, off + k, none⟩ = some (.slice a2 (gt L k).length cap2) := fun w' h => h.cell hc (by simp)
      clear hc
      go_wp2
      go_region_held3 (fun w' => Ext w0 w') (first | exact grown_trans hg (grown_drew _ _) | assumption | exact grown_trans hgC (World.grownBy_alloc _ _ _))
        (first
          | (go_at_call 194; refine Calls.mono (Calls.rel2 (w0 := w0) (by assumption) (l10Conj_ok P hP _ _ _ _ (gt L k) X Any Any Any ⟨_, _, _, rfl, Pres3.ext h36 (by assumption)⟩ (Ints.sub (Ints.ext hr (by assumption)) (fun _ _ _ => trivial)) (Ints.sub (Ints.ext hx0 (by assumption)) (fun _ _ _ => trivial)) HST.out.2.1 HL.out.2.1)) ?_; rintro eC wC ⟨vC, rfl, hgC, hgC2, hsC, hOC⟩; have hgrC : Ext wr wC := grown_trans (grown_drew _ _) hgC2; have hCI : Ints (fun j => ¬ False ∧ v4.ownBlock ≠ some j) wC vC (rConj P (gt L k) X) := ints_of_own hOC (by rw [HST.out.2.2.2.1]; omega) (fun j hj => ⟨id, fun e => by have h1 := (hOC.lt j hj).1; have h2 := (hQ.lt j e).2; have h3 : wr.heap.size ≤ wr.drew.heap.size := (grown_drew wr none).size; omega⟩); obtain ⟨aC, capC, hvC, _, _⟩ := hCI.shape; subst hvC)
          | (refine step_shq_app rfl _ _ rfl (fun _ => False) w0.heap.size v4 _ ((conjL P L X).take k) _ rfl wC (hQ.ext hgrC) rfl hCI rfl HST.out.2.2.1 hgC.size ?_; intro v5 w5 hQ5 hg5 hb5; have hgw5 : Ext w0 w5 := grown_own hgC hg5 (fun j hj hlt => by have := hqlt j hj; omega)))
      clear f1 f2 f3 f4
      rw [← HST.out.1] at hQ5
      go_wp2
      go_roundw
      case rel => exact ⟨k + 1, v5, rfl, by go_num, by omega, hgw5, hQ5⟩
      case measure => simp [intOf]; omega
    · have hke : k = L.length := by omega
      subst hke
      rw [List.take_of_length_le (by rw [HL.out.2.2.1]; exact Nat.le_refl _)] at hQ
      obtain ⟨f1, f2, f3⟩ := HF.out
      have hb0 := f1 wr hg
      have hb1 := f2 wr hg
      have hb2 := f3 wr hg
      clear f1 f2 f3
      have hQR := hQ.rows
      obtain ⟨aq, capq, hvq, _, _⟩ := Sl.shape hQR
      subst hvq
      go_wp2_with fail
      clear hb0 hb1 hb2
      refine Calls.mono (l12Close_ok P G wr _ _ (conjL P L X) Any Any ⟨_, _, _, rfl, Pres3.ext h36 hg⟩ hQR HL.out.2.2.2 (by have := HL.out.2.2.1; omega)) ?_
      rintro eF wF ⟨vF, rfl, hgF, hRF⟩
      go_wp2
      go_ret
      exact ⟨_, rfl, grown_trans hg0 (grown_trans hg hgF), hRF⟩

end Go.Proofs.YtdklekdpdbjfiaaGreat

/- Plain: the entries of a list at the places with a property. -/
namespace Go.Proofs.YtdklekdpdbjfiaaGreat
open Go.RowKit

end Go.Proofs.YtdklekdpdbjfiaaGreat

/- Plain: the minimal normal subgroups, as both sides pick them. -/
namespace Go.Proofs.YtdklekdpdbjfiaaGreat
open Go.RowKit

section
variable {P : Pr} (G : Grp P)
include G
theorem Grp.subB_nil : SubB P [] := by
  have h := G.subB_cseq G.sub_one
  have hl := G.order_elems G.sub_one
  have e : cseq P (fun x => x = zeros P.orders.length) = [] := by
    have hf := G.seq_facts G.sub_one
    cases hc : cseq P (fun x => x = zeros P.orders.length) with
    | nil => rfl
    | cons z l =>
      exfalso
      have hz := hf.2.1 z (by rw [hc]; exact List.mem_cons_self ..)
      have hs := (hf.1.1 z (by rw [hc]; exact List.mem_cons_self ..)).2.2
      rw [hz] at hs
      have : gt (zeros P.orders.length) (dep (zeros P.orders.length)) = 0 := gt_replicate _ _
      omega
  rw [e] at h
  exact h
theorem Grp.ord_pos {u : List (List Int)} (hu : SubB P u) : 1 ≤ prodU P u u.length := by
  have h := (G.seq_facts (G.subB hu)).1
  rw [← hu.2] at h
  exact (prodU_729 G.v h _ (Nat.le_refl _)).1
end

end Go.Proofs.YtdklekdpdbjfiaaGreat

/- spec.l20Part, l20Found, l20All. (Printed by gen_found.py.) -/
namespace Go.Proofs.YtdklekdpdbjfiaaGreat
open Go.RowKit

theorem seqOk_subB' {P : Pr} (G : Grp P) {u : List (List Int)} (hu : SubB P u) : SeqOk P u := by
  have h := (G.seq_facts (G.subB hu)).1
  have e : cseq P (genP P fun x => x ∈ u) = u := hu.2.symm
  rw [e] at h
  exact h

theorem prSet_prime {pr : List Int} (h : PrSet pr) {i : Nat} (hi : i < pr.length) : ∃ p : Nat, gt pr i = (p : Int) ∧ (p = 2 ∨ p = 3 ∨ p = 5 ∨ p = 7) := by
  have := primeB_true.1 (h i hi).1
  exact ⟨(gt pr i).toNat, by omega, by omega⟩
theorem prSet_lt {pr : List Int} (h : PrSet pr) : ∀ j i, j < i → i < pr.length → gt pr j < gt pr i
  | j, 0, hj, _ => by omega
  | j, i + 1, hj, hi => by
    have h1 := (h (i + 1) hi).2 (by omega)
    rw [Nat.add_sub_cancel] at h1
    rcases Nat.lt_succ_iff_lt_or_eq.1 hj with h2 | h2
    · have := prSet_lt h j i h2 (by omega)
      omega
    · subst h2; exact h1

set_option maxRecDepth 100000 in
set_option maxHeartbeats 1000000 in
theorem l20Part_ok (P : Pr) (G : Grp P) (pr : List Int) (hpr : PrSet pr) (Q : Nat → Prop) (w : World) (v : Value) (S : Nat → Prop) (hv : Ints S w v pr) :
    Calls Tryz.prog 192 #[.int .i64 ((prd P Q P.orders.length 0 : Nat) : Int), v] w (Ret w fun _ r => r = .int .i64 ((prd P (fun d => Q d ∧ gt P.orders d ∈ pr) P.orders.length 0 : Nat) : Int)) := by
  have hb := prd_729 G Q
  have hstep : ∀ i, i < pr.length → prd P (fun d => Q d ∧ gt P.orders d ∈ pr.take i) P.orders.length 0 * prd P (fun d => Q d ∧ gt P.orders d = gt pr i) P.orders.length 0 = prd P (fun d => Q d ∧ gt P.orders d ∈ pr.take (i + 1)) P.orders.length 0 := fun i hi => by
    rw [prd_mul _ _ (fun k _ _ h1 h2 => by
      obtain ⟨j, hj, e⟩ := mem_gt h1.2
      rw [List.length_take] at hj
      have e2 : gt (pr.take i) j = gt pr j := gt_take (by omega)
      have := prSet_lt hpr j i (by omega) hi
      rw [e2] at e
      have := h2.2
      omega)]
    refine prd_congr _ _ (fun k _ _ => ?_)
    rw [take_succ_gt pr i hi, List.mem_append, List.mem_singleton]
    exact ⟨fun h => h.elim (fun h => ⟨h.1, .inl h.2⟩) (fun h => ⟨h.1, .inr h.2⟩), fun h => h.2.elim (fun h2 => .inl ⟨h.1, h2⟩) (fun h2 => .inr ⟨h.1, h2⟩)⟩
  have hbd : ∀ i, 1 ≤ prd P (fun d => Q d ∧ gt P.orders d ∈ pr.take i) P.orders.length 0 ∧ prd P (fun d => Q d ∧ gt P.orders d ∈ pr.take i) P.orders.length 0 ≤ 729 := fun i => prd_729 G _
  have hbq : ∀ i, 1 ≤ prd P (fun d => Q d ∧ gt P.orders d = gt pr i) P.orders.length 0 ∧ prd P (fun d => Q d ∧ gt P.orders d = gt pr i) P.orders.length 0 ≤ 729 := fun i => prd_729 G _
  have hprt : ∀ i, i < pr.length → ∀ p : Nat, gt pr i = (p : Int) → prt p (prd P Q P.orders.length 0) = prd P (fun d => Q d ∧ gt P.orders d = gt pr i) P.orders.length 0 := fun i hi p hp => by
    obtain ⟨p2, h1, h2⟩ := prSet_prime hpr hi
    have : p = p2 := by omega
    subst this
    rw [prt_prd G Q h2 _ _ (Nat.zero_add _)]
    exact prd_congr _ _ (fun k _ _ => by rw [hp])
  have h0 : prd P (fun d => Q d ∧ gt P.orders d ∈ pr.take 0) P.orders.length 0 = 1 := by
    rw [List.take_zero]
    have : ∀ f d, prd P (fun d => Q d ∧ gt P.orders d ∈ ([] : List Int)) f d = 1 := by
      intro f
      induction f with
      | zero => intro d; rfl
      | succ f ih => intro d; rw [prd, if_neg (fun h => by cases h.2), ih]
    exact this _ _
  obtain ⟨n, hn⟩ : ∃ n, n = prd P Q P.orders.length 0 := ⟨_, rfl⟩
  rw [← hn] at hb hprt ⊢
  have H := Lib.hid (And.intro hstep (And.intro hbd (And.intro hbq (And.intro hprt h0)))); clear hstep hbd hbq hprt h0 hn
  obtain ⟨a, c, rfl, _, _⟩ := hv.shape
  have HV := Lib.hid hv; clear hv
  go_enter Tryz.func192, Tryz.ntmps192
  go_wp2
  go_loopw [5, 6] (fun ov iv wr => ∃ i o : Nat, ov = .int .i64 (o : Int) ∧ iv = .int .i64 i ∧ i ≤ pr.length ∧ Ext w wr ∧ Hid (o = prd P (fun d => Q d ∧ gt P.orders d ∈ pr.take i) P.orders.length 0)) (fun _ iv _ => pr.length - (intOf iv).toNat)
  case atStart => exact ⟨0, 1, rfl, by go_num, by omega, Ext.refl _, Lib.hid H.out.2.2.2.2.symm⟩
  case round =>
    obtain ⟨i, o, rfl, rfl, hi, hg, hO⟩ := hrel
    by_cases hlt : i < pr.length
    · have hlt' : (i : Int) < pr.length := by omega
      obtain ⟨b, of, hab, _, _, hc⟩ := Ints.at HV.out i hlt
      subst hab
      have hcr := hg.cell hc (by simp)
      obtain ⟨p, hp1, hp2⟩ := prSet_prime hpr hlt
      rw [hp1] at hcr
      have hpt := H.out.2.2.2.1 i hlt p hp1
      have hst := H.out.1 i hlt
      have hb1 := H.out.2.1 i
      have hb2 := H.out.2.2.1 i
      have hb3 := H.out.2.1 (i + 1)
      rw [← hst] at hb3
      rw [← hO.out] at hst hb1 hb3
      rw [← hpt] at hst hb2 hb3
      have hcall := l01Part_ok n p (by omega) (by omega) (by omega) (by omega) wr
      obtain ⟨q, hq⟩ : ∃ q, q = prt p n := ⟨_, rfl⟩
      rw [← hq] at hst hb2 hb3 hcall
      have hoq : (o : Int) * (q : Int) = ((o * q : Nat) : Int) := (Int.natCast_mul o q).symm
      have HS := Lib.hid (And.intro hst hb3); clear hst hpt hq hc hp1
      obtain ⟨oq, hoqe⟩ : ∃ oq, oq = o * q := ⟨_, rfl⟩
      rw [← hoqe] at hoq
      have hbo : 1 ≤ oq ∧ oq ≤ 729 := by rw [hoqe]; exact HS.out.2
      have hw2 := w64n oq (Nat.le_trans hbo.2 (by decide))
      have hw3 := i64n oq (Nat.le_trans hbo.2 (by decide))
      have HQ := Lib.hid hoqe; clear hoqe
      go_wp2_with fail
      refine Calls.mono hcall ?_
      rintro e1 w1 ⟨v1, rfl, hg1, rfl⟩
      clear hcall hcr
      go_wp2
      go_roundw
      case rel => exact ⟨i + 1, oq, by first | rfl | exact congrArg (Value.int .i64) hw2, by go_num, by omega, grown_trans hg hg1, Lib.hid (by rw [HQ.out]; exact HS.out.1)⟩
      case measure => simp [intOf]; omega
    · have hie : i = pr.length := by omega
      have hnl : ¬ (i : Int) < pr.length := by omega
      have ho := hO.out
      rw [hie, List.take_of_length_le (Nat.le_refl _)] at ho
      have HO := Lib.hid ho; clear ho hO hie
      go_wp2
      go_ret
      refine ⟨_, rfl, hg, ?_⟩
      show Value.int .i64 (o : Int) = _
      rw [HO.out]

/-- one pass of the reference -/
def FdI {P : Pr} (G : Grp P) (pr : List Int) (U U' : List (List Int)) (t : Nat) (g : Bool) : Prop :=
  SubB P U' ∧ prodU P U' U'.length ∣ hallO P pr ∧ (g = true → prodU P U U.length < prodU P U' U'.length) ∧ (g = false → U' = U ∧ ∀ j, j < t → ¬ Usable G pr U j)

set_option maxRecDepth 100000 in
set_option maxHeartbeats 16000000 in
set_option linter.unusedSimpArgs false in
theorem l20Found_ok (P : Pr) (G : Grp P) (pr : List Int) (hpr : PrSet pr) (w : World) (pv v : Value) (Sp S : Nat → Prop) (hpv : PresV Sp w pv P) (hv : Ints S w v pr) :
    Calls Tryz.prog 127 #[pv, v] w (Ret w fun w' r => ∃ U, HallP P pr U ∧ Rows2 Any w' r U) := by
  have hP := G.v
  have hn6 := hP.n6
  have h729 : ordP P ≤ 729 := hP.le729
  have hpos := hP.ordP_pos
  obtain ⟨vo, vp, vc, rfl, h3⟩ := hpv
  have hp0 := PresP.box h3 31
  have hg0 : Ext w (w.alloc (.cells #[vo, vp, vc] 31)) := World.grownBy_alloc _ _ _
  obtain ⟨vo6, vp6, vc6, _, _, hc0, hc1, hc2, h36⟩ := hp0.at
  simp only [Nat.zero_add] at hc1 hc2
  have hv0 := Ints.ext hv hg0
  obtain ⟨av, cv, rfl, _, _⟩ := hv.shape
  have hbx : ∀ w', Ext (w.alloc (.cells #[vo, vp, vc] 31)) w' → w'.cell? ⟨w.heap.size, 0, none⟩ = some vo6 ∧ w'.cell? ⟨w.heap.size, 1, none⟩ = some vp6 ∧ w'.cell? ⟨w.heap.size, 2, none⟩ = some vc6 := fun w' h => ⟨h.cell hc0 (by simp), h.cell hc1 (by simp), h.cell hc2 (by simp)⟩
  have HB := Lib.hid hbx; clear hbx hp0 hv
  have HNIL := Lib.hid G.subB_nil
  obtain ⟨N, hN⟩ : ∃ N, N = (ordP P).toNat := ⟨_, rfl⟩
  have hN729 : N ≤ 729 := by omega
  have hNo : ordP P = (N : Int) := by omega
  have HN := Lib.hid (And.intro hN hNo); clear hN hpos h729 hNo
  have hwb := hall_pos G pr
  have hpt := fun w' v' (hv' : Ints Any w' v' pr) => l20Part_ok P G pr hpr (fun _ => True) w' v' Any hv'
  have hall1 : ((prd P (fun d => True ∧ gt P.orders d ∈ pr) P.orders.length 0 : Nat) : Int) = hallO P pr := by
    rw [hallO_eq G]
    congr 1
    exact prd_congr _ _ (fun k _ _ => ⟨fun h => h.2, fun h => ⟨trivial, h⟩⟩)
  rw [hall1] at hpt
  rw [prd_all G, HN.out.2] at hpt
  obtain ⟨want, hwant⟩ : ∃ want, want = hallO P pr := ⟨_, rfl⟩
  rw [← hwant] at hpt hwb
  have HW := Lib.hid (And.intro hwant hpt); clear hwant hall1 hpt
  go_enter Tryz.func127, Tryz.ntmps127
  obtain ⟨hc0, hc1, hc2⟩ := HB.out _ (Ext.refl _)
  have hnil : ∀ (W : World) (a : Addr), Rows2 Any W (.slice (some a) 0 0) [] := fun W a => ⟨some a, 0, rfl, ⟨by simp, by simp, fun h => by cases h⟩, fun i hi => by simp at hi⟩
  have HZ := Lib.hid hnil; clear hnil
  go_wp2_with fail
  clear hc0 hc1 hc2
  generalize hw0 : w.alloc (.cells #[vo, vp, vc] 31) = w0 at *
  clear hw0
  have hg1 : Ext w0 (w0.alloc (.cells #[] 22)) := World.grownBy_alloc _ _ _
  generalize hw1 : w0.alloc (.cells #[] 22) = w1 at *
  clear hw1
  refine Calls.mono (l10Order_ok w1 (.agg #[vo, vp, vc]) P Sp hP ⟨_, _, _, rfl, Pres3.ext h3 (grown_trans hg0 hg1)⟩) ?_
  rintro e2 w2 ⟨v2, rfl, hg2, rfl⟩
  rw [HN.out.2]
  have hg02 := grown_trans hg1 hg2
  go_wp2_with fail
  refine Calls.mono (HW.out.2 w2 _ (Ints.sub (Ints.ext hv0 hg02) (fun _ _ _ => trivial))) ?_
  rintro e3 w3 ⟨v3, rfl, hg3, rfl⟩
  have hg03 := grown_trans hg02 hg3
  go_wp2
  go_loopg [5] ((want - 1).toNat) (fun gk uv wr => ∃ U : List (List Int), gk = (want - prodU P U U.length).toNat ∧ Ext w3 wr ∧ Rows2 Any wr uv U ∧ Hid (SubB P U ∧ prodU P U U.length ∣ hallO P pr))
  case atStart => exact ⟨[], rfl, Ext.refl _, HZ.out _ _, Lib.hid ⟨HNIL.out, Int.one_dvd _⟩⟩
  case round =>
    obtain ⟨U, hgk, hg, hU, hS⟩ := hrel
    have hgw := grown_trans hg03 hg
    have hUl := G.sub_len hS.out.1
    have hseq := seqOk_subB' G hS.out.1
    have hs1 := G.ord_pos hS.out.1
    have hsle : prodU P U U.length ≤ want := by rw [HW.out.1]; exact dvd_le hS.out.2 (by rw [← HW.out.1]; exact hwb.1)
    obtain ⟨ua, uc, huv, _, _⟩ := Sl.shape hU
    subst huv
    have hsz := l12Order_ok P hP wr (.agg #[vo6, vp6, vc6]) _ U Any Any ⟨_, _, _, rfl, Pres3.ext h36 hgw⟩ hU hseq (by omega)
    obtain ⟨s, hs⟩ : ∃ s, s = prodU P U U.length := ⟨_, rfl⟩
    rw [← hs] at hs1 hsle hsz hgk
    have HS2 := Lib.hid (And.intro hs hseq); clear hs hseq
    have HGK := Lib.hid hgk; clear hgk
    obtain ⟨hc0, hc1, hc2⟩ := HB.out wr hgw
    go_wp2_with fail
    clear hc0 hc1 hc2
    refine Calls.mono hsz ?_
    rintro e4 w4 ⟨v4, rfl, hg4, rfl⟩
    clear hsz
    have hg04 := grown_trans hgw hg4
    have hg34 := grown_trans hg hg4
    have hU4 := Rows2.ext hU hg4
    clear hU
    by_cases hlt : s < want
    · have hI0 : FdI G pr U U 0 false := ⟨hS.out.1, hS.out.2, fun h => (by cases h), fun _ => ⟨rfl, fun j hj => by omega⟩⟩
      have HI0 := Lib.hid hI0; clear hI0
      obtain ⟨U0, hU0⟩ : ∃ U0, U0 = U := ⟨_, rfl⟩
      have HU0 := Lib.hid hU0; clear hU0
      go_wp2
      go_loopw [5, 7, 8] (fun uv gv tv wr => ∃ (t : Nat) (U' : List (List Int)) (g : Bool), tv = .int .i64 t ∧ gv = .bool g ∧ t ≤ N ∧ Ext w4 wr ∧ Rows2 Any wr uv U' ∧ Hid (FdI G pr U U' t g)) (fun _ _ tv _ => N - (intOf tv).toNat)
      case atStart => exact ⟨0, U, false, by go_num, rfl, by omega, Ext.refl _, hU4, HI0⟩
      case round =>
        obtain ⟨t, U', g, rfl, rfl, ht, hgt, hU, hI⟩ := hrel
        have hg0r := grown_trans hg04 hgt
        have hU'l := G.sub_len hI.out.1
        obtain ⟨xa, xc, hxv, _, _⟩ := Sl.shape hU
        subst hxv
        have hor := l10Order_ok wr (.agg #[vo6, vp6, vc6]) P Any hP ⟨_, _, _, rfl, Pres3.ext h36 hg0r⟩
        rw [HN.out.2] at hor
        obtain ⟨hc0, hc1, hc2⟩ := HB.out wr hg0r
        by_cases hgo : t < N ∧ g = false
        · obtain ⟨htl, rfl⟩ := hgo
          have htl' : (t : Int) < N := by omega
          have hto : t < (ordP P).toNat := by rw [← HN.out.1]; exact htl
          have hXV : Vec P.orders (elAt P (t : Int)) := G.elAtV hto
          obtain ⟨hUU, hnu⟩ := hI.out.2.2.2 rfl
          have hskip : ¬ Usable G pr U' t → FdI G pr U U' (t + 1) false := fun h => ⟨hI.out.1, hI.out.2.1, fun h => (by cases h), fun _ => ⟨hUU, fun j hj => (by
            rcases Nat.lt_succ_iff_lt_or_eq.1 hj with h3 | h3
            · exact hnu j h3
            · subst h3; rw [← hUU]; exact h)⟩⟩
          have hGr : GrI G pr U U' t := ⟨hI.out.1, hI.out.2.1, .inr ⟨hUU, hnu⟩⟩
          have htake : ¬ gP P U' (elAt P (t : Int)) → prodU P (cseq P (extP P (gP P U') (elAt P (t : Int)))) (cseq P (extP P (gP P U') (elAt P (t : Int)))).length ∣ hallO P pr → FdI G pr U (cseq P (extP P (gP P U') (elAt P (t : Int)))) (t + 1) true := fun h1 h2 => by
            have h3 := hGr.take hto h1 h2
            refine ⟨h3.sub, h3.dv, fun _ => ?_, fun h => (by cases h)⟩
            rcases h3.up with h4 | ⟨h4, _⟩
            · exact h4
            · exfalso
              apply h1
              rw [← hUU] at h4
              have h5 : gP P (cseq P (extP P (gP P U') (elAt P (t : Int)))) = extP P (gP P U') (elAt P (t : Int)) := G.genP_cseq (ext_sub G hI.out.1 hXV)
              rw [h4] at h5
              rw [h5]
              exact genP_mem (.inr rfl)
          have hus : Usable G pr U' t = (¬ gP P U' (elAt P (t : Int)) ∧ prodU P (cseq P (extP P (gP P U') (elAt P (t : Int)))) (cseq P (extP P (gP P U') (elAt P (t : Int)))).length ∣ hallO P pr ∧
            ∀ d, pv (toE G (cycP P (elAt P (t : Int)))) d → gt P.orders d ∈ pr) := rfl
          have hE := ext_sub G hI.out.1 hXV
          have hat := fun (w' : World) (h : Ext wr w') => l10At_ok P hP w' (.agg #[vo6, vp6, vc6]) (t : Int) Any ⟨_, _, _, rfl, Pres3.ext h36 (grown_trans hg0r h)⟩ (by omega) (by omega)
          have hhas := fun (w' : World) (h : Ext wr w') (xv : Value) (hx : Ints Any w' xv (elAt P (t : Int))) => l12Has_ok P G w' (.agg #[vo6, vp6, vc6]) (.slice xa U'.length xc) xv (gP P U') (elAt P (t : Int)) Any Any Any (G.subB hI.out.1) ⟨_, _, _, rfl, Pres3.ext h36 (grown_trans hg0r h)⟩ (by
            have e : cseq P (gP P U') = U' := hI.out.1.2.symm
            rw [e]; exact Rows2.ext hU h) hx hXV
          obtain ⟨X, hXe⟩ : ∃ X, X = elAt P (t : Int) := ⟨_, rfl⟩
          obtain ⟨NX, hNXe⟩ : ∃ NX, NX = cseq P (extP P (gP P U') X) := ⟨_, rfl⟩
          rw [← hXe] at hXV hE htake hus hhas
          rw [← hNXe] at htake hus
          have hNB : SubB P NX := by rw [hNXe]; exact G.subB_cseq hE
          have hgs : cseq P (genP P (fun z => z ∈ U' ++ [X])) = NX := by rw [genP_snoc, hNXe]
          have hXl : X.length ≤ 6 := by rw [hXV.1]; exact hn6
          have hrow : ∀ z ∈ U', z.length ≤ 6 := fun z hz => by rw [(hI.out.1.1 z hz).1]; exact hn6
          have hvecU : ∀ z ∈ U', Vec P.orders z := hI.out.1.1
          have HX0 := Lib.hid (And.intro hskip (And.intro htake (And.intro hus (And.intro hNB (And.intro hgs (And.intro hhas (And.intro hXV (And.intro hat (And.intro hrow (And.intro hvecU hXe))))))))))
          clear hskip htake hus hNB hgs hhas hXV hE hNXe hat hrow hvecU hGr hnu hUU hXe
          have HOR := Lib.hid hor
          go_wp2_with fail
          clear hc0 hc1 hc2
          refine Calls.mono hor ?_
          rintro e5 w5 ⟨v5, rfl, hg5, rfl⟩
          clear hor
          have hat5 := HX0.out.2.2.2.2.2.2.2.1 w5 hg5
          obtain ⟨hc0, hc1, hc2⟩ := HB.out w5 (grown_trans hg0r hg5)
          go_wp2_with fail
          clear hc0 hc1 hc2
          refine Calls.mono hat5 ?_
          rintro e6 w6 ⟨v6, rfl, hg6, hOX⟩
          clear hat5
          rw [← HX0.out.2.2.2.2.2.2.2.2.2.2] at hOX
          have hX6 : Ints Any w6 v6 X := hOX.ints (by omega)
          obtain ⟨ax, cx, hvx, _, _⟩ := hX6.shape
          subst hvx
          have hgr6 := grown_trans hg5 hg6
          have hmr := HX0.out.2.2.2.2.2.1 w6 hgr6 _ hX6
          obtain ⟨hc0, hc1, hc2⟩ := HB.out w6 (grown_trans hg0r hgr6)
          go_wp2_with fail
          clear hc0 hc1 hc2
          refine Calls.mono hmr ?_
          rintro e7 w7 ⟨v7, rfl, hg7, r, rfl, hr⟩
          clear hmr
          have hgr7 := grown_trans hgr6 hg7
          have hgt7 := grown_trans hgt hgr7
          have hU7 := Rows2.ext hU hgr7
          have hX7 := Ints.ext hX6 hg7
          have hg0r7 := grown_trans hg0r hgr7
          clear hU hX6 hOX
          cases r with
          | true =>
            have hI2 := HX0.out.1 (by rw [HX0.out.2.2.1]; intro h; exact h.1 (hr.1 rfl))
            have HI2 := Lib.hid hI2; clear hI2 hr
            go_wp2
            go_roundw
            case rel => exact ⟨t + 1, U', false, by go_num, rfl, by omega, hgt7, hU7, HI2⟩
            case measure => simp [intOf]; omega
          | false =>
            have hnm : ¬ gP P U' X := fun h => by have := hr.2 h; cases this
            have hNl := G.sub_len HX0.out.2.2.2.1
            have hNs := seqOk_subB' G HX0.out.2.2.2.1
            have hNo := G.ord_pos HX0.out.2.2.2.1
            have hvecs : ∀ z ∈ U' ++ [X], Vec P.orders z := fun z hz => by
              rcases List.mem_append.1 hz with h | h
              · exact HX0.out.2.2.2.2.2.2.2.2.2.1 z h
              · rw [List.mem_singleton.1 h]; exact HX0.out.2.2.2.2.2.2.1
            have hlen1 : (U' ++ [X]).length ≤ 10000 := by rw [List.length_append, List.length_singleton]; omega
            have htk : prodU P NX NX.length ∣ hallO P pr → FdI G pr U NX (t + 1) true := fun h => HX0.out.2.1 hnm h
            have hsk : ¬ prodU P NX NX.length ∣ hallO P pr → FdI G pr U U' (t + 1) false := fun h => HX0.out.1 (by rw [HX0.out.2.2.1]; intro hh; exact h hh.2.1)
            have heq := ordU G HX0.out.2.2.2.1
            have hiff : ((prd P (fun d => pvU G NX d ∧ gt P.orders d ∈ pr) P.orders.length 0 : Nat) : Int) = prodU P NX NX.length ↔ prodU P NX NX.length ∣ hallO P pr := by
              rw [pi_iff G HX0.out.2.2.2.1, heq, Int.natCast_inj]
              exact prd_eq_iff G _ _ (fun d hd => hd.1)
            have HX := Lib.hid (And.intro hvecs (And.intro hlen1 (And.intro HX0.out.2.2.2.2.1 (And.intro (show NX.length ≤ 100 by omega) (And.intro hNs (And.intro (And.intro htk hsk) (And.intro (And.intro trivial (And.intro heq hiff)) (And.intro hNo HX0.out.2.2.2.2.2.2.2.2.1))))))))
            clear hvecs hlen1 hNl hNs hNo htk hsk hr hnm heq hiff
            have f1 : ∀ w', Ext w7 w' → w'.cell? ⟨w.heap.size, 0, none⟩ = some vo6 := fun w' h => (HB.out w' (grown_trans hg0r7 h)).1
            have f2 : ∀ w', Ext w7 w' → w'.cell? ⟨w.heap.size, 1, none⟩ = some vp6 := fun w' h => (HB.out w' (grown_trans hg0r7 h)).2.1
            have f3 : ∀ w', Ext w7 w' → w'.cell? ⟨w.heap.size, 2, none⟩ = some vc6 := fun w' h => (HB.out w' (grown_trans hg0r7 h)).2.2
            clear hgt hg0r hg5 hg6 hg7 hgr6 hgr7 HOR
            clear HX0
            go_wp2
            generalize w7 = wr at *
            have hgt := hgt7
            have hg0r := hg0r7
            have hU := hU7
            have hX := hX7
            clear hgt7 hg0r7 hU7 hX7
            clear HU0 HI0
            refine wp_region_held_drew (S := fun w' => Ext wr w') (by kernel_rfl) (grown_drew _ _) (fun hHeld => ?_)
            refine wpAnyH_take (i := 0) (v := ?va0_1) rfl (by kernel_rfl) (by kernel_rfl) (by kernel_rfl) (fun _ _ _ h => h) (Or.inl ⟨by rfl, ?hya0_1⟩) (by assumption) ?resta0_1
            case hya0_1 => (intro w hSw; (try dsimp only at hSw); go_simp; try with_reducible rfl)
            try simp only [Act.put, List.getElem_toArray, List.getElem_cons_succ, List.getElem_cons_zero, List.setIfInBounds_toArray, List.set_cons_zero, List.set_cons_succ]
            refine wpAnyH_take (i := 1) (v := ?va1_2) rfl (by kernel_rfl) (by kernel_rfl) (by kernel_rfl) (fun _ _ _ h => h) (Or.inl ⟨by rfl, ?hya1_2⟩) (by assumption) ?resta1_2
            case hya1_2 => (intro w hSw; (try dsimp only at hSw); go_simp; try with_reducible rfl)
            try simp only [Act.put, List.getElem_toArray, List.getElem_cons_succ, List.getElem_cons_zero, List.setIfInBounds_toArray, List.set_cons_zero, List.set_cons_succ]
            refine wpAnyH_take (i := 3) (v := ?va3_3) rfl (by kernel_rfl) (by kernel_rfl) (by kernel_rfl) (fun _ _ _ h => h) (Or.inl ⟨by rfl, ?hya3_3⟩) (by assumption) ?resta3_3
            case hya3_3 => (intro w hSw; (try dsimp only at hSw); go_simp; try with_reducible rfl)
            try simp only [Act.put, List.getElem_toArray, List.getElem_cons_succ, List.getElem_cons_zero, List.setIfInBounds_toArray, List.set_cons_zero, List.set_cons_succ]
            refine wpAnyH_ready (rs := [2, 4]) (by kernel_rfl) (by simp) ?_
            refine AllReadyH.cons rfl (fun Kc hKc => ?_) (AllReadyH.cons rfl (fun Kc hKc => ?_) AllReadyH.nil)
            · go_simp
              go_at_call 65
              refine Calls.mono (l01Own2_ok wr.drew _ U' Any (Rows2.ext hU (grown_drew wr none)) (fun z hz => by have := HX.out.2.2.2.2.2.2.2.2 z hz; omega) (by omega)) ?_
              rintro eC wC ⟨vC, rfl, hgC, hOC⟩
              have hqC := SlO.shq (bad := fun _ => False) hOC (fun _ h => h.elim)
              have hgC0 : Ext wr wC := grown_trans (grown_drew wr none) hgC
              obtain ⟨ca, cc, hcv, _⟩ := hqC.shape
              subst hcv
              go_wp2_with fail
              refine hKc.out _ _ ?_ (fun hHeld => ?_)
              · exact hgC0
              clear hKc Kc
              try simp only [Act.put, List.getElem_toArray, List.getElem_cons_succ, List.getElem_cons_zero, List.setIfInBounds_toArray, List.set_cons_zero, List.set_cons_succ]
              refine wpAnyH_ready (rs := [4]) (by kernel_rfl) (by simp) ?_
              refine AllReadyH.cons rfl (fun Kc hKc => ?_) AllReadyH.nil
              go_simp
              refine hKc.out _ _ ?_ (fun hHeld => ?_)
              · exact grown_trans hgC0 (World.grownBy_alloc _ _ _)
              clear hKc Kc
              try simp only [Act.put, List.getElem_toArray, List.getElem_cons_succ, List.getElem_cons_zero, List.setIfInBounds_toArray, List.set_cons_zero, List.set_cons_succ]
              refine wpAnyH_ready (rs := [5]) (by kernel_rfl) (by simp) ?_
              refine AllReadyH.cons rfl (fun Kc hKc => ?_) AllReadyH.nil
              have hXI : Ints (fun k => ¬ (fun _ : Nat => False) k ∧ (Value.slice ca U'.length cc).ownBlock ≠ some k) (wC.alloc (.cells #[.slice ax X.length cx] 22)) (.slice ax X.length cx) X := Ints.mono hX (fun k _ hlt => ⟨⟨fun h => h, fun e => by have h1 := (hqC.lt k e).1; have h2 : wr.heap.size ≤ wr.drew.heap.size := (grown_drew wr none).size;  omega⟩, Nat.lt_of_lt_of_le hlt ((grown_trans hgC0 (World.grownBy_alloc wC (.cells #[.slice ax X.length cx] 22) none) : Ext wr (wC.alloc (.cells #[.slice ax X.length cx] 22)))).size, ((grown_trans hgC0 (World.grownBy_alloc wC (.cells #[.slice ax X.length cx] 22) none) : Ext wr (wC.alloc (.cells #[.slice ax X.length cx] 22)))).block k hlt (by simp)⟩)
              refine step_shq_app2 rfl _ _ rfl (fun _ => False) wr.drew.heap.size _ (Value.slice ca U'.length cc) _ U' X rfl (hqC.ext (World.grownBy_alloc _ _ _)) hXI rfl (by rw [World.cell?_alloc_at _ _ _ _ rfl]; rfl) (by omega) (Nat.le_trans hgC.size (World.grownBy_alloc wC _ none).size) ?_
              intro v5 w5 hq5 hg5
              have hg05 : Ext wr w5 := grown_own ((grown_trans hgC0 (World.grownBy_alloc wC (.cells #[.slice ax X.length cx] 22) none) : Ext wr (wC.alloc (.cells #[.slice ax X.length cx] 22)))) hg5 (fun b hb hlt => by have h1 := (hqC.lt b hb).1; have h2 : wr.heap.size ≤ wr.drew.heap.size := (grown_drew wr none).size;  omega)
              have hR5 := hq5.rows
              obtain ⟨da, dc, hdv, _⟩ := hq5.shape
              have hln5 : (U' ++ [X]).length = U'.length + 1 := by simp
              rw [hln5] at hdv
              clear hln5
              subst hdv
              refine hKc.out _ _ ?_ (fun hHeld => ?_)
              · exact hg05
              clear hKc Kc
              try simp only [Act.put, List.getElem_toArray, List.getElem_cons_succ, List.getElem_cons_zero, List.setIfInBounds_toArray, List.set_cons_zero, List.set_cons_succ]
              refine wpAnyH_ready (rs := [6]) (by kernel_rfl) (by simp) ?_
              refine AllReadyH.cons rfl (fun Kc hKc => ?_) AllReadyH.nil
              go_simp
              go_at_call 64
              refine Calls.mono (l12Close_ok P G w5 _ _ (U' ++ [X]) Any Any ⟨_, _, _, rfl, Pres3.ext h36 (grown_trans hg0r hg05)⟩ hR5 HX.out.1 HX.out.2.1) ?_
              rintro e6 w6 ⟨v6, rfl, hg6, hO6⟩
              have hg06 := grown_trans hg05 hg6
              rw [HX.out.2.2.1] at hO6
              have hNX : Rows2 Any w6 v6 NX := hO6
              obtain ⟨ga, gc, hgv, _, _⟩ := Sl.shape hNX
              subst hgv
              go_wp2_with fail
              refine hKc.out _ _ ?_ (fun hHeld => ?_)
              · exact hg06
              clear hKc Kc
              try simp only [Act.put, List.getElem_toArray, List.getElem_cons_succ, List.getElem_cons_zero, List.setIfInBounds_toArray, List.set_cons_zero, List.set_cons_succ]
              refine wpAnyH_take (i := 7) (v := ?va7_4) rfl (by kernel_rfl) (by kernel_rfl) (by kernel_rfl) (fun _ _ _ h => h) (Or.inl ⟨by rfl, ?hya7_4⟩) (by assumption) ?resta7_4
              case hya7_4 => (intro w hSw; (try dsimp only at hSw); go_simp; try with_reducible rfl)
              try simp only [Act.put, List.getElem_toArray, List.getElem_cons_succ, List.getElem_cons_zero, List.setIfInBounds_toArray, List.set_cons_zero, List.set_cons_succ]
              refine wpAnyH_done (by kernel_rfl) ?_ _
              clear f1 f2 f3
              obtain ⟨hc0, hc1, hc2⟩ := HB.out w6 (grown_trans hg0r hg06)
              go_wp2_with fail
              clear hc0 hc1 hc2
              refine Calls.mono (l12Order_ok P hP w6 _ _ NX Any Any ⟨_, _, _, rfl, Pres3.ext h36 (grown_trans hg0r hg06)⟩ hNX HX.out.2.2.2.2.1 HX.out.2.2.2.1) ?_
              rintro e7 w7 ⟨v7, rfl, hg7, rfl⟩
              have hgt7 := grown_trans hgt (grown_trans hg06 hg7)
              have hNX7 := Rows2.ext hNX hg7
              have hpart := l20Part_ok P G pr hpr (pvU G NX) w7 _ S (Ints.ext hv0 (grown_trans (grown_trans hg0r hg06) hg7))
              rw [← HX.out.2.2.2.2.2.2.1.2.1] at hpart
              obtain ⟨s2, hs2e⟩ : ∃ s2, s2 = prodU P NX NX.length := ⟨_, rfl⟩
              rw [← hs2e] at hpart ⊢
              obtain ⟨s3, hs3e⟩ : ∃ s3, s3 = ((prd P (fun d => pvU G NX d ∧ gt P.orders d ∈ pr) P.orders.length 0 : Nat) : Int) := ⟨_, rfl⟩
              rw [← hs3e] at hpart
              have hiff : s3 = s2 ↔ prodU P NX NX.length ∣ hallO P pr := by rw [hs3e, hs2e]; exact HX.out.2.2.2.2.2.2.1.2.2
              have HS3 := Lib.hid hiff; clear hiff hs2e hs3e
              go_wp2_with fail
              refine Calls.mono hpart ?_
              rintro e8 w8 ⟨v8, rfl, hg8, rfl⟩
              clear hpart
              have hgt8 := grown_trans hgt7 hg8
              by_cases hdv : s3 = s2
              · have hI2 := HX.out.2.2.2.2.2.1.1 (HS3.out.1 hdv)
                have HI2 := Lib.hid hI2; clear hI2
                have hNX8 := Rows2.ext hNX7 hg8
                go_wp2
                go_roundw
                case rel => exact ⟨t + 1, NX, true, by go_num, rfl, by omega, hgt8, hNX8, HI2⟩
                case measure => simp [intOf]; omega
              · have hI2 := HX.out.2.2.2.2.2.1.2 (fun h => hdv (HS3.out.2 h))
                have HI2 := Lib.hid hI2; clear hI2
                have hne : (s3 == s2) = false := by simpa using hdv
                have hU8 := Rows2.ext hU (grown_trans hg06 (grown_trans hg7 hg8))
                clear hdv
                go_wp2
                go_roundw
                case rel => exact ⟨t + 1, U', false, by go_num, rfl, by omega, hgt8, hU8, HI2⟩
                case measure => simp [intOf]; omega
            · go_simp
              have hgB : Ext wr (wr.drew.alloc (.cells #[.slice ax X.length cx] 22)) := grown_trans (grown_drew _ _) (World.grownBy_alloc _ _ _)
              have hcB : (wr.drew.alloc (.cells #[.slice ax X.length cx] 22)).cell? ⟨wr.drew.heap.size, 0, none⟩ = some (.slice ax X.length cx) := by rw [World.cell?_alloc_at _ _ _ _ rfl]; rfl
              refine hKc.out _ _ ?_ (fun hHeld => ?_)
              · exact hgB
              clear hKc Kc
              try simp only [Act.put, List.getElem_toArray, List.getElem_cons_succ, List.getElem_cons_zero, List.setIfInBounds_toArray, List.set_cons_zero, List.set_cons_succ]
              refine wpAnyH_ready (rs := [2]) (by kernel_rfl) (by simp) ?_
              refine AllReadyH.cons rfl (fun Kc hKc => ?_) AllReadyH.nil
              go_simp
              go_at_call 65
              refine Calls.mono (l01Own2_ok (wr.drew.alloc (.cells #[.slice ax X.length cx] 22)) _ U' Any (Rows2.ext hU hgB) (fun z hz => by have := HX.out.2.2.2.2.2.2.2.2 z hz; omega) (by omega)) ?_
              rintro eC wC ⟨vC, rfl, hgC, hOC⟩
              have hqC := SlO.shq (bad := fun _ => False) hOC (fun _ h => h.elim)
              have hgC0 : Ext wr wC := grown_trans hgB hgC
              obtain ⟨ca, cc, hcv, _⟩ := hqC.shape
              subst hcv
              go_wp2_with fail
              refine hKc.out _ _ ?_ (fun hHeld => ?_)
              · exact hgC0
              clear hKc Kc
              try simp only [Act.put, List.getElem_toArray, List.getElem_cons_succ, List.getElem_cons_zero, List.setIfInBounds_toArray, List.set_cons_zero, List.set_cons_succ]
              refine wpAnyH_ready (rs := [5]) (by kernel_rfl) (by simp) ?_
              refine AllReadyH.cons rfl (fun Kc hKc => ?_) AllReadyH.nil
              have hXI : Ints (fun k => ¬ (fun _ : Nat => False) k ∧ (Value.slice ca U'.length cc).ownBlock ≠ some k) (wC) (.slice ax X.length cx) X := Ints.mono hX (fun k _ hlt => ⟨⟨fun h => h, fun e => by have h1 := (hqC.lt k e).1; have h2 : wr.heap.size ≤ wr.drew.heap.size := (grown_drew wr none).size; have h3 := hgB.size; omega⟩, Nat.lt_of_lt_of_le hlt (hgC0).size, (hgC0).block k hlt (by simp)⟩)
              refine step_shq_app2 rfl _ _ rfl (fun _ => False) (wr.drew.alloc (.cells #[.slice ax X.length cx] 22)).heap.size _ (Value.slice ca U'.length cc) _ U' X rfl hqC hXI rfl (hgC.cell hcB (by simp)) (by omega) (hgC.size) ?_
              intro v5 w5 hq5 hg5
              have hg05 : Ext wr w5 := grown_own (hgC0) hg5 (fun b hb hlt => by have h1 := (hqC.lt b hb).1; have h2 : wr.heap.size ≤ wr.drew.heap.size := (grown_drew wr none).size; have h3 := hgB.size; omega)
              have hR5 := hq5.rows
              obtain ⟨da, dc, hdv, _⟩ := hq5.shape
              have hln5 : (U' ++ [X]).length = U'.length + 1 := by simp
              rw [hln5] at hdv
              clear hln5
              subst hdv
              refine hKc.out _ _ ?_ (fun hHeld => ?_)
              · exact hg05
              clear hKc Kc
              try simp only [Act.put, List.getElem_toArray, List.getElem_cons_succ, List.getElem_cons_zero, List.setIfInBounds_toArray, List.set_cons_zero, List.set_cons_succ]
              refine wpAnyH_ready (rs := [6]) (by kernel_rfl) (by simp) ?_
              refine AllReadyH.cons rfl (fun Kc hKc => ?_) AllReadyH.nil
              go_simp
              go_at_call 64
              refine Calls.mono (l12Close_ok P G w5 _ _ (U' ++ [X]) Any Any ⟨_, _, _, rfl, Pres3.ext h36 (grown_trans hg0r hg05)⟩ hR5 HX.out.1 HX.out.2.1) ?_
              rintro e6 w6 ⟨v6, rfl, hg6, hO6⟩
              have hg06 := grown_trans hg05 hg6
              rw [HX.out.2.2.1] at hO6
              have hNX : Rows2 Any w6 v6 NX := hO6
              obtain ⟨ga, gc, hgv, _, _⟩ := Sl.shape hNX
              subst hgv
              go_wp2_with fail
              refine hKc.out _ _ ?_ (fun hHeld => ?_)
              · exact hg06
              clear hKc Kc
              try simp only [Act.put, List.getElem_toArray, List.getElem_cons_succ, List.getElem_cons_zero, List.setIfInBounds_toArray, List.set_cons_zero, List.set_cons_succ]
              refine wpAnyH_take (i := 7) (v := ?va7_5) rfl (by kernel_rfl) (by kernel_rfl) (by kernel_rfl) (fun _ _ _ h => h) (Or.inl ⟨by rfl, ?hya7_5⟩) (by assumption) ?resta7_5
              case hya7_5 => (intro w hSw; (try dsimp only at hSw); go_simp; try with_reducible rfl)
              try simp only [Act.put, List.getElem_toArray, List.getElem_cons_succ, List.getElem_cons_zero, List.setIfInBounds_toArray, List.set_cons_zero, List.set_cons_succ]
              refine wpAnyH_done (by kernel_rfl) ?_ _
              clear f1 f2 f3
              obtain ⟨hc0, hc1, hc2⟩ := HB.out w6 (grown_trans hg0r hg06)
              go_wp2_with fail
              clear hc0 hc1 hc2
              refine Calls.mono (l12Order_ok P hP w6 _ _ NX Any Any ⟨_, _, _, rfl, Pres3.ext h36 (grown_trans hg0r hg06)⟩ hNX HX.out.2.2.2.2.1 HX.out.2.2.2.1) ?_
              rintro e7 w7 ⟨v7, rfl, hg7, rfl⟩
              have hgt7 := grown_trans hgt (grown_trans hg06 hg7)
              have hNX7 := Rows2.ext hNX hg7
              have hpart := l20Part_ok P G pr hpr (pvU G NX) w7 _ S (Ints.ext hv0 (grown_trans (grown_trans hg0r hg06) hg7))
              rw [← HX.out.2.2.2.2.2.2.1.2.1] at hpart
              obtain ⟨s2, hs2e⟩ : ∃ s2, s2 = prodU P NX NX.length := ⟨_, rfl⟩
              rw [← hs2e] at hpart ⊢
              obtain ⟨s3, hs3e⟩ : ∃ s3, s3 = ((prd P (fun d => pvU G NX d ∧ gt P.orders d ∈ pr) P.orders.length 0 : Nat) : Int) := ⟨_, rfl⟩
              rw [← hs3e] at hpart
              have hiff : s3 = s2 ↔ prodU P NX NX.length ∣ hallO P pr := by rw [hs3e, hs2e]; exact HX.out.2.2.2.2.2.2.1.2.2
              have HS3 := Lib.hid hiff; clear hiff hs2e hs3e
              go_wp2_with fail
              refine Calls.mono hpart ?_
              rintro e8 w8 ⟨v8, rfl, hg8, rfl⟩
              clear hpart
              have hgt8 := grown_trans hgt7 hg8
              by_cases hdv : s3 = s2
              · have hI2 := HX.out.2.2.2.2.2.1.1 (HS3.out.1 hdv)
                have HI2 := Lib.hid hI2; clear hI2
                have hNX8 := Rows2.ext hNX7 hg8
                go_wp2
                go_roundw
                case rel => exact ⟨t + 1, NX, true, by go_num, rfl, by omega, hgt8, hNX8, HI2⟩
                case measure => simp [intOf]; omega
              · have hI2 := HX.out.2.2.2.2.2.1.2 (fun h => hdv (HS3.out.2 h))
                have HI2 := Lib.hid hI2; clear hI2
                have hne : (s3 == s2) = false := by simpa using hdv
                have hU8 := Rows2.ext hU (grown_trans hg06 (grown_trans hg7 hg8))
                clear hdv
                go_wp2
                go_roundw
                case rel => exact ⟨t + 1, U', false, by go_num, rfl, by omega, hgt8, hU8, HI2⟩
                case measure => simp [intOf]; omega
        · cases g with
          | false =>
            exfalso
            have hte : t = N := by
              rcases Nat.lt_or_ge t N with h | h
              · exact absurd ⟨h, rfl⟩ hgo
              · omega
            obtain ⟨j, hj, hjU⟩ := hall_use G pr hS.out.1 hS.out.2 (by rw [← HS2.out.1, ← HW.out.1]; omega)
            exact (hI.out.2.2.2 rfl).2 j (by rw [hte, HN.out.1]; exact hj) hjU
          | true =>
            have hup := hI.out.2.2.1 rfl
            rw [← HS2.out.1] at hup
            have hUle : prodU P U' U'.length ≤ want := by rw [HW.out.1]; exact dvd_le hI.out.2.1 (by rw [← HW.out.1]; exact hwb.1)
            have HE := Lib.hid (And.intro hup (And.intro hUle (And.intro hI.out.1 hI.out.2.1))); clear hup hUle hgo
            go_wp2_with fail
            clear hc0 hc1 hc2
            refine Calls.mono hor ?_
            rintro e5 w5 ⟨v5, rfl, hg5, rfl⟩
            clear hor
            have hU5 := Rows2.ext hU hg5
            have hg35 := grown_trans hg34 (grown_trans hgt hg5)
            by_cases htl : t < N
            · have htl' : (t : Int) < N := by omega
              go_wp2
              go_roundg ((want - prodU P U' U'.length).toNat)
              case rel => exact ⟨U', rfl, hg35, hU5, Lib.hid ⟨HE.out.2.2.1, HE.out.2.2.2⟩⟩
              case measure => have := HE.out.1; have := HE.out.2.1; have := HGK.out; omega
            · have hnl : ¬ (t : Int) < N := by omega
              go_wp2
              go_roundg ((want - prodU P U' U'.length).toNat)
              case rel => exact ⟨U', rfl, hg35, hU5, Lib.hid ⟨HE.out.2.2.1, HE.out.2.2.2⟩⟩
              case measure => have := HE.out.1; have := HE.out.2.1; have := HGK.out; omega
    · have hsw : s = want := by omega
      have hHall : HallP P pr U := ⟨hS.out.1, by rw [← HS2.out.1, hsw, HW.out.1]⟩
      have HH := Lib.hid hHall; clear hHall hsw hwb hs1 hsle
      go_wp2
      go_ret
      exact ⟨_, rfl, grown_trans hg0 hg04, U, HH.out, hU4⟩

set_option maxRecDepth 100000 in
set_option maxHeartbeats 8000000 in
theorem l20All_ok (P : Pr) (G : Grp P) (pr : List Int) (hpr : PrSet pr) (w : World) (pv v : Value) (Sp S : Nat → Prop) (hpv : PresV Sp w pv P) (hv : Ints S w v pr) :
    Calls Tryz.prog 75 #[pv, v] w (Ret w fun w' r => ∃ L, HallL P pr L ∧ L.length ≤ 729 ∧ Rows3 Any w' r L) := by
  have hP := G.v
  have hn6 := hP.n6
  have h729 : ordP P ≤ 729 := hP.le729
  have hpos := hP.ordP_pos
  obtain ⟨vo, vp, vc, rfl, h3⟩ := hpv
  have hp0 := PresP.box h3 31
  have hg0 : Ext w (w.alloc (.cells #[vo, vp, vc] 31)) := World.grownBy_alloc _ _ _
  obtain ⟨vo6, vp6, vc6, _, _, hc0, hc1, hc2, h36⟩ := hp0.at
  simp only [Nat.zero_add] at hc1 hc2
  have hbx : ∀ w', Ext (w.alloc (.cells #[vo, vp, vc] 31)) w' → w'.cell? ⟨w.heap.size, 0, none⟩ = some vo6 ∧ w'.cell? ⟨w.heap.size, 1, none⟩ = some vp6 ∧ w'.cell? ⟨w.heap.size, 2, none⟩ = some vc6 := fun w' h => ⟨h.cell hc0 (by simp), h.cell hc1 (by simp), h.cell hc2 (by simp)⟩
  have HB := Lib.hid hbx; clear hbx hp0
  have hfd := l20Found_ok P G pr hpr _ (.agg #[vo6, vp6, vc6]) v Any S ⟨_, _, _, rfl, h36⟩ (Ints.ext hv hg0)
  obtain ⟨av, cv, rfl, _, _⟩ := hv.shape
  obtain ⟨N, hN⟩ : ∃ N, N = (ordP P).toNat := ⟨_, rfl⟩
  have hN729 : N ≤ 729 := by omega
  have hNo : ordP P = (N : Int) := by omega
  have HN := Lib.hid (And.intro hN hNo); clear hN hpos h729 hNo hv
  have hnil : ∀ (W : World) (a : Addr), Rows3 Any W (.slice (some a) 0 0) [] := fun W a => ⟨some a, 0, rfl, ⟨by simp, by simp, fun h => by cases h⟩, fun i hi => by simp at hi⟩
  have HZ := Lib.hid hnil; clear hnil
  go_enter Tryz.func75, Tryz.ntmps75
  go_wp2_with fail
  clear hc0 hc1 hc2
  generalize hw0 : w.alloc (.cells #[vo, vp, vc] 31) = w0 at *
  clear hw0
  refine Calls.mono hfd ?_
  rintro e1 w1 ⟨v1, rfl, hg1, U, hHall, hU⟩
  clear hfd
  obtain ⟨ua, uc, huv, _, _⟩ := Sl.shape hU
  subst huv
  have hUl := G.sub_len hHall.1
  have HH := Lib.hid hHall; clear hHall
  go_wp2
  go_loopw [6, 7] (fun ov tv wr => ∃ (t : Nat) (R : List (List (List Int))), tv = .int .i64 t ∧ t ≤ N ∧ Ext w1 wr ∧ Rows3 Any wr ov R ∧ Hid (R.Pairwise (subLt P) ∧ (∀ u, u ∈ R ↔ ∃ j, j < t ∧ u = cjU P U (elAt P (j : Int))) ∧ R.length ≤ t)) (fun _ tv _ => N - (intOf tv).toNat)
  case atStart => exact ⟨0, [], by go_num, by omega, World.grownBy_alloc _ _ _, HZ.out _ _, Lib.hid ⟨List.Pairwise.nil, fun u => ⟨fun h => (by cases h), fun ⟨j, h, _⟩ => (by omega)⟩, Nat.le_refl _⟩⟩
  case round =>
    obtain ⟨t, R, rfl, ht, hg, hR, hI⟩ := hrel
    have hg0r := grown_trans hg1 hg
    obtain ⟨ra, rc, hrv, _, _⟩ := Sl.shape hR
    subst hrv
    have hor := l10Order_ok wr (.agg #[vo6, vp6, vc6]) P Any hP ⟨_, _, _, rfl, Pres3.ext h36 hg0r⟩
    rw [HN.out.2] at hor
    have hRl := hI.out.2.2
    obtain ⟨hc0, hc1, hc2⟩ := HB.out wr hg0r
    go_wp2_with fail
    clear hc0 hc1 hc2
    refine Calls.mono hor ?_
    rintro e2 w2 ⟨v2, rfl, hg2, rfl⟩
    clear hor
    have hg02 := grown_trans hg0r hg2
    have hR2 := Rows3.ext hR hg2
    have hU2 := Rows2.ext (Rows2.ext hU hg) hg2
    by_cases htl : t < N
    · have htl' : (t : Int) < N := by omega
      have hto : t < (ordP P).toNat := by rw [← HN.out.1]; exact htl
      have hXV : Vec P.orders (elAt P (t : Int)) := G.elAtV hto
      have f1 : ∀ w', Ext w2 w' → w'.cell? ⟨w.heap.size, 0, none⟩ = some vo6 := fun w' h => (HB.out w' (grown_trans hg02 h)).1
      have f2 : ∀ w', Ext w2 w' → w'.cell? ⟨w.heap.size, 1, none⟩ = some vp6 := fun w' h => (HB.out w' (grown_trans hg02 h)).2.1
      have f3 : ∀ w', Ext w2 w' → w'.cell? ⟨w.heap.size, 2, none⟩ = some vc6 := fun w' h => (HB.out w' (grown_trans hg02 h)).2.2
      have hat := fun (w' : World) (h : Ext w2 w') => l10At_ok P hP w' (.agg #[vo6, vp6, vc6]) (t : Int) Any ⟨_, _, _, rfl, Pres3.ext h36 (grown_trans hg02 h)⟩ (by omega) (by omega)
      have hcB := G.cjU_subB HH.out.1 hXV
      have hcj := fun (w' : World) (h : Ext w2 w') (xv : Value) (hx : Ints Any w' xv (elAt P (t : Int))) => l13Conj_ok P G w' (.agg #[vo6, vp6, vc6]) _ xv U (elAt P (t : Int)) Any Any Any ⟨_, _, _, rfl, Pres3.ext h36 (grown_trans hg02 h)⟩ (Rows2.ext hU2 h) HH.out.1.1 (by omega) hx hXV
      have hRs : ∀ u ∈ R, SubB P u := fun u hu => by
        obtain ⟨j, hj, rfl⟩ := (hI.out.2.1 u).1 hu
        exact G.cjU_subB HH.out.1 (G.elAtV (by omega))
      have hins := fun (w' : World) (h : Ext w2 w') (uv : Value) (hu : Rows2 Any w' uv (cjU P U (elAt P (t : Int)))) => l19Insert_ok P G w' (.agg #[vo6, vp6, vc6]) _ uv R _ Any Any ⟨_, _, _, rfl, Pres3.ext h36 (grown_trans hg02 h)⟩ (Rows3.ext hR2 h) hu hRs hcB hI.out.1 (by omega)
      have hXl : (elAt P (t : Int)).length ≤ 6 := by rw [hXV.1]; exact hn6
      have HF := Lib.hid (And.intro hat (And.intro hcj (And.intro hins hXl))); clear hat hcj hins hcB hRs hXV hR hU2 hR2 hXl
      go_wp2
      go_region_held3 (fun w' => Ext w2 w') (first | exact grown_drew _ _ | exact Ext.refl _ | assumption)
        (first
          | (go_at_call 130; refine Calls.mono (Calls.rel (w0 := w2) (by assumption) (HF.out.1 _ (by assumption))) ?_; rintro e3 w3 ⟨v3, rfl, hg3, hs3, hOX⟩; have hX3 : Ints Any w3 v3 (elAt P (t : Int)) := hOX.ints (by have := HF.out.2.2.2; omega))
          | (go_at_call 129; refine Calls.mono (Calls.rel (w0 := w2) (by assumption) (HF.out.2.1 _ (by assumption) _ hX3)) ?_; rintro e4 w4 ⟨v4, rfl, hg4, hs4, hC4⟩; obtain ⟨ja, jc, hjv, _, _⟩ := Sl.shape hC4; subst hjv)
          | (go_at_call 128; refine Calls.mono (Calls.rel (w0 := w2) (by assumption) (HF.out.2.2.1 _ (by assumption) _ hC4)) ?_; rintro e5 w5 ⟨v5, rfl, hg5, hs5, R2, hI1, hI2, hI3, hR5⟩))
      clear f1 f2 f3
      have hR5' : Rows3 Any w5 v5 R2 := Rows3.sub hR5 (fun _ _ _ => trivial)
      have hInv : Hid (R2.Pairwise (subLt P) ∧ (∀ u, u ∈ R2 ↔ ∃ j, j < t + 1 ∧ u = cjU P U (elAt P (j : Int))) ∧ R2.length ≤ t + 1) := Lib.hid ⟨hI1, fun u => by
        rw [hI2 u, hI.out.2.1 u]
        constructor
        · rintro (⟨j, h1, h2⟩ | h1)
          · exact ⟨j, by omega, h2⟩
          · exact ⟨t, by omega, h1⟩
        · rintro ⟨j, h1, h2⟩
          rcases Nat.lt_succ_iff_lt_or_eq.1 h1 with h3 | h3
          · exact .inl ⟨j, h3, h2⟩
          · subst h3; exact .inr h2, by omega⟩
      clear hI1 hI2 hI3 hR5
      go_wp2
      go_roundw
      case rel => exact ⟨t + 1, R2, by go_num, by omega, grown_trans hg (grown_trans hg2 hg5), hR5', hInv⟩
      case measure => simp [intOf]; omega
    · have hte : t = N := by omega
      have hnl : ¬ (t : Int) < N := by omega
      have hHL : HallL P pr R := ⟨hI.out.1, fun u => by
        rw [hI.out.2.1 u, hall_all G HH.out u, hte, HN.out.1]⟩
      have HL := Lib.hid hHL; clear hHL hte
      go_wp2
      go_ret
      exact ⟨_, rfl, grown_trans hg0 hg02, R, HL.out, by omega, hR2⟩

end Go.Proofs.YtdklekdpdbjfiaaGreat

/- Plain: the values of the Hall statements. -/
namespace Go.Proofs.YtdklekdpdbjfiaaGreat
open Go.RowKit

section
variable {P : Pr}
theorem hall_some (G : Grp P) (pr : List Int) : ∃ u, HallP P pr u := by
  obtain ⟨A, SA, hA⟩ := hall_ex G (fun q => q ∈ pr)
  have S := ofE_sub SA
  refine ⟨cseq P (ofE A), G.subB_cseq S, ?_⟩
  rw [order_cd (G := G) S, toE_ofE, cd_eq SA, hallO_eq G, Int.natCast_inj]
  exact prd_congr _ _ (fun k _ hk => (hA k).trans ⟨fun hh => hh.2, fun hh => ⟨by omega, hh⟩⟩)
theorem HallL.pos (G : Grp P) {pr : List Int} {L : List (List (List Int))} (h : HallL P pr L) : 0 < L.length := by
  obtain ⟨u, hu⟩ := hall_some G pr
  exact List.length_pos_of_mem ((h.2 u).2 hu)
theorem HallL.nodup {pr : List Int} {L : List (List (List Int))} (h : HallL P pr L) : L.Nodup :=
  List.nodup_iff_pairwise_ne.2 (h.1.imp (fun {a b} hab e => by subst e; exact subLt_irrefl hab))
theorem HallL.len (G : Grp P) {pr : List Int} {L : List (List (List Int))} (h : HallL P pr L) : L.length ≤ 729 := by
  obtain ⟨u, hu⟩ := hall_some G pr
  have h1 := nodup_sub_len L (cjTo P u (ordP P).toNat) h.nodup (fun v hv => (cjTo_hall G hu v).2 ((h.2 v).1 hv))
  have h2 := cjTo_len P u (ordP P).toNat
  have h3 : ordP P ≤ 729 := G.v.le729
  omega
theorem HallL.row (G : Grp P) {pr : List Int} {L : List (List (List Int))} (h : HallL P pr L) : ∀ u ∈ L, u.length ≤ 6 ∧ ∀ x ∈ u, x.length ≤ 6 := fun u hu => by
  have hb := ((h.2 u).1 hu).1
  have := G.sub_len hb
  have := G.v.n6
  exact ⟨by omega, fun x hx => by rw [(hb.1 x hx).1]; omega⟩
/-- the core of a Hall subgroup does not depend on the choice -/
theorem hall_core (G : Grp P) {pr : List Int} {u v : List (List Int)} (hu : HallP P pr u) (hv : HallP P pr v) : coreP P (gP P u) = coreP P (gP P v) := by
  have key : ∀ {u v : List (List Int)}, HallP P pr u → HallP P pr v → ∀ x, coreP P (gP P u) x → coreP P (gP P v) x := fun {u v} hu hv x hx => by
    obtain ⟨a, ha, rfl⟩ := hall_conj G hu hv
    rw [G.gP_cjU hu.1 ha]
    refine ⟨hx.1, fun g hg => ⟨rConj P x (rMul P g (rInv P a)), hx.2 _ (G.mulV hg (G.invV ha)), ?_⟩⟩
    rw [← G.conj_mul hx.1 hg (G.invV ha)]
    have h1 := G.conjV hx.1 hg
    have h2 := G.conj_back h1 (G.invV ha)
    rw [G.inv_inv ha] at h2
    exact h2.symm
  exact funext fun x => propext ⟨key hu hv x, key hv hu x⟩
end

open Classical in
/-- the one ascending list of the Hall subgroups -/
noncomputable def hlL (P : Pr) (pr : List Int) : List (List (List Int)) := if h : hcC P pr = 0 ∧ ∃ L, HallL P pr L then Classical.choose h.2 else []
theorem hl_ok {P : Pr} {pr : List Int} {L : List (List (List Int))} (h : hcC P pr = 0) (hL : HallL P pr L) : hlL P pr = L := by
  have hx : hcC P pr = 0 ∧ ∃ L, HallL P pr L := ⟨h, L, hL⟩
  unfold hlL
  rw [dif_pos hx]
  exact HallL.one (Classical.choose_spec hx.2) hL
theorem hl_no {P : Pr} {pr : List Int} (h : hcC P pr ≠ 0) : hlL P pr = [] := by unfold hlL; rw [dif_neg (fun hh => h hh.1)]
theorem hl_bd (P : Pr) (pr : List Int) : (hlL P pr).length ≤ 729 ∧ ∀ u ∈ hlL P pr, u.length ≤ 6 ∧ ∀ x ∈ u, x.length ≤ 6 := by
  by_cases h : hcC P pr = 0 ∧ ∃ L, HallL P pr L
  · obtain ⟨hc, L, hL⟩ := h
    have G := grp_of_r (hc_zero hc).1
    rw [hl_ok hc hL]
    exact ⟨hL.len G, hL.row G⟩
  · unfold hlL; rw [dif_neg h]; simp
theorem hl_len (P : Pr) (pr : List Int) : (hlL P pr).length ≤ 17408 := by have := (hl_bd P pr).1; omega
theorem hl_tot (P : Pr) (pr : List Int) : tot3 (hlL P pr) ≤ 100000000 := part_tot (hl_len P pr) (hl_bd P pr).2
/-- the first one -/
noncomputable def hfL (P : Pr) (pr : List Int) : List (List Int) := gt (hlL P pr) 0
theorem hf_bd (P : Pr) (pr : List Int) : (hfL P pr).length ≤ 6 ∧ ∀ x ∈ hfL P pr, x.length ≤ 6 := by
  unfold hfL
  rcases Nat.eq_zero_or_pos (hlL P pr).length with h | h
  · have e : hlL P pr = [] := List.eq_nil_of_length_eq_zero h
    rw [e]
    exact ⟨by decide, fun x hx => by cases hx⟩
  · exact (hl_bd P pr).2 _ (gt_mem h)
theorem hf_no {P : Pr} {pr : List Int} (h : hcC P pr ≠ 0) : hfL P pr = [] := by unfold hfL; rw [hl_no h]; rfl
theorem rows_tot {u : List (List Int)} (h1 : u.length ≤ 6) (h2 : ∀ x ∈ u, x.length ≤ 6) : tot2 u ≤ 100000000 := by
  have := sz_bnd List.length u 6 h2 _ (Nat.le_refl _)
  unfold tot2; omega
theorem hf_tot (P : Pr) (pr : List Int) : tot2 (hfL P pr) ≤ 100000000 := rows_tot (hf_bd P pr).1 (hf_bd P pr).2
noncomputable def syN (P : Pr) (q : Int) : Int := ((hlL P [q]).length : Nat)
noncomputable def syC (P : Pr) (q : Int) : Int := hcC P [q]
open Classical in
/-- the core for a set of primes -/
noncomputable def pcL (P : Pr) (pr : List Int) : List (List Int) := if h : hcC P pr = 0 ∧ ∃ u, HallP P pr u then cseq P (coreP P (gP P (Classical.choose h.2))) else []
theorem pc_no {P : Pr} {pr : List Int} (h : hcC P pr ≠ 0) : pcL P pr = [] := by unfold pcL; rw [dif_neg (fun hh => h hh.1)]
theorem pc_ok {P : Pr} {pr : List Int} (h : hcC P pr = 0) {u : List (List Int)} (hu : HallP P pr u) : pcL P pr = cseq P (coreP P (gP P u)) := by
  have G := grp_of_r (hc_zero h).1
  have hx : hcC P pr = 0 ∧ ∃ u, HallP P pr u := ⟨h, u, hu⟩
  unfold pcL
  rw [dif_pos hx, hall_core G (Classical.choose_spec hx.2) hu]
theorem pc_bd (P : Pr) (pr : List Int) : (pcL P pr).length ≤ 6 ∧ ∀ x ∈ pcL P pr, x.length ≤ 6 := by
  by_cases h : hcC P pr = 0
  · have G := grp_of_r (hc_zero h).1
    obtain ⟨u, hu⟩ := hall_some G pr
    rw [pc_ok h hu]
    have hs : Sub P (gP P u) := G.subB hu.1
    have hc : Sub P (coreP P (gP P u)) := G.core_sub hs
    have h1 := G.cseq_len hc
    have h2 := (G.seq_facts hc).2.1
    have := G.v.n6
    exact ⟨by omega, fun x hx => by rw [(hc.vec x (h2 x hx)).1]; omega⟩
  · rw [pc_no h]; exact ⟨by decide, fun x hx => by cases hx⟩
theorem pc_len (P : Pr) (pr : List Int) : (pcL P pr).length ≤ 729 := by have := (pc_bd P pr).1; omega
theorem pc_tot (P : Pr) (pr : List Int) : tot2 (pcL P pr) ≤ 100000000 := rows_tot (pc_bd P pr).1 (pc_bd P pr).2

end Go.Proofs.YtdklekdpdbjfiaaGreat

/- spec.l19Table: the numbers of all products. -/
namespace Go.Proofs.YtdklekdpdbjfiaaGreat
open Go.RowKit

end Go.Proofs.YtdklekdpdbjfiaaGreat

/- spec.l19Span: the mask of the subgroup that some elements generate. -/
namespace Go.Proofs.YtdklekdpdbjfiaaGreat
open Go.RowKit

end Go.Proofs.YtdklekdpdbjfiaaGreat

/- spec.l19Sequence: the sequence of the subgroup that a mask tells. -/
namespace Go.Proofs.YtdklekdpdbjfiaaGreat
open Go.RowKit

end Go.Proofs.YtdklekdpdbjfiaaGreat

/- spec.l19Bits: the mask of a subgroup's sequence. -/
namespace Go.Proofs.YtdklekdpdbjfiaaGreat
open Go.RowKit

section
variable {P : Pr} (G : Grp P)
include G

end

end Go.Proofs.YtdklekdpdbjfiaaGreat

/- spec.l19Full: the lattice by the reference. -/
namespace Go.Proofs.YtdklekdpdbjfiaaGreat
open Go.RowKit

end Go.Proofs.YtdklekdpdbjfiaaGreat

/- spec.l19Code, l19All, l19Own. -/
namespace Go.Proofs.YtdklekdpdbjfiaaGreat
open Go.RowKit

set_option maxRecDepth 100000 in
set_option maxHeartbeats 2000000 in
theorem l19Own_ok (w : World) (lv : Value) (L : List (List (List Int))) (S : Nat → Prop) (hl : Rows3 S w lv L) (hr : ∀ u ∈ L, u.length ≤ 6 ∧ ∀ x ∈ u, x.length ≤ 6) (hn : L.length ≤ 100000) :
    Calls Tryz.prog 78 #[lv] w (Ret w fun w' v => SlO (fun F w u (x : List (List Int)) => RowsD F w u x) 23 w.heap.size w' v L) := by
  obtain ⟨al, capl, rfl, _, _⟩ := Sl.shape hl
  have HR := Lib.hid hr; clear hr
  go_enter Tryz.func78, Tryz.ntmps78
  go_wp2
  go_loopw [3, 4] (fun ov iv wr => ∃ (i : Nat) (v4 : Value), v4 = ov ∧ iv = .int .i64 i ∧ i ≤ L.length ∧ Ext w wr ∧ SlO (fun F w u (x : List (List Int)) => RowsD F w u x) 23 w.heap.size wr v4 (L.take i)) (fun _ iv _ => L.length - (intOf iv).toNat)
  case atStart => exact ⟨0, _, rfl, rfl, by omega, World.grownBy_alloc _ _ _, ⟨[], fun _ _ => False, rfl, World.ownsRow_lit w #[] 0 (Nat.le_refl _) (by decide) rfl, by simp, by simp, by simp⟩⟩
  case round =>
    obtain ⟨i, v4, rfl, rfl, hi, hg, hO⟩ := hrel
    by_cases hlt : i < L.length
    · have hlt' : (i : Int) < L.length := by omega
      obtain ⟨b, off, a2, cap2, rfl, _, _, hc, hx⟩ := Rows3.at hl i hlt
      have hcr := hg.cell hc (by simp)
      have hrow := HR.out _ (gt_mem hlt)
      have hstep := take_succ_gt L i hlt
      have hl2 : (L.take i).length ≤ 1000000 := by rw [List.length_take]; omega
      obtain ⟨x, hxd⟩ : ∃ x, x = gt L i := ⟨_, rfl⟩
      rw [← hxd] at hcr hx hrow hstep
      have HX := Lib.hid (And.intro hrow (And.intro hstep hl2)); clear hrow hstep hl2 hc hxd
      go_wp2_with fail
      clear hcr
      refine Calls.mono (l01Own2_ok wr _ x S (Rows2.ext hx hg) (fun z hz => by have := HX.out.1.2 z hz; omega) (by have := HX.out.1.1; omega)) ?_
      rintro eC wC ⟨uv, rfl, hgC, hU⟩
      have hUD : RowsD (From wr.heap.size) wC uv x := hU.toD (by have := HX.out.1.1; omega)
      obtain ⟨ua, uc, hvu, _, _⟩ := SlD.shape hUD
      subst hvu
      go_wp2_with (first | (at_builtin; refine wp_app_one rdRows 24 23 (.slice none 0 0) 24 und_r3 Tryz.infoR3 rfl (by decide) rfl _ _ rfl w.heap.size wr wC v4 _ (L.take i) x rfl hO hgC hUD rfl rfl HX.out.2.2 hg.size ?_; intro v5 w5 hO5 hg5 _) | fail)
      have hg5' : Ext w w5 := grown_own hg hg5 (fun b hb hlt => by have := (SlO.lt hO b hb).1; omega)
      rw [← HX.out.2.1] at hO5
      go_roundw
      case rel => exact ⟨i + 1, v5, rfl, by go_num, by omega, hg5', hO5⟩
      case measure => simp [intOf]; omega
    · have hie : i = L.length := by omega
      have hO2 := hO
      rw [List.take_of_length_le (by omega)] at hO2
      obtain ⟨az, capz, hvz, _, _⟩ := SlD.shape (hO2.toD (by omega))
      subst hvz
      have hnl : ¬ (i : Int) < L.length := by omega
      clear hO hie
      go_wp2
      go_ret
      exact ⟨_, rfl, hg, hO2⟩

end Go.Proofs.YtdklekdpdbjfiaaGreat

/- impl.copyRows, impl.core. -/
namespace Go.Proofs.YtdklekdpdbjfiaaGreat
open Go.RowKit

set_option maxHeartbeats 1000000 in
theorem copyRows_ok (w : World) (v : Value) (L : List (List Int)) (S : Nat → Prop) (hv : Rows2 S w v L) (hL : ∀ x ∈ L, x.length ≤ 1000000) (hlen : L.length ≤ 1000000) :
    Calls Tryz.prog 211 #[v] w (Ret w fun w' r => RowsO w.heap.size w' r L) := by
  obtain ⟨a, cap, rfl, _, _⟩ := Sl.shape hv
  have HL := Lib.hid hL; clear hL
  go_enter Tryz.func211, Tryz.ntmps211
  go_wp2
  go_loopw [3, 8] (fun ov iv wr => ∃ (i : Nat) (v4 : Value), v4 = ov ∧ iv = .int .i64 i ∧ i ≤ L.length ∧ Ext w wr ∧ RowsO w.heap.size wr v4 (L.take i)) (fun _ iv _ => L.length - (intOf iv).toNat)
  case atStart => exact ⟨0, _, rfl, rfl, by omega, Ext.refl _, SlO.nil _ _ _ _⟩
  case round =>
    obtain ⟨i, v4, rfl, rfl, hi, hg, hO⟩ := hrel
    by_cases hlt : i < L.length
    · have hlt' : (i : Int) < L.length := by omega
      obtain ⟨b, off, a2, cap2, rfl, _, _, hc, hr⟩ := Rows2.at (Rows2.ext hv hg) i hlt
      have hstep := take_succ_gt L i hlt
      have hll := HL.out _ (gtMem hlt)
      have htl : (L.take i).length ≤ 1000000 := by rw [List.length_take]; omega
      have HST := Lib.hid (And.intro hstep hll); clear hstep hll
      go_wp2_with fail
      refine Calls.mono (clone_ok wr _ (gt L i) _ hr (by have := HST.out.2; omega)) ?_
      rintro eC wC ⟨vC, rfl, hgC, hOC⟩
      have hYO : OwnIn (From wr.heap.size) wC vC (gt L i) := OwnIn.of hOC (by have := HST.out.2; omega) (fun j h1 _ => h1)
      obtain ⟨ay, capy, hvy, _, _⟩ := hYO.ints.shape
      subst hvy
      clear hc
      go_wp2_with (first | (at_builtin; refine wp_app_row rfl _ _ rfl w.heap.size wr wC v4 _ (L.take i) (gt L i) rfl hO hgC hYO rfl rfl htl hg.size ?_; intro v5 w5 hO5 hg5 hg6; have hgw5 := hO.extw hg (Nat.le_refl _) hg5) | fail)
      go_roundw
      case rel => exact ⟨i + 1, v5, rfl, by go_num, by omega, hgw5, by rw [HST.out.1]; exact hO5⟩
      case measure => simp [intOf]; omega
    · have hie : i = L.length := by omega
      subst hie
      rw [List.take_length] at hO
      obtain ⟨az, capz, hvz, _, _⟩ := SlD.shape (hO.toD (by omega))
      subst hvz
      go_wp2
      go_ret
      exact ⟨_, rfl, hg, hO⟩

/-- what holds of a subgroup on the way to the core of H -/
def CoreSt (P : Pr) (H K : List Int → Prop) : Prop := Sub P K ∧ (∀ x, K x → H x) ∧ ∀ x, coreP P H x → K x

/-- what holds within a pass that began at K -/
def CorePass (P : Pr) (H K K1 : List Int → Prop) (i : Nat) : Prop := CoreSt P H K1 ∧ (∀ x, K1 x → K x) ∧ ∀ j, j < i → ∀ x, K1 x → cjS P K (unitV P.orders.length j) x

section
variable {P : Pr} (G : Grp P)
include G

theorem Grp.corePass_step {H K K1 : List Int → Prop} {i : Nat} (h : CorePass P H K K1 i) : CorePass P H K (fun x => K1 x ∧ cjS P K1 (unitV P.orders.length i) x) (i + 1) := by
  obtain ⟨⟨s1, s2, s3⟩, h2, h3⟩ := h
  have hu := unitV_vec G.v i
  refine ⟨⟨s1.and (G.cj_sub s1 hu), fun x hx => s2 x hx.1, fun x hx => ⟨s3 x hx, G.norm_cj G.core_norm (fun _ h => h.1) s3 hu x hx⟩⟩, fun x hx => h2 x hx.1, fun j hj x hx => ?_⟩
  rcases Nat.lt_succ_iff_lt_or_eq.1 hj with h | h
  · exact h3 j h x hx.1
  · rw [h]; exact cj_mono h2 hx.2

/-- a pass that changes nothing began at a normal subgroup -/
theorem Grp.corePass_end {H K K1 : List Int → Prop} (S : Sub P K) (h : CorePass P H K K1 P.orders.length) (he : (cseq P K1).length = (cseq P K).length) : NormP P K ∧ ∀ x, K x → K1 x := by
  have hb := (G.len_le h.1.1 S h.2.1).2 he
  exact ⟨G.norm_of_cj S (fun j hj x hx => h.2.2 j hj x (hb x hx)), hb⟩

omit G in
/-- a normal subgroup on the way is the core -/
theorem core_done {H K : List Int → Prop} (h : CoreSt P H K) (hN : NormP P K) : K = coreP P H :=
  funext fun x => propext ⟨fun hx => ⟨h.1.vec x hx, fun g hg => h.2.1 _ (hN x hx g hg)⟩, h.2.2 x⟩

theorem Grp.core_start {H : List Int → Prop} (S : Sub P H) : CoreSt P H H := ⟨S, fun _ h => h, fun x h => G.core_le x h⟩

end

set_option maxRecDepth 100000 in
set_option maxHeartbeats 4000000 in
theorem core_ok (P : Pr) (G : Grp P) (w : World) (p uv : Value) (H : List Int → Prop) (Sp Su : Nat → Prop) (S : Sub P H) (hp : PresP Sp w p P) (hu : Rows2 Su w uv (cseq P H)) :
    Calls Tryz.prog 152 #[p, uv] w (Ret w fun w' v => RowsO w.heap.size w' v (cseq P (coreP P H))) := by
  have hP := G.v
  have hn6 := hP.n6
  obtain ⟨pb, po, rfl⟩ := hp.shape
  have hu0 : Rows2 Any w uv (cseq P H) := Rows2.sub hu (fun _ _ _ => trivial)
  obtain ⟨au, capu, rfl, _, _⟩ := Sl.shape hu
  have HS := Lib.hid S; clear hu
  go_enter Tryz.func152, Tryz.ntmps152
  go_wp2
  go_loopg [1] ((cseq P H).length) (fun gk uv wr => ∃ (K : List Int → Prop), gk = (cseq P K).length ∧ Ext w wr ∧ Rows2 Any wr uv (cseq P K) ∧ Hid (CoreSt P H K))
  case atStart => exact ⟨H, rfl, Ext.refl _, hu0, Lib.hid (G.core_start HS.out)⟩
  case round =>
    clear hu0
    obtain ⟨K, hgk, hg, hu, hK⟩ := hrel
    have hl := G.cseq_len hK.out.1
    obtain ⟨ak, capk, hvk, _, _⟩ := Sl.shape hu
    subst hvk
    have HGK := Lib.hid hgk; clear hgk
    go_wp2_with fail
    refine Calls.mono (isNormal_ok P G wr _ _ K Sp Any hK.out.1 (hp.ext hg) hu) ?_
    rintro e1 w1 ⟨v1, rfl, hg1, r1, rfl, hr1⟩
    have hgw1 := grown_trans hg hg1
    cases r1 with
    | true =>
      have hN := (G.norm_iff hK.out.1).1 (hr1.1 rfl)
      have hE := core_done hK.out hN
      have hV : ∀ x ∈ cseq P K, x.length ≤ 1000000 := fun x hx => by rw [(hK.out.1.vec x ((G.seq_facts hK.out.1).2.1 x hx)).1]; omega
      have HE := Lib.hid (And.intro hE hV); clear hE hN hr1 hV
      go_wp2_with fail
      refine Calls.mono (copyRows_ok w1 _ (cseq P K) Any (Rows2.ext hu hg1) HE.out.2 (by omega)) ?_
      rintro e2 w2 ⟨v2, rfl, hg2, hO2⟩
      rw [HE.out.1] at hO2
      go_wp2
      go_ret
      exact ⟨_, rfl, grown_trans hgw1 hg2, hO2.weak hgw1.size⟩
    | false =>
      have hno : ¬ NormP P K := fun h => by have := hr1.2 ((G.norm_iff hK.out.1).2 h); cases this
      have HNO := Lib.hid hno; clear hno hr1
      go_wp2_with fail
      refine Calls.mono (generators_ok P hP w1 _ Sp (hp.ext hgw1)) ?_
      rintro e2 w2 ⟨v2, rfl, hg2, hO2⟩
      have hgl := gensOf_len P.orders.length
      have hgR := RowsD.rows (SlO.toD hO2 (by omega))
      obtain ⟨ag, capg, hvg, _, _⟩ := Sl.shape hgR
      rw [hgl] at hvg
      subst hvg
      have HGL := Lib.hid hgl; clear hgl hO2
      have hgw2 := grown_trans hgw1 hg2
      have hu2 := Rows2.ext (Rows2.ext hu hg1) hg2
      clear hu
      go_wp2
      go_loopw [1, 14] (fun uv iv wr => ∃ (i : Nat) (K1 : List Int → Prop), iv = .int .i64 i ∧ i ≤ P.orders.length ∧ Ext w2 wr ∧ Rows2 Any wr uv (cseq P K1) ∧ Hid (CorePass P H K K1 i)) (fun _ iv _ => P.orders.length - (intOf iv).toNat)
      case atStart => exact ⟨0, K, rfl, by omega, Ext.refl _, hu2, Lib.hid ⟨hK.out, fun _ h => h, fun j hj => by omega⟩⟩
      case round =>
        clear hu2
        obtain ⟨i, K1, rfl, hi, hgi, hui, hC⟩ := hrel
        have hl1 := G.cseq_len hC.out.1.1
        obtain ⟨a1, cap1, hv1, _, _⟩ := Sl.shape hui
        subst hv1
        have hgwi := grown_trans hgw2 hgi
        by_cases hlt : i < P.orders.length
        · have hlt' : (i : Int) < P.orders.length := by omega
          obtain ⟨bb, off, ax, capx, rfl, _, _, hc, hr⟩ := Rows2.at hgR i (by rw [HGL.out]; exact hlt)
          have hcr := hgi.cell hc (by simp)
          have hge := gensOf_at P.orders.length i hlt
          rw [hge] at hcr hr
          have hxV := unitV_vec hP i
          have hst := G.corePass_step hC.out
          have hcj := G.genP_conjL hC.out.1.1 hxV
          have hLV : ∀ y ∈ cseq P K1, Vec P.orders y := fun y hy => hC.out.1.1.vec y ((G.seq_facts hC.out.1.1).2.1 y hy)
          obtain ⟨g, hgg⟩ : ∃ g, g = unitV P.orders.length i := ⟨_, rfl⟩
          rw [← hgg] at hcr hr hxV hst hcj
          have HI := Lib.hid (And.intro hxV (And.intro hst (And.intro hcj hLV))); clear hxV hst hcj hLV hgg hge hc
          go_wp2_with fail
          clear hcr
          refine Calls.mono (conjugateSubgroup_ok P G wr _ _ _ (cseq P K1) g Sp Any _ (hp.ext hgwi) hui HI.out.2.2.2 (by omega) (Ints.ext hr hgi) HI.out.1) ?_
          rintro e3 w3 ⟨v3, rfl, hg3, hO3⟩
          rw [HI.out.2.2.1] at hO3
          have hSc := G.cj_sub hC.out.1.1 HI.out.1
          have hlc := G.cseq_len hSc
          have hR3 := RowsD.rows (SlO.toD hO3 (by omega))
          obtain ⟨a3, cap3, hv3, _, _⟩ := Sl.shape hR3
          subst hv3
          have hgw3 := grown_trans hgwi hg3
          clear hO3
          go_wp2_with fail
          refine Calls.mono (meet_ok P G w3 _ _ _ K1 (cjS P K1 g) Sp Any _ hC.out.1.1 hSc (hp.ext hgw3) (Rows2.ext hui hg3) hR3) ?_
          rintro e4 w4 ⟨v4, rfl, hg4, hO4⟩
          have hlm := G.cseq_len (hC.out.1.1.and hSc)
          have hR4 : Rows2 Any w4 v4 (cseq P (fun x => K1 x ∧ cjS P K1 g x)) := Rows2.sub (RowsD.rows (SlO.toD hO4 (by omega))) (fun _ _ _ => trivial)
          clear hO4 hR3 hSc
          go_wp2
          go_roundw
          case rel => exact ⟨i + 1, _, by go_num, by omega, grown_trans hgi (grown_trans hg3 hg4), hR4, Lib.hid HI.out.2.1⟩
          case measure => simp [intOf]; omega
        · have hie : i = P.orders.length := by omega
          have hlt2 : (cseq P K1).length < gk := by
            have h1 := (G.len_le hC.out.1.1 hK.out.1 hC.out.2.1).1
            have h2 : (cseq P K1).length ≠ (cseq P K).length := fun h => HNO.out (G.corePass_end hK.out.1 (by rw [← hie]; exact hC.out) h).1
            have := HGK.out
            omega
          have HLT := Lib.hid hlt2; clear hlt2
          subst hie
          go_wp2
          go_roundg ((cseq P K1).length)
          case measure => exact HLT.out
          case rel => exact ⟨K1, rfl, hgwi, hui, Lib.hid hC.out.1⟩

end Go.Proofs.YtdklekdpdbjfiaaGreat

/- The reference's intersections, conjugates and sizes of product sets: spec.l13Meet, l13Conj, l13Size; impl.productSize. -/
namespace Go.Proofs.YtdklekdpdbjfiaaGreat
open Go.RowKit

open Classical in
noncomputable def inF (E : List (List Int)) (K : List Int → Prop) (k : Nat) : List (List Int) := (E.take k).filter (fun x => decide (K x))

theorem inF_succ {E : List (List Int)} {K : List Int → Prop} {k : Nat} (hk : k < E.length) (hK : K (gt E k)) : inF E K (k + 1) = inF E K k ++ [gt E k] := by
  unfold inF
  rw [take_succ_gt E k hk, List.filter_append]
  simp [hK]
theorem inF_skip {E : List (List Int)} {K : List Int → Prop} {k : Nat} (hk : k < E.length) (hK : ¬ K (gt E k)) : inF E K (k + 1) = inF E K k := by
  unfold inF
  rw [take_succ_gt E k hk, List.filter_append]
  simp [hK]
theorem inF_len (E : List (List Int)) (K : List Int → Prop) (k : Nat) : (inF E K k).length ≤ E.length := by
  unfold inF
  have h1 := List.length_filter_le (fun x => (by classical exact decide (K x) : Bool)) (E.take k)
  rw [List.length_take] at h1
  have : ((E.take k).filter (fun x => (by classical exact decide (K x) : Bool))).length ≤ E.length := by omega
  exact this
theorem inF_mem {P : Pr} (hP : Valid P) {H K : List Int → Prop} (S : Sub P H) {E : List (List Int)} (hE : E = elemsIn P H) (x : List Int) : x ∈ inF E K E.length ↔ (H x ∧ K x) := by
  unfold inF
  rw [List.take_length, hE, List.mem_filter, elemsIn_mem hP S.vec]
  simp

set_option maxRecDepth 100000 in
set_option maxHeartbeats 4000000 in
theorem l13Meet_ok (P : Pr) (G : Grp P) (w : World) (pv uv vv : Value) (H K : List Int → Prop) (Sp Su Sv : Nat → Prop) (S : Sub P H) (R : Sub P K) (hpv : PresV Sp w pv P) (hu : Rows2 Su w uv (cseq P H)) (hv : Rows2 Sv w vv (cseq P K)) :
    Calls Tryz.prog 94 #[pv, uv, vv] w (Ret w fun w' v => Rows2 Any w' v (cseq P (fun x => H x ∧ K x))) := by
  have hP := G.v
  have hn6 := hP.n6
  obtain ⟨vo, vp, vc, rfl, h3⟩ := hpv
  have hp0 := PresP.box h3 31
  have hg0 : Ext w (w.alloc (.cells #[vo, vp, vc] 31)) := World.grownBy_alloc _ _ _
  have hu0 := Rows2.ext hu hg0
  have hv0 := Rows2.ext hv hg0
  obtain ⟨au, capu, rfl, _, _⟩ := Sl.shape hu
  obtain ⟨av, capv, rfl, _, _⟩ := Sl.shape hv
  obtain ⟨vo6, vp6, vc6, _, _, hc0, hc1, hc2, h36⟩ := hp0.at
  simp only [Nat.zero_add] at hc1 hc2
  have hbx : ∀ w', Ext (w.alloc (.cells #[vo, vp, vc] 31)) w' → w'.cell? ⟨w.heap.size, 0, none⟩ = some vo6 ∧ w'.cell? ⟨w.heap.size, 1, none⟩ = some vp6 ∧ w'.cell? ⟨w.heap.size, 2, none⟩ = some vc6 := fun w' h => ⟨h.cell hc0 (by simp), h.cell hc1 (by simp), h.cell hc2 (by simp)⟩
  have HB := Lib.hid hbx; clear hbx hp0 hu hv
  have hE := l12Elements_ok P G (w.alloc (.cells #[vo, vp, vc] 31)) _ _ H Any Su S ⟨_, _, _, rfl, h36⟩ hu0
  obtain ⟨E, hEe⟩ : ∃ E, E = elemsIn P H := ⟨_, rfl⟩
  have hEl : E.length ≤ 729 := by rw [hEe]; exact elemsIn_len hP H
  rw [← hEe] at hE
  have HE := Lib.hid hEe; clear hEe
  go_enter Tryz.func94, Tryz.ntmps94
  go_wp2_with fail
  clear hc0 hc1 hc2
  generalize hw0 : w.alloc (.cells #[vo, vp, vc] 31) = w0 at *
  clear hw0
  refine Calls.mono hE ?_
  rintro e1 w1 ⟨v1, rfl, hg1, hO⟩
  clear hE
  have hER := RowsD.rows (hO.toD (by omega))
  obtain ⟨ae, cape, hve, _, _⟩ := Sl.shape hER
  subst hve
  have hER1 : Rows2 Any w1 (.slice ae E.length cape) E := Rows2.sub hER (fun _ _ _ => trivial)
  clear hO hER
  go_wp2
  go_loopw [8, 9] (fun ov iv wr => ∃ (i : Nat) (v4 : Value), v4 = ov ∧ iv = .int .i64 i ∧ i ≤ E.length ∧ Ext w1 wr ∧ ShQ (fun _ => False) w1.heap.size wr v4 (inF E K i)) (fun _ iv _ => E.length - (intOf iv).toNat)
  case atStart => exact ⟨0, _, rfl, rfl, by omega, World.grownBy_alloc _ _ _, by
    have : inF E K 0 = [] := by simp [inF]
    rw [this]; exact ShQ.lit _ _ _ (Nat.le_refl _)⟩
  case round =>
    obtain ⟨i, v4, rfl, rfl, hi, hg, hQ⟩ := hrel
    have hg0r := grown_trans hg1 hg
    by_cases hlt : i < E.length
    · have hlt' : (i : Int) < E.length := by omega
      obtain ⟨bb, off, a2, cap2, rfl, _, _, hc, hr⟩ := Rows2.at hER1 i hlt
      have hcr := hg.cell hc (by simp)
      have hXV : Vec P.orders (gt E i) := S.vec _ ((elemsIn_mem hP S.vec _).1 (by rw [← HE.out]; exact gtMem hlt))
      have hfl := inF_len E K i
      have HXV := Lib.hid (And.intro hXV hfl); clear hXV hfl
      have e1 : ∀ w', Ext wr w' → w'.cell? ⟨w.heap.size, 0, none⟩ = some vo6 := fun w' h => (HB.out w' (grown_trans hg0r h)).1
      have e2 : ∀ w', Ext wr w' → w'.cell? ⟨w.heap.size, 1, none⟩ = some vp6 := fun w' h => (HB.out w' (grown_trans hg0r h)).2.1
      have e3 : ∀ w', Ext wr w' → w'.cell? ⟨w.heap.size, 2, none⟩ = some vc6 := fun w' h => (HB.out w' (grown_trans hg0r h)).2.2
      have e4 : ∀ w', Ext wr w' → w'.cell? ⟨bb, off + i, none⟩ = some (.slice a2 (gt E i).length cap2) := fun w' h => h.cell hcr (by simp)
      clear hcr
      go_wp2
      go_region_held3 (fun w' => Ext wr w') (first | exact grown_drew _ _ | assumption)
        (first
          | (go_at_call 153; refine Calls.mono (Calls.rel (w0 := wr) (by assumption) (l12Has_ok P G _ _ _ _ K (gt E i) Any Any Any R ⟨_, _, _, rfl, Pres3.ext h36 (grown_trans hg0r (by assumption))⟩ (Rows2.sub (Rows2.ext hv0 (grown_trans hg0r (by assumption))) (fun _ _ _ => trivial)) (Ints.sub (Ints.ext hr (grown_trans hg (by assumption))) (fun _ _ _ => trivial)) HXV.out.1)) ?_; rintro eA wA ⟨vA, rfl, hgA, hsA, r, rfl, hrA⟩; have HRA := Lib.hid hrA; clear hrA))
      clear e1 e2 e3 e4
      have hgA1 := grown_trans hg hgA
      have hcA := hgA1.cell hc (by simp)
      cases r with
      | false =>
        have hst := inF_skip hlt (fun h => by have := HRA.out.2 h; cases this)
        have HST := Lib.hid hst; clear hst
        go_wp2
        go_roundw
        case rel => exact ⟨i + 1, v4, rfl, by go_num, by omega, hgA1, by rw [HST.out]; exact hQ.ext hgA⟩
        case measure => simp [intOf]; omega
      | true =>
        have hst := inF_succ hlt (HRA.out.1 rfl)
        have HST := Lib.hid hst; clear hst
        have hrA : Ints (fun k => ¬ False ∧ v4.ownBlock ≠ some k) wA (.slice a2 (gt E i).length cap2) (gt E i) := Ints.mono hr (fun k _ hk => ⟨⟨id, fun e => by have := (hQ.lt k e).1; omega⟩, Nat.lt_of_lt_of_le hk hgA1.size, hgA1.block k hk (by simp)⟩)
        go_wp2_with (first | (at_builtin; refine wp_shq_app rfl _ _ rfl (fun _ => False) w1.heap.size v4 _ (inF E K i) (gt E i) rfl wA (hQ.ext hgA) rfl hrA rfl (by have := HXV.out.2; omega) hgA1.size ?_; intro v5 w5 hQ5 hg5 hb5; have hgw5 := grown_own hgA1 hg5 (fun j hj hlt => by have := (hQ.lt j hj).1; omega)) | fail)
        clear hcA
        go_roundw
        case rel => exact ⟨i + 1, v5, rfl, by go_num, by omega, hgw5, by rw [HST.out]; exact hQ5⟩
        case measure => simp [intOf]; omega
    · have hie : i = E.length := by omega
      subst hie
      have hgen : genP P (fun x => x ∈ inF E K E.length) = fun x => H x ∧ K x := genP_list (S.and R) (inF_mem hP S HE.out)
      have hvec : ∀ x ∈ inF E K E.length, Vec P.orders x := fun x hx => S.vec x ((inF_mem hP S HE.out x).1 hx).1
      have hfl := inF_len E K E.length
      have HG := Lib.hid (And.intro hgen (And.intro hvec hfl)); clear hgen hvec hfl
      obtain ⟨hb0, hb1, hb2⟩ := HB.out wr hg0r
      have hQR := hQ.rows
      obtain ⟨aq, capq, hvq, _, _⟩ := Sl.shape hQR
      subst hvq
      go_wp2_with fail
      clear hb0 hb1 hb2
      refine Calls.mono (l12Close_ok P G wr _ _ (inF E K E.length) Any Any ⟨_, _, _, rfl, Pres3.ext h36 hg0r⟩ hQR HG.out.2.1 (by have := HG.out.2.2; omega)) ?_
      rintro eF wF ⟨vF, rfl, hgF, hRF⟩
      rw [HG.out.1] at hRF
      go_wp2
      go_ret
      exact ⟨_, rfl, grown_trans hg0 (grown_trans hg0r hgF), hRF⟩

end Go.Proofs.YtdklekdpdbjfiaaGreat

/- spec.l02Unit, l12Whole: the whole group's sequence. -/
namespace Go.Proofs.YtdklekdpdbjfiaaGreat
open Go.RowKit

set_option maxRecDepth 100000 in
set_option maxHeartbeats 2000000 in
theorem l02Unit_ok (n : Nat) (w : World) (hn : n ≤ 6) : Calls Tryz.prog 154 #[.int .i64 n] w (Ret w fun w' v => Rows2 Any w' v (gensOf n)) := by
  have hgl := gensOf_len n
  have HGL := Lib.hid hgl; clear hgl
  go_enter Tryz.func154, Tryz.ntmps154
  go_wp2
  go_loopw [3, 4] (fun ov iv wr => ∃ (k : Nat) (v4 : Value), v4 = ov ∧ iv = .int .i64 k ∧ k ≤ n ∧ Ext w wr ∧ RowsO w.heap.size wr v4 ((gensOf n).take k)) (fun _ iv _ => n - (intOf iv).toNat)
  case atStart => exact ⟨0, _, rfl, rfl, by omega, World.grownBy_alloc _ _ _, [], fun _ _ => False, rfl, World.ownsRow_lit w #[] 0 (Nat.le_refl _) (by decide) rfl, by simp, by simp, by simp⟩
  case round =>
    obtain ⟨k, v4, rfl, rfl, hk, hg, hO⟩ := hrel
    by_cases hlt : k < n
    · have hlt' : (k : Int) < n := by omega
      have hstep : (gensOf n).take (k + 1) = (gensOf n).take k ++ [unitV n k] := by rw [take_succ_gt _ k (by rw [HGL.out]; exact hlt), gensOf_at n k hlt]
      have htl : ((gensOf n).take k).length ≤ 1000000 := by rw [List.length_take]; omega
      have hul : (unitV n k).length = n := by simp [unitV]
      have HST := Lib.hid (And.intro hstep (And.intro htl hul)); clear hstep htl hul
      go_wp2_with (first
        | (at_make; refine wp_make_ints rfl _ _ rfl wr.heap.size n wr.heap.size rfl _ rfl rfl rfl (by omega) (Nat.le_refl _) ?_; intro w1 ho1 hg1 hlt1; have hc := ho1.cell k (by simp; omega); have hf := ho1.frozen k)
        | (at_builtin; go_must (refine wp_app_row rfl _ _ rfl w.heap.size wr _ v4 _ ((gensOf n).take k) (unitV n k) rfl hO (grown_own hg1 (ho1.store k 1).2 (fun j hj hlt => by cases hj; omega)) (OwnIn.of (base := wr.heap.size) (F := From wr.heap.size) (l := unitV n k) (ho1.store k 1).1 (by have := HST.out.2.2; omega) (fun j h1 _ => h1)) rfl (congrArg (fun z => Value.slice (some ⟨z, 0, none⟩) 1 1) (show w1.heap.size = (w1.setCell ⟨wr.heap.size, k, none⟩ (.int .i64 1)).heap.size by simp [World.setCell])) HST.out.2.1 hg.size ?_); intro v5 w5 hO5 hg5 hg6; have hgw5 := hO.extw hg (Nat.le_refl _) hg5)
        | fail)
      go_roundw
      case rel => exact ⟨k + 1, v5, rfl, by go_num, by omega, hgw5, by rw [HST.out.1]; exact hO5⟩
      case measure => simp [intOf]; omega
    · have hke : k = n := by omega
      subst hke
      rw [List.take_of_length_le (by rw [HGL.out]; exact Nat.le_refl _)] at hO
      have hR := RowsD.rows (hO.toD (by rw [HGL.out]; omega))
      obtain ⟨az, capz, hvz, _, _⟩ := Sl.shape hR
      subst hvz
      go_wp2
      go_ret
      exact ⟨_, rfl, hg, Rows2.sub hR (fun _ _ _ => trivial)⟩

theorem l12Whole_ok (P : Pr) (hP : Valid P) (w : World) (pv : Value) (Sp : Nat → Prop) (hpv : PresV Sp w pv P) :
    Calls Tryz.prog 93 #[pv] w (Ret w fun w' v => Rows2 Any w' v (gensOf P.orders.length)) := by
  obtain ⟨vo, vp, vc, rfl, h3⟩ := hpv
  have hp0 := PresP.box h3 31
  have hg0 : Ext w (w.alloc (.cells #[vo, vp, vc] 31)) := World.grownBy_alloc _ _ _
  have hn6 := hP.n6
  obtain ⟨ao, capo, hco, hoi⟩ := hp0.ordAt
  go_enter Tryz.func93, Tryz.ntmps93
  go_wp2_with fail
  refine Calls.mono (l02Unit_ok P.orders.length _ hn6) ?_
  rintro e1 w1 ⟨v1, rfl, hg1, hR⟩
  have hgl := gensOf_len P.orders.length
  have HGL := Lib.hid hgl; clear hgl
  obtain ⟨az, capz, hvz, _, _⟩ := Sl.shape hR
  subst hvz
  go_wp2
  go_ret
  exact ⟨_, rfl, grown_trans hg0 hg1, hR⟩

end Go.Proofs.YtdklekdpdbjfiaaGreat

/- spec.l02Unit, l12Whole, l13Core. -/
namespace Go.Proofs.YtdklekdpdbjfiaaGreat
open Go.RowKit

set_option maxRecDepth 100000 in
set_option maxHeartbeats 4000000 in
theorem l13Core_ok (P : Pr) (G : Grp P) (w : World) (pv uv : Value) (H : List Int → Prop) (Sp Su : Nat → Prop) (S : Sub P H) (hpv : PresV Sp w pv P) (hu : Rows2 Su w uv (cseq P H)) :
    Calls Tryz.prog 151 #[pv, uv] w (Ret w fun w' v => Rows2 Any w' v (cseq P (coreP P H))) := by
  have hP := G.v
  have hn6 := hP.n6
  obtain ⟨vo, vp, vc, rfl, h3⟩ := hpv
  have hp0 := PresP.box h3 31
  have hg0 : Ext w (w.alloc (.cells #[vo, vp, vc] 31)) := World.grownBy_alloc _ _ _
  have hu0 : Rows2 Any (w.alloc (.cells #[vo, vp, vc] 31)) uv (cseq P H) := Rows2.sub (Rows2.ext hu hg0) (fun _ _ _ => trivial)
  obtain ⟨au, capu, rfl, _, _⟩ := Sl.shape hu
  obtain ⟨vo6, vp6, vc6, _, _, hc0, hc1, hc2, h36⟩ := hp0.at
  simp only [Nat.zero_add] at hc1 hc2
  have hbx : ∀ w', Ext (w.alloc (.cells #[vo, vp, vc] 31)) w' → w'.cell? ⟨w.heap.size, 0, none⟩ = some vo6 ∧ w'.cell? ⟨w.heap.size, 1, none⟩ = some vp6 ∧ w'.cell? ⟨w.heap.size, 2, none⟩ = some vc6 := fun w' h => ⟨h.cell hc0 (by simp), h.cell hc1 (by simp), h.cell hc2 (by simp)⟩
  have HB := Lib.hid hbx; clear hbx hp0 hu
  have HS := Lib.hid S
  have hE := l12Whole_ok P hP (w.alloc (.cells #[vo, vp, vc] 31)) _ Any ⟨_, _, _, rfl, h36⟩
  go_enter Tryz.func151, Tryz.ntmps151
  go_wp2_with fail
  clear hc0 hc1 hc2
  generalize hw0 : w.alloc (.cells #[vo, vp, vc] 31) = w0 at *
  clear hw0
  refine Calls.mono hE ?_
  rintro e1 w1 ⟨v1, rfl, hg1, hgR⟩
  clear hE
  have hgl := gensOf_len P.orders.length
  obtain ⟨ag, capg, hvg, _, _⟩ := Sl.shape hgR
  rw [hgl] at hvg
  subst hvg
  have HGL := Lib.hid hgl; clear hgl
  have hu1 := Rows2.ext hu0 hg1
  clear hu0
  go_wp2
  go_loopg [6] ((cseq P H).length) (fun gk uv wr => ∃ (K : List Int → Prop), gk = (cseq P K).length ∧ Ext w1 wr ∧ Rows2 Any wr uv (cseq P K) ∧ Hid (CoreSt P H K)) 
  case atStart => exact ⟨H, rfl, Ext.refl _, hu1, Lib.hid (G.core_start HS.out)⟩
  case round =>
    clear hu1
    obtain ⟨K, hgk, hg, hu, hK⟩ := hrel
    have hl := G.cseq_len hK.out.1
    obtain ⟨ak, capk, hvk, _, _⟩ := Sl.shape hu
    subst hvk
    have HGK := Lib.hid hgk; clear hgk
    obtain ⟨wo, rfl⟩ : ∃ wo : World, wo = wr := ⟨_, rfl⟩
    have hg0o := grown_trans hg1 hg
    go_wp2
    go_loopw [7, 8] (fun uv iv wr => ∃ (i : Nat) (K1 : List Int → Prop), iv = .int .i64 i ∧ i ≤ P.orders.length ∧ Ext wo wr ∧ Rows2 Any wr uv (cseq P K1) ∧ Hid (CorePass P H K K1 i)) (fun _ iv _ => P.orders.length - (intOf iv).toNat)
    case atStart => exact ⟨0, K, rfl, by omega, Ext.refl _, hu, Lib.hid ⟨hK.out, fun _ h => h, fun j hj => by omega⟩⟩
    case round =>
      obtain ⟨i, K1, rfl, hi, hgi, hui, hC⟩ := hrel
      have hl1 := G.cseq_len hC.out.1.1
      obtain ⟨a1, cap1, hv1, _, _⟩ := Sl.shape hui
      subst hv1
      have hg0i := grown_trans hg0o hgi
      by_cases hlt : i < P.orders.length
      · have hlt' : (i : Int) < P.orders.length := by omega
        obtain ⟨bb, off, ax, capx, rfl, _, _, hc, hr⟩ := Rows2.at hgR i (by rw [HGL.out]; exact hlt)
        have hg1i := grown_trans hg hgi
        have hcr := hg1i.cell hc (by simp)
        have hge := gensOf_at P.orders.length i hlt
        rw [hge] at hcr hr
        have hxV := unitV_vec hP i
        have hst := G.corePass_step hC.out
        have hcj := G.genP_conjL hC.out.1.1 hxV
        have hLV : ∀ y ∈ cseq P K1, Vec P.orders y := fun y hy => hC.out.1.1.vec y ((G.seq_facts hC.out.1.1).2.1 y hy)
        obtain ⟨g, hgg⟩ : ∃ g, g = unitV P.orders.length i := ⟨_, rfl⟩
        rw [← hgg] at hcr hr hxV hst hcj
        have hSc := G.cj_sub hC.out.1.1 hxV
        have HI := Lib.hid (And.intro hxV (And.intro hst (And.intro hcj (And.intro hLV hSc)))); clear hxV hst hcj hLV hgg hge hc hSc
        have f1 : ∀ w', Ext wr w' → w'.cell? ⟨w.heap.size, 0, none⟩ = some vo6 := fun w' h => (HB.out w' (grown_trans hg0i h)).1
        have f2 : ∀ w', Ext wr w' → w'.cell? ⟨w.heap.size, 1, none⟩ = some vp6 := fun w' h => (HB.out w' (grown_trans hg0i h)).2.1
        have f3 : ∀ w', Ext wr w' → w'.cell? ⟨w.heap.size, 2, none⟩ = some vc6 := fun w' h => (HB.out w' (grown_trans hg0i h)).2.2
        have f4 : ∀ w', Ext wr w' → w'.cell? ⟨bb, off + i, none⟩ = some (.slice ax g.length capx) := fun w' h => h.cell hcr (by simp)
        clear hcr
        go_wp2
        go_region_held3 (fun w' => Ext wr w') (first | exact grown_drew _ _ | assumption)
          (first
            | (go_at_call 129; refine Calls.mono (Calls.rel (w0 := wr) (by assumption) (l13Conj_ok P G _ _ _ _ (cseq P K1) g Any Any Any ⟨_, _, _, rfl, Pres3.ext h36 (grown_trans hg0i (by assumption))⟩ (Rows2.ext hui (by assumption)) HI.out.2.2.2.1 (by omega) (Ints.sub (Ints.ext (Ints.ext hr hg1i) (by assumption)) (fun _ _ _ => trivial)) HI.out.1)) ?_; rintro eC wC ⟨vC, rfl, hgC, hsC, hRC⟩; rw [HI.out.2.2.1] at hRC; obtain ⟨aw, capw, hvw, _, _⟩ := Sl.shape hRC; subst hvw)
            | (go_at_call 94; refine Calls.mono (Calls.rel (w0 := wr) (by assumption) (l13Meet_ok P G _ _ _ _ K1 (cjS P K1 g) Any Any Any hC.out.1.1 HI.out.2.2.2.2 ⟨_, _, _, rfl, Pres3.ext h36 (grown_trans hg0i (by assumption))⟩ (Rows2.ext hui (by assumption)) hRC)) ?_; rintro eD wD ⟨vD, rfl, hgD, hsD, hRD⟩))
        clear f1 f2 f3 f4
        go_wp2
        go_roundw
        case rel => exact ⟨i + 1, _, by go_num, by omega, grown_trans hgi hgD, hRD, Lib.hid HI.out.2.1⟩
        case measure => simp [intOf]; omega
      · have hie : i = P.orders.length := by omega
        have hle := (G.len_le hC.out.1.1 hK.out.1 hC.out.2.1).1
        by_cases heq : (cseq P K1).length = (cseq P K).length
        · have hend := G.corePass_end hK.out.1 (by rw [← hie]; exact hC.out) heq
          have hKK : K1 = K := funext fun x => propext ⟨hC.out.2.1 x, hend.2 x⟩
          have hE := core_done hK.out hend.1
          rw [← hKK] at hE
          have hb : (((cseq P K1).length : Int) == ((cseq P K).length : Int)) = true := by simp [heq]
          have HE := Lib.hid hE; clear hE hKK hend heq
          rw [HE.out] at hui
          have hce : (cseq P K1).length = (cseq P (coreP P H)).length := by rw [HE.out]
          have HCE := Lib.hid hce; clear hce
          subst hie
          go_wp2
          go_ret
          exact ⟨_, rfl, grown_trans hg0 hg0i, by rw [← HE.out] at hui ⊢; exact hui⟩
        · have hb : (((cseq P K1).length : Int) == ((cseq P K).length : Int)) = false := by simp; omega
          have hlt2 : (cseq P K1).length < gk := by have := HGK.out; omega
          have HLT := Lib.hid hlt2; clear hlt2 heq
          subst hie
          go_wp2
          go_roundg ((cseq P K1).length)
          case measure => exact HLT.out
          case rel => exact ⟨K1, rfl, grown_trans hg hgi, hui, Lib.hid hC.out.1⟩

end Go.Proofs.YtdklekdpdbjfiaaGreat

/- The library's sort on a slice that the call has built: any elements of one cell in blocks of their own, any comparison that lays blocks and draws but turns nothing. -/
namespace Go.Proofs.YtdklekdpdbjfiaaGreat
open Go.Proofs Go.Shelf Go.RowKit Go.Lib Go.Sort

/-- a world that grew and drew: the sort's own form -/
theorem ext_grow {W w' : World} (h : Ext W w') (hd : W.drawn ≤ w'.drawn) : ∃ q os', w' = grow (W.drewN q) os' := by
  refine ⟨w'.drawn - W.drawn, w'.heap.extract W.heap.size w'.heap.size, ?_⟩
  obtain ⟨h1, h2, h3, h4, h5⟩ := h
  have hh : W.heap ++ w'.heap.extract W.heap.size w'.heap.size = w'.heap := by
    apply Array.ext
    · simp; omega
    · intro i hi1 hi2
      by_cases hlt : i < W.heap.size
      · rw [Array.getElem_append_left hlt]
        have := h5 i hlt (by simp)
        rw [Array.getElem?_eq_getElem hi2, Array.getElem?_eq_getElem hlt] at this
        exact (Option.some.inj this).symm
      · rw [Array.getElem_append_right (by omega)]
        simp only [Array.getElem_extract]
        congr 1; omega
  cases w' with
  | mk heap tape drawn os output =>
    cases W with
    | mk heap2 tape2 drawn2 os2 output2 =>
      simp only at h1 h2 h3 hh hd
      subst h1; subst h2; subst h3
      unfold grow World.drewN
      simp only [World.mk.injEq]
      exact ⟨hh.symm, trivial, by omega, trivial, trivial⟩

section
variable {α : Type} [Inhabited α]

theorem swo_at {cf : α → α → Int} (h : SWO (ltOf cf)) (L : List α) : SWO (ltOf (fun i j : Nat => cf (gt L i) (gt L j))) where
  irrefl x := h.irrefl (gt L x)
  trans x y z := h.trans (gt L x) (gt L y) (gt L z)
  ntrans x y z := h.ntrans (gt L x) (gt L y) (gt L z)

set_option maxHeartbeats 1000000 in
theorem sortG {P : Program} {ρ : Ren} (Lay : SlLaysF.n6 P ρ) {El : (Nat → Prop) → World → Value → α → Prop} (hEl : RdOk El) (E B : Nat) (cf : α → α → Int) (hS : SWO (ltOf cf)) (g : Nat) (cb : Array Value)
    (eg : ∀ args w, (callFunc g args).run P w = .ok (.enter g args) w) (w : World) (v : Value) (L : List α) (A : Nat → Prop) (hL : SlOA El E B A w v L) (hne : 0 < L.length) (hlen : L.length ≤ 1000000)
    (hnil : ∀ W, El (fun _ => True) W (.slice none 0 0) default)
    (hcmp : ∀ (W : World) (u1 u2 : Value) (x y : α), w.grownBy W v.ownBlock → (x ∈ L ∨ x = default) → (y ∈ L ∨ y = default) → El (fun _ => True) W u1 x → El (fun _ => True) W u2 y →
      Calls P g (#[u1, u2] ++ cb) W fun e w' => e = .returned (.int .i64 (cf x y)) ∧ Ext W w' ∧ W.drawn ≤ w'.drawn) :
    Calls P (ρ.f 6) #[v, .func (.func g) #[] cb] w fun e w' => e = .returned (.tuple #[]) ∧ ∃ L', SlOA El E B A w' v L' ∧ L'.Perm L ∧ L'.Pairwise (fun x y => 0 ≤ cf y x) ∧ w.grownBy w' v.ownBlock := by
  obtain ⟨vs, G, hvl, hO, hG, hd, hE, hav, hav2⟩ := hL
  obtain ⟨_, ⟨rfl, h0⟩ | ⟨gb, cap, cur, rfl, hBg, hb, hnc, hcm, hsz, hx⟩⟩ := hO
  · omega
  have hgs : gb < w.heap.size := (Array.getElem?_eq_some_iff.1 hb).1
  have hone : OneCell (encAt vs) := encAt_one fun i hi => hEl.one (hE i (by omega))
  have hmap : (List.range L.length).map (encAt vs) = vs := by
    apply List.ext_getElem (by simp [hvl])
    intro j h1 h2
    simp [encAt, gt, h2]
  have hH : Go.Sort.Holds (encAt vs) w gb 0 (List.range L.length).toArray := holds_of_blockV hb (by rw [hmap, List.length_range, ← hvl]; simpa using hx)
  have hlays : CmpLays1 P g cb (encAt vs) (fun i j : Nat => cf (gt L i) (gt L j)) gb 0 (List.range L.length).toArray.size w := by
    intro m os dk _ x y
    have hgr : w.grownBy (sortWorld (encAt vs) w gb 0 m dk os) (some gb) := grownBy_sortedV dk
    have hread : ∀ k, El (fun _ => True) (sortWorld (encAt vs) w gb 0 m dk os) (encAt vs k) (gt L k) ∧ (gt L k ∈ L ∨ gt L k = default) := by
      intro k
      by_cases hk : k < vs.length
      · have he := hE k (by omega)
        unfold encAt
        rw [if_pos hk]
        exact ⟨hEl.mono he (fun b hb2 hlt => ⟨trivial, Nat.lt_of_lt_of_le hlt hgr.size, hgr.block b hlt (fun e => (hG k b (by omega) hb2).2.1 (by cases e; rfl))⟩), .inl (gt_mem (by omega))⟩
      · have h1 : gt L k = default := by simp [gt, show ¬ k < L.length by omega]
        unfold encAt
        rw [if_neg hk, h1]
        exact ⟨hnil _, .inr rfl⟩
    refine (hcmp _ _ _ _ _ hgr (hread x).2 (hread y).2 (hread x).1 (hread y).1).mono ?_
    rintro e w' ⟨rfl, he, hdr⟩
    exact ⟨rfl, ext_grow he hdr⟩
  have hcon := Any.slices_SortFunc Lay (encAt vs) hone (fun i j : Nat => cf (gt L i) (gt L j)) (swo_at hS L) g cb gb 0 cap (List.range L.length).toArray w eg hlays hH hgs (by simp; omega)
  have hsz2 : (List.range L.length).toArray.size = vs.length := by simp [hvl]
  rw [hsz2] at hcon
  refine hcon.mono ?_
  rintro e w' ⟨he, d', n, os, ⟨hs1, _, hperm⟩, hsorted, rfl⟩
  have hts : d'.toList.length = L.length := by simpa [hvl] using hs1
  have hP : d'.toList.Perm (List.range L.length) := by
    have h1 : d'.extract 0 vs.length = d' := by
      apply Array.ext'
      rw [hvl, ← hts]; simp
    have h2 : (List.range L.length).toArray.extract 0 vs.length = (List.range L.length).toArray := by
      apply Array.ext'
      rw [hvl]; simp
    rw [h1, h2] at hperm
    simpa using hperm
  have hin : ∀ i, i < L.length → gt d'.toList i < L.length := fun i hi => by
    have := hP.subset (gt_mem (l := d'.toList) (i := i) (by omega))
    simpa using this
  have hnd : d'.toList.Nodup := hP.symm.nodup List.nodup_range
  have hmapL : (List.range L.length).map (gt L) = L := by
    apply List.ext_getElem (by simp)
    intro j h1 h2
    simp [gt, h2]
  have hgr : w.grownBy (sortWorld (encAt vs) w gb 0 n d' os) (some gb) := grownBy_sortedV d'
  have hgv : ∀ i, i < L.length → gt (d'.toList.map (encAt vs)) i = gt vs (gt d'.toList i) := fun i hi => by
    have h1 : gt (d'.toList.map (encAt vs)) i = encAt vs (gt d'.toList i) := gt_map _ _ _ (by omega)
    rw [h1]; unfold encAt; rw [if_pos (by rw [hvl]; exact hin i hi)]
  have hgL : ∀ i, i < L.length → gt (d'.toList.map (gt L)) i = gt L (gt d'.toList i) := fun i hi => gt_map _ _ _ (by omega)
  refine ⟨he, d'.toList.map (gt L), ⟨d'.toList.map (encAt vs), fun i k => G (gt d'.toList i) k, by simp, ?_, ?_, ?_, ?_, fun i k hi hk => hav (gt d'.toList i) k (hin i (by simp only [List.length_map] at hi; omega)) hk, hav2⟩, ?_, ?_, hgr⟩
  · have := ownsRow_sortedV (enc := encAt vs) (n := n) (os := os) (ss := List.range L.length) (ts := d'.toList) (by rw [hts, List.length_range]) hBg hb (by rw [List.length_range, ← hvl]; exact hnc) hcm hsz
    rw [List.length_range, ← hvl] at this
    unfold OwnV
    rw [show (d'.toList.map (encAt vs)).length = vs.length by rw [List.length_map, hts, hvl]]
    simpa using this
  · intro i k hi hk
    obtain ⟨a1, a2, a3⟩ := hG _ k (hin i (by simp only [List.length_map] at hi; omega)) hk
    exact ⟨a1, a2, Nat.lt_of_lt_of_le a3 hgr.size⟩
  · intro i j k hi hj hk hk'
    simp only [List.length_map] at hi hj
    exact gt_inj hnd (by omega) (by omega) (hd _ _ k (hin i (by omega)) (hin j (by omega)) hk hk')
  · intro i hi
    simp only [List.length_map] at hi
    rw [hgv i (by omega), hgL i (by omega)]
    have he := hE _ (hin i (by omega))
    exact hEl.mono he (fun b hb2 hlt => ⟨hb2, Nat.lt_of_lt_of_le hlt hgr.size, hgr.block b hlt (fun e => (hG _ b (hin i (by omega)) hb2).2.1 (by cases e; rfl))⟩)
  · have := hP.map (gt L)
    rwa [hmapL] at this
  · refine List.pairwise_iff_getElem.2 ?_
    intro i j hi hj hij
    have hi' : i < d'.size := by simpa using hi
    have hj' : j < d'.size := by simpa using hj
    have h1 := hsorted i j (Nat.zero_le _) hij (by rw [hs1, hsz2] at hj'; exact hj')
    rw [getElem!_pos d' i hi', getElem!_pos d' j hj'] at h1
    unfold ltOf at h1
    rw [decide_eq_false_iff_not] at h1
    simp only [List.getElem_map, Array.getElem_toList]
    have h2 : ¬ cf (gt L d'[j]) (gt L d'[i]) < 0 := h1
    omega
end

end Go.Proofs.YtdklekdpdbjfiaaGreat

/- The library's sort at [][][]int64 with the lattice's comparison. -/
namespace Go.Proofs.YtdklekdpdbjfiaaGreat
open Go.Proofs Go.Shelf Go.RowKit Go.Lib Go.Sort
def Tryz.sortRows3_ren : Go.Shelf.Ren := ⟨fun | 6 => 138 | 15 => 200 | 14 => 199 | 28 => 240 | 29 => 241 | 20 => 232 | 21 => 233 | 22 => 234 | 23 => 235 | 24 => 236 | 25 => 237 | 26 => 238 | 27 => 239 | 46 => 251 | 47 => 252 | 48 => 253 | 49 => 254 | 50 => 255 | 57 => 265 | n => n, fun | 22 => 24 | 24 => 23 | 25 => 128 | 3 => 3 | 39 => 168 | 0 => 0 | 53 => 198 | 55 => 95 | 4 => 4 | 46 => 191 | 45 => 190 | 50 => 195 | 5 => 5 | 9 => 9 | 66 => 204 | 70 => 208 | 76 => 216 | 77 => 217 | n => n, fun | n => n⟩
theorem Tryz.sortRows3 : Go.Proofs.SlLaysF.n6 Tryz.prog Tryz.sortRows3_ren := {
  mixed := by kernel_rfl
  f6 := ⟨Tryz.f138.name, by decide, Tryz.func138.trans (congrArg some (by kernel_rfl))⟩
  f14 := ⟨Tryz.f199.name, by decide, Tryz.func199.trans (congrArg some (by kernel_rfl))⟩
  f15 := Tryz.func200.trans (congrArg some (by kernel_rfl))
  f20 := ⟨Tryz.f232.name, by decide, Tryz.func232.trans (congrArg some (by kernel_rfl))⟩
  f21 := ⟨Tryz.f233.name, by decide, Tryz.func233.trans (congrArg some (by kernel_rfl))⟩
  f22 := ⟨Tryz.f234.name, by decide, Tryz.func234.trans (congrArg some (by kernel_rfl))⟩
  f23 := ⟨Tryz.f235.name, by decide, Tryz.func235.trans (congrArg some (by kernel_rfl))⟩
  f24 := ⟨Tryz.f236.name, by decide, Tryz.func236.trans (congrArg some (by kernel_rfl))⟩
  f25 := ⟨Tryz.f237.name, by decide, Tryz.func237.trans (congrArg some (by kernel_rfl))⟩
  f26 := ⟨Tryz.f238.name, by decide, Tryz.func238.trans (congrArg some (by kernel_rfl))⟩
  f27 := ⟨Tryz.f239.name, by decide, Tryz.func239.trans (congrArg some (by kernel_rfl))⟩
  f28 := Tryz.func240.trans (congrArg some (by kernel_rfl))
  f29 := Tryz.func241.trans (congrArg some (by kernel_rfl))
  f46 := ⟨Tryz.f251.name, by decide, Tryz.func251.trans (congrArg some (by kernel_rfl))⟩
  f47 := Tryz.func252.trans (congrArg some (by kernel_rfl))
  f48 := Tryz.func253.trans (congrArg some (by kernel_rfl))
  f49 := ⟨Tryz.f254.name, by decide, Tryz.func254.trans (congrArg some (by kernel_rfl))⟩
  f50 := ⟨Tryz.f255.name, by decide, Tryz.func255.trans (congrArg some (by kernel_rfl))⟩
  f57 := ⟨Tryz.f265.name, by decide, Tryz.func265.trans (congrArg some (by kernel_rfl))⟩
  t0 := Tryz.underlying0
  a0 := Tryz.isAgg0
  z0 := Tryz.sizeOf0
  v0 := Tryz.zeroValue0
  t3 := Tryz.underlying3
  a3 := Tryz.isAgg3
  z3 := Tryz.sizeOf3
  v3 := Tryz.zeroValue3
  t4 := Tryz.underlying4
  a4 := Tryz.isAgg4
  z4 := Tryz.sizeOf4
  v4 := Tryz.zeroValue4
  t5 := Tryz.underlying5
  a5 := Tryz.isAgg5
  z5 := Tryz.sizeOf5
  v5 := Tryz.zeroValue5
  t9 := Tryz.underlying9
  a9 := Tryz.isAgg9
  z9 := Tryz.sizeOf9
  v9 := Tryz.zeroValue9
  t22 := Tryz.underlying24
  a22 := Tryz.isAgg24
  z22 := Tryz.sizeOf24
  v22 := Tryz.zeroValue24
  a24 := Tryz.isAgg23
  z24 := Tryz.sizeOf23
  t25 := Tryz.underlying128
  a25 := Tryz.isAgg128
  z25 := Tryz.sizeOf128
  v25 := Tryz.zeroValue128
  t39 := Tryz.underlying168
  a39 := Tryz.isAgg168
  z39 := Tryz.sizeOf168
  v39 := Tryz.zeroValue168
  t45 := Tryz.underlying190
  a45 := Tryz.isAgg190
  z45 := Tryz.sizeOf190
  v45 := Tryz.zeroValue190
  t46 := Tryz.underlying191
  a46 := Tryz.isAgg191
  z46 := Tryz.sizeOf191
  v46 := Tryz.zeroValue191
  t50 := Tryz.underlying195
  a50 := Tryz.isAgg195
  z50 := Tryz.sizeOf195
  v50 := Tryz.zeroValue195
  t53 := Tryz.underlying198
  a53 := Tryz.isAgg198
  z53 := Tryz.sizeOf198
  v53 := Tryz.zeroValue198
  t55 := Tryz.underlying95
  a55 := Tryz.isAgg95
  z55 := Tryz.sizeOf95
  v55 := Tryz.zeroValue95
  t66 := Tryz.underlying204
  a66 := Tryz.isAgg204
  z66 := Tryz.sizeOf204
  v66 := Tryz.zeroValue204
  t70 := Tryz.underlying208
  a70 := Tryz.isAgg208
  z70 := Tryz.sizeOf208
  v70 := Tryz.zeroValue208
  t76 := Tryz.underlying216
  a76 := Tryz.isAgg216
  z76 := Tryz.sizeOf216
  v76 := Tryz.zeroValue216
  t77 := Tryz.underlying217
  a77 := Tryz.isAgg217
  z77 := Tryz.sizeOf217
  v77 := Tryz.zeroValue217 }

theorem seqOk_nil (P : Pr) : SeqOk P [] := ⟨by simp, by simp⟩

end Go.Proofs.YtdklekdpdbjfiaaGreat

/- The library's sort with the comparison of Hall subgroups. (Turned from CmpW, SortL3.) -/
namespace Go.Proofs.YtdklekdpdbjfiaaGreat
open Go.Proofs Go.Shelf Go.RowKit Go.Lib Go.Sort

set_option maxHeartbeats 1000000 in
theorem hallCmp_ok (P : Pr) (hP : Valid P) (w : World) (bx pb po : Nat) (uv vv : Value) (U V : List (List Int)) (Sp Su Sv : Nat → Prop) (hc : w.cell? ⟨bx, 0, none⟩ = some (.pointer (some ⟨pb, po, none⟩))) (hp : PresP Sp w (.pointer (some ⟨pb, po, none⟩)) P)
    (hu : Rows2 Su w uv U) (hv : Rows2 Sv w vv V) (hU : SeqOk P U) (hV : SeqOk P V) (hlu : U.length ≤ 100) (hlv : V.length ≤ 100) :
    Calls Tryz.prog 139 #[uv, vv, .pointer (some ⟨bx, 0, none⟩)] w (Ret w fun w' v => v = .int .i64 (cmpS P U V) ∧ w.drawn ≤ w'.drawn) := by
  go_enter Tryz.func139, Tryz.ntmps139
  go_wp2_with fail
  refine Calls.mono (compareSubgroups_ok P hP w _ uv vv U V Sp Su Sv hp hu hv hU hV hlu hlv) ?_
  rintro e1 w1 ⟨v1, rfl, hg1, rfl, hd1⟩
  obtain ⟨c, hc⟩ : ∃ c, c = cmpS P U V := ⟨_, rfl⟩
  rw [← hc]
  have HC := Lib.hid (And.intro hc hd1); clear hc hd1
  go_wp2
  go_ret
  exact ⟨_, rfl, hg1, congrArg (Value.int .i64) HC.out.1, HC.out.2⟩

theorem sortHall_ok (P : Pr) (hP : Valid P) (w : World) (v : Value) (L : List (List (List Int))) (A : Nat → Prop) (B bx pb po : Nat) (hL : SlOA (fun F w u (x : List (List Int)) => RowsD F w u x) 23 B A w v L) (hne : 0 < L.length) (hlen : L.length ≤ 1000000)
    (hU : ∀ u ∈ L, SeqOk P u ∧ u.length ≤ 100) (hc : w.cell? ⟨bx, 0, none⟩ = some (.pointer (some ⟨pb, po, none⟩))) (hbx : v.ownBlock ≠ some bx) (hp : PresP (fun k => v.ownBlock ≠ some k) w (.pointer (some ⟨pb, po, none⟩)) P) :
    Calls Tryz.prog 138 #[v, .func (.func 139) #[] #[.pointer (some ⟨bx, 0, none⟩)]] w fun e w' => e = .returned (.tuple #[]) ∧
      ∃ L', SlOA (fun F w u (x : List (List Int)) => RowsD F w u x) 23 B A w' v L' ∧ L'.Perm L ∧ L'.Pairwise (fun x y => 0 ≤ cmpS P y x) ∧ w.grownBy w' v.ownBlock := by
  have eg : ∀ args w, (callFunc 139 args).run Tryz.prog w = .ok (.enter 139 args) w := enters_of Tryz.func139 (by kernel_rfl) rfl
  have h := sortG Tryz.sortRows3 rdRows 23 B (cmpS P) (swo_cmpS P) 139 #[.pointer (some ⟨bx, 0, none⟩)] eg w v L A hL hne hlen (fun W => (SlO.nil OwnIn 22 0 W).toD (by simp) |> fun h => rdRows.mono h (fun k hk hlt => ⟨trivial, hlt, rfl⟩)) (by
    intro W u1 u2 x y hg hx hy h1 h2
    have hp' : PresP Any W (.pointer (some ⟨pb, po, none⟩)) P := PresP.mono hp (frame_of hg (fun k hk _ => ⟨trivial, hk⟩))
    have hc' : W.cell? ⟨bx, 0, none⟩ = some (.pointer (some ⟨pb, po, none⟩)) := hg.cell hc (fun e => hbx e.symm)
    have hq : ∀ z, (z ∈ L ∨ z = default) → SeqOk P z ∧ z.length ≤ 100 := fun z hz => by
      rcases hz with hz | hz
      · exact hU z hz
      · rw [hz]; exact ⟨seqOk_nil P, by decide⟩
    refine (hallCmp_ok P hP W bx pb po u1 u2 x y Any _ _ hc' hp' (RowsD.rows h1) (RowsD.rows h2) (hq x hx).1 (hq y hy).1 (hq x hx).2 (hq y hy).2).mono ?_
    rintro e w' ⟨v1, rfl, hg1, rfl, hd⟩
    exact ⟨rfl, hg1, hd⟩)
  exact h

end Go.Proofs.YtdklekdpdbjfiaaGreat

/- The key tells the subgroup. -/
namespace Go.Proofs.YtdklekdpdbjfiaaGreat
open Go.RowKit

theorem strOf_inj : ∀ {xs ys : List Int}, (∀ a ∈ xs, 0 ≤ a ∧ a < 256) → (∀ a ∈ ys, 0 ≤ a ∧ a < 256) → strOfNums xs = strOfNums ys → xs = ys := by
  intro xs ys hx hy h
  have h1 : xs.map (fun n => UInt8.ofNat n.toNat) = ys.map (fun n => UInt8.ofNat n.toNat) := by
    rw [← strOfNums_data, ← strOfNums_data, h]
  have key : ∀ {xs ys : List Int}, (∀ a ∈ xs, 0 ≤ a ∧ a < 256) → (∀ a ∈ ys, 0 ≤ a ∧ a < 256) → xs.map (fun n => UInt8.ofNat n.toNat) = ys.map (fun n => UInt8.ofNat n.toNat) → xs = ys := by
    intro xs
    induction xs with
    | nil => intro ys _ _ h; cases ys with
      | nil => rfl
      | cons => simp at h
    | cons x xs ih =>
      intro ys hx hy h
      cases ys with
      | nil => simp at h
      | cons y ys =>
        simp only [List.map_cons, List.cons.injEq] at h
        obtain ⟨a1, a2⟩ := hx x (List.mem_cons_self ..)
        obtain ⟨b1, b2⟩ := hy y (List.mem_cons_self ..)
        have he := congrArg UInt8.toNat h.1
        rw [UInt8.toNat_ofNat', UInt8.toNat_ofNat', Nat.mod_eq_of_lt (by omega), Nat.mod_eq_of_lt (by omega)] at he
        rw [show x = y by omega, ih (fun a ha => hx a (List.mem_cons_of_mem _ ha)) (fun a ha => hy a (List.mem_cons_of_mem _ ha)) h.2]
  exact key hx hy h1

theorem keyL_bytes {u : List (List Int)} (h : ∀ x ∈ u, ∀ e ∈ x, 0 ≤ e ∧ e < 256) : ∀ a ∈ keyL u, 0 ≤ a ∧ a < 256 := by
  intro a ha
  unfold keyL at ha
  obtain ⟨r, hr, har⟩ := List.mem_flatten.1 ha
  obtain ⟨x, hx, rfl⟩ := List.mem_map.1 hr
  rcases List.mem_append.1 har with h1 | h1
  · exact h x hx a h1
  · simp at h1; omega

theorem keyRow_inj {x y : List Int} (h : keyRow x = keyRow y) : x = y := List.append_cancel_right h

theorem keyS_inj {n : Nat} {u v : List (List Int)} (hu : ∀ x ∈ u, x.length = n ∧ ∀ e ∈ x, 0 ≤ e ∧ e < 256) (hv : ∀ x ∈ v, x.length = n ∧ ∀ e ∈ x, 0 ≤ e ∧ e < 256) (h : keyS u = keyS v) : u = v := by
  have h1 := strOf_inj (keyL_bytes fun x hx => (hu x hx).2) (keyL_bytes fun x hx => (hv x hx).2) h
  have h2 : u.map keyRow = v.map keyRow := flatten_inj (n := n + 1) (by omega)
    (fun r hr => by obtain ⟨x, hx, rfl⟩ := List.mem_map.1 hr; simp [keyRow, (hu x hx).1])
    (fun r hr => by obtain ⟨x, hx, rfl⟩ := List.mem_map.1 hr; simp [keyRow, (hv x hx).1]) h1
  have key : ∀ {u v : List (List Int)}, u.map keyRow = v.map keyRow → u = v := by
    intro u
    induction u with
    | nil => intro v h; cases v with
      | nil => rfl
      | cons => simp at h
    | cons x u ih =>
      intro v h
      cases v with
      | nil => simp at h
      | cons y v =>
        simp only [List.map_cons, List.cons.injEq] at h
        rw [keyRow_inj h.1, ih h.2]
  exact key h2

/-- rows of vectors are bytes -/
theorem vec_bytes {P : Pr} (hP : Valid P) {x : List Int} (hx : Vec P.orders x) : x.length = P.orders.length ∧ ∀ e ∈ x, 0 ≤ e ∧ e < 256 := by
  refine ⟨hx.1, fun e he => ?_⟩
  obtain ⟨i, hi, rfl⟩ := List.getElem_of_mem he
  have h1 := hx.2 i (by rw [← hx.1]; exact hi)
  rw [← gt_eq _ _ hi]
  have h2 := hP.ord7 i (by rw [← hx.1]; exact hi)
  omega

theorem subB_key {P : Pr} (hP : Valid P) {u v : List (List Int)} (hu : SubB P u) (hv : SubB P v) (h : keyS u = keyS v) : u = v :=
  keyS_inj (fun x hx => vec_bytes hP (hu.1 x hx)) (fun x hx => vec_bytes hP (hv.1 x hx)) h

end Go.Proofs.YtdklekdpdbjfiaaGreat

/- append of a subgroup that lay there before to a list of subgroups. (Printed from AppTake.) -/
namespace Go.Proofs.YtdklekdpdbjfiaaGreat
open Go.RowKit

end Go.Proofs.YtdklekdpdbjfiaaGreat

/- Vectors of different kinds lie in different blocks; an append that tells where the new vector lies. -/
namespace Go.Proofs.YtdklekdpdbjfiaaGreat
open Go.RowKit

end Go.Proofs.YtdklekdpdbjfiaaGreat

/- (*impl.lattice).classes: the first subgroups of the classes of conjugate subgroups, and the sizes. -/
namespace Go.Proofs.YtdklekdpdbjfiaaGreat
open Go.RowKit
open Go.Maps (Keyed)

theorem und_mapSB : Tryz.prog.underlying 123 = some (.map 9 4) := by kernel_rfl
theorem makeSB (w : World) : (Instr.makeMap 123 none).run Tryz.prog w = .ok (.map (some w.heap.size)) (w.alloc (.map #[] 0)) := by kernel_rfl

/-- map[string]bool -/
def mapSB : MapK ByteArray Bool where
  t := 123
  k := 9
  e := 4
  kv s := .string s
  kl s := .string s.data.toList
  okK s := s.size ≤ maxLen
  ev x := .bool x
  el x := .bool x
  okV _ := True
  z := false
  keyed := Maps.string_keyed und_str
  und := und_mapSB
  key s hs := WideMaps.keyOf_string_mk und_str hs
  inj a c h := by
    cases a with | mk a => cases c with | mk c =>
    simp only [Lit.string.injEq] at h
    rw [Array.toList_inj.1 h]
  isKey _ := trivial
  elem x _ := plainElem_bool und_boolL x
  inv v x ps h := by
    unfold plainElem at h
    rw [und_boolL] at h
    cases v <;> simp at h
    rw [h.1]
  zero w := by kernel_rfl
  okz := trivial

theorem allEl_len (P : Pr) : (allEl P).length = (ordP P).toNat := by unfold allEl; rw [List.length_map, List.length_range]
theorem gt_allEl {P : Pr} {t : Nat} (h : t < (ordP P).toNat) : gt (allEl P) t = elAt P (t : Int) := by
  unfold allEl
  rw [gt_map _ _ _ (by rw [List.length_range]; exact h)]
  congr 2
  simp [gt, h]

/-- the keys of what was seen -/
def keyIn (S : List (List (List Int))) (s : ByteArray) : Bool := S.any (fun v => decide (keyS v = s))
theorem keyIn_iff {P : Pr} (hP : Valid P) {S : List (List (List Int))} (hS : ∀ v ∈ S, SubB P v) {u : List (List Int)} (hu : SubB P u) : keyIn S (keyS u) = decide (u ∈ S) := by
  rw [Bool.eq_iff_iff, decide_eq_true_iff]
  unfold keyIn
  rw [List.any_eq_true]
  constructor
  · rintro ⟨v, hv, h⟩
    rw [← subB_key hP (hS v hv) hu (of_decide_eq_true h)]; exact hv
  · intro h; exact ⟨u, h, by simp⟩
theorem keyIn_app (S : List (List (List Int))) (u : List (List Int)) (s : ByteArray) : (if s = keyS u then true else keyIn S s) = keyIn (S ++ [u]) s := by
  unfold keyIn
  rw [List.any_append, List.any_cons, List.any_nil, Bool.or_false]
  by_cases h : s = keyS u
  · rw [if_pos h, h]; simp
  · rw [if_neg h]
    have : decide (keyS u = s) = false := by simpa using fun e => h e.symm
    rw [this, Bool.or_false]
theorem subB_bytes {P : Pr} (G : Grp P) {u : List (List Int)} (hu : SubB P u) : (keyS u).size ≤ maxLen ∧ (∀ x ∈ u, ∀ e ∈ x, 0 ≤ e ∧ e < 256) ∧ (∀ x ∈ u, x.length ≤ 1000) ∧ u.length ≤ 100 := by
  have hn6 := G.v.n6
  have hul := G.sub_len hu
  have hkl := keyL_len u 6 (fun z hz => by rw [(hu.1 z hz).1]; exact hn6)
  have hks := keyS_size u
  refine ⟨by unfold maxLen; have : (6 + 1) * u.length ≤ 100 := by omega
             omega, fun z hz => (vec_bytes G.v (hu.1 z hz)).2, fun z hz => by rw [(hu.1 z hz).1]; omega, by omega⟩

end Go.Proofs.YtdklekdpdbjfiaaGreat

/- impl.hallSubgroups. (Printed by gen_hall.py.) -/
namespace Go.Proofs.YtdklekdpdbjfiaaGreat
open Go.RowKit

theorem seqOk_subB {P : Pr} (G : Grp P) {u : List (List Int)} (hu : SubB P u) : SeqOk P u := by
  have h := (G.seq_facts (G.subB hu)).1
  have e : cseq P (genP P fun x => x ∈ u) = u := hu.2.symm
  rw [e] at h
  exact h

set_option maxRecDepth 100000 in
set_option maxHeartbeats 16000000 in
set_option linter.unusedSimpArgs false in
theorem hallSubgroups_ok (P : Pr) (G : Grp P) (pr : List Int) (w : World) (p v : Value) (Sp S : Nat → Prop) (hp : PresP Sp w p P) (hv : Ints S w v pr) :
    Calls Tryz.prog 77 #[p, v] w (Ret w fun w' r => ∃ L, HallL P pr L ∧ SlO (fun F w u (x : List (List Int)) => RowsD F w u x) 23 w.heap.size w' r L) := by
  have hP := G.v
  have hn6 := hP.n6
  have h729 : ordP P ≤ 729 := hP.le729
  have hpos := hP.ordP_pos
  obtain ⟨pb, po, rfl⟩ := hp.shape
  obtain ⟨av, cv, rfl, _, _⟩ := hv.shape
  have hg0 : Ext w (w.alloc (.cells #[.pointer (some ⟨pb, po, none⟩)] 67)) := World.grownBy_alloc _ _ _
  have hbx : ∀ w', Ext (w.alloc (.cells #[.pointer (some ⟨pb, po, none⟩)] 67)) w' → w'.cell? ⟨w.heap.size, 0, none⟩ = some (.pointer (some ⟨pb, po, none⟩)) := fun w' h => h.cell (by rw [World.cell?_alloc_at _ _ _ _ rfl]; rfl) (by simp)
  have hbs : w.heap.size < (w.alloc (.cells #[.pointer (some ⟨pb, po, none⟩)] 67)).heap.size := by simp
  have hp0 := hp.ext hg0
  have hho := hallOrder_ok P hP pr _ _ _ Sp S hp0 (Ints.ext hv hg0)
  have HB := Lib.hid hbx; clear hbx hv
  have HBS := Lib.hid hbs; clear hbs
  obtain ⟨N, hN⟩ : ∃ N, N = (ordP P).toNat := ⟨_, rfl⟩
  have hN729 : N ≤ 729 := by omega
  have HN := Lib.hid hN; clear hN hpos h729
  have hwb := hall_pos G pr
  obtain ⟨want, hwant⟩ : ∃ want, want = hallO P pr := ⟨_, rfl⟩
  rw [← hwant] at hho hwb
  have HW := Lib.hid hwant; clear hwant
  go_enter Tryz.func77, Tryz.ntmps77
  go_wp2_with fail
  generalize hw0 : w.alloc (.cells #[.pointer (some ⟨pb, po, none⟩)] 67) = w0 at *
  clear hw0
  refine Calls.mono hho ?_
  rintro e1 w1 ⟨v1, rfl, hg1, rfl⟩
  clear hho
  have hb1 := HB.out w1 hg1
  go_wp2_with fail
  clear hb1
  refine Calls.mono (allElements_ok P hP w1 _ Sp (hp0.ext hg1)) ?_
  rintro e2 w2 ⟨v2, rfl, hg2, hA⟩
  have hg2 := grown_trans hg1 hg2
  have hgw2 := grown_trans hg0 hg2
  have hAl : (allEl P).length = N := by rw [allEl_len, HN.out]
  have hAR := RowsD.rows (hA.toD (by omega))
  obtain ⟨ea, ec, hev, _, _⟩ := Sl.shape hAR
  subst hev
  rw [hAl]
  have hAR' : Rows2 Any w2 (.slice ea N ec) (allEl P) := by rw [← hAl]; exact Rows2.sub hAR (fun _ _ _ => trivial)
  have HA := Lib.hid (And.intro hAl hAR'); clear hAl hAR hAR' hA
  have hnil := G.subB_nil
  have HNIL := Lib.hid hnil; clear hnil
  go_wp2
  go_loopg [6] ((want - 1).toNat) (fun gk hv wr => ∃ U : List (List Int), gk = (want - prodU P U U.length).toNat ∧ Ext w2 wr ∧ Rows2 Any wr hv U ∧ Hid (SubB P U ∧ prodU P U U.length ∣ hallO P pr))
  case atStart => exact ⟨[], rfl, Ext.refl _, ⟨none, 0, rfl, ⟨by simp, by simp, fun _ => rfl⟩, fun i hi => by simp at hi⟩, Lib.hid ⟨HNIL.out, Int.one_dvd _⟩⟩
  case round =>
    obtain ⟨U, hgk, hg, hU, hS⟩ := hrel
    have hgw := grown_trans hg2 hg
    have hUl := G.sub_len hS.out.1
    have hseq := seqOk_subB G hS.out.1
    have hs1 := G.ord_pos hS.out.1
    have hsle : prodU P U U.length ≤ want := by rw [HW.out]; exact dvd_le hS.out.2 (by rw [← HW.out]; exact hwb.1)
    obtain ⟨ua, uc, huv, _, _⟩ := Sl.shape hU
    subst huv
    have hsz := sizeOf_ok P hP wr _ _ U Sp Any (hp0.ext hgw) hU hseq (by omega)
    obtain ⟨s, hs⟩ : ∃ s, s = prodU P U U.length := ⟨_, rfl⟩
    rw [← hs] at hs1 hsle hsz hgk
    have HS2 := Lib.hid (And.intro hs hseq); clear hs hseq
    have HGK := Lib.hid hgk; clear hgk
    have hb1 := HB.out wr hgw
    go_wp2_with fail
    clear hb1
    refine Calls.mono hsz ?_
    rintro e3 w3 ⟨v3, rfl, hg3, rfl⟩
    clear hsz
    have hg23 := grown_trans hg hg3
    have hU3 := Rows2.ext hU hg3
    clear hU
    by_cases hlt : s < want
    · have hI0 := GrI.start (G := G) hS.out.1 hS.out.2
      have HI0 := Lib.hid hI0; clear hI0
      go_wp2
      go_loopw [6, 29] (fun hv tv wr => ∃ (t : Nat) (U' : List (List Int)), tv = .int .i64 t ∧ t ≤ N ∧ Ext w3 wr ∧ Rows2 Any wr hv U' ∧ Hid (GrI G pr U U' t)) (fun _ tv _ => N - (intOf tv).toNat)
      case atStart => exact ⟨0, U, by go_num, by omega, Ext.refl _, hU3, HI0⟩
      case round =>
        obtain ⟨t, U', rfl, ht, hgt, hU, hI⟩ := hrel
        have hg := hg23
        have hg0r := grown_trans hg2 (grown_trans hg hgt)
        have hU'l := G.sub_len hI.out.sub
        obtain ⟨xa, xc, hxv, _, _⟩ := Sl.shape hU
        subst hxv
        by_cases htl : t < N
        · have htl' : (t : Int) < N := by omega
          have hto : t < (ordP P).toNat := by rw [← HN.out]; exact htl
          have hXV : Vec P.orders (elAt P (t : Int)) := G.elAtV hto
          obtain ⟨bt, ot, ax, cx, hbt, _, _, hct, hrt⟩ := Rows2.at (Rows2.ext HA.out.2 (grown_trans hg hgt)) t (by rw [HA.out.1]; exact htl)
          cases hbt
          rw [gt_allEl hto] at hct hrt
          have hskip := fun (h : ¬ Usable G pr U' t) => hI.out.skip h
          have htake := fun (h1 : ¬ gP P U' (elAt P (t : Int))) h2 => hI.out.take hto h1 h2
          have hunu : ∀ q : Prop, (Usable G pr U' t → q) → ¬ q → ¬ Usable G pr U' t := fun q h1 h2 h3 => h2 (h1 h3)
          have hus : Usable G pr U' t = (¬ gP P U' (elAt P (t : Int)) ∧ prodU P (cseq P (extP P (gP P U') (elAt P (t : Int)))) (cseq P (extP P (gP P U') (elAt P (t : Int)))).length ∣ hallO P pr ∧
            ∀ d, pv (toE G (cycP P (elAt P (t : Int)))) d → gt P.orders d ∈ pr) := rfl
          have hE := ext_sub G hI.out.sub hXV
          have hor := orderOfElement2_ok P G wr _ _ (elAt P (t : Int)) Sp Any (hp0.ext hg0r) hrt hXV
          have hmemb := fun (w' : World) (h : Ext wr w') => isMember_ok P G w' (.pointer (some ⟨pb, po, none⟩)) _ _ (gP P U') (elAt P (t : Int)) Sp Any Any (G.subB hI.out.sub) (hp0.ext (grown_trans hg0r h)) (by
            have e : cseq P (gP P U') = U' := hI.out.sub.2.symm
            rw [e]; exact Rows2.ext hU h) (Ints.ext hrt h) hXV
          obtain ⟨X, hXe⟩ : ∃ X, X = elAt P (t : Int) := ⟨_, rfl⟩
          obtain ⟨NX, hNXe⟩ : ∃ NX, NX = cseq P (extP P (gP P U') X) := ⟨_, rfl⟩
          rw [← hXe] at hct hrt hXV hE hor hmemb htake hus
          rw [← hNXe] at htake hus
          have hNB : SubB P NX := by rw [hNXe]; exact G.subB_cseq hE
          have hgs : cseq P (genP P (fun z => z ∈ U' ++ [X])) = NX := by rw [genP_snoc, hNXe]
          have hXl : X.length ≤ 6 := by rw [hXV.1]; exact hn6
          have HX0 := Lib.hid (And.intro hskip (And.intro htake (And.intro hus (And.intro hNB (And.intro hgs (And.intro hmemb hXV))))))
          clear hskip htake hus hNB hgs hmemb hXV hE hunu hXe hNXe
          have hX := hrt; clear hrt
          have hb1 := HB.out wr hg0r
          go_wp2_with fail
          clear hct hb1
          refine Calls.mono hor ?_
          rintro e4 w4 ⟨v4, rfl, hg4, m, rfl, hm1, hm2, hmd⟩
          clear hor
          by_cases hmz : want % m = 0
          · have hb1 := HB.out w4 (grown_trans hg0r hg4)
            have hmr := HX0.out.2.2.2.2.2.1 w4 hg4
            have HM := Lib.hid hmd; clear hmd
            go_wp2_with fail
            clear hb1
            refine Calls.mono hmr ?_
            rintro e5 w5 ⟨v5, rfl, hg5, r, rfl, hr⟩
            clear hmr hmz
            have hg45 := grown_trans hg4 hg5
            have hgt5 := grown_trans hgt hg45
            have hU5 := Rows2.ext hU hg45
            have hX5 := Ints.ext hX hg45
            have hg0r5 := grown_trans hg0r hg45
            clear hU hX
            cases r with
            | true =>
              have hI2 := HX0.out.1 (by rw [HX0.out.2.2.1]; intro h; exact h.1 (hr.1 rfl))
              have HI2 := Lib.hid hI2; clear hI2 hr
              go_wp2
              go_roundw
              case rel => exact ⟨t + 1, U', by go_num, by omega, hgt5, hU5, HI2⟩
              case measure => simp [intOf]; omega
            | false =>
              have hnm : ¬ gP P U' X := fun h => by have := hr.2 h; cases this
              have hNl := G.sub_len HX0.out.2.2.2.1
              have hNs := seqOk_subB G HX0.out.2.2.2.1
              have hNo := G.ord_pos HX0.out.2.2.2.1
              have hvecs : ∀ z ∈ U' ++ [X], Vec P.orders z := fun z hz => by
                rcases List.mem_append.1 hz with h | h
                · exact hI.out.sub.1 z h
                · rw [List.mem_singleton.1 h]; exact HX0.out.2.2.2.2.2.2
              have hlen1 : (U' ++ [X]).length ≤ 10000 := by rw [List.length_append, List.length_singleton]; omega
              have htk : want % (prodU P NX NX.length) = 0 → GrI G pr U NX (t + 1) := fun h => HX0.out.2.1 hnm (by rw [← HW.out]; exact emod_dvd.1 h)
              have hsk : ¬ want % (prodU P NX NX.length) = 0 → GrI G pr U U' (t + 1) := fun h => HX0.out.1 (by rw [HX0.out.2.2.1]; intro hh; exact h (emod_dvd.2 (by rw [HW.out]; exact hh.2.1)))
              have HX := Lib.hid (And.intro hvecs (And.intro hlen1 (And.intro HX0.out.2.2.2.2.1 (And.intro (show NX.length ≤ 100 by omega) (And.intro hNs (And.intro hNo (And.intro htk hsk)))))))
              clear hvecs hlen1 hNl hNs hNo htk hsk hr hnm
              obtain ⟨wo, hwo⟩ : ∃ wo : World, wo = wr := ⟨_, rfl⟩
              have e1 : ∀ w', Ext w5 w' → w'.cell? ⟨w.heap.size, 0, none⟩ = some (.pointer (some ⟨pb, po, none⟩)) := fun w' h => HB.out w' (grown_trans hg0r5 h)
              clear hgt hg0r hg4 hg5 hg45 hwo
              clear HX0
              go_wp2
              generalize w5 = wr at *
              have hgt := hgt5
              have hg0r := hg0r5
              have hU := hU5
              have hX := hX5
              clear hgt5 hg0r5 hU5 hX5
              refine wp_region_held_drew (S := fun w' => Ext wr w') (by kernel_rfl) (grown_drew _ _) (fun hHeld => ?_)
              refine wpAnyH_take (i := 0) (v := ?va0_1) rfl (by kernel_rfl) (by kernel_rfl) (by kernel_rfl) (fun _ _ _ h => h) (Or.inl ⟨by rfl, ?hya0_1⟩) (by assumption) ?resta0_1
              case hya0_1 => (intro w hSw; (try dsimp only at hSw); go_simp; try with_reducible rfl)
              try simp only [Act.put, List.getElem_toArray, List.getElem_cons_succ, List.getElem_cons_zero, List.setIfInBounds_toArray, List.set_cons_zero, List.set_cons_succ]
              refine wpAnyH_take (i := 1) (v := ?va1_2) rfl (by kernel_rfl) (by kernel_rfl) (by kernel_rfl) (fun _ _ _ h => h) (Or.inl ⟨by rfl, ?hya1_2⟩) (by assumption) ?resta1_2
              case hya1_2 => (intro w hSw; (try dsimp only at hSw); go_simp; try with_reducible rfl)
              try simp only [Act.put, List.getElem_toArray, List.getElem_cons_succ, List.getElem_cons_zero, List.setIfInBounds_toArray, List.set_cons_zero, List.set_cons_succ]
              refine wpAnyH_take (i := 3) (v := ?va3_3) rfl (by kernel_rfl) (by kernel_rfl) (by kernel_rfl) (fun _ _ _ h => h) (Or.inl ⟨by rfl, ?hya3_3⟩) (by assumption) ?resta3_3
              case hya3_3 => (intro w hSw; (try dsimp only at hSw); go_simp; try with_reducible rfl)
              try simp only [Act.put, List.getElem_toArray, List.getElem_cons_succ, List.getElem_cons_zero, List.setIfInBounds_toArray, List.set_cons_zero, List.set_cons_succ]
              refine wpAnyH_ready (rs := [2, 4]) (by kernel_rfl) (by simp) ?_
              refine AllReadyH.cons rfl (fun Kc hKc => ?_) (AllReadyH.cons rfl (fun Kc hKc => ?_) AllReadyH.nil)
              · go_simp
                go_at_call 135
                refine Calls.mono (cloneRows_ok wr.drew _ U' Any (fun _ => False) (Rows2.ext hU (grown_drew wr none)) (fun _ _ _ h => h) (by omega)) ?_
                rintro eC wC ⟨vC, rfl, hgC, hqC⟩
                have hgC0 : Ext wr wC := grown_trans (grown_drew wr none) hgC
                obtain ⟨ca, cc, hcv, _⟩ := hqC.shape
                subst hcv
                go_wp2_with fail
                refine hKc.out _ _ ?_ (fun hHeld => ?_)
                · exact hgC0
                clear hKc Kc
                try simp only [Act.put, List.getElem_toArray, List.getElem_cons_succ, List.getElem_cons_zero, List.setIfInBounds_toArray, List.set_cons_zero, List.set_cons_succ]
                refine wpAnyH_ready (rs := [4]) (by kernel_rfl) (by simp) ?_
                refine AllReadyH.cons rfl (fun Kc hKc => ?_) AllReadyH.nil
                go_simp
                refine hKc.out _ _ ?_ (fun hHeld => ?_)
                · exact grown_trans hgC0 (World.grownBy_alloc _ _ _)
                clear hKc Kc
                try simp only [Act.put, List.getElem_toArray, List.getElem_cons_succ, List.getElem_cons_zero, List.setIfInBounds_toArray, List.set_cons_zero, List.set_cons_succ]
                refine wpAnyH_ready (rs := [5]) (by kernel_rfl) (by simp) ?_
                refine AllReadyH.cons rfl (fun Kc hKc => ?_) AllReadyH.nil
                have hXI : Ints (fun k => ¬ (fun _ : Nat => False) k ∧ (Value.slice ca U'.length cc).ownBlock ≠ some k) (wC.alloc (.cells #[.slice ax X.length cx] 22)) (.slice ax X.length cx) X := Ints.mono hX (fun k _ hlt => ⟨⟨fun h => h, fun e => by have h1 := (hqC.lt k e).1; have h2 : wr.heap.size ≤ wr.drew.heap.size := (grown_drew wr none).size;  omega⟩, Nat.lt_of_lt_of_le hlt ((grown_trans hgC0 (World.grownBy_alloc wC (.cells #[.slice ax X.length cx] 22) none) : Ext wr (wC.alloc (.cells #[.slice ax X.length cx] 22)))).size, ((grown_trans hgC0 (World.grownBy_alloc wC (.cells #[.slice ax X.length cx] 22) none) : Ext wr (wC.alloc (.cells #[.slice ax X.length cx] 22)))).block k hlt (by simp)⟩)
                refine step_shq_app2 rfl _ _ rfl (fun _ => False) wr.drew.heap.size _ (Value.slice ca U'.length cc) _ U' X rfl (hqC.ext (World.grownBy_alloc _ _ _)) hXI rfl (by rw [World.cell?_alloc_at _ _ _ _ rfl]; rfl) (by omega) (Nat.le_trans hgC.size (World.grownBy_alloc wC _ none).size) ?_
                intro v5 w5 hq5 hg5
                have hg05 : Ext wr w5 := grown_own ((grown_trans hgC0 (World.grownBy_alloc wC (.cells #[.slice ax X.length cx] 22) none) : Ext wr (wC.alloc (.cells #[.slice ax X.length cx] 22)))) hg5 (fun b hb hlt => by have h1 := (hqC.lt b hb).1; have h2 : wr.heap.size ≤ wr.drew.heap.size := (grown_drew wr none).size;  omega)
                have hR5 := hq5.rows
                obtain ⟨da, dc, hdv, _⟩ := hq5.shape
                have hln5 : (U' ++ [X]).length = U'.length + 1 := by simp
                rw [hln5] at hdv
                clear hln5
                subst hdv
                refine hKc.out _ _ ?_ (fun hHeld => ?_)
                · exact hg05
                clear hKc Kc
                try simp only [Act.put, List.getElem_toArray, List.getElem_cons_succ, List.getElem_cons_zero, List.setIfInBounds_toArray, List.set_cons_zero, List.set_cons_succ]
                refine wpAnyH_ready (rs := [6]) (by kernel_rfl) (by simp) ?_
                refine AllReadyH.cons rfl (fun Kc hKc => ?_) AllReadyH.nil
                go_simp
                go_at_call 72
                refine Calls.mono (generated_ok P G w5 _ _ (U' ++ [X]) Sp Any (hp0.ext (grown_trans hg0r hg05)) hR5 HX.out.1 HX.out.2.1) ?_
                rintro e6 w6 ⟨v6, rfl, hg6, hO6⟩
                have hg06 := grown_trans hg05 hg6
                rw [HX.out.2.2.1] at hO6
                have hNX : Rows2 Any w6 v6 NX := Rows2.sub (RowsD.rows (hO6.toD (by have := HX.out.2.2.2.1; omega))) (fun _ _ _ => trivial)
                obtain ⟨ga, gc, hgv, _, _⟩ := Sl.shape hNX
                subst hgv
                go_wp2_with fail
                refine hKc.out _ _ ?_ (fun hHeld => ?_)
                · exact hg06
                clear hKc Kc
                try simp only [Act.put, List.getElem_toArray, List.getElem_cons_succ, List.getElem_cons_zero, List.setIfInBounds_toArray, List.set_cons_zero, List.set_cons_succ]
                refine wpAnyH_take (i := 7) (v := ?va7_4) rfl (by kernel_rfl) (by kernel_rfl) (by kernel_rfl) (fun _ _ _ h => h) (Or.inl ⟨by rfl, ?hya7_4⟩) (by assumption) ?resta7_4
                case hya7_4 => (intro w hSw; (try dsimp only at hSw); go_simp; try with_reducible rfl)
                try simp only [Act.put, List.getElem_toArray, List.getElem_cons_succ, List.getElem_cons_zero, List.setIfInBounds_toArray, List.set_cons_zero, List.set_cons_succ]
                refine wpAnyH_done (by kernel_rfl) ?_ _
                clear e1
                have hb10 := HB.out w6 (grown_trans (grown_trans hg2 (grown_trans hg hgt)) hg06)
                go_wp2_with fail
                clear hb10
                refine Calls.mono (sizeOf_ok P hP w6 _ _ NX Sp Any (hp0.ext (grown_trans hg0r hg06)) hNX HX.out.2.2.2.2.1 HX.out.2.2.2.1) ?_
                rintro e7 w7 ⟨v7, rfl, hg7, rfl⟩
                have hgt7 := grown_trans hgt (grown_trans hg06 hg7)
                have hNX7 := Rows2.ext hNX hg7
                have hs2 := HX.out.2.2.2.2.2.1
                obtain ⟨s2, hs2e⟩ : ∃ s2, s2 = prodU P NX NX.length := ⟨_, rfl⟩
                rw [← hs2e] at hs2 ⊢
                by_cases hdv : want % s2 = 0
                · have hI2 := HX.out.2.2.2.2.2.2.1 (by rw [← hs2e]; exact hdv)
                  have HI2 := Lib.hid hI2; clear hI2 hs2e
                  go_wp2
                  go_roundw
                  case rel => exact ⟨t + 1, NX, by go_num, by omega, hgt7, hNX7, HI2⟩
                  case measure => simp [intOf]; omega
                · have hI2 := HX.out.2.2.2.2.2.2.2 (by rw [← hs2e]; exact hdv)
                  have HI2 := Lib.hid hI2; clear hI2 hs2e
                  have hne : (want % s2 == 0) = false := by simpa using hdv
                  have hU7 := Rows2.ext hU (grown_trans hg06 hg7)
                  go_wp2
                  go_roundw
                  case rel => exact ⟨t + 1, U', by go_num, by omega, hgt7, hU7, HI2⟩
                  case measure => simp [intOf]; omega
              · go_simp
                have hgB : Ext wr (wr.drew.alloc (.cells #[.slice ax X.length cx] 22)) := grown_trans (grown_drew _ _) (World.grownBy_alloc _ _ _)
                have hcB : (wr.drew.alloc (.cells #[.slice ax X.length cx] 22)).cell? ⟨wr.drew.heap.size, 0, none⟩ = some (.slice ax X.length cx) := by rw [World.cell?_alloc_at _ _ _ _ rfl]; rfl
                refine hKc.out _ _ ?_ (fun hHeld => ?_)
                · exact hgB
                clear hKc Kc
                try simp only [Act.put, List.getElem_toArray, List.getElem_cons_succ, List.getElem_cons_zero, List.setIfInBounds_toArray, List.set_cons_zero, List.set_cons_succ]
                refine wpAnyH_ready (rs := [2]) (by kernel_rfl) (by simp) ?_
                refine AllReadyH.cons rfl (fun Kc hKc => ?_) AllReadyH.nil
                go_simp
                go_at_call 135
                refine Calls.mono (cloneRows_ok (wr.drew.alloc (.cells #[.slice ax X.length cx] 22)) _ U' Any (fun _ => False) (Rows2.ext hU hgB) (fun _ _ _ h => h) (by omega)) ?_
                rintro eC wC ⟨vC, rfl, hgC, hqC⟩
                have hgC0 : Ext wr wC := grown_trans hgB hgC
                obtain ⟨ca, cc, hcv, _⟩ := hqC.shape
                subst hcv
                go_wp2_with fail
                refine hKc.out _ _ ?_ (fun hHeld => ?_)
                · exact hgC0
                clear hKc Kc
                try simp only [Act.put, List.getElem_toArray, List.getElem_cons_succ, List.getElem_cons_zero, List.setIfInBounds_toArray, List.set_cons_zero, List.set_cons_succ]
                refine wpAnyH_ready (rs := [5]) (by kernel_rfl) (by simp) ?_
                refine AllReadyH.cons rfl (fun Kc hKc => ?_) AllReadyH.nil
                have hXI : Ints (fun k => ¬ (fun _ : Nat => False) k ∧ (Value.slice ca U'.length cc).ownBlock ≠ some k) (wC) (.slice ax X.length cx) X := Ints.mono hX (fun k _ hlt => ⟨⟨fun h => h, fun e => by have h1 := (hqC.lt k e).1; have h2 : wr.heap.size ≤ wr.drew.heap.size := (grown_drew wr none).size; have h3 := hgB.size; omega⟩, Nat.lt_of_lt_of_le hlt (hgC0).size, (hgC0).block k hlt (by simp)⟩)
                refine step_shq_app2 rfl _ _ rfl (fun _ => False) (wr.drew.alloc (.cells #[.slice ax X.length cx] 22)).heap.size _ (Value.slice ca U'.length cc) _ U' X rfl hqC hXI rfl (hgC.cell hcB (by simp)) (by omega) (hgC.size) ?_
                intro v5 w5 hq5 hg5
                have hg05 : Ext wr w5 := grown_own (hgC0) hg5 (fun b hb hlt => by have h1 := (hqC.lt b hb).1; have h2 : wr.heap.size ≤ wr.drew.heap.size := (grown_drew wr none).size; have h3 := hgB.size; omega)
                have hR5 := hq5.rows
                obtain ⟨da, dc, hdv, _⟩ := hq5.shape
                have hln5 : (U' ++ [X]).length = U'.length + 1 := by simp
                rw [hln5] at hdv
                clear hln5
                subst hdv
                refine hKc.out _ _ ?_ (fun hHeld => ?_)
                · exact hg05
                clear hKc Kc
                try simp only [Act.put, List.getElem_toArray, List.getElem_cons_succ, List.getElem_cons_zero, List.setIfInBounds_toArray, List.set_cons_zero, List.set_cons_succ]
                refine wpAnyH_ready (rs := [6]) (by kernel_rfl) (by simp) ?_
                refine AllReadyH.cons rfl (fun Kc hKc => ?_) AllReadyH.nil
                go_simp
                go_at_call 72
                refine Calls.mono (generated_ok P G w5 _ _ (U' ++ [X]) Sp Any (hp0.ext (grown_trans hg0r hg05)) hR5 HX.out.1 HX.out.2.1) ?_
                rintro e6 w6 ⟨v6, rfl, hg6, hO6⟩
                have hg06 := grown_trans hg05 hg6
                rw [HX.out.2.2.1] at hO6
                have hNX : Rows2 Any w6 v6 NX := Rows2.sub (RowsD.rows (hO6.toD (by have := HX.out.2.2.2.1; omega))) (fun _ _ _ => trivial)
                obtain ⟨ga, gc, hgv, _, _⟩ := Sl.shape hNX
                subst hgv
                go_wp2_with fail
                refine hKc.out _ _ ?_ (fun hHeld => ?_)
                · exact hg06
                clear hKc Kc
                try simp only [Act.put, List.getElem_toArray, List.getElem_cons_succ, List.getElem_cons_zero, List.setIfInBounds_toArray, List.set_cons_zero, List.set_cons_succ]
                refine wpAnyH_take (i := 7) (v := ?va7_5) rfl (by kernel_rfl) (by kernel_rfl) (by kernel_rfl) (fun _ _ _ h => h) (Or.inl ⟨by rfl, ?hya7_5⟩) (by assumption) ?resta7_5
                case hya7_5 => (intro w hSw; (try dsimp only at hSw); go_simp; try with_reducible rfl)
                try simp only [Act.put, List.getElem_toArray, List.getElem_cons_succ, List.getElem_cons_zero, List.setIfInBounds_toArray, List.set_cons_zero, List.set_cons_succ]
                refine wpAnyH_done (by kernel_rfl) ?_ _
                clear e1
                have hb10 := HB.out w6 (grown_trans (grown_trans hg2 (grown_trans hg hgt)) hg06)
                go_wp2_with fail
                clear hb10
                refine Calls.mono (sizeOf_ok P hP w6 _ _ NX Sp Any (hp0.ext (grown_trans hg0r hg06)) hNX HX.out.2.2.2.2.1 HX.out.2.2.2.1) ?_
                rintro e7 w7 ⟨v7, rfl, hg7, rfl⟩
                have hgt7 := grown_trans hgt (grown_trans hg06 hg7)
                have hNX7 := Rows2.ext hNX hg7
                have hs2 := HX.out.2.2.2.2.2.1
                obtain ⟨s2, hs2e⟩ : ∃ s2, s2 = prodU P NX NX.length := ⟨_, rfl⟩
                rw [← hs2e] at hs2 ⊢
                by_cases hdv : want % s2 = 0
                · have hI2 := HX.out.2.2.2.2.2.2.1 (by rw [← hs2e]; exact hdv)
                  have HI2 := Lib.hid hI2; clear hI2 hs2e
                  go_wp2
                  go_roundw
                  case rel => exact ⟨t + 1, NX, by go_num, by omega, hgt7, hNX7, HI2⟩
                  case measure => simp [intOf]; omega
                · have hI2 := HX.out.2.2.2.2.2.2.2 (by rw [← hs2e]; exact hdv)
                  have HI2 := Lib.hid hI2; clear hI2 hs2e
                  have hne : (want % s2 == 0) = false := by simpa using hdv
                  have hU7 := Rows2.ext hU (grown_trans hg06 hg7)
                  go_wp2
                  go_roundw
                  case rel => exact ⟨t + 1, U', by go_num, by omega, hgt7, hU7, HI2⟩
                  case measure => simp [intOf]; omega
          · have hne : (want % m != 0) = true := by simpa using hmz
            have hI2 := HX0.out.1 (by
              rw [HX0.out.2.2.1]
              intro h
              apply hmz
              rw [HW.out]
              exact emod_dvd.2 (hmd pr h.2.2))
            have HI2 := Lib.hid hI2; clear hI2 hmd
            have hgt4 := grown_trans hgt hg4
            have hU4 := Rows2.ext hU hg4
            go_wp2
            clear hne hmz
            go_roundw
            case rel => exact ⟨t + 1, U', by go_num, by omega, hgt4, hU4, HI2⟩
            case measure => simp [intOf]; omega
        · have hte : t = N := by omega
          have hI2 := hI.out
          rw [hte, HN.out] at hI2
          have hup := hI2.fin hS.out.1 hS.out.2 (by rw [← HS2.out.1, ← HW.out]; omega)
          rw [← HS2.out.1] at hup
          have hUle : prodU P U' U'.length ≤ want := by rw [HW.out]; exact dvd_le hI2.dv (by rw [← HW.out]; exact hwb.1)
          have HE := Lib.hid (And.intro hup (And.intro hUle (And.intro hI2.sub hI2.dv))); clear hI2 hup hUle hte
          have hnl : ¬ (t : Int) < N := by omega
          go_wp2
          go_roundg ((want - prodU P U' U'.length).toNat)
          case rel => exact ⟨U', rfl, grown_trans hg hgt, hU, Lib.hid ⟨HE.out.2.2.1, HE.out.2.2.2⟩⟩
          case measure => have := HE.out.1; have := HE.out.2.1; have := HGK.out; omega
    · have hsw : s = want := by omega
      have hHall : HallP P pr U := ⟨hS.out.1, by rw [← HS2.out.1, hsw, HW.out]⟩
      have hall := cjTo_facts G hS.out.1
      have HH := Lib.hid (And.intro hHall hall); clear hHall hall hsw hwb hs1 hsle
      have hMs := MapAt.made mapSB w3
      have hmk := makeSB w3
      have hgm : Ext w3 (w3.alloc (.map #[] 0)) := World.grownBy_alloc _ _ _
      have hMs' : MapAt mapSB (w3.alloc (.map #[] 0)) w3.heap.size (keyIn []) 0 := hMs
      have HM0 := Lib.hid (And.intro hgm hMs'); clear hgm hMs hMs'
      have hN1 : 1 ≤ N := by
        have := hP.ordP_pos
        have := HN.out
        omega
      go_wp2
      clear hmk
      go_loopw [11, 63] (fun ov tv wr => ∃ (t : Nat) (v11 : Value), v11 = ov ∧ tv = .int .i64 t ∧ t ≤ N ∧ Ext w3 wr ∧ SlOA (fun F w u (x : List (List Int)) => RowsD F w u x) 23 w3.heap.size (fun b => b = w3.heap.size) wr v11 (cjTo P U t) ∧
        MapAt mapSB wr w3.heap.size (keyIn (cjTo P U t)) (cjTo P U t).length) (fun _ tv _ => N - (intOf tv).toNat)
      case atStart => exact ⟨0, _, rfl, by go_num, by omega, HM0.out.1, ⟨[], fun _ _ => False, rfl, World.ownsRow_nil _ _ _ _, by simp, by simp, by simp [cjTo, cnS], by simp, by simp [Value.ownBlock]⟩, HM0.out.2⟩
      case round =>
        obtain ⟨t, v11, rfl, rfl, ht, hgL, hO, hM⟩ := hrel
        have hg2r := grown_trans hg23 hgL
        have hg0r := grown_trans hg2 hg2r
        have hsn := cjTo_facts G hS.out.1 t (by rw [← HN.out]; exact ht)
        have hcl := cjTo_len P U t
        have hyes : ¬ cjU P U (elAt P (t : Int)) ∈ cjTo P U t → cjTo P U (t + 1) = cjTo P U t ++ [cjU P U (elAt P (t : Int))] := fun h => by unfold cjTo at *; rw [cnS_yes h]
        have hno : cjU P U (elAt P (t : Int)) ∈ cjTo P U t → cjTo P U (t + 1) = cjTo P U t := fun h => by unfold cjTo at *; rw [cnS_no h]
        obtain ⟨cn, hcn⟩ : ∃ cn, cn = cjTo P U t := ⟨_, rfl⟩
        rw [← hcn] at hO hM hsn hcl hyes hno
        have HY := Lib.hid (And.intro hyes (And.intro hno (And.intro hcn hsn))); clear hyes hno hsn hcn
        have hav := hO.avoids
        have hmbl := hM.lt
        by_cases htl : t < N
        · have htl' : (t : Int) < N := by omega
          have hto : t < (ordP P).toNat := by rw [← HN.out]; exact htl
          have hXV : Vec P.orders (elAt P (t : Int)) := G.elAtV hto
          obtain ⟨bt, ot, a2, cap2, hbt, _, _, hct, hrt⟩ := Rows2.at (Rows2.ext HA.out.2 hg2r) t (by rw [HA.out.1]; exact htl)
          cases hbt
          rw [gt_allEl hto] at hct hrt
          have hb0 := HB.out wr hg0r
          have hcj := conjugateSubgroup_ok P G wr _ _ _ U (elAt P (t : Int)) Sp _ _ (hp0.ext hg0r) (Rows2.ext hU3 hgL) hS.out.1.1 (by omega) hrt hXV
          have hcB := G.cjU_subB hS.out.1 hXV
          obtain ⟨X, hXe⟩ : ∃ X, X = elAt P (t : Int) := ⟨_, rfl⟩
          rw [← hXe] at hct hcj hcB
          obtain ⟨cj, hcje⟩ : ∃ cj, cj = cjU P U X := ⟨_, rfl⟩
          have hcje' : cseq P (genP P (fun z => z ∈ conjL P U X)) = cj := by rw [hcje]; rfl
          rw [hcje'] at hcj
          rw [← hcje] at hcB
          have HCJ := Lib.hid (And.intro hXe hcje); clear hXe hcje hcje' hXV hrt
          go_wp2_with fail
          clear hct hb0
          refine Calls.mono hcj ?_
          rintro e9 w9 ⟨v9, rfl, hg9, hR9⟩
          clear hcj
          obtain ⟨hb1, hb2, hb3, hb4⟩ := subB_bytes G hcB
          have hcjD : RowsD (From wr.heap.size) w9 v9 cj := hR9.toD (by omega)
          obtain ⟨ja, jc, hjv, _, _⟩ := SlD.shape hcjD
          subst hjv
          have hkey := keyOf_ok cj w9 _ _ (RowsD.rows hcjD) hb2 hb3 hb4
          have hM9 := hM.ext hg9
          have hlook0 : ∀ w', Ext w9 w' → (Instr.lookup 123 (.map (some w3.heap.size)) (.string (keyS cj)) false).run Tryz.prog w' = .ok (.bool (keyIn cn (keyS cj))) w' := fun w' h => (hM9.ext h).look _ hb1
          have hki := keyIn_iff hP HY.out.2.2.2.sub hcB
          have happ := keyIn_app cn cj
          obtain ⟨s2, hs2⟩ : ∃ s2, s2 = keyS cj := ⟨_, rfl⟩
          rw [← hs2] at hkey hlook0 hki happ hb1
          obtain ⟨r, hr⟩ : ∃ r, r = keyIn cn s2 := ⟨_, rfl⟩
          rw [← hr] at hlook0 hki
          have HK := Lib.hid (And.intro hki (And.intro happ hb1)); clear hki happ hs2 hr hb1 hb2 hb3 hb4 hR9 hcB
          go_wp2_with fail
          refine Calls.mono hkey ?_
          rintro eA wA ⟨vA, rfl, hgA, rfl⟩
          clear hkey
          have hlook := hlook0 wA hgA
          clear hlook0
          have hMA := hM9.ext hgA
          have hg9A := grown_trans hg9 hgA
          have hgLA := grown_trans hgL hg9A
          have hcjA : RowsD (From wr.heap.size) wA (.slice ja cj.length jc) cj := rdRows.mono hcjD (fun k hk hlt => ⟨hk, Nat.lt_of_lt_of_le hlt hgA.size, hgA.block k hlt (by simp)⟩)
          clear hM hM9 hcjD
          cases r with
          | true =>
            have hin : cj ∈ cn := of_decide_eq_true HK.out.1.symm
            have hnx := HY.out.2.1 (by rw [← HCJ.out.1, ← HCJ.out.2]; exact hin)
            have hOA := hO.ext rdRows hg9A
            have HX2 := Lib.hid (And.intro hnx (And.intro hOA hMA)); clear hin hnx hMA hOA hO hcjA
            go_wp2
            clear hlook
            go_roundw
            case rel => exact ⟨t + 1, v11, rfl, by go_num, by omega, hgLA, by rw [HX2.out.1]; exact HX2.out.2.1, by rw [HX2.out.1]; exact HX2.out.2.2⟩
            case measure => simp [intOf]; omega
          | false =>
            have hin : ¬ cj ∈ cn := fun h => by
              have := HK.out.1
              rw [decide_eq_true h] at this; cases this
            have hnx := HY.out.1 (by rw [← HCJ.out.1, ← HCJ.out.2]; exact hin)
            rw [← HCJ.out.1, ← HCJ.out.2] at hnx
            obtain ⟨wU, hrun, hMU, hgU⟩ := hMA.update s2 HK.out.2.2 true trivial (by omega)
            have hrun2 : (Instr.mapUpdate 123 (.map (some w3.heap.size)) (.string s2) (.bool true)).run Tryz.prog wA = .ok () wU := hrun
            have hMU2 : MapAt mapSB wU w3.heap.size (keyIn (cn ++ [cj])) (cn ++ [cj]).length := by
              rw [List.length_append, List.length_singleton]
              exact hMU.congr (fun s => HK.out.2.1 s)
            have hgrU : wr.grownBy wU (some w3.heap.size) := grown_trans (grown_of_ext _ hg9A) hgU
            have hcjU : RowsD (From wr.heap.size) wU (.slice ja cj.length jc) cj := rdRows.mono hcjA (fun k hk hlt => ⟨hk, Nat.lt_of_lt_of_le hlt hgU.size, hgU.block k hlt (fun e => by
              have h1 : wr.heap.size ≤ k := hk
              cases e; omega)⟩)
            have hn1 : cn.length ≤ 1000000 := by omega
            have hbase := hgL.size
            have hgLU : Ext w3 wU := grown_own hgL hgrU (fun b hb hlt => by cases hb; omega)
            have HX2 := Lib.hid (And.intro hnx (And.intro hMU2 hcjU)); clear hin hnx hMA hMU hMU2 hrun hcjA hcjU
            go_wp2_with (first | (at_builtin; refine wp_app_oneA rdRows 24 23 (.slice none 0 0) 24 und_r3 Tryz.infoR3 rfl (by decide) rfl _ _ rfl w3.heap.size _ wr wU _ _ cn cj rfl hO (fun b hb => by subst hb; exact hmbl) (some w3.heap.size) hgrU (fun b hb => by cases hb; rfl) HX2.out.2.2 rfl rfl hn1 hbase ?_; intro v8 w8 hL8 hg8) | fail)
            have hgL8 : Ext w3 w8 := grown_own hgLU hg8 (fun b hb hlt => by have := (hav b hb).2.1; omega)
            have hM8 := HX2.out.2.1.kept hg8 (fun e => (hav _ e.symm).1 rfl)
            have HX3 := Lib.hid (And.intro hL8 hM8); clear hL8 hM8 hO
            clear hlook hrun2
            go_roundw
            case rel => exact ⟨t + 1, v8, rfl, by go_num, by omega, hgL8, by rw [HX2.out.1]; exact HX3.out.1, by rw [HX2.out.1]; exact HX3.out.2⟩
            case measure => simp [intOf]; omega
        · have hte : t = N := by omega
          have hnl : ¬ (t : Int) < N := by omega
          have hcn := HY.out.2.2.1
          rw [hte, HN.out] at hcn
          have hself : U ∈ cn := by rw [hcn]; exact (cjTo_hall G HH.out.1 U).2 HH.out.1
          have hCn : 0 < cn.length := List.length_pos_of_mem hself
          have hCU : ∀ u ∈ cn, SeqOk P u ∧ u.length ≤ 100 := fun u hu => by
            have h1 := HY.out.2.2.2.sub u hu
            have := G.sub_len h1
            exact ⟨seqOk_subB G h1, by omega⟩
          have hbw : w.heap.size < w3.heap.size := by
            have := HBS.out
            have := (grown_trans hg2 hg23).size
            omega
          have hlb : v11.ownBlock ≠ some w.heap.size := fun e => by have := (hav _ e).2.1; omega
          have hps : PresP (fun k => v11.ownBlock ≠ some k) wr (.pointer (some ⟨pb, po, none⟩)) P := hp.mono (fun k _ hlt => ⟨fun e => by have := (hav _ e).2.1; omega, Nat.lt_of_lt_of_le hlt (grown_trans hg0 hg0r).size, (grown_trans hg0 hg0r).block k hlt (by simp)⟩)
          have hsort := sortHall_ok P hP wr v11 cn _ w3.heap.size w.heap.size pb po hO hCn (by omega) hCU (HB.out wr hg0r) hlb hps
          obtain ⟨lva, lvn, lvc, hlv⟩ : ∃ a n c, v11 = .slice a n c := by
            obtain ⟨a, c, h, _⟩ := SlD.shape (hO.o.toD (by omega)); exact ⟨_, _, _, h⟩
          subst hlv
          have HCN := Lib.hid hcn; clear hcn hself hCU hps hlb hO hM
          clear hte
          go_wp2_with fail
          refine Calls.mono hsort ?_
          rintro eZ wZ ⟨rfl, L', hLZ, hperm, hsorted, hgZ⟩
          clear hsort
          have hHL : HallL P pr L' := hallL_of G HH.out.1 (by rw [← HCN.out]; exact hperm) hsorted
          have hgwZ : Ext w wZ := grown_own (grown_trans hg0 hg0r) hgZ (fun b hb hlt => by have := (hav b hb).2.1; omega)
          have HF := Lib.hid (And.intro hHL (hLZ.o.weak (show w.heap.size ≤ w3.heap.size by omega))); clear hHL hLZ hperm hsorted hgZ
          go_wp2
          go_ret
          exact ⟨_, rfl, hgwZ, L', HF.out.1, HF.out.2⟩

end Go.Proofs.YtdklekdpdbjfiaaGreat

/- HallSubgroups, HallSubgroup, SylowCount, PrimeCore: the program's side. -/
namespace Go.Proofs.YtdklekdpdbjfiaaGreat
open Go.RowKit

theorem slo_first {B : Nat} {w : World} {lv : Value} {L : List (List (List Int))} (h : SlO (fun F w u (x : List (List Int)) => RowsD F w u x) 23 B w lv L) (hi : 0 < L.length) :
    ∃ g c ua uc, lv = .slice (some ⟨g, 0, none⟩) L.length c ∧ w.cell? ⟨g, 0, none⟩ = some (.slice ua (gt L 0).length uc) ∧ RowsD (From B) w (.slice ua (gt L 0).length uc) (gt L 0) := by
  obtain ⟨vs, Gb, hvl, hOv, hGb, hd, hE⟩ := h
  rcases hOv.form with ⟨e1, e2⟩ | ⟨g, cp, e1, _⟩
  · have : L.length = 0 := by rw [← hvl, e2]; rfl
    omega
  · subst e1
    have hc := hOv.cell 0 (by omega)
    have hEk := hE 0 hi
    obtain ⟨ua, uc, hvu, _, _⟩ := SlD.shape hEk
    rw [hvu] at hc hEk
    refine ⟨g, cp, ua, uc, by rw [hvl], hc, rdRows.mono hEk (fun k hk hlt => ⟨(hGb 0 k hi hk).1, hlt, rfl⟩)⟩

set_option maxRecDepth 100000 in
set_option maxHeartbeats 2000000 in
theorem iHs_ok (P : Pr) (w : World) (pv v : Value) (pr : List Int) (Sp S : Nat → Prop) (hpv : PresV Sp w pv P) (hv : Ints S w v pr) :
    Calls Tryz.prog 35 #[pv, v] w (Ret w fun w' r => ∃ a n c, r = .tuple #[.slice a n c, .int .i64 (hcC P pr)] ∧ SlO (fun F w u (x : List (List Int)) => RowsD F w u x) 23 w.heap.size w' (.slice a n c) (hlL P pr)) := by
  obtain ⟨vo, vp, vc, rfl, h3⟩ := hpv
  have hp0 := PresP.box h3 31
  have hg0 : Ext w (w.alloc (.cells #[vo, vp, vc] 31)) := World.grownBy_alloc _ _ _
  have hv0 := Ints.ext hv hg0
  have hcode := hallCode_ok P pr _ _ _ Any S hp0 hv0
  obtain ⟨av, cv, rfl, _, _⟩ := hv.shape
  go_enter Tryz.func35, Tryz.ntmps35
  go_wp2_with fail
  generalize hw0 : w.alloc (.cells #[vo, vp, vc] 31) = w0 at *
  clear hw0
  refine Calls.mono hcode ?_
  rintro e1 w1 ⟨v1, rfl, hg1, rfl⟩
  clear hcode
  have hgw1 := grown_trans hg0 hg1
  obtain ⟨c, hc⟩ : ∃ c, c = hcC P pr := ⟨_, rfl⟩
  rw [← hc]
  by_cases hz : c = 0
  · have hz' : hcC P pr = 0 := by rw [← hc]; exact hz
    have G := grp_of_r (hc_zero hz').1
    have HC := Lib.hid (And.intro hc hz'); clear hc hz'
    subst hz
    have hh := hallSubgroups_ok P G pr w1 _ _ Any S (hp0.ext hg1) (Ints.ext hv0 hg1)
    go_wp2_with fail
    refine Calls.mono hh ?_
    rintro e2 w2 ⟨v2, rfl, hg2, L, hL, hO⟩
    clear hh
    have hall := hl_ok HC.out.2 hL
    have hln := hL.len G
    obtain ⟨ra, rc, hrv, _, _⟩ := SlD.shape (hO.toD (by omega))
    subst hrv
    have HR := Lib.hid (And.intro hall hO); clear hall hO hL hln
    go_wp2
    go_ret2
    exact ⟨_, rfl, grown_trans hgw1 hg2, _, _, _, by rw [← HC.out.1]; rfl, by rw [HR.out.1]; exact HR.out.2.weak hgw1.size⟩
  · have hne : (c != 0) = true := by simpa using hz
    have HC := Lib.hid hc; clear hc
    go_wp2
    go_ret2
    exact ⟨_, rfl, hgw1, none, 0, 0, by rw [← HC.out]; rfl, by rw [hl_no (by rw [← HC.out]; exact hz)]; exact SlO.nil _ _ _ _⟩

set_option maxRecDepth 100000 in
set_option maxHeartbeats 2000000 in
theorem iHf_ok (P : Pr) (w : World) (pv v : Value) (pr : List Int) (Sp S : Nat → Prop) (hpv : PresV Sp w pv P) (hv : Ints S w v pr) :
    Calls Tryz.prog 27 #[pv, v] w (Ret w fun w' r => ∃ a n c, r = .tuple #[.slice a n c, .int .i64 (hcC P pr)] ∧ RowsD (From w.heap.size) w' (.slice a n c) (hfL P pr)) := by
  obtain ⟨vo, vp, vc, rfl, h3⟩ := hpv
  have hp0 := PresP.box h3 31
  have hg0 : Ext w (w.alloc (.cells #[vo, vp, vc] 31)) := World.grownBy_alloc _ _ _
  have hv0 := Ints.ext hv hg0
  have hcode := hallCode_ok P pr _ _ _ Any S hp0 hv0
  obtain ⟨av, cv, rfl, _, _⟩ := hv.shape
  go_enter Tryz.func27, Tryz.ntmps27
  go_wp2_with fail
  generalize hw0 : w.alloc (.cells #[vo, vp, vc] 31) = w0 at *
  clear hw0
  refine Calls.mono hcode ?_
  rintro e1 w1 ⟨v1, rfl, hg1, rfl⟩
  clear hcode
  have hgw1 := grown_trans hg0 hg1
  obtain ⟨c, hc⟩ : ∃ c, c = hcC P pr := ⟨_, rfl⟩
  rw [← hc]
  by_cases hz : c = 0
  · have hz' : hcC P pr = 0 := by rw [← hc]; exact hz
    have G := grp_of_r (hc_zero hz').1
    have HC := Lib.hid (And.intro hc hz'); clear hc hz'
    subst hz
    have hh := hallSubgroups_ok P G pr w1 _ _ Any S (hp0.ext hg1) (Ints.ext hv0 hg1)
    go_wp2_with fail
    refine Calls.mono hh ?_
    rintro e2 w2 ⟨v2, rfl, hg2, L, hL, hO⟩
    clear hh
    have hall : hfL P pr = gt L 0 := by unfold hfL; rw [hl_ok HC.out.2 hL]
    have hpos := hL.pos G
    obtain ⟨g, c, ua, uc, rfl, hcell, hD⟩ := slo_first hO hpos
    have hp1 : (0 : Int) < L.length := by omega
    have HR := Lib.hid (And.intro hall hD); clear hall hD hO hL
    obtain ⟨nl, hnl⟩ : ∃ nl, nl = (gt L 0).length := ⟨_, rfl⟩
    rw [← hnl] at hcell
    have HN := Lib.hid hnl; clear hnl
    go_wp2
    go_ret2
    exact ⟨_, rfl, grown_trans hgw1 hg2, _, _, _, by rw [← HC.out.1]; rfl, by rw [HR.out.1, HN.out]; exact rdRows.mono HR.out.2 (fun k hk hlt => ⟨Nat.le_trans hgw1.size hk, hlt, rfl⟩)⟩
  · have hne : (c != 0) = true := by simpa using hz
    have HC := Lib.hid hc; clear hc
    go_wp2
    go_ret2
    exact ⟨_, rfl, hgw1, none, 0, 0, by rw [← HC.out]; rfl, by rw [hf_no (by rw [← HC.out]; exact hz)]; exact SlD.nil _ _ _⟩

set_option maxRecDepth 100000 in
set_option maxHeartbeats 2000000 in
theorem primeCore_ok (P : Pr) (pr : List Int) (hz : hcC P pr = 0) (w : World) (p v : Value) (Sp S : Nat → Prop) (hp : PresP Sp w p P) (hv : Ints S w v pr) :
    Calls Tryz.prog 88 #[p, v] w (Ret w fun w' r => RowsO w.heap.size w' r (pcL P pr)) := by
  have G := grp_of_r (hc_zero hz).1
  have hh := hallSubgroups_ok P G pr w _ _ Sp S hp hv
  obtain ⟨pb, po, rfl⟩ := hp.shape
  obtain ⟨av, cv, rfl, _, _⟩ := hv.shape
  have HZ := Lib.hid hz; clear hz
  go_enter Tryz.func88, Tryz.ntmps88
  go_wp2_with fail
  refine Calls.mono hh ?_
  rintro e2 w2 ⟨v2, rfl, hg2, L, hL, hO⟩
  clear hh
  have hpos := hL.pos G
  have hHall := (hL.2 _).1 (gt_mem hpos)
  have hall := pc_ok HZ.out hHall
  obtain ⟨g, c, ua, uc, rfl, hcell, hD⟩ := slo_first hO hpos
  have hp1 : (0 : Int) < L.length := by omega
  have ec : cseq P (gP P (gt L 0)) = gt L 0 := hHall.1.2.symm
  have hru : Rows2 Any w2 (.slice ua (gt L 0).length uc) (cseq P (gP P (gt L 0))) := by rw [ec]; exact Rows2.sub (RowsD.rows hD) (fun _ _ _ => trivial)
  have hco := core_ok P G w2 _ _ (gP P (gt L 0)) Sp Any (G.subB hHall.1) (hp.ext hg2) hru
  rw [← hall] at hco
  obtain ⟨nl, hnl⟩ : ∃ nl, nl = (gt L 0).length := ⟨_, rfl⟩
  rw [← hnl] at hcell hco
  clear hall hD hO hL hnl ec hru hHall
  go_wp2_with fail
  clear hcell
  refine Calls.mono hco ?_
  rintro e3 w3 ⟨v3, rfl, hg3, hR⟩
  have hbd := pc_len P pr
  obtain ⟨ra, rc, hrv, _, _⟩ := SlD.shape (hR.toD (by omega))
  subst hrv
  clear hco
  have HR := Lib.hid hR; clear hR
  go_wp2
  go_ret
  exact ⟨_, rfl, grown_trans hg2 hg3, HR.out.weak hg2.size⟩

set_option maxRecDepth 100000 in
set_option maxHeartbeats 2000000 in
theorem iPc_ok (P : Pr) (w : World) (pv v : Value) (pr : List Int) (Sp S : Nat → Prop) (hpv : PresV Sp w pv P) (hv : Ints S w v pr) :
    Calls Tryz.prog 44 #[pv, v] w (Ret w fun w' r => ∃ a n c, r = .tuple #[.slice a n c, .int .i64 (hcC P pr)] ∧ RowsO w.heap.size w' (.slice a n c) (pcL P pr)) := by
  obtain ⟨vo, vp, vc, rfl, h3⟩ := hpv
  have hp0 := PresP.box h3 31
  have hg0 : Ext w (w.alloc (.cells #[vo, vp, vc] 31)) := World.grownBy_alloc _ _ _
  have hv0 := Ints.ext hv hg0
  have hcode := hallCode_ok P pr _ _ _ Any S hp0 hv0
  obtain ⟨av, cv, rfl, _, _⟩ := hv.shape
  go_enter Tryz.func44, Tryz.ntmps44
  go_wp2_with fail
  generalize hw0 : w.alloc (.cells #[vo, vp, vc] 31) = w0 at *
  clear hw0
  refine Calls.mono hcode ?_
  rintro e1 w1 ⟨v1, rfl, hg1, rfl⟩
  clear hcode
  have hgw1 := grown_trans hg0 hg1
  obtain ⟨c, hc⟩ : ∃ c, c = hcC P pr := ⟨_, rfl⟩
  rw [← hc]
  by_cases hz : c = 0
  · have hz' : hcC P pr = 0 := by rw [← hc]; exact hz
    have G := grp_of_r (hc_zero hz').1
    have HC := Lib.hid (And.intro hc hz'); clear hc hz'
    subst hz
    have hh := primeCore_ok P pr HC.out.2 w1 _ _ Any S (hp0.ext hg1) (Ints.ext hv0 hg1)
    go_wp2_with fail
    refine Calls.mono hh ?_
    rintro e2 w2 ⟨v2, rfl, hg2, hR⟩
    clear hh
    have hbd := pc_len P pr
    obtain ⟨ra, rc, hrv, _, _⟩ := SlD.shape (hR.toD (by omega))
    subst hrv
    have HR := Lib.hid hR; clear hR hbd
    go_wp2
    go_ret2
    exact ⟨_, rfl, grown_trans hgw1 hg2, _, _, _, by rw [← HC.out.1]; rfl, HR.out.weak hgw1.size⟩
  · have hne : (c != 0) = true := by simpa using hz
    have HC := Lib.hid hc; clear hc
    go_wp2
    go_ret2
    exact ⟨_, rfl, hgw1, none, 0, 0, by rw [← HC.out]; rfl, by rw [pc_no (by rw [← HC.out]; exact hz)]; exact SlO.nil _ _ _ _⟩

theorem ints_one (w : World) (x : Int) : Ints Any (w.alloc (.cells #[.int .i64 x] 2)) (.slice (some ⟨w.heap.size, 0, none⟩) 1 1) [x] := by
  refine ⟨_, 1, rfl, ⟨by simp, by simp, fun h => by cases h⟩, fun i hi => ?_⟩
  have : i = 0 := by simpa using hi
  subst this
  exact ⟨w.heap.size, 0, _, rfl, trivial, by simp, by rw [World.cell?_alloc_at _ _ _ _ rfl]; rfl, rfl⟩

set_option maxRecDepth 100000 in
set_option maxHeartbeats 2000000 in
theorem iSy_ok (P : Pr) (w : World) (pv : Value) (q : Int) (Sp : Nat → Prop) (hpv : PresV Sp w pv P) :
    Calls Tryz.prog 24 #[pv, .int .i64 q] w (Ret w fun _ r => r = .tuple #[.int .i64 (syN P q), .int .i64 (syC P q)]) := by
  obtain ⟨vo, vp, vc, rfl, h3⟩ := hpv
  have hp0 := PresP.box h3 31
  have hg0 : Ext w (w.alloc (.cells #[vo, vp, vc] 31)) := World.grownBy_alloc _ _ _
  have hs0 : (w.alloc (.cells #[vo, vp, vc] 31)).heap.size = w.heap.size + 1 := by simp
  have hg1 : Ext (w.alloc (.cells #[vo, vp, vc] 31)) ((w.alloc (.cells #[vo, vp, vc] 31)).alloc (.cells #[.int .i64 q] 2)) := World.grownBy_alloc _ _ _
  have hI := ints_one (w.alloc (.cells #[vo, vp, vc] 31)) q
  rw [hs0] at hI
  have hcode := hallCode_ok P [q] _ _ _ Any Any (hp0.ext hg1) hI
  have hg01 := grown_trans hg0 hg1
  have H0 := Lib.hid (And.intro hg01 (hp0.ext hg1)); clear hg0 hg1 hs0 hp0 hI
  go_enter Tryz.func24, Tryz.ntmps24
  go_wp2_with fail
  generalize hw0 : (w.alloc (.cells #[vo, vp, vc] 31)).alloc (.cells #[.int .i64 q] 2) = w0 at *
  clear hw0
  refine Calls.mono hcode ?_
  rintro e1 w1 ⟨v1, rfl, hg1, rfl⟩
  clear hcode
  have hgw1 := grown_trans H0.out.1 hg1
  obtain ⟨c, hc⟩ : ∃ c, c = hcC P [q] := ⟨_, rfl⟩
  rw [← hc]
  by_cases hz : c = 0
  · have hz' : hcC P [q] = 0 := by rw [← hc]; exact hz
    have G := grp_of_r (hc_zero hz').1
    have HC := Lib.hid (And.intro hc hz'); clear hc hz'
    subst hz
    have hg2 : Ext w1 (w1.alloc (.cells #[.int .i64 q] 2)) := World.grownBy_alloc _ _ _
    have hh := hallSubgroups_ok P G [q] _ _ _ Any Any (H0.out.2.ext (grown_trans hg1 hg2)) (ints_one w1 q)
    have HG2 := Lib.hid hg2; clear hg2
    go_wp2_with fail
    refine Calls.mono hh ?_
    rintro e2 w2 ⟨v2, rfl, hg2, L, hL, hO⟩
    clear hh
    have hall : syN P q = (L.length : Int) := by unfold syN; rw [hl_ok HC.out.2 hL]
    have hln := hL.len G
    obtain ⟨ra, rc, hrv, _, _⟩ := SlD.shape (hO.toD (by omega))
    subst hrv
    have HR := Lib.hid hall; clear hall hO hL
    go_wp2
    go_ret2
    exact ⟨_, rfl, grown_trans hgw1 (grown_trans HG2.out hg2), by rw [HR.out, show syC P q = 0 from HC.out.1.symm]; rfl⟩
  · have hne : (c != 0) = true := by simpa using hz
    have hall : syN P q = 0 := by unfold syN; rw [hl_no (by rw [← hc]; exact hz)]; rfl
    have HC := Lib.hid (And.intro hc hall); clear hc hall
    go_wp2
    go_ret2
    exact ⟨_, rfl, hgw1, by rw [HC.out.2, show syC P q = c from HC.out.1.symm]; rfl⟩

end Go.Proofs.YtdklekdpdbjfiaaGreat

/- HallSubgroups, HallSubgroup, SylowCount, PrimeCore: the reference's side. -/
namespace Go.Proofs.YtdklekdpdbjfiaaGreat
open Go.RowKit

theorem rows3_nil (w : World) : Rows3 Any w (.slice none 0 0) [] := ⟨none, 0, rfl, ⟨by simp, by simp, fun _ => rfl⟩, fun i hi => by simp at hi⟩
theorem rows2_nil (w : World) : Rows2 Any w (.slice none 0 0) [] := ⟨none, 0, rfl, ⟨by simp, by simp, fun _ => rfl⟩, fun i hi => by simp at hi⟩

set_option maxRecDepth 100000 in
set_option maxHeartbeats 2000000 in
theorem sHs_ok (P : Pr) (w : World) (pv v : Value) (pr : List Int) (Sp S : Nat → Prop) (hpv : PresV Sp w pv P) (hv : Ints S w v pr) :
    Calls Tryz.prog 34 #[pv, v] w (Ret w fun w' r => ∃ a n c, r = .tuple #[.slice a n c, .int .i64 (hcC P pr)] ∧ Rows3 Any w' (.slice a n c) (hlL P pr)) := by
  obtain ⟨vo, vp, vc, rfl, h3⟩ := hpv
  have hp0 := PresP.box h3 31
  have hg0 : Ext w (w.alloc (.cells #[vo, vp, vc] 31)) := World.grownBy_alloc _ _ _
  obtain ⟨vo6, vp6, vc6, _, _, hc0, hc1, hc2, h36⟩ := hp0.at
  simp only [Nat.zero_add] at hc1 hc2
  have hbx : ∀ w', Ext (w.alloc (.cells #[vo, vp, vc] 31)) w' → w'.cell? ⟨w.heap.size, 0, none⟩ = some vo6 ∧ w'.cell? ⟨w.heap.size, 1, none⟩ = some vp6 ∧ w'.cell? ⟨w.heap.size, 2, none⟩ = some vc6 := fun w' h => ⟨h.cell hc0 (by simp), h.cell hc1 (by simp), h.cell hc2 (by simp)⟩
  have HB := Lib.hid hbx; clear hbx hp0
  have hv0 := Ints.ext hv hg0
  have hcode := l20Code_ok P pr _ (.agg #[vo6, vp6, vc6]) _ Any S ⟨_, _, _, rfl, h36⟩ hv0
  obtain ⟨av, cv, rfl, _, _⟩ := hv.shape
  go_enter Tryz.func34, Tryz.ntmps34
  go_wp2_with fail
  clear hc0 hc1 hc2
  generalize hw0 : w.alloc (.cells #[vo, vp, vc] 31) = w0 at *
  clear hw0
  refine Calls.mono hcode ?_
  rintro e1 w1 ⟨v1, rfl, hg1, rfl⟩
  clear hcode
  have hgw1 := grown_trans hg0 hg1
  obtain ⟨c, hc⟩ : ∃ c, c = hcC P pr := ⟨_, rfl⟩
  rw [← hc]
  by_cases hz : c = 0
  · have hz' : hcC P pr = 0 := by rw [← hc]; exact hz
    have G := grp_of_r (hc_zero hz').1
    have HC := Lib.hid (And.intro hc hz'); clear hc hz'
    subst hz
    obtain ⟨hc0, hc1, hc2⟩ := HB.out w1 hg1
    have hh := l20All_ok P G pr (hc_zero HC.out.2).2.1 w1 (.agg #[vo6, vp6, vc6]) _ Any S ⟨_, _, _, rfl, Pres3.ext h36 hg1⟩ (Ints.ext hv0 hg1)
    go_wp2_with fail
    clear hc0 hc1 hc2
    refine Calls.mono hh ?_
    rintro e2 w2 ⟨v2, rfl, hg2, L, hL, hLl, hO⟩
    clear hh
    obtain ⟨la, lc, hlv, _, _⟩ := Sl.shape hO
    subst hlv
    have hall := hl_ok HC.out.2 hL
    have hrow := hL.row G
    have HA := Lib.hid (And.intro hall hrow); clear hall hrow hL
    go_wp2_with fail
    refine Calls.mono (l19Own_ok w2 _ L _ hO HA.out.2 (by omega)) ?_
    rintro e3 w3 ⟨v3, rfl, hg3, hR⟩
    have hD := hR.toD (by omega)
    obtain ⟨ra, rc, hrv, _, _⟩ := SlD.shape hD
    subst hrv
    have HR := Lib.hid (Rows3D.rows hD); clear hD hR hO
    go_wp2
    go_ret2
    exact ⟨_, rfl, grown_trans hgw1 (grown_trans hg2 hg3), _, _, _, by rw [← HC.out.1]; rfl, by rw [HA.out.1]; exact Rows3.sub HR.out (fun _ _ _ => trivial)⟩
  · have hne : (c != 0) = true := by simpa using hz
    have HC := Lib.hid hc; clear hc
    go_wp2
    go_ret2
    exact ⟨_, rfl, hgw1, none, 0, 0, by rw [← HC.out]; rfl, by rw [hl_no (by rw [← HC.out]; exact hz)]; exact rows3_nil _⟩

set_option maxRecDepth 100000 in
set_option maxHeartbeats 2000000 in
theorem sHf_ok (P : Pr) (w : World) (pv v : Value) (pr : List Int) (Sp S : Nat → Prop) (hpv : PresV Sp w pv P) (hv : Ints S w v pr) :
    Calls Tryz.prog 25 #[pv, v] w (Ret w fun w' r => ∃ a n c, r = .tuple #[.slice a n c, .int .i64 (hcC P pr)] ∧ Rows2 Any w' (.slice a n c) (hfL P pr)) := by
  obtain ⟨vo, vp, vc, rfl, h3⟩ := hpv
  have hp0 := PresP.box h3 31
  have hg0 : Ext w (w.alloc (.cells #[vo, vp, vc] 31)) := World.grownBy_alloc _ _ _
  obtain ⟨vo6, vp6, vc6, _, _, hc0, hc1, hc2, h36⟩ := hp0.at
  simp only [Nat.zero_add] at hc1 hc2
  have hbx : ∀ w', Ext (w.alloc (.cells #[vo, vp, vc] 31)) w' → w'.cell? ⟨w.heap.size, 0, none⟩ = some vo6 ∧ w'.cell? ⟨w.heap.size, 1, none⟩ = some vp6 ∧ w'.cell? ⟨w.heap.size, 2, none⟩ = some vc6 := fun w' h => ⟨h.cell hc0 (by simp), h.cell hc1 (by simp), h.cell hc2 (by simp)⟩
  have HB := Lib.hid hbx; clear hbx hp0
  have hv0 := Ints.ext hv hg0
  have hcode := l20Code_ok P pr _ (.agg #[vo6, vp6, vc6]) _ Any S ⟨_, _, _, rfl, h36⟩ hv0
  obtain ⟨av, cv, rfl, _, _⟩ := hv.shape
  go_enter Tryz.func25, Tryz.ntmps25
  go_wp2_with fail
  clear hc0 hc1 hc2
  generalize hw0 : w.alloc (.cells #[vo, vp, vc] 31) = w0 at *
  clear hw0
  refine Calls.mono hcode ?_
  rintro e1 w1 ⟨v1, rfl, hg1, rfl⟩
  clear hcode
  have hgw1 := grown_trans hg0 hg1
  obtain ⟨c, hc⟩ : ∃ c, c = hcC P pr := ⟨_, rfl⟩
  rw [← hc]
  by_cases hz : c = 0
  · have hz' : hcC P pr = 0 := by rw [← hc]; exact hz
    have G := grp_of_r (hc_zero hz').1
    have HC := Lib.hid (And.intro hc hz'); clear hc hz'
    subst hz
    obtain ⟨hc0, hc1, hc2⟩ := HB.out w1 hg1
    have hh := l20All_ok P G pr (hc_zero HC.out.2).2.1 w1 (.agg #[vo6, vp6, vc6]) _ Any S ⟨_, _, _, rfl, Pres3.ext h36 hg1⟩ (Ints.ext hv0 hg1)
    go_wp2_with fail
    clear hc0 hc1 hc2
    refine Calls.mono hh ?_
    rintro e2 w2 ⟨v2, rfl, hg2, L, hL, hLl, hO⟩
    clear hh
    obtain ⟨la, lc, hlv, _, _⟩ := Sl.shape hO
    subst hlv
    have hall : hfL P pr = gt L 0 := by unfold hfL; rw [hl_ok HC.out.2 hL]
    have hpos := hL.pos G
    have hrow := hL.row G _ (gt_mem hpos)
    obtain ⟨bl, ol, a2, cap2, hal, _, hbl, hcl, hru⟩ := Rows3.at hO 0 hpos
    subst hal
    have hp1 : (0 : Int) < L.length := by omega
    have hcl : w2.cell? ⟨bl, ol, none⟩ = some (.slice a2 (gt L 0).length cap2) := hcl
    obtain ⟨X, hX⟩ : ∃ X, X = gt L 0 := ⟨_, rfl⟩
    rw [← hX] at hall hrow hru hcl
    have HA := Lib.hid (And.intro hall hrow); clear hall hrow hL hX
    go_wp2_with fail
    clear hcl
    refine Calls.mono (l01Own2_ok w2 _ X _ hru (fun z hz => by have := HA.out.2.2 z hz; omega) (by have := HA.out.2.1; omega)) ?_
    rintro e3 w3 ⟨v3, rfl, hg3, hR⟩
    have hD := hR.toD (by have := HA.out.2.1; omega)
    obtain ⟨ra, rc, hrv, _, _⟩ := SlD.shape hD
    subst hrv
    have HR := Lib.hid (RowsD.rows hD); clear hD hR hO
    go_wp2
    go_ret2
    exact ⟨_, rfl, grown_trans hgw1 (grown_trans hg2 hg3), _, _, _, by rw [← HC.out.1]; rfl, by rw [HA.out.1]; exact Rows2.sub HR.out (fun _ _ _ => trivial)⟩
  · have hne : (c != 0) = true := by simpa using hz
    have HC := Lib.hid hc; clear hc
    go_wp2
    go_ret2
    exact ⟨_, rfl, hgw1, none, 0, 0, by rw [← HC.out]; rfl, by rw [hf_no (by rw [← HC.out]; exact hz)]; exact rows2_nil _⟩

set_option maxRecDepth 100000 in
set_option maxHeartbeats 2000000 in
theorem l20Core_ok (P : Pr) (pr : List Int) (hz : hcC P pr = 0) (w : World) (pv v : Value) (Sp S : Nat → Prop) (hpv : PresV Sp w pv P) (hv : Ints S w v pr) :
    Calls Tryz.prog 87 #[pv, v] w (Ret w fun w' r => Rows2 Any w' r (pcL P pr)) := by
  obtain ⟨vo, vp, vc, rfl, h3⟩ := hpv
  have hp0 := PresP.box h3 31
  have hg0 : Ext w (w.alloc (.cells #[vo, vp, vc] 31)) := World.grownBy_alloc _ _ _
  obtain ⟨vo6, vp6, vc6, _, _, hc0, hc1, hc2, h36⟩ := hp0.at
  simp only [Nat.zero_add] at hc1 hc2
  have hbx : ∀ w', Ext (w.alloc (.cells #[vo, vp, vc] 31)) w' → w'.cell? ⟨w.heap.size, 0, none⟩ = some vo6 ∧ w'.cell? ⟨w.heap.size, 1, none⟩ = some vp6 ∧ w'.cell? ⟨w.heap.size, 2, none⟩ = some vc6 := fun w' h => ⟨h.cell hc0 (by simp), h.cell hc1 (by simp), h.cell hc2 (by simp)⟩
  have HB := Lib.hid hbx; clear hbx hp0
  have G := grp_of_r (hc_zero hz).1
  have hv0 := Ints.ext hv hg0
  obtain ⟨av, cv, rfl, _, _⟩ := hv.shape
  have HZ := Lib.hid hz; clear hz
  go_enter Tryz.func87, Tryz.ntmps87
  go_wp2
  clear hc0 hc1 hc2
  generalize hw0 : w.alloc (.cells #[vo, vp, vc] 31) = w0 at *
  clear hw0
  have f1 : ∀ w', Ext w0 w' → w'.cell? ⟨w.heap.size, 0, none⟩ = some vo6 := fun w' h => (HB.out w' h).1
  have f2 : ∀ w', Ext w0 w' → w'.cell? ⟨w.heap.size, 1, none⟩ = some vp6 := fun w' h => (HB.out w' h).2.1
  have f3 : ∀ w', Ext w0 w' → w'.cell? ⟨w.heap.size, 2, none⟩ = some vc6 := fun w' h => (HB.out w' h).2.2
  go_region_held3 (fun w' => Ext w0 w') (first | exact grown_drew _ _ | exact Ext.refl _ | assumption)
    (first
      | (go_at_call 127; refine Calls.mono (Calls.rel (w0 := w0) (by assumption) (l20Found_ok P G pr (hc_zero HZ.out).2.1 _ (.agg #[vo6, vp6, vc6]) _ Any S ⟨_, _, _, rfl, Pres3.ext h36 (by assumption)⟩ (Ints.ext hv0 (by assumption)))) ?_; rintro e1 w1 ⟨v1, rfl, hg1, hs1, U, hU, hR1⟩; have eU : cseq P (gP P U) = U := hU.1.2.symm; rw [← eU] at hR1; clear eU; obtain ⟨ua, uc, huv, _, _⟩ := Sl.shape hR1; subst huv)
      | (go_at_call 151; refine Calls.mono (Calls.rel (w0 := w0) (by assumption) (l13Core_ok P G _ (.agg #[vo6, vp6, vc6]) _ (gP P U) Any Any (G.subB hU.1) ⟨_, _, _, rfl, Pres3.ext h36 (by assumption)⟩ hR1)) ?_; rintro e2 w2 ⟨v2, rfl, hg2, hs2, hR2⟩))
  clear f1 f2 f3
  rw [← pc_ok HZ.out hU] at hR2
  obtain ⟨ra, rc, hrv, _, _⟩ := Sl.shape hR2
  subst hrv
  have HR := Lib.hid hR2; clear hR2 hU hR1
  go_wp2
  go_ret
  exact ⟨_, rfl, grown_trans hg0 hg2, HR.out⟩

set_option maxRecDepth 100000 in
set_option maxHeartbeats 2000000 in
theorem sPc_ok (P : Pr) (w : World) (pv v : Value) (pr : List Int) (Sp S : Nat → Prop) (hpv : PresV Sp w pv P) (hv : Ints S w v pr) :
    Calls Tryz.prog 43 #[pv, v] w (Ret w fun w' r => ∃ a n c, r = .tuple #[.slice a n c, .int .i64 (hcC P pr)] ∧ Rows2 Any w' (.slice a n c) (pcL P pr)) := by
  obtain ⟨vo, vp, vc, rfl, h3⟩ := hpv
  have hp0 := PresP.box h3 31
  have hg0 : Ext w (w.alloc (.cells #[vo, vp, vc] 31)) := World.grownBy_alloc _ _ _
  obtain ⟨vo6, vp6, vc6, _, _, hc0, hc1, hc2, h36⟩ := hp0.at
  simp only [Nat.zero_add] at hc1 hc2
  have hbx : ∀ w', Ext (w.alloc (.cells #[vo, vp, vc] 31)) w' → w'.cell? ⟨w.heap.size, 0, none⟩ = some vo6 ∧ w'.cell? ⟨w.heap.size, 1, none⟩ = some vp6 ∧ w'.cell? ⟨w.heap.size, 2, none⟩ = some vc6 := fun w' h => ⟨h.cell hc0 (by simp), h.cell hc1 (by simp), h.cell hc2 (by simp)⟩
  have HB := Lib.hid hbx; clear hbx hp0
  have hv0 := Ints.ext hv hg0
  have hcode := l20Code_ok P pr _ (.agg #[vo6, vp6, vc6]) _ Any S ⟨_, _, _, rfl, h36⟩ hv0
  obtain ⟨av, cv, rfl, _, _⟩ := hv.shape
  go_enter Tryz.func43, Tryz.ntmps43
  go_wp2_with fail
  clear hc0 hc1 hc2
  generalize hw0 : w.alloc (.cells #[vo, vp, vc] 31) = w0 at *
  clear hw0
  refine Calls.mono hcode ?_
  rintro e1 w1 ⟨v1, rfl, hg1, rfl⟩
  clear hcode
  have hgw1 := grown_trans hg0 hg1
  obtain ⟨c, hc⟩ : ∃ c, c = hcC P pr := ⟨_, rfl⟩
  rw [← hc]
  by_cases hz : c = 0
  · have hz' : hcC P pr = 0 := by rw [← hc]; exact hz
    have G := grp_of_r (hc_zero hz').1
    have HC := Lib.hid (And.intro hc hz'); clear hc hz'
    subst hz
    obtain ⟨hc0, hc1, hc2⟩ := HB.out w1 hg1
    have hh := l20Core_ok P pr HC.out.2 w1 (.agg #[vo6, vp6, vc6]) _ Any S ⟨_, _, _, rfl, Pres3.ext h36 hg1⟩ (Ints.ext hv0 hg1)
    have hbd := pc_bd P pr
    obtain ⟨X, hX⟩ : ∃ X, X = pcL P pr := ⟨_, rfl⟩
    rw [← hX] at hh hbd
    have HX := Lib.hid (And.intro hX hbd); clear hX hbd
    go_wp2_with fail
    clear hc0 hc1 hc2
    refine Calls.mono hh ?_
    rintro e2 w2 ⟨v2, rfl, hg2, hO⟩
    clear hh
    obtain ⟨la, lc, hlv, _, _⟩ := Sl.shape hO
    subst hlv
    go_wp2_with fail
    refine Calls.mono (l01Own2_ok w2 _ X _ hO (fun z hz => by have := HX.out.2.2 z hz; omega) (by have := HX.out.2.1; omega)) ?_
    rintro e3 w3 ⟨v3, rfl, hg3, hR⟩
    have hD := hR.toD (by have := HX.out.2.1; omega)
    obtain ⟨ra, rc, hrv, _, _⟩ := SlD.shape hD
    subst hrv
    have HR := Lib.hid (RowsD.rows hD); clear hD hR hO
    go_wp2
    go_ret2
    exact ⟨_, rfl, grown_trans hgw1 (grown_trans hg2 hg3), _, _, _, by rw [← HC.out.1]; rfl, by rw [← HX.out.1]; exact Rows2.sub HR.out (fun _ _ _ => trivial)⟩
  · have hne : (c != 0) = true := by simpa using hz
    have HC := Lib.hid hc; clear hc
    go_wp2
    go_ret2
    exact ⟨_, rfl, hgw1, none, 0, 0, by rw [← HC.out]; rfl, by rw [pc_no (by rw [← HC.out]; exact hz)]; exact rows2_nil _⟩

set_option maxRecDepth 100000 in
set_option maxHeartbeats 2000000 in
theorem sSy_ok (P : Pr) (w : World) (pv : Value) (q : Int) (Sp : Nat → Prop) (hpv : PresV Sp w pv P) :
    Calls Tryz.prog 23 #[pv, .int .i64 q] w (Ret w fun _ r => r = .tuple #[.int .i64 (syN P q), .int .i64 (syC P q)]) := by
  obtain ⟨vo, vp, vc, rfl, h3⟩ := hpv
  have hp0 := PresP.box h3 31
  have hg0 : Ext w (w.alloc (.cells #[vo, vp, vc] 31)) := World.grownBy_alloc _ _ _
  have hs0 : (w.alloc (.cells #[vo, vp, vc] 31)).heap.size = w.heap.size + 1 := by simp
  have hg1 : Ext (w.alloc (.cells #[vo, vp, vc] 31)) ((w.alloc (.cells #[vo, vp, vc] 31)).alloc (.cells #[.int .i64 q] 2)) := World.grownBy_alloc _ _ _
  have hI := ints_one (w.alloc (.cells #[vo, vp, vc] 31)) q
  rw [hs0] at hI
  have hg01 := grown_trans hg0 hg1
  have hcode := l20Code_ok P [q] _ (.agg #[vo, vp, vc]) _ Sp Any ⟨_, _, _, rfl, Pres3.ext h3 hg01⟩ hI
  have hc0 : (w.alloc (.cells #[vo, vp, vc] 31)).cell? ⟨w.heap.size, 0, none⟩ = some vo := by rw [World.cell?_alloc_at _ _ _ _ rfl]; rfl
  have hc1 : (w.alloc (.cells #[vo, vp, vc] 31)).cell? ⟨w.heap.size, 1, none⟩ = some vp := by rw [World.cell?_alloc_at _ _ _ _ rfl]; rfl
  have hc2 : (w.alloc (.cells #[vo, vp, vc] 31)).cell? ⟨w.heap.size, 2, none⟩ = some vc := by rw [World.cell?_alloc_at _ _ _ _ rfl]; rfl
  have hbx : ∀ w', Ext ((w.alloc (.cells #[vo, vp, vc] 31)).alloc (.cells #[.int .i64 q] 2)) w' → w'.cell? ⟨w.heap.size, 0, none⟩ = some vo ∧ w'.cell? ⟨w.heap.size, 1, none⟩ = some vp ∧ w'.cell? ⟨w.heap.size, 2, none⟩ = some vc := fun w' h => ⟨(grown_trans hg1 h).cell hc0 (by simp), (grown_trans hg1 h).cell hc1 (by simp), (grown_trans hg1 h).cell hc2 (by simp)⟩
  have H0 := Lib.hid (And.intro hg01 hbx); clear hg0 hg1 hs0 hp0 hI hbx hc0 hc1 hc2
  go_enter Tryz.func23, Tryz.ntmps23
  go_wp2_with fail
  generalize hw0 : (w.alloc (.cells #[vo, vp, vc] 31)).alloc (.cells #[.int .i64 q] 2) = w0 at *
  clear hw0
  refine Calls.mono hcode ?_
  rintro e1 w1 ⟨v1, rfl, hg1, rfl⟩
  clear hcode
  have hgw1 := grown_trans H0.out.1 hg1
  obtain ⟨c, hc⟩ : ∃ c, c = hcC P [q] := ⟨_, rfl⟩
  rw [← hc]
  by_cases hz : c = 0
  · have hz' : hcC P [q] = 0 := by rw [← hc]; exact hz
    have G := grp_of_r (hc_zero hz').1
    have HC := Lib.hid (And.intro hc hz'); clear hc hz'
    subst hz
    have hg2 : Ext w1 (w1.alloc (.cells #[.int .i64 q] 2)) := World.grownBy_alloc _ _ _
    have hh := l20All_ok P G [q] (hc_zero HC.out.2).2.1 _ (.agg #[vo, vp, vc]) _ Sp Any ⟨_, _, _, rfl, Pres3.ext h3 (grown_trans hgw1 hg2)⟩ (ints_one w1 q)
    have HG2 := Lib.hid hg2; clear hg2
    obtain ⟨hc0, hc1, hc2⟩ := H0.out.2 w1 hg1
    go_wp2_with fail
    clear hc0 hc1 hc2
    refine Calls.mono hh ?_
    rintro e2 w2 ⟨v2, rfl, hg2, L, hL, hLl, hO⟩
    clear hh
    have hall : syN P q = (L.length : Int) := by unfold syN; rw [hl_ok HC.out.2 hL]
    obtain ⟨ra, rc, hrv, _, _⟩ := Sl.shape hO
    subst hrv
    have HR := Lib.hid hall; clear hall hO hL
    go_wp2
    go_ret2
    exact ⟨_, rfl, grown_trans hgw1 (grown_trans HG2.out hg2), by rw [HR.out, show syC P q = 0 from HC.out.1.symm]; rfl⟩
  · have hne : (c != 0) = true := by simpa using hz
    have hall : syN P q = 0 := by unfold syN; rw [hl_no (by rw [← hc]; exact hz)]; rfl
    have HC := Lib.hid (And.intro hc hall); clear hc hall
    go_wp2
    go_ret2
    exact ⟨_, rfl, hgw1, by rw [HC.out.2, show syC P q = c from HC.out.1.symm]; rfl⟩

end Go.Proofs.YtdklekdpdbjfiaaGreat

/- The rows' arguments: how a presentation that came in, or a list, reads in this claim's words. -/
namespace Go.Proofs.YtdklekdpdbjfiaaGreat
open Go.RowKit Go.ChangeShapes Go.WideShapes Go.Deep

theorem cells_int64 : Tryz.prog.cellsOf 2 = 1 := by kernel_rfl
theorem cells_ints : Tryz.prog.cellsOf 22 = 1 := by kernel_rfl
theorem cells_rows : Tryz.prog.cellsOf 23 = 1 := by kernel_rfl
theorem und_int64r : Tryz.prog.underlying 2 = some (.int .i64) := by kernel_rfl

section
variable {H : Type} {enc : TypeId × Value → H} {W : World} {sp : Nat → Bool}

/-- a slice that was read is one of this claim's slices -/
theorem open_sl {α : Type} [Inhabited α] {El : World → Value → α → Prop} {t e : TypeId} (ht : Tryz.prog.underlying t = some (.slice e)) (hc : Tryz.prog.cellsOf e = 1)
    (hEl : ∀ n c x, DataW.trod enc Tryz.prog W 0 sp true n e [c] = some x → ∃ y, El W c y) {fuel : Nat} {c : Value} {x : DataW H × List MemPlace} (h : DataW.trod enc Tryz.prog W 0 sp true fuel t [c] = some x) :
    ∃ xs : List α, Sl El Any W c xs := by
  rcases open_slice1 ht hc h with ⟨hcs, _⟩ | ⟨a, len, cap, m, n, V, D, Pl, hcs, _, hl, hm, hmm, _, hx⟩
  · cases hcs
    exact ⟨[], none, 0, rfl, ⟨by simp, by simp, fun _ => rfl⟩, fun i hi => by simp at hi⟩
  · cases hcs
    have hlm : len ≤ m := by rw [hmm]; split <;> omega
    obtain ⟨Z, hZ⟩ := choose_lt (α := α) (n := len) (p := fun i y => El W (V i) y) (fun i hi => hEl n (V i) _ (hx i (by omega)).2)
    refine ⟨(List.range len).map Z, some a, cap, by simp, ⟨by simpa using hl, by simp; unfold maxLen at hm; omega, fun h => by cases h⟩, fun i hi => ?_⟩
    simp only [List.length_map, List.length_range] at hi
    obtain ⟨h1, h2⟩ := hx i (by omega)
    obtain ⟨b, off, spot⟩ := a
    have hs : spot = none := by
      have h0 := (hx 0 (by omega)).1
      exact World.cell?_spot (by simpa [Addr.add] using h0)
    subst hs
    have hcell : W.cell? ⟨b, off + i, none⟩ = some (V i) := by
      have e : (⟨b, off, none⟩ : Addr).add i = ⟨b, off + i, none⟩ := by
        unfold Addr.add; split
        · rename_i h; subst h; rfl
        · rfl
      rw [← e]; exact h1
    refine ⟨b, off, V i, rfl, trivial, World.block_lt_of_cell? W _ hcell, hcell, ?_⟩
    have : gt ((List.range len).map Z) i = Z i := by simp [gt, hi]
    rw [this]; exact hZ i hi

theorem open_i64 {n : Nat} {c : Value} {x : DataW H × List MemPlace} (h : DataW.trod enc Tryz.prog W 0 sp true n 2 [c] = some x) : ∃ y, IntEl W c y := by
  cases n with
  | zero => simp [DataW.trod] at h
  | succ n =>
    unfold DataW.trod at h
    rw [und_int64r] at h
    cases c <;> simp at h
    rename_i k z
    obtain ⟨⟨rfl, _⟩, _⟩ := h
    exact ⟨z, rfl⟩
theorem open_i64s {n : Nat} {c : Value} {x : DataW H × List MemPlace} (h : DataW.trod enc Tryz.prog W 0 sp true n 22 [c] = some x) : ∃ l, Ints Any W c l :=
  open_sl und_ints cells_int64 (fun _ _ _ h => open_i64 h) h
theorem open_rows2 {n : Nat} {c : Value} {x : DataW H × List MemPlace} (h : DataW.trod enc Tryz.prog W 0 sp true n 23 [c] = some x) : ∃ l, Rows2 Any W c l :=
  open_sl (El := fun w u x => Ints Any w u x) und_rows cells_ints (fun _ _ _ h => open_i64s h) h
theorem open_rows3 {n : Nat} {c : Value} {x : DataW H × List MemPlace} (h : DataW.trod enc Tryz.prog W 0 sp true n 24 [c] = some x) : ∃ l, Rows3 Any W c l :=
  open_sl (El := fun w u x => Rows2 Any w u x) und_rows3 cells_rows (fun _ _ _ h => open_rows2 h) h

theorem cells_pres : Tryz.prog.cellsOf 26 = 3 := by kernel_rfl

set_option maxRecDepth 100000 in
/-- a presentation that came in -/
theorem open_pres {base : Nat} {v : Value} {d : DataW H} {p : List MemPlace} (hv : Value.okWide Tryz.prog W .any base 26 v) (h : DataW.Trod enc Tryz.prog W 0 sp true 26 v d p) : ∃ P, PresV Any W v P := by
  obtain ⟨fs, hfs, h3⟩ : ∃ fs, Tryz.prog.underlying 26 = some (.struct fs) ∧ fs.map (fun f => (f.offset, f.type)) = #[(0, 22), (1, 23), (2, 24)] := ⟨_, Tryz.underlying26, by simp⟩
  obtain ⟨cs, rfl, hsz⟩ := okWide_struct hfs hv
  rw [cells_pres] at hsz
  obtain ⟨n, hn⟩ := h
  obtain ⟨xs, m, _, _, hl, hlen, hf⟩ := DataW.trod_struct hfs hn
  obtain ⟨c0, c1, c2, rfl⟩ : ∃ c0 c1 c2, cs = #[c0, c1, c2] := by
    match cs, hsz with
    | ⟨[c0, c1, c2]⟩, _ => exact ⟨c0, c1, c2, rfl⟩
  have hfsz : fs.size = 3 := by have := congrArg Array.size h3; simpa using this
  have hget : ∀ i (hi : i < 3), ∃ f, fs[i]? = some f ∧ (f.offset, f.type) = (#[(0, 22), (1, 23), (2, 24)] : Array (Nat × TypeId))[i]'(by simpa using hi) := fun i hi => by
    have h1 : (fs.map (fun f => (f.offset, f.type)))[i]? = (#[(0, 22), (1, 23), (2, 24)] : Array (Nat × TypeId))[i]? := by rw [h3]
    rw [Array.getElem?_map, Array.getElem?_eq_getElem (by omega), Array.getElem?_eq_getElem (by simpa using hi)] at h1
    exact ⟨_, Array.getElem?_eq_getElem (by omega), by simpa using h1⟩
  obtain ⟨f0, g0, e0⟩ := hget 0 (by omega)
  obtain ⟨f1, g1, e1⟩ := hget 1 (by omega)
  obtain ⟨f2, g2, e2⟩ := hget 2 (by omega)
  simp only [Prod.mk.injEq, List.getElem_toArray, List.getElem_cons_zero, List.getElem_cons_succ] at e0 e1 e2
  have k0 := hf 0 f0 g0
  have k1 := hf 1 f1 g1
  have k2 := hf 2 f2 g2
  rw [e0.1, e0.2, cells_ints, List.getElem?_eq_getElem (by omega)] at k0
  rw [e1.1, e1.2, cells_rows, List.getElem?_eq_getElem (by omega)] at k1
  rw [e2.1, e2.2, show Tryz.prog.cellsOf 24 = 1 by kernel_rfl, List.getElem?_eq_getElem (by omega)] at k2
  obtain ⟨o, ho⟩ := open_i64s k0
  obtain ⟨q, hq⟩ := open_rows2 k1
  obtain ⟨r, hr⟩ := open_rows3 k2
  exact ⟨⟨o, q, r⟩, c0, c1, c2, rfl, ⟨ho, hq, hr⟩⟩
end

end Go.Proofs.YtdklekdpdbjfiaaGreat
