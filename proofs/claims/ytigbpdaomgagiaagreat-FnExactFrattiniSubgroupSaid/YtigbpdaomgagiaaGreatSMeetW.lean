/-
  impl.meet, impl.productSize.
-/
import Derived.Test.YtigbpdaomgagiaaGreatK6
import Derived.Test.YtigbpdaomgagiaaGreatK9


namespace Go.Proofs.YtigbpdaomgagiaaGreat
open Go.RowKit

/-- the members of the first k rows that lie in K -/
def inTo (E : List (List Int)) (K : List Int → Prop) (k : Nat) (x : List Int) : Prop := x ∈ E.take k ∧ K x

theorem inTo_succ {E : List (List Int)} {K : List Int → Prop} {k : Nat} (hk : k < E.length) (hK : K (gt E k)) : (fun x => inTo E K k x ∨ x ∈ [gt E k]) = inTo E K (k + 1) := by
  funext x
  unfold inTo
  rw [take_succ_gt E k hk]
  simp only [List.mem_append, List.mem_singleton, eq_iff_iff]
  constructor
  · rintro (⟨h1, h2⟩ | h)
    · exact ⟨.inl h1, h2⟩
    · exact ⟨.inr h, by rw [h]; exact hK⟩
  · rintro ⟨h | h, h2⟩
    · exact .inl ⟨h, h2⟩
    · exact .inr h
theorem inTo_skip {E : List (List Int)} {K : List Int → Prop} {k : Nat} (hk : k < E.length) (hK : ¬ K (gt E k)) : inTo E K (k + 1) = inTo E K k := by
  funext x
  unfold inTo
  rw [take_succ_gt E k hk]
  simp only [List.mem_append, List.mem_singleton, eq_iff_iff]
  constructor
  · rintro ⟨h | h, h2⟩
    · exact ⟨h, h2⟩
    · exact absurd (by rw [← h]; exact h2) hK
  · rintro ⟨h, h2⟩
    exact ⟨.inl h, h2⟩
theorem inTo_zero (E : List (List Int)) (K : List Int → Prop) : inTo E K 0 = fun _ => False := by
  funext x; unfold inTo; simp
theorem inTo_all {P : Pr} {H K : List Int → Prop} (hP : Valid P) (S : Sub P H) (E : List (List Int)) (hE : E = elemsIn P H) : inTo E K E.length = fun x => H x ∧ K x := by
  funext x
  unfold inTo
  rw [List.take_length, hE, elemsIn_mem hP S.vec]

theorem rows2One {S S' : Nat → Prop} {w : World} {u : Value} {X : List Int} (h : Ints S w u X) (hS : ∀ k, S k → k < w.heap.size → S' k) (hn : S' w.heap.size) : Rows2 S' (w.alloc (.cells #[u] 22)) (.slice (some ⟨w.heap.size, 0, none⟩) 1 1) [X] := by
  refine ⟨_, 1, rfl, ⟨by simp, by simp, fun h => by cases h⟩, fun i hi => ?_⟩
  have : i = 0 := by simpa using hi
  subst this
  have hg : Ext w (w.alloc (.cells #[u] 22)) := World.grownBy_alloc _ _ _
  refine ⟨w.heap.size, 0, u, rfl, hn, by simp, by rw [World.cell?_alloc_at _ _ _ _ rfl]; rfl, ?_⟩
  exact Ints.mono h (fun k hk hlt => ⟨hS k hk hlt, Nat.lt_of_lt_of_le hlt hg.size, hg.block k hlt (by simp)⟩)

set_option maxRecDepth 100000 in
set_option maxHeartbeats 8000000 in
theorem meet_ok (P : Pr) (G : Grp P) (w : World) (p uv vv : Value) (H K : List Int → Prop) (Sp Su Sv : Nat → Prop) (S : Sub P H) (R : Sub P K) (hp : PresP Sp w p P) (hu : Rows2 Su w uv (cseq P H)) (hv : Rows2 Sv w vv (cseq P K)) :
    Calls Tryz.prog 102 #[p, uv, vv] w (Ret w fun w' v => RowsO w.heap.size w' v (cseq P (fun x => H x ∧ K x))) := by
  have hP := G.v
  have hn6 := hP.n6
  obtain ⟨pb, po, rfl⟩ := hp.shape
  have hlH := G.cseq_len S
  have hlK := G.cseq_len R
  have hsH := (G.seq_facts S).1
  have hsK := (G.seq_facts R).1
  obtain ⟨au, capu, rfl, _, _⟩ := Sl.shape hu
  obtain ⟨av, capv, rfl, _, _⟩ := Sl.shape hv
  have hsel : ∃ (H1 K1 : List Int → Prop) (u1 v1 : Value), Sub P H1 ∧ Sub P K1 ∧ Rows2 Any w u1 (cseq P H1) ∧ Rows2 Any w v1 (cseq P K1) ∧ (fun x => H1 x ∧ K1 x) = (fun x => H x ∧ K x) ∧
      ((prodU P (cseq P K) (cseq P K).length < prodU P (cseq P H) (cseq P H).length ∧ u1 = .slice av (cseq P K).length capv ∧ v1 = .slice au (cseq P H).length capu) ∨
       (¬ prodU P (cseq P K) (cseq P K).length < prodU P (cseq P H) (cseq P H).length ∧ u1 = .slice au (cseq P H).length capu ∧ v1 = .slice av (cseq P K).length capv)) := by
    have hu' := Rows2.sub hu (S' := Any) (fun _ _ _ => trivial)
    have hv' := Rows2.sub hv (S' := Any) (fun _ _ _ => trivial)
    by_cases h : prodU P (cseq P K) (cseq P K).length < prodU P (cseq P H) (cseq P H).length
    · exact ⟨K, H, _, _, R, S, hv', hu', funext fun x => propext ⟨fun h => ⟨h.2, h.1⟩, fun h => ⟨h.2, h.1⟩⟩, .inl ⟨h, rfl, rfl⟩⟩
    · exact ⟨H, K, _, _, S, R, hu', hv', rfl, .inr ⟨h, rfl, rfl⟩⟩
  obtain ⟨H1, K1, u1, v1, S1, R1, hu1, hv1, hHK, hsel⟩ := hsel
  have hlH1 := G.cseq_len S1
  have hE := G.els_sorted S1
  have hs1 := (G.seq_facts S1).1
  have HX := Lib.hid (And.intro hsH (And.intro hsK (And.intro hHK (And.intro hE hs1)))); clear hsH hsK hHK hE hs1
  obtain ⟨E, hEe⟩ : ∃ E, E = elemsIn P H1 := ⟨_, rfl⟩
  have hEl : E.length ≤ 729 := by rw [hEe]; exact elemsIn_len hP H1
  have HE := Lib.hid hEe; clear hEe
  go_enter Tryz.func102, Tryz.ntmps102
  go_wp2_with fail
  refine Calls.mono (sizeOf_ok P hP w _ _ (cseq P H) Sp Su hp hu HX.out.1 (by omega)) ?_
  rintro eA wA ⟨vA, rfl, hgA, rfl⟩
  go_wp2_with fail
  refine Calls.mono (sizeOf_ok P hP wA _ _ (cseq P K) Sp Sv (hp.ext hgA) (Rows2.ext hv hgA) HX.out.2.1 (by omega)) ?_
  rintro eB wB ⟨vB, rfl, hgB, rfl⟩
  have hgw := grown_trans hgA hgB
  obtain ⟨m1, hm1⟩ : ∃ m1, m1 = prodU P (cseq P H) (cseq P H).length := ⟨_, rfl⟩
  obtain ⟨m2, hm2⟩ : ∃ m2, m2 = prodU P (cseq P K) (cseq P K).length := ⟨_, rfl⟩
  rw [← hm1, ← hm2] at hsel ⊢
  clear hm1 hm2 hu hv
  rcases hsel with ⟨hc, rfl, rfl⟩ | ⟨hc, rfl, rfl⟩
  all_goals
    go_wp2_with fail
    clear hc
    refine Calls.mono (newSequence_ok P wB _ Sp (fun _ => False) (hp.ext hgw) hn6) ?_
    rintro e1 w1 ⟨v1, rfl, hg1, sb, gb, rfl, hs⟩
    have hgb := hs.tab.lt
    have hsb := hs.sB
    have hsl := hs.slt
    have hgw1 := grown_trans hgw hg1
    go_wp2_with fail
    refine Calls.mono (elementsOf_ok P G w1 _ _ (cseq P H1) Sp Any (hp.ext hgw1) (Rows2.ext hu1 hgw1) HX.out.2.2.2.2 (by omega)) ?_
    rintro e2 w2 ⟨v2, rfl, hg2, hO⟩
    rw [HX.out.2.2.2.1, ← HE.out] at hO
    have hgw2 := grown_trans hgw1 hg2
    have hER := RowsD.rows (SlO.toD hO (by omega))
    obtain ⟨ae, cape, hve, _, _⟩ := Sl.shape hER
    subst hve
    have hER2 : Rows2 (fun j => w1.heap.size ≤ j) w2 (.slice ae E.length cape) E := hER
    have hs2 := hs.ext hg2
    have hwB := hgw.size
    clear hO hER hs
    go_wp2
    go_loopw [25] (fun iv wr => ∃ (k : Nat) (b : List (List Int)), iv = .int .i64 k ∧ k ≤ E.length ∧ Ext w wr ∧ SeqAt wB.heap.size (fun _ => False) wr sb gb (.pointer (some ⟨pb, po, none⟩)) P.orders.length b ∧ Rows2 (fun j => w1.heap.size ≤ j) wr (.slice ae E.length cape) E ∧ Hid (Ind P (genP P (inTo E K1 k)) (gt b))) (fun iv _ => E.length - (intOf iv).toNat)
    case atStart => exact ⟨0, _, rfl, by omega, hgw2, hs2, hER2, Lib.hid (by rw [inTo_zero, G.genP_none]; exact G.ind_one)⟩
    case round =>
      clear hs2 hER2
      obtain ⟨k, b, rfl, hk, hg, hs, hER, hI⟩ := hrel
      by_cases hlt : k < E.length
      · have hlt' : (k : Int) < E.length := by omega
        obtain ⟨bb, off, a2, cap2, rfl, _, _, hc, hr⟩ := Rows2.at hER k hlt
        have hXV : Vec P.orders (gt E k) := S1.vec _ ((elemsIn_mem hP S1.vec _).1 (by rw [← HE.out]; exact gtMem hlt))
        have HXV := Lib.hid hXV; clear hXV
        go_wp2_with fail
        clear hc
        refine Calls.mono (isMember_ok P G wr _ _ _ K1 (gt E k) Sp Any _ R1 (hp.ext hg) (Rows2.ext hv1 hg) hr HXV.out) ?_
        rintro e3 w3 ⟨v3, rfl, hg3, r, rfl, hr3⟩
        have hg03 := grown_trans hg hg3
        cases r with
        | false =>
          have hI2 : Hid (Ind P (genP P (inTo E K1 (k + 1))) (gt b)) := Lib.hid (by rw [inTo_skip hlt (fun h => by have := hr3.2 h; cases this)]; exact hI.out)
          have hs3 := hs.ext hg3
          have hER3 := Rows2.ext hER hg3
          clear hr3
          go_wp2
          go_roundw
          case rel => exact ⟨k + 1, b, by go_num, by omega, hg03, hs3, hER3, hI2⟩
          case measure => simp [intOf]; omega
        | true =>
          have hin := inTo_succ hlt (hr3.1 rfl)
          have HIN := Lib.hid hin; clear hin hr3
          have hga : Ext w3 (w3.alloc (.cells #[.slice a2 (gt E k).length cap2] 22)) := World.grownBy_alloc _ _ _
          have hg3s := hg3.size
          have hws := hs.slt
          have hwt := hs.tab.lt
          have hlit := rows2One (S' := fun j => ¬ (j = gb ∨ j = sb)) (Ints.ext hr hg3) (fun j hj hlt => by omega) (by omega)
          have hgwa := grown_trans hg03 hga
          have hadd := add_ok P G (w3.alloc (.cells #[.slice a2 (gt E k).length cap2] 22)) sb gb wB.heap.size _ _ [gt E k] b _ (hp.mono (fun j _ hj => ⟨by omega, Nat.lt_of_lt_of_le hj hgwa.size, hgwa.block j hj (by simp)⟩)) ((hs.ext hg3).ext hga) hI.out (fun x hx => by rw [List.mem_singleton.1 hx]; exact HXV.out) hlit (by simp)
          have HA := Lib.hid hadd; clear hadd
          go_wp2_with fail
          refine Calls.mono HA.out ?_
          rintro e4 w4 ⟨b4, g4, rfl, hg4, hs4, hA4, _, _⟩
          rw [genP_or, HIN.out] at hA4
          have hgw4 : Ext w w4 := grown_own hgwa hg4 (fun j hj hlt => by cases hj; omega)
          have hER4 : Rows2 (fun j => w1.heap.size ≤ j) w4 (.slice (some ⟨bb, off, none⟩) E.length cape) E := Rows2.mono hER (fun j hj hlt => ⟨hj, Nat.lt_of_lt_of_le hlt (Nat.le_trans hg3.size (Nat.le_trans hga.size hg4.size)), (hg4.block j (Nat.lt_of_lt_of_le hlt (Nat.le_trans hg3.size hga.size)) (fun e => by cases e; omega)).trans ((hga.block j (Nat.lt_of_lt_of_le hlt hg3.size) (by simp)).trans (hg3.block j hlt (by simp)))⟩)
          have HA4 := Lib.hid hA4; clear hA4 HA hlit
          go_wp2
          go_roundw
          case rel => exact ⟨k + 1, b4, by go_num, by omega, hgw4, hs4, hER4, HA4⟩
          case measure => simp [intOf]; omega
      · have hke : k = E.length := by omega
        have hI2 : Hid (Ind P (fun x => H x ∧ K x) (gt b)) := Lib.hid (by
          have h := hI.out
          rw [hke, inTo_all hP S1 E HE.out, genP_self (S1.and R1), HX.out.2.2.1] at h
          exact h)
        subst hke
        clear hI
        go_wp2_with fail
        refine Calls.mono (canonical_ok P G wr sb gb wB.heap.size _ b _ _ _ (hp.ext hg) hs hI2.out) ?_
        rintro e5 w5 ⟨v5, rfl, hg5, hO5⟩
        go_wp2
        go_ret
        exact ⟨_, rfl, grown_trans hg hg5, hO5.weak hg.size⟩

end Go.Proofs.YtigbpdaomgagiaaGreat
