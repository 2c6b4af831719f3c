/-
  append of a whole list of rows, in a region that draws; l01Own2 hands back a list that is not nil.
-/
import Derived.Test.YtchbegeklckgnaaGreatK7
namespace Go.Proofs.YtchbegeklckgnaaGreat
open Go.RowKit

theorem step_app_many (T E : Nat) (z : Value) (bytes : Nat) (hT : Tryz.prog.underlying T = some (.slice E)) (hE : (Tryz.prog.info? E).map (fun i => (i.zero, i.size, i.bytes)) = some (some z, 1, bytes))
    (hzs : z.cells.size = 1) (hbt : bytes ≤ 64) {ops : Array Oper} {o : Oper} {a : Act} {K : Act → World → Prop} {Q : Exit → Act → World → Prop} {Ex : Prop} {w : World} (hgd : o.guard = none) (s x : Operand)
    (ho : o.op = Op.call { callee := Callee.builtin Builtin.append, args := #[s, x], argTypes := #[T, T] }) (base g cap : Nat) (xs : List Value) (hs : a.eval s = .slice (some ⟨g, 0, none⟩) xs.length cap) (hown : OwnV base E w (.slice (some ⟨g, 0, none⟩) xs.length cap) xs)
    (sa : Option Addr) (m c : Nat) (news : List Value) (hx : a.eval x = .slice sa m c) (hl : news.length = m) (hsn : sa = none → c = 0)
    (hnews : ∀ j, j < m → ∃ b off, sa = some ⟨b, off, none⟩ ∧ w.cell? ⟨b, off + j, none⟩ = some (gt news j)) (h1 : ∀ u, u ∈ news → u.oneCell' = true) (hlen : xs.length + m ≤ 1000000) (hbase : base ≤ w.heap.size)
    (h : ∀ v' w', OwnV base E w' v' (xs ++ news) → w.grownBy w' (some g) → K (a.put o.dst v') w') :
    if Region.wanted o (yielded ops a.tmps) = true then Oper.wp Tryz.prog o a w K Q else Ex := by
  obtain ⟨i0, hi, hz0, hz1, hz2⟩ := info_parts hE
  have hw : Region.wanted o (yielded ops a.tmps) = true := by simp [Region.wanted, hgd]
  rcases Nat.eq_zero_or_pos m with rfl | hm
  · have hn : news = [] := List.eq_nil_of_length_eq_zero hl
    subst hn
    have hown0 := hown
    rw [List.append_nil] at h
    cases sa with
    | none =>
      have hc := hsn rfl
      subst hc
      rw [if_pos hw]
      have hrun := run_append_owned_none (P := Tryz.prog) (w := w) base T o.type E i0 1 hT hi _ xs.length xs hown
      unfold Oper.wp
      simp [execOp, ho, resolve, invoke, builtin, hs, hx, hrun, Result.andThen]
      exact h _ _ hown0 (grown_refl _ _)
    | some ad =>
      have hcap : xs.length ≤ cap := by
        rcases hown.form with ⟨h, _⟩ | ⟨g', cp, hv, hc, _⟩
        · cases h
        · simp only [Value.slice.injEq] at hv; omega
      refine step_append_at w hgd s x T ho E i0 z 1 bytes hT hi hz0 hz1 hz2 hzs (by decide) g 0 xs.length cap xs hs (by omega) (fun j u hj => ?_) ad 0 c [] hx rfl (by simp) (by simp) (fun _ j hj => by simp at hj) (by unfold maxLen; omega) (by have := Nat.mul_le_mul (show xs.length + 0 ≤ 1000000 by omega) hbt; omega) (fun _ => ?_) (fun h => by omega)
      · have hj2 : j < xs.length := by
          rcases Nat.lt_or_ge j xs.length with h | h
          · exact h
          · rw [List.getElem?_eq_none h] at hj; cases hj
        rw [Nat.zero_add, hown.cell j hj2]
        simp [gt, hj]
      · have e : w.setCells g (0 + xs.length * 1) [] = w := by simp [World.setCells]
        rw [e]
        exact h _ _ hown0 (grown_refl _ _)
  · obtain ⟨b, off, rfl, _⟩ := hnews 0 hm
    refine step_append_lies w hgd s x T ho base E i0 z 1 bytes hT hi hz0 hz1 hz2 hzs (by decide) _ xs.length xs hs hown ⟨b, off, none⟩ m c news hx (by omega) (fun j u hj => ?_) h1 hm (by unfold maxLen; omega) (by have := Nat.mul_le_mul (show xs.length + m ≤ 1000000 by omega) hbt; omega) hbase w.heap.size rfl ?_
    · have hj2 : j < m := by
        rcases Nat.lt_or_ge j news.length with h | h
        · omega
        · rw [List.getElem?_eq_none h] at hj; cases hj
      obtain ⟨b', off', he, hc⟩ := hnews j hj2
      cases he
      have hgj : gt news j = u := by simp [gt, hj]
      rw [hgj] at hc
      unfold Addr.add
      split
      · rename_i h0; subst h0; exact hc
      · exact hc
    · intro g' cap' w' k1 k2 k3 _
      exact h _ w' (by unfold OwnV; rw [List.length_append, hl]; exact k1) k2

/-- the rows of a list of the call's own, with the rows of another one behind them, in a region that draws -/
theorem step_app_rows {ops : Array Oper} {o : Oper} {a : Act} {K : Act → World → Prop} {Q : Exit → Act → World → Prop} {Ex : Prop} {w : World} (hgd : o.guard = none) (s x : Operand)
    (ho : o.op = Op.call { callee := Callee.builtin Builtin.append, args := #[s, x], argTypes := #[23, 23] }) (B g cap : Nat) (xs ys : List (List Int)) (hs : a.eval s = .slice (some ⟨g, 0, none⟩) xs.length cap)
    (hown : RowsO B w (.slice (some ⟨g, 0, none⟩) xs.length cap) xs) (v : Value) (S : Nat → Prop) (hv : Rows2 S w v ys) (hS : ∀ k, S k → k < w.heap.size → k < B) (hx : a.eval x = v) (hlen : xs.length + ys.length ≤ 1000000) (hbase : B ≤ w.heap.size)
    (h : ∀ v' w', Rows2 Any w' v' (xs ++ ys) → w.grownBy w' (some g) → K (a.put o.dst v') w') :
    if Region.wanted o (yielded ops a.tmps) = true then Oper.wp Tryz.prog o a w K Q else Ex := by
  obtain ⟨sa, c, rfl, _, _⟩ := Sl.shape hv
  obtain ⟨vs2, hvl2, hvs2⟩ := Sl.vals hv
  have hnil : sa = none → c = 0 := by
    obtain ⟨a', cap', he, hl', _⟩ := hv
    cases he; exact hl'.2.2
  obtain ⟨vs, G, hvl, hO, hG, _, hE⟩ := hown
  have hgB := (hO.lt g rfl).1
  rw [← hvl] at hs hO
  refine step_app_many 23 22 (.slice none 0 0) 24 und_rows Tryz.infoRow rfl (by decide) hgd s x ho B g cap vs hs hO sa ys.length c vs2 hx hvl2 hnil (fun j hj => ?_) (fun u hu => ?_) (by omega) hbase (fun v' w' k1 k2 => ?_)
  · obtain ⟨⟨b, off, h1, h2⟩, _⟩ := hvs2 j hj
    exact ⟨b, off, h1, h2⟩
  · obtain ⟨j, hj, rfl⟩ := List.getElem_of_mem hu
    rw [← gt_eq vs2 j hj]
    exact rdInts.one (hvs2 j (by omega)).2
  · refine h v' w' ?_ k2
    have hrow : ∀ i, i < (xs ++ ys).length → Ints Any w' (gt (vs ++ vs2) i) (gt (xs ++ ys) i) := fun i hi => by
      by_cases hlt : i < xs.length
      · rw [gt_append_left _ _ _ (by omega), gt_append_left _ _ _ hlt]
        exact Ints.mono (hE i hlt).ints (fun k hk hkl => ⟨trivial, Nat.lt_of_lt_of_le hkl k2.size, k2.block k hkl (fun e => (hG i k hlt hk).2.1 (by cases e; rfl))⟩)
      · have hi2 : i - xs.length < ys.length := by simp only [List.length_append] at hi; omega
        have e1 : gt (vs ++ vs2) i = gt vs2 (i - xs.length) := by
          rw [← hvl]
          simp only [gt, List.getD_eq_getElem?_getD]
          rw [List.getElem?_append_right (by omega)]
        have e2 : gt (xs ++ ys) i = gt ys (i - xs.length) := by
          simp only [gt, List.getD_eq_getElem?_getD]
          rw [List.getElem?_append_right (by omega)]
        rw [e1, e2]
        exact Ints.mono (hvs2 _ hi2).2 (fun k hk hkl => ⟨trivial, Nat.lt_of_lt_of_le hkl k2.size, k2.block k hkl (fun e => by cases e; have := hS g hk hkl; omega)⟩)
    have hll : (vs ++ vs2).length = (xs ++ ys).length := by simp [hvl, hvl2]
    rcases k1.form with ⟨rfl, h0⟩ | ⟨g', cp, rfl, hcp, _, hgs⟩
    · have h9 : xs ++ ys = [] := List.eq_nil_of_length_eq_zero (by rw [← hll, h0]; rfl)
      rw [h9]
      exact ⟨none, 0, rfl, ⟨by simp, by simp, fun _ => rfl⟩, fun i hi => by simp at hi⟩
    · refine ⟨_, cp, by rw [hll], ⟨by rw [← hll]; exact hcp, by rw [List.length_append]; omega, fun h => by cases h⟩, fun i hi => ⟨g', 0, gt (vs ++ vs2) i, rfl, trivial, hgs, ?_, hrow i hi⟩⟩
      rw [Nat.zero_add]; exact k1.cell i (by rw [hll]; exact hi)

set_option maxHeartbeats 1000000 in
theorem l01Own2N_ok (w : World) (v : Value) (L : List (List Int)) (S : Nat → Prop) (hv : Rows2 S w v L) (hL : ∀ x ∈ L, x.length ≤ 1000000) (hlen : L.length ≤ 1000000) :
    Calls Tryz.prog 74 #[v] w (Ret w fun w' r => RowsO w.heap.size w' r L ∧ ∃ g cap, r = .slice (some ⟨g, 0, none⟩) L.length cap) := by
  obtain ⟨a, cap, rfl, _, _⟩ := Sl.shape hv
  have HL := Lib.hid hL; clear hL
  go_enter Tryz.func74, Tryz.ntmps74
  go_wp2
  go_loopw [3, 4] (fun ov iv wr => ∃ (i : Nat) (v4 : Value), v4 = ov ∧ iv = .int .i64 i ∧ i ≤ L.length ∧ Ext w wr ∧ RowsO w.heap.size wr v4 (L.take i) ∧ Hid (∃ g cap, v4 = .slice (some ⟨g, 0, none⟩) i cap)) (fun _ iv _ => L.length - (intOf iv).toNat)
  case atStart => exact ⟨0, _, rfl, rfl, by omega, World.grownBy_alloc _ _ _, ⟨[], fun _ _ => False, rfl, World.ownsRow_lit w #[] 0 (Nat.le_refl _) (by decide) rfl, by simp, by simp, by simp⟩, Lib.hid ⟨_, _, rfl⟩⟩
  case round =>
    obtain ⟨i, v4, rfl, rfl, hi, hg, hO, hN⟩ := hrel
    by_cases hlt : i < L.length
    · have hlt' : (i : Int) < L.length := by omega
      obtain ⟨b, off, a2, cap2, rfl, _, _, hc, hr⟩ := Rows2.at (Rows2.ext hv hg) i hlt
      have hstep := take_succ_gt L i hlt
      have hll := HL.out _ (gtMem hlt)
      have htl : (L.take i).length ≤ 1000000 := by rw [List.length_take]; omega
      have HST := Lib.hid (And.intro hstep hll); clear hstep hll
      go_wp2_with fail
      refine Calls.mono (l01Own_ok wr _ (gt L i) _ hr (by have := HST.out.2; omega)) ?_
      rintro eC wC ⟨vC, rfl, hgC, hOC⟩
      have hYO : OwnIn (From wr.heap.size) wC vC (gt L i) := OwnIn.of hOC (by have := HST.out.2; omega) (fun j h1 _ => h1)
      obtain ⟨ay, capy, hvy, _, _⟩ := hYO.ints.shape
      subst hvy
      clear hc
      go_wp2_with (first | (at_builtin; refine wp_app_row rfl _ _ rfl w.heap.size wr wC v4 _ (L.take i) (gt L i) rfl hO hgC hYO rfl rfl htl hg.size ?_; intro v5 w5 hO5 hg5 hg6; have hgw5 := hO.extw hg (Nat.le_refl _) hg5) | fail)
      have hN5 : Hid (∃ g cap, v5 = .slice (some ⟨g, 0, none⟩) (i + 1) cap) := by
        obtain ⟨vs, G, hvl, hOv, _⟩ := hO5
        have hvl2 : vs.length = i + 1 := by rw [hvl, List.length_append, List.length_take]; simp; omega
        rcases hOv.form with ⟨_, h2⟩ | ⟨g, cp, h1, _⟩
        · rw [h2] at hvl2; simp at hvl2
        · exact Lib.hid ⟨g, cp, by rw [h1, hvl2]⟩
      go_roundw
      case rel => exact ⟨i + 1, v5, rfl, by go_num, by omega, hgw5, by rw [HST.out.1]; exact hO5, hN5⟩
      case measure => simp [intOf]; omega
    · have hie : i = L.length := by omega
      subst hie
      rw [List.take_length] at hO
      obtain ⟨g, cp, hvg⟩ := hN.out
      subst hvg
      clear hN
      go_wp2
      go_ret
      exact ⟨_, rfl, hg, hO, _, _, rfl⟩

end Go.Proofs.YtchbegeklckgnaaGreat
