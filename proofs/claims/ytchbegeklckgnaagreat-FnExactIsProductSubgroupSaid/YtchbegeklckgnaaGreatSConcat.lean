/-
  slices.Concat at rows: the rows of all lists, in order.
-/
import Derived.Test.YtchbegeklckgnaaGreatSGrowR
namespace Go.Proofs.YtchbegeklckgnaaGreat
open Go.RowKit

/-- the rows of the first k lists -/
def flatTo (us : List (List (List Int))) : Nat → List (List Int)
  | 0 => []
  | k + 1 => flatTo us k ++ gt us k

theorem flatTo_len (us : List (List (List Int))) (b : Nat) (h : ∀ u ∈ us, u.length ≤ b) (k : Nat) (hk : k ≤ us.length) : (flatTo us k).length ≤ b * k := by
  induction k with
  | zero => simp [flatTo]
  | succ k ih =>
    have h1 := ih (by omega)
    have h2 := h _ (gt_mem (l := us) (i := k) (by omega))
    simp only [flatTo, List.length_append, Nat.mul_succ]; omega

set_option maxRecDepth 100000 in
set_option maxHeartbeats 4000000 in
theorem concatRows_ok (w : World) (lv : Value) (us : List (List (List Int))) (Sr : Nat → Prop) (hl : Rows3 Sr w lv us) (hb : ∀ u ∈ us, u.length ≤ 1000) (hn : us.length ≤ 100) :
    Calls Tryz.prog 76 #[lv] w (Ret w fun w' v => Rows2 Any w' v (flatTo us us.length)) := by
  obtain ⟨al, capl, rfl, _, _⟩ := Sl.shape hl
  have hfl : ∀ k, k ≤ us.length → (flatTo us k).length ≤ 100000 := fun k hk => by have := flatTo_len us 1000 hb k hk; omega
  have HF := Lib.hid (And.intro hfl hb); clear hfl hb
  go_enter Tryz.func76, Tryz.ntmps76
  go_wp2
  go_loopw [3, 11] (fun sv iv wr => ∃ k : Nat, sv = .int .i64 ((flatTo us k).length : Nat) ∧ iv = .int .i64 k ∧ k ≤ us.length ∧ w = wr) (fun _ iv _ => us.length - (intOf iv).toNat)
  case atStart => exact ⟨0, rfl, rfl, by omega, rfl⟩
  case round =>
    obtain ⟨k, rfl, rfl, hk, rfl⟩ := hrel
    have hfk := HF.out.1 k hk
    by_cases hlt : k < us.length
    · have hlt' : (k : Int) < us.length := by omega
      obtain ⟨b, off, a2, cap2, rfl, _, _, hc, hr⟩ := Rows3.at hl k hlt
      have hfk2 := HF.out.1 (k + 1) hlt
      have hst : (flatTo us (k + 1)).length = (flatTo us k).length + (gt us k).length := by simp only [flatTo, List.length_append]
      obtain ⟨m, hm⟩ : ∃ m, m = (flatTo us k).length := ⟨_, rfl⟩
      obtain ⟨m2, hm2⟩ : ∃ m2, m2 = (gt us k).length := ⟨_, rfl⟩
      rw [← hm] at hfk hst ⊢
      rw [← hm2] at hc hr hst
      have hmm : m + m2 ≤ 100000 := by omega
      have hw : IntKind.i64.wrap ((m : Int) + (m2 : Int)) = ((m + m2 : Nat) : Int) := by rw [IntWalk.i64_in _ (by omega)]; omega
      have hnn : ¬ ((m + m2 : Nat) : Int) < 0 := by omega
      have HS := Lib.hid (And.intro hst (And.intro hm hm2)); clear hst hm hm2 hfk2
      go_wp2
      go_roundw
      case rel => exact ⟨k + 1, by rw [HS.out.1, Int.natCast_add], by go_num, by omega, trivial⟩
      case measure => simp [intOf]; omega
    · have hke : k = us.length := by omega
      subst hke
      obtain ⟨m, hm⟩ : ∃ m, m = (flatTo us us.length).length := ⟨_, rfl⟩
      rw [← hm] at hfk ⊢
      clear hm
      go_wp2_with fail
      refine Calls.mono (growRows_ok m (by omega) w) ?_
      rintro e1 w1 ⟨v1, rfl, hg1, hO1⟩
      go_wp2
      go_loopw [6, 27] (fun ov iv wr => ∃ (k : Nat) (v4 : Value) (vs : List Value), v4 = ov ∧ iv = .int .i64 k ∧ k ≤ us.length ∧ Ext w wr ∧ OwnV w.heap.size 22 wr v4 vs ∧ Hid (vs.length = (flatTo us k).length ∧ ∀ i, i < vs.length → Ints Any w (gt vs i) (gt (flatTo us k) i))) (fun _ iv _ => us.length - (intOf iv).toNat)
      case atStart => exact ⟨0, v1, [], rfl, rfl, by omega, hg1, hO1, Lib.hid ⟨rfl, fun i hi => by simp at hi⟩⟩
      case round =>
        clear hO1
        obtain ⟨k, v4, vs, rfl, rfl, hk, hg, hO, hV⟩ := hrel
        by_cases hlt : k < us.length
        · have hlt' : (k : Int) < us.length := by omega
          obtain ⟨b, off, a2, cap2, rfl, _, _, hc, hr⟩ := Rows3.at hl k hlt
          have hcr := hg.cell hc (by simp)
          obtain ⟨vs2, hvl2, hvs2⟩ := Sl.vals hr
          have hnil : a2 = none → cap2 = 0 := by
            obtain ⟨a', cap', hv, hl', _⟩ := hr
            cases hv; exact hl'.2.2
          have hlk := HF.out.2 _ (gt_mem hlt)
          have hfk := HF.out.1 k hk
          have hnews : ∀ j, j < (gt us k).length → ∃ b off, a2 = some ⟨b, off, none⟩ ∧ wr.cell? ⟨b, off + j, none⟩ = some (gt vs2 j) := fun j hj => by
            obtain ⟨⟨b, off, h1, h2⟩, _⟩ := hvs2 j hj
            exact ⟨b, off, h1, hg.cell h2 (by simp)⟩
          have hone : ∀ u, u ∈ vs2 → u.oneCell' = true := fun u hu => by
            obtain ⟨j, hj, rfl⟩ := List.getElem_of_mem hu
            rw [← gt_eq vs2 j hj]
            exact rdInts.one (hvs2 j (by omega)).2
          have hnew : Hid ((vs ++ vs2).length = (flatTo us (k + 1)).length ∧ ∀ i, i < (vs ++ vs2).length → Ints Any w (gt (vs ++ vs2) i) (gt (flatTo us (k + 1)) i)) := by
            refine Lib.hid ⟨by simp only [List.length_append, flatTo, hV.out.1, hvl2], fun i hi => ?_⟩
            simp only [flatTo]
            by_cases h : i < vs.length
            · rw [gt_append_left _ _ _ h, gt_append_left _ _ _ (by rw [← hV.out.1]; exact h)]
              exact hV.out.2 i h
            · have hi2 : i - vs.length < (gt us k).length := by simp only [List.length_append] at hi; omega
              have e1 : gt (vs ++ vs2) i = gt vs2 (i - vs.length) := by
                simp only [gt, List.getD_eq_getElem?_getD]
                rw [List.getElem?_append_right (by omega)]
              have e2 : gt (flatTo us k ++ gt us k) i = gt (gt us k) (i - vs.length) := by
                rw [hV.out.1]
                simp only [gt, List.getD_eq_getElem?_getD]
                rw [List.getElem?_append_right (by rw [← hV.out.1]; omega)]
              rw [e1, e2]
              exact Ints.sub (hvs2 _ hi2).2 (fun _ _ _ => trivial)
          have hlen : vs.length + (gt us k).length ≤ 2147483648 := by rw [hV.out.1]; omega
          have HN := Lib.hid (And.intro hnews (And.intro hone (And.intro hvl2 (And.intro hnil hlen)))); clear hnews hone hvl2 hvs2 hlen hnil hlk hfk hc
          go_wp2_with (first | (at_builtin; refine wp_app 23 22 (.slice none 0 0) 24 und_rows Tryz.infoRow rfl (by decide) rfl _ _ rfl w.heap.size v4 vs rfl hO a2 (gt us k).length cap2 vs2 rfl HN.out.2.2.1 HN.out.2.2.2.1 HN.out.1 HN.out.2.1 HN.out.2.2.2.2 hg.size ?_; intro v5 w5 hO5 hg5 _ _; have hgw5 := grown_own hg hg5 (fun j hj hlt => by have := (hO.lt j hj).1; omega)) | fail)
          clear hcr
          go_roundw
          case rel => exact ⟨k + 1, v5, _, rfl, by go_num, by omega, hgw5, hO5, hnew⟩
          case measure => simp [intOf]; omega
        · have hke : k = us.length := by omega
          subst hke
          have hR : Rows2 Any wr v4 (flatTo us us.length) := by
            have hl9 := HF.out.1 us.length (Nat.le_refl _)
            rcases hO.form with ⟨rfl, rfl⟩ | ⟨g, cp, rfl, hcp, hgB, hgs⟩
            · have h0 : flatTo us us.length = [] := List.eq_nil_of_length_eq_zero hV.out.1.symm
              rw [h0]
              exact ⟨none, 0, rfl, ⟨by simp, by simp, fun _ => rfl⟩, fun i hi => by simp at hi⟩
            · refine ⟨_, cp, by rw [hV.out.1], ⟨by rw [← hV.out.1]; exact hcp, by omega, fun h => by cases h⟩, fun i hi => ⟨g, 0, gt vs i, rfl, trivial, hgs, ?_, ?_⟩⟩
              · rw [Nat.zero_add]; exact hO.cell i (by rw [hV.out.1]; exact hi)
              · exact Ints.ext (hV.out.2 i (by rw [hV.out.1]; exact hi)) hg
          obtain ⟨az, capz, hvz, _, _⟩ := Sl.shape hR
          subst hvz
          clear hV hO
          go_wp2
          go_ret
          exact ⟨_, rfl, hg, hR⟩

end Go.Proofs.YtchbegeklckgnaaGreat
