/-
  impl.conjugates, impl.conjugateSubgroup.
-/
import Derived.Test.YtigbpdaomgagiaaGreatK6
namespace Go.Proofs.YtigbpdaomgagiaaGreat
open Go.RowKit

def conjL (P : Pr) (L : List (List Int)) (X : List Int) : List (List Int) := L.map (fun y => rConj P y X)

set_option maxHeartbeats 1000000 in
theorem conjugates_ok (P : Pr) (G : Grp P) (w : World) (p lv xv : Value) (L : List (List Int)) (X : List Int) (Sp Sr Sx : Nat → Prop) (hp : PresP Sp w p P) (hl : Rows2 Sr w lv L) (hL : ∀ y ∈ L, Vec P.orders y) (hlen : L.length ≤ 10000) (hx : Ints Sx w xv X) (hX : Vec P.orders X) :
    Calls Tryz.prog 201 #[p, lv, xv] w (Ret w fun w' v => RowsO w.heap.size w' v (conjL P L X)) := by
  have hP := G.v
  have hn6 := hP.n6
  obtain ⟨pb, po, rfl⟩ := hp.shape
  obtain ⟨al, capl, rfl, _, _⟩ := Sl.shape hl
  obtain ⟨ax, capx, rfl, _, _⟩ := hx.shape
  have HL := Lib.hid (And.intro hL hX); clear hL hX
  have hcl : (conjL P L X).length = L.length := by unfold conjL; rw [List.length_map]
  have HCL := Lib.hid hcl; clear hcl
  go_enter Tryz.func201, Tryz.ntmps201
  go_wp2
  go_loopw [7, 12] (fun ov iv wr => ∃ (k : Nat) (v4 : Value), v4 = ov ∧ iv = .int .i64 k ∧ k ≤ L.length ∧ Ext w wr ∧ RowsO w.heap.size wr v4 ((conjL P L X).take k)) (fun _ iv _ => L.length - (intOf iv).toNat)
  case atStart => exact ⟨0, _, rfl, rfl, by omega, Ext.refl _, SlO.nil _ _ _ _⟩
  case round =>
    obtain ⟨k, v4, rfl, rfl, hk, hg, hO⟩ := hrel
    by_cases hlt : k < L.length
    · have hlt' : (k : Int) < L.length := by omega
      obtain ⟨b, off, a2, cap2, rfl, _, _, hc, hi⟩ := Rows2.at (Rows2.ext hl hg) k hlt
      have hyV := HL.out.1 _ (gtMem hlt)
      have hstep : (conjL P L X).take (k + 1) = (conjL P L X).take k ++ [rConj P (gt L k) X] := by
        rw [take_succ_gt _ k (by rw [HCL.out]; exact hlt)]
        unfold conjL
        rw [gt_map _ _ _ hlt]
      have htl : ((conjL P L X).take k).length ≤ 1000000 := by rw [List.length_take]; have := HCL.out; omega
      have HS := Lib.hid (And.intro hstep hyV); clear hstep hyV
      go_wp2_with fail
      refine Calls.mono (conjugate_ok P hP wr _ _ _ (gt L k) X Sp Sr Sx (hp.ext hg) hi (hx.ext hg) HS.out.2 HL.out.2) ?_
      rintro eC wC ⟨vC, rfl, hgC, hOC⟩
      rw [G.iConj_eq HS.out.2 HL.out.2] at hOC
      have hcV := G.conjV HS.out.2 HL.out.2
      have hYO : OwnIn (From wr.heap.size) wC vC (rConj P (gt L k) X) := OwnIn.of hOC (by rw [hcV.1]; omega) (fun j h1 _ => h1)
      obtain ⟨ay, capy, hvy, _, _⟩ := hYO.ints.shape
      subst hvy
      clear hc hcV
      go_wp2_with (first | (at_builtin; refine wp_app_row rfl _ _ rfl w.heap.size wr wC v4 _ ((conjL P L X).take k) (rConj P (gt L k) X) rfl hO hgC hYO rfl rfl htl hg.size ?_; intro v5 w5 hO5 hg5 hg6; have hgw5 := hO.extw hg (Nat.le_refl _) hg5) | fail)
      go_roundw
      case rel => exact ⟨k + 1, v5, rfl, by go_num, by omega, hgw5, by rw [HS.out.1]; exact hO5⟩
      case measure => simp [intOf]; omega
    · have hke : k = L.length := by omega
      subst hke
      rw [List.take_of_length_le (by rw [HCL.out]; exact Nat.le_refl _)] at hO
      obtain ⟨az, capz, hvz, _, _⟩ := SlD.shape (hO.toD (by rw [HCL.out]; omega))
      subst hvz
      go_wp2
      go_ret
      exact ⟨_, rfl, hg, hO⟩

set_option maxHeartbeats 400000 in
theorem conjugateSubgroup_ok (P : Pr) (G : Grp P) (w : World) (p lv xv : Value) (L : List (List Int)) (X : List Int) (Sp Sr Sx : Nat → Prop) (hp : PresP Sp w p P) (hl : Rows2 Sr w lv L) (hL : ∀ y ∈ L, Vec P.orders y) (hlen : L.length ≤ 10000) (hx : Ints Sx w xv X) (hX : Vec P.orders X) :
    Calls Tryz.prog 148 #[p, lv, xv] w (Ret w fun w' v => RowsO w.heap.size w' v (cseq P (genP P (fun z => z ∈ conjL P L X)))) := by
  have hcl : (conjL P L X).length = L.length := by unfold conjL; rw [List.length_map]
  have hcon := conjugates_ok P G w p lv xv L X Sp Sr Sx hp hl hL hlen hx hX
  obtain ⟨pb, po, rfl⟩ := hp.shape
  obtain ⟨al, capl, rfl, _, _⟩ := Sl.shape hl
  obtain ⟨ax, capx, rfl, _, _⟩ := hx.shape
  have hCV : ∀ z ∈ conjL P L X, Vec P.orders z := fun z hz => by
    unfold conjL at hz
    obtain ⟨y, hy, rfl⟩ := List.mem_map.1 hz
    exact G.conjV (hL y hy) hX
  have HC := Lib.hid (And.intro hCV hcl); clear hCV hcl
  go_enter Tryz.func148, Tryz.ntmps148
  go_wp2_with fail
  refine Calls.mono hcon ?_
  rintro e1 w1 ⟨v1, rfl, hg1, hO⟩
  clear hcon
  have hR := RowsD.rows (hO.toD (by rw [HC.out.2]; omega))
  obtain ⟨a1, cap1, hv1, _, _⟩ := Sl.shape hR
  subst hv1
  go_wp2_with fail
  refine Calls.mono (generated_ok P G w1 _ _ (conjL P L X) Sp _ (hp.ext hg1) hR HC.out.1 (by rw [HC.out.2]; omega)) ?_
  rintro e2 w2 ⟨v2, rfl, hg2, hO2⟩
  go_wp2
  go_ret
  exact ⟨_, rfl, grown_trans hg1 hg2, hO2.weak hg1.size⟩

end Go.Proofs.YtigbpdaomgagiaaGreat
