/-
  The reference's power: spec.l08Repeat.
-/
import Derived.Test.YtdfjgpioaomceaaSInv
import Derived.Test.YtdfjgpioaomceaaIConj
namespace Go.Proofs.Ytdfjgpioaomceaa
open Go.RowKit

/-- square and multiply -/
def rRepF (m : List Int → List Int → List Int) : Nat → List Int → List Int → Nat → List Int
  | 0, out, _, _ => out
  | f + 1, out, base, k => if k = 0 then out else rRepF m f (if k % 2 = 1 then m out base else out) (m base base) (k / 2)

def rRep (m : List Int → List Int → List Int) (out base : List Int) (k : Nat) : List Int := rRepF m k out base k

theorem rRepF_eq (m : List Int → List Int → List Int) : ∀ (f g : Nat) (out base : List Int) (k : Nat), k ≤ f → k ≤ g → rRepF m f out base k = rRepF m g out base k := by
  intro f
  induction f with
  | zero =>
    intro g out base k hf hg
    have : k = 0 := by omega
    subst this
    cases g <;> simp [rRepF]
  | succ f ih =>
    intro g out base k hf hg
    cases g with
    | zero =>
      have : k = 0 := by omega
      subst this; simp [rRepF]
    | succ g =>
      simp only [rRepF]
      split
      · rfl
      · exact ih g _ _ _ (by omega) (by omega)

theorem rRep_zero (m : List Int → List Int → List Int) (out base : List Int) : rRep m out base 0 = out := rfl
theorem rRep_step (m : List Int → List Int → List Int) (out base : List Int) (k : Nat) (hk : 0 < k) : rRep m out base k = rRep m (if k % 2 = 1 then m out base else out) (m base base) (k / 2) := by
  unfold rRep
  obtain ⟨j, rfl⟩ : ∃ j, k = j + 1 := ⟨k - 1, by omega⟩
  show (if j + 1 = 0 then out else rRepF m j _ _ ((j + 1) / 2)) = _
  rw [if_neg (by omega)]
  exact rRepF_eq m _ _ _ _ _ (by omega) (Nat.le_refl _)

set_option maxHeartbeats 2000000 in
theorem l08Repeat_ok (P : Pr) (hP : Valid P) (w : World) (pv x : Value) (i f : Nat) (hi : i + f = P.orders.length) (X : List Int) (k : Int) (Sp Sx : Nat → Prop) (hp : PresV Sp w pv P) (hx : Ints Sx w x X) (hX : Vec P.orders X) (hk0 : 0 ≤ k) (hk : k ≤ 1000000000) :
    Calls Try.prog 89 #[pv, .int .i64 i, x, .int .i64 k] w (Ret w fun w' v => Own w.heap.size w' v (rRep (rAt P f i) (zeros P.orders.length) X k.toNat)) := by
  obtain ⟨vo, vp, vc, rfl, h3⟩ := hp
  have hn6 := hP.n6
  have hBx := PresP.box h3 30
  have hg0 : Ext w (w.alloc (.cells #[vo, vp, vc] 30)) := World.grownBy_alloc _ _ _
  have hx0 := hx.ext hg0
  have hlX : X.length ≤ P.orders.length ∧ P.orders.length ≤ X.length := by rw [hX.1]; omega
  have hs0 : (w.alloc (.cells #[vo, vp, vc] 30)).heap.size = w.heap.size + 1 := by simp
  have HS := Lib.hid hs0; clear hs0 hx
  go_enter Try.func89, Try.ntmps89
  obtain ⟨ao, capo, hco, hoi⟩ := hBx.ordAt
  go_wp2_with (at_make; refine wp_make_ints rfl _ _ rfl (w.heap.size + 1) P.orders.length (w.heap.size + 1) (by simp) _ rfl rfl rfl (by omega) (by simp) ?_; intro w1 ho1 hg1 hlt1)
  clear hco hoi
  have hBx1 := hBx.ext hg1
  have hx1 := hx0.ext hg1
  have hgw1 : Ext w w1 := grown_trans hg0 hg1
  obtain ⟨ax, capx, rfl, _, _⟩ := hx1.shape
  clear hBx hx0 hg1 hg0
  generalize hres : rRep (rAt P f i) (zeros P.orders.length) X k.toNat = res at *
  have HRes := Lib.hid hres; clear hres
  have hs1 : w.heap.size ≤ w1.heap.size := hgw1.size
  go_loopw [3, 9, 10] (fun kv ov bv wr => ∃ (m : Nat) (O B : List Int), kv = .int .i64 m ∧ m ≤ k.toNat ∧ Ext w1 wr ∧ Own w.heap.size wr ov O ∧ Ints Any wr bv B ∧ Vec P.orders O ∧ Vec P.orders B ∧ rRep (rAt P f i) O B m = res) (fun kv _ _ _ => (intOf kv).toNat)
  case atStart => exact ⟨k.toNat, _, X, by congr 1; omega, Nat.le_refl _, Ext.refl _, ho1.weak (by omega), Ints.sub hx1 (fun _ _ _ => trivial), zeros_vec hP, hX, HRes.out⟩
  case round =>
    obtain ⟨m, O, B, rfl, hm, hg, hO, hB, hvO, hvB, hr⟩ := hrel
    have HVO := Lib.hid hvO; have HVB := Lib.hid hvB; have HR := Lib.hid hr; clear hr
    obtain ⟨vo9, vp9, vc9, _, _, hc0, hc1, hc2, h39⟩ := (hBx1.ext hg).at
    obtain ⟨ab, capb, rfl, _, _⟩ := hB.shape
    have hOi := hO.ints (by rw [hvO.1]; omega)
    have hlB := hvB.1
    clear hvO hvB
    have HLB := Lib.hid hlB; clear hlB
    by_cases hm0 : 0 < m
    · by_cases hodd : m % 2 = 1
      · have hb : (((m : Int).tmod 2) == 1) = true := by
          rw [Int.tmod_eq_emod_of_nonneg (by omega)]; simp; omega
        have hb2 : (((m : Int) % 2) == 1) = true := by simp; omega
        have HOD := Lib.hid hodd; clear hodd
        go_wp2_with fail
        refine Calls.mono (l08At_ok P hP f wr _ _ _ i O B Any Any Any hi ⟨_, _, _, rfl, h39⟩ hOi hB HVO.out HVB.out) ?_
        rintro e2 w2 ⟨v2, rfl, hg2, hO2⟩
        have hc02 := hg2.cell hc0 (by simp)
        have hc12 := hg2.cell hc1 (by simp)
        have hc22 := hg2.cell hc2 (by simp)
        go_wp2_with fail
        refine Calls.mono (l08At_ok P hP f w2 _ _ _ i B B Any Any Any hi ⟨_, _, _, rfl, h39.ext hg2⟩ (hB.ext hg2) (hB.ext hg2) HVB.out HVB.out) ?_
        rintro e3 w3 ⟨v3, rfl, hg3, hO3⟩
        have hvb3 := rAt_vec hP f i B B hi HVB.out HVB.out
        have hB3 := hO3.ints (by rw [hvb3.1]; omega)
        have HV3 := Lib.hid hvb3; clear hvb3 hb hb2
        have hO2' := (hO2.ext0 hg3).weak (base' := w.heap.size) (by have := hg.size; omega)
        go_wp2
        go_roundw
        case rel => exact ⟨m / 2, _, _, by first | rfl | (congr 1; omega) | congr 1, by omega, grown_trans (grown_trans hg hg2) hg3, hO2', hB3, rAt_vec hP f i O B hi HVO.out HVB.out, HV3.out, by rw [← HR.out, rRep_step _ O B m hm0, if_pos HOD.out]⟩
        case measure => simp [intOf]; omega
      · have hb : (((m : Int).tmod 2) == 1) = false := by
          rw [Int.tmod_eq_emod_of_nonneg (by omega)]; simp; omega
        have hb2 : (((m : Int) % 2) == 1) = false := by simp; omega
        have HOD := Lib.hid hodd; clear hodd
        go_wp2_with fail
        refine Calls.mono (l08At_ok P hP f wr _ _ _ i B B Any Any Any hi ⟨_, _, _, rfl, h39⟩ hB hB HVB.out HVB.out) ?_
        rintro e3 w3 ⟨v3, rfl, hg3, hO3⟩
        have hvb3 := rAt_vec hP f i B B hi HVB.out HVB.out
        have hB3 := hO3.ints (by rw [hvb3.1]; omega)
        have HV3 := Lib.hid hvb3; clear hvb3 hb hb2
        have hO2' := hO.ext0 hg3
        go_wp2
        go_roundw
        case rel => exact ⟨m / 2, _, _, by first | rfl | (congr 1; omega) | congr 1, by omega, grown_trans hg hg3, hO2', hB3, HVO.out, HV3.out, by rw [← HR.out, rRep_step _ O B m hm0, if_neg HOD.out]⟩
        case measure => simp [intOf]; omega
    · have hm1 : m = 0 := by omega
      subst hm1
      have HO : Hid (Own w.heap.size wr u9 res) := by rw [← HR.out]; exact hO
      go_wp2
      go_ret
      exact ⟨_, rfl, grown_trans hgw1 hg, by show Own _ _ _ _; rw [HRes.out]; exact HO.out⟩

end Go.Proofs.Ytdfjgpioaomceaa
