/-
  Orders of elements and residues: impl.orderOfElement, impl.residue; the reference's power: spec.l10Pow.
-/
import Derived.Test.YtljdneobfbimiaaSSiftLaw
import Derived.Test.YtljdneobfbimiaaK5
import Derived.Test.YtljdneobfbimiaaSResid
namespace Go.Proofs.Ytljdneobfbimiaa
open Go.RowKit

theorem isZero_true {l : List Int} : isZeroB l = true ↔ ∀ k, k < l.length → gt l k = 0 := by
  unfold isZeroB allB
  simp

set_option maxRecDepth 100000 in
set_option maxHeartbeats 1000000 in
theorem orderOfElement_ok (P : Pr) (G : Grp P) (w : World) (p x : Value) (X : List Int) (Sp Sx : Nat → Prop) (hp : PresP Sp w p P) (hx : Ints Sx w x X) (hX : Vec P.orders X) :
    Calls Try.prog 45 #[p, x] w (Ret w fun _ v => ∃ m : Int, v = .int .i64 m ∧ 1 ≤ m ∧ m ≤ 729 ∧ pw P X m.toNat = zeros P.orders.length) := by
  have hP := G.v
  have hn6 := hP.n6
  obtain ⟨pb, po, rfl⟩ := hp.shape
  obtain ⟨ao, capo, hco0, hoi⟩ := hp.ordAt
  have HCO := Lib.hid hco0; clear hco0
  have h729 := hP.le729
  have hpre : ∀ d, d ≤ P.orders.length → prodTo P.orders d ≤ 729 := fun d hd => by have := hP.pre d hd; omega
  have HPRE := Lib.hid hpre; clear hpre h729
  go_enter Try.func45, Try.ntmps45
  go_wp2
  go_loopw [5, 6, 7] (fun kv dv nv wr => ∃ (d : Nat) (m : Int), dv = .int .i64 d ∧ kv = .int .i64 m ∧ d ≤ P.orders.length ∧ 1 ≤ m ∧ m ≤ prodTo P.orders d ∧ Ext w wr ∧ Ints Any wr nv (pw P X m.toNat) ∧ T P d (pw P X m.toNat)) (fun _ dv _ _ => P.orders.length - (intOf dv).toNat)
  case atStart =>
    have e : pw P X (1 : Int).toNat = X := G.pw_one hX
    exact ⟨0, 1, rfl, rfl, by omega, by omega, by simp [prodTo], Ext.refl _, by rw [e]; exact Ints.sub hx (fun _ _ _ => trivial), by rw [e]; exact T_zero.2 hX⟩
  case round =>
    obtain ⟨d, m, rfl, rfl, hd, hm1, hm2, hg, hN, hT⟩ := hrel
    obtain ⟨Y, hY⟩ : ∃ Y, Y = pw P X m.toNat := ⟨_, rfl⟩
    rw [← hY] at hN hT
    have HY := Lib.hid hY; clear hY
    have hm3 : m ≤ 729 := by have := HPRE.out d hd; omega
    have hNl : Y.length ≤ P.orders.length ∧ P.orders.length ≤ Y.length := by rw [hT.1.1]; omega
    obtain ⟨an, capn, rfl, _, _⟩ := hN.shape
    have HT := Lib.hid (And.intro hT hm2); clear hT hm2
    cases hz : isZeroB Y with
    | true =>
      have h0 : pw P X m.toNat = zeros P.orders.length := HY.out.symm.trans (Vec.ext HT.out.1.1 (zeros_vec hP) (fun k hk => by
        rw [isZero_true.1 hz k (by omega)]; exact (gt_replicate _ _).symm))
      have H0 := Lib.hid h0; clear h0
      go_wp2_with (go_at_call 62; refine (isZero_ok _ _ wr Any hN).mono ?_; rintro e1 w1 ⟨rfl, rfl⟩)
      go_ret
      exact ⟨_, rfl, hg, m, rfl, hm1, hm3, H0.out⟩
    | false =>
      have hdn : d < P.orders.length := by
        rcases Nat.lt_or_ge d P.orders.length with h | h
        · exact h
        · exfalso
          have : isZeroB Y = true := isZero_true.2 (fun k hk => HT.out.1.2 k (by omega))
          rw [hz] at this; cases this
      obtain ⟨b, off, hab, _, _, hc⟩ := Ints.at hN d (by omega)
      cases hab
      have hdl : (d : Int) < Y.length := by omega
      by_cases hx0 : gt Y d = 0
      · have hb : (gt Y d != 0) = false := by simp [hx0]
        have hT2 := HT.out.1.up hx0
        have hm4 : m ≤ prodTo P.orders (d + 1) := by
          have h1 := HT.out.2
          have h2 := hP.ord7 d hdn
          have h3 : prodTo P.orders d * 1 ≤ prodTo P.orders d * gt P.orders d := Int.mul_le_mul_of_nonneg_left (by omega) (by omega)
          simp only [prodTo]; omega
        have HT2 := Lib.hid (And.intro hT2 hm4); clear hT2 hm4
        clear hx0
        go_wp2_with (go_at_call 62; refine (isZero_ok _ _ wr Any hN).mono ?_; rintro e1 w1 ⟨rfl, rfl⟩)
        go_roundw
        case rel => exact ⟨d + 1, m, by go_num, rfl, by omega, hm1, HT2.out.2, hg, by rw [← HY.out]; exact hN, by rw [← HY.out]; exact HT2.out.1⟩
        case measure => simp [intOf]; omega
      · have hb : (gt Y d != 0) = true := by simp [hx0]
        have ho := hP.ord7 d hdn
        obtain ⟨b2, off2, hab2, _, _, hc2⟩ := Ints.at (hoi.ext hg) d hdn
        cases hab2
        have hco := hg.cell HCO.out (by simp)
        have hdo : (d : Int) < P.orders.length := by omega
        have hpw := G.pw_order hdn HT.out.1
        have e1 : pw P Y (gt P.orders d).toNat = pw P X (m * gt P.orders d).toNat := by
          rw [HY.out, ← G.pw_mul hX]
          congr 1
          have : ((m.toNat * (gt P.orders d).toNat : Nat) : Int) = m * gt P.orders d := by
            rw [Int.natCast_mul, show ((m.toNat : Nat) : Int) = m by omega, show (((gt P.orders d).toNat : Nat) : Int) = gt P.orders d by omega]
          omega
        rw [e1] at hpw
        have e2 : iPow P Y (gt P.orders d) = pw P X (m * gt P.orders d).toNat := by rw [G.iPow_eq HT.out.1.1]; exact e1
        have hm4 : m * gt P.orders d ≤ prodTo P.orders (d + 1) := Int.mul_le_mul_of_nonneg_right HT.out.2 (by omega)
        have hm5 : prodTo P.orders (d + 1) ≤ 729 := HPRE.out (d + 1) (by omega)
        have hm6 : 1 ≤ m * gt P.orders d := by
          have : 1 * 1 ≤ m * gt P.orders d := Int.mul_le_mul hm1 (by omega) (by omega) (by omega)
          omega
        have hwm : IntKind.i64.wrap (m * gt P.orders d) = m * gt P.orders d := IntWalk.i64_in _ (by omega)
        have HE := Lib.hid (And.intro e2 (And.intro hpw hm4)); clear e1 e2 hpw hm4 hx0
        go_wp2_with (first | (go_at_call 62; refine (isZero_ok _ _ wr Any hN).mono ?_; rintro e1 w1 ⟨rfl, rfl⟩) | fail)
        refine Calls.mono (power_ok P hP wr _ _ _ (gt P.orders d) _ _ (hp.ext hg) hN HT.out.1.1 (by omega)) ?_
        rintro eA wA ⟨vA, rfl, hgA, hOA⟩
        rw [HE.out.1] at hOA
        have hcoA := hgA.cell hco (by simp)
        have hc2A := hgA.cell hc2 (by simp)
        have hNA : Ints Any wA vA (pw P X (m * gt P.orders d).toNat) := hOA.ints (by rw [HE.out.2.1.1.1]; omega)
        clear hco hc2 hc
        go_wp2
        go_roundw
        case rel => exact ⟨d + 1, m * gt P.orders d, by go_num, rfl, by omega, hm6, HE.out.2.2, grown_trans hg hgA, hNA, HE.out.2.1⟩
        case measure => simp [intOf]; omega

end Go.Proofs.Ytljdneobfbimiaa
