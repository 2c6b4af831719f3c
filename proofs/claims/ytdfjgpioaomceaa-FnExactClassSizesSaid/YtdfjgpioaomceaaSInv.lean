/-
  The reference's inverse, conjugate and power: spec.l10From, l10Inv, l10Conj, l08Repeat.
-/
import Derived.Test.YtdfjgpioaomceaaSAt
import Derived.Test.YtdfjgpioaomceaaPres3
import Derived.BigRegion
namespace Go.Proofs.Ytdfjgpioaomceaa
open Go.RowKit

def rFrom (P : Pr) : Nat → Nat → List Int → List Int
  | 0, _, _ => zeros P.orders.length
  | f + 1, i, X =>
    let out := rFrom P f (i + 1) (X.set i 0)
    if gt X i = 0 then out else
      rAt P (f + 1) i (rAt P (f + 1) i out ((zeros P.orders.length).set i (gt P.orders i - gt X i))) (rFrom P f (i + 1) (gt P.powers i))

theorem rFrom_vec {P : Pr} (hP : Valid P) (f : Nat) : ∀ i X, i + f = P.orders.length → Vec P.orders X → Vec P.orders (rFrom P f i X) := by
  induction f with
  | zero => intro i X _ _; exact zeros_vec hP
  | succ f ih =>
    intro i X hi hX
    have ho := hP.ord7 i (by omega)
    have hx := hX.2 i (by omega)
    have h1 := ih (i + 1) (X.set i 0) (by omega) (hX.set i 0 ⟨by omega, fun _ => by omega⟩)
    simp only [rFrom]
    split
    · exact h1
    · exact rAt_vec hP _ _ _ _ hi (rAt_vec hP _ _ _ _ hi h1 ((zeros_vec hP).set i _ ⟨by omega, fun _ => by omega⟩)) (ih (i + 1) _ (by omega) (hP.pv i (by omega)).1)

def FromOk (P : Pr) (f : Nat) : Prop :=
  ∀ (w : World) (pv x : Value) (i : Nat) (X : List Int) (Sp Sx : Nat → Prop), i + f = P.orders.length → PresV Sp w pv P → Ints Sx w x X → Vec P.orders X →
    Calls Try.prog 70 #[pv, .int .i64 i, x] w (Ret w fun w' v => Own w.heap.size w' v (rFrom P f i X))

set_option maxHeartbeats 2000000 in
theorem l10From_zero (P : Pr) (hP : Valid P) : FromOk P 0 := by
  intro w pv x i X Sp Sx hi hp hx hX
  obtain ⟨vo, vp, vc, rfl, h3⟩ := hp
  have hn6 := hP.n6
  have hBx := PresP.box h3 30
  obtain ⟨ao, capo, hco, hoi⟩ := hBx.ordAt
  have hi3 : ((P.orders.length : Int) ≤ (i : Int)) := by omega
  go_enter Try.func70, Try.ntmps70
  go_wp2_with (at_make; refine wp_make_ints rfl _ _ rfl (w.heap.size + 1) P.orders.length (w.heap.size + 1) (by simp) _ rfl rfl rfl (by omega) (by simp) ?_; intro w1 ho1 hg1 _)
  go_ret
  exact ⟨_, rfl, grown_trans (World.grownBy_alloc _ _ _) hg1, ho1.weak (by omega)⟩

set_option maxHeartbeats 4000000 in
theorem l10From_succ (P : Pr) (hP : Valid P) (f : Nat) (ih : FromOk P f) : FromOk P (f + 1) := by
  intro w pv x i X Sp Sx hi hp hx hX
  obtain ⟨vo, vp, vc, rfl, h3⟩ := hp
  have hn6 := hP.n6
  have hBx := PresP.box h3 30
  have hg0 : Ext w (w.alloc (.cells #[vo, vp, vc] 30)) := World.grownBy_alloc _ _ _
  have hx0 := hx.ext hg0
  have hlX : X.length ≤ P.orders.length ∧ P.orders.length ≤ X.length := by rw [hX.1]; omega
  have hs0 : (w.alloc (.cells #[vo, vp, vc] 30)).heap.size = w.heap.size + 1 := by simp
  have HS := Lib.hid hs0; clear hs0 hx
  obtain ⟨ax, capx, rfl, _, _⟩ := hx0.shape
  go_enter Try.func70, Try.ntmps70
  obtain ⟨ao, capo, hco, hoi⟩ := hBx.ordAt
  go_wp2_with fail
  clear hco hoi
  generalize hw0 : w.alloc (.cells #[vo, vp, vc] 30) = w0 at *
  clear hw0
  refine Calls.mono (l01Own_ok w0 _ X Sx hx0 (by omega)) ?_
  rintro e1 w1 ⟨R, rfl, hg1, hR⟩
  obtain ⟨gr, capr, rfl, hbr, hsr⟩ := hR.form (by omega)
  have c1 := hR.cell i (by omega)
  have f1 := hR.frozen i
  obtain ⟨hR2, hg2⟩ := hR.store i 0
  have hgw : Ext w0 (w1.setCell ⟨gr, i, none⟩ (.int .i64 0)) := grown_own hg1 hg2 (fun j hj hlt => by cases hj; omega)
  obtain ⟨vo9, vp9, vc9, _, _, hc0, hc1, hc2, h39⟩ := (hBx.ext hgw).at
  have ho7 := hP.ord7 i (by omega)
  have hxi := hX.2 i (by omega)
  have hx1 : 0 ≤ gt X i := hxi.1
  have hx2 : gt X i < gt P.orders i := hxi.2
  have ho2 : 2 ≤ gt P.orders i := ho7.1
  have ho3 : gt P.orders i ≤ 7 := ho7.2
  have hX1 := hX.set i 0 ⟨by omega, fun _ => by omega⟩
  clear hxi ho7
  go_wp2_with fail
  clear c1 f1 hc0 hc1 hc2
  generalize hw2 : w1.setCell ⟨gr, i, none⟩ (.int .i64 0) = w2 at *
  clear hw2
  refine Calls.mono (ih w2 _ _ (i + 1) (X.set i 0) Any Any (by omega) ⟨_, _, _, rfl, h39⟩ (hR2.ints (by simp; omega)) hX1) ?_
  rintro e3 w3 ⟨out, rfl, hg3, hO3⟩
  have hgw3 : Ext w0 w3 := grown_trans hgw hg3
  obtain ⟨bx, ox, rfl, _, _, hcx⟩ := Ints.at (hx0.ext hgw3) i (by omega)
  by_cases hz : gt X i = 0
  · have hb : (gt X i == 0) = true := by simp [hz]
    have HZ := Lib.hid hz; clear hz
    go_wp2
    go_ret
    exact ⟨_, rfl, grown_trans hg0 hgw3, by simp only [rFrom, if_pos HZ.out]; exact hO3.weak (by have := hgw.size; have := HS.out; omega)⟩
  · have hb : (gt X i == 0) = false := by simp [hz]
    have HZ := Lib.hid hz; clear hz
    have hsz3 : w0.heap.size ≤ w3.heap.size := hgw3.size
    go_wp2_with (at_make; refine wp_make_ints rfl _ _ rfl w3.heap.size P.orders.length w3.heap.size rfl _ rfl rfl rfl (by omega) (by simp) ?_; intro w4 ho4 hg4 hlt4)
    clear hcx hb
    have hgw4 : Ext w0 w4 := grown_trans hgw3 hg4
    obtain ⟨ao4, capo4, hco, hoi⟩ := hBx.ordAt
    obtain ⟨bo, oo, rfl, _, _, hcoi⟩ := Ints.at hoi i (by omega)
    obtain ⟨bx4, ox4, hxe, _, _, hcx⟩ := Ints.at hx0 i (by omega)
    obtain ⟨rfl, rfl⟩ : bx4 = bx ∧ ox4 = ox := by cases hxe; exact ⟨rfl, rfl⟩
    clear hxe
    have c4 := ho4.cell i (by simp; omega)
    have f4 := ho4.frozen i
    obtain ⟨ho5, hst⟩ := ho4.store i (gt P.orders i - gt X i)
    have hi1 : (i : Int) < P.orders.length := by omega
    have hi2 : (i : Int) < X.length := by omega
    have hi0 : (0 : Int) ≤ i := by omega
    have s1 : IntKind.i64.wrap (gt P.orders i - gt X i) = gt P.orders i - gt X i := IntWalk.i64_in _ (by omega)
    have hkeep : Ext w0 (w4.setCell ⟨w3.heap.size, i, none⟩ (.int .i64 (gt P.orders i - gt X i))).drew :=
      grown_trans (grown_own hgw4 hst (fun j hj hlt => by cases hj; omega)) (grown_drew _ _)
    have hg36 : Ext w3 (w4.setCell ⟨w3.heap.size, i, none⟩ (.int .i64 (gt P.orders i - gt X i))).drew :=
      grown_trans (grown_own hg4 hst (fun j hj hlt => by cases hj; omega)) (grown_drew _ _)
    have ho6 : Own w3.heap.size (w4.setCell ⟨w3.heap.size, i, none⟩ (.int .i64 (gt P.orders i - gt X i))).drew (.slice (some ⟨w3.heap.size, 0, none⟩) P.orders.length P.orders.length) ((List.replicate P.orders.length 0).set i (gt P.orders i - gt X i)) := ho5
    have e1 : ∀ w', Ext w0 w' → w'.cell? ⟨w.heap.size, 0, none⟩ = some (.slice (some ⟨bo, oo, none⟩) P.orders.length capo4) := fun w' h => h.cell hco (by simp)
    have e2 : ∀ w', Ext w0 w' → w'.cell? ⟨bo, oo + i, none⟩ = some (.int .i64 (gt P.orders i)) := fun w' h => h.cell hcoi (by simp)
    have e3 : ∀ w', Ext w0 w' → w'.cell? ⟨bx4, ox4 + i, none⟩ = some (.int .i64 (gt X i)) := fun w' h => h.cell hcx (by simp)
    clear hco hcoi hcx
    go_region_held3 (fun w' => Ext w0 w') (first | exact grown_trans hgw4 (grown_drew _ _) | exact hkeep) (fail)
    clear e1 e2 e3 s1 c4 f4
    clear hst ho5
    generalize hw6 : (w4.setCell ⟨w3.heap.size, i, none⟩ (.int .i64 (gt P.orders i - gt X i))).drew = w6 at *
    clear hw6
    obtain ⟨vo6, vp6, vc6, _, _, hc0, hc1, hc2, h36⟩ := (hBx.ext hkeep).at
    obtain ⟨ap, capp, rfl, _, _⟩ := Sl.shape h36.p
    obtain ⟨bp, op, ap2, capp2, rfl, _, _, hcpi, hpi⟩ := Rows2.at h36.p i (by rw [hP.pl]; omega)
    have hjp : (i : Int) < P.powers.length := by rw [hP.pl]; omega
    have hvo := rFrom_vec hP f (i + 1) _ (by omega) hX1
    have hvt : Vec P.orders ((zeros P.orders.length).set i (gt P.orders i - gt X i)) := (zeros_vec hP).set i _ ⟨by omega, fun _ => by have := HZ.out; omega⟩
    have hvm := rAt_vec hP (f + 1) i _ _ hi hvo hvt
    have hvp := (hP.pv i (by omega)).1
    have hvf := rFrom_vec hP f (i + 1) _ (by omega) hvp
    have hl1 := hvo.1
    have hl2 := hvm.1
    have hl3 := hvf.1
    have hoi := (hO3.ext0 hg36).ints (by omega)
    have hti : Ints Any w6 (.slice (some ⟨w3.heap.size, 0, none⟩) P.orders.length P.orders.length) ((zeros P.orders.length).set i (gt P.orders i - gt X i)) := Own.ints ho6 (by rw [List.length_set]; simp [zeros]; omega)
    have HV1 := Lib.hid hvo; have HV2 := Lib.hid hvt; have HV3 := Lib.hid hvm; have HV4 := Lib.hid hvp; have HV5 := Lib.hid hvf
    have HL1 := Lib.hid hl1; have HL2 := Lib.hid hl2; have HL3 := Lib.hid hl3
    clear hvo hvt hvm hvp hvf hl1 hl2 hl3 hgw hgw3 hgw4 hO3 ho6 ho4 hR2
    have hsz6 : w.heap.size ≤ w6.heap.size := by have := hkeep.size; have := HS.out; omega
    have e1 : ∀ w', Ext w6 w' → w'.cell? ⟨w.heap.size, 0, none⟩ = some vo6 := fun w' h => h.cell hc0 (by simp)
    have e2 : ∀ w', Ext w6 w' → w'.cell? ⟨w.heap.size, 1, none⟩ = some (.slice (some ⟨bp, op, none⟩) P.powers.length capp) := fun w' h => h.cell (by simpa using hc1) (by simp)
    have e3 : ∀ w', Ext w6 w' → w'.cell? ⟨w.heap.size, 2, none⟩ = some vc6 := fun w' h => h.cell (by simpa using hc2) (by simp)
    have e4 : ∀ w', Ext w6 w' → w'.cell? ⟨bp, op + i, none⟩ = some (.slice ap2 (gt P.powers i).length capp2) := fun w' h => h.cell hcpi (by simp)
    have s3 : IntKind.i64.wrap ((i : Int) + 1) = (i : Int) + 1 := IntWalk.i64_in _ (by omega)
    clear hc0 hc1 hc2 hcpi
    go_wp2
    go_region_held3 (fun w' => Ext w6 w') (first | exact grown_drew _ _ | assumption)
      (first
        | (go_at_call_of 69 (out); refine Calls.mono (Calls.rel (w0 := w6) (by assumption) (l08At_ok P hP (f + 1) _ _ _ _ i _ _ Any Any Any hi ⟨_, _, _, rfl, Pres3.ext h36 (by assumption)⟩ (Ints.ext hoi (by assumption)) (Ints.ext hti (by assumption)) HV1.out HV2.out)) ?_; rintro eA wA ⟨vA, rfl, hgA, hsA, hOA⟩)
        | (go_at_call 70; refine Calls.mono (Calls.rel2 (w0 := w6) (by assumption) (ih _ _ _ (i + 1) _ Any Any (by omega) ⟨_, _, _, rfl, Pres3.ext h36 (by assumption)⟩ (Ints.ext hpi (by assumption)) HV4.out)) ?_; rintro eF wF ⟨vF, rfl, hgF, hgF2, hsF, hOF⟩; have hOA2 := (hOA.ext0 hgF2).ints (by rw [HL2.out]; omega); have hOF2 := hOF.ints (by rw [HL3.out]; omega))
        | (go_at_call 69; refine Calls.mono (Calls.rel (w0 := w6) (by assumption) (l08At_ok P hP (f + 1) _ _ _ _ i _ _ Any Any Any hi ⟨_, _, _, rfl, Pres3.ext h36 (by assumption)⟩ hOA2 hOF2 HV3.out HV5.out)) ?_; rintro eB wB ⟨vB, rfl, hgB, hsB, hOB⟩))
    go_wp2
    go_ret
    refine ⟨_, rfl, grown_trans hg0 (grown_trans hkeep hgB), ?_⟩
    simp only [rFrom, if_neg HZ.out]
    exact hOB.weak (by omega)

theorem l10From_ok (P : Pr) (hP : Valid P) (f : Nat) : FromOk P f := by
  induction f with
  | zero => exact l10From_zero P hP
  | succ f ih => exact l10From_succ P hP f ih

/-- the reference's inverse -/
def rInv (P : Pr) (X : List Int) : List Int := rFrom P P.orders.length 0 X

theorem rInv_vec {P : Pr} (hP : Valid P) (X : List Int) (hX : Vec P.orders X) : Vec P.orders (rInv P X) := rFrom_vec hP _ 0 X (by omega) hX
theorem rMul_vec {P : Pr} (hP : Valid P) (A B : List Int) (hA : Vec P.orders A) (hB : Vec P.orders B) : Vec P.orders (rMul P A B) := rAt_vec hP _ 0 A B (by omega) hA hB

set_option maxHeartbeats 1000000 in
theorem l10Inv_ok (P : Pr) (hP : Valid P) (w : World) (pv x : Value) (X : List Int) (Sp Sx : Nat → Prop) (hp : PresV Sp w pv P) (hx : Ints Sx w x X) (hX : Vec P.orders X) :
    Calls Try.prog 57 #[pv, x] w (Ret w fun w' v => Own w.heap.size w' v (rInv P X)) := by
  obtain ⟨vo, vp, vc, rfl, h3⟩ := hp
  go_enter Try.func57, Try.ntmps57
  obtain ⟨vo9, vp9, vc9, _, _, hc0, hc1, hc2, h39⟩ := (PresP.box h3 30).at
  go_wp2_with fail
  refine Calls.mono (l10From_ok P hP P.orders.length _ _ _ 0 X Any Sx (by omega) ⟨_, _, _, rfl, h39⟩ (hx.ext (World.grownBy_alloc _ _ _)) hX) ?_
  rintro e1 w1 ⟨v1, rfl, hg1, hO1⟩
  go_wp2
  go_ret
  exact ⟨_, rfl, grown_trans (World.grownBy_alloc _ _ _) hg1, hO1.weak (by simp)⟩

def rConj (P : Pr) (A B : List Int) : List Int := rMul P (rInv P B) (rMul P A B)

set_option maxHeartbeats 2000000 in
theorem l10Conj_ok (P : Pr) (hP : Valid P) (w : World) (pv a b : Value) (A B : List Int) (Sp Sa Sb : Nat → Prop) (hp : PresV Sp w pv P) (ha : Ints Sa w a A) (hb : Ints Sb w b B) (hA : Vec P.orders A) (hB : Vec P.orders B) :
    Calls Try.prog 38 #[pv, a, b] w (Ret w fun w' v => Own w.heap.size w' v (rConj P A B)) := by
  obtain ⟨vo, vp, vc, rfl, h3⟩ := hp
  have hn6 := hP.n6
  have hl1 := (rInv_vec hP B hB).1
  have hl2 := (rMul_vec hP A B hA hB).1
  have HL1 := Lib.hid hl1; have HL2 := Lib.hid hl2; clear hl1 hl2
  have hg0 : Ext w (w.alloc (.cells #[vo, vp, vc] 30)) := World.grownBy_alloc _ _ _
  have hBx := PresP.box h3 30
  have ha0 := ha.ext hg0
  have hb0 := hb.ext hg0
  have hs0 : (w.alloc (.cells #[vo, vp, vc] 30)).heap.size = w.heap.size + 1 := by simp
  have HS := Lib.hid hs0; clear hs0 ha hb
  go_enter Try.func38, Try.ntmps38
  go_wp2
  generalize hw0 : w.alloc (.cells #[vo, vp, vc] 30) = w0 at *
  clear hw0
  obtain ⟨vo6, vp6, vc6, _, _, hc0, hc1, hc2, h36⟩ := hBx.at
  have e1 : ∀ w', Ext w0 w' → w'.cell? ⟨w.heap.size, 0, none⟩ = some vo6 := fun w' h => h.cell hc0 (by simp)
  have e2 : ∀ w', Ext w0 w' → w'.cell? ⟨w.heap.size, 1, none⟩ = some vp6 := fun w' h => h.cell (by simpa using hc1) (by simp)
  have e3 : ∀ w', Ext w0 w' → w'.cell? ⟨w.heap.size, 2, none⟩ = some vc6 := fun w' h => h.cell (by simpa using hc2) (by simp)
  clear hc0 hc1 hc2
  go_region_held3 (fun w' => Ext w0 w') (first | exact grown_drew _ _ | assumption)
    (first
      | (go_at_call 57; refine Calls.mono (Calls.rel (w0 := w0) (by assumption) (l10Inv_ok P hP _ _ _ _ Any Any ⟨_, _, _, rfl, Pres3.ext h36 (by assumption)⟩ (Ints.sub (Ints.ext hb0 (by assumption)) (fun _ _ _ => trivial)) hB)) ?_; rintro eA wA ⟨vA, rfl, hgA, hsA, hOA⟩)
      | (go_at_call_of 56 (a); refine Calls.mono (Calls.rel2 (w0 := w0) (by assumption) (l08Mul_ok P hP _ _ _ _ _ _ Any Sa Sb ⟨_, _, _, rfl, Pres3.ext h36 (by assumption)⟩ (Ints.ext ha0 (by assumption)) (Ints.ext hb0 (by assumption)) hA hB)) ?_; rintro eF wF ⟨vF, rfl, hgF, hgF2, hsF, hOF⟩; have hOA2 := (hOA.ext0 hgF2).ints (by rw [HL1.out]; omega); have hOF2 := hOF.ints (by rw [HL2.out]; omega))
      | (go_at_call 56; refine Calls.mono (Calls.rel (w0 := w0) (by assumption) (l08Mul_ok P hP _ _ _ _ _ _ Any Any Any ⟨_, _, _, rfl, Pres3.ext h36 (by assumption)⟩ hOA2 hOF2 (rInv_vec hP B hB) (rMul_vec hP A B hA hB))) ?_; rintro eB wB ⟨vB, rfl, hgB, hsB, hOB⟩))
  clear e1 e2 e3
  go_wp2
  go_ret
  exact ⟨_, rfl, grown_trans hg0 hgB, hOB.weak (by have := HS.out; omega)⟩

end Go.Proofs.Ytdfjgpioaomceaa
