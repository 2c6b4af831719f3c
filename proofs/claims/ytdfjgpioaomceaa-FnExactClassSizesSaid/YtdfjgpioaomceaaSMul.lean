/-
  The reference's multiplication: spec.l08Image, spec.l08At.
-/
import Derived.Test.YtdfjgpioaomceaaSmall3
import Derived.StillTailTactics
import Derived.Deep.RegionHeld3
namespace Go.Proofs.Ytdfjgpioaomceaa
open Go.RowKit

/-- a vector of zeros -/
def zeros (n : Nat) : List Int := List.replicate n 0

def rImgTo (at_ : List Int → List Int → List Int) (cs : List (List Int)) (i : Nat) (x out : List Int) : Nat → List Int
  | 0 => out
  | k + 1 => iter (gt x (i + 1 + k)).toNat (fun out => at_ out (gt cs k)) (rImgTo at_ cs i x out k)

def rAt (P : Pr) : Nat → Nat → List Int → List Int → List Int
  | 0, _, _, _ => zeros P.orders.length
  | f + 1, i, A, B =>
    let left := iter (gt B i).toNat (fun l => rImgTo (rAt P f (i + 1)) (gt P.conj i) i l (zeros P.orders.length) f) (A.set i 0)
    let rest := rAt P f (i + 1) left (B.set i 0)
    let c := gt A i + gt B i
    if gt P.orders i ≤ c then (rAt P f (i + 1) (gt P.powers i) rest).set i (c - gt P.orders i) else rest.set i c

/-- the image under conjugation by generator i; f + i + 1 is the number of generators -/
def rImage (P : Pr) (f i : Nat) (x : List Int) : List Int := rImgTo (rAt P f (i + 1)) (gt P.conj i) i x (zeros P.orders.length) f

theorem zeros_vec {P : Pr} (hP : Valid P) : Vec P.orders (zeros P.orders.length) := by
  refine ⟨by simp [zeros], fun i hi => ?_⟩
  have := hP.ord7 i hi
  unfold zeros; rw [gt_replicate]; omega

def AtVec (P : Pr) (f : Nat) : Prop := ∀ i A B, i + f = P.orders.length → Vec P.orders A → Vec P.orders B → Vec P.orders (rAt P f i A B)

theorem rImgTo_vec {P : Pr} (hP : Valid P) (f i : Nat) (hi : i + (f + 1) = P.orders.length) (hat : AtVec P f) (x out : List Int) (ho : Vec P.orders out) (k : Nat) (hk : k ≤ f) :
    Vec P.orders (rImgTo (rAt P f (i + 1)) (gt P.conj i) i x out k) := by
  induction k with
  | zero => exact ho
  | succ k ih =>
    unfold rImgTo
    exact iter_inv (Vec P.orders) _ (fun y hy => hat _ _ _ (by omega) hy ((hP.cv i (by omega)).2 k (by omega)).1) _ _ (ih (by omega))

theorem rAt_vec {P : Pr} (hP : Valid P) (f : Nat) : AtVec P f := by
  induction f with
  | zero => intro i A B _ _ _; exact zeros_vec hP
  | succ f ih =>
    intro i A B hi hA hB
    have ho := hP.ord7 i (by omega)
    have hAi := hA.2 i (by omega)
    have hBi := hB.2 i (by omega)
    have hl : Vec P.orders (iter (gt B i).toNat (fun l => rImgTo (rAt P f (i + 1)) (gt P.conj i) i l (zeros P.orders.length) f) (A.set i 0)) :=
      iter_inv (Vec P.orders) _ (fun y hy => rImgTo_vec hP f i hi ih _ _ (zeros_vec hP) f (Nat.le_refl _)) _ _ (hA.set i 0 ⟨by omega, fun _ => by omega⟩)
    have hr := ih (i + 1) _ _ (by omega) hl (hB.set i 0 ⟨by omega, fun _ => by omega⟩)
    simp only [rAt]
    split
    · exact (ih (i + 1) _ _ (by omega) (hP.pv i (by omega)).1 hr).set i _ ⟨by omega, fun _ => by omega⟩
    · exact hr.set i _ ⟨by omega, fun _ => by omega⟩

def AtOk (P : Pr) (f : Nat) : Prop :=
  ∀ (w : World) (pv a b : Value) (i : Nat) (A B : List Int) (Sp Sa Sb : Nat → Prop), i + f = P.orders.length → PresV Sp w pv P → Ints Sa w a A → Ints Sb w b B → Vec P.orders A → Vec P.orders B →
    Calls Try.prog 69 #[pv, .int .i64 i, a, b] w (Ret w fun w' v => Own w.heap.size w' v (rAt P f i A B))

set_option maxHeartbeats 2000000 in
theorem l08Image_of (P : Pr) (hP : Valid P) (f : Nat) (ih : AtOk P f) (w : World) (pv x : Value) (i : Nat) (X : List Int) (Sp Sx : Nat → Prop) (hi : i + (f + 1) = P.orders.length) (hp : PresV Sp w pv P)
    (hx : Ints Sx w x X) (hX : Vec P.orders X) :
    Calls Try.prog 91 #[pv, .int .i64 i, x] w (Ret w fun w' v => Own w.heap.size w' v (rImage P f i X)) := by
  obtain ⟨vo, vp, vc, rfl, h3⟩ := hp
  obtain ⟨ax, capx, rfl, _, _⟩ := hx.shape
  have hn6 := hP.n6
  have hB := PresP.box h3 30
  obtain ⟨ao, capo, hco, hoi⟩ := hB.ordAt
  go_enter Try.func91, Try.ntmps91
  go_wp2_with (at_make; refine wp_make_ints rfl _ _ rfl (w.heap.size + 1) P.orders.length (w.heap.size + 1) (by simp) _ rfl rfl rfl (by omega) (by simp) ?_; intro w1 ho1 hg1 _)
  have hw1 : Ext (w.alloc (.cells #[vo, vp, vc] 30)) w1 := hg1
  have hBx : PresP Any w1 (.pointer (some ⟨w.heap.size, 0, none⟩)) P := hB.ext hw1
  have hxx : Ints Sx w1 (.slice ax X.length capx) X := (hx.ext (World.grownBy_alloc _ _ _)).ext hw1
  have hgw : Ext w w1 := grown_trans (World.grownBy_alloc _ _ _) hw1
  have hic : i < P.conj.length := by rw [hP.cl]; omega
  have hlc : f ≤ (gt P.conj i).length := by rw [(hP.cv i (by omega)).1]; omega
  clear hco hoi hg1 hw1 hx hB
  go_loopw [8, 9] (fun v j wr => ∃ k : Nat, j = .int .i64 ((i : Int) + 1 + k) ∧ k ≤ f ∧ Ext w1 wr ∧ Own (w.heap.size + 1) wr v (rImgTo (rAt P f (i + 1)) (gt P.conj i) i X (zeros P.orders.length) k)) (fun _ j _ => P.orders.length - (intOf j).toNat)
  case atStart => exact ⟨0, by simp, by omega, Ext.refl _, ho1⟩
  case round =>
    clear ho1
    obtain ⟨k, rfl, hk, hg, hO⟩ := hrel
    by_cases hlt : k < f
    · have hxk := hX.2 (i + 1 + k) (by omega)
      have hx7 := hP.ord7 (i + 1 + k) (by omega)
      have hx0 : 0 ≤ gt X (i + 1 + k) := hxk.1
      have hx1 : gt X (i + 1 + k) ≤ 7 := by omega
      clear hxk hx7
      have hvk := rImgTo_vec hP f i hi (rAt_vec hP f) X _ (zeros_vec hP) k hk
      have HV := Lib.hid hvk; clear hvk
      have hcond : (i : Int) + 1 + k < P.orders.length := by omega
      go_wp2
      go_loopw [8, 10] (fun v mm wr => ∃ m : Nat, mm = .int .i64 m ∧ m ≤ (gt X (i + 1 + k)).toNat ∧ Ext w1 wr ∧ Own (w.heap.size + 1) wr v (iter m (fun out => rAt P f (i + 1) out (gt (gt P.conj i) k)) (rImgTo (rAt P f (i + 1)) (gt P.conj i) i X (zeros P.orders.length) k))) (fun _ mm _ => (gt X (i + 1 + k)).toNat - (intOf mm).toNat)
      case atStart => exact ⟨0, rfl, by omega, hg, hO⟩
      case round =>
        clear hg hO
        obtain ⟨m, rfl, hm, hg, hO⟩ := hrel
        have hxw := hxx.ext hg
        obtain ⟨bx, ox, rfl, _, _, hcx⟩ := Ints.at hxw (i + 1 + k) (by rw [hX.1]; omega)
        have hle : X.length ≤ P.orders.length ∧ P.orders.length ≤ X.length := by rw [hX.1]; omega
        have hix : ((i : Int) + 1 + k).toNat = i + 1 + k := by omega
        by_cases hlt2 : (m : Int) < gt X (i + 1 + k)
        · obtain ⟨vo9, vp9, vc9, _, _, hc0, hc1, hc2, h39⟩ := (hBx.ext hg).at
          obtain ⟨ac, capc, rfl, _, _⟩ := Sl.shape h39.c
          obtain ⟨bc, oc, ac2, capc2, rfl, _, _, hcc, hrc⟩ := Rows3.at h39.c i hic
          obtain ⟨bd, od, ad2, capd2, rfl, _, _, hcd, hid⟩ := Rows2.at hrc k (by omega)
          have hvm : Vec P.orders (iter m (fun out => rAt P f (i + 1) out (gt (gt P.conj i) k)) (rImgTo (rAt P f (i + 1)) (gt P.conj i) i X (zeros P.orders.length) k)) :=
            iter_inv (Vec P.orders) _ (fun y hy => rAt_vec hP f _ _ _ (by omega) hy ((hP.cv i (by omega)).2 k (by omega)).1) _ _ HV.out
          have hcv := ((hP.cv i (by omega)).2 k (by omega)).1
          have hOi := hO.ints (by rw [hvm.1]; omega)
          have HVm := Lib.hid hvm; clear hvm
          have HCv := Lib.hid hcv; clear hcv
          have e1 : ∀ w', Ext wr w' → w'.cell? ⟨w.heap.size, 0, none⟩ = some vo9 := fun w' h => h.cell hc0 (by simp)
          have e2 : ∀ w', Ext wr w' → w'.cell? ⟨w.heap.size, 1, none⟩ = some vp9 := fun w' h => h.cell (by simpa using hc1) (by simp)
          have e3 : ∀ w', Ext wr w' → w'.cell? ⟨w.heap.size, 2, none⟩ = some (.slice (some ⟨bc, oc, none⟩) P.conj.length capc) := fun w' h => h.cell (by simpa using hc2) (by simp)
          have e4 : ∀ w', Ext wr w' → w'.cell? ⟨bc, oc + i, none⟩ = some (.slice (some ⟨bd, od, none⟩) (gt P.conj i).length capc2) := fun w' h => h.cell hcc (by simp)
          have e5 : ∀ w', Ext wr w' → w'.cell? ⟨bd, od + k, none⟩ = some (.slice ad2 (gt (gt P.conj i) k).length capd2) := fun w' h => h.cell hcd (by simp)
          have s1 : IntKind.i64.wrap ((i : Int) + 1 + k - i) = (k : Int) + 1 := by rw [show (i : Int) + 1 + k - i = (k : Int) + 1 by omega]; exact IntWalk.i64_in _ (by omega)
          have s2 : IntKind.i64.wrap (k : Int) = (k : Int) := IntWalk.i64_in _ (by omega)
          have s3 : IntKind.i64.wrap ((i : Int) + 1) = (i : Int) + 1 := IntWalk.i64_in _ (by omega)
          have b1 : (0 : Int) ≤ k := by omega
          have b2 : (k : Int) < (gt P.conj i).length := by omega
          have b3 : (i : Int) < P.conj.length := by omega
          go_wp2
          clear hc0 hc1 hc2 hcc hcd
          go_region_held3 (fun w' => Ext wr w') (first | exact grown_drew _ _ | exact hg6)
            (first | (go_at_call 69; refine Calls.mono (Calls.rel (w0 := wr) (by assumption) (ih _ _ _ _ (i + 1) _ (gt (gt P.conj i) k) Any Any Any (by omega) ⟨_, _, _, rfl, Pres3.ext h39 (by assumption)⟩ (Ints.ext hOi (by assumption)) (Ints.ext hid (by assumption)) HVm.out HCv.out)) ?_; rintro e6 w6 ⟨v6, rfl, hg6, hsz6, hO6⟩))
          clear e1 e2 e3 e4 e5 s1 s2 s3
          go_wp2
          go_roundw
          case rel => exact ⟨m + 1, by go_num, by omega, grown_trans hg hg6, hO6.weak (by have := hg.size; omega)⟩
          case measure => simp [intOf]; omega
        · have hme : m = (gt X (i + 1 + k)).toNat := by omega
          subst hme
          go_wp2
          go_roundw
          case rel => exact ⟨k + 1, by go_num, by omega, hg, hO⟩
          case measure => simp [intOf]; omega
    · have hke : k = f := by omega
      subst hke
      go_wp2
      go_ret
      exact ⟨_, rfl, grown_trans hgw hg, hO.weak (by omega)⟩

end Go.Proofs.Ytdfjgpioaomceaa
