/-
  impl.conjugate, impl.imageBy, impl.numberOf, impl.elementAt.
-/
import Derived.Test.YtdfjgpioaomceaaIInv
namespace Go.Proofs.Ytdfjgpioaomceaa
open Go.RowKit

theorem iInv_vec {P : Pr} (hP : Valid P) (a : List Int) (ha : Vec P.orders a) : Vec P.orders (iInv P a) := (invTo_vec hP a ha a.length (by rw [ha.1]; omega)).2

def iConj (P : Pr) (a b : List Int) : List Int := tv P (iInv P b) (tv P a b)

set_option maxHeartbeats 400000 in
theorem conjugate_ok (P : Pr) (hP : Valid P) (w : World) (p a b : Value) (A B : List Int) (Sp Sa Sb : Nat → Prop) (hp : PresP Sp w p P) (ha : Ints Sa w a A) (hb : Ints Sb w b B) (hA : Vec P.orders A) (hB : Vec P.orders B) :
    Calls Try.prog 50 #[p, a, b] w (Ret w fun w' v => Own w.heap.size w' v (iConj P A B)) := by
  have hn6 := hP.n6
  have hl1 : (iInv P B).length ≤ 6 := by rw [(iInv_vec hP B hB).1]; omega
  have hl2 : (tv P A B).length ≤ 6 := by rw [(tv_vec hP A B hA hB).1]; omega
  go_enter Try.func50, Try.ntmps50
  go_wp2_with fail
  refine Calls.mono (invert_ok P hP w p b B Sp Sb hp hb hB) ?_
  rintro e1 w1 ⟨r, rfl, hg1, hR⟩
  go_wp2_with fail
  refine Calls.mono (multiply_ok P hP w1 p a b A B Sp Sa Sb (hp.ext hg1) (ha.ext hg1) (hb.ext hg1) hA hB) ?_
  rintro e2 w2 ⟨m, rfl, hg2, hM⟩
  go_wp2_with fail
  refine Calls.mono (multiply_ok P hP w2 p r m _ _ Sp Any Any (hp.ext (grown_trans hg1 hg2)) ((hR.ext0 hg2).ints (by omega)) (hM.ints (by omega)) (iInv_vec hP B hB) (tv_vec hP A B hA hB)) ?_
  rintro e3 w3 ⟨q, rfl, hg3, hQ⟩
  go_wp2
  go_ret
  exact ⟨_, rfl, grown_trans (grown_trans hg1 hg2) hg3, hQ.weak (by have := hg1.size; have := hg2.size; omega)⟩

/-- the image of an element of the tail behind a generator -/
def iImg (P : Pr) (i : Nat) (x : List Int) : List Int := rImgTo (tv P) (gt P.conj i) i x (List.replicate x.length 0) (gt P.conj i).length

theorem iImgTo_vec {P : Pr} (hP : Valid P) (i : Nat) (hi : i < P.orders.length) (x out : List Int) (ho : Vec P.orders out) (k : Nat) (hk : k ≤ (gt P.conj i).length) :
    Vec P.orders (rImgTo (tv P) (gt P.conj i) i x out k) := by
  have hc := hP.cv i hi
  induction k with
  | zero => exact ho
  | succ k ih =>
    unfold rImgTo
    exact iter_inv (Vec P.orders) _ (fun y hy => tv_vec hP _ _ hy (hc.2 k (by omega)).1) _ _ (ih (by omega))

set_option maxHeartbeats 1000000 in
theorem imageBy_ok (P : Pr) (hP : Valid P) (w : World) (p x : Value) (i : Nat) (X : List Int) (Sp Sx : Nat → Prop) (hi : i < P.orders.length) (hp : PresP Sp w p P) (hx : Ints Sx w x X) (hX : Vec P.orders X) :
    Calls Try.prog 75 #[p, .int .i64 i, x] w (Ret w fun w' v => Own w.heap.size w' v (iImg P i X)) := by
  have hn6 := hP.n6
  have hlX : X.length ≤ P.orders.length ∧ P.orders.length ≤ X.length := by rw [hX.1]; omega
  obtain ⟨pb, po, rfl⟩ := hp.shape
  obtain ⟨ax, capx, rfl, _, _⟩ := hx.shape
  have hic : i < P.conj.length := by rw [hP.cl]; omega
  have hcl := (hP.cv i hi).1
  have hlc : (gt P.conj i).length + i + 1 ≤ P.orders.length := by omega
  have HCL := Lib.hid hcl; clear hcl
  obtain ⟨ac, capc, hcc0, hci0⟩ := hp.conjAt
  obtain ⟨bc, oc, ac2, capc2, rfl, _, _, hc20, hi20⟩ := Rows3.at hci0 i hic
  go_enter Try.func75, Try.ntmps75
  go_wp2_with (at_make; refine wp_make_ints rfl _ _ rfl w.heap.size X.length w.heap.size rfl _ rfl rfl rfl (by omega) (Nat.le_refl _) ?_; intro w1 ho1 hg1 _; have hcc := hg1.cell hcc0 (by simp); have hc2 := hg1.cell hc20 (by simp))
  clear hcc hc2 hci0 hcc0 hc20
  generalize Value.slice (some ⟨w.heap.size, 0, none⟩) X.length X.length = t at *
  go_loopw [21] (fun ii wr => ∃ k : Nat, ii = .int .i64 k ∧ k ≤ (gt P.conj i).length ∧ Ext w wr ∧ Own w.heap.size wr t (rImgTo (tv P) (gt P.conj i) i X (List.replicate X.length 0) k)) (fun ii _ => (gt P.conj i).length - (intOf ii).toNat)
  case atStart => exact ⟨0, rfl, by omega, hg1, ho1⟩
  case round =>
    clear ho1
    obtain ⟨k, rfl, hk, hgw, hO⟩ := hrel
    by_cases hlt : k < (gt P.conj i).length
    · have hvk := iImgTo_vec hP i hi X _ (zeros_vec' hP hX) k hk
      have HV := Lib.hid hvk; clear hvk
      have hcv := ((hP.cv i hi).2 k (by omega)).1
      have HCV := Lib.hid hcv; clear hcv
      have hix : ((i : Int) + 1 + k).toNat = i + 1 + k := by omega
      have hbx : (i : Int) + 1 + k < X.length := by omega
      obtain ⟨bx, ox, rfl, _, _, hcx⟩ := Ints.at (hx.ext hgw) (i + 1 + k) (by omega)
      have hxk := hX.2 (i + 1 + k) (by omega)
      have hx7 := hP.ord7 (i + 1 + k) (by omega)
      have hx0 : 0 ≤ gt X (i + 1 + k) := hxk.1
      have hx1 : gt X (i + 1 + k) ≤ 7 := by omega
      clear hxk hx7
      obtain ⟨bd, od, ad2, capd2, rfl, _, _, hcd0, hid⟩ := Rows2.at hi20 k hlt
      have hcd := hgw.cell hcd0 (by simp)
      go_wp2
      go_loopw [33] (fun mm wr2 => ∃ m : Nat, mm = .int .i64 m ∧ m ≤ (gt X (i + 1 + k)).toNat ∧ Ext w wr2 ∧ Own w.heap.size wr2 t (iter m (fun out => tv P out (gt (gt P.conj i) k)) (rImgTo (tv P) (gt P.conj i) i X (List.replicate X.length 0) k))) (fun mm _ => (gt X (i + 1 + k)).toNat - (intOf mm).toNat)
      case atStart => exact ⟨0, rfl, by omega, hgw, hO⟩
      case round =>
        clear hgw hO hcx hcd hcd0
        obtain ⟨m, rfl, hm, hgw, hO⟩ := hrel
        by_cases hlt2 : (m : Int) < gt X (i + 1 + k)
        · have hvm : Vec P.orders (iter m (fun out => tv P out (gt (gt P.conj i) k)) (rImgTo (tv P) (gt P.conj i) i X (List.replicate X.length 0) k)) := iter_inv (Vec P.orders) _ (fun y hy => tv_vec hP y _ hy HCV.out) _ _ HV.out
          have HVM := Lib.hid hvm; clear hvm
          go_wp2_with fail
          refine Calls.mono (timesVector_ok P hP w.heap.size wr _ t _ _ _ (hp.mono (off_of hO (Nat.le_refl _) hgw)) hO HVM.out (hid.mono (off_of hO (Nat.le_refl _) hgw)) HCV.out) ?_
          rintro e3 w3 ⟨v3, rfl, hg3, rfl, hO3⟩
          have hgx := mut_ext hgw hO (Nat.le_refl _) hg3
          go_wp2
          go_roundw
          case rel => exact ⟨m + 1, by go_num, by omega, hgx, hO3⟩
          case measure => simp [intOf]; omega
        · have hme : m = (gt X (i + 1 + k)).toNat := by omega
          subst hme
          go_wp2
          go_roundw
          case rel => exact ⟨k + 1, by go_num, by omega, hgw, hO⟩
          case measure => simp [intOf]; omega
    · have hke : k = (gt P.conj i).length := by omega
      subst hke
      go_wp2
      go_ret
      exact ⟨_, rfl, hgw, hO⟩

end Go.Proofs.Ytdfjgpioaomceaa
