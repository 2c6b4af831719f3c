/-
  impl.invert, impl.conjugate, impl.imageBy.
  impl.conjugate, impl.imageBy, impl.numberOf, impl.elementAt.
  Numbers of elements: impl.numberOf, spec.l10Number, impl.elementAt, spec.l10At, spec.l10One.
  impl.allElements, impl.generators.
  The laws' copies of an argument: laws.toInt64S, toInt64SS, toInt64SSS, toPresentation: each part in blocks of its own.
  laws.toPresentation: a copy of a presentation, each part in blocks of its own.
  The laws' comparisons: laws.eqInt64SS, eqInt64SSS, eqPresentation.
  The laws' marks: laws.markInt64S.., heldInt64S..: each place of a value is given a number of its own, and looked at again.
  The laws' look at marked rows of rows: laws.heldInt64SS, heldInt64SSS.
  What a law over one presentation and one list keeps in view.
  Plain: a presentation's relations, held by members of a monoid, are kept by the reference's product and by the program's collection (von Dyck's law, without any consistency).
  Plain: the cyclic extension of a group by a root of an inner automorphism. No program is named here.
  The reference's multiplication: spec.l08At computes rAt.
-/
import Derived.Test.YtdklekdpdbjfiaaGreatK1
import Derived.Deep.LoopGhost
import Derived.Deep.RegionHeld3
/- impl.invert, impl.conjugate, impl.imageBy. -/
namespace Go.Proofs.YtdklekdpdbjfiaaGreat
open Go.RowKit

/-- how often a generator is still to be taken -/
def left_ (o x : Int) : Nat := if x = 0 then 0 else (o - x).toNat

def invTo (P : Pr) (a : List Int) : Nat → List Int × List Int
  | 0 => (a, List.replicate a.length 0)
  | k + 1 =>
    let s := invTo P a k
    let m := left_ (gt P.orders k) (gt s.1 k)
    (iter m (fun e => tg P e k) s.1, iter m (fun e => tg P e k) s.2)

def iInv (P : Pr) (a : List Int) : List Int := (invTo P a a.length).2

theorem iter_tg {P : Pr} (hP : Valid P) (e : List Int) (k : Nat) (hk : k < P.orders.length) (he : Vec P.orders e) (h0 : gt e k ≠ 0) (s : Nat) (hs : s ≤ left_ (gt P.orders k) (gt e k)) :
    Vec P.orders (iter s (fun e => tg P e k) e) ∧ gt (iter s (fun e => tg P e k) e) k = if s = left_ (gt P.orders k) (gt e k) then 0 else gt e k + s := by
  have hx := he.2 k hk
  have hl : left_ (gt P.orders k) (gt e k) = (gt P.orders k - gt e k).toNat := by unfold left_; rw [if_neg h0]
  rw [hl] at hs ⊢
  induction s with
  | zero => exact ⟨he, by rw [if_neg (by omega)]; simp [iter]⟩
  | succ s ih =>
    obtain ⟨h1, h2⟩ := ih (by omega)
    refine ⟨tg_vec hP _ k h1 hk, ?_⟩
    show gt (tg P (iter s (fun e => tg P e k) e) k) k = _
    have h3 := (tgen_entries hP P.orders.length (iter s (fun e => tg P e k) e) k h1 hk (by omega)).2
    rw [if_neg (by omega)] at h2
    have h4 : gt (tg P (iter s (fun e => tg P e k) e) k) k = if gt (iter s (fun e => tg P e k) e) k + 1 = gt P.orders k then 0 else gt (iter s (fun e => tg P e k) e) k + 1 := h3
    rw [h4, h2]
    by_cases hc : gt e k + s + 1 = gt P.orders k
    · rw [if_pos hc, if_pos (by omega)]
    · rw [if_neg hc, if_neg (by omega)]; omega

theorem invTo_vec {P : Pr} (hP : Valid P) (a : List Int) (ha : Vec P.orders a) (k : Nat) (hk : k ≤ P.orders.length) : Vec P.orders (invTo P a k).1 ∧ Vec P.orders (invTo P a k).2 := by
  induction k with
  | zero => exact ⟨ha, zeros_vec' hP ha⟩
  | succ k ih =>
    obtain ⟨h1, h2⟩ := ih (by omega)
    exact ⟨iter_inv (Vec P.orders) _ (fun y hy => tg_vec hP y k hy (by omega)) _ _ h1, iter_inv (Vec P.orders) _ (fun y hy => tg_vec hP y k hy (by omega)) _ _ h2⟩

set_option maxHeartbeats 1000000 in
theorem invert_ok (P : Pr) (hP : Valid P) (w : World) (p a : Value) (A : List Int) (Sp Sa : Nat → Prop) (hp : PresP Sp w p P) (ha : Ints Sa w a A) (hA : Vec P.orders A) :
    Calls Tryz.prog 210 #[p, a] w (Ret w fun w' v => Own w.heap.size w' v (iInv P A)) := by
  have hn6 := hP.n6
  have hlA : A.length ≤ P.orders.length ∧ P.orders.length ≤ A.length := by rw [hA.1]; omega
  obtain ⟨aa, capa, rfl, _, _⟩ := ha.shape
  go_enter Tryz.func210, Tryz.ntmps210
  go_wp2_with fail
  refine Calls.mono (clone_ok w _ A Sa ha (by omega)) ?_
  rintro e1 w1 ⟨r, rfl, hg1, hR⟩
  have hRi := hR.ints (by omega)
  obtain ⟨ar, capr, rfl, _, _⟩ := hRi.shape
  go_wp2_with (at_make; refine wp_make_ints rfl _ _ rfl w1.heap.size A.length w1.heap.size rfl _ rfl rfl rfl (by omega) (Nat.le_refl _) ?_; intro w2 ho2 hg2 _)
  generalize Value.slice (some ⟨w1.heap.size, 0, none⟩) A.length A.length = t at *
  have hR2 := hR.ext0 hg2
  have hRlt := hR.lt
  have HRL := Lib.hid hRlt
  clear hRi hR hRlt
  have hw2 : Ext w w2 := grown_trans hg1 hg2
  have hw1 := hg1.size
  go_loopw [15] (fun i wr => ∃ k : Nat, i = .int .i64 k ∧ k ≤ A.length ∧ Ext w wr ∧ Own w.heap.size wr (.slice ar A.length capr) (invTo P A k).1 ∧ Own w1.heap.size wr t (invTo P A k).2) (fun i _ => A.length - (intOf i).toNat)
  case atStart => exact ⟨0, rfl, by omega, hw2, hR2, ho2⟩
  case round =>
    clear hR2 ho2
    obtain ⟨k, rfl, hk, hg, hO, hT⟩ := hrel
    obtain ⟨hv1, hv2⟩ := invTo_vec hP A hA k (by omega)
    have HV1 := Lib.hid hv1; have HV2 := Lib.hid hv2
    by_cases hlt : k < A.length
    · have hx := hv1.2 k (by omega)
      have hok := hP.ord7 k (by omega)
      obtain ⟨g, capg, hfm, _, _⟩ := hO.form (by rw [hv1.1]; omega)
      have hlen : (invTo P A k).1.length = A.length := by rw [hv1.1, hA.1]
      rw [hlen] at hfm
      have hsucc : invTo P A (k + 1) = (iter (left_ (gt P.orders k) (gt (invTo P A k).1 k)) (fun e => tg P e k) (invTo P A k).1, iter (left_ (gt P.orders k) (gt (invTo P A k).1 k)) (fun e => tg P e k) (invTo P A k).2) := rfl
      have HSC := Lib.hid hsucc; clear hsucc
      obtain ⟨rfl, hcg⟩ : ar = some ⟨g, 0, none⟩ ∧ capr = capg := by cases hfm; exact ⟨rfl, rfl⟩
      clear hfm hcg hv1 hv2
      have hbt := hT.lt
      have hgl : g < w1.heap.size := (HRL.out g rfl).2
      have HBT := Lib.hid hbt; clear hbt
      generalize hr0 : (invTo P A k).1 = R at *
      generalize ht0 : (invTo P A k).2 = T at *
      have Hr0 := Lib.hid hr0; have Ht0 := Lib.hid ht0; clear hr0 ht0
      have hx0 : 0 ≤ gt R k := hx.1
      have hx1 : gt R k < gt P.orders k := hx.2
      have hok1 : gt P.orders k ≤ 7 := hok.2
      have HLEN := Lib.hid hlen; clear hlen hx hok
      go_wp2
      go_loopg [21] (left_ (gt P.orders k) (gt R k)) (fun gk u wr => ∃ s : Nat, gk + s = left_ (gt P.orders k) (gt R k) ∧ Ext w wr ∧ Own w.heap.size wr (.slice (some ⟨g, 0, none⟩) A.length capr) (iter s (fun e => tg P e k) R) ∧ Own w1.heap.size wr t (iter s (fun e => tg P e k) T))
      case atStart => exact ⟨0, by omega, hg, hO, hT⟩
      case round =>
        clear hg hO hT
        obtain ⟨s, hs, hg, hO, hT⟩ := hrel
        have hRs : Vec P.orders (iter s (fun e => tg P e k) R) ∧ Vec P.orders (iter s (fun e => tg P e k) T) :=
          ⟨iter_inv (Vec P.orders) _ (fun y hy => tg_vec hP y k hy (by omega)) _ _ HV1.out, iter_inv (Vec P.orders) _ (fun y hy => tg_vec hP y k hy (by omega)) _ _ HV2.out⟩
        have HRs := Lib.hid hRs
        have hc := hO.cell k (by rw [hRs.1.1]; omega)
        clear hRs
        by_cases hm : s = left_ (gt P.orders k) (gt R k)
        · have hz : gt (iter s (fun e => tg P e k) R) k = 0 := by
            by_cases h0 : gt R k = 0
            · have : s = 0 := by rw [hm]; unfold left_; rw [if_pos h0]
              rw [this]; exact h0
            · rw [(iter_tg hP R k (by omega) HV1.out h0 s (by omega)).2, if_pos hm]
          rw [hz] at hc
          have hO2 : Own w.heap.size wr (.slice (some ⟨g, 0, none⟩) A.length capr) (invTo P A (k + 1)).1 := by rw [HSC.out, ← hm]; exact hO
          have hT2 : Own w1.heap.size wr t (invTo P A (k + 1)).2 := by rw [HSC.out, ← hm]; exact hT
          have HO2 := Lib.hid hO2; have HT2 := Lib.hid hT2; clear hO2 hT2 hO hT hm hz
          go_wp2
          go_roundw
          case rel => exact ⟨k + 1, by go_num, by omega, hg, HO2.out, HT2.out⟩
          case measure => simp [intOf]; omega
        · have hz : gt (iter s (fun e => tg P e k) R) k ≠ 0 := by
            by_cases h0 : gt R k = 0
            · exfalso; apply hm
              have : left_ (gt P.orders k) (gt R k) = 0 := by unfold left_; rw [if_pos h0]
              omega
            · rw [(iter_tg hP R k (by omega) HV1.out h0 s (by omega)).2, if_neg hm]; omega
          have hzb : (gt (iter s (fun e => tg P e k) R) k != 0) = true := by simpa using hz
          have HM := Lib.hid hm; clear hm hz
          go_wp2_with fail
          refine Calls.mono (timesGenerator_ok P hP w.heap.size wr p _ _ k (hp.mono (off_of hO (Nat.le_refl _) hg)) hO HRs.out.1 (by omega)) ?_
          rintro e3 w3 ⟨v3, rfl, hg3, rfl, hO3⟩
          have hgx := mut_ext hg hO (Nat.le_refl _) hg3
          have hT3 : Own w1.heap.size w3 t (iter s (fun e => tg P e k) T) := hT.ext hg3 (by
            cases hb : t.ownBlock with
            | none => exact .inl rfl
            | some q => exact .inr (fun h => by have h : some q = some g := h; cases h; have := (hT.lt _ hb).1; omega))
          go_wp2_with fail
          refine Calls.mono (timesGenerator_ok P hP w1.heap.size w3 p t _ k (hp.mono (off_of hT3 hw1 hgx)) hT3 HRs.out.2 (by omega)) ?_
          rintro e4 w4 ⟨v4, rfl, hg4, rfl, hT4⟩
          have hgy := mut_ext hgx hT3 hw1 hg4
          have hO4 := hO3.ext hg4 (by
            cases hb : t.ownBlock with
            | none => exact .inr (by simp [Value.ownBlock])
            | some q => exact .inr (fun h => by have h : some g = some q := h; cases h; have := (hT3.lt _ hb).1; omega))
          clear hc hzb hO hT hO3 hT3
          go_wp2
          go_roundg (gk - 1)
          case measure => have := HM.out; omega
          case rel => exact ⟨s + 1, by have := HM.out; omega, hgy, hO4, hT4⟩
    · have hke : k = A.length := by omega
      subst hke
      go_wp2
      go_ret
      exact ⟨_, rfl, hg, hT.weak hw1⟩

end Go.Proofs.YtdklekdpdbjfiaaGreat

/- impl.conjugate, impl.imageBy, impl.numberOf, impl.elementAt. -/
namespace Go.Proofs.YtdklekdpdbjfiaaGreat
open Go.RowKit

theorem iInv_vec {P : Pr} (hP : Valid P) (a : List Int) (ha : Vec P.orders a) : Vec P.orders (iInv P a) := (invTo_vec hP a ha a.length (by rw [ha.1]; omega)).2

def iConj (P : Pr) (a b : List Int) : List Int := tv P (iInv P b) (tv P a b)

set_option maxHeartbeats 400000 in
theorem conjugate_ok (P : Pr) (hP : Valid P) (w : World) (p a b : Value) (A B : List Int) (Sp Sa Sb : Nat → Prop) (hp : PresP Sp w p P) (ha : Ints Sa w a A) (hb : Ints Sb w b B) (hA : Vec P.orders A) (hB : Vec P.orders B) :
    Calls Tryz.prog 150 #[p, a, b] w (Ret w fun w' v => Own w.heap.size w' v (iConj P A B)) := by
  have hn6 := hP.n6
  have hl1 : (iInv P B).length ≤ 6 := by rw [(iInv_vec hP B hB).1]; omega
  have hl2 : (tv P A B).length ≤ 6 := by rw [(tv_vec hP A B hA hB).1]; omega
  go_enter Tryz.func150, Tryz.ntmps150
  go_wp2_with fail
  refine Calls.mono (invert_ok P hP w p b B Sp Sb hp hb hB) ?_
  rintro e1 w1 ⟨r, rfl, hg1, hR⟩
  go_wp2_with fail
  refine Calls.mono (multiply_ok P hP w1 p a b A B Sp Sa Sb (hp.ext hg1) (ha.ext hg1) (hb.ext hg1) hA hB) ?_
  rintro e2 w2 ⟨m, rfl, hg2, hM⟩
  go_wp2_with fail
  refine Calls.mono (multiply_ok P hP w2 p r m _ _ Sp Any Any (hp.ext (grown_trans hg1 hg2)) ((hR.ext0 hg2).ints (by omega)) (hM.ints (by omega)) (iInv_vec hP B hB) (tv_vec hP A B hA hB)) ?_
  rintro e3 w3 ⟨q, rfl, hg3, hQ⟩
  go_wp2
  go_ret
  exact ⟨_, rfl, grown_trans (grown_trans hg1 hg2) hg3, hQ.weak (by have := hg1.size; have := hg2.size; omega)⟩

/-- the image of an element of the tail behind a generator -/
def iImg (P : Pr) (i : Nat) (x : List Int) : List Int := rImgTo (tv P) (gt P.conj i) i x (List.replicate x.length 0) (gt P.conj i).length

theorem iImgTo_vec {P : Pr} (hP : Valid P) (i : Nat) (hi : i < P.orders.length) (x out : List Int) (ho : Vec P.orders out) (k : Nat) (hk : k ≤ (gt P.conj i).length) :
    Vec P.orders (rImgTo (tv P) (gt P.conj i) i x out k) := by
  have hc := hP.cv i hi
  induction k with
  | zero => exact ho
  | succ k ih =>
    unfold rImgTo
    exact iter_inv (Vec P.orders) _ (fun y hy => tv_vec hP _ _ hy (hc.2 k (by omega)).1) _ _ (ih (by omega))

set_option maxHeartbeats 1000000 in
theorem imageBy_ok (P : Pr) (hP : Valid P) (w : World) (p x : Value) (i : Nat) (X : List Int) (Sp Sx : Nat → Prop) (hi : i < P.orders.length) (hp : PresP Sp w p P) (hx : Ints Sx w x X) (hX : Vec P.orders X) :
    Calls Tryz.prog 250 #[p, .int .i64 i, x] w (Ret w fun w' v => Own w.heap.size w' v (iImg P i X)) := by
  have hn6 := hP.n6
  have hlX : X.length ≤ P.orders.length ∧ P.orders.length ≤ X.length := by rw [hX.1]; omega
  obtain ⟨pb, po, rfl⟩ := hp.shape
  obtain ⟨ax, capx, rfl, _, _⟩ := hx.shape
  have hic : i < P.conj.length := by rw [hP.cl]; omega
  have hcl := (hP.cv i hi).1
  have hlc : (gt P.conj i).length + i + 1 ≤ P.orders.length := by omega
  have HCL := Lib.hid hcl; clear hcl
  obtain ⟨ac, capc, hcc0, hci0⟩ := hp.conjAt
  obtain ⟨bc, oc, ac2, capc2, rfl, _, _, hc20, hi20⟩ := Rows3.at hci0 i hic
  go_enter Tryz.func250, Tryz.ntmps250
  go_wp2_with (at_make; refine wp_make_ints rfl _ _ rfl w.heap.size X.length w.heap.size rfl _ rfl rfl rfl (by omega) (Nat.le_refl _) ?_; intro w1 ho1 hg1 _; have hcc := hg1.cell hcc0 (by simp); have hc2 := hg1.cell hc20 (by simp))
  clear hcc hc2 hci0 hcc0 hc20
  generalize Value.slice (some ⟨w.heap.size, 0, none⟩) X.length X.length = t at *
  go_loopw [21] (fun ii wr => ∃ k : Nat, ii = .int .i64 k ∧ k ≤ (gt P.conj i).length ∧ Ext w wr ∧ Own w.heap.size wr t (rImgTo (tv P) (gt P.conj i) i X (List.replicate X.length 0) k)) (fun ii _ => (gt P.conj i).length - (intOf ii).toNat)
  case atStart => exact ⟨0, rfl, by omega, hg1, ho1⟩
  case round =>
    clear ho1
    obtain ⟨k, rfl, hk, hgw, hO⟩ := hrel
    by_cases hlt : k < (gt P.conj i).length
    · have hvk := iImgTo_vec hP i hi X _ (zeros_vec' hP hX) k hk
      have HV := Lib.hid hvk; clear hvk
      have hcv := ((hP.cv i hi).2 k (by omega)).1
      have HCV := Lib.hid hcv; clear hcv
      have hix : ((i : Int) + 1 + k).toNat = i + 1 + k := by omega
      have hbx : (i : Int) + 1 + k < X.length := by omega
      obtain ⟨bx, ox, rfl, _, _, hcx⟩ := Ints.at (hx.ext hgw) (i + 1 + k) (by omega)
      have hxk := hX.2 (i + 1 + k) (by omega)
      have hx7 := hP.ord7 (i + 1 + k) (by omega)
      have hx0 : 0 ≤ gt X (i + 1 + k) := hxk.1
      have hx1 : gt X (i + 1 + k) ≤ 7 := by omega
      clear hxk hx7
      obtain ⟨bd, od, ad2, capd2, rfl, _, _, hcd0, hid⟩ := Rows2.at hi20 k hlt
      have hcd := hgw.cell hcd0 (by simp)
      go_wp2
      go_loopw [33] (fun mm wr2 => ∃ m : Nat, mm = .int .i64 m ∧ m ≤ (gt X (i + 1 + k)).toNat ∧ Ext w wr2 ∧ Own w.heap.size wr2 t (iter m (fun out => tv P out (gt (gt P.conj i) k)) (rImgTo (tv P) (gt P.conj i) i X (List.replicate X.length 0) k))) (fun mm _ => (gt X (i + 1 + k)).toNat - (intOf mm).toNat)
      case atStart => exact ⟨0, rfl, by omega, hgw, hO⟩
      case round =>
        clear hgw hO hcx hcd hcd0
        obtain ⟨m, rfl, hm, hgw, hO⟩ := hrel
        by_cases hlt2 : (m : Int) < gt X (i + 1 + k)
        · have hvm : Vec P.orders (iter m (fun out => tv P out (gt (gt P.conj i) k)) (rImgTo (tv P) (gt P.conj i) i X (List.replicate X.length 0) k)) := iter_inv (Vec P.orders) _ (fun y hy => tv_vec hP y _ hy HCV.out) _ _ HV.out
          have HVM := Lib.hid hvm; clear hvm
          go_wp2_with fail
          refine Calls.mono (timesVector_ok P hP w.heap.size wr _ t _ _ _ (hp.mono (off_of hO (Nat.le_refl _) hgw)) hO HVM.out (hid.mono (off_of hO (Nat.le_refl _) hgw)) HCV.out) ?_
          rintro e3 w3 ⟨v3, rfl, hg3, rfl, hO3⟩
          have hgx := mut_ext hgw hO (Nat.le_refl _) hg3
          go_wp2
          go_roundw
          case rel => exact ⟨m + 1, by go_num, by omega, hgx, hO3⟩
          case measure => simp [intOf]; omega
        · have hme : m = (gt X (i + 1 + k)).toNat := by omega
          subst hme
          go_wp2
          go_roundw
          case rel => exact ⟨k + 1, by go_num, by omega, hgw, hO⟩
          case measure => simp [intOf]; omega
    · have hke : k = (gt P.conj i).length := by omega
      subst hke
      go_wp2
      go_ret
      exact ⟨_, rfl, hgw, hO⟩

end Go.Proofs.YtdklekdpdbjfiaaGreat

/- Numbers of elements: impl.numberOf, spec.l10Number, impl.elementAt, spec.l10At, spec.l10One. -/
namespace Go.Proofs.YtdklekdpdbjfiaaGreat
open Go.RowKit

def numTo (o x : List Int) : Nat → Int
  | 0 => 0
  | k + 1 => numTo o x k * gt o k + gt x k

def num (P : Pr) (x : List Int) : Int := numTo P.orders x P.orders.length

theorem numTo_bd {P : Pr} (hP : Valid P) {x : List Int} (hx : Vec P.orders x) (k : Nat) (hk : k ≤ P.orders.length) : 0 ≤ numTo P.orders x k ∧ numTo P.orders x k + 1 ≤ prodTo P.orders k := by
  induction k with
  | zero => simp [numTo, prodTo]
  | succ k ih =>
    obtain ⟨h1, h2⟩ := ih (by omega)
    have h3 := hP.pos k (by omega)
    have h4 := hx.2 k (by omega)
    have h5 : 0 ≤ numTo P.orders x k * gt P.orders k := Int.mul_nonneg h1 (by omega)
    have h6 : (numTo P.orders x k + 1) * gt P.orders k ≤ prodTo P.orders k * gt P.orders k := Int.mul_le_mul_of_nonneg_right h2 (by omega)
    rw [Int.add_mul, Int.one_mul] at h6
    simp only [numTo, prodTo]
    omega

theorem num_bd {P : Pr} (hP : Valid P) {x : List Int} (hx : Vec P.orders x) : 0 ≤ num P x ∧ num P x < ordP P := by
  have := numTo_bd hP hx P.orders.length (Nat.le_refl _)
  unfold num ordP; omega

set_option maxHeartbeats 400000 in
theorem l10Number_ok (P : Pr) (hP : Valid P) (w : World) (pv x : Value) (X : List Int) (Sp Sx : Nat → Prop) (hp : PresV Sp w pv P) (hx : Ints Sx w x X) (hX : Vec P.orders X) :
    Calls Tryz.prog 207 #[pv, x] w (Ret w fun _ v => v = .int .i64 (num P X)) := by
  obtain ⟨vo, vp, vc, rfl, h3⟩ := hp
  have hn6 := hP.n6
  have hlX : X.length ≤ P.orders.length ∧ P.orders.length ≤ X.length := by rw [hX.1]; omega
  have hB := PresP.box h3 31
  have hg0 : Ext w (w.alloc (.cells #[vo, vp, vc] 31)) := World.grownBy_alloc _ _ _
  have hx0 := hx.ext hg0
  obtain ⟨ax, capx, rfl, _, _⟩ := hx.shape
  go_enter Tryz.func207, Tryz.ntmps207
  go_wp2
  generalize hw0 : w.alloc (.cells #[vo, vp, vc] 31) = w0 at *
  clear hw0
  go_loopw [5, 6] (fun nv i wr => ∃ k : Nat, i = .int .i64 k ∧ nv = .int .i64 (numTo P.orders X k) ∧ k ≤ X.length ∧ Ext w0 wr) (fun _ i _ => X.length - (intOf i).toNat)
  case atStart => exact ⟨0, rfl, rfl, by omega, Ext.refl _⟩
  case round =>
    obtain ⟨k, rfl, rfl, hk, hg⟩ := hrel
    by_cases hlt : k < X.length
    · obtain ⟨ao, capo, hco, hoi⟩ := (hB.ext hg).ordAt
      obtain ⟨b, off, rfl, _, _, hc⟩ := Ints.at (hx0.ext hg) k hlt
      obtain ⟨b2, off2, rfl, _, _, hc2⟩ := Ints.at hoi k (by omega)
      have h1 := numTo_bd hP hX (k + 1) (by omega)
      have h2 := hP.pre (k + 1) (by omega)
      have h3 := hX.2 k (by omega)
      have h4 := numTo_bd hP hX k (by omega)
      have h7 := hP.ord7 k (by omega)
      have h5 : 0 ≤ numTo P.orders X k * gt P.orders k := Int.mul_nonneg h4.1 (by omega)
      have h6 : numTo P.orders X k * gt P.orders k ≤ 729 := by simp only [numTo] at h1; omega
      have h8 : 0 ≤ gt X k := h3.1
      have h9 : gt X k ≤ 7 := by omega
      have hk1 : (k : Int) < X.length := by omega
      have hk2 : (k : Int) < P.orders.length := by omega
      have s1 : IntKind.i64.wrap (numTo P.orders X k * gt P.orders k) = numTo P.orders X k * gt P.orders k := IntWalk.i64_in _ (by omega)
      have s2 : IntKind.i64.wrap (numTo P.orders X k * gt P.orders k + gt X k) = numTo P.orders X k * gt P.orders k + gt X k := IntWalk.i64_in _ (by omega)
      clear h1 h2 h3 h4 h7
      go_wp2
      go_quiet (fail)
      clear s1 s2
      go_wp2
      go_roundw
      case rel => exact ⟨k + 1, by go_num, rfl, by omega, grown_trans hg (grown_drewN _ _ _)⟩
      case measure => simp [intOf]; omega
    · have hke : k = P.orders.length := by omega
      subst hke
      go_wp2
      go_ret
      exact ⟨_, rfl, grown_trans hg0 hg, rfl⟩

/-- the element with a number, from the last entry on -/
def elTo (o : List Int) (N : Nat) (m : Int) : Nat → List Int × Int
  | 0 => (List.replicate N 0, m)
  | k + 1 =>
    let s := elTo o N m k
    (s.1.set (N - 1 - k) (s.2 % gt o (N - 1 - k)), s.2 / gt o (N - 1 - k))

def elAt (P : Pr) (m : Int) : List Int := (elTo P.orders P.orders.length m P.orders.length).1

theorem elTo_inv {P : Pr} (hP : Valid P) (m : Int) (hm : 0 ≤ m) (k : Nat) (hk : k ≤ P.orders.length) :
    Vec P.orders (elTo P.orders P.orders.length m k).1 ∧ 0 ≤ (elTo P.orders P.orders.length m k).2 ∧ (elTo P.orders P.orders.length m k).2 ≤ m := by
  induction k with
  | zero =>
    refine ⟨⟨by simp [elTo], fun i hi => ?_⟩, hm, Int.le_refl _⟩
    have := hP.ord7 i hi
    simp only [elTo]; rw [gt_replicate]; omega
  | succ k ih =>
    obtain ⟨h1, h2, h3⟩ := ih (by omega)
    have ho := hP.ord7 (P.orders.length - 1 - k) (by omega)
    refine ⟨h1.set _ _ ⟨Int.emod_nonneg _ (by omega), fun _ => Int.emod_lt_of_pos _ (by omega)⟩, Int.ediv_nonneg h2 (by omega), ?_⟩
    exact Int.le_trans (Int.ediv_le_self _ h2) h3

theorem elAt_vec {P : Pr} (hP : Valid P) (m : Int) (hm : 0 ≤ m) : Vec P.orders (elAt P m) := (elTo_inv hP m hm _ (Nat.le_refl _)).1

set_option maxHeartbeats 400000 in
theorem l10One_ok (P : Pr) (hP : Valid P) (w : World) (pv : Value) (Sp : Nat → Prop) (hp : PresV Sp w pv P) :
    Calls Tryz.prog 195 #[pv] w (Ret w fun w' v => Own w.heap.size w' v (zeros P.orders.length)) := by
  obtain ⟨vo, vp, vc, rfl, h3⟩ := hp
  have hn6 := hP.n6
  have hB := PresP.box h3 31
  obtain ⟨ao, capo, hco, hoi⟩ := hB.ordAt
  go_enter Tryz.func195, Tryz.ntmps195
  go_wp2_with (at_make; refine wp_make_ints rfl _ _ rfl (w.heap.size + 1) P.orders.length (w.heap.size + 1) (by simp) _ rfl rfl rfl (by omega) (by simp) ?_; intro w1 ho1 hg1 _)
  go_ret
  exact ⟨_, rfl, grown_trans (World.grownBy_alloc _ _ _) hg1, ho1.weak (by omega)⟩

set_option maxHeartbeats 1000000 in
theorem elementAt_ok (P : Pr) (hP : Valid P) (w : World) (p : Value) (m : Int) (Sp : Nat → Prop) (hp : PresP Sp w p P) (hm : 0 ≤ m) (hm2 : m ≤ 1000000000) :
    Calls Tryz.prog 147 #[p, .int .i64 m] w (Ret w fun w' v => Own w.heap.size w' v (elAt P m)) := by
  have hn6 := hP.n6
  obtain ⟨pb, po, rfl⟩ := hp.shape
  obtain ⟨ao, capo, hco0, hoi⟩ := hp.ordAt
  have hco := hco0
  go_enter Tryz.func147, Tryz.ntmps147
  go_wp2_with (at_make; refine wp_make_ints rfl _ _ rfl w.heap.size P.orders.length w.heap.size rfl _ rfl rfl rfl (by omega) (by simp) ?_; intro w1 ho1 hg1 _)
  clear hco
  have HCO := Lib.hid hco0; clear hco0
  go_loopw [1, 6] (fun mv i wr => ∃ k : Nat, i = .int .i64 ((P.orders.length : Int) - 1 - k) ∧ mv = .int .i64 (elTo P.orders P.orders.length m k).2 ∧ k ≤ P.orders.length ∧ Ext w wr ∧
      Own w.heap.size wr (.slice (some ⟨w.heap.size, 0, none⟩) P.orders.length P.orders.length) (elTo P.orders P.orders.length m k).1) (fun _ i _ => (intOf i + 1).toNat)
  case atStart => exact ⟨0, by simp, rfl, by omega, hg1, ho1⟩
  case round =>
    obtain ⟨k, rfl, rfl, hk, hg, hO⟩ := hrel
    obtain ⟨hv, hm0, hm1⟩ := elTo_inv hP m hm k hk
    by_cases hlt : k < P.orders.length
    · obtain ⟨b2, off2, rfl, _, _, hc20⟩ := Ints.at hoi (P.orders.length - 1 - k) (by omega)
      have hco := hg.cell HCO.out (by simp)
      have hc2 := hg.cell hc20 (by simp)
      have ho7 := hP.ord7 (P.orders.length - 1 - k) (by omega)
      have hc := hO.cell (P.orders.length - 1 - k) (by rw [hv.1]; omega)
      have hf := hO.frozen (P.orders.length - 1 - k)
      have hsucc : elTo P.orders P.orders.length m (k + 1) = ((elTo P.orders P.orders.length m k).1.set (P.orders.length - 1 - k) ((elTo P.orders P.orders.length m k).2 % gt P.orders (P.orders.length - 1 - k)), (elTo P.orders P.orders.length m k).2 / gt P.orders (P.orders.length - 1 - k)) := rfl
      have HSC := Lib.hid hsucc; clear hsucc
      obtain ⟨hO2, hg2⟩ := hO.store (P.orders.length - 1 - k) ((elTo P.orders P.orders.length m k).2 % gt P.orders (P.orders.length - 1 - k))
      have hgx : Ext w (wr.setCell ⟨w.heap.size, P.orders.length - 1 - k, none⟩ (.int .i64 ((elTo P.orders P.orders.length m k).2 % gt P.orders (P.orders.length - 1 - k)))) := grown_own hg hg2 (fun j hj hlt => by cases hj; omega)
      have hco3 := hgx.cell HCO.out (by simp)
      have hc23 := hgx.cell hc20 (by simp)
      clear hc20
      have hidx : ((P.orders.length : Int) - 1 - k).toNat = P.orders.length - 1 - k := by omega
      generalize hi : P.orders.length - 1 - k = i at *
      generalize (elTo P.orders P.orders.length m k).1 = L at *
      generalize (elTo P.orders P.orders.length m k).2 = M at *
      have ho70 : 2 ≤ gt P.orders i := ho7.1
      have ho71 : gt P.orders i ≤ 7 := ho7.2
      have HI := Lib.hid hi; clear hi ho7
      go_wp2
      go_roundw
      case rel => exact ⟨k + 1, by congr 1; omega, by rw [HSC.out], by omega, hgx, by rw [HSC.out]; exact hO2⟩
      case measure => simp [intOf]; omega
    · have hke : k = P.orders.length := by omega
      subst hke
      go_wp2
      go_ret
      exact ⟨_, rfl, hg, hO⟩

set_option maxHeartbeats 1000000 in
theorem l10At_ok (P : Pr) (hP : Valid P) (w : World) (pv : Value) (m : Int) (Sp : Nat → Prop) (hpv : PresV Sp w pv P) (hm : 0 ≤ m) (hm2 : m ≤ 1000000000) :
    Calls Tryz.prog 130 #[pv, .int .i64 m] w (Ret w fun w' v => Own w.heap.size w' v (elAt P m)) := by
  have hn6 := hP.n6
  obtain ⟨vo, vp, vc, rfl, h3⟩ := hpv
  have hp := PresP.box h3 31
  have hg0 : Ext w (w.alloc (.cells #[vo, vp, vc] 31)) := World.grownBy_alloc _ _ _
  obtain ⟨vo9, vp9, vc9, _, _, hc0, hc1, hc2, h39⟩ := hp.at
  obtain ⟨ao, capo, hco, hoi⟩ := hp.ordAt
  go_enter Tryz.func130, Tryz.ntmps130
  go_wp2_with fail
  have hs0 : (w.alloc (.cells #[vo, vp, vc] 31)).heap.size = w.heap.size + 1 := by simp
  have HS := Lib.hid hs0; clear hs0
  clear hc0 hc1 hc2
  have HCO := Lib.hid hco; clear hco
  generalize hw0 : w.alloc (.cells #[vo, vp, vc] 31) = w0 at *
  clear hw0
  refine Calls.mono (l10One_ok P hP w0 _ Any ⟨_, _, _, rfl, h39⟩) ?_
  rintro e1 w1 ⟨r, rfl, hg1, ho1⟩
  have hri := ho1.ints (by simp [zeros]; omega)
  obtain ⟨ar, capr, rfl, _, _⟩ := hri.shape
  have hzl : (zeros P.orders.length).length = P.orders.length := by simp [zeros]
  rw [hzl] at hri
  have ho1 : Own w0.heap.size w1 (.slice ar P.orders.length capr) (zeros P.orders.length) := by rw [hzl] at ho1; exact ho1
  simp only [hzl]
  clear hzl hri
  go_wp2
  go_loopw [1, 6] (fun mv i wr => ∃ k : Nat, i = .int .i64 ((P.orders.length : Int) - 1 - k) ∧ mv = .int .i64 (elTo P.orders P.orders.length m k).2 ∧ k ≤ P.orders.length ∧ Ext w0 wr ∧
      Own w0.heap.size wr (.slice ar P.orders.length capr) (elTo P.orders P.orders.length m k).1) (fun _ i _ => (intOf i + 1).toNat)
  case atStart => exact ⟨0, by simp, rfl, by omega, hg1, ho1⟩
  case round =>
    clear ho1
    obtain ⟨k, rfl, rfl, hk, hg, hO⟩ := hrel
    obtain ⟨hv, hm0, hm1⟩ := elTo_inv hP m hm k hk
    by_cases hlt : k < P.orders.length
    · obtain ⟨g, capg, hfm, hgb, hgs⟩ := hO.form (by rw [hv.1]; omega)
      rw [hv.1] at hfm
      obtain ⟨rfl, _⟩ : ar = some ⟨g, 0, none⟩ ∧ capr = capg := by cases hfm; exact ⟨rfl, rfl⟩
      clear hfm
      obtain ⟨b2, off2, rfl, _, _, hc20⟩ := Ints.at hoi (P.orders.length - 1 - k) (by omega)
      have hco := hg.cell HCO.out (by simp)
      have hc2 := hg.cell hc20 (by simp)
      have ho7 := hP.ord7 (P.orders.length - 1 - k) (by omega)
      have hc := hO.cell (P.orders.length - 1 - k) (by rw [hv.1]; omega)
      have hf := hO.frozen (P.orders.length - 1 - k)
      have hsucc : elTo P.orders P.orders.length m (k + 1) = ((elTo P.orders P.orders.length m k).1.set (P.orders.length - 1 - k) ((elTo P.orders P.orders.length m k).2 % gt P.orders (P.orders.length - 1 - k)), (elTo P.orders P.orders.length m k).2 / gt P.orders (P.orders.length - 1 - k)) := rfl
      have HSC := Lib.hid hsucc; clear hsucc
      obtain ⟨hO2, hg2⟩ := hO.store (P.orders.length - 1 - k) ((elTo P.orders P.orders.length m k).2 % gt P.orders (P.orders.length - 1 - k))
      have hgx : Ext w0 (wr.setCell ⟨g, P.orders.length - 1 - k, none⟩ (.int .i64 ((elTo P.orders P.orders.length m k).2 % gt P.orders (P.orders.length - 1 - k)))) := grown_own hg hg2 (fun j hj hlt => by cases hj; omega)
      have hco3 := hgx.cell HCO.out (by simp)
      have hc23 := hgx.cell hc20 (by simp)
      clear hc20
      have hidx : ((P.orders.length : Int) - 1 - k).toNat = P.orders.length - 1 - k := by omega
      generalize hi : P.orders.length - 1 - k = i at *
      generalize (elTo P.orders P.orders.length m k).1 = L at *
      generalize (elTo P.orders P.orders.length m k).2 = M at *
      have ho70 : 2 ≤ gt P.orders i := ho7.1
      have ho71 : gt P.orders i ≤ 7 := ho7.2
      have HI := Lib.hid hi; clear hi ho7
      go_wp2
      go_roundw
      case rel => exact ⟨k + 1, by congr 1; omega, by rw [HSC.out], by omega, hgx, by rw [HSC.out]; exact hO2⟩
      case measure => simp [intOf]; omega
    · have hke : k = P.orders.length := by omega
      subst hke
      go_wp2
      go_ret
      exact ⟨_, rfl, grown_trans hg0 hg, hO.weak (by have := HS.out; omega)⟩

end Go.Proofs.YtdklekdpdbjfiaaGreat

/- impl.allElements, impl.generators. -/
namespace Go.Proofs.YtdklekdpdbjfiaaGreat
open Go.RowKit

theorem und_rows : Tryz.prog.underlying 23 = some (.slice 22) := by kernel_rfl
theorem Tryz.infoRow : (Tryz.prog.info? 22).map (fun i => (i.zero, i.size, i.bytes)) = some (some (.slice none 0 0), 1, 24) := by kernel_rfl

/-- append(rows, row), the row made since -/
theorem wp_app_row {ops : Array Oper} {rest : List Oper} {o : Oper} {a : Act} {Q : Exit → Act → World → Prop} {w : World} (hgd : o.guard = none) (s x : Operand)
    (ho : o.op = Op.call { callee := Callee.builtin Builtin.append, args := #[s, x], argTypes := #[23, 23] }) (B : Nat) (w1 w2 : World) (v u : Value) (xs : List (List Int)) (y : List Int) (hs : a.eval s = v) (hown : RowsO B w1 v xs)
    (hg : Ext w1 w2) (hu : OwnIn (From w1.heap.size) w2 u y) (hw : w = w2.alloc (.cells #[u] 22)) (hx : a.eval x = .slice (some ⟨w2.heap.size, 0, none⟩) 1 1) (hlen : xs.length ≤ 1000000) (hbase : B ≤ w1.heap.size)
    (h : ∀ v' w', RowsO B w' v' (xs ++ [y]) → w1.grownBy w' v.ownBlock → w2.grownBy w' v.ownBlock → wpList Tryz.prog ops Q rest (a.put o.dst v') w') :
    wpList Tryz.prog ops Q (o :: rest) a w :=
  wp_app_one rdOwn 23 22 (.slice none 0 0) 24 und_rows Tryz.infoRow rfl (by decide) hgd s x ho B w1 w2 v u xs y hs hown hg hu hw hx hlen hbase h

theorem SlO.lt {α : Type} [Inhabited α] {El : (Nat → Prop) → World → Value → α → Prop} {E B : Nat} {w : World} {v : Value} {xs : List α} (h : SlO El E B w v xs) (k : Nat) (hk : v.ownBlock = some k) : B ≤ k ∧ k < w.heap.size := by
  obtain ⟨vs, G, _, hO, _⟩ := h
  exact hO.lt k hk

theorem SlO.extw {α : Type} [Inhabited α] {El : (Nat → Prop) → World → Value → α → Prop} {E B : Nat} {w w1 w2 : World} {v : Value} {xs : List α} (h : SlO El E B w1 v xs) (hg : Ext w w1) (hB : w.heap.size ≤ B) (k : w1.grownBy w2 v.ownBlock) : Ext w w2 :=
  grown_own hg k (fun j hj hlt => by have := (h.lt j hj).1; omega)

def allEl (P : Pr) : List (List Int) := (List.range (ordP P).toNat).map (fun k : Nat => elAt P (k : Int))

theorem range_map_succ {α : Type} (f : Nat → α) (k : Nat) : (List.range (k + 1)).map f = (List.range k).map f ++ [f k] := by
  rw [List.range_succ, List.map_append]; rfl

set_option maxHeartbeats 400000 in
theorem allElements_ok (P : Pr) (hP : Valid P) (w : World) (p : Value) (Sp : Nat → Prop) (hp : PresP Sp w p P) :
    Calls Tryz.prog 132 #[p] w (Ret w fun w' v => RowsO w.heap.size w' v (allEl P)) := by
  have h729 : ordP P ≤ 729 := hP.le729
  have hpos := hP.ordP_pos
  go_enter Tryz.func132, Tryz.ntmps132
  go_wp2_with (go_at_call 68; refine (orderOf_ok _ _ P Sp hP hp).mono ?_; rintro e1 w1 ⟨rfl, rfl⟩)
  go_loopw [3, 7] (fun v i wr => ∃ k : Nat, i = .int .i64 k ∧ k ≤ (ordP P).toNat ∧ Ext w wr ∧ RowsO w.heap.size wr v ((List.range k).map (fun k : Nat => elAt P (k : Int)))) (fun _ i _ => (ordP P).toNat - (intOf i).toNat)
  case atStart => exact ⟨0, rfl, by omega, Ext.refl _, SlO.nil _ _ _ _⟩
  case round =>
    obtain ⟨k, rfl, hk, hg, hO⟩ := hrel
    by_cases hlt : (k : Int) < ordP P
    · go_wp2_with fail
      refine Calls.mono (elementAt_ok P hP wr p k Sp (hp.ext hg) (by omega) (by omega)) ?_
      rintro e2 w2 ⟨r, rfl, hg2, hR⟩
      have hv := elAt_vec hP (k : Int) (by omega)
      have hRi : OwnIn (From wr.heap.size) w2 r (elAt P k) := OwnIn.of hR (by rw [hv.1]; have := hP.n6; omega) (fun j hj _ => hj)
      clear hv
      obtain ⟨ar, capr, rfl, _, _⟩ := hRi.ints.shape
      go_wp2_with (at_builtin; go_must (refine wp_app_row rfl _ _ rfl w.heap.size wr w2 _ _ _ (elAt P k) rfl hO hg2 hRi rfl rfl (by simp; omega) hg.size ?_); intro v3 w3 hO3 hg3 hg4)
      have hgx := hO.extw hg (Nat.le_refl _) hg3
      rw [← range_map_succ (fun k : Nat => elAt P (k : Int))] at hO3
      go_roundw
      case rel => exact ⟨k + 1, by go_num, by omega, hgx, hO3⟩
      case measure => simp [intOf]; omega
    · have hke : k = (ordP P).toNat := by omega
      subst hke
      go_wp2
      go_ret
      exact ⟨_, rfl, hg, hO⟩

/-- the generators of a group -/
def gensOf (n : Nat) : List (List Int) := (List.range n).map (fun k : Nat => unitV n k)

set_option maxHeartbeats 400000 in
theorem generators_ok (P : Pr) (hP : Valid P) (w : World) (p : Value) (Sp : Nat → Prop) (hp : PresP Sp w p P) :
    Calls Tryz.prog 149 #[p] w (Ret w fun w' v => RowsO w.heap.size w' v (gensOf P.orders.length)) := by
  have hn6 := hP.n6
  obtain ⟨pb, po, rfl⟩ := hp.shape
  obtain ⟨ao, capo, hco0, hoi⟩ := hp.ordAt
  have hco := hco0
  go_enter Tryz.func149, Tryz.ntmps149
  go_wp2
  clear hco
  have HCO := Lib.hid hco0; clear hco0
  go_loopw [3, 10] (fun v i wr => ∃ k : Nat, i = .int .i64 k ∧ k ≤ P.orders.length ∧ Ext w wr ∧ RowsO w.heap.size wr v ((List.range k).map (fun k : Nat => unitV P.orders.length k))) (fun _ i _ => P.orders.length - (intOf i).toNat)
  case atStart => exact ⟨0, rfl, by omega, Ext.refl _, SlO.nil _ _ _ _⟩
  case round =>
    obtain ⟨k, rfl, hk, hg, hO⟩ := hrel
    by_cases hlt : k < P.orders.length
    · have hco := hg.cell HCO.out (by simp)
      go_wp2_with fail
      refine Calls.mono (unitVector_ok P.orders.length k wr hlt (by omega)) ?_
      rintro e2 w2 ⟨r, rfl, hg2, hR⟩
      have hRi : OwnIn (From wr.heap.size) w2 r (unitV P.orders.length k) := OwnIn.of hR (by simp [unitV]; omega) (fun j hj _ => hj)
      obtain ⟨ar, capr, rfl, _, _⟩ := hRi.ints.shape
      go_wp2_with (at_builtin; go_must (refine wp_app_row rfl _ _ rfl w.heap.size wr w2 _ _ _ (unitV P.orders.length k) rfl hO hg2 hRi rfl rfl (by simp; omega) hg.size ?_); intro v3 w3 hO3 hg3 hg4)
      have hgx := hO.extw hg (Nat.le_refl _) hg3
      rw [← range_map_succ (fun k : Nat => unitV P.orders.length k)] at hO3
      go_roundw
      case rel => exact ⟨k + 1, by go_num, by omega, hgx, hO3⟩
      case measure => simp [intOf]; omega
    · have hke : k = P.orders.length := by omega
      subst hke
      go_wp2
      go_ret
      exact ⟨_, rfl, hg, hO⟩

end Go.Proofs.YtdklekdpdbjfiaaGreat

/- The laws' copies of an argument: laws.toInt64S, toInt64SS, toInt64SSS, toPresentation: each part in blocks of its own. -/
namespace Go.Proofs.YtdklekdpdbjfiaaGreat
open Go.RowKit

theorem SlD.nil {α : Type} [Inhabited α] (El : (Nat → Prop) → World → Value → α → Prop) (F : Nat → Prop) (w : World) : SlD El F w (.slice none 0 0) ([] : List α) :=
  ⟨fun _ _ => False, fun _ => False, by simp, by simp, by simp, none, 0, rfl, ⟨by simp, by simp, fun _ => rfl⟩, by simp⟩

theorem SlD.map {α : Type} [Inhabited α] {El El' : (Nat → Prop) → World → Value → α → Prop} (h0 : ∀ F w u x, El F w u x → El' F w u x) {F : Nat → Prop} {w : World} {v : Value} {xs : List α} (h : SlD El F w v xs) : SlD El' F w v xs := by
  obtain ⟨G, H, h1, h2, h3, a, cap, hv, hl, hc⟩ := h
  exact ⟨G, H, h1, h2, h3, a, cap, hv, hl, fun i hi => by
    obtain ⟨b, off, u, e1, e2, e3, e4, e5⟩ := hc i hi
    exact ⟨b, off, u, e1, e2, e3, e4, h0 _ _ _ _ e5⟩⟩
theorem SlO.map {α : Type} [Inhabited α] {El El' : (Nat → Prop) → World → Value → α → Prop} (h0 : ∀ F w u x, El F w u x → El' F w u x) {E B : Nat} {w : World} {v : Value} {xs : List α} (h : SlO El E B w v xs) : SlO El' E B w v xs := by
  obtain ⟨vs, G, a, b, c, d, e⟩ := h
  exact ⟨vs, G, a, b, c, d, fun i hi => h0 _ _ _ _ (e i hi)⟩

abbrev RowsW (F : Nat → Prop) (w : World) (v : Value) (xs : List (List Int)) : Prop := RowsD F w v xs
theorem rdRowsW : RdOk (fun F w u (x : List (List Int)) => RowsW F w u x) := rdRows
abbrev Rows3W (F : Nat → Prop) (w : World) (v : Value) (xs : List (List (List Int))) : Prop := Rows3D F w v xs
theorem RowsW.d {F : Nat → Prop} {w : World} {v : Value} {xs : List (List Int)} (h : RowsW F w v xs) : RowsD F w v xs := h
theorem Rows3W.d {F : Nat → Prop} {w : World} {v : Value} {xs : List (List (List Int))} (h : Rows3W F w v xs) : Rows3D F w v xs := h

/-- one element is put in its place -/
theorem SlO.store {α : Type} [Inhabited α] {El : (Nat → Prop) → World → Value → α → Prop} (hEl : RdOk El) {E B g n cap : Nat} {w1 w2 : World} {xs : List α} {u : Value} {y : α} (h : SlO El E B w1 (.slice (some ⟨g, 0, none⟩) n cap) xs)
    (hg : Ext w1 w2) (hu : El (From w1.heap.size) w2 u y) (j : Nat) :
    SlO El E B (w2.setCell ⟨g, j, none⟩ u) (.slice (some ⟨g, 0, none⟩) n cap) (xs.set j y) ∧ w2.grownBy (w2.setCell ⟨g, j, none⟩ u) (some g) := by
  obtain ⟨vs, G, hvl, hO, hG, hd, hE⟩ := h
  have hgl := hO.lt g rfl
  have hO2 : OwnV B E w2 (.slice (some ⟨g, 0, none⟩) n cap) vs := hO.kept hg (by simp [Value.ownBlock])
  have hn : n = vs.length := by
    obtain ⟨_, ⟨h, _⟩ | ⟨_, _, _, h, _⟩⟩ := hO2 <;> cases h; rfl
  subst hn
  obtain ⟨h1, h2⟩ := World.ownsRow.stored hO2 j u
  have hsz : (w2.setCell ⟨g, j, none⟩ u).heap.size = w2.heap.size := by simp [World.setCell]
  have hblk : ∀ k, k ≠ g → (w2.setCell ⟨g, j, none⟩ u).heap[k]? = w2.heap[k]? := fun k hk => Below.heap_setCell _ _ _ _ (by simpa using hk)
  have hB1 : B ≤ w1.heap.size := by omega
  refine ⟨⟨vs.set j u, fun i k => if i = j then w1.heap.size ≤ k ∧ k < w2.heap.size else G i k ∧ k < w1.heap.size, by simp [hvl], ?_, ?_, ?_, ?_⟩, h2⟩
  · unfold OwnV; rw [List.length_set]; exact h1
  · intro i k hi hk
    rw [List.length_set] at hi
    simp only [Value.ownBlock]
    split at hk
    · exact ⟨by omega, by intro e; cases e; omega, by omega⟩
    · obtain ⟨a1, a2, a3⟩ := hG i k hi hk.1
      exact ⟨a1, a2, by have := hg.size; omega⟩
  · intro i i' k hi hi' hk hk'
    rw [List.length_set] at hi hi'
    split at hk <;> split at hk'
    · omega
    · omega
    · omega
    · exact hd i i' k hi hi' hk.1 hk'.1
  · intro i hi
    rw [List.length_set] at hi
    by_cases e : j = i
    · subst e
      rw [gt_set_eq _ _ _ (by omega), gt_set_eq _ _ _ hi]
      simp only [if_true]
      exact hEl.mono hu (fun k hk hlt => ⟨⟨hk, hlt⟩, by omega, hblk k (by have hk : w1.heap.size ≤ k := hk; omega)⟩)
    · rw [gt_set_ne _ _ _ _ e, gt_set_ne _ _ _ _ e]
      simp only [if_neg (fun h : i = j => e h.symm)]
      refine hEl.mono (hE i hi) (fun k hk hlt => ⟨⟨hk, hlt⟩, by have := hg.size; omega, ?_⟩)
      rw [hblk k (fun e => (hG i k hi hk).2.1 (by rw [e]; rfl))]
      exact hg.block k hlt (by simp)

/-- make([]T, n) for elements that are slices -/
theorem wp_make_sl {α : Type} {El : (Nat → Prop) → World → Value → List α → Prop} (T E : Nat) (hT : Tryz.prog.underlying T = some (.slice E)) (hEi : (Tryz.prog.info? E).map (fun i => (i.zero, i.size, i.bytes)) = some (some (.slice none 0 0), 1, 24))
    (h0 : ∀ w, El (fun _ => False) w (.slice none 0 0) [])
    {ops : Array Oper} {rest : List Oper} {o : Oper} {a : Act} {Q : Exit → Act → World → Prop} {w : World} (hgd : o.guard = none) (l c : Operand)
    (ho : o.op = Op.makeSlice T l c) (base n H : Nat) (hH : w.heap.size = H) (L : Int) (hl : a.eval l = .int .i64 L) (hc : a.eval c = .int .i64 L) (hL : L = n) (hn : n ≤ 2147483648) (hbase : base ≤ H)
    (h : ∀ w', SlO El E base w' (.slice (some ⟨H, 0, none⟩) n n) (List.replicate n ([] : List α)) → Ext w w' → H < w'.heap.size → wpList Tryz.prog ops Q rest (a.put o.dst (.slice (some ⟨H, 0, none⟩) n n)) w') :
    wpList Tryz.prog ops Q (o :: rest) a w := by
  subst hH
  obtain ⟨i0, hi, hz0, hz1, hz2⟩ := info_parts hEi
  refine wpList_make_full w hgd l c T ho base E i0 (.slice none 0 0) 1 hT hi hz0 hz1 .i64 .i64 L L n hl hc hL hL (by rw [hz2]; omega) (by unfold maxLen; omega) hbase ?_
  intro w' h1 h2
  refine h w' ?_ h2 (h1.lt w.heap.size rfl).2
  have e : (madeCells (Value.cells (.slice none 0 0)) (n * 1)).toList = List.replicate n (Value.slice none 0 0) := by
    rw [show Value.cells (.slice none 0 0) = #[.slice none 0 0] from rfl, toList_madeCells_one]; simp
  rw [e] at h1
  refine ⟨List.replicate n (.slice none 0 0), fun _ _ => False, by simp, ?_, by simp, by simp, fun i hi => ?_⟩
  · unfold OwnV; rw [List.length_replicate]; exact h1
  · rw [List.length_replicate] at hi
    have e1 : gt (List.replicate n (Value.slice none 0 0)) i = .slice none 0 0 := by simp [gt, hi]
    have e2 : gt (List.replicate n ([] : List α)) i = [] := by simp [gt, hi]
    rw [e1, e2]; exact h0 w'

/-- the first k elements of l, behind them z -/
def cpTo {α : Type} (l : List α) (z : α) (k : Nat) : List α := l.take k ++ List.replicate (l.length - k) z
theorem cpTo_len {α : Type} (l : List α) (z : α) (k : Nat) (hk : k ≤ l.length) : (cpTo l z k).length = l.length := by unfold cpTo; simp; omega
theorem cpTo_zero {α : Type} (l : List α) (z : α) : cpTo l z 0 = List.replicate l.length z := by simp [cpTo]
theorem cpTo_all {α : Type} (l : List α) (z : α) : cpTo l z l.length = l := by simp [cpTo]
theorem cpTo_step {α : Type} [Inhabited α] (l : List α) (z : α) (k : Nat) (hk : k < l.length) : (cpTo l z k).set k (gt l k) = cpTo l z (k + 1) := by
  unfold cpTo
  rw [List.set_append, if_neg (by simp; omega), show k - (l.take k).length = 0 by simp; omega, show l.length - k = (l.length - (k + 1)) + 1 by omega, List.replicate_succ, List.set_cons_zero, take_succ_gt l k hk, List.append_assoc]
  rfl

set_option maxHeartbeats 400000 in
theorem toInt64S_ok (v : Value) (l : List Int) (w : World) (S : Nat → Prop) (h : Ints S w v l) (hl : l.length ≤ 1048576) :
    Calls Tryz.prog 26 #[v] w (Ret w fun w' r => Own w.heap.size w' r l) := by
  obtain ⟨a, cap, rfl, _, hlen⟩ := h.shape
  go_enter Tryz.func26, Tryz.ntmps26
  go_wp2_with (at_make; refine wp_make_ints rfl _ _ rfl w.heap.size l.length w.heap.size rfl _ rfl rfl rfl (by omega) (Nat.le_refl _) ?_; intro w1 ho1 hg1 hlt1)
  rw [← cpTo_zero] at ho1
  go_loopw [4] (fun iv wr => ∃ k : Nat, iv = .int .i64 k ∧ k ≤ l.length ∧ Ext w wr ∧ Own w.heap.size wr (.slice (some ⟨w.heap.size, 0, none⟩) l.length l.length) (cpTo l 0 k)) (fun iv _ => l.length - (intOf iv).toNat)
  case atStart => exact ⟨0, rfl, by omega, hg1, ho1⟩
  case round =>
    obtain ⟨k, rfl, hk, hg, hO⟩ := hrel
    by_cases hlt : k < l.length
    · obtain ⟨b, off, rfl, _, hbl, hc⟩ := Ints.at (h.ext hg) k hlt
      have hcw := hO.cell k (by rw [cpTo_len _ _ _ hk]; exact hlt)
      have hfr := hO.frozen k
      obtain ⟨hs1, hs2⟩ := hO.store k (gt l k)
      have hgn : Ext w (wr.setCell ⟨w.heap.size, k, none⟩ (.int .i64 (gt l k))) := grown_own hg hs2 (fun j hj hlt => by cases hj; omega)
      rw [cpTo_step l 0 k hlt] at hs1
      clear hs2
      go_wp2
      go_roundw
      case rel => exact ⟨k + 1, by go_num, by omega, hgn, hs1⟩
      case measure => simp [intOf]; omega
    · have hke : k = l.length := by omega
      subst hke
      rw [cpTo_all] at hO
      go_wp2
      go_ret
      exact ⟨_, rfl, hg, hO⟩

-- rows

/-- a place of an own row may be written -/
theorem SlO.place {α : Type} [Inhabited α] {El : (Nat → Prop) → World → Value → α → Prop} {E B g n cap : Nat} {w : World} {xs : List α} (h : SlO El E B w (.slice (some ⟨g, 0, none⟩) n cap) xs) (k : Nat) (hk : k < xs.length) :
    (∃ z, w.cell? ⟨g, k, none⟩ = some z) ∧ w.frozen? ⟨g, k, none⟩ = false := by
  obtain ⟨vs, G, hvl, hO, _⟩ := h
  refine ⟨⟨_, hO.cell k (by omega)⟩, ?_⟩
  have hn : n = vs.length := by
    obtain ⟨_, ⟨h, _⟩ | ⟨_, _, _, h, _⟩⟩ := hO <;> cases h; rfl
  subst hn
  exact World.ownsRow.frozenAt hO k
theorem Tryz.infoRows : (Tryz.prog.info? 23).map (fun i => (i.zero, i.size, i.bytes)) = some (some (.slice none 0 0), 1, 24) := by kernel_rfl
theorem und_rows3 : Tryz.prog.underlying 24 = some (.slice 23) := by kernel_rfl

set_option maxHeartbeats 1000000 in
theorem toInt64SS_ok (v : Value) (xs : List (List Int)) (w : World) (S : Nat → Prop) (h : Rows2 S w v xs) (hl : size2 xs ≤ 1048576) :
    Calls Tryz.prog 53 #[v] w (Ret w fun w' r => SlO OwnIn 22 w.heap.size w' r xs) := by
  obtain ⟨a, cap, rfl, _, hlen⟩ := Sl.shape h
  have hlx : xs.length ≤ 1048576 := by unfold size2 at hl; omega
  have hsub : ∀ k, k < xs.length → List.length (gt xs k) ≤ 1048576 := fun k hk => by
    have := szTo_mono List.length xs (show k + 1 ≤ xs.length by omega)
    simp only [szTo] at this
    unfold size2 at hl; omega
  have HS := Lib.hid hsub; clear hsub hl
  go_enter Tryz.func53, Tryz.ntmps53
  go_wp2_with (at_make; refine wp_make_sl (El := OwnIn) 23 22 und_rows Tryz.infoRow (fun w => OwnIn.nil _ w) rfl _ _ rfl w.heap.size xs.length w.heap.size rfl _ rfl rfl rfl (by omega) (Nat.le_refl _) ?_; intro w1 ho1 hg1 hlt1)
  rw [← cpTo_zero] at ho1
  go_loopw [4] (fun iv wr => ∃ k : Nat, iv = .int .i64 k ∧ k ≤ xs.length ∧ Ext w wr ∧ SlO OwnIn 22 w.heap.size wr (.slice (some ⟨w.heap.size, 0, none⟩) xs.length xs.length) (cpTo xs [] k)) (fun iv _ => xs.length - (intOf iv).toNat)
  case atStart => exact ⟨0, rfl, by omega, hg1, ho1⟩
  case round =>
    obtain ⟨k, rfl, hk, hg, hO⟩ := hrel
    by_cases hlt : k < xs.length
    · obtain ⟨b, off, a2, cap2, rfl, _, _, hc2, hi2⟩ := Rows2.at (Rows2.ext h hg) k hlt
      go_wp2_with fail
      refine Calls.mono (toInt64S_ok _ _ wr S hi2 (HS.out k hlt)) ?_
      rintro eA wA ⟨vA, rfl, hgA, hA⟩
      have hEl := OwnIn.of (F := From wr.heap.size) hA (by have := HS.out k hlt; omega) (fun j hj _ => hj)
      obtain ⟨aA, capA, rfl, _, _⟩ := hEl.ints.shape
      obtain ⟨⟨z, hcw⟩, hfr⟩ := (hO.ext rdOwn hgA).place k (by rw [cpTo_len _ _ _ hk]; exact hlt)
      obtain ⟨hs1, hs2⟩ := hO.store rdOwn hgA hEl k
      have hgn : Ext w (wA.setCell ⟨w.heap.size, k, none⟩ (.slice aA (gt xs k).length capA)) := grown_own (grown_trans hg hgA) hs2 (fun j hj hlt => by cases hj; omega)
      rw [cpTo_step xs [] k hlt] at hs1
      clear hs2 hc2 hi2 hA hEl hO
      go_wp2
      go_roundw
      case rel => exact ⟨k + 1, by go_num, by omega, hgn, hs1⟩
      case measure => simp [intOf]; omega
    · have hke : k = xs.length := by omega
      subst hke
      rw [cpTo_all] at hO
      go_wp2
      go_ret
      exact ⟨_, rfl, hg, hO⟩

set_option maxHeartbeats 1000000 in
theorem toInt64SSS_ok (v : Value) (xs : List (List (List Int))) (w : World) (S : Nat → Prop) (h : Rows3 S w v xs) (hl : size3 xs ≤ 1048576) :
    Calls Tryz.prog 19 #[v] w (Ret w fun w' r => SlO (fun F w u (x : List (List Int)) => RowsW F w u x) 23 w.heap.size w' r xs) := by
  obtain ⟨a, cap, rfl, _, hlen⟩ := Sl.shape h
  have hlx : xs.length ≤ 1048576 := by unfold size3 at hl; omega
  have hsub : ∀ k, k < xs.length → size2 (gt xs k) ≤ 1048576 := fun k hk => by
    have := szTo_mono size2 xs (show k + 1 ≤ xs.length by omega)
    simp only [szTo] at this
    unfold size3 at hl; omega
  have HS := Lib.hid hsub; clear hsub hl
  go_enter Tryz.func19, Tryz.ntmps19
  go_wp2_with (at_make; refine wp_make_sl (El := (fun F w u (x : List (List Int)) => RowsW F w u x)) 24 23 und_rows3 Tryz.infoRows (fun w => SlD.nil _ _ w) rfl _ _ rfl w.heap.size xs.length w.heap.size rfl _ rfl rfl rfl (by omega) (Nat.le_refl _) ?_; intro w1 ho1 hg1 hlt1)
  rw [← cpTo_zero] at ho1
  go_loopw [4] (fun iv wr => ∃ k : Nat, iv = .int .i64 k ∧ k ≤ xs.length ∧ Ext w wr ∧ SlO (fun F w u (x : List (List Int)) => RowsW F w u x) 23 w.heap.size wr (.slice (some ⟨w.heap.size, 0, none⟩) xs.length xs.length) (cpTo xs [] k)) (fun iv _ => xs.length - (intOf iv).toNat)
  case atStart => exact ⟨0, rfl, by omega, hg1, ho1⟩
  case round =>
    obtain ⟨k, rfl, hk, hg, hO⟩ := hrel
    by_cases hlt : k < xs.length
    · obtain ⟨b, off, a2, cap2, rfl, _, _, hc2, hi2⟩ := Rows3.at (Rows3.ext h hg) k hlt
      go_wp2_with fail
      refine Calls.mono (toInt64SS_ok _ _ wr S hi2 (HS.out k hlt)) ?_
      rintro eA wA ⟨vA, rfl, hgA, hA⟩
      have hEl := SlO.toD hA (by have := HS.out k hlt; unfold size2 at this; omega)
      obtain ⟨aA, capA, rfl, _, _⟩ := SlD.shape hEl
      obtain ⟨⟨z, hcw⟩, hfr⟩ := (hO.ext rdRowsW hgA).place k (by rw [cpTo_len _ _ _ hk]; exact hlt)
      obtain ⟨hs1, hs2⟩ := hO.store rdRowsW hgA hEl k
      have hgn : Ext w (wA.setCell ⟨w.heap.size, k, none⟩ (.slice aA (gt xs k).length capA)) := grown_own (grown_trans hg hgA) hs2 (fun j hj hlt => by cases hj; omega)
      rw [cpTo_step xs [] k hlt] at hs1
      clear hs2 hc2 hi2 hA hEl hO
      go_wp2
      go_roundw
      case rel => exact ⟨k + 1, by go_num, by omega, hgn, hs1⟩
      case measure => simp [intOf]; omega
    · have hke : k = xs.length := by omega
      subst hke
      rw [cpTo_all] at hO
      go_wp2
      go_ret
      exact ⟨_, rfl, hg, hO⟩

end Go.Proofs.YtdklekdpdbjfiaaGreat

/- laws.toPresentation: a copy of a presentation, each part in blocks of its own. -/
namespace Go.Proofs.YtdklekdpdbjfiaaGreat
open Go.RowKit

/-- a presentation by value whose parts lie in blocks of their own, all in F -/
def PresW (F : Nat → Prop) (w : World) (v : Value) (P : Pr) : Prop :=
  ∃ vo vp vc Fo Fp Fc, v = .agg #[vo, vp, vc] ∧ OwnIn Fo w vo P.orders ∧ RowsW Fp w vp P.powers ∧ Rows3W Fc w vc P.conj ∧
    (∀ k, Fo k → F k ∧ ¬ Fp k ∧ ¬ Fc k) ∧ (∀ k, Fp k → F k ∧ ¬ Fc k) ∧ (∀ k, Fc k → F k)

theorem PresW.mono {F F' : Nat → Prop} {w w' : World} {v : Value} {P : Pr} (h : PresW F w v P) (hb : ∀ k, F k → k < w.heap.size → F' k ∧ k < w'.heap.size ∧ w'.heap[k]? = w.heap[k]?) : PresW F' w' v P := by
  obtain ⟨vo, vp, vc, Fo, Fp, Fc, rfl, h1, h2, h3, h4, h5, h6⟩ := h
  refine ⟨vo, vp, vc, fun k => Fo k ∧ k < w.heap.size, fun k => Fp k ∧ k < w.heap.size, fun k => Fc k ∧ k < w.heap.size, rfl, rdOwn.mono h1 (fun k hk hlt => ⟨⟨hk, hlt⟩, (hb k (h4 k hk).1 hlt).2⟩),
    rdRowsW.mono h2 (fun k hk hlt => ⟨⟨hk, hlt⟩, (hb k (h5 k hk).1 hlt).2⟩), SlD.mono rdRowsW h3 (fun k hk hlt => ⟨⟨hk, hlt⟩, (hb k (h6 k hk) hlt).2⟩), fun k hk => ?_, fun k hk => ?_, fun k hk => ?_⟩
  · exact ⟨(hb k (h4 k hk.1).1 hk.2).1, fun h => (h4 k hk.1).2.1 h.1, fun h => (h4 k hk.1).2.2 h.1⟩
  · exact ⟨(hb k (h5 k hk.1).1 hk.2).1, fun h => (h5 k hk.1).2 h.1⟩
  · exact (hb k (h6 k hk.1) hk.2).1

theorem PresW.ext {F : Nat → Prop} {w w' : World} {v : Value} {P : Pr} (h : PresW F w v P) (hg : Ext w w') : PresW F w' v P := h.mono (frame_ext hg)

theorem PresW.v {F : Nat → Prop} {w : World} {v : Value} {P : Pr} (h : PresW F w v P) : PresV F w v P := by
  obtain ⟨vo, vp, vc, Fo, Fp, Fc, rfl, h1, h2, h3, h4, h5, h6⟩ := h
  exact ⟨vo, vp, vc, rfl, ⟨Ints.sub h1.ints (fun k hk _ => (h4 k hk).1), Rows2.sub (RowsD.rows (RowsW.d h2)) (fun k hk _ => (h5 k hk).1), Rows3.sub (Rows3D.rows (Rows3W.d h3)) (fun k hk _ => h6 k hk)⟩⟩

theorem PresW.shape {F : Nat → Prop} {w : World} {v : Value} {P : Pr} (h : PresW F w v P) : ∃ a c a2 c2 a3 c3, v = .agg #[.slice a P.orders.length c, .slice a2 P.powers.length c2, .slice a3 P.conj.length c3] := by
  obtain ⟨vo, vp, vc, Fo, Fp, Fc, rfl, h1, h2, h3, _⟩ := h
  obtain ⟨a, c, rfl, _⟩ := h1.ints.shape
  obtain ⟨a2, c2, rfl, _⟩ := SlD.shape h2
  obtain ⟨a3, c3, rfl, _⟩ := SlD.shape h3
  exact ⟨_, _, _, _, _, _, rfl⟩

theorem ext_store {w wB : World} {rc : Nat} (hg : Ext w wB) (hrc : w.heap.size ≤ rc) (k : Nat) (v : Value) : Ext w (wB.setCell ⟨rc, k, none⟩ v) :=
  grown_own hg ⟨rfl, rfl, rfl, by simp [World.setCell], fun j _ hj => Below.heap_setCell _ _ _ _ (by intro e; exact hj (by rw [e]))⟩ (q := some rc) (fun j hj hlt => by cases hj; omega)

/-- a struct of three cells that may be written -/
def Box3 (W : World) (b : Nat) (x0 x1 x2 : Value) : Prop :=
  b < W.heap.size ∧ W.cell? ⟨b, 0, none⟩ = some x0 ∧ W.cell? ⟨b, 1, none⟩ = some x1 ∧ W.cell? ⟨b, 2, none⟩ = some x2 ∧ ∀ k, W.frozen? ⟨b, k, none⟩ = false
theorem Box3.ext {W W' : World} {b : Nat} {x0 x1 x2 : Value} (h : Box3 W b x0 x1 x2) (hg : Ext W W') : Box3 W' b x0 x1 x2 := by
  obtain ⟨h0, h1, h2, h3, h4⟩ := h
  exact ⟨Nat.lt_of_lt_of_le h0 hg.size, hg.cell h1 (by simp), hg.cell h2 (by simp), hg.cell h3 (by simp), fun k => (World.frozen?_of_block (w := W) (hg.block b h0 (by simp))).trans (h4 k)⟩
theorem Box3.far {W : World} {b c j : Nat} {x0 x1 x2 v : Value} (h : Box3 W b x0 x1 x2) (hne : b ≠ c) : Box3 (W.setCell ⟨c, j, none⟩ v) b x0 x1 x2 := by
  obtain ⟨h0, h1, h2, h3, h4⟩ := h
  have e : (W.setCell ⟨c, j, none⟩ v).heap[b]? = W.heap[b]? := Below.heap_setCell _ _ _ _ (by simpa using hne)
  exact ⟨by simpa [World.setCell] using h0, (World.cell?_of_block (w := W) e).trans h1, (World.cell?_of_block (w := W) e).trans h2, (World.cell?_of_block (w := W) e).trans h3, fun k => (World.frozen?_of_block (w := W) e).trans (h4 k)⟩
theorem Box3.put {W : World} {b : Nat} {x0 x1 x2 : Value} (h : Box3 W b x0 x1 x2) (v : Value) :
    Box3 (W.setCell ⟨b, 0, none⟩ v) b v x1 x2 ∧ Box3 (W.setCell ⟨b, 1, none⟩ v) b x0 v x2 ∧ Box3 (W.setCell ⟨b, 2, none⟩ v) b x0 x1 v := by
  obtain ⟨h0, h1, h2, h3, h4⟩ := h
  have hs : ∀ k, b < (W.setCell ⟨b, k, none⟩ v).heap.size := fun k => by simpa [World.setCell] using h0
  refine ⟨⟨hs 0, World.cell?_setCell_same _ _ _ h1, ?_, ?_, fun k => by simp [h4]⟩, ⟨hs 1, ?_, World.cell?_setCell_same _ _ _ h2, ?_, fun k => by simp [h4]⟩, ⟨hs 2, ?_, ?_, World.cell?_setCell_same _ _ _ h3, fun k => by simp [h4]⟩⟩
  all_goals first
    | exact (World.cell?_setCell_other _ _ _ _ (by simp)).trans h1
    | exact (World.cell?_setCell_other _ _ _ _ (by simp)).trans h2
    | exact (World.cell?_setCell_other _ _ _ _ (by simp)).trans h3
theorem Box3.made (w : World) (T : Nat) (x0 x1 x2 : Value) : Box3 (w.alloc (.cells #[x0, x1, x2] T)) w.heap.size x0 x1 x2 := by
  refine ⟨by simp, ?_, ?_, ?_, fun k => World.frozen?_alloc_at _ _ _ _ rfl⟩ <;> (rw [World.cell?_alloc_at _ _ _ _ rfl]; rfl)

set_option maxRecDepth 100000 in
set_option maxHeartbeats 4000000 in
theorem toPresentation_ok (v : Value) (P : Pr) (w : World) (S : Nat → Prop) (h : PresV S w v P) (hl : sizeP P ≤ 1048576) :
    Calls Tryz.prog 18 #[v] w (Ret w fun w' r => PresW (From w.heap.size) w' r P) := by
  obtain ⟨vo, vp, vc, rfl, h3⟩ := h
  have hso : P.orders.length ≤ 1048576 := by unfold sizeP at hl; omega
  have hsp : size2 P.powers ≤ 1048576 := by unfold sizeP at hl; omega
  have hsc : size3 P.conj ≤ 1048576 := by unfold sizeP at hl; omega
  have HS := Lib.hid (And.intro hso (And.intro hsp hsc)); clear hso hsp hsc hl
  go_enter Tryz.func18, Tryz.ntmps18
  have hg0 : Ext w (((w.alloc (.cells #[vo, vp, vc] 26)).alloc (.cells #[.slice none 0 0, .slice none 0 0, .slice none 0 0] 31)).alloc (.cells #[.slice none 0 0, .slice none 0 0, .slice none 0 0] 31)) :=
    grown_trans (World.grownBy_alloc _ _ _) (grown_trans (World.grownBy_alloc _ _ _) (World.grownBy_alloc _ _ _))
  have hA0 : Box3 (((w.alloc (.cells #[vo, vp, vc] 26)).alloc (.cells #[.slice none 0 0, .slice none 0 0, .slice none 0 0] 31)).alloc (.cells #[.slice none 0 0, .slice none 0 0, .slice none 0 0] 31)) w.heap.size vo vp vc :=
    ((Box3.made w _ vo vp vc).ext (World.grownBy_alloc _ _ _)).ext (World.grownBy_alloc _ _ _)
  have hR0 := (Box3.made (w.alloc (.cells #[vo, vp, vc] 26)) 31 (.slice none 0 0) (.slice none 0 0) (.slice none 0 0)).ext (World.grownBy_alloc _ (.cells #[.slice none 0 0, .slice none 0 0, .slice none 0 0] 31) _)
  have hO0 := Box3.made ((w.alloc (.cells #[vo, vp, vc] 26)).alloc (.cells #[.slice none 0 0, .slice none 0 0, .slice none 0 0] 31)) 31 (.slice none 0 0) (.slice none 0 0) (.slice none 0 0)
  have hs1 : (w.alloc (.cells #[vo, vp, vc] 26)).heap.size = w.heap.size + 1 := by simp
  have hs2 : ((w.alloc (.cells #[vo, vp, vc] 26)).alloc (.cells #[.slice none 0 0, .slice none 0 0, .slice none 0 0] 31)).heap.size = w.heap.size + 1 + 1 := by simp
  rw [hs1] at hR0
  rw [hs2] at hO0
  have HB := Lib.hid (And.intro hA0 (And.intro hR0 hO0)); clear hA0 hR0 hO0 hs1 hs2
  go_wp2_with fail
  generalize hw0 : ((w.alloc (.cells #[vo, vp, vc] 26)).alloc (.cells #[.slice none 0 0, .slice none 0 0, .slice none 0 0] 31)).alloc (.cells #[.slice none 0 0, .slice none 0 0, .slice none 0 0] 31) = w0 at *
  clear hw0
  have hsz0 : w.heap.size + 1 + 1 < w0.heap.size := HB.out.2.2.1
  refine Calls.mono (toInt64S_ok _ _ _ _ (h3.o.ext hg0) HS.out.1) ?_
  rintro eA wA ⟨vA, rfl, hgA, hA⟩
  have hAi := hA.ints (by have := HS.out.1; omega)
  obtain ⟨aA, capA, rfl, _, _⟩ := hAi.shape
  clear hAi
  have a1 := (HB.out.1.ext hgA)
  have r1 := (HB.out.2.1.ext hgA)
  have o1 := (HB.out.2.2.ext hgA)
  have hgwA := grown_trans hg0 hgA
  have hgw1 := ext_store hgwA (show w.heap.size ≤ w.heap.size + 1 + 1 by omega) 0 (.slice aA P.orders.length capA)
  have hlA := hgA.size
  have o2 := (o1.put (.slice aA P.orders.length capA)).1
  have a2 := a1.far (c := w.heap.size + 1 + 1) (j := 0) (v := .slice aA P.orders.length capA) (by omega)
  have r2 := r1.far (c := w.heap.size + 1 + 1) (j := 0) (v := .slice aA P.orders.length capA) (by omega)
  have hA2 : OwnIn (fun k => w0.heap.size ≤ k ∧ k < wA.heap.size) (wA.setCell ⟨w.heap.size + 1 + 1, 0, none⟩ (.slice aA P.orders.length capA)) (.slice aA P.orders.length capA) P.orders :=
    rdOwn.mono (OwnIn.of (F := fun k => w0.heap.size ≤ k ∧ k < wA.heap.size) hA (by have := HS.out.1; omega) (fun k h1 h2 => ⟨h1, h2⟩)) (fun k hk hlt => ⟨hk, by simpa [World.setCell] using hlt, Below.heap_setCell _ _ _ _ (by have := hk.1; simp; omega)⟩)
  have HW := Lib.hid (And.intro a2 (And.intro r2 (And.intro o2 hA2))); clear a2 r2 o2 hA2 hA
  obtain ⟨_, ca0, ca1, ca2, _⟩ := a1
  obtain ⟨_, co0, co1, co2, cof⟩ := o1
  clear r1
  go_wp2_with fail
  clear ca0 ca1 ca2 co0 co1 co2 cof
  have hszs : (wA.setCell ⟨w.heap.size + 1 + 1, 0, none⟩ (.slice aA P.orders.length capA)).heap.size = wA.heap.size := by simp [World.setCell]
  generalize wA.setCell ⟨w.heap.size + 1 + 1, 0, none⟩ (.slice aA P.orders.length capA) = w1 at *
  have HSZ := Lib.hid hszs; clear hszs
  refine Calls.mono (toInt64SS_ok _ _ _ _ (Rows2.ext h3.p hgw1) HS.out.2.1) ?_
  rintro eB wB ⟨vB, rfl, hgB, hB⟩
  have hlpp : P.powers.length ≤ 1048576 := by have := HS.out.2.1; unfold size2 at this; omega
  have hBd := SlO.toD hB (by omega)
  obtain ⟨aB, capB, rfl, _, _⟩ := SlD.shape hBd
  have a1 := (HW.out.1.ext hgB)
  have r1 := (HW.out.2.1.ext hgB)
  have o1 := (HW.out.2.2.1.ext hgB)
  have hgwB := grown_trans hgw1 hgB
  have hgw2 := ext_store hgwB (show w.heap.size ≤ w.heap.size + 1 + 1 by omega) 1 (.slice aB P.powers.length capB)
  have hlB := hgB.size
  have hsA := HSZ.out
  have o2 := (o1.put (.slice aB P.powers.length capB)).2.1
  have a2 := a1.far (c := w.heap.size + 1 + 1) (j := 1) (v := .slice aB P.powers.length capB) (by omega)
  have r2 := r1.far (c := w.heap.size + 1 + 1) (j := 1) (v := .slice aB P.powers.length capB) (by omega)
  have hA2 : OwnIn (fun k => w0.heap.size ≤ k ∧ k < wA.heap.size) (wB.setCell ⟨w.heap.size + 1 + 1, 1, none⟩ (.slice aB P.powers.length capB)) (.slice aA P.orders.length capA) P.orders :=
    rdOwn.mono HW.out.2.2.2 (fun k hk hlt => ⟨hk, by simp [World.setCell]; omega, (Below.heap_setCell _ _ _ _ (by have := hk.1; simp; omega)).trans (hgB.block k hlt (by simp))⟩)
  have hB2 : RowsW (fun k => w1.heap.size ≤ k ∧ k < wB.heap.size) (wB.setCell ⟨w.heap.size + 1 + 1, 1, none⟩ (.slice aB P.powers.length capB)) (.slice aB P.powers.length capB) P.powers :=
    rdRowsW.mono hBd (fun k hk hlt => ⟨⟨hk, hlt⟩, by simpa [World.setCell] using hlt, Below.heap_setCell _ _ _ _ (by have hk : w1.heap.size ≤ k := hk; simp; omega)⟩)
  have HW2 := Lib.hid (And.intro a2 (And.intro r2 (And.intro o2 (And.intro hA2 hB2)))); clear a2 r2 o2 hA2 hB2 hB hBd HW
  obtain ⟨_, ca0, ca1, ca2, _⟩ := a1
  obtain ⟨_, co0, co1, co2, cof⟩ := o1
  clear r1
  go_wp2_with fail
  clear ca0 ca1 ca2 co0 co1 co2 cof
  have hszs : (wB.setCell ⟨w.heap.size + 1 + 1, 1, none⟩ (.slice aB P.powers.length capB)).heap.size = wB.heap.size := by simp [World.setCell]
  generalize wB.setCell ⟨w.heap.size + 1 + 1, 1, none⟩ (.slice aB P.powers.length capB) = w2 at *
  have HSZ2 := Lib.hid hszs; clear hszs
  refine Calls.mono (toInt64SSS_ok _ _ _ _ (Rows3.ext h3.c hgw2) HS.out.2.2) ?_
  rintro eC wC ⟨vC, rfl, hgC, hC⟩
  have hlcc : P.conj.length ≤ 1048576 := by have := HS.out.2.2; unfold size3 at this; omega
  have hCd := SlO.toD hC (by omega)
  obtain ⟨aC, capC, rfl, _, _⟩ := SlD.shape hCd
  have a1 := (HW2.out.1.ext hgC)
  have r1 := (HW2.out.2.1.ext hgC)
  have o1 := (HW2.out.2.2.1.ext hgC)
  have hgwC := grown_trans hgw2 hgC
  have hlC := hgC.size
  have hsB := HSZ2.out
  have hg3 := ext_store hgwC (show w.heap.size ≤ w.heap.size + 1 + 1 by omega) 2 (.slice aC P.conj.length capC)
  have hA2 := HW2.out.2.2.2.1
  have hB2 := HW2.out.2.2.2.2
  clear hC HW2
  obtain ⟨_, ca0, ca1, ca2, _⟩ := a1
  obtain ⟨_, co0, co1, co2, cof⟩ := o1
  obtain ⟨_, cr0, cr1, cr2, crf⟩ := r1
  have HX := Lib.hid (And.intro hA2 (And.intro hB2 hCd)); clear hA2 hB2 hCd
  go_wp2
  refine bodyPost_ret (v := .agg #[.slice aA P.orders.length capA, .slice aB P.powers.length capB, .slice aC P.conj.length capC]) (by simp [results, Tryz.results18, go_sem, cr0, cr1, cr2]) rfl ⟨_, rfl, ext_store (ext_store (ext_store hg3 (by omega) _ _) (by omega) _ _) (by omega) _ _, ?_⟩
  have hblk : ∀ k, w.heap.size + 1 + 1 < k → ((((wC.setCell ⟨w.heap.size + 1 + 1, 2, none⟩ (.slice aC P.conj.length capC)).setCell ⟨w.heap.size + 1, 0, none⟩ (.slice aA P.orders.length capA)).setCell ⟨w.heap.size + 1, 1, none⟩ (.slice aB P.powers.length capB)).setCell ⟨w.heap.size + 1, 2, none⟩ (.slice aC P.conj.length capC)).heap[k]? = wC.heap[k]? := fun k hk => by
    rw [Below.heap_setCell _ _ _ _ (by simp; omega), Below.heap_setCell _ _ _ _ (by simp; omega), Below.heap_setCell _ _ _ _ (by simp; omega), Below.heap_setCell _ _ _ _ (by simp; omega)]
  have hsz : ((((wC.setCell ⟨w.heap.size + 1 + 1, 2, none⟩ (.slice aC P.conj.length capC)).setCell ⟨w.heap.size + 1, 0, none⟩ (.slice aA P.orders.length capA)).setCell ⟨w.heap.size + 1, 1, none⟩ (.slice aB P.powers.length capB)).setCell ⟨w.heap.size + 1, 2, none⟩ (.slice aC P.conj.length capC)).heap.size = wC.heap.size := by simp [World.setCell]
  have hsz3 := HSZ.out
  have hsz4 := HSZ2.out
  refine ⟨_, _, _, fun k => w0.heap.size ≤ k ∧ k < wA.heap.size, fun k => w1.heap.size ≤ k ∧ k < wB.heap.size, fun k => w2.heap.size ≤ k, rfl, rdOwn.mono HX.out.1 (fun k hk hlt => ⟨hk, by rw [hsz]; omega, (hblk k (by omega)).trans (hgC.block k hlt (by simp))⟩),
    rdRowsW.mono HX.out.2.1 (fun k hk hlt => ⟨hk, by rw [hsz]; omega, (hblk k (by omega)).trans (hgC.block k hlt (by simp))⟩), SlD.mono rdRowsW HX.out.2.2 (fun k hk hlt => ⟨hk, by rw [hsz]; exact hlt, hblk k (by have hk : w2.heap.size ≤ k := hk; omega)⟩), fun k hk => ?_, fun k hk => ?_, fun k hk => ?_⟩
  · exact ⟨by show w.heap.size ≤ k; omega, by omega, by omega⟩
  · exact ⟨by show w.heap.size ≤ k; omega, by omega⟩
  · show w.heap.size ≤ k; omega

end Go.Proofs.YtdklekdpdbjfiaaGreat

/- The laws' comparisons: laws.eqInt64SS, eqInt64SSS, eqPresentation. -/
namespace Go.Proofs.YtdklekdpdbjfiaaGreat
open Go.RowKit

theorem Ints.extA {S : Nat → Prop} {w w' : World} {v : Value} {xs : List Int} (h : Ints S w v xs) (hg : Ext w w') : Ints Any w' v xs := Ints.sub (Ints.ext h hg) (fun _ _ _ => trivial)
theorem Rows2.extA {S : Nat → Prop} {w w' : World} {v : Value} {xs : List (List Int)} (h : Rows2 S w v xs) (hg : Ext w w') : Rows2 Any w' v xs := Rows2.sub (Rows2.ext h hg) (fun _ _ _ => trivial)

set_option maxRecDepth 100000 in
set_option maxHeartbeats 2000000 in
theorem eqInt64SS_ok (v1 v2 : Value) (l1 l2 : List (List Int)) (w : World) (S1 S2 : Nat → Prop) (h1 : Rows2 S1 w v1 l1) (h2 : Rows2 S2 w v2 l2) :
    Calls Tryz.prog 28 #[v1, v2] w (Ret w fun _ v => v = .bool (eqB l1 l2)) := by
  obtain ⟨a, cap, rfl, _, _⟩ := Sl.shape h1
  obtain ⟨a2, cap2, rfl, _, _⟩ := Sl.shape h2
  by_cases hl : l1.length = l2.length
  · have hd : ((l1.length : Int) != (l2.length : Int)) = false := by simp [hl]
    have hl1 : l1.length ≤ l2.length ∧ l2.length ≤ l1.length := by omega
    have HL := Lib.hid hl; clear hl
    go_enter Tryz.func28, Tryz.ntmps28
    go_wp2
    go_loopw [5] (fun i wr => ∃ k : Nat, i = .int .i64 k ∧ k ≤ l1.length ∧ Ext w wr ∧ ∀ i, i < k → gt l1 i = gt l2 i) (fun i _ => l1.length - (intOf i).toNat)
    case atStart => exact ⟨0, rfl, by omega, Ext.refl _, fun i hi => by omega⟩
    case round =>
      obtain ⟨k, rfl, hk, hg, hz⟩ := hrel
      have HZ := Lib.hid hz; clear hz
      by_cases hlt : k < l1.length
      · obtain ⟨b, off, x1, c1, rfl, _, _, hc, hi1⟩ := Rows2.at (Rows2.ext h1 hg) k hlt
        obtain ⟨b2, off2, x2, c2, rfl, _, _, hc2, hi2⟩ := Rows2.at (Rows2.ext h2 hg) k (by omega)
        have e1 : ∀ w', Ext wr w' → w'.cell? ⟨b, off + k, none⟩ = some (.slice x1 (gt l1 k).length c1) := fun w' h => h.cell hc (by simp)
        have e2 : ∀ w', Ext wr w' → w'.cell? ⟨b2, off2 + k, none⟩ = some (.slice x2 (gt l2 k).length c2) := fun w' h => h.cell hc2 (by simp)
        clear hc hc2
        have hlt2 : k < l2.length := by omega
        go_wp2
        cases hx : eqB (gt l1 k) (gt l2 k) with
        | true =>
          have hx2 := Lib.hid hx
          go_region_held3 (fun w' => Ext wr w') (first | exact grown_drew _ _ | assumption)
            (first
              | (go_at_call 29; refine Calls.mono (Calls.rel (w0 := wr) (by assumption) (eqInt64S_ok _ _ _ _ _ Any Any ((Ints.extA hi1 (by assumption))) (Ints.extA hi2 (by assumption)))) ?_; rintro eA wA ⟨vA, rfl, hgA, hsA, rfl⟩))
          clear e1 e2
          go_wp2
          go_roundw
          case rel => exact ⟨k + 1, by go_num, by omega, grown_trans hg hgA, fun i hi => by
            rcases Nat.lt_or_ge i k with h1 | h1
            · exact HZ.out i h1
            · have : i = k := by omega
              rw [this]; exact eqB_true.1 hx2.out⟩
          case measure => simp [intOf]; omega
        | false =>
          have hx2 := Lib.hid hx
          go_region_held3 (fun w' => Ext wr w') (first | exact grown_drew _ _ | assumption)
            (first
              | (go_at_call 29; refine Calls.mono (Calls.rel (w0 := wr) (by assumption) (eqInt64S_ok _ _ _ _ _ Any Any (Ints.extA hi1 (by assumption)) (Ints.extA hi2 (by assumption)))) ?_; rintro eA wA ⟨vA, rfl, hgA, hsA, rfl⟩))
          clear e1 e2
          go_wp2
          go_ret
          exact ret_bool (grown_trans hg hgA) (by rw [eqB_false_at (hx := eqB_false.1 hx2.out)])
      · go_wp2
        go_ret
        exact ret_bool hg (by rw [eqB_true.2 (ext_gt HL.out (fun i hi => HZ.out i (by omega)))])
  · have hd : ((l1.length : Int) != (l2.length : Int)) = true := by simp; omega
    have HL := Lib.hid hl; clear hl
    go_enter Tryz.func28, Tryz.ntmps28
    go_wp2
    go_ret
    exact ret_bool (Ext.refl _) (by rw [eqB_false.2 (fun e => HL.out (by rw [e]))])

set_option maxRecDepth 100000 in
set_option maxHeartbeats 2000000 in
theorem eqInt64SSS_ok (v1 v2 : Value) (l1 l2 : List (List (List Int))) (w : World) (S1 S2 : Nat → Prop) (h1 : Rows3 S1 w v1 l1) (h2 : Rows3 S2 w v2 l2) :
    Calls Tryz.prog 22 #[v1, v2] w (Ret w fun _ v => v = .bool (eqB l1 l2)) := by
  obtain ⟨a, cap, rfl, _, _⟩ := Sl.shape h1
  obtain ⟨a2, cap2, rfl, _, _⟩ := Sl.shape h2
  by_cases hl : l1.length = l2.length
  · have hd : ((l1.length : Int) != (l2.length : Int)) = false := by simp [hl]
    have hl1 : l1.length ≤ l2.length ∧ l2.length ≤ l1.length := by omega
    have HL := Lib.hid hl; clear hl
    go_enter Tryz.func22, Tryz.ntmps22
    go_wp2
    go_loopw [5] (fun i wr => ∃ k : Nat, i = .int .i64 k ∧ k ≤ l1.length ∧ Ext w wr ∧ ∀ i, i < k → gt l1 i = gt l2 i) (fun i _ => l1.length - (intOf i).toNat)
    case atStart => exact ⟨0, rfl, by omega, Ext.refl _, fun i hi => by omega⟩
    case round =>
      obtain ⟨k, rfl, hk, hg, hz⟩ := hrel
      have HZ := Lib.hid hz; clear hz
      by_cases hlt : k < l1.length
      · obtain ⟨b, off, x1, c1, rfl, _, _, hc, hi1⟩ := Rows3.at (Rows3.ext h1 hg) k hlt
        obtain ⟨b2, off2, x2, c2, rfl, _, _, hc2, hi2⟩ := Rows3.at (Rows3.ext h2 hg) k (by omega)
        have e1 : ∀ w', Ext wr w' → w'.cell? ⟨b, off + k, none⟩ = some (.slice x1 (gt l1 k).length c1) := fun w' h => h.cell hc (by simp)
        have e2 : ∀ w', Ext wr w' → w'.cell? ⟨b2, off2 + k, none⟩ = some (.slice x2 (gt l2 k).length c2) := fun w' h => h.cell hc2 (by simp)
        clear hc hc2
        have hlt2 : k < l2.length := by omega
        go_wp2
        cases hx : eqB (gt l1 k) (gt l2 k) with
        | true =>
          have hx2 := Lib.hid hx
          go_region_held3 (fun w' => Ext wr w') (first | exact grown_drew _ _ | assumption)
            (first
              | (go_at_call 28; refine Calls.mono (Calls.rel (w0 := wr) (by assumption) (eqInt64SS_ok _ _ _ _ _ Any Any ((Rows2.extA hi1 (by assumption))) (Rows2.extA hi2 (by assumption)))) ?_; rintro eA wA ⟨vA, rfl, hgA, hsA, rfl⟩))
          clear e1 e2
          go_wp2
          go_roundw
          case rel => exact ⟨k + 1, by go_num, by omega, grown_trans hg hgA, fun i hi => by
            rcases Nat.lt_or_ge i k with h1 | h1
            · exact HZ.out i h1
            · have : i = k := by omega
              rw [this]; exact eqB_true.1 hx2.out⟩
          case measure => simp [intOf]; omega
        | false =>
          have hx2 := Lib.hid hx
          go_region_held3 (fun w' => Ext wr w') (first | exact grown_drew _ _ | assumption)
            (first
              | (go_at_call 28; refine Calls.mono (Calls.rel (w0 := wr) (by assumption) (eqInt64SS_ok _ _ _ _ _ Any Any (Rows2.extA hi1 (by assumption)) (Rows2.extA hi2 (by assumption)))) ?_; rintro eA wA ⟨vA, rfl, hgA, hsA, rfl⟩))
          clear e1 e2
          go_wp2
          go_ret
          exact ret_bool (grown_trans hg hgA) (by rw [eqB_false_at (hx := eqB_false.1 hx2.out)])
      · go_wp2
        go_ret
        exact ret_bool hg (by rw [eqB_true.2 (ext_gt HL.out (fun i hi => HZ.out i (by omega)))])
  · have hd : ((l1.length : Int) != (l2.length : Int)) = true := by simp; omega
    have HL := Lib.hid hl; clear hl
    go_enter Tryz.func22, Tryz.ntmps22
    go_wp2
    go_ret
    exact ret_bool (Ext.refl _) (by rw [eqB_false.2 (fun e => HL.out (by rw [e]))])

set_option maxRecDepth 100000 in
set_option maxHeartbeats 2000000 in
theorem eqPresentation_ok (v1 v2 : Value) (P : Pr) (w : World) (S1 S2 : Nat → Prop) (h1 : PresV S1 w v1 P) (h2 : PresV S2 w v2 P) :
    Calls Tryz.prog 21 #[v1, v2] w (Ret w fun _ v => v = .bool true) := by
  obtain ⟨vo, vp, vc, rfl, h3⟩ := h1
  obtain ⟨uo, up, uc, rfl, k3⟩ := h2
  have hg0 : Ext w ((w.alloc (.cells #[vo, vp, vc] 31)).alloc (.cells #[uo, up, uc] 31)) := grown_trans (World.grownBy_alloc _ _ _) (World.grownBy_alloc _ _ _)
  have hs1 : (w.alloc (.cells #[vo, vp, vc] 31)).heap.size = w.heap.size + 1 := by simp
  have b1 := (Box3.made w 31 vo vp vc).ext (World.grownBy_alloc _ (.cells #[uo, up, uc] 31) none)
  have b2 := Box3.made (w.alloc (.cells #[vo, vp, vc] 31)) 31 uo up uc
  rw [hs1] at b2
  have HB := Lib.hid (And.intro b1 b2); clear b1 b2 hs1
  go_enter Tryz.func21, Tryz.ntmps21
  go_wp2_with fail
  generalize (w.alloc (.cells #[vo, vp, vc] 31)).alloc (.cells #[uo, up, uc] 31) = w0 at *
  refine Calls.mono (eqInt64S_ok _ _ _ _ _ S1 S2 (h3.o.ext hg0) (k3.o.ext hg0)) ?_
  rintro eA wA ⟨vA, rfl, hgA, rfl⟩
  have hgwA := grown_trans hg0 hgA
  obtain ⟨_, a0, a1, a2, _⟩ := HB.out.1.ext hgA
  obtain ⟨_, c0, c1, c2, _⟩ := HB.out.2.ext hgA
  have e1 : eqB P.orders P.orders = true := eqB_true.2 rfl
  go_wp2_with fail
  clear a0 a1 a2 c0 c1 c2 e1
  refine Calls.mono (eqInt64SS_ok _ _ _ _ _ S1 S2 (Rows2.ext h3.p hgwA) (Rows2.ext k3.p hgwA)) ?_
  rintro eB wB ⟨vB, rfl, hgB, rfl⟩
  have hgwB := grown_trans hgwA hgB
  obtain ⟨_, a0, a1, a2, _⟩ := HB.out.1.ext (grown_trans hgA hgB)
  obtain ⟨_, c0, c1, c2, _⟩ := HB.out.2.ext (grown_trans hgA hgB)
  have e1 : eqB P.powers P.powers = true := eqB_true.2 rfl
  go_wp2_with fail
  clear a0 a1 a2 c0 c1 c2 e1
  refine Calls.mono (eqInt64SSS_ok _ _ _ _ _ S1 S2 (Rows3.ext h3.c hgwB) (Rows3.ext k3.c hgwB)) ?_
  rintro eC wC ⟨vC, rfl, hgC, rfl⟩
  have e1 : eqB P.conj P.conj = true := eqB_true.2 rfl
  go_wp2
  go_ret
  exact ⟨_, rfl, grown_trans hgwB hgC, rfl⟩

end Go.Proofs.YtdklekdpdbjfiaaGreat

/- The laws' marks: laws.markInt64S.., heldInt64S..: each place of a value is given a number of its own, and looked at again. -/
namespace Go.Proofs.YtdklekdpdbjfiaaGreat
open Go.RowKit

/-- k, k + 1, .., n of them -/
def upFrom (k : Int) (n : Nat) : List Int := (List.range n).map (fun i : Nat => k + i)
theorem upFrom_len (k : Int) (n : Nat) : (upFrom k n).length = n := by simp [upFrom]
theorem gt_upFrom (k : Int) (n i : Nat) (h : i < n) : gt (upFrom k n) i = k + i := by simp [upFrom, gt, h]

/-- only blocks in F have turned -/
structure Touch (F : Nat → Prop) (w w' : World) : Prop where
  os : w'.os = w.os
  tape : w'.tape = w.tape
  output : w'.output = w.output
  size : w.heap.size ≤ w'.heap.size
  block : ∀ k, k < w.heap.size → ¬ F k → w'.heap[k]? = w.heap[k]?
theorem Touch.refl (F : Nat → Prop) (w : World) : Touch F w w := ⟨rfl, rfl, rfl, Nat.le_refl _, fun _ _ _ => rfl⟩
theorem Touch.of {F : Nat → Prop} {w w' : World} {r : Option Nat} (h : w.grownBy w' r) (hr : ∀ k, r = some k → F k) : Touch F w w' :=
  ⟨h.os, h.tape, h.output, h.size, fun k hk hF => h.block k hk (fun e => hF (hr k e.symm))⟩
theorem Touch.trans {F F1 F2 : Nat → Prop} {a b c : World} (h : Touch F1 a b) (k : Touch F2 b c) (h1 : ∀ i, F1 i → F i) (h2 : ∀ i, F2 i → F i) : Touch F a c :=
  ⟨k.os.trans h.os, k.tape.trans h.tape, k.output.trans h.output, Nat.le_trans h.size k.size,
   fun i hi hF => (k.block i (Nat.lt_of_lt_of_le hi h.size) (fun e => hF (h2 i e))).trans (h.block i hi (fun e => hF (h1 i e)))⟩
/-- blocks behind a world may turn -/
theorem Touch.ext {F : Nat → Prop} {w w1 w2 : World} (h : Ext w w1) (k : Touch F w1 w2) (hF : ∀ i, F i → w.heap.size ≤ i) : Ext w w2 :=
  ⟨k.os.trans h.os, k.tape.trans h.tape, k.output.trans h.output, Nat.le_trans h.size k.size,
   fun i hi _ => (k.block i (Nat.lt_of_lt_of_le hi h.size) (fun e => by have := hF i e; omega)).trans (h.block i hi (by simp))⟩
theorem Touch.frame {F S : Nat → Prop} {w w' : World} (h : Touch F w w') (hS : ∀ k, S k → ¬ F k) : ∀ k, S k → k < w.heap.size → S k ∧ k < w'.heap.size ∧ w'.heap[k]? = w.heap[k]? :=
  fun k hk hlt => ⟨hk, Nat.lt_of_lt_of_le hlt h.size, h.block k hlt (hS k hk)⟩
theorem Touch.cell {F : Nat → Prop} {w w' : World} (h : Touch F w w') {a : Addr} {v : Value} (hc : w.cell? a = some v) (hF : ¬ F a.block) : w'.cell? a = some v :=
  (World.cell?_of_block (h.block a.block (World.block_lt_of_cell? w a hc) hF)).trans hc

set_option maxHeartbeats 1000000 in
theorem markInt64S_ok (v : Value) (l : List Int) (q : Int) (w : World) (F : Nat → Prop) (h : OwnIn F w v l) (hq : 0 ≤ q ∧ q + l.length ≤ 1000000000) :
    Calls Tryz.prog 31 #[v, .int .i64 q] w fun e w' => e = .returned (.int .i64 (q + l.length)) ∧ Touch F w w' ∧ OwnIn F w' v (upFrom q l.length) := by
  obtain ⟨hO, hF, hl⟩ := h
  rcases (Own.v hO).form with ⟨rfl, hnil⟩ | ⟨g, cap, rfl, hcap, _, hgs⟩
  · have hl0 : l = [] := by cases l <;> simp_all
    subst hl0
    clear hnil hO
    go_enter Tryz.func31, Tryz.ntmps31
    go_wp2
    go_loopw [1, 5] (fun qv iv wr => qv = .int .i64 q ∧ iv = .int .i64 0 ∧ wr = w) (fun _ _ _ => 0)
    case atStart => exact ⟨rfl, rfl, rfl⟩
    case round =>
      obtain ⟨rfl, rfl, rfl⟩ := hrel
      go_wp2
      go_ret
      exact ⟨by simp, Touch.refl _ _, OwnIn.nil _ _⟩
  · rw [List.length_map] at hcap
    rw [List.length_map] at hO ⊢
    clear hcap
    go_enter Tryz.func31, Tryz.ntmps31
    go_wp2
    go_loopw [1, 5] (fun qv iv wr => ∃ k : Nat, iv = .int .i64 k ∧ qv = .int .i64 (q + k) ∧ k ≤ l.length ∧ w.grownBy wr (some g) ∧ ∃ l', l'.length = l.length ∧ Own 0 wr (.slice (some ⟨g, 0, none⟩) l.length cap) l' ∧ ∀ i, i < k → gt l' i = q + i) (fun _ iv _ => l.length - (intOf iv).toNat)
    case atStart => exact ⟨0, rfl, by simp, by omega, grown_refl _ _, l, rfl, hO, fun i hi => by omega⟩
    case round =>
      obtain ⟨k, rfl, rfl, hk, hg, l', hl', hO', hm⟩ := hrel
      have HM := Lib.hid (And.intro hl' hm); clear hm hl'
      by_cases hlt : k < l.length
      · have hc := hO'.cell k (by rw [HM.out.1]; exact hlt)
        have hf := hO'.frozen k
        obtain ⟨hs1, hs2⟩ := hO'.store k (q + k)
        have hgn := grown_trans hg hs2
        have hwr : IntKind.i64.wrap (q + (k : Int) + 1) = q + k + 1 := IntWalk.i64_in _ (by omega)
        clear hs2
        go_wp2
        go_roundw
        case rel => exact ⟨k + 1, by go_num, by simp; omega, by omega, hgn, l'.set k (q + k), by rw [List.length_set, HM.out.1], hs1, fun i hi => by
          by_cases e : k = i
          · subst e; exact gt_set_eq _ _ _ (by rw [HM.out.1]; exact hlt)
          · rw [gt_set_ne _ _ _ _ e]; exact HM.out.2 i (by omega)⟩
        case measure => simp [intOf]; omega
      · have hke : k = l.length := by omega
        subst hke
        go_wp2
        go_ret
        have e : l' = upFrom q l.length := ext_gt (by rw [HM.out.1, upFrom_len]) (fun i hi => by
          rw [HM.out.1] at hi
          rw [HM.out.2 i hi, gt_upFrom _ _ _ hi])
        exact ⟨rfl, Touch.of hg (fun j hj => by cases hj; exact hF g rfl), by rw [← e]; exact hO', hF, by rw [upFrom_len]; exact hl⟩

set_option maxHeartbeats 1000000 in
theorem heldInt64S_ok (v : Value) (n : Nat) (q : Int) (w : World) (S : Nat → Prop) (h : Ints S w v (upFrom q n)) (hq : 0 ≤ q ∧ q + n ≤ 1000000000) :
    Calls Tryz.prog 40 #[v, .int .i64 q] w (Ret w fun _ r => r = .int .i64 (q + n)) := by
  obtain ⟨a, cap, rfl, hcap, _⟩ := h.shape
  rw [upFrom_len] at h ⊢
  go_enter Tryz.func40, Tryz.ntmps40
  go_wp2
  go_loopw [1, 5] (fun qv iv wr => ∃ k : Nat, iv = .int .i64 k ∧ qv = .int .i64 (q + k) ∧ k ≤ n ∧ Ext w wr) (fun _ iv _ => n - (intOf iv).toNat)
  case atStart => exact ⟨0, rfl, by simp, by omega, Ext.refl _⟩
  case round =>
    obtain ⟨k, rfl, rfl, hk, hg⟩ := hrel
    by_cases hlt : k < n
    · obtain ⟨b, off, rfl, _, _, hc⟩ := Ints.at (h.ext hg) k (by rw [upFrom_len]; exact hlt)
      rw [gt_upFrom _ _ _ hlt] at hc
      have hwr : IntKind.i64.wrap (q + (k : Int) + 1) = q + k + 1 := IntWalk.i64_in _ (by omega)
      go_wp2
      go_roundw
      case rel => exact ⟨k + 1, by go_num, by simp; omega, by omega, hg⟩
      case measure => simp [intOf]; omega
    · have hke : k = n := by omega
      subst hke
      go_wp2
      go_ret
      exact ⟨_, rfl, hg, rfl⟩

/-- a slice whose elements lie in blocks that are named -/
def SlG {α : Type} [Inhabited α] (El : (Nat → Prop) → World → Value → α → Prop) (G : Nat → Nat → Prop) (H : Nat → Prop) (w : World) (v : Value) (xs : List α) : Prop :=
  ∃ a cap, v = .slice a xs.length cap ∧ (xs.length ≤ cap ∧ xs.length ≤ 9223372036854775807 ∧ (a = none → cap = 0)) ∧
      ∀ i, i < xs.length → ∃ b off u, a = some ⟨b, off, none⟩ ∧ H b ∧ b < w.heap.size ∧ w.cell? ⟨b, off + i, none⟩ = some u ∧ El (G i) w u (gt xs i)
def Apart (F : Nat → Prop) (G : Nat → Nat → Prop) (H : Nat → Prop) (n : Nat) : Prop :=
  (∀ k, H k → F k) ∧ (∀ i k, i < n → G i k → F k ∧ ¬ H k) ∧ (∀ i j k, i < n → j < n → G i k → G j k → i = j)
theorem SlD.g {α : Type} [Inhabited α] {El : (Nat → Prop) → World → Value → α → Prop} {F : Nat → Prop} {w : World} {v : Value} {xs : List α} (h : SlD El F w v xs) : ∃ G H, Apart F G H xs.length ∧ SlG El G H w v xs := by
  obtain ⟨G, H, h1, h2, h3, r⟩ := h
  exact ⟨G, H, ⟨h1, h2, h3⟩, r⟩
theorem SlG.d {α : Type} [Inhabited α] {El : (Nat → Prop) → World → Value → α → Prop} {F : Nat → Prop} {G : Nat → Nat → Prop} {H : Nat → Prop} {w : World} {v : Value} {xs : List α} (h : SlG El G H w v xs) (hA : Apart F G H xs.length) : SlD El F w v xs :=
  ⟨G, H, hA.1, hA.2.1, hA.2.2, h⟩

/-- one element is turned -/
theorem SlG.turn {α : Type} [Inhabited α] {El : (Nat → Prop) → World → Value → α → Prop} (hEl : RdOk El) {F : Nat → Prop} {G : Nat → Nat → Prop} {H : Nat → Prop} {w w' : World} {b off n cap j : Nat} {u : Value} {y : α} {xs : List α}
    (hA : Apart F G H n) (hn : xs.length = n) (h : SlG El G H w (.slice (some ⟨b, off, none⟩) n cap) xs) (hj : j < n) (hc : w.cell? ⟨b, off + j, none⟩ = some u) (ht : Touch (G j) w w') (hy : El (G j) w' u y) :
    SlG El G H w' (.slice (some ⟨b, off, none⟩) n cap) (xs.set j y) := by
  obtain ⟨a', cap', hv, hl, hcell⟩ := h
  cases hv
  refine ⟨_, cap, by rw [List.length_set], by rw [List.length_set]; exact hl, fun i hi => ?_⟩
  rw [List.length_set] at hi
  obtain ⟨b2, off2, u2, e1, e2, e3, e4, e5⟩ := hcell i hi
  cases e1
  have hnb : ¬ G j b := fun h => (hA.2.1 j b hj h).2 e2
  by_cases e : j = i
  · subst e
    rw [gt_set_eq _ _ _ hi]
    exact ⟨b, off, u, rfl, e2, Nat.lt_of_lt_of_le e3 ht.size, ht.cell hc hnb, hy⟩
  · rw [gt_set_ne _ _ _ _ e]
    exact ⟨b, off, u2, rfl, e2, Nat.lt_of_lt_of_le e3 ht.size, ht.cell e4 hnb, hEl.mono e5 (ht.frame (fun k hk hk' => e (hA.2.2 i j k (by omega) hj hk hk').symm))⟩

/-- the first j elements turned by up -/
def mixTo {α : Type} [Inhabited α] (up : Int → α → α) (sz : α → Nat) (q : Int) (xs : List α) : Nat → List α
  | 0 => xs
  | j + 1 => (mixTo up sz q xs j).set j (up (q + szTo sz xs j) (gt xs j))
theorem mixTo_len {α : Type} [Inhabited α] (up : Int → α → α) (sz : α → Nat) (q : Int) (xs : List α) (j : Nat) : (mixTo up sz q xs j).length = xs.length := by
  induction j with
  | zero => rfl
  | succ j ih => simp only [mixTo]; rw [List.length_set, ih]
theorem gt_mixTo {α : Type} [Inhabited α] (up : Int → α → α) (sz : α → Nat) (q : Int) (xs : List α) (j : Nat) : ∀ i, i < xs.length → gt (mixTo up sz q xs j) i = if i < j then up (q + szTo sz xs i) (gt xs i) else gt xs i := by
  induction j with
  | zero => intro i _; rw [if_neg (by omega)]; rfl
  | succ j ih =>
    intro i hi
    simp only [mixTo]
    by_cases e : j = i
    · subst e; rw [gt_set_eq _ _ _ (by rw [mixTo_len]; exact hi), if_pos (by omega)]
    · rw [gt_set_ne _ _ _ _ e, ih i hi]
      by_cases h : i < j
      · rw [if_pos h, if_pos (by omega)]
      · rw [if_neg h, if_neg (by omega)]
def up1 (q : Int) (l : List Int) : List Int := upFrom q l.length
def up2 (q : Int) (xs : List (List Int)) : List (List Int) := mixTo up1 List.length q xs xs.length
def tot2 (xs : List (List Int)) : Nat := szTo List.length xs xs.length
def tot3 (xs : List (List (List Int))) : Nat := szTo tot2 xs xs.length
def up3 (q : Int) (xs : List (List (List Int))) : List (List (List Int)) := mixTo up2 tot2 q xs xs.length

set_option maxHeartbeats 1000000 in
theorem markInt64SS_ok (v : Value) (xs : List (List Int)) (q : Int) (w : World) (F : Nat → Prop) (h : RowsW F w v xs) (hq0 : 0 ≤ q ∧ q + tot2 xs ≤ 1000000000) :
    Calls Tryz.prog 32 #[v, .int .i64 q] w fun e w' => e = .returned (.int .i64 (q + tot2 xs)) ∧ Touch F w w' ∧ RowsW F w' v (up2 q xs) := by
  have hq : 0 ≤ q ∧ q + szTo List.length xs xs.length ≤ 1000000000 := hq0
  clear hq0
  obtain ⟨G, H, hA, hG⟩ := SlD.g h
  obtain ⟨a, cap, rfl, hlen⟩ := (show ∃ a cap, v = .slice a xs.length cap ∧ xs.length ≤ 9223372036854775807 by obtain ⟨a, cap, hv, hl, _⟩ := hG; exact ⟨a, cap, hv, hl.2.1⟩)
  clear h
  go_enter Tryz.func32, Tryz.ntmps32
  go_wp2
  go_loopw [1, 5] (fun qv iv wr => ∃ k : Nat, iv = .int .i64 k ∧ qv = .int .i64 (q + szTo List.length xs k) ∧ k ≤ xs.length ∧ Touch F w wr ∧ SlG OwnIn G H wr (.slice a xs.length cap) (mixTo up1 List.length q xs k)) (fun _ iv _ => xs.length - (intOf iv).toNat)
  case atStart => exact ⟨0, rfl, by simp [szTo], by omega, Touch.refl _ _, hG⟩
  case round =>
    clear hG
    obtain ⟨k, rfl, rfl, hk, ht, hM⟩ := hrel
    have hM2 := hM
    obtain ⟨a', cap', hv, _, hcell⟩ := hM2
    rw [mixTo_len] at hv hcell
    cases hv
    by_cases hlt : k < xs.length
    · obtain ⟨b, off, u, rfl, hHb, hbs, hc, hE⟩ := hcell k hlt
      rw [gt_mixTo _ _ _ _ _ _ hlt, if_neg (by omega)] at hE
      have hm := szTo_mono List.length xs (show k + 1 ≤ xs.length by omega)
      have hst : szTo List.length xs (k + 1) = szTo List.length xs k + List.length (gt xs k) := rfl
      have hqk : 0 ≤ q + (szTo List.length xs k : Nat) ∧ q + (szTo List.length xs k : Nat) + (List.length (gt xs k) : Nat) ≤ 1000000000 := by omega
      have HQ := Lib.hid (And.intro hqk (And.intro hm hst)); clear hqk hm hst hcell
      obtain ⟨au, nu, cu, rfl⟩ : ∃ au nu cu, u = .slice au nu cu := by obtain ⟨au, cu, hu, _⟩ := hE.ints.shape; exact ⟨_, _, _, hu⟩
      go_wp2_with fail
      refine Calls.mono (markInt64S_ok _ _ (q + (szTo List.length xs k : Nat)) wr (G k) hE HQ.out.1) ?_
      rintro eA wA ⟨rfl, htA, hEA⟩
      have hM3 := SlG.turn rdOwn hA (mixTo_len _ _ _ _ _) hM hlt hc htA hEA
      have ht3 : Touch F w wA := ht.trans htA (fun _ h => h) (fun i hi => (hA.2.1 k i hlt hi).1)
      clear hc hE hEA hM
      go_wp2
      go_roundw
      case rel => exact ⟨k + 1, by go_num, by simp [szTo]; omega, by omega, ht3, hM3⟩
      case measure => simp [intOf]; omega
    · have hke : k = xs.length := by omega
      subst hke
      clear hcell
      go_wp2
      go_ret
      exact ⟨rfl, ht, SlG.d hM (by have := mixTo_len up1 List.length q xs xs.length; unfold up2; rw [this]; exact hA)⟩

set_option maxHeartbeats 1000000 in
theorem markInt64SSS_ok (v : Value) (xs : List (List (List Int))) (q : Int) (w : World) (F : Nat → Prop) (h : Rows3W F w v xs) (hq0 : 0 ≤ q ∧ q + tot3 xs ≤ 1000000000) :
    Calls Tryz.prog 36 #[v, .int .i64 q] w fun e w' => e = .returned (.int .i64 (q + tot3 xs)) ∧ Touch F w w' ∧ Rows3W F w' v (up3 q xs) := by
  have hq : 0 ≤ q ∧ q + szTo tot2 xs xs.length ≤ 1000000000 := hq0
  clear hq0
  obtain ⟨G, H, hA, hG⟩ := SlD.g h
  obtain ⟨a, cap, rfl, hlen⟩ := (show ∃ a cap, v = .slice a xs.length cap ∧ xs.length ≤ 9223372036854775807 by obtain ⟨a, cap, hv, hl, _⟩ := hG; exact ⟨a, cap, hv, hl.2.1⟩)
  clear h
  go_enter Tryz.func36, Tryz.ntmps36
  go_wp2
  go_loopw [1, 5] (fun qv iv wr => ∃ k : Nat, iv = .int .i64 k ∧ qv = .int .i64 (q + szTo tot2 xs k) ∧ k ≤ xs.length ∧ Touch F w wr ∧ SlG (fun F w u (x : List (List Int)) => RowsW F w u x) G H wr (.slice a xs.length cap) (mixTo up2 tot2 q xs k)) (fun _ iv _ => xs.length - (intOf iv).toNat)
  case atStart => exact ⟨0, rfl, by simp [szTo], by omega, Touch.refl _ _, hG⟩
  case round =>
    clear hG
    obtain ⟨k, rfl, rfl, hk, ht, hM⟩ := hrel
    have hM2 := hM
    obtain ⟨a', cap', hv, _, hcell⟩ := hM2
    rw [mixTo_len] at hv hcell
    cases hv
    by_cases hlt : k < xs.length
    · obtain ⟨b, off, u, rfl, hHb, hbs, hc, hE⟩ := hcell k hlt
      rw [gt_mixTo _ _ _ _ _ _ hlt, if_neg (by omega)] at hE
      have hm := szTo_mono tot2 xs (show k + 1 ≤ xs.length by omega)
      have hst : szTo tot2 xs (k + 1) = szTo tot2 xs k + tot2 (gt xs k) := rfl
      have hqk : 0 ≤ q + (szTo tot2 xs k : Nat) ∧ q + (szTo tot2 xs k : Nat) + (tot2 (gt xs k) : Nat) ≤ 1000000000 := by omega
      have HQ := Lib.hid (And.intro hqk (And.intro hm hst)); clear hqk hm hst hcell
      obtain ⟨au, nu, cu, rfl⟩ : ∃ au nu cu, u = .slice au nu cu := by obtain ⟨au, cu, hu, _⟩ := SlD.shape hE; exact ⟨_, _, _, hu⟩
      go_wp2_with fail
      refine Calls.mono (markInt64SS_ok _ _ (q + (szTo tot2 xs k : Nat)) wr (G k) hE HQ.out.1) ?_
      rintro eA wA ⟨rfl, htA, hEA⟩
      have hM3 := SlG.turn rdRowsW hA (mixTo_len _ _ _ _ _) hM hlt hc htA hEA
      have ht3 : Touch F w wA := ht.trans htA (fun _ h => h) (fun i hi => (hA.2.1 k i hlt hi).1)
      clear hc hE hEA hM
      go_wp2
      go_roundw
      case rel => exact ⟨k + 1, by go_num, by simp [szTo]; omega, by omega, ht3, hM3⟩
      case measure => simp [intOf]; omega
    · have hke : k = xs.length := by omega
      subst hke
      clear hcell
      go_wp2
      go_ret
      exact ⟨rfl, ht, SlG.d hM (by have := mixTo_len up2 tot2 q xs xs.length; unfold up3; rw [this]; exact hA)⟩

theorem szTo_le (xs : List (List Int)) : tot2 xs ≤ size2 xs := by unfold tot2 size2; omega
theorem szTo_le_of {α : Type} [Inhabited α] (f g : α → Nat) (h : ∀ x, f x ≤ g x) (xs : List α) (k : Nat) : szTo f xs k ≤ szTo g xs k := by
  induction k with
  | zero => exact Nat.le_refl _
  | succ k ih => simp only [szTo]; have := h (gt xs k); omega
theorem tot3_le (xs : List (List (List Int))) : tot3 xs ≤ size3 xs := by
  unfold tot3 size3
  have := szTo_le_of tot2 size2 szTo_le xs xs.length
  omega

set_option maxHeartbeats 2000000 in
theorem markPresentationB_ok (v : Value) (P : Pr) (w : World) (F : Nat → Prop) (h : PresW F w v P) (hl : sizeP P ≤ 1048576) :
    Calls Tryz.prog 30 #[v, .int .i64 1] w fun e w' => ∃ q : Int, (0 ≤ q ∧ q ≤ 4000000) ∧ e = .returned (.int .i64 q) ∧ Touch (fun k => F k ∨ w.heap.size ≤ k) w w' := by
  obtain ⟨vo, vp, vc, Fo, Fp, Fc, rfl, h1, h2, h3, h4, h5, h6⟩ := h
  have ho : P.orders.length ≤ 1048576 := by unfold sizeP at hl; omega
  have hp : tot2 P.powers ≤ 1048576 := by have := szTo_le P.powers; unfold sizeP at hl; omega
  have hc : tot3 P.conj ≤ 1048576 := by have := tot3_le P.conj; unfold sizeP at hl; omega
  have HS := Lib.hid (And.intro ho (And.intro hp hc)); clear ho hp hc hl
  have hg0 : Ext w (w.alloc (.cells #[vo, vp, vc] 31)) := World.grownBy_alloc _ _ _
  have b1 := Box3.made w 31 vo vp vc
  have hfr : ∀ (G : Nat → Prop) k, G k → k < w.heap.size → (G k ∧ k < w.heap.size) ∧ k < (w.alloc (.cells #[vo, vp, vc] 31)).heap.size ∧ (w.alloc (.cells #[vo, vp, vc] 31)).heap[k]? = w.heap[k]? := fun G k hk hlt => ⟨⟨hk, hlt⟩, Nat.lt_of_lt_of_le hlt hg0.size, hg0.block k hlt (by simp)⟩
  have g1 := rdOwn.mono h1 (hfr Fo)
  have g2 := rdRowsW.mono h2 (hfr Fp)
  have g3 := SlD.mono rdRowsW h3 (hfr Fc)
  have HF := Lib.hid (And.intro g1 (And.intro g2 (And.intro g3 (And.intro h4 (And.intro h5 h6))))); clear g1 g2 g3 h1 h2 h3 h4 h5 h6 hfr
  have HB := Lib.hid b1; clear b1
  have hsz : (w.alloc (.cells #[vo, vp, vc] 31)).heap.size = w.heap.size + 1 := by simp
  have HZ := Lib.hid hsz; clear hsz
  have hvo : ∃ a n c, vo = .slice a n c := by obtain ⟨a, c, hv, _⟩ := HF.out.1.ints.shape; exact ⟨_, _, _, hv⟩
  have hvp : ∃ a n c, vp = .slice a n c := by obtain ⟨a, c, hv, _⟩ := SlD.shape HF.out.2.1; exact ⟨_, _, _, hv⟩
  have hvc : ∃ a n c, vc = .slice a n c := by obtain ⟨a, c, hv, _⟩ := SlD.shape HF.out.2.2.1; exact ⟨_, _, _, hv⟩
  obtain ⟨oa, on, oc, rfl⟩ := hvo
  obtain ⟨pa, pn, pc, rfl⟩ := hvp
  obtain ⟨ca, cn, cc, rfl⟩ := hvc
  go_enter Tryz.func30, Tryz.ntmps30
  go_wp2_with fail
  generalize w.alloc (.cells #[.slice oa on oc, .slice pa pn pc, .slice ca cn cc] 31) = w0 at *
  have hbox : ∀ (G : Nat → Prop) (u1 u2 : World), Touch (fun k => G k ∧ k < w.heap.size) u1 u2 → Box3 u1 w.heap.size (.slice oa on oc) (.slice pa pn pc) (.slice ca cn cc) → Box3 u2 w.heap.size (.slice oa on oc) (.slice pa pn pc) (.slice ca cn cc) := fun G u1 u2 ht hb => by
    obtain ⟨c0, c1, c2, c3, c4⟩ := hb
    have e := ht.block w.heap.size c0 (fun h => by have := h.2; omega)
    exact ⟨Nat.lt_of_lt_of_le c0 ht.size, (World.cell?_of_block (w := u1) e).trans c1, (World.cell?_of_block (w := u1) e).trans c2, (World.cell?_of_block (w := u1) e).trans c3, fun k => (World.frozen?_of_block (w := u1) e).trans (c4 k)⟩
  have HX := Lib.hid hbox; clear hbox
  refine Calls.mono (markInt64S_ok _ _ 1 _ _ HF.out.1 ⟨by omega, by have := HS.out.1; omega⟩) ?_
  rintro eA wA ⟨rfl, hTA, _⟩
  have BA := HX.out _ _ _ hTA HB.out
  obtain ⟨_, a0, a1, a2, _⟩ := id BA
  have hpA := rdRowsW.mono HF.out.2.1 (hTA.frame (S := fun k => Fp k ∧ k < w.heap.size) (fun k hk hk' => (HF.out.2.2.2.1 k hk'.1).2.1 hk.1))
  have hcA := SlD.mono rdRowsW HF.out.2.2.1 (hTA.frame (S := fun k => Fc k ∧ k < w.heap.size) (fun k hk hk' => (HF.out.2.2.2.1 k hk'.1).2.2 hk.1))
  go_wp2_with fail
  clear a0 a1 a2
  refine Calls.mono (markInt64SS_ok _ _ (1 + (P.orders.length : Int)) _ _ hpA ⟨by omega, by have := HS.out; omega⟩) ?_
  rintro eB wB ⟨rfl, hTB, _⟩
  have BB := HX.out _ _ _ hTB BA
  obtain ⟨_, a0, a1, a2, _⟩ := id BB
  have hcB := SlD.mono rdRowsW hcA (hTB.frame (S := fun k => Fc k ∧ k < w.heap.size) (fun k hk hk' => (HF.out.2.2.2.2.1 k hk'.1).2 hk.1))
  go_wp2_with fail
  clear a0 a1 a2
  refine Calls.mono (markInt64SSS_ok _ _ (1 + (P.orders.length : Int) + (tot2 P.powers : Nat)) _ _ hcB ⟨by omega, by have := HS.out; omega⟩) ?_
  rintro eC wC ⟨rfl, hTC, _⟩
  go_wp2
  go_ret
  have t0 : Touch (fun k => F k ∨ w.heap.size ≤ k) w w0 := Touch.of hg0 (fun k hk => by cases hk)
  have t1 : Touch (fun k => F k ∨ w.heap.size ≤ k) w wA := t0.trans hTA (fun _ h => h) (fun k hk => .inl (HF.out.2.2.2.1 k hk.1).1)
  have t2 : Touch (fun k => F k ∨ w.heap.size ≤ k) w wB := t1.trans hTB (fun _ h => h) (fun k hk => .inl (HF.out.2.2.2.2.1 k hk.1).1)
  have t3 : Touch (fun k => F k ∨ w.heap.size ≤ k) w wC := t2.trans hTC (fun _ h => h) (fun k hk => .inl (HF.out.2.2.2.2.2 k hk.1))
  exact ⟨_, ⟨by omega, by have := HS.out; omega⟩, rfl, t3⟩

end Go.Proofs.YtdklekdpdbjfiaaGreat

/- The laws' look at marked rows of rows: laws.heldInt64SS, heldInt64SSS. -/
namespace Go.Proofs.YtdklekdpdbjfiaaGreat
open Go.RowKit

set_option maxHeartbeats 1000000 in
theorem heldInt64SS_ok (v : Value) (xs : List (List Int)) (q : Int) (w : World) (S : Nat → Prop) (h : Rows2 S w v (up2 q xs)) (hq0 : 0 ≤ q ∧ q + tot2 xs ≤ 1000000000) :
    Calls Tryz.prog 33 #[v, .int .i64 q] w (Ret w fun _ r => r = .int .i64 (q + tot2 xs)) := by
  have hq : 0 ≤ q ∧ q + szTo List.length xs xs.length ≤ 1000000000 := hq0
  clear hq0
  obtain ⟨a, cap, rfl, hcap, hmax⟩ := Sl.shape h
  have hul : (up2 q xs).length = xs.length := mixTo_len _ _ _ _ _
  rw [hul] at h hmax ⊢
  have HU := Lib.hid hul; clear hul
  go_enter Tryz.func33, Tryz.ntmps33
  go_wp2
  go_loopw [1, 5] (fun qv iv wr => ∃ k : Nat, iv = .int .i64 k ∧ qv = .int .i64 (q + szTo List.length xs k) ∧ k ≤ xs.length ∧ Ext w wr) (fun _ iv _ => xs.length - (intOf iv).toNat)
  case atStart => exact ⟨0, rfl, by simp [szTo], by omega, Ext.refl _⟩
  case round =>
    obtain ⟨k, rfl, rfl, hk, hg⟩ := hrel
    by_cases hlt : k < xs.length
    · obtain ⟨b, off, a2, cap2, rfl, _, _, hc2, hi2⟩ := Rows2.at (Rows2.ext h hg) k (by rw [HU.out]; exact hlt)
      have hgu : gt (up2 q xs) k = up1 (q + szTo List.length xs k) (gt xs k) := by
        unfold up2; rw [gt_mixTo _ _ _ _ _ _ hlt, if_pos hlt]
      have hm := szTo_mono List.length xs (show k + 1 ≤ xs.length by omega)
      have hst : szTo List.length xs (k + 1) = szTo List.length xs k + List.length (gt xs k) := rfl
      have hqk : 0 ≤ q + (szTo List.length xs k : Nat) ∧ q + (szTo List.length xs k : Nat) + (List.length (gt xs k) : Nat) ≤ 1000000000 := by omega
      have h0 : 0 ≤ q + (szTo List.length xs k : Nat) + (List.length (gt xs k) : Nat) := by omega
      have h1 : ¬ (q + (szTo List.length xs k : Nat) + (List.length (gt xs k) : Nat) < 0) := by omega
      have hi3 : Ints S wr (.slice a2 (gt (up2 q xs) k).length cap2) (up1 (q + szTo List.length xs k) (gt xs k)) := by rw [← hgu]; exact hi2
      have HQ := Lib.hid (And.intro hqk (And.intro hm hst)); clear hqk hm hst hi2 hgu
      generalize (gt (up2 q xs) k).length = m2 at *
      go_wp2_with fail
      refine Calls.mono (heldInt64S_ok _ ((gt xs k).length) (q + (szTo List.length xs k : Nat)) wr S hi3 HQ.out.1) ?_
      rintro eA wA ⟨vA, rfl, hgA, rfl⟩
      clear hc2 hi3
      go_wp2
      go_roundw
      case rel => exact ⟨k + 1, by go_num, by simp [szTo]; omega, by omega, grown_trans hg hgA⟩
      case measure => simp [intOf]; omega
    · have hke : k = xs.length := by omega
      subst hke
      go_wp2
      go_ret
      exact ⟨_, rfl, hg, rfl⟩

end Go.Proofs.YtdklekdpdbjfiaaGreat

/- What a law over one presentation and one list keeps in view. -/
namespace Go.Proofs.YtdklekdpdbjfiaaGreat
open Go.RowKit

/-- what a law over one presentation and one list keeps in view -/
structure St (P : Pr) (w W : World) (vo vp vc uo up uc r g : Value) (bx : Nat) (FX FR FG : Nat → Prop) (l l' : List Int) : Prop where
  a : Ext w W
  b : Box3 W w.heap.size vo vp vc
  x : Box3 W bx uo up uc
  p : PresW FX W (.agg #[uo, up, uc]) P
  r : OwnIn FR W r l
  g : OwnIn FG W g l'

theorem St.ext {P : Pr} {w W W' : World} {vo vp vc uo up uc r g : Value} {bx : Nat} {FX FR FG : Nat → Prop} {l l' : List Int} (h : St P w W vo vp vc uo up uc r g bx FX FR FG l l') (hg : Ext W W') : St P w W' vo vp vc uo up uc r g bx FX FR FG l l' :=
  ⟨grown_trans h.a hg, h.b.ext hg, h.x.ext hg, h.p.ext hg, rdOwn.mono h.r (frame_ext hg), rdOwn.mono h.g (frame_ext hg)⟩

theorem Box3.keep {W W' : World} {b : Nat} {x0 x1 x2 : Value} (h : Box3 W b x0 x1 x2) (hs : W.heap.size ≤ W'.heap.size) (e : W'.heap[b]? = W.heap[b]?) : Box3 W' b x0 x1 x2 := by
  obtain ⟨c0, c1, c2, c3, c4⟩ := h
  exact ⟨Nat.lt_of_lt_of_le c0 hs, (World.cell?_of_block (w := W) e).trans c1, (World.cell?_of_block (w := W) e).trans c2, (World.cell?_of_block (w := W) e).trans c3, fun k => (World.frozen?_of_block (w := W) e).trans (c4 k)⟩

end Go.Proofs.YtdklekdpdbjfiaaGreat

/- Plain: a presentation's relations, held by members of a monoid, are kept by the reference's product and by the program's collection (von Dyck's law, without any consistency). -/
namespace Go.Proofs.YtdklekdpdbjfiaaGreat

theorem iter_add {α : Type} (f : α → α) (n k : Nat) (x : α) : iter (n + k) f x = iter n f (iter k f x) := by
  induction n with
  | zero => rw [Nat.zero_add]; rfl
  | succ n ih => rw [Nat.succ_add]; show f (iter (n + k) f x) = f (iter n f (iter k f x)); rw [ih]
theorem iter_rel {α β : Type} (R : α → β → Prop) (f : α → α) (g : β → β) (h : ∀ x y, R x y → R (f x) (g y)) (n : Nat) (x : α) (y : β) (hxy : R x y) : R (iter n f x) (iter n g y) := by
  induction n with
  | zero => exact hxy
  | succ n ih => exact h _ _ ih
theorem iter_congr {α : Type} (Q : α → Prop) (f g : α → α) (hQ : ∀ x, Q x → Q (f x)) (h : ∀ x, Q x → f x = g x) (n : Nat) (x : α) (hx : Q x) : iter n f x = iter n g x := by
  induction n with
  | zero => rfl
  | succ n ih =>
    show f (iter n f x) = g (iter n g x)
    rw [← ih]; exact h _ (iter_inv Q f hQ n x hx)

/-- a monoid on the members of S -/
structure MonOn {α : Type} (S : α → Prop) (m : α → α → α) (e : α) : Prop where
  cl : ∀ x y, S x → S y → S (m x y)
  one : S e
  ass : ∀ x y z, S x → S y → S z → m (m x y) z = m x (m y z)
  el : ∀ x, S x → m e x = x
  er : ∀ x, S x → m x e = x

/-- entries of x from index i on, each as often as it says brought to bear on out -/
def acc {α : Type} (g : α → Nat → α) (x : List Int) (i : Nat) (out : α) : Nat → α
  | 0 => out
  | k + 1 => iter (gt x (i + k)).toNat (fun y => g y (i + k)) (acc g x i out k)

theorem acc_front {α : Type} (g : α → Nat → α) (x : List Int) (i : Nat) (out : α) (k : Nat) : acc g x i out (k + 1) = acc g x (i + 1) (iter (gt x i).toNat (fun y => g y i) out) k := by
  induction k with
  | zero => rfl
  | succ k ih =>
    rw [acc, ih]
    show _ = iter (gt x (i + 1 + k)).toNat (fun y => g y (i + 1 + k)) _
    rw [show i + (k + 1) = i + 1 + k by omega]

theorem acc_inv {α : Type} (Q : α → Prop) (g : α → Nat → α) (x : List Int) (i : Nat) (out : α) (k : Nat) (ho : Q out) (h : ∀ y j, Q y → i ≤ j → j < i + k → gt x j ≠ 0 → Q (g y j)) : Q (acc g x i out k) := by
  induction k with
  | zero => exact ho
  | succ k ih =>
    have h1 := ih (fun y j hy a b c => h y j hy a (by omega) c)
    by_cases h0 : gt x (i + k) = 0
    · rw [acc, h0]; exact h1
    · exact iter_inv Q _ (fun y hy => h y (i + k) hy (by omega) (by omega) h0) _ _ h1

theorem acc_rel {α β : Type} (R : α → β → Prop) (g : α → Nat → α) (g' : β → Nat → β) (x : List Int) (i : Nat) (out : α) (out' : β) (k : Nat) (ho : R out out') (h : ∀ y z j, R y z → i ≤ j → j < i + k → gt x j ≠ 0 → R (g y j) (g' z j)) :
    R (acc g x i out k) (acc g' x i out' k) := by
  induction k with
  | zero => exact ho
  | succ k ih =>
    have h1 := ih (fun y z j hy a b c => h y z j hy a (by omega) c)
    by_cases h0 : gt x (i + k) = 0
    · rw [acc, acc, h0]; exact h1
    · exact iter_rel R _ _ (fun y z hy => h y z (i + k) hy (by omega) (by omega) h0) _ _ _ h1

theorem acc_congr {α : Type} (g : α → Nat → α) (x x' : List Int) (i : Nat) (out : α) (k : Nat) (h : ∀ j, i ≤ j → j < i + k → gt x j = gt x' j) : acc g x i out k = acc g x' i out k := by
  induction k with
  | zero => rfl
  | succ k ih => rw [acc, acc, ih (fun j a b => h j a (by omega)), h (i + k) (by omega) (by omega)]

theorem acc_zero {α : Type} (g : α → Nat → α) (x : List Int) (i : Nat) (out : α) (k : Nat) (h : ∀ j, i ≤ j → j < i + k → gt x j = 0) : acc g x i out k = out := by
  induction k with
  | zero => rfl
  | succ k ih => rw [acc, ih (fun j a b => h j a (by omega)), h (i + k) (by omega) (by omega)]; rfl

theorem acc_split {α : Type} (g : α → Nat → α) (x : List Int) (i : Nat) (out : α) (a b : Nat) : acc g x i out (a + b) = acc g x (i + a) (acc g x i out a) b := by
  induction b with
  | zero => rfl
  | succ b ih =>
    show acc g x i out ((a + b) + 1) = _
    rw [acc, acc, ih, show i + (a + b) = i + a + b by omega]

theorem rImgTo_acc (at_ : List Int → List Int → List Int) (cs : List (List Int)) (i : Nat) (x out : List Int) (k : Nat) :
    rImgTo at_ cs i x out k = acc (fun y j => at_ y (gt cs (j - i - 1))) x (i + 1) out k := by
  induction k with
  | zero => rfl
  | succ k ih => rw [rImgTo, acc, ih]; simp only [show i + 1 + k - i - 1 = k by omega]

theorem tvecTo_acc (g : List Int → Nat → List Int) (f e : List Int) (k : Nat) : tvecTo g f e k = acc g f 0 e k := by
  induction k with
  | zero => rfl
  | succ k ih => rw [tvecTo, acc, ih, Nat.zero_add]

theorem tconjTo_acc (g : List Int → Nat → List Int) (cs : List (List Int)) (e : List Int) (j : Nat) (out : List Int) (k : Nat) :
    tconjTo g cs (e.drop (j + 1)) out k = acc (fun y l => tvec g y (gt cs (l - j - 1))) e (j + 1) out k := by
  induction k with
  | zero => rfl
  | succ k ih =>
    rw [tconjTo, acc, ih]
    have : gt (e.drop (j + 1)) k = gt e (j + 1 + k) := by simp [gt]
    simp only [this, show j + 1 + k - j - 1 = k by omega]

section
variable {α : Type} {S : α → Prop} {m : α → α → α} {e : α}

/-- powers -/
theorem MonOn.pow_cl (M : MonOn S m e) {h y : α} (hh : S h) (hy : S y) (k : Nat) : S (iter k (fun y => m y h) y) := iter_inv S _ (fun y hy => M.cl y h hy hh) k y hy
theorem MonOn.pow_out (M : MonOn S m e) {h y : α} (hh : S h) (hy : S y) (k : Nat) : iter k (fun y => m y h) y = m y (iter k (fun y => m y h) e) := by
  induction k with
  | zero => exact (M.er y hy).symm
  | succ k ih =>
    show m (iter k (fun y => m y h) y) h = m y (m (iter k (fun y => m y h) e) h)
    rw [ih, M.ass y _ h hy (M.pow_cl hh M.one k) hh]
theorem MonOn.pow_add (M : MonOn S m e) {h : α} (hh : S h) (a b : Nat) : iter (a + b) (fun y => m y h) e = m (iter a (fun y => m y h) e) (iter b (fun y => m y h) e) := by
  rw [Nat.add_comm, iter_add, M.pow_out hh (M.pow_cl hh M.one a)]

/-- the product of powers of members, from index i on, k of them -/
def npr (m : α → α → α) (h : Nat → α) (x : List Int) (i : Nat) (out : α) (k : Nat) : α := acc (fun y j => m y (h j)) x i out k

theorem npr_cl (M : MonOn S m e) {h : Nat → α} {x : List Int} {i : Nat} {out : α} {k : Nat} (ho : S out) (hh : ∀ j, i ≤ j → j < i + k → S (h j)) : S (npr m h x i out k) :=
  acc_inv S _ x i out k ho (fun y j hy a b _ => M.cl y _ hy (hh j a b))

theorem npr_out (M : MonOn S m e) {h : Nat → α} {x : List Int} {i : Nat} {out : α} {k : Nat} (ho : S out) (hh : ∀ j, i ≤ j → j < i + k → S (h j)) : npr m h x i out k = m out (npr m h x i e k) := by
  induction k with
  | zero => exact (M.er out ho).symm
  | succ k ih =>
    have hh' : ∀ j, i ≤ j → j < i + k → S (h j) := fun j a b => hh j a (by omega)
    have h1 := ih hh'
    unfold npr at h1 ⊢
    rw [acc, acc, h1]
    have c1 : S (npr m h x i e k) := npr_cl M M.one hh'
    have hk := hh (i + k) (by omega) (by omega)
    unfold npr at c1
    rw [M.pow_out hk (M.cl _ _ ho c1), M.pow_out hk c1, M.ass _ _ _ ho c1 (M.pow_cl hk M.one _)]

theorem npr_front (M : MonOn S m e) {h : Nat → α} {x : List Int} {i : Nat} {k : Nat} (hh : ∀ j, i ≤ j → j < i + (k + 1) → S (h j)) :
    npr m h x i e (k + 1) = m (iter (gt x i).toNat (fun y => m y (h i)) e) (npr m h x (i + 1) e k) := by
  have h1 : npr m h x i e (k + 1) = npr m h x (i + 1) (iter (gt x i).toNat (fun y => m y (h i)) e) k := acc_front _ x i e k
  rw [h1]
  exact npr_out M (M.pow_cl (hh i (by omega) (by omega)) M.one _) (fun j a b => hh j (by omega) (by omega))

/-- members h hold the relations of a presentation from index i on -/
structure Holds (P : Pr) (S : α → Prop) (m : α → α → α) (e : α) (h : Nat → α) (i : Nat) : Prop where
  mem : ∀ j, i ≤ j → j < P.orders.length → S (h j)
  pw : ∀ j, i ≤ j → j < P.orders.length → iter (gt P.orders j).toNat (fun y => m y (h j)) e = npr m h (gt P.powers j) (j + 1) e (P.orders.length - (j + 1))
  cj : ∀ j k, i ≤ j → j < k → k < P.orders.length → m (h k) (h j) = m (h j) (npr m h (gt (gt P.conj j) (k - j - 1)) (j + 1) e (P.orders.length - (j + 1)))

theorem Holds.up {P : Pr} {h : Nat → α} {i i' : Nat} (H : Holds P S m e h i) (hi : i ≤ i') : Holds P S m e h i' :=
  ⟨fun j a b => H.mem j (by omega) b, fun j a b => H.pw j (by omega) b, fun j k a b c => H.cj j k (by omega) b c⟩

/-- the image behind a generator -/
theorem vd_image {P : Pr} (hP : Valid P) (M : MonOn S m e) {h : Nat → α} {i f : Nat} (hi : i + (f + 1) = P.orders.length) (H : Holds P S m e h i)
    (ih : ∀ A B, Vec P.orders A → Vec P.orders B → npr m h (rAt P f (i + 1) A B) (i + 1) e f = m (npr m h A (i + 1) e f) (npr m h B (i + 1) e f)) (x : List Int) :
    m (npr m h x (i + 1) e f) (h i) = m (h i) (npr m h (rImage P f i x) (i + 1) e f) := by
  have hm : ∀ j, i ≤ j → j < P.orders.length → S (h j) := H.mem
  have hN : ∀ y, S (npr m h y (i + 1) e f) := fun y => npr_cl M M.one (fun j a b => hm j (by omega) (by omega))
  unfold rImage
  rw [rImgTo_acc]
  have hsi := hm i (by omega) (by omega)
  have hR : (fun (y : α) (z : List Int) => S y ∧ Vec P.orders z ∧ m y (h i) = m (h i) (npr m h z (i + 1) e f)) (npr m h x (i + 1) e f)
      (acc (fun y j => rAt P f (i + 1) y (gt (gt P.conj i) (j - i - 1))) x (i + 1) (zeros P.orders.length) f) := by
    unfold npr
    refine acc_rel (fun (y : α) (z : List Int) => S y ∧ Vec P.orders z ∧ m y (h i) = m (h i) (npr m h z (i + 1) e f)) _ _ x (i + 1) _ _ f ⟨M.one, zeros_vec hP, ?_⟩ ?_
    · have h0 : npr m h (zeros P.orders.length) (i + 1) e f = e := acc_zero _ _ _ _ _ (fun j _ _ => gt_replicate _ _)
      rw [h0, M.el _ hsi, M.er _ hsi]
    · rintro y z j ⟨h1, h2, h3⟩ a b _
      have hc := (hP.cv i (by omega)).2 (j - i - 1) (by omega)
      have hj := hm j (by omega) (by omega)
      refine ⟨M.cl _ _ h1 hj, rAt_vec hP f _ _ _ (by omega) h2 hc.1, ?_⟩
      have h4 := ih z _ h2 hc.1
      have h5 := H.cj i j (by omega) (by omega) (by omega)
      have hf : P.orders.length - (i + 1) = f := by omega
      rw [hf] at h5
      have c1 := hN z
      have c2 := hN (gt (gt P.conj i) (j - i - 1))
      unfold npr at h3 h4 h5 c1 c2 ⊢
      rw [h4, M.ass _ _ _ h1 hj hsi, h5, ← M.ass _ _ _ h1 hsi c2, h3, M.ass _ _ _ hsi c1 c2]
  exact hR.2.2

/-- von Dyck's law for the reference's product -/
theorem vd_at {P : Pr} (hP : Valid P) (M : MonOn S m e) {h : Nat → α} (f : Nat) : ∀ (i : Nat), i + f = P.orders.length → Holds P S m e h i → ∀ A B, Vec P.orders A → Vec P.orders B →
    npr m h (rAt P f i A B) i e f = m (npr m h A i e f) (npr m h B i e f) := by
  induction f with
  | zero => intro i _ _ A B _ _; exact (M.el e M.one).symm
  | succ f ih =>
    intro i hi H A B hA hB
    have IH := ih (i + 1) (by omega) (H.up (by omega))
    have hm : ∀ j, i ≤ j → j < P.orders.length → S (h j) := H.mem
    have hN : ∀ y, S (npr m h y (i + 1) e f) := fun y => npr_cl M M.one (fun j a b => hm j (by omega) (by omega))
    have hsi := hm i (by omega) (by omega)
    have hW : ∀ k, S (iter k (fun y => m y (h i)) e) := fun k => M.pow_cl hsi M.one k
    have him := vd_image hP M hi H IH
    have hset : ∀ (y : List Int) (c : Int), npr m h (y.set i c) (i + 1) e f = npr m h y (i + 1) e f := fun y c =>
      acc_congr _ _ _ _ _ _ (fun j a _ => gt_set_ne _ _ _ _ (by omega))
    have hfr : ∀ y, npr m h y i e (f + 1) = m (iter (gt y i).toNat (fun y => m y (h i)) e) (npr m h y (i + 1) e f) := fun y => npr_front M (fun j a b => hm j a (by omega))
    have ho := hP.ord7 i (by omega)
    have hAi := hA.2 i (by omega)
    have hBi := hB.2 i (by omega)
    -- the left factor drawn through
    have hleft : ∀ b : Nat, Vec P.orders (iter b (fun l => rImgTo (rAt P f (i + 1)) (gt P.conj i) i l (zeros P.orders.length) f) (A.set i 0)) ∧
        m (npr m h A (i + 1) e f) (iter b (fun y => m y (h i)) e) = m (iter b (fun y => m y (h i)) e) (npr m h (iter b (fun l => rImgTo (rAt P f (i + 1)) (gt P.conj i) i l (zeros P.orders.length) f) (A.set i 0)) (i + 1) e f) := by
      intro b
      induction b with
      | zero =>
        refine ⟨hA.set i 0 ⟨by omega, fun _ => by omega⟩, ?_⟩
        show m _ e = m e (npr m h (A.set i 0) (i + 1) e f)
        rw [hset, M.er _ (hN A), M.el _ (hN A)]
      | succ b ihb =>
        obtain ⟨v1, e1⟩ := ihb
        have v2 : Vec P.orders (rImgTo (rAt P f (i + 1)) (gt P.conj i) i (iter b (fun l => rImgTo (rAt P f (i + 1)) (gt P.conj i) i l (zeros P.orders.length) f) (A.set i 0)) (zeros P.orders.length) f) :=
          rImgTo_vec hP f i hi (rAt_vec hP f) _ _ (zeros_vec hP) f (Nat.le_refl _)
        refine ⟨v2, ?_⟩
        have e2 := him (iter b (fun l => rImgTo (rAt P f (i + 1)) (gt P.conj i) i l (zeros P.orders.length) f) (A.set i 0))
        show m _ (m (iter b (fun y => m y (h i)) e) (h i)) = m (m (iter b (fun y => m y (h i)) e) (h i)) (npr m h (rImage P f i _) (i + 1) e f)
        rw [← M.ass _ _ _ (hN A) (hW b) hsi, e1, M.ass _ _ _ (hW b) (hN _) hsi, e2, ← M.ass _ _ _ (hW b) hsi (hN _)]
    obtain ⟨vl, el⟩ := hleft (gt B i).toNat
    have vB : Vec P.orders (B.set i 0) := hB.set i 0 ⟨by omega, fun _ => by omega⟩
    have er := IH _ _ vl vB
    rw [hset B 0] at er
    have vr := rAt_vec hP f (i + 1) _ _ (by omega) vl vB
    rw [hfr A, hfr B]
    -- both sides to one form
    have key : m (m (iter (gt A i).toNat (fun y => m y (h i)) e) (npr m h A (i + 1) e f)) (m (iter (gt B i).toNat (fun y => m y (h i)) e) (npr m h B (i + 1) e f)) =
        m (iter ((gt A i).toNat + (gt B i).toNat) (fun y => m y (h i)) e) (npr m h (rAt P f (i + 1) (iter (gt B i).toNat (fun l => rImgTo (rAt P f (i + 1)) (gt P.conj i) i l (zeros P.orders.length) f) (A.set i 0)) (B.set i 0)) (i + 1) e f) := by
      rw [er, M.pow_add hsi, M.ass _ _ _ (hW _) (hN _) (M.cl _ _ (hW _) (hN _)), ← M.ass _ _ _ (hN A) (hW _) (hN _), el, M.ass _ _ _ (hW _) (hN _) (hN _), ← M.ass _ _ _ (hW _) (hW _) (M.cl _ _ (hN _) (hN _))]
    rw [key, hfr]
    simp only [rAt]
    by_cases hc : gt P.orders i ≤ gt A i + gt B i
    · rw [if_pos hc]
      have vp := (hP.pv i (by omega)).1
      have v3 := rAt_vec hP f (i + 1) _ _ (by omega) vp vr
      rw [hset, gt_set_eq _ _ _ (by rw [v3.1]; omega), IH _ _ vp vr]
      have hsum : (gt A i).toNat + (gt B i).toNat = (gt A i + gt B i - gt P.orders i).toNat + (gt P.orders i).toNat := by omega
      rw [hsum, M.pow_add hsi, H.pw i (by omega) (by omega), show P.orders.length - (i + 1) = f by omega, M.ass _ _ _ (hW _) (hN _) (hN _)]
    · rw [if_neg hc, hset, gt_set_eq _ _ _ (by rw [vr.1]; omega)]
      have hsum : (gt A i).toNat + (gt B i).toNat = (gt A i + gt B i).toNat := by omega
      rw [hsum]

/-- a product in three pieces: ahead of index j, at j, behind j -/
theorem npr_three (M : MonOn S m e) {h : Nat → α} {y : List Int} {i j n : Nat} (hij : i ≤ j) (hj : j < n) (hh : ∀ l, i ≤ l → l < n → S (h l)) :
    npr m h y i e (n - i) = m (m (npr m h y i e (j - i)) (iter (gt y j).toNat (fun y => m y (h j)) e)) (npr m h y (j + 1) e (n - (j + 1))) := by
  have h1 : npr m h y i e (n - i) = npr m h y (j + 1) (iter (gt y j).toNat (fun y => m y (h j)) (npr m h y i e (j - i))) (n - (j + 1)) := by
    unfold npr
    rw [show n - i = (j - i) + ((n - (j + 1)) + 1) by omega, acc_split, acc_front, show i + (j - i) = j by omega]
  have c1 : S (npr m h y i e (j - i)) := npr_cl M M.one (fun l a b => hh l a (by omega))
  rw [h1, npr_out M (M.pow_cl (hh j hij hj) c1 _) (fun l a b => hh l (by omega) (by omega)), M.pow_out (hh j hij hj) c1]

/-- von Dyck's law for the program's collection -/
theorem vd_gen {P : Pr} (hP : Valid P) (M : MonOn S m e) {h : Nat → α} {i : Nat} (H : Holds P S m e h i) (f : Nat) : ∀ (E : List Int) (j : Nat), Vec P.orders E → i ≤ j → j < P.orders.length → P.orders.length ≤ f + j →
    npr m h (tgen P f E j) i e (P.orders.length - i) = m (npr m h E i e (P.orders.length - i)) (h j) := by
  have hm : ∀ j, i ≤ j → j < P.orders.length → S (h j) := H.mem
  have hN : ∀ y, S (npr m h y i e (P.orders.length - i)) := fun y => npr_cl M M.one (fun j a b => hm j a (by omega))
  induction f with
  | zero => intro E j _ _ hj hf; omega
  | succ f ih =>
    intro E j hE hij hj hf
    have hsj := hm j hij hj
    have hT : ∀ y, S (npr m h y (j + 1) e (P.orders.length - (j + 1))) := fun y => npr_cl M M.one (fun l a b => hm l (by omega) (by omega))
    have hpre : ∀ y, S (npr m h y i e (j - i)) := fun y => npr_cl M M.one (fun l a b => hm l a (by omega))
    have hW : ∀ k, S (iter k (fun y => m y (h j)) e) := fun k => M.pow_cl hsj M.one k
    have hvk : ∀ c, Vec P.orders c → ZeroTo j c → ∀ x, Vec P.orders x → Vec P.orders (tvec (tgen P f) x c) := fun c hc hz x hx =>
      tvec_vec hc (fun e i he hi h0 => tgen_vec hP f e i he hi (by
        have : ¬ i ≤ j := fun h => h0 (hz i h)
        omega)) hx
    have hvm : ∀ c, Vec P.orders c → ZeroTo j c → ∀ x, Vec P.orders x →
        npr m h (tvec (tgen P f) x c) i e (P.orders.length - i) = m (npr m h x i e (P.orders.length - i)) (npr m h c (j + 1) e (P.orders.length - (j + 1))) := by
      intro c hc hz x hx
      unfold tvec
      rw [tvecTo_acc, hc.1, show P.orders.length = (j + 1) + (P.orders.length - (j + 1)) by omega, acc_split, acc_zero (tgen P f) c 0 x (j + 1) (fun l _ b => hz l (by omega)), show 0 + (j + 1) = j + 1 by omega,
        show (j + 1) + (P.orders.length - (j + 1)) = P.orders.length by omega]
      have hR := acc_rel (fun (y : α) (z : List Int) => S y ∧ Vec P.orders z ∧ npr m h z i e (P.orders.length - i) = y) (fun y l => m y (h l)) (tgen P f) c (j + 1) (npr m h x i e (P.orders.length - i)) x (P.orders.length - (j + 1))
        ⟨hN x, hx, rfl⟩ (by
          rintro y z l ⟨h1, h2, h3⟩ a b _
          refine ⟨M.cl _ _ h1 (hm l (by omega) (by omega)), tgen_vec hP f z l h2 (by omega) (by omega), ?_⟩
          rw [ih z l h2 (by omega) (by omega) (by omega), h3])
      rw [hR.2.2]
      exact npr_out M (hN x) (fun l a b => hm l (by omega) (by omega))
    have hl := hE.1
    have hzl : j + 1 + (E.drop (j + 1)).length ≤ E.length := by simp; omega
    have hz := hE.zeroed j (E.drop (j + 1)).length hzl
    have hx := hE.2 j hj
    have ho := hP.ord7 j hj
    have hlz := length_zeroed E j (E.drop (j + 1)).length hzl
    have hN3 : ∀ c : Int, npr m h ((zeroed E j (E.drop (j + 1)).length).set j c) i e (P.orders.length - i) = m (npr m h E i e (j - i)) (iter c.toNat (fun y => m y (h j)) e) := by
      intro c
      rw [npr_three M hij hj hm, gt_set_eq _ _ _ (by omega)]
      have e1 : npr m h ((zeroed E j (E.drop (j + 1)).length).set j c) i e (j - i) = npr m h E i e (j - i) :=
        acc_congr _ _ _ _ _ _ (fun l a b => by rw [gt_set_ne _ _ _ _ (by omega), gt_zeroed _ _ _ _ hzl, if_neg (by omega)])
      have e2 : npr m h ((zeroed E j (E.drop (j + 1)).length).set j c) (j + 1) e (P.orders.length - (j + 1)) = e :=
        acc_zero _ _ _ _ _ (fun l a b => by
          rw [gt_set_ne _ _ _ _ (by omega), gt_zeroed _ _ _ _ hzl, if_pos ⟨by omega, by simp; omega⟩])
      rw [e1, e2, M.er _ (M.cl _ _ (hpre E) (hW _))]
    obtain ⟨e2, he2⟩ : ∃ e2, e2 = (if gt E j + 1 = gt P.orders j then tvec (tgen P f) (((zeroed E j (E.drop (j + 1)).length).set j (gt E j + 1)).set j 0) (gt P.powers j) else (zeroed E j (E.drop (j + 1)).length).set j (gt E j + 1)) := ⟨_, rfl⟩
    have h2 : Vec P.orders e2 ∧ npr m h e2 i e (P.orders.length - i) = m (m (npr m h E i e (j - i)) (iter (gt E j).toNat (fun y => m y (h j)) e)) (h j) := by
      have hs : m (npr m h E i e (j - i)) (iter (gt E j + 1).toNat (fun y => m y (h j)) e) = m (m (npr m h E i e (j - i)) (iter (gt E j).toNat (fun y => m y (h j)) e)) (h j) := by
        rw [show (gt E j + 1).toNat = (gt E j).toNat + 1 by omega]
        exact (M.ass _ _ _ (hpre E) (hW _) hsj).symm
      rw [he2]
      split
      · rename_i hc
        rw [List.set_set]
        have hv0 : Vec P.orders ((zeroed E j (E.drop (j + 1)).length).set j 0) := hz.set j 0 ⟨by omega, fun _ => by omega⟩
        refine ⟨hvk _ (hP.pv j hj).1 (hP.pv j hj).2 _ hv0, ?_⟩
        rw [hvm _ (hP.pv j hj).1 (hP.pv j hj).2 _ hv0, hN3, ← H.pw j hij hj, ← hs, hc]
        show m (m _ e) _ = _
        rw [M.er _ (hpre E)]
      · rename_i hc
        exact ⟨hz.set j _ ⟨by omega, fun _ => by omega⟩, by rw [hN3, hs]⟩
    have hdef : tgen P (f + 1) E j = tconjTo (tgen P f) (gt P.conj j) (E.drop (j + 1)) e2 (E.drop (j + 1)).length := by rw [he2]; rfl
    have hdl : (E.drop (j + 1)).length = P.orders.length - (j + 1) := by simp; omega
    rw [hdef, tconjTo_acc, hdl]
    have cQ : S (m (npr m h E i e (j - i)) (iter (gt E j).toNat (fun y => m y (h j)) e)) := M.cl _ _ (hpre E) (hW _)
    have hR := acc_rel (fun (y : α) (z : List Int) => S y ∧ Vec P.orders z ∧ npr m h z i e (P.orders.length - i) = m (m (m (npr m h E i e (j - i)) (iter (gt E j).toNat (fun y => m y (h j)) e)) y) (h j))
      (fun y l => m y (h l)) (fun y l => tvec (tgen P f) y (gt (gt P.conj j) (l - j - 1))) E (j + 1) e e2 (P.orders.length - (j + 1))
      ⟨M.one, h2.1, by rw [h2.2, M.er _ cQ]⟩ (by
        rintro y z l ⟨h3, h4, h5⟩ a b _
        have hc := (hP.cv j hj).2 (l - j - 1) (by omega)
        have hsl := hm l (by omega) (by omega)
        refine ⟨M.cl _ _ h3 hsl, hvk _ hc.1 hc.2 _ h4, ?_⟩
        rw [hvm _ hc.1 hc.2 _ h4, h5, M.ass _ _ _ (M.cl _ _ cQ h3) hsj (hT _), ← H.cj j l hij (by omega) (by omega), ← M.ass _ _ _ (M.cl _ _ cQ h3) hsl hsj, M.ass _ _ _ cQ h3 hsl])
    rw [hR.2.2, npr_three M hij hj hm (y := E)]
    rfl

theorem vd_tg {P : Pr} (hP : Valid P) (M : MonOn S m e) {h : Nat → α} {i : Nat} (H : Holds P S m e h i) (E : List Int) (j : Nat) (hE : Vec P.orders E) (hij : i ≤ j) (hj : j < P.orders.length) :
    npr m h (tg P E j) i e (P.orders.length - i) = m (npr m h E i e (P.orders.length - i)) (h j) := vd_gen hP M H _ E j hE hij hj (by omega)

theorem vd_tv {P : Pr} (hP : Valid P) (M : MonOn S m e) {h : Nat → α} {i : Nat} (hi : i ≤ P.orders.length) (H : Holds P S m e h i) (E F : List Int) (hE : Vec P.orders E) (hF : Vec P.orders F) (hz : ∀ k, k < i → gt F k = 0) :
    npr m h (tv P E F) i e (P.orders.length - i) = m (npr m h E i e (P.orders.length - i)) (npr m h F i e (P.orders.length - i)) := by
  have hm : ∀ j, i ≤ j → j < P.orders.length → S (h j) := H.mem
  have hN : ∀ y, S (npr m h y i e (P.orders.length - i)) := fun y => npr_cl M M.one (fun j a b => hm j a (by omega))
  unfold tv tvec
  rw [tvecTo_acc, hF.1, show P.orders.length = i + (P.orders.length - i) by omega, acc_split, acc_zero (tg P) F 0 E i (fun l _ b => hz l (by omega)), show 0 + i = i by omega,
    show i + (P.orders.length - i) = P.orders.length by omega]
  have hR := acc_rel (fun (y : α) (z : List Int) => S y ∧ Vec P.orders z ∧ npr m h z i e (P.orders.length - i) = y) (fun y l => m y (h l)) (tg P) F i (npr m h E i e (P.orders.length - i)) E (P.orders.length - i)
    ⟨hN E, hE, rfl⟩ (by
      rintro y z l ⟨h1, h2, h3⟩ a b _
      refine ⟨M.cl _ _ h1 (hm l (by omega) (by omega)), tg_vec hP z l h2 (by omega), ?_⟩
      rw [vd_tg hP M H z l h2 (by omega) (by omega), h3])
  rw [hR.2.2]
  exact npr_out M (hN E) (fun l a b => hm l (by omega) (by omega))

end

end Go.Proofs.YtdklekdpdbjfiaaGreat

/- Plain: the cyclic extension of a group by a root of an inner automorphism. No program is named here. -/
namespace Go.Proofs.YtdklekdpdbjfiaaGreat

/-- a group on the members of S -/
structure GrpOn {α : Type} (S : α → Prop) (m : α → α → α) (e : α) : Prop extends MonOn S m e where
  inv : ∀ x, S x → ∃ y, S y ∧ m x y = e ∧ m y x = e

section
variable {α : Type} {S : α → Prop} {m : α → α → α} {e : α}

theorem GrpOn.of_right (M : MonOn S m e) (h : ∀ x, S x → ∃ y, S y ∧ m x y = e) : GrpOn S m e := by
  refine ⟨M, fun x hx => ?_⟩
  obtain ⟨y, hy, h1⟩ := h x hx
  obtain ⟨z, hz, h2⟩ := h y hy
  have : x = z := by
    have h3 : m (m x y) z = m x (m y z) := M.ass x y z hx hy hz
    rw [h1, h2, M.el z hz, M.er x hx] at h3
    exact h3.symm
  exact ⟨y, hy, h1, by rw [this]; exact h2⟩

theorem GrpOn.cancel (G : GrpOn S m e) {a x y : α} (ha : S a) (hx : S x) (hy : S y) (h : m a x = m a y) : x = y := by
  obtain ⟨b, hb, _, h2⟩ := G.inv a ha
  have h3 : m b (m a x) = m b (m a y) := by rw [h]
  rw [← G.ass b a x hb ha hx, ← G.ass b a y hb ha hy, h2, G.el x hx, G.el y hy] at h3
  exact h3

theorem GrpOn.right_left (G : GrpOn S m e) {a b : α} (ha : S a) (hb : S b) (h : m a b = e) : m b a = e := by
  obtain ⟨c, hc, h1, h2⟩ := G.inv a ha
  have : b = c := G.cancel ha hb hc (by rw [h, h1])
  rw [this]; exact h2

/-- b a = x with b the inverse of a: y = a⁻¹ x, as a product -/
theorem GrpOn.solve (G : GrpOn S m e) {a b x y : α} (ha : S a) (hb : S b) (hx : S x) (hy : S y) (hab : m a b = e) : m b x = y ↔ x = m a y := by
  have hba := G.right_left ha hb hab
  constructor
  · intro h; rw [← h, ← G.ass a b x ha hb hx, hab, G.el x hx]
  · intro h; rw [h, ← G.ass b a y hb ha hy, hba, G.el y hy]

/-- the product of pairs -/
def exm (m : α → α → α) (φ : α → α) (w : α) (o : Nat) (p q : Nat × α) : Nat × α :=
  if o ≤ p.1 + q.1 then (p.1 + q.1 - o, m w (m (iter q.1 φ p.2) q.2)) else (p.1 + q.1, m (iter q.1 φ p.2) q.2)

/-- what a cyclic extension needs -/
structure ExtOk (S : α → Prop) (m : α → α → α) (e : α) (φ : α → α) (w : α) (o : Nat) : Prop where
  o2 : 2 ≤ o
  grp : GrpOn S m e
  cl : ∀ x, S x → S (φ x)
  hom : ∀ x y, S x → S y → φ (m x y) = m (φ x) (φ y)
  wS : S w
  wφ : φ w = w
  root : ∀ x, S x → m w (iter o φ x) = m x w

variable {φ : α → α} {w : α} {o : Nat}

theorem ExtOk.icl (E : ExtOk S m e φ w o) (k : Nat) (x : α) (hx : S x) : S (iter k φ x) := iter_inv S φ E.cl k x hx
theorem ExtOk.ihom (E : ExtOk S m e φ w o) (k : Nat) (x y : α) (hx : S x) (hy : S y) : iter k φ (m x y) = m (iter k φ x) (iter k φ y) := by
  induction k with
  | zero => rfl
  | succ k ih => show φ (iter k φ (m x y)) = _; rw [ih]; exact E.hom _ _ (E.icl k x hx) (E.icl k y hy)
theorem ExtOk.iw (E : ExtOk S m e φ w o) (k : Nat) : iter k φ w = w := by
  induction k with
  | zero => rfl
  | succ k ih => show φ (iter k φ w) = w; rw [ih]; exact E.wφ
theorem ExtOk.one (E : ExtOk S m e φ w o) : φ e = e := by
  have h := E.hom e e E.grp.one E.grp.one
  rw [E.grp.el e E.grp.one] at h
  have c := E.cl e E.grp.one
  exact (E.grp.cancel c E.grp.one c (by rw [E.grp.er _ c]; exact h)).symm
theorem ExtOk.ione (E : ExtOk S m e φ w o) (k : Nat) : iter k φ e = e := by
  induction k with
  | zero => rfl
  | succ k ih => show φ (iter k φ e) = e; rw [ih]; exact E.one
/-- drawing w through -/
theorem ExtOk.draw (E : ExtOk S m e φ w o) (k : Nat) (hk : o ≤ k) (x : α) (hx : S x) : m (iter (k - o) φ x) w = m w (iter k φ x) := by
  rw [← E.root _ (E.icl _ x hx), ← iter_add, show o + (k - o) = k by omega]

/-- the pairs' set -/
def ExS (S : α → Prop) (o : Nat) (p : Nat × α) : Prop := p.1 < o ∧ S p.2

theorem ExtOk.exm_cl (E : ExtOk S m e φ w o) (p q : Nat × α) (hp : ExS S o p) (hq : ExS S o q) : ExS S o (exm m φ w o p q) := by
  obtain ⟨a, x⟩ := p
  obtain ⟨b, y⟩ := q
  obtain ⟨ha, hx⟩ := hp
  obtain ⟨hb, hy⟩ := hq
  have c := E.grp.cl _ _ (E.icl b x hx) hy
  simp only at ha hb hx hy
  unfold exm
  simp only
  split
  · exact ⟨by show a + b - o < o; omega, E.grp.cl _ _ E.wS c⟩
  · exact ⟨by show a + b < o; omega, c⟩

theorem ExtOk.exm_ass (E : ExtOk S m e φ w o) (p q r : Nat × α) (hp : ExS S o p) (hq : ExS S o q) (hr : ExS S o r) : exm m φ w o (exm m φ w o p q) r = exm m φ w o p (exm m φ w o q r) := by
  obtain ⟨a, x⟩ := p
  obtain ⟨b, y⟩ := q
  obtain ⟨c, z⟩ := r
  obtain ⟨ha, hx⟩ := hp
  obtain ⟨hb, hy⟩ := hq
  obtain ⟨hc, hz⟩ := hr
  simp only at ha hb hc hx hy hz
  have M := E.grp.toMonOn
  have cw := E.wS
  have c1 := E.icl b x hx
  have c2 := E.icl c _ c1
  have c3 := E.icl c y hy
  have c4 := M.cl _ _ c1 hy
  have c5 := M.cl _ _ c3 hz
  -- the left side's inner part, and the right side's
  have hL : iter c φ (m (iter b φ x) y) = m (iter c φ (iter b φ x)) (iter c φ y) := E.ihom c _ _ c1 hy
  have hLw : iter c φ (m w (m (iter b φ x) y)) = m w (m (iter c φ (iter b φ x)) (iter c φ y)) := by rw [E.ihom c _ _ cw c4, E.iw, hL]
  have hbc : iter (b + c) φ x = iter c φ (iter b φ x) := by rw [Nat.add_comm, iter_add]
  have c6 := M.cl _ _ c2 c3
  have hK : m (m (iter c φ (iter b φ x)) (iter c φ y)) z = m (iter c φ (iter b φ x)) (m (iter c φ y) z) := M.ass _ _ _ c2 c3 hz
  have hKw : m (m w (m (iter c φ (iter b φ x)) (iter c φ y))) z = m w (m (iter c φ (iter b φ x)) (m (iter c φ y) z)) := by rw [M.ass _ _ _ cw c6 hz, hK]
  have hR : o ≤ b + c → m (iter (b + c - o) φ x) (m w (m (iter c φ y) z)) = m w (m (iter c φ (iter b φ x)) (m (iter c φ y) z)) := by
    intro h
    rw [← M.ass _ _ _ (E.icl _ x hx) cw c5, E.draw _ h x hx, hbc, M.ass _ _ _ cw c2 c5]
  unfold exm
  by_cases e1 : o ≤ a + b
  · by_cases d1 : o ≤ b + c
    · simp only [if_pos e1, if_pos d1]
      by_cases e2 : o ≤ a + b - o + c
      · have d2 : o ≤ a + (b + c - o) := by omega
        simp only [if_pos e2, if_pos d2]
        rw [hLw, hKw, hR d1, show a + b - o + c - o = a + (b + c - o) - o by omega]
      · have d2 : ¬ o ≤ a + (b + c - o) := by omega
        simp only [if_neg e2, if_neg d2]
        rw [hLw, hKw, hR d1, show a + b - o + c = a + (b + c - o) by omega]
    · simp only [if_pos e1, if_neg d1]
      have e2 : ¬ o ≤ a + b - o + c := by omega
      have d2 : o ≤ a + (b + c) := by omega
      simp only [if_neg e2, if_pos d2]
      rw [hLw, hKw, hbc, show a + b - o + c = a + (b + c) - o by omega]
  · by_cases d1 : o ≤ b + c
    · simp only [if_neg e1, if_pos d1]
      have e2 : o ≤ a + b + c := by omega
      have d2 : ¬ o ≤ a + (b + c - o) := by omega
      simp only [if_pos e2, if_neg d2]
      rw [hL, hK, hR d1, show a + b + c - o = a + (b + c - o) by omega]
    · simp only [if_neg e1, if_neg d1]
      by_cases e2 : o ≤ a + b + c
      · have d2 : o ≤ a + (b + c) := by omega
        simp only [if_pos e2, if_pos d2]
        rw [hL, hK, hbc, show a + b + c - o = a + (b + c) - o by omega]
      · have d2 : ¬ o ≤ a + (b + c) := by omega
        simp only [if_neg e2, if_neg d2]
        rw [hL, hK, hbc, show a + b + c = a + (b + c) by omega]

/-- the extension is a group -/
theorem ExtOk.group (E : ExtOk S m e φ w o) : GrpOn (ExS S o) (exm m φ w o) (0, e) := by
  have M := E.grp.toMonOn
  have ho := E.o2
  have hM : MonOn (ExS S o) (exm m φ w o) (0, e) := by
    refine ⟨E.exm_cl, ⟨by show 0 < o; omega, M.one⟩, E.exm_ass, ?_, ?_⟩
    · rintro ⟨a, x⟩ ⟨ha, hx⟩
      simp only at ha hx
      unfold exm
      simp only [Nat.zero_add, if_neg (by omega : ¬ o ≤ a), E.ione, M.el x hx]
    · rintro ⟨a, x⟩ ⟨ha, hx⟩
      simp only at ha hx
      unfold exm
      simp only [Nat.add_zero, if_neg (by omega : ¬ o ≤ a)]
      show (a, m x e) = (a, x)
      rw [M.er x hx]
  refine GrpOn.of_right hM ?_
  rintro ⟨a, x⟩ ⟨ha, hx⟩
  simp only at ha hx
  by_cases h0 : a = 0
  · subst h0
    obtain ⟨y, hy, h1, _⟩ := E.grp.inv x hx
    refine ⟨(0, y), ⟨by show 0 < o; omega, hy⟩, ?_⟩
    unfold exm
    simp only [Nat.add_zero, if_neg (by omega : ¬ o ≤ 0)]
    show (0, m x y) = (0, e)
    rw [h1]
  · obtain ⟨y, hy, h1, _⟩ := E.grp.inv _ (M.cl _ _ E.wS (E.icl (o - a) x hx))
    refine ⟨(o - a, y), ⟨by show o - a < o; omega, hy⟩, ?_⟩
    unfold exm
    simp only [if_pos (by omega : o ≤ a + (o - a))]
    rw [← M.ass _ _ _ E.wS (E.icl _ x hx) hy, h1, show a + (o - a) - o = 0 by omega]

/-- a group carried over to another set of names -/
theorem GrpOn.carry {β : Type} {S' : β → Prop} {m' : β → β → β} {e' : β} (G : GrpOn S m e) (f : α → β) (hS : ∀ x, S x → S' (f x)) (hsur : ∀ y, S' y → ∃ x, S x ∧ f x = y) (he : f e = e')
    (hm : ∀ x y, S x → S y → m' (f x) (f y) = f (m x y)) : GrpOn S' m' e' := by
  subst he
  refine ⟨⟨?_, hS e G.one, ?_, ?_, ?_⟩, ?_⟩
  · intro x y hx hy
    obtain ⟨a, ha, rfl⟩ := hsur x hx
    obtain ⟨b, hb, rfl⟩ := hsur y hy
    rw [hm a b ha hb]; exact hS _ (G.cl _ _ ha hb)
  · intro x y z hx hy hz
    obtain ⟨a, ha, rfl⟩ := hsur x hx
    obtain ⟨b, hb, rfl⟩ := hsur y hy
    obtain ⟨c, hc, rfl⟩ := hsur z hz
    rw [hm a b ha hb, hm _ c (G.cl _ _ ha hb) hc, hm b c hb hc, hm a _ ha (G.cl _ _ hb hc), G.ass a b c ha hb hc]
  · intro x hx
    obtain ⟨a, ha, rfl⟩ := hsur x hx
    rw [hm e a G.one ha, G.el a ha]
  · intro x hx
    obtain ⟨a, ha, rfl⟩ := hsur x hx
    rw [hm a e ha G.one, G.er a ha]
  · intro x hx
    obtain ⟨a, ha, rfl⟩ := hsur x hx
    obtain ⟨b, hb, h1, h2⟩ := G.inv a ha
    exact ⟨f b, hS b hb, by rw [hm a b ha hb, h1], by rw [hm b a hb ha, h2]⟩

end
end Go.Proofs.YtdklekdpdbjfiaaGreat

/- The reference's multiplication: spec.l08At computes rAt. -/
namespace Go.Proofs.YtdklekdpdbjfiaaGreat
open Go.RowKit

set_option maxHeartbeats 2000000 in
theorem l08At_zero (P : Pr) (hP : Valid P) : AtOk P 0 := by
  intro w pv a b i A B Sp Sa Sb hi hp ha hb hA hB
  obtain ⟨vo, vp, vc, rfl, h3⟩ := hp
  have hn6 := hP.n6
  have hBx := PresP.box h3 31
  obtain ⟨ao, capo, hco, hoi⟩ := hBx.ordAt
  have hi2 : (i : Int) = P.orders.length := by omega
  have hi3 : ((P.orders.length : Int) ≤ (i : Int)) := by omega
  have HI := Lib.hid hi2; clear hi2
  go_enter Tryz.func225, Tryz.ntmps225
  go_wp2_with (at_make; refine wp_make_ints rfl _ _ rfl (w.heap.size + 1) P.orders.length (w.heap.size + 1) (by simp) _ rfl rfl rfl (by omega) (by simp) ?_; intro w1 ho1 hg1 _)
  go_ret
  exact ⟨_, rfl, grown_trans (World.grownBy_alloc _ _ _) hg1, ho1.weak (by omega)⟩

set_option maxHeartbeats 4000000 in
theorem l08At_succ (P : Pr) (hP : Valid P) (f : Nat) (ih : AtOk P f) : AtOk P (f + 1) := by
  intro w pv a b i A B Sp Sa Sb hi hp ha hb hA hB
  obtain ⟨vo, vp, vc, rfl, h3⟩ := hp
  have hn6 := hP.n6
  have hBx := PresP.box h3 31
  have ha0 := ha.ext (World.grownBy_alloc w (.cells #[vo, vp, vc] 31) none)
  have hb0 := hb.ext (World.grownBy_alloc w (.cells #[vo, vp, vc] 31) none)
  have hlA : A.length ≤ P.orders.length ∧ P.orders.length ≤ A.length := by rw [hA.1]; omega
  have hlB : B.length ≤ P.orders.length ∧ P.orders.length ≤ B.length := by rw [hB.1]; omega
  have hg0 : Ext w (w.alloc (.cells #[vo, vp, vc] 31)) := World.grownBy_alloc _ _ _
  have hs0 : (w.alloc (.cells #[vo, vp, vc] 31)).heap.size = w.heap.size + 1 := by simp
  have HS := Lib.hid hs0; clear hs0
  clear ha hb
  go_enter Tryz.func225, Tryz.ntmps225
  obtain ⟨ao, capo, hco, hoi⟩ := hBx.ordAt
  go_wp2_with fail
  clear hco hoi
  generalize hw0 : w.alloc (.cells #[vo, vp, vc] 31) = w0 at *
  clear hw0
  refine Calls.mono (l01Own_ok w0 a A Sa ha0 (by omega)) ?_
  rintro e1 w1 ⟨L, rfl, hg1, hL⟩
  go_wp2_with fail
  refine Calls.mono (l01Own_ok w1 b B Sb (hb0.ext hg1) (by omega)) ?_
  rintro e2 w2 ⟨R, rfl, hg2, hR⟩
  have hL2 := hL.ext0 hg2
  obtain ⟨gl, capl, rfl, hbl, hsl⟩ := hL.form (by omega)
  obtain ⟨gr, capr, rfl, hbr, hsr⟩ := hR.form (by omega)
  have hne : gl ≠ gr := by omega
  have c1 := hL2.cell i (by omega)
  have f1 := hL2.frozen i
  obtain ⟨hL3, hg3⟩ := hL2.store i 0
  have hR3 := hR.ext hg3 (.inr (by intro h; cases h; exact hne rfl))
  have c2 := hR3.cell i (by omega)
  have f2 := hR3.frozen i
  obtain ⟨hR4, hg4⟩ := hR3.store i 0
  have hL4 := hL3.ext hg4 (.inr (by intro h; cases h; exact hne rfl))
  have hg4w : Ext w0 ((w2.setCell ⟨gl, i, none⟩ (.int .i64 0)).setCell ⟨gr, i, none⟩ (.int .i64 0)) :=
    grown_own (grown_own (grown_trans hg1 hg2) hg3 (fun j hj hlt => by cases hj; omega)) hg4 (fun j hj hlt => by cases hj; have := hg1.size; omega)
  have hA1 := hA.set i 0 ⟨by omega, fun _ => by have := hP.ord7 i (by omega); omega⟩
  have hB1 := hB.set i 0 ⟨by omega, fun _ => by have := hP.ord7 i (by omega); omega⟩
  have hs1 := hg1.size
  have hs2 := hg2.size
  have hAi := hA.2 i (by omega)
  have hBi := hB.2 i (by omega)
  have hoi := hP.ord7 i (by omega)
  have hAi0 : 0 ≤ gt A i := hAi.1
  have hBi0 : 0 ≤ gt B i := hBi.1
  have hoi0 : 2 ≤ gt P.orders i := hoi.1
  have hAi1 : gt A i < gt P.orders i := hAi.2
  have hBi1 : gt B i < gt P.orders i := hBi.2
  have hoi1 : gt P.orders i ≤ 7 := hoi.2
  clear hAi hBi hoi
  go_wp2
  clear c1 f1 c2 f2 hL2 hL3 hR3 hL hR
  generalize hw4 : (w2.setCell ⟨gl, i, none⟩ (.int .i64 0)).setCell ⟨gr, i, none⟩ (.int .i64 0) = w4 at *
  clear hw4 hg3 hg4
  obtain ⟨ab, capb, rfl, _, _⟩ := hb0.shape
  obtain ⟨aa, capa, rfl, _, _⟩ := ha0.shape
  go_loopw [10, 12] (fun v mm wr => ∃ m : Nat, mm = .int .i64 m ∧ m ≤ (gt B i).toNat ∧ Ext w4 wr ∧
      Own (w.heap.size + 1) wr v (iter m (fun l => rImage P f i l) (A.set i 0))) (fun _ mm _ => (gt B i).toNat - (intOf mm).toNat)
  case atStart => exact ⟨0, rfl, by omega, Ext.refl _, hL4.weak (by have := HS.out; omega)⟩
  case round =>
    obtain ⟨m, rfl, hm, hg, hO⟩ := hrel
    have hgr : Ext w0 wr := grown_trans hg4w hg
    obtain ⟨bb, ob, rfl, _, _, hcb⟩ := Ints.at (hb0.ext hgr) i (by omega)
    have hvm : Vec P.orders (iter m (fun l => rImage P f i l) (A.set i 0)) := iter_inv (Vec P.orders) _ (fun y hy => rImgTo_vec hP f i hi (rAt_vec hP f) _ _ (zeros_vec hP) f (Nat.le_refl _)) _ _ hA1
    have HV := Lib.hid hvm
    have hOi := hO.ints (by rw [hvm.1]; omega)
    clear hvm
    obtain ⟨vo9, vp9, vc9, _, _, hc0, hc1, hc2, h39⟩ := (hBx.ext hgr).at
    by_cases hlt2 : (m : Int) < gt B i
    · go_wp2_with fail
      refine Calls.mono (l08Image_of P hP f ih wr _ _ i _ Any Any hi ⟨_, _, _, rfl, h39⟩ hOi HV.out) ?_
      rintro e5 w5 ⟨v5, rfl, hg5, hO5⟩
      go_wp2
      go_roundw
      case rel => exact ⟨m + 1, by go_num, by omega, grown_trans hg hg5, hO5.weak (by have := hgr.size; have := HS.out; omega)⟩
      case measure => simp [intOf]; omega
    · have hme : m = (gt B i).toNat := by omega
      subst hme
      have hR5 := hR4.ext0 hg
      generalize hleft : iter (gt B i).toNat (fun l => rImage P f i l) (A.set i 0) = left at *
      have HL := Lib.hid hleft; clear hleft
      go_wp2_with fail
      refine Calls.mono (ih wr _ _ _ (i + 1) left (B.set i 0) Any Any Any (by omega) ⟨_, _, _, rfl, h39⟩ hOi (hR5.ints (by simp; omega)) HV.out hB1) ?_
      rintro e6 w6 ⟨rest, rfl, hg6, hr6⟩
      have hgr6 : Ext w0 w6 := grown_trans hgr hg6
      obtain ⟨ba, oa, rfl, _, _, hca⟩ := Ints.at (ha0.ext hgr6) i (by omega)
      have hcb6 : w6.cell? ⟨bb, ob + i, none⟩ = some (.int .i64 (gt B i)) := hg6.cell hcb (by simp)
      have hvr := rAt_vec hP f (i + 1) _ _ (by omega) HV.out hB1
      have HVr := Lib.hid hvr; clear hvr
      clear hc0 hc1 hc2 hcb hOi hO h39 hR5 hR4 hL4 hlt2 hm
      generalize hrest : rAt P f (i + 1) left (B.set i 0) = rst at *
      have HRst := Lib.hid hrest; clear hrest
      have hil : i < A.length := by omega
      have hil2 : i < B.length := by omega
      have s1 : IntKind.i64.wrap (gt A i + gt B i) = gt A i + gt B i := IntWalk.i64_in _ (by omega)
      go_wp2
      go_quiet (fail)
      clear s1 hca hcb6
      have hfin : rAt P (f + 1) i A B = if gt P.orders i ≤ gt A i + gt B i then (rAt P f (i + 1) (gt P.powers i) rst).set i (gt A i + gt B i - gt P.orders i) else rst.set i (gt A i + gt B i) := by
        rw [← HRst.out, ← HL.out]; rfl
      have HF := Lib.hid hfin; clear hfin
      rename_i nq _
      have hgr7 : Ext w0 (w6.drewN nq) := grown_trans hgr6 (grown_drewN _ _ _)
      have hr7 : Own wr.heap.size (w6.drewN nq) rest rst := hr6
      have hri := hr7.ints (by rw [HVr.out.1]; omega)
      have hbp := hBx.ext hgr7
      obtain ⟨ao7, capo7, hco, hoi⟩ := hbp.ordAt
      obtain ⟨bo, oo, rfl, _, _, hcoi⟩ := Ints.at hoi i (by omega)
      obtain ⟨ap, capp, hcp, hpr⟩ := hbp.powAt
      obtain ⟨bp, op, ap2, capp2, rfl, _, _, hcpi, hpi⟩ := Rows2.at hpr i (by rw [hP.pl]; omega)
      have hjp : i < P.powers.length := by rw [hP.pl]; omega
      have hwsz : wr.heap.size ≤ (w6.drewN nq).heap.size := hg6.size
      clear hr6 hgr6 hbp hoi hpr
      generalize w6.drewN nq = w7 at *
      by_cases hc : gt P.orders i ≤ gt A i + gt B i
      case' pos =>
        have HF2 := Lib.hid (HF.out.trans (if_pos hc)); clear HF
        obtain ⟨vo9, vp9, vc9, _, _, hc0, hc1, hc2, h39⟩ := (hBx.ext hgr7).at
        have s3 : IntKind.i64.wrap ((i : Int) + 1) = (i : Int) + 1 := IntWalk.i64_in _ (by omega)
        have s4 : IntKind.i64.wrap (gt A i + gt B i - gt P.orders i) = gt A i + gt B i - gt P.orders i := IntWalk.i64_in _ (by omega)
        have e1 : ∀ w', Ext w7 w' → w'.cell? ⟨w.heap.size, 0, none⟩ = some vo9 := fun w' h => h.cell hc0 (by simp)
        have e2 : ∀ w', Ext w7 w' → w'.cell? ⟨w.heap.size, 1, none⟩ = some (.slice (some ⟨bp, op, none⟩) P.powers.length capp) := fun w' h => h.cell (by simpa using hcp) (by simp)
        have e3 : ∀ w', Ext w7 w' → w'.cell? ⟨w.heap.size, 2, none⟩ = some vc9 := fun w' h => h.cell (by simpa using hc2) (by simp)
        have e4 : ∀ w', Ext w7 w' → w'.cell? ⟨bp, op + i, none⟩ = some (.slice ap2 (gt P.powers i).length capp2) := fun w' h => h.cell hcpi (by simp)
        have evp : vp9 = .slice (some ⟨bp, op, none⟩) P.powers.length capp := by
          have := hc1.symm.trans hcp; simpa using this
        subst evp
        have b3 : (i : Int) < P.powers.length := by omega
        have hpv := (hP.pv i (by omega)).1
        have HPV := Lib.hid hpv; clear hpv
        clear hc2 hc1 hcp
        go_wp2
        clear hco hcoi hcpi
        go_region_held3 (fun w' => Ext w7 w') (first | exact grown_drew _ _ | exact hg8)
            (first | (go_at_call 225; refine Calls.mono (Calls.rel (w0 := w7) (by assumption) (ih _ _ _ _ (i + 1) (gt P.powers i) rst Any Any Any (by omega) ⟨_, _, _, rfl, Pres3.ext h39 (by assumption)⟩ (Ints.ext hpi (by assumption)) (Ints.ext hri (by assumption)) HPV.out HVr.out)) ?_; rintro e8 w8 ⟨v8, rfl, hg8, hsz8, hO8⟩))
        have hvp := rAt_vec hP f (i + 1) _ _ (by omega) HPV.out HVr.out
        have hlp : (rAt P f (i + 1) (gt P.powers i) rst).length = P.orders.length := hvp.1
        clear e1 e2 e3 e4 s3 s4 hvp
        go_wp2_with fail
        refine Calls.mono (l01Own_ok w8 v8 (rAt P f (i + 1) (gt P.powers i) rst) Any (hO8.ints (by omega)) (by omega)) ?_
        have hw8 : w0.heap.size ≤ w8.heap.size := by have := hgr7.size; have := hg8.size; omega
        have hgr8 : Ext w0 w8 := grown_trans hgr7 hg8
        generalize rAt P f (i + 1) (gt P.powers i) rst = fin at *
        generalize hcc : gt A i + gt B i - gt P.orders i = cc at *
      case' neg =>
        have HF2 := Lib.hid (HF.out.trans (if_neg hc)); clear HF
        have hlp : rst.length = P.orders.length := HVr.out.1
        go_wp2_with fail
        refine Calls.mono (l01Own_ok w7 rest rst Any hri (by omega)) ?_
        have hgr8 : Ext w0 w7 := hgr7
        generalize hcc : gt A i + gt B i = cc at *
        clear hri hr7 HVr HRst
        generalize rst = fin at *
      all_goals
        have HCC := Lib.hid hcc; clear hcc
        have hlp2 : fin.length ≤ P.orders.length ∧ P.orders.length ≤ fin.length := by omega
        clear hlp
        rintro e9 w9 ⟨v9, rfl, hg9, hO9⟩
        obtain ⟨g9, cap9, rfl, hb9, hs9⟩ := hO9.form (by omega)
        have c9 := hO9.cell i (by omega)
        have f9 := hO9.frozen i
        obtain ⟨hO10, hg10⟩ := hO9.store i cc
        have hfl : i < fin.length := by omega
        go_wp2
        go_ret
        refine ⟨_, rfl, ?_, ?_⟩
        · exact grown_trans hg0 (grown_own (grown_trans hgr8 hg9) hg10 (fun j hj hlt => by cases hj; have := hgr8.size; omega))
        · rw [HF2.out]; exact hO10.weak (by have := hgr8.size; have := HS.out; omega)

theorem l08At_ok (P : Pr) (hP : Valid P) (f : Nat) : AtOk P f := by
  induction f with
  | zero => exact l08At_zero P hP
  | succ f ih => exact l08At_succ P hP f ih

/-- the reference's product -/
def rMul (P : Pr) (A B : List Int) : List Int := rAt P P.orders.length 0 A B

set_option maxHeartbeats 1000000 in
theorem l08Mul_ok (P : Pr) (hP : Valid P) (w : World) (pv a b : Value) (A B : List Int) (Sp Sa Sb : Nat → Prop) (hp : PresV Sp w pv P) (ha : Ints Sa w a A) (hb : Ints Sb w b B) (hA : Vec P.orders A) (hB : Vec P.orders B) :
    Calls Tryz.prog 176 #[pv, a, b] w (Ret w fun w' v => Own w.heap.size w' v (rMul P A B)) := by
  obtain ⟨vo, vp, vc, rfl, h3⟩ := hp
  go_enter Tryz.func176, Tryz.ntmps176
  obtain ⟨vo9, vp9, vc9, _, _, hc0, hc1, hc2, h39⟩ := (PresP.box h3 31).at
  go_wp2_with fail
  refine Calls.mono (l08At_ok P hP P.orders.length _ _ _ _ 0 A B Any Sa Sb (by omega) ⟨_, _, _, rfl, h39⟩ (ha.ext (World.grownBy_alloc _ _ _)) (hb.ext (World.grownBy_alloc _ _ _)) hA hB) ?_
  rintro e1 w1 ⟨v1, rfl, hg1, hO1⟩
  go_wp2
  go_ret
  exact ⟨_, rfl, grown_trans (World.grownBy_alloc _ _ _) hg1, hO1.weak (by simp)⟩

end Go.Proofs.YtdklekdpdbjfiaaGreat
