/-
  impl.invert, impl.conjugate, impl.imageBy.
-/
import Derived.Test.YtdfjgpioaomceaaIMul
import Derived.Test.YtdfjgpioaomceaaSMul
import Derived.Deep.LoopGhost
namespace Go.Proofs.Ytdfjgpioaomceaa
open Go.RowKit

/-- how often a generator is still to be taken -/
def left_ (o x : Int) : Nat := if x = 0 then 0 else (o - x).toNat

def invTo (P : Pr) (a : List Int) : Nat → List Int × List Int
  | 0 => (a, List.replicate a.length 0)
  | k + 1 =>
    let s := invTo P a k
    let m := left_ (gt P.orders k) (gt s.1 k)
    (iter m (fun e => tg P e k) s.1, iter m (fun e => tg P e k) s.2)

def iInv (P : Pr) (a : List Int) : List Int := (invTo P a a.length).2

theorem iter_tg {P : Pr} (hP : Valid P) (e : List Int) (k : Nat) (hk : k < P.orders.length) (he : Vec P.orders e) (h0 : gt e k ≠ 0) (s : Nat) (hs : s ≤ left_ (gt P.orders k) (gt e k)) :
    Vec P.orders (iter s (fun e => tg P e k) e) ∧ gt (iter s (fun e => tg P e k) e) k = if s = left_ (gt P.orders k) (gt e k) then 0 else gt e k + s := by
  have hx := he.2 k hk
  have hl : left_ (gt P.orders k) (gt e k) = (gt P.orders k - gt e k).toNat := by unfold left_; rw [if_neg h0]
  rw [hl] at hs ⊢
  induction s with
  | zero => exact ⟨he, by rw [if_neg (by omega)]; simp [iter]⟩
  | succ s ih =>
    obtain ⟨h1, h2⟩ := ih (by omega)
    refine ⟨tg_vec hP _ k h1 hk, ?_⟩
    show gt (tg P (iter s (fun e => tg P e k) e) k) k = _
    have h3 := (tgen_entries hP P.orders.length (iter s (fun e => tg P e k) e) k h1 hk (by omega)).2
    rw [if_neg (by omega)] at h2
    have h4 : gt (tg P (iter s (fun e => tg P e k) e) k) k = if gt (iter s (fun e => tg P e k) e) k + 1 = gt P.orders k then 0 else gt (iter s (fun e => tg P e k) e) k + 1 := h3
    rw [h4, h2]
    by_cases hc : gt e k + s + 1 = gt P.orders k
    · rw [if_pos hc, if_pos (by omega)]
    · rw [if_neg hc, if_neg (by omega)]; omega

theorem invTo_vec {P : Pr} (hP : Valid P) (a : List Int) (ha : Vec P.orders a) (k : Nat) (hk : k ≤ P.orders.length) : Vec P.orders (invTo P a k).1 ∧ Vec P.orders (invTo P a k).2 := by
  induction k with
  | zero => exact ⟨ha, zeros_vec' hP ha⟩
  | succ k ih =>
    obtain ⟨h1, h2⟩ := ih (by omega)
    exact ⟨iter_inv (Vec P.orders) _ (fun y hy => tg_vec hP y k hy (by omega)) _ _ h1, iter_inv (Vec P.orders) _ (fun y hy => tg_vec hP y k hy (by omega)) _ _ h2⟩

set_option maxHeartbeats 1000000 in
theorem invert_ok (P : Pr) (hP : Valid P) (w : World) (p a : Value) (A : List Int) (Sp Sa : Nat → Prop) (hp : PresP Sp w p P) (ha : Ints Sa w a A) (hA : Vec P.orders A) :
    Calls Try.prog 64 #[p, a] w (Ret w fun w' v => Own w.heap.size w' v (iInv P A)) := by
  have hn6 := hP.n6
  have hlA : A.length ≤ P.orders.length ∧ P.orders.length ≤ A.length := by rw [hA.1]; omega
  obtain ⟨aa, capa, rfl, _, _⟩ := ha.shape
  go_enter Try.func64, Try.ntmps64
  go_wp2_with fail
  refine Calls.mono (clone_ok w _ A Sa ha (by omega)) ?_
  rintro e1 w1 ⟨r, rfl, hg1, hR⟩
  have hRi := hR.ints (by omega)
  obtain ⟨ar, capr, rfl, _, _⟩ := hRi.shape
  go_wp2_with (at_make; refine wp_make_ints rfl _ _ rfl w1.heap.size A.length w1.heap.size rfl _ rfl rfl rfl (by omega) (Nat.le_refl _) ?_; intro w2 ho2 hg2 _)
  generalize Value.slice (some ⟨w1.heap.size, 0, none⟩) A.length A.length = t at *
  have hR2 := hR.ext0 hg2
  have hRlt := hR.lt
  have HRL := Lib.hid hRlt
  clear hRi hR hRlt
  have hw2 : Ext w w2 := grown_trans hg1 hg2
  have hw1 := hg1.size
  go_loopw [15] (fun i wr => ∃ k : Nat, i = .int .i64 k ∧ k ≤ A.length ∧ Ext w wr ∧ Own w.heap.size wr (.slice ar A.length capr) (invTo P A k).1 ∧ Own w1.heap.size wr t (invTo P A k).2) (fun i _ => A.length - (intOf i).toNat)
  case atStart => exact ⟨0, rfl, by omega, hw2, hR2, ho2⟩
  case round =>
    clear hR2 ho2
    obtain ⟨k, rfl, hk, hg, hO, hT⟩ := hrel
    obtain ⟨hv1, hv2⟩ := invTo_vec hP A hA k (by omega)
    have HV1 := Lib.hid hv1; have HV2 := Lib.hid hv2
    by_cases hlt : k < A.length
    · have hx := hv1.2 k (by omega)
      have hok := hP.ord7 k (by omega)
      obtain ⟨g, capg, hfm, _, _⟩ := hO.form (by rw [hv1.1]; omega)
      have hlen : (invTo P A k).1.length = A.length := by rw [hv1.1, hA.1]
      rw [hlen] at hfm
      have hsucc : invTo P A (k + 1) = (iter (left_ (gt P.orders k) (gt (invTo P A k).1 k)) (fun e => tg P e k) (invTo P A k).1, iter (left_ (gt P.orders k) (gt (invTo P A k).1 k)) (fun e => tg P e k) (invTo P A k).2) := rfl
      have HSC := Lib.hid hsucc; clear hsucc
      obtain ⟨rfl, hcg⟩ : ar = some ⟨g, 0, none⟩ ∧ capr = capg := by cases hfm; exact ⟨rfl, rfl⟩
      clear hfm hcg hv1 hv2
      have hbt := hT.lt
      have hgl : g < w1.heap.size := (HRL.out g rfl).2
      have HBT := Lib.hid hbt; clear hbt
      generalize hr0 : (invTo P A k).1 = R at *
      generalize ht0 : (invTo P A k).2 = T at *
      have Hr0 := Lib.hid hr0; have Ht0 := Lib.hid ht0; clear hr0 ht0
      have hx0 : 0 ≤ gt R k := hx.1
      have hx1 : gt R k < gt P.orders k := hx.2
      have hok1 : gt P.orders k ≤ 7 := hok.2
      have HLEN := Lib.hid hlen; clear hlen hx hok
      go_wp2
      go_loopg [21] (left_ (gt P.orders k) (gt R k)) (fun gk u wr => ∃ s : Nat, gk + s = left_ (gt P.orders k) (gt R k) ∧ Ext w wr ∧ Own w.heap.size wr (.slice (some ⟨g, 0, none⟩) A.length capr) (iter s (fun e => tg P e k) R) ∧ Own w1.heap.size wr t (iter s (fun e => tg P e k) T))
      case atStart => exact ⟨0, by omega, hg, hO, hT⟩
      case round =>
        clear hg hO hT
        obtain ⟨s, hs, hg, hO, hT⟩ := hrel
        have hRs : Vec P.orders (iter s (fun e => tg P e k) R) ∧ Vec P.orders (iter s (fun e => tg P e k) T) :=
          ⟨iter_inv (Vec P.orders) _ (fun y hy => tg_vec hP y k hy (by omega)) _ _ HV1.out, iter_inv (Vec P.orders) _ (fun y hy => tg_vec hP y k hy (by omega)) _ _ HV2.out⟩
        have HRs := Lib.hid hRs
        have hc := hO.cell k (by rw [hRs.1.1]; omega)
        clear hRs
        by_cases hm : s = left_ (gt P.orders k) (gt R k)
        · have hz : gt (iter s (fun e => tg P e k) R) k = 0 := by
            by_cases h0 : gt R k = 0
            · have : s = 0 := by rw [hm]; unfold left_; rw [if_pos h0]
              rw [this]; exact h0
            · rw [(iter_tg hP R k (by omega) HV1.out h0 s (by omega)).2, if_pos hm]
          rw [hz] at hc
          have hO2 : Own w.heap.size wr (.slice (some ⟨g, 0, none⟩) A.length capr) (invTo P A (k + 1)).1 := by rw [HSC.out, ← hm]; exact hO
          have hT2 : Own w1.heap.size wr t (invTo P A (k + 1)).2 := by rw [HSC.out, ← hm]; exact hT
          have HO2 := Lib.hid hO2; have HT2 := Lib.hid hT2; clear hO2 hT2 hO hT hm hz
          go_wp2
          go_roundw
          case rel => exact ⟨k + 1, by go_num, by omega, hg, HO2.out, HT2.out⟩
          case measure => simp [intOf]; omega
        · have hz : gt (iter s (fun e => tg P e k) R) k ≠ 0 := by
            by_cases h0 : gt R k = 0
            · exfalso; apply hm
              have : left_ (gt P.orders k) (gt R k) = 0 := by unfold left_; rw [if_pos h0]
              omega
            · rw [(iter_tg hP R k (by omega) HV1.out h0 s (by omega)).2, if_neg hm]; omega
          have hzb : (gt (iter s (fun e => tg P e k) R) k != 0) = true := by simpa using hz
          have HM := Lib.hid hm; clear hm hz
          go_wp2_with fail
          refine Calls.mono (timesGenerator_ok P hP w.heap.size wr p _ _ k (hp.mono (off_of hO (Nat.le_refl _) hg)) hO HRs.out.1 (by omega)) ?_
          rintro e3 w3 ⟨v3, rfl, hg3, rfl, hO3⟩
          have hgx := mut_ext hg hO (Nat.le_refl _) hg3
          have hT3 : Own w1.heap.size w3 t (iter s (fun e => tg P e k) T) := hT.ext hg3 (by
            cases hb : t.ownBlock with
            | none => exact .inl rfl
            | some q => exact .inr (fun h => by have h : some q = some g := h; cases h; have := (hT.lt _ hb).1; omega))
          go_wp2_with fail
          refine Calls.mono (timesGenerator_ok P hP w1.heap.size w3 p t _ k (hp.mono (off_of hT3 hw1 hgx)) hT3 HRs.out.2 (by omega)) ?_
          rintro e4 w4 ⟨v4, rfl, hg4, rfl, hT4⟩
          have hgy := mut_ext hgx hT3 hw1 hg4
          have hO4 := hO3.ext hg4 (by
            cases hb : t.ownBlock with
            | none => exact .inr (by simp [Value.ownBlock])
            | some q => exact .inr (fun h => by have h : some g = some q := h; cases h; have := (hT3.lt _ hb).1; omega))
          clear hc hzb hO hT hO3 hT3
          go_wp2
          go_roundg (gk - 1)
          case measure => have := HM.out; omega
          case rel => exact ⟨s + 1, by have := HM.out; omega, hgy, hO4, hT4⟩
    · have hke : k = A.length := by omega
      subst hke
      go_wp2
      go_ret
      exact ⟨_, rfl, hg, hT.weak hw1⟩

end Go.Proofs.Ytdfjgpioaomceaa
