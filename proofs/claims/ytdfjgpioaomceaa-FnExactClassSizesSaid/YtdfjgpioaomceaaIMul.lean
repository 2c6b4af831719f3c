/-
  The program's operations on elements: impl.multiply, invert, power, conjugate, imageBy.
-/
import Derived.Test.YtdfjgpioaomceaaColl
import Derived.Test.YtdfjgpioaomceaaPc2
import Derived.Test.YtdfjgpioaomceaaRowsO
namespace Go.Proofs.Ytdfjgpioaomceaa
open Go.RowKit

theorem tgenOk (P : Pr) (hP : Valid P) (f : Nat) : TgenOk P f := by
  induction f with
  | zero => intro base w p e E j _ _ _ hj hf; omega
  | succ f ih => exact timesGenerator_of P hP f ih

theorem timesGenerator_ok (P : Pr) (hP : Valid P) (base : Nat) (w : World) (p e : Value) (E : List Int) (j : Nat) (hp : PresP (Off e.ownBlock) w p P) (hE : Own base w e E) (hv : Vec P.orders E) (hj : j < P.orders.length) :
    Calls Try.prog 78 #[p, e, .int .i64 j] w (Mut w e.ownBlock fun w' v => v = .tuple #[] ∧ Own base w' e (tg P E j)) :=
  tgenOk P hP _ base w p e E j hp hE hv hj (by omega)

theorem timesVector_ok (P : Pr) (hP : Valid P) (base : Nat) (w : World) (p e f : Value) (E F : List Int) (hp : PresP (Off e.ownBlock) w p P) (hE : Own base w e E)
    (hv : Vec P.orders E) (hf : Ints (Off e.ownBlock) w f F) (hF : Vec P.orders F) :
    Calls Try.prog 77 #[p, e, f] w (Mut w e.ownBlock fun w' v => v = .tuple #[] ∧ Own base w' e (tv P E F)) :=
  timesVector_of P hP _ (tgenOk P hP _) base w p e f E F hp hE hv hf hF (fun j hj _ => by omega)

/-- what was there before an own vector was made lies apart from it -/
theorem off_of {base : Nat} {w w1 : World} {v : Value} {l : List Int} {S : Nat → Prop} (hO : Own base w1 v l) (hb : w.heap.size ≤ base) (hg : Ext w w1) :
    ∀ k, S k → k < w.heap.size → Off v.ownBlock k ∧ k < w1.heap.size ∧ w1.heap[k]? = w.heap[k]? := by
  intro k _ hk
  refine ⟨fun h => ?_, Nat.lt_of_lt_of_le hk hg.size, hg.block k hk (by simp)⟩
  have := (hO.lt k h).1; omega

/-- a step that writes an own vector turns nothing that was there before -/
theorem mut_ext {base : Nat} {w w1 w2 : World} {v : Value} {l : List Int} (hg : Ext w w1) (hO : Own base w1 v l) (hb : w.heap.size ≤ base) (h : w1.grownBy w2 v.ownBlock) : Ext w w2 :=
  grown_own hg h (fun j hj hlt => by have := (hO.lt j hj).1; omega)

set_option maxHeartbeats 400000 in
theorem multiply_ok (P : Pr) (hP : Valid P) (w : World) (p a b : Value) (A B : List Int) (Sp Sa Sb : Nat → Prop) (hp : PresP Sp w p P) (ha : Ints Sa w a A) (hb : Ints Sb w b B) (hA : Vec P.orders A) (hB : Vec P.orders B) :
    Calls Try.prog 63 #[p, a, b] w (Ret w fun w' v => Own w.heap.size w' v (tv P A B)) := by
  have hn6 := hP.n6
  have hlA : A.length ≤ 6 := by rw [hA.1]; omega
  go_enter Try.func63, Try.ntmps63
  go_wp2_with fail
  refine Calls.mono (clone_ok w a A Sa ha (by omega)) ?_
  rintro e1 w1 ⟨r, rfl, hg1, hR⟩
  go_wp2_with fail
  refine Calls.mono (timesVector_ok P hP w.heap.size w1 p r b A B (hp.mono (off_of hR (Nat.le_refl _) hg1)) hR hA (hb.mono (off_of hR (Nat.le_refl _) hg1)) hB) ?_
  rintro e2 w2 ⟨v2, rfl, hg2, rfl, hR2⟩
  go_wp2
  go_ret
  exact ⟨_, rfl, mut_ext hg1 hR (Nat.le_refl _) hg2, hR2⟩

def iPow (P : Pr) (a : List Int) (k : Int) : List Int := iter k.toNat (fun out => tv P out a) (List.replicate a.length 0)

theorem zeros_vec' {P : Pr} (hP : Valid P) {a : List Int} (ha : Vec P.orders a) : Vec P.orders (List.replicate a.length 0) := by
  refine ⟨by rw [List.length_replicate]; exact ha.1, fun i hi => ?_⟩
  have := hP.ord7 i hi
  rw [gt_replicate]; omega

theorem iPow_vec {P : Pr} (hP : Valid P) (a : List Int) (k : Int) (ha : Vec P.orders a) : Vec P.orders (iPow P a k) :=
  iter_inv (Vec P.orders) _ (fun y hy => tv_vec hP y a hy ha) _ _ (zeros_vec' hP ha)

set_option maxHeartbeats 400000 in
theorem power_ok (P : Pr) (hP : Valid P) (w : World) (p a : Value) (A : List Int) (k : Int) (Sp Sa : Nat → Prop) (hp : PresP Sp w p P) (ha : Ints Sa w a A) (hA : Vec P.orders A) (hk : k ≤ 1000000000) :
    Calls Try.prog 74 #[p, a, .int .i64 k] w (Ret w fun w' v => Own w.heap.size w' v (iPow P A k)) := by
  have hn6 := hP.n6
  have hlA : A.length ≤ 6 := by rw [hA.1]; omega
  obtain ⟨aa, capa, rfl, _, _⟩ := ha.shape
  go_enter Try.func74, Try.ntmps74
  go_wp2_with (at_make; refine wp_make_ints rfl _ _ rfl w.heap.size A.length w.heap.size rfl _ rfl rfl rfl (by omega) (Nat.le_refl _) ?_; intro w1 ho1 hg1 _)
  generalize Value.slice (some ⟨w.heap.size, 0, none⟩) A.length A.length = r at *
  go_loopw [12] (fun i wr => ∃ m : Nat, i = .int .i64 m ∧ m ≤ k.toNat ∧ Ext w wr ∧ Own w.heap.size wr r (iter m (fun out => tv P out A) (List.replicate A.length 0))) (fun i _ => k.toNat - (intOf i).toNat)
  case atStart => exact ⟨0, rfl, by omega, hg1, ho1⟩
  case round =>
    obtain ⟨m, rfl, hm, hg, hO⟩ := hrel
    by_cases hlt : (m : Int) < k
    · have hvm : Vec P.orders (iter m (fun out => tv P out A) (List.replicate A.length 0)) := iter_inv (Vec P.orders) _ (fun y hy => tv_vec hP y A hy hA) _ _ (zeros_vec' hP hA)
      have HV := Lib.hid hvm; clear hvm
      go_wp2_with fail
      refine Calls.mono (timesVector_ok P hP w.heap.size wr p r _ _ A (hp.mono (off_of hO (Nat.le_refl _) hg)) hO HV.out (ha.mono (off_of hO (Nat.le_refl _) hg)) hA) ?_
      rintro e2 w2 ⟨v2, rfl, hg2, rfl, hR2⟩
      have hg3 := mut_ext hg hO (Nat.le_refl _) hg2
      go_wp2
      go_roundw
      case rel => exact ⟨m + 1, by go_num, by omega, hg3, hR2⟩
      case measure => simp [intOf]; omega
    · have hme : m = k.toNat := by omega
      have HO : Hid (Own w.heap.size wr r (iPow P A k)) := by rw [hme] at hO; exact hO
      clear hO hme
      go_wp2
      go_ret
      exact ⟨_, rfl, hg, HO.out⟩

end Go.Proofs.Ytdfjgpioaomceaa
