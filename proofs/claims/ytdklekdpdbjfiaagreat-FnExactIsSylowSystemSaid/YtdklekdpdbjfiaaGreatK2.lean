/-
  spec.IsPresentation; orders of groups.
  Plain: what tgen does to single entries.
  The program's operations on elements: impl.multiply, invert, power, conjugate, imageBy.
  The reference's multiplication: spec.l08Image, spec.l08At.
  impl.invert, impl.conjugate, impl.imageBy.
  impl.conjugate, impl.imageBy, impl.numberOf, impl.elementAt.
  Numbers of elements: impl.numberOf, spec.l10Number, impl.elementAt, spec.l10At, spec.l10One.
  impl.allElements, impl.generators.
  Words of memory that laws and functions share: places in rows, rows in blocks of their own, a presentation in blocks of its own, a struct of three cells, what a law keeps in view.
  The laws' measure of an argument: laws.szInt64S, szInt64SS, szInt64SSS, szPresentation.
  The laws' copies of an argument: laws.toInt64S, toInt64SS, toInt64SSS, toPresentation: each part in blocks of its own.
  laws.toPresentation: a copy of a presentation, each part in blocks of its own.
  laws.eqInt64S.
  The laws' comparisons: laws.eqInt64SS, eqInt64SSS, eqPresentation.
  The laws' marks: laws.markInt64S.., heldInt64S..: each place of a value is given a number of its own, and looked at again.
  The laws' look at marked rows of rows: laws.heldInt64SS, heldInt64SSS.
  What a law over one presentation and one list keeps in view.
-/
import Derived.Test.YtdklekdpdbjfiaaGreatK1
import Derived.Deep.RegionHeld3
import Derived.StillTailTactics
import Derived.Deep.LoopGhost
/- spec.IsPresentation; orders of groups. -/
namespace Go.Proofs.YtdklekdpdbjfiaaGreat
open Go.RowKit

/-- the capped product -/
def capTo (l : List Int) : Nat → Int
  | 0 => 1
  | k + 1 => if capTo l k ≤ 729 then capTo l k * gt l k else capTo l k

theorem capTo_le {l : List Int} (n : Nat) (h : ∀ i, i < n → 1 ≤ gt l i) : (capTo l n ≤ 729 ↔ prodTo l n ≤ 729) ∧ (capTo l n ≤ 729 → capTo l n = prodTo l n) := by
  induction n with
  | zero => simp [capTo, prodTo]
  | succ n ih =>
    obtain ⟨h1, h2⟩ := ih (fun i hi => h i (by omega))
    simp only [capTo]
    split
    · rename_i hc
      rw [h2 hc]; exact ⟨Iff.rfl, fun _ => rfl⟩
    · rename_i hc
      have h3 := prodTo_mono (l := l) n (n + 1) (by omega) h
      have h4 : ¬ prodTo l n ≤ 729 := fun h => hc (h1.2 h)
      exact ⟨⟨fun h => absurd h hc, fun h => absurd (Int.le_trans h3 h) h4⟩, fun h => absurd h hc⟩

theorem capTo_bd {l : List Int} (n : Nat) (h : ∀ i, i < n → 1 ≤ gt l i ∧ gt l i ≤ 7) : 1 ≤ capTo l n ∧ capTo l n ≤ 5103 := by
  induction n with
  | zero => simp [capTo]
  | succ n ih =>
    have h1 := ih (fun i hi => h i (by omega))
    have h2 := h n (by omega)
    simp only [capTo]
    split
    · have h3 : capTo l n * gt l n ≤ 729 * gt l n := Int.mul_le_mul_of_nonneg_right (by omega) (by omega)
      have h4 := Int.mul_le_mul h1.1 h2.1 (by omega) (by omega)
      omega
    · omega

set_option maxHeartbeats 400000 in
theorem l07Product_ok (w : World) (v : Value) (l : List Int) (S : Nat → Prop) (hv : Ints S w v l) (ho : ∀ i, i < l.length → 1 ≤ gt l i ∧ gt l i ≤ 7) :
    Calls Tryz.prog 170 #[v] w fun e w' => e = .returned (.int .i64 (capTo l l.length)) ∧ w = w' := by
  obtain ⟨a, cap, rfl, _, _⟩ := hv.shape
  have HO := Lib.hid ho; clear ho
  go_enter Tryz.func170, Tryz.ntmps170
  go_wp2
  go_loop [3, 4] (fun pr i => ∃ k : Nat, i = .int .i64 k ∧ pr = .int .i64 (capTo l k) ∧ k ≤ l.length) (fun _ i => l.length - (intOf i).toNat)
  case atStart => exact ⟨0, rfl, rfl, by omega⟩
  case round =>
    obtain ⟨k, rfl, rfl, hk⟩ := hrel
    by_cases hlt : k < l.length
    · obtain ⟨b, off, rfl, _, _, hc⟩ := Ints.at hv k hlt
      have h1 := HO.out k hlt
      have hb := capTo_bd (l := l) k (fun i hi => HO.out i (by omega))
      have hb0 : 1 ≤ capTo l k := hb.1
      have hsucc : capTo l (k + 1) = if capTo l k ≤ 729 then capTo l k * gt l k else capTo l k := rfl
      have HSC := Lib.hid hsucc; clear hsucc hb
      by_cases h729 : capTo l k ≤ 729
      · have hm0 : 0 ≤ capTo l k * gt l k := Int.mul_nonneg (by omega) (by omega)
        have hm1 : capTo l k * gt l k ≤ 5103 := by
          have h1 : capTo l k * gt l k ≤ 729 * gt l k := Int.mul_le_mul_of_nonneg_right h729 (by omega)
          omega
        go_wp2
        go_round
        case rel => exact ⟨k + 1, by go_num, by rw [HSC.out, if_pos h729], by omega⟩
        case measure => simp [intOf]; omega
      · go_wp2
        go_round
        case rel => exact ⟨k + 1, by go_num, by rw [HSC.out, if_neg h729], by omega⟩
        case measure => simp [intOf]; omega
    · have hke : k = l.length := by omega
      subst hke
      go_wp2
      go_ret
      exact ⟨rfl, rfl⟩

/-- the order of a group -/
def ordP (P : Pr) : Int := prodTo P.orders P.orders.length

theorem Valid.ordP_pos {P : Pr} (h : Valid P) : 1 ≤ ordP P := prodTo_pos _ (fun i hi => h.pos i hi)

set_option maxHeartbeats 400000 in
theorem orderOf_ok (w : World) (p : Value) (P : Pr) (S : Nat → Prop) (hP : Valid P) (hp : PresP S w p P) :
    Calls Tryz.prog 68 #[p] w fun e w' => e = .returned (.int .i64 (ordP P)) ∧ w = w' := by
  obtain ⟨pb, po, rfl⟩ := hp.shape
  obtain ⟨ao, capo, hco, hoi⟩ := hp.ordAt
  have hn6 := hP.n6
  go_enter Tryz.func68, Tryz.ntmps68
  go_wp2
  go_loop [3, 11] (fun pr i => ∃ k : Nat, i = .int .i64 k ∧ pr = .int .i64 (prodTo P.orders k) ∧ k ≤ P.orders.length) (fun _ i => P.orders.length - (intOf i).toNat)
  case atStart => exact ⟨0, rfl, rfl, by omega⟩
  case round =>
    obtain ⟨k, rfl, rfl, hk⟩ := hrel
    by_cases hlt : k < P.orders.length
    · obtain ⟨b, off, rfl, _, _, hc⟩ := Ints.at hoi k hlt
      have h1 := hP.pre (k + 1) hlt
      have h0 := prodTo_pos (l := P.orders) (k + 1) (fun i hi => hP.pos i (by omega))
      have hm0 : 0 ≤ prodTo P.orders k * gt P.orders k := by simp only [prodTo] at h0; omega
      have hm1 : prodTo P.orders k * gt P.orders k ≤ 729 := h1
      clear h0 h1
      go_wp2
      go_round
      case rel => exact ⟨k + 1, by go_num, rfl, by omega⟩
      case measure => simp [intOf]; omega
    · have hke : k = P.orders.length := by omega
      subst hke
      go_wp2
      go_ret
      exact ⟨rfl, rfl⟩

set_option maxHeartbeats 400000 in
theorem l10Order_ok (w : World) (pv : Value) (P : Pr) (S : Nat → Prop) (hP : Valid P) (hp : PresV S w pv P) :
    Calls Tryz.prog 63 #[pv] w (Ret w fun _ v => v = .int .i64 (ordP P)) := by
  obtain ⟨vo, vp, vc, rfl, h3⟩ := hp
  have hB := PresP.box h3 31
  obtain ⟨ao, capo, hco, hoi⟩ := hB.ordAt
  have hn6 := hP.n6
  go_enter Tryz.func63, Tryz.ntmps63
  go_wp2
  go_loop [3, 4] (fun pr i => ∃ k : Nat, i = .int .i64 k ∧ pr = .int .i64 (prodTo P.orders k) ∧ k ≤ P.orders.length) (fun _ i => P.orders.length - (intOf i).toNat)
  case atStart => exact ⟨0, rfl, rfl, by omega⟩
  case round =>
    obtain ⟨k, rfl, rfl, hk⟩ := hrel
    by_cases hlt : k < P.orders.length
    · obtain ⟨b, off, rfl, _, _, hc⟩ := Ints.at hoi k hlt
      have h1 := hP.pre (k + 1) hlt
      have h0 := prodTo_pos (l := P.orders) (k + 1) (fun i hi => hP.pos i (by omega))
      have hm0 : 0 ≤ prodTo P.orders k * gt P.orders k := by simp only [prodTo] at h0; omega
      have hm1 : prodTo P.orders k * gt P.orders k ≤ 729 := h1
      clear h0 h1
      go_wp2
      go_round
      case rel => exact ⟨k + 1, by go_num, rfl, by omega⟩
      case measure => simp [intOf]; omega
    · have hke : k = P.orders.length := by omega
      subst hke
      go_wp2
      go_ret
      exact ⟨_, rfl, World.grownBy_alloc _ _ _, rfl⟩

end Go.Proofs.YtdklekdpdbjfiaaGreat

/- Plain: what tgen does to single entries. -/
namespace Go.Proofs.YtdklekdpdbjfiaaGreat

/-- Keep j: entries up to j are as they were -/
theorem tvec_keep {P : Pr} (hP : Valid P) (f j : Nat) (hf : P.orders.length ≤ f + 1 + j)
    (ih : ∀ (e : List Int) (i : Nat), Vec P.orders e → i < P.orders.length → P.orders.length ≤ f + i → ∀ k, k < i → gt (tgen P f e i) k = gt e k)
    (c : List Int) (hc : Vec P.orders c) (hz : ZeroTo j c) (e : List Int) (he : Vec P.orders e) : ∀ k, k ≤ j → gt (tvec (tgen P f) e c) k = gt e k := by
  have hstep : ∀ m, m ≤ P.orders.length → Vec P.orders (tvecTo (tgen P f) c e m) ∧ ∀ k, k ≤ j → gt (tvecTo (tgen P f) c e m) k = gt e k := by
    intro m
    induction m with
    | zero => intro _; exact ⟨he, fun k _ => rfl⟩
    | succ m ihm =>
      intro hm
      obtain ⟨h1, h2⟩ := ihm (by omega)
      unfold tvecTo
      by_cases h0 : gt c m = 0
      · rw [h0]; exact ⟨h1, h2⟩
      · have hmj : ¬ m ≤ j := fun h => h0 (hz m h)
        refine iter_inv (fun y => Vec P.orders y ∧ ∀ k, k ≤ j → gt y k = gt e k) _ (fun y hy => ⟨tgen_vec hP f y m hy.1 (by omega) (by omega), fun k hk => ?_⟩) _ _ ⟨h1, h2⟩
        rw [ih y m hy.1 (by omega) (by omega) k (by omega)]; exact hy.2 k hk
  intro k hk
  exact (hstep c.length (by rw [hc.1]; omega)).2 k hk

theorem tgen_entries {P : Pr} (hP : Valid P) (f : Nat) : ∀ (e : List Int) (j : Nat), Vec P.orders e → j < P.orders.length → P.orders.length ≤ f + j →
    (∀ k, k < j → gt (tgen P f e j) k = gt e k) ∧ gt (tgen P f e j) j = if gt e j + 1 = gt P.orders j then 0 else gt e j + 1 := by
  induction f with
  | zero => intro e j _ hj hf; omega
  | succ f ih =>
    intro e j he hj hf
    have ihk : ∀ (e : List Int) (i : Nat), Vec P.orders e → i < P.orders.length → P.orders.length ≤ f + i → ∀ k, k < i → gt (tgen P f e i) k = gt e k := fun e i a b c k hk => (ih e i a b c).1 k hk
    have hl := he.1
    have hzl : j + 1 + (e.drop (j + 1)).length ≤ e.length := by simp; omega
    have hz := he.zeroed j (e.drop (j + 1)).length hzl
    have hx := he.2 j hj
    have ho := hP.ord7 j hj
    have hlz := length_zeroed e j (e.drop (j + 1)).length hzl
    obtain ⟨e2, he2⟩ : ∃ e2, e2 = (if gt e j + 1 = gt P.orders j then tvec (tgen P f) (((zeroed e j (e.drop (j + 1)).length).set j (gt e j + 1)).set j 0) (gt P.powers j) else (zeroed e j (e.drop (j + 1)).length).set j (gt e j + 1)) := ⟨_, rfl⟩
    have hvk : ∀ c, Vec P.orders c → ZeroTo j c → ∀ x, Vec P.orders x → Vec P.orders (tvec (tgen P f) x c) := fun c hc hz x hx =>
      tvec_vec hc (fun e i he hi h0 => tgen_vec hP f e i he hi (by
        have : ¬ i ≤ j := fun h => h0 (hz i h)
        omega)) hx
    have hkeep : ∀ k, k < j → gt (zeroed e j (e.drop (j + 1)).length) k = gt e k := fun k hk => by rw [gt_zeroed _ _ _ _ hzl, if_neg (by omega)]
    have h2 : Vec P.orders e2 ∧ (∀ k, k < j → gt e2 k = gt e k) ∧ gt e2 j = if gt e j + 1 = gt P.orders j then 0 else gt e j + 1 := by
      rw [he2]
      split
      · rename_i hc
        rw [List.set_set]
        have hv0 : Vec P.orders ((zeroed e j (e.drop (j + 1)).length).set j 0) := hz.set j 0 ⟨by omega, fun _ => by omega⟩
        have hk := tvec_keep hP f j (by omega) ihk _ (hP.pv j hj).1 (hP.pv j hj).2 _ hv0
        refine ⟨hvk _ (hP.pv j hj).1 (hP.pv j hj).2 _ hv0, fun k hkj => ?_, ?_⟩
        · rw [hk k (by omega), gt_set_ne _ _ _ _ (by omega)]; exact hkeep k hkj
        · rw [hk j (Nat.le_refl _), gt_set_eq _ _ _ (by omega)]
      · rename_i hc
        refine ⟨hz.set j _ ⟨by omega, fun _ => by omega⟩, fun k hkj => ?_, ?_⟩
        · rw [gt_set_ne _ _ _ _ (by omega)]; exact hkeep k hkj
        · rw [gt_set_eq _ _ _ (by omega)]
    have hstep : ∀ m, m ≤ (e.drop (j + 1)).length → Vec P.orders (tconjTo (tgen P f) (gt P.conj j) (e.drop (j + 1)) e2 m) ∧ ∀ k, k ≤ j → gt (tconjTo (tgen P f) (gt P.conj j) (e.drop (j + 1)) e2 m) k = gt e2 k := by
      intro m
      induction m with
      | zero => intro _; exact ⟨h2.1, fun k _ => rfl⟩
      | succ m ihm =>
        intro hm
        obtain ⟨h3, h4⟩ := ihm (by omega)
        have hmm : m < P.orders.length - 1 - j := by simp at hm; omega
        have hc := (hP.cv j hj).2 m hmm
        unfold tconjTo
        refine iter_inv (fun y => Vec P.orders y ∧ ∀ k, k ≤ j → gt y k = gt e2 k) _ (fun y hy => ⟨hvk _ hc.1 hc.2 _ hy.1, fun k hk => ?_⟩) _ _ ⟨h3, h4⟩
        rw [tvec_keep hP f j (by omega) ihk _ hc.1 hc.2 _ hy.1 k hk]; exact hy.2 k hk
    have hfin := hstep _ (Nat.le_refl _)
    have hdef : tgen P (f + 1) e j = tconjTo (tgen P f) (gt P.conj j) (e.drop (j + 1)) e2 (e.drop (j + 1)).length := by rw [he2]; rfl
    rw [hdef]
    exact ⟨fun k hk => by rw [hfin.2 k (by omega)]; exact h2.2.1 k hk, by rw [hfin.2 j (Nat.le_refl _)]; exact h2.2.2⟩

/-- the program's product by a generator, and by a vector -/
def tg (P : Pr) (e : List Int) (j : Nat) : List Int := tgen P P.orders.length e j
def tv (P : Pr) (e f : List Int) : List Int := tvec (tg P) e f

theorem tg_vec {P : Pr} (hP : Valid P) (e : List Int) (j : Nat) (he : Vec P.orders e) (hj : j < P.orders.length) : Vec P.orders (tg P e j) := tgen_vec hP _ e j he hj (by omega)
theorem tv_vec {P : Pr} (hP : Valid P) (e f : List Int) (he : Vec P.orders e) (hf : Vec P.orders f) : Vec P.orders (tv P e f) := tvec_vec hf (fun e j he hj _ => tg_vec hP e j he hj) he

end Go.Proofs.YtdklekdpdbjfiaaGreat

/- The program's operations on elements: impl.multiply, invert, power, conjugate, imageBy. -/
namespace Go.Proofs.YtdklekdpdbjfiaaGreat
open Go.RowKit

theorem tgenOk (P : Pr) (hP : Valid P) (f : Nat) : TgenOk P f := by
  induction f with
  | zero => intro base w p e E j _ _ _ hj hf; omega
  | succ f ih => exact timesGenerator_of P hP f ih

theorem timesGenerator_ok (P : Pr) (hP : Valid P) (base : Nat) (w : World) (p e : Value) (E : List Int) (j : Nat) (hp : PresP (Off e.ownBlock) w p P) (hE : Own base w e E) (hv : Vec P.orders E) (hj : j < P.orders.length) :
    Calls Tryz.prog 243 #[p, e, .int .i64 j] w (Mut w e.ownBlock fun w' v => v = .tuple #[] ∧ Own base w' e (tg P E j)) :=
  tgenOk P hP _ base w p e E j hp hE hv hj (by omega)

theorem timesVector_ok (P : Pr) (hP : Valid P) (base : Nat) (w : World) (p e f : Value) (E F : List Int) (hp : PresP (Off e.ownBlock) w p P) (hE : Own base w e E)
    (hv : Vec P.orders E) (hf : Ints (Off e.ownBlock) w f F) (hF : Vec P.orders F) :
    Calls Tryz.prog 222 #[p, e, f] w (Mut w e.ownBlock fun w' v => v = .tuple #[] ∧ Own base w' e (tv P E F)) :=
  timesVector_of P hP _ (tgenOk P hP _) base w p e f E F hp hE hv hf hF (fun j hj _ => by omega)

/-- what was there before an own vector was made lies apart from it -/
theorem off_of {base : Nat} {w w1 : World} {v : Value} {l : List Int} {S : Nat → Prop} (hO : Own base w1 v l) (hb : w.heap.size ≤ base) (hg : Ext w w1) :
    ∀ k, S k → k < w.heap.size → Off v.ownBlock k ∧ k < w1.heap.size ∧ w1.heap[k]? = w.heap[k]? := by
  intro k _ hk
  refine ⟨fun h => ?_, Nat.lt_of_lt_of_le hk hg.size, hg.block k hk (by simp)⟩
  have := (hO.lt k h).1; omega

/-- a step that writes an own vector turns nothing that was there before -/
theorem mut_ext {base : Nat} {w w1 w2 : World} {v : Value} {l : List Int} (hg : Ext w w1) (hO : Own base w1 v l) (hb : w.heap.size ≤ base) (h : w1.grownBy w2 v.ownBlock) : Ext w w2 :=
  grown_own hg h (fun j hj hlt => by have := (hO.lt j hj).1; omega)

set_option maxHeartbeats 400000 in
theorem multiply_ok (P : Pr) (hP : Valid P) (w : World) (p a b : Value) (A B : List Int) (Sp Sa Sb : Nat → Prop) (hp : PresP Sp w p P) (ha : Ints Sa w a A) (hb : Ints Sb w b B) (hA : Vec P.orders A) (hB : Vec P.orders B) :
    Calls Tryz.prog 169 #[p, a, b] w (Ret w fun w' v => Own w.heap.size w' v (tv P A B)) := by
  have hn6 := hP.n6
  have hlA : A.length ≤ 6 := by rw [hA.1]; omega
  go_enter Tryz.func169, Tryz.ntmps169
  go_wp2_with fail
  refine Calls.mono (clone_ok w a A Sa ha (by omega)) ?_
  rintro e1 w1 ⟨r, rfl, hg1, hR⟩
  go_wp2_with fail
  refine Calls.mono (timesVector_ok P hP w.heap.size w1 p r b A B (hp.mono (off_of hR (Nat.le_refl _) hg1)) hR hA (hb.mono (off_of hR (Nat.le_refl _) hg1)) hB) ?_
  rintro e2 w2 ⟨v2, rfl, hg2, rfl, hR2⟩
  go_wp2
  go_ret
  exact ⟨_, rfl, mut_ext hg1 hR (Nat.le_refl _) hg2, hR2⟩

def iPow (P : Pr) (a : List Int) (k : Int) : List Int := iter k.toNat (fun out => tv P out a) (List.replicate a.length 0)

theorem zeros_vec' {P : Pr} (hP : Valid P) {a : List Int} (ha : Vec P.orders a) : Vec P.orders (List.replicate a.length 0) := by
  refine ⟨by rw [List.length_replicate]; exact ha.1, fun i hi => ?_⟩
  have := hP.ord7 i hi
  rw [gt_replicate]; omega

theorem iPow_vec {P : Pr} (hP : Valid P) (a : List Int) (k : Int) (ha : Vec P.orders a) : Vec P.orders (iPow P a k) :=
  iter_inv (Vec P.orders) _ (fun y hy => tv_vec hP y a hy ha) _ _ (zeros_vec' hP ha)

set_option maxHeartbeats 400000 in
theorem power_ok (P : Pr) (hP : Valid P) (w : World) (p a : Value) (A : List Int) (k : Int) (Sp Sa : Nat → Prop) (hp : PresP Sp w p P) (ha : Ints Sa w a A) (hA : Vec P.orders A) (hk : k ≤ 1000000000) :
    Calls Tryz.prog 190 #[p, a, .int .i64 k] w (Ret w fun w' v => Own w.heap.size w' v (iPow P A k)) := by
  have hn6 := hP.n6
  have hlA : A.length ≤ 6 := by rw [hA.1]; omega
  obtain ⟨aa, capa, rfl, _, _⟩ := ha.shape
  go_enter Tryz.func190, Tryz.ntmps190
  go_wp2_with (at_make; refine wp_make_ints rfl _ _ rfl w.heap.size A.length w.heap.size rfl _ rfl rfl rfl (by omega) (Nat.le_refl _) ?_; intro w1 ho1 hg1 _)
  generalize Value.slice (some ⟨w.heap.size, 0, none⟩) A.length A.length = r at *
  go_loopw [12] (fun i wr => ∃ m : Nat, i = .int .i64 m ∧ m ≤ k.toNat ∧ Ext w wr ∧ Own w.heap.size wr r (iter m (fun out => tv P out A) (List.replicate A.length 0))) (fun i _ => k.toNat - (intOf i).toNat)
  case atStart => exact ⟨0, rfl, by omega, hg1, ho1⟩
  case round =>
    obtain ⟨m, rfl, hm, hg, hO⟩ := hrel
    by_cases hlt : (m : Int) < k
    · have hvm : Vec P.orders (iter m (fun out => tv P out A) (List.replicate A.length 0)) := iter_inv (Vec P.orders) _ (fun y hy => tv_vec hP y A hy hA) _ _ (zeros_vec' hP hA)
      have HV := Lib.hid hvm; clear hvm
      go_wp2_with fail
      refine Calls.mono (timesVector_ok P hP w.heap.size wr p r _ _ A (hp.mono (off_of hO (Nat.le_refl _) hg)) hO HV.out (ha.mono (off_of hO (Nat.le_refl _) hg)) hA) ?_
      rintro e2 w2 ⟨v2, rfl, hg2, rfl, hR2⟩
      have hg3 := mut_ext hg hO (Nat.le_refl _) hg2
      go_wp2
      go_roundw
      case rel => exact ⟨m + 1, by go_num, by omega, hg3, hR2⟩
      case measure => simp [intOf]; omega
    · have hme : m = k.toNat := by omega
      have HO : Hid (Own w.heap.size wr r (iPow P A k)) := by rw [hme] at hO; exact hO
      clear hO hme
      go_wp2
      go_ret
      exact ⟨_, rfl, hg, HO.out⟩

end Go.Proofs.YtdklekdpdbjfiaaGreat

/- The reference's multiplication: spec.l08Image, spec.l08At. -/
namespace Go.Proofs.YtdklekdpdbjfiaaGreat
open Go.RowKit

/-- a vector of zeros -/
def zeros (n : Nat) : List Int := List.replicate n 0

def rImgTo (at_ : List Int → List Int → List Int) (cs : List (List Int)) (i : Nat) (x out : List Int) : Nat → List Int
  | 0 => out
  | k + 1 => iter (gt x (i + 1 + k)).toNat (fun out => at_ out (gt cs k)) (rImgTo at_ cs i x out k)

def rAt (P : Pr) : Nat → Nat → List Int → List Int → List Int
  | 0, _, _, _ => zeros P.orders.length
  | f + 1, i, A, B =>
    let left := iter (gt B i).toNat (fun l => rImgTo (rAt P f (i + 1)) (gt P.conj i) i l (zeros P.orders.length) f) (A.set i 0)
    let rest := rAt P f (i + 1) left (B.set i 0)
    let c := gt A i + gt B i
    if gt P.orders i ≤ c then (rAt P f (i + 1) (gt P.powers i) rest).set i (c - gt P.orders i) else rest.set i c

/-- the image under conjugation by generator i; f + i + 1 is the number of generators -/
def rImage (P : Pr) (f i : Nat) (x : List Int) : List Int := rImgTo (rAt P f (i + 1)) (gt P.conj i) i x (zeros P.orders.length) f

theorem zeros_vec {P : Pr} (hP : Valid P) : Vec P.orders (zeros P.orders.length) := by
  refine ⟨by simp [zeros], fun i hi => ?_⟩
  have := hP.ord7 i hi
  unfold zeros; rw [gt_replicate]; omega

def AtVec (P : Pr) (f : Nat) : Prop := ∀ i A B, i + f = P.orders.length → Vec P.orders A → Vec P.orders B → Vec P.orders (rAt P f i A B)

theorem rImgTo_vec {P : Pr} (hP : Valid P) (f i : Nat) (hi : i + (f + 1) = P.orders.length) (hat : AtVec P f) (x out : List Int) (ho : Vec P.orders out) (k : Nat) (hk : k ≤ f) :
    Vec P.orders (rImgTo (rAt P f (i + 1)) (gt P.conj i) i x out k) := by
  induction k with
  | zero => exact ho
  | succ k ih =>
    unfold rImgTo
    exact iter_inv (Vec P.orders) _ (fun y hy => hat _ _ _ (by omega) hy ((hP.cv i (by omega)).2 k (by omega)).1) _ _ (ih (by omega))

theorem rAt_vec {P : Pr} (hP : Valid P) (f : Nat) : AtVec P f := by
  induction f with
  | zero => intro i A B _ _ _; exact zeros_vec hP
  | succ f ih =>
    intro i A B hi hA hB
    have ho := hP.ord7 i (by omega)
    have hAi := hA.2 i (by omega)
    have hBi := hB.2 i (by omega)
    have hl : Vec P.orders (iter (gt B i).toNat (fun l => rImgTo (rAt P f (i + 1)) (gt P.conj i) i l (zeros P.orders.length) f) (A.set i 0)) :=
      iter_inv (Vec P.orders) _ (fun y hy => rImgTo_vec hP f i hi ih _ _ (zeros_vec hP) f (Nat.le_refl _)) _ _ (hA.set i 0 ⟨by omega, fun _ => by omega⟩)
    have hr := ih (i + 1) _ _ (by omega) hl (hB.set i 0 ⟨by omega, fun _ => by omega⟩)
    simp only [rAt]
    split
    · exact (ih (i + 1) _ _ (by omega) (hP.pv i (by omega)).1 hr).set i _ ⟨by omega, fun _ => by omega⟩
    · exact hr.set i _ ⟨by omega, fun _ => by omega⟩

def AtOk (P : Pr) (f : Nat) : Prop :=
  ∀ (w : World) (pv a b : Value) (i : Nat) (A B : List Int) (Sp Sa Sb : Nat → Prop), i + f = P.orders.length → PresV Sp w pv P → Ints Sa w a A → Ints Sb w b B → Vec P.orders A → Vec P.orders B →
    Calls Tryz.prog 225 #[pv, .int .i64 i, a, b] w (Ret w fun w' v => Own w.heap.size w' v (rAt P f i A B))

set_option maxHeartbeats 2000000 in
theorem l08Image_of (P : Pr) (hP : Valid P) (f : Nat) (ih : AtOk P f) (w : World) (pv x : Value) (i : Nat) (X : List Int) (Sp Sx : Nat → Prop) (hi : i + (f + 1) = P.orders.length) (hp : PresV Sp w pv P)
    (hx : Ints Sx w x X) (hX : Vec P.orders X) :
    Calls Tryz.prog 248 #[pv, .int .i64 i, x] w (Ret w fun w' v => Own w.heap.size w' v (rImage P f i X)) := by
  obtain ⟨vo, vp, vc, rfl, h3⟩ := hp
  obtain ⟨ax, capx, rfl, _, _⟩ := hx.shape
  have hn6 := hP.n6
  have hB := PresP.box h3 31
  obtain ⟨ao, capo, hco, hoi⟩ := hB.ordAt
  go_enter Tryz.func248, Tryz.ntmps248
  go_wp2_with (at_make; refine wp_make_ints rfl _ _ rfl (w.heap.size + 1) P.orders.length (w.heap.size + 1) (by simp) _ rfl rfl rfl (by omega) (by simp) ?_; intro w1 ho1 hg1 _)
  have hw1 : Ext (w.alloc (.cells #[vo, vp, vc] 31)) w1 := hg1
  have hBx : PresP Any w1 (.pointer (some ⟨w.heap.size, 0, none⟩)) P := hB.ext hw1
  have hxx : Ints Sx w1 (.slice ax X.length capx) X := (hx.ext (World.grownBy_alloc _ _ _)).ext hw1
  have hgw : Ext w w1 := grown_trans (World.grownBy_alloc _ _ _) hw1
  have hic : i < P.conj.length := by rw [hP.cl]; omega
  have hlc : f ≤ (gt P.conj i).length := by rw [(hP.cv i (by omega)).1]; omega
  clear hco hoi hg1 hw1 hx hB
  go_loopw [8, 9] (fun v j wr => ∃ k : Nat, j = .int .i64 ((i : Int) + 1 + k) ∧ k ≤ f ∧ Ext w1 wr ∧ Own (w.heap.size + 1) wr v (rImgTo (rAt P f (i + 1)) (gt P.conj i) i X (zeros P.orders.length) k)) (fun _ j _ => P.orders.length - (intOf j).toNat)
  case atStart => exact ⟨0, by simp, by omega, Ext.refl _, ho1⟩
  case round =>
    clear ho1
    obtain ⟨k, rfl, hk, hg, hO⟩ := hrel
    by_cases hlt : k < f
    · have hxk := hX.2 (i + 1 + k) (by omega)
      have hx7 := hP.ord7 (i + 1 + k) (by omega)
      have hx0 : 0 ≤ gt X (i + 1 + k) := hxk.1
      have hx1 : gt X (i + 1 + k) ≤ 7 := by omega
      clear hxk hx7
      have hvk := rImgTo_vec hP f i hi (rAt_vec hP f) X _ (zeros_vec hP) k hk
      have HV := Lib.hid hvk; clear hvk
      have hcond : (i : Int) + 1 + k < P.orders.length := by omega
      go_wp2
      go_loopw [8, 10] (fun v mm wr => ∃ m : Nat, mm = .int .i64 m ∧ m ≤ (gt X (i + 1 + k)).toNat ∧ Ext w1 wr ∧ Own (w.heap.size + 1) wr v (iter m (fun out => rAt P f (i + 1) out (gt (gt P.conj i) k)) (rImgTo (rAt P f (i + 1)) (gt P.conj i) i X (zeros P.orders.length) k))) (fun _ mm _ => (gt X (i + 1 + k)).toNat - (intOf mm).toNat)
      case atStart => exact ⟨0, rfl, by omega, hg, hO⟩
      case round =>
        clear hg hO
        obtain ⟨m, rfl, hm, hg, hO⟩ := hrel
        have hxw := hxx.ext hg
        obtain ⟨bx, ox, rfl, _, _, hcx⟩ := Ints.at hxw (i + 1 + k) (by rw [hX.1]; omega)
        have hle : X.length ≤ P.orders.length ∧ P.orders.length ≤ X.length := by rw [hX.1]; omega
        have hix : ((i : Int) + 1 + k).toNat = i + 1 + k := by omega
        by_cases hlt2 : (m : Int) < gt X (i + 1 + k)
        · obtain ⟨vo9, vp9, vc9, _, _, hc0, hc1, hc2, h39⟩ := (hBx.ext hg).at
          obtain ⟨ac, capc, rfl, _, _⟩ := Sl.shape h39.c
          obtain ⟨bc, oc, ac2, capc2, rfl, _, _, hcc, hrc⟩ := Rows3.at h39.c i hic
          obtain ⟨bd, od, ad2, capd2, rfl, _, _, hcd, hid⟩ := Rows2.at hrc k (by omega)
          have hvm : Vec P.orders (iter m (fun out => rAt P f (i + 1) out (gt (gt P.conj i) k)) (rImgTo (rAt P f (i + 1)) (gt P.conj i) i X (zeros P.orders.length) k)) :=
            iter_inv (Vec P.orders) _ (fun y hy => rAt_vec hP f _ _ _ (by omega) hy ((hP.cv i (by omega)).2 k (by omega)).1) _ _ HV.out
          have hcv := ((hP.cv i (by omega)).2 k (by omega)).1
          have hOi := hO.ints (by rw [hvm.1]; omega)
          have HVm := Lib.hid hvm; clear hvm
          have HCv := Lib.hid hcv; clear hcv
          have e1 : ∀ w', Ext wr w' → w'.cell? ⟨w.heap.size, 0, none⟩ = some vo9 := fun w' h => h.cell hc0 (by simp)
          have e2 : ∀ w', Ext wr w' → w'.cell? ⟨w.heap.size, 1, none⟩ = some vp9 := fun w' h => h.cell (by simpa using hc1) (by simp)
          have e3 : ∀ w', Ext wr w' → w'.cell? ⟨w.heap.size, 2, none⟩ = some (.slice (some ⟨bc, oc, none⟩) P.conj.length capc) := fun w' h => h.cell (by simpa using hc2) (by simp)
          have e4 : ∀ w', Ext wr w' → w'.cell? ⟨bc, oc + i, none⟩ = some (.slice (some ⟨bd, od, none⟩) (gt P.conj i).length capc2) := fun w' h => h.cell hcc (by simp)
          have e5 : ∀ w', Ext wr w' → w'.cell? ⟨bd, od + k, none⟩ = some (.slice ad2 (gt (gt P.conj i) k).length capd2) := fun w' h => h.cell hcd (by simp)
          have s1 : IntKind.i64.wrap ((i : Int) + 1 + k - i) = (k : Int) + 1 := by rw [show (i : Int) + 1 + k - i = (k : Int) + 1 by omega]; exact IntWalk.i64_in _ (by omega)
          have s2 : IntKind.i64.wrap (k : Int) = (k : Int) := IntWalk.i64_in _ (by omega)
          have s3 : IntKind.i64.wrap ((i : Int) + 1) = (i : Int) + 1 := IntWalk.i64_in _ (by omega)
          have b1 : (0 : Int) ≤ k := by omega
          have b2 : (k : Int) < (gt P.conj i).length := by omega
          have b3 : (i : Int) < P.conj.length := by omega
          go_wp2
          clear hc0 hc1 hc2 hcc hcd
          go_region_held3 (fun w' => Ext wr w') (first | exact grown_drew _ _ | exact hg6)
            (first | (go_at_call 225; refine Calls.mono (Calls.rel (w0 := wr) (by assumption) (ih _ _ _ _ (i + 1) _ (gt (gt P.conj i) k) Any Any Any (by omega) ⟨_, _, _, rfl, Pres3.ext h39 (by assumption)⟩ (Ints.ext hOi (by assumption)) (Ints.ext hid (by assumption)) HVm.out HCv.out)) ?_; rintro e6 w6 ⟨v6, rfl, hg6, hsz6, hO6⟩))
          clear e1 e2 e3 e4 e5 s1 s2 s3
          go_wp2
          go_roundw
          case rel => exact ⟨m + 1, by go_num, by omega, grown_trans hg hg6, hO6.weak (by have := hg.size; omega)⟩
          case measure => simp [intOf]; omega
        · have hme : m = (gt X (i + 1 + k)).toNat := by omega
          subst hme
          go_wp2
          go_roundw
          case rel => exact ⟨k + 1, by go_num, by omega, hg, hO⟩
          case measure => simp [intOf]; omega
    · have hke : k = f := by omega
      subst hke
      go_wp2
      go_ret
      exact ⟨_, rfl, grown_trans hgw hg, hO.weak (by omega)⟩

end Go.Proofs.YtdklekdpdbjfiaaGreat

/- impl.invert, impl.conjugate, impl.imageBy. -/
namespace Go.Proofs.YtdklekdpdbjfiaaGreat
open Go.RowKit

/-- how often a generator is still to be taken -/
def left_ (o x : Int) : Nat := if x = 0 then 0 else (o - x).toNat

def invTo (P : Pr) (a : List Int) : Nat → List Int × List Int
  | 0 => (a, List.replicate a.length 0)
  | k + 1 =>
    let s := invTo P a k
    let m := left_ (gt P.orders k) (gt s.1 k)
    (iter m (fun e => tg P e k) s.1, iter m (fun e => tg P e k) s.2)

def iInv (P : Pr) (a : List Int) : List Int := (invTo P a a.length).2

theorem iter_tg {P : Pr} (hP : Valid P) (e : List Int) (k : Nat) (hk : k < P.orders.length) (he : Vec P.orders e) (h0 : gt e k ≠ 0) (s : Nat) (hs : s ≤ left_ (gt P.orders k) (gt e k)) :
    Vec P.orders (iter s (fun e => tg P e k) e) ∧ gt (iter s (fun e => tg P e k) e) k = if s = left_ (gt P.orders k) (gt e k) then 0 else gt e k + s := by
  have hx := he.2 k hk
  have hl : left_ (gt P.orders k) (gt e k) = (gt P.orders k - gt e k).toNat := by unfold left_; rw [if_neg h0]
  rw [hl] at hs ⊢
  induction s with
  | zero => exact ⟨he, by rw [if_neg (by omega)]; simp [iter]⟩
  | succ s ih =>
    obtain ⟨h1, h2⟩ := ih (by omega)
    refine ⟨tg_vec hP _ k h1 hk, ?_⟩
    show gt (tg P (iter s (fun e => tg P e k) e) k) k = _
    have h3 := (tgen_entries hP P.orders.length (iter s (fun e => tg P e k) e) k h1 hk (by omega)).2
    rw [if_neg (by omega)] at h2
    have h4 : gt (tg P (iter s (fun e => tg P e k) e) k) k = if gt (iter s (fun e => tg P e k) e) k + 1 = gt P.orders k then 0 else gt (iter s (fun e => tg P e k) e) k + 1 := h3
    rw [h4, h2]
    by_cases hc : gt e k + s + 1 = gt P.orders k
    · rw [if_pos hc, if_pos (by omega)]
    · rw [if_neg hc, if_neg (by omega)]; omega

theorem invTo_vec {P : Pr} (hP : Valid P) (a : List Int) (ha : Vec P.orders a) (k : Nat) (hk : k ≤ P.orders.length) : Vec P.orders (invTo P a k).1 ∧ Vec P.orders (invTo P a k).2 := by
  induction k with
  | zero => exact ⟨ha, zeros_vec' hP ha⟩
  | succ k ih =>
    obtain ⟨h1, h2⟩ := ih (by omega)
    exact ⟨iter_inv (Vec P.orders) _ (fun y hy => tg_vec hP y k hy (by omega)) _ _ h1, iter_inv (Vec P.orders) _ (fun y hy => tg_vec hP y k hy (by omega)) _ _ h2⟩

set_option maxHeartbeats 1000000 in
theorem invert_ok (P : Pr) (hP : Valid P) (w : World) (p a : Value) (A : List Int) (Sp Sa : Nat → Prop) (hp : PresP Sp w p P) (ha : Ints Sa w a A) (hA : Vec P.orders A) :
    Calls Tryz.prog 210 #[p, a] w (Ret w fun w' v => Own w.heap.size w' v (iInv P A)) := by
  have hn6 := hP.n6
  have hlA : A.length ≤ P.orders.length ∧ P.orders.length ≤ A.length := by rw [hA.1]; omega
  obtain ⟨aa, capa, rfl, _, _⟩ := ha.shape
  go_enter Tryz.func210, Tryz.ntmps210
  go_wp2_with fail
  refine Calls.mono (clone_ok w _ A Sa ha (by omega)) ?_
  rintro e1 w1 ⟨r, rfl, hg1, hR⟩
  have hRi := hR.ints (by omega)
  obtain ⟨ar, capr, rfl, _, _⟩ := hRi.shape
  go_wp2_with (at_make; refine wp_make_ints rfl _ _ rfl w1.heap.size A.length w1.heap.size rfl _ rfl rfl rfl (by omega) (Nat.le_refl _) ?_; intro w2 ho2 hg2 _)
  generalize Value.slice (some ⟨w1.heap.size, 0, none⟩) A.length A.length = t at *
  have hR2 := hR.ext0 hg2
  have hRlt := hR.lt
  have HRL := Lib.hid hRlt
  clear hRi hR hRlt
  have hw2 : Ext w w2 := grown_trans hg1 hg2
  have hw1 := hg1.size
  go_loopw [15] (fun i wr => ∃ k : Nat, i = .int .i64 k ∧ k ≤ A.length ∧ Ext w wr ∧ Own w.heap.size wr (.slice ar A.length capr) (invTo P A k).1 ∧ Own w1.heap.size wr t (invTo P A k).2) (fun i _ => A.length - (intOf i).toNat)
  case atStart => exact ⟨0, rfl, by omega, hw2, hR2, ho2⟩
  case round =>
    clear hR2 ho2
    obtain ⟨k, rfl, hk, hg, hO, hT⟩ := hrel
    obtain ⟨hv1, hv2⟩ := invTo_vec hP A hA k (by omega)
    have HV1 := Lib.hid hv1; have HV2 := Lib.hid hv2
    by_cases hlt : k < A.length
    · have hx := hv1.2 k (by omega)
      have hok := hP.ord7 k (by omega)
      obtain ⟨g, capg, hfm, _, _⟩ := hO.form (by rw [hv1.1]; omega)
      have hlen : (invTo P A k).1.length = A.length := by rw [hv1.1, hA.1]
      rw [hlen] at hfm
      have hsucc : invTo P A (k + 1) = (iter (left_ (gt P.orders k) (gt (invTo P A k).1 k)) (fun e => tg P e k) (invTo P A k).1, iter (left_ (gt P.orders k) (gt (invTo P A k).1 k)) (fun e => tg P e k) (invTo P A k).2) := rfl
      have HSC := Lib.hid hsucc; clear hsucc
      obtain ⟨rfl, hcg⟩ : ar = some ⟨g, 0, none⟩ ∧ capr = capg := by cases hfm; exact ⟨rfl, rfl⟩
      clear hfm hcg hv1 hv2
      have hbt := hT.lt
      have hgl : g < w1.heap.size := (HRL.out g rfl).2
      have HBT := Lib.hid hbt; clear hbt
      generalize hr0 : (invTo P A k).1 = R at *
      generalize ht0 : (invTo P A k).2 = T at *
      have Hr0 := Lib.hid hr0; have Ht0 := Lib.hid ht0; clear hr0 ht0
      have hx0 : 0 ≤ gt R k := hx.1
      have hx1 : gt R k < gt P.orders k := hx.2
      have hok1 : gt P.orders k ≤ 7 := hok.2
      have HLEN := Lib.hid hlen; clear hlen hx hok
      go_wp2
      go_loopg [21] (left_ (gt P.orders k) (gt R k)) (fun gk u wr => ∃ s : Nat, gk + s = left_ (gt P.orders k) (gt R k) ∧ Ext w wr ∧ Own w.heap.size wr (.slice (some ⟨g, 0, none⟩) A.length capr) (iter s (fun e => tg P e k) R) ∧ Own w1.heap.size wr t (iter s (fun e => tg P e k) T))
      case atStart => exact ⟨0, by omega, hg, hO, hT⟩
      case round =>
        clear hg hO hT
        obtain ⟨s, hs, hg, hO, hT⟩ := hrel
        have hRs : Vec P.orders (iter s (fun e => tg P e k) R) ∧ Vec P.orders (iter s (fun e => tg P e k) T) :=
          ⟨iter_inv (Vec P.orders) _ (fun y hy => tg_vec hP y k hy (by omega)) _ _ HV1.out, iter_inv (Vec P.orders) _ (fun y hy => tg_vec hP y k hy (by omega)) _ _ HV2.out⟩
        have HRs := Lib.hid hRs
        have hc := hO.cell k (by rw [hRs.1.1]; omega)
        clear hRs
        by_cases hm : s = left_ (gt P.orders k) (gt R k)
        · have hz : gt (iter s (fun e => tg P e k) R) k = 0 := by
            by_cases h0 : gt R k = 0
            · have : s = 0 := by rw [hm]; unfold left_; rw [if_pos h0]
              rw [this]; exact h0
            · rw [(iter_tg hP R k (by omega) HV1.out h0 s (by omega)).2, if_pos hm]
          rw [hz] at hc
          have hO2 : Own w.heap.size wr (.slice (some ⟨g, 0, none⟩) A.length capr) (invTo P A (k + 1)).1 := by rw [HSC.out, ← hm]; exact hO
          have hT2 : Own w1.heap.size wr t (invTo P A (k + 1)).2 := by rw [HSC.out, ← hm]; exact hT
          have HO2 := Lib.hid hO2; have HT2 := Lib.hid hT2; clear hO2 hT2 hO hT hm hz
          go_wp2
          go_roundw
          case rel => exact ⟨k + 1, by go_num, by omega, hg, HO2.out, HT2.out⟩
          case measure => simp [intOf]; omega
        · have hz : gt (iter s (fun e => tg P e k) R) k ≠ 0 := by
            by_cases h0 : gt R k = 0
            · exfalso; apply hm
              have : left_ (gt P.orders k) (gt R k) = 0 := by unfold left_; rw [if_pos h0]
              omega
            · rw [(iter_tg hP R k (by omega) HV1.out h0 s (by omega)).2, if_neg hm]; omega
          have hzb : (gt (iter s (fun e => tg P e k) R) k != 0) = true := by simpa using hz
          have HM := Lib.hid hm; clear hm hz
          go_wp2_with fail
          refine Calls.mono (timesGenerator_ok P hP w.heap.size wr p _ _ k (hp.mono (off_of hO (Nat.le_refl _) hg)) hO HRs.out.1 (by omega)) ?_
          rintro e3 w3 ⟨v3, rfl, hg3, rfl, hO3⟩
          have hgx := mut_ext hg hO (Nat.le_refl _) hg3
          have hT3 : Own w1.heap.size w3 t (iter s (fun e => tg P e k) T) := hT.ext hg3 (by
            cases hb : t.ownBlock with
            | none => exact .inl rfl
            | some q => exact .inr (fun h => by have h : some q = some g := h; cases h; have := (hT.lt _ hb).1; omega))
          go_wp2_with fail
          refine Calls.mono (timesGenerator_ok P hP w1.heap.size w3 p t _ k (hp.mono (off_of hT3 hw1 hgx)) hT3 HRs.out.2 (by omega)) ?_
          rintro e4 w4 ⟨v4, rfl, hg4, rfl, hT4⟩
          have hgy := mut_ext hgx hT3 hw1 hg4
          have hO4 := hO3.ext hg4 (by
            cases hb : t.ownBlock with
            | none => exact .inr (by simp [Value.ownBlock])
            | some q => exact .inr (fun h => by have h : some g = some q := h; cases h; have := (hT3.lt _ hb).1; omega))
          clear hc hzb hO hT hO3 hT3
          go_wp2
          go_roundg (gk - 1)
          case measure => have := HM.out; omega
          case rel => exact ⟨s + 1, by have := HM.out; omega, hgy, hO4, hT4⟩
    · have hke : k = A.length := by omega
      subst hke
      go_wp2
      go_ret
      exact ⟨_, rfl, hg, hT.weak hw1⟩

end Go.Proofs.YtdklekdpdbjfiaaGreat

/- impl.conjugate, impl.imageBy, impl.numberOf, impl.elementAt. -/
namespace Go.Proofs.YtdklekdpdbjfiaaGreat
open Go.RowKit

theorem iInv_vec {P : Pr} (hP : Valid P) (a : List Int) (ha : Vec P.orders a) : Vec P.orders (iInv P a) := (invTo_vec hP a ha a.length (by rw [ha.1]; omega)).2

def iConj (P : Pr) (a b : List Int) : List Int := tv P (iInv P b) (tv P a b)

set_option maxHeartbeats 400000 in
theorem conjugate_ok (P : Pr) (hP : Valid P) (w : World) (p a b : Value) (A B : List Int) (Sp Sa Sb : Nat → Prop) (hp : PresP Sp w p P) (ha : Ints Sa w a A) (hb : Ints Sb w b B) (hA : Vec P.orders A) (hB : Vec P.orders B) :
    Calls Tryz.prog 150 #[p, a, b] w (Ret w fun w' v => Own w.heap.size w' v (iConj P A B)) := by
  have hn6 := hP.n6
  have hl1 : (iInv P B).length ≤ 6 := by rw [(iInv_vec hP B hB).1]; omega
  have hl2 : (tv P A B).length ≤ 6 := by rw [(tv_vec hP A B hA hB).1]; omega
  go_enter Tryz.func150, Tryz.ntmps150
  go_wp2_with fail
  refine Calls.mono (invert_ok P hP w p b B Sp Sb hp hb hB) ?_
  rintro e1 w1 ⟨r, rfl, hg1, hR⟩
  go_wp2_with fail
  refine Calls.mono (multiply_ok P hP w1 p a b A B Sp Sa Sb (hp.ext hg1) (ha.ext hg1) (hb.ext hg1) hA hB) ?_
  rintro e2 w2 ⟨m, rfl, hg2, hM⟩
  go_wp2_with fail
  refine Calls.mono (multiply_ok P hP w2 p r m _ _ Sp Any Any (hp.ext (grown_trans hg1 hg2)) ((hR.ext0 hg2).ints (by omega)) (hM.ints (by omega)) (iInv_vec hP B hB) (tv_vec hP A B hA hB)) ?_
  rintro e3 w3 ⟨q, rfl, hg3, hQ⟩
  go_wp2
  go_ret
  exact ⟨_, rfl, grown_trans (grown_trans hg1 hg2) hg3, hQ.weak (by have := hg1.size; have := hg2.size; omega)⟩

/-- the image of an element of the tail behind a generator -/
def iImg (P : Pr) (i : Nat) (x : List Int) : List Int := rImgTo (tv P) (gt P.conj i) i x (List.replicate x.length 0) (gt P.conj i).length

theorem iImgTo_vec {P : Pr} (hP : Valid P) (i : Nat) (hi : i < P.orders.length) (x out : List Int) (ho : Vec P.orders out) (k : Nat) (hk : k ≤ (gt P.conj i).length) :
    Vec P.orders (rImgTo (tv P) (gt P.conj i) i x out k) := by
  have hc := hP.cv i hi
  induction k with
  | zero => exact ho
  | succ k ih =>
    unfold rImgTo
    exact iter_inv (Vec P.orders) _ (fun y hy => tv_vec hP _ _ hy (hc.2 k (by omega)).1) _ _ (ih (by omega))

set_option maxHeartbeats 1000000 in
theorem imageBy_ok (P : Pr) (hP : Valid P) (w : World) (p x : Value) (i : Nat) (X : List Int) (Sp Sx : Nat → Prop) (hi : i < P.orders.length) (hp : PresP Sp w p P) (hx : Ints Sx w x X) (hX : Vec P.orders X) :
    Calls Tryz.prog 250 #[p, .int .i64 i, x] w (Ret w fun w' v => Own w.heap.size w' v (iImg P i X)) := by
  have hn6 := hP.n6
  have hlX : X.length ≤ P.orders.length ∧ P.orders.length ≤ X.length := by rw [hX.1]; omega
  obtain ⟨pb, po, rfl⟩ := hp.shape
  obtain ⟨ax, capx, rfl, _, _⟩ := hx.shape
  have hic : i < P.conj.length := by rw [hP.cl]; omega
  have hcl := (hP.cv i hi).1
  have hlc : (gt P.conj i).length + i + 1 ≤ P.orders.length := by omega
  have HCL := Lib.hid hcl; clear hcl
  obtain ⟨ac, capc, hcc0, hci0⟩ := hp.conjAt
  obtain ⟨bc, oc, ac2, capc2, rfl, _, _, hc20, hi20⟩ := Rows3.at hci0 i hic
  go_enter Tryz.func250, Tryz.ntmps250
  go_wp2_with (at_make; refine wp_make_ints rfl _ _ rfl w.heap.size X.length w.heap.size rfl _ rfl rfl rfl (by omega) (Nat.le_refl _) ?_; intro w1 ho1 hg1 _; have hcc := hg1.cell hcc0 (by simp); have hc2 := hg1.cell hc20 (by simp))
  clear hcc hc2 hci0 hcc0 hc20
  generalize Value.slice (some ⟨w.heap.size, 0, none⟩) X.length X.length = t at *
  go_loopw [21] (fun ii wr => ∃ k : Nat, ii = .int .i64 k ∧ k ≤ (gt P.conj i).length ∧ Ext w wr ∧ Own w.heap.size wr t (rImgTo (tv P) (gt P.conj i) i X (List.replicate X.length 0) k)) (fun ii _ => (gt P.conj i).length - (intOf ii).toNat)
  case atStart => exact ⟨0, rfl, by omega, hg1, ho1⟩
  case round =>
    clear ho1
    obtain ⟨k, rfl, hk, hgw, hO⟩ := hrel
    by_cases hlt : k < (gt P.conj i).length
    · have hvk := iImgTo_vec hP i hi X _ (zeros_vec' hP hX) k hk
      have HV := Lib.hid hvk; clear hvk
      have hcv := ((hP.cv i hi).2 k (by omega)).1
      have HCV := Lib.hid hcv; clear hcv
      have hix : ((i : Int) + 1 + k).toNat = i + 1 + k := by omega
      have hbx : (i : Int) + 1 + k < X.length := by omega
      obtain ⟨bx, ox, rfl, _, _, hcx⟩ := Ints.at (hx.ext hgw) (i + 1 + k) (by omega)
      have hxk := hX.2 (i + 1 + k) (by omega)
      have hx7 := hP.ord7 (i + 1 + k) (by omega)
      have hx0 : 0 ≤ gt X (i + 1 + k) := hxk.1
      have hx1 : gt X (i + 1 + k) ≤ 7 := by omega
      clear hxk hx7
      obtain ⟨bd, od, ad2, capd2, rfl, _, _, hcd0, hid⟩ := Rows2.at hi20 k hlt
      have hcd := hgw.cell hcd0 (by simp)
      go_wp2
      go_loopw [33] (fun mm wr2 => ∃ m : Nat, mm = .int .i64 m ∧ m ≤ (gt X (i + 1 + k)).toNat ∧ Ext w wr2 ∧ Own w.heap.size wr2 t (iter m (fun out => tv P out (gt (gt P.conj i) k)) (rImgTo (tv P) (gt P.conj i) i X (List.replicate X.length 0) k))) (fun mm _ => (gt X (i + 1 + k)).toNat - (intOf mm).toNat)
      case atStart => exact ⟨0, rfl, by omega, hgw, hO⟩
      case round =>
        clear hgw hO hcx hcd hcd0
        obtain ⟨m, rfl, hm, hgw, hO⟩ := hrel
        by_cases hlt2 : (m : Int) < gt X (i + 1 + k)
        · have hvm : Vec P.orders (iter m (fun out => tv P out (gt (gt P.conj i) k)) (rImgTo (tv P) (gt P.conj i) i X (List.replicate X.length 0) k)) := iter_inv (Vec P.orders) _ (fun y hy => tv_vec hP y _ hy HCV.out) _ _ HV.out
          have HVM := Lib.hid hvm; clear hvm
          go_wp2_with fail
          refine Calls.mono (timesVector_ok P hP w.heap.size wr _ t _ _ _ (hp.mono (off_of hO (Nat.le_refl _) hgw)) hO HVM.out (hid.mono (off_of hO (Nat.le_refl _) hgw)) HCV.out) ?_
          rintro e3 w3 ⟨v3, rfl, hg3, rfl, hO3⟩
          have hgx := mut_ext hgw hO (Nat.le_refl _) hg3
          go_wp2
          go_roundw
          case rel => exact ⟨m + 1, by go_num, by omega, hgx, hO3⟩
          case measure => simp [intOf]; omega
        · have hme : m = (gt X (i + 1 + k)).toNat := by omega
          subst hme
          go_wp2
          go_roundw
          case rel => exact ⟨k + 1, by go_num, by omega, hgw, hO⟩
          case measure => simp [intOf]; omega
    · have hke : k = (gt P.conj i).length := by omega
      subst hke
      go_wp2
      go_ret
      exact ⟨_, rfl, hgw, hO⟩

end Go.Proofs.YtdklekdpdbjfiaaGreat

/- Numbers of elements: impl.numberOf, spec.l10Number, impl.elementAt, spec.l10At, spec.l10One. -/
namespace Go.Proofs.YtdklekdpdbjfiaaGreat
open Go.RowKit

def numTo (o x : List Int) : Nat → Int
  | 0 => 0
  | k + 1 => numTo o x k * gt o k + gt x k

def num (P : Pr) (x : List Int) : Int := numTo P.orders x P.orders.length

theorem numTo_bd {P : Pr} (hP : Valid P) {x : List Int} (hx : Vec P.orders x) (k : Nat) (hk : k ≤ P.orders.length) : 0 ≤ numTo P.orders x k ∧ numTo P.orders x k + 1 ≤ prodTo P.orders k := by
  induction k with
  | zero => simp [numTo, prodTo]
  | succ k ih =>
    obtain ⟨h1, h2⟩ := ih (by omega)
    have h3 := hP.pos k (by omega)
    have h4 := hx.2 k (by omega)
    have h5 : 0 ≤ numTo P.orders x k * gt P.orders k := Int.mul_nonneg h1 (by omega)
    have h6 : (numTo P.orders x k + 1) * gt P.orders k ≤ prodTo P.orders k * gt P.orders k := Int.mul_le_mul_of_nonneg_right h2 (by omega)
    rw [Int.add_mul, Int.one_mul] at h6
    simp only [numTo, prodTo]
    omega

theorem num_bd {P : Pr} (hP : Valid P) {x : List Int} (hx : Vec P.orders x) : 0 ≤ num P x ∧ num P x < ordP P := by
  have := numTo_bd hP hx P.orders.length (Nat.le_refl _)
  unfold num ordP; omega

/-- the element with a number, from the last entry on -/
def elTo (o : List Int) (N : Nat) (m : Int) : Nat → List Int × Int
  | 0 => (List.replicate N 0, m)
  | k + 1 =>
    let s := elTo o N m k
    (s.1.set (N - 1 - k) (s.2 % gt o (N - 1 - k)), s.2 / gt o (N - 1 - k))

def elAt (P : Pr) (m : Int) : List Int := (elTo P.orders P.orders.length m P.orders.length).1

theorem elTo_inv {P : Pr} (hP : Valid P) (m : Int) (hm : 0 ≤ m) (k : Nat) (hk : k ≤ P.orders.length) :
    Vec P.orders (elTo P.orders P.orders.length m k).1 ∧ 0 ≤ (elTo P.orders P.orders.length m k).2 ∧ (elTo P.orders P.orders.length m k).2 ≤ m := by
  induction k with
  | zero =>
    refine ⟨⟨by simp [elTo], fun i hi => ?_⟩, hm, Int.le_refl _⟩
    have := hP.ord7 i hi
    simp only [elTo]; rw [gt_replicate]; omega
  | succ k ih =>
    obtain ⟨h1, h2, h3⟩ := ih (by omega)
    have ho := hP.ord7 (P.orders.length - 1 - k) (by omega)
    refine ⟨h1.set _ _ ⟨Int.emod_nonneg _ (by omega), fun _ => Int.emod_lt_of_pos _ (by omega)⟩, Int.ediv_nonneg h2 (by omega), ?_⟩
    exact Int.le_trans (Int.ediv_le_self _ h2) h3

theorem elAt_vec {P : Pr} (hP : Valid P) (m : Int) (hm : 0 ≤ m) : Vec P.orders (elAt P m) := (elTo_inv hP m hm _ (Nat.le_refl _)).1

end Go.Proofs.YtdklekdpdbjfiaaGreat

/- impl.allElements, impl.generators. -/
namespace Go.Proofs.YtdklekdpdbjfiaaGreat
open Go.RowKit

theorem und_rows : Tryz.prog.underlying 23 = some (.slice 22) := by kernel_rfl
theorem Tryz.infoRow : (Tryz.prog.info? 22).map (fun i => (i.zero, i.size, i.bytes)) = some (some (.slice none 0 0), 1, 24) := by kernel_rfl

/-- append(rows, row), the row made since -/
theorem wp_app_row {ops : Array Oper} {rest : List Oper} {o : Oper} {a : Act} {Q : Exit → Act → World → Prop} {w : World} (hgd : o.guard = none) (s x : Operand)
    (ho : o.op = Op.call { callee := Callee.builtin Builtin.append, args := #[s, x], argTypes := #[23, 23] }) (B : Nat) (w1 w2 : World) (v u : Value) (xs : List (List Int)) (y : List Int) (hs : a.eval s = v) (hown : RowsO B w1 v xs)
    (hg : Ext w1 w2) (hu : OwnIn (From w1.heap.size) w2 u y) (hw : w = w2.alloc (.cells #[u] 22)) (hx : a.eval x = .slice (some ⟨w2.heap.size, 0, none⟩) 1 1) (hlen : xs.length ≤ 1000000) (hbase : B ≤ w1.heap.size)
    (h : ∀ v' w', RowsO B w' v' (xs ++ [y]) → w1.grownBy w' v.ownBlock → w2.grownBy w' v.ownBlock → wpList Tryz.prog ops Q rest (a.put o.dst v') w') :
    wpList Tryz.prog ops Q (o :: rest) a w :=
  wp_app_one rdOwn 23 22 (.slice none 0 0) 24 und_rows Tryz.infoRow rfl (by decide) hgd s x ho B w1 w2 v u xs y hs hown hg hu hw hx hlen hbase h

theorem SlO.lt {α : Type} [Inhabited α] {El : (Nat → Prop) → World → Value → α → Prop} {E B : Nat} {w : World} {v : Value} {xs : List α} (h : SlO El E B w v xs) (k : Nat) (hk : v.ownBlock = some k) : B ≤ k ∧ k < w.heap.size := by
  obtain ⟨vs, G, _, hO, _⟩ := h
  exact hO.lt k hk

theorem SlO.extw {α : Type} [Inhabited α] {El : (Nat → Prop) → World → Value → α → Prop} {E B : Nat} {w w1 w2 : World} {v : Value} {xs : List α} (h : SlO El E B w1 v xs) (hg : Ext w w1) (hB : w.heap.size ≤ B) (k : w1.grownBy w2 v.ownBlock) : Ext w w2 :=
  grown_own hg k (fun j hj hlt => by have := (h.lt j hj).1; omega)

end Go.Proofs.YtdklekdpdbjfiaaGreat

/- Words of memory that laws and functions share: places in rows, rows in blocks of their own, a presentation in blocks of its own, a struct of three cells, what a law keeps in view. -/
namespace Go.Proofs.YtdklekdpdbjfiaaGreat
open Go.RowKit

/-- places in the first k rows -/
def szTo {α : Type} [Inhabited α] (sz : α → Nat) (xs : List α) : Nat → Nat
  | 0 => 0
  | k + 1 => szTo sz xs k + sz (gt xs k)
theorem szTo_mono {α : Type} [Inhabited α] (sz : α → Nat) (xs : List α) {k n : Nat} (h : k ≤ n) : szTo sz xs k ≤ szTo sz xs n := by
  induction n with
  | zero => have : k = 0 := by omega
            subst this; exact Nat.le_refl _
  | succ n ih =>
    rcases Nat.lt_or_ge n k with h1 | h1
    · have : k = n + 1 := by omega
      subst this; exact Nat.le_refl _
    · exact Nat.le_trans (ih h1) (Nat.le_add_right _ _)
def size2 (xs : List (List Int)) : Nat := xs.length + szTo List.length xs xs.length
def size3 (xs : List (List (List Int))) : Nat := xs.length + szTo size2 xs xs.length
def sizeP (P : Pr) : Nat := P.orders.length + size2 P.powers + size3 P.conj

theorem SlD.nil {α : Type} [Inhabited α] (El : (Nat → Prop) → World → Value → α → Prop) (F : Nat → Prop) (w : World) : SlD El F w (.slice none 0 0) ([] : List α) :=
  ⟨fun _ _ => False, fun _ => False, by simp, by simp, by simp, none, 0, rfl, ⟨by simp, by simp, fun _ => rfl⟩, by simp⟩

theorem SlD.map {α : Type} [Inhabited α] {El El' : (Nat → Prop) → World → Value → α → Prop} (h0 : ∀ F w u x, El F w u x → El' F w u x) {F : Nat → Prop} {w : World} {v : Value} {xs : List α} (h : SlD El F w v xs) : SlD El' F w v xs := by
  obtain ⟨G, H, h1, h2, h3, a, cap, hv, hl, hc⟩ := h
  exact ⟨G, H, h1, h2, h3, a, cap, hv, hl, fun i hi => by
    obtain ⟨b, off, u, e1, e2, e3, e4, e5⟩ := hc i hi
    exact ⟨b, off, u, e1, e2, e3, e4, h0 _ _ _ _ e5⟩⟩
theorem SlO.map {α : Type} [Inhabited α] {El El' : (Nat → Prop) → World → Value → α → Prop} (h0 : ∀ F w u x, El F w u x → El' F w u x) {E B : Nat} {w : World} {v : Value} {xs : List α} (h : SlO El E B w v xs) : SlO El' E B w v xs := by
  obtain ⟨vs, G, a, b, c, d, e⟩ := h
  exact ⟨vs, G, a, b, c, d, fun i hi => h0 _ _ _ _ (e i hi)⟩

abbrev RowsW (F : Nat → Prop) (w : World) (v : Value) (xs : List (List Int)) : Prop := RowsD F w v xs
theorem rdRowsW : RdOk (fun F w u (x : List (List Int)) => RowsW F w u x) := rdRows
abbrev Rows3W (F : Nat → Prop) (w : World) (v : Value) (xs : List (List (List Int))) : Prop := Rows3D F w v xs
theorem RowsW.d {F : Nat → Prop} {w : World} {v : Value} {xs : List (List Int)} (h : RowsW F w v xs) : RowsD F w v xs := h
theorem Rows3W.d {F : Nat → Prop} {w : World} {v : Value} {xs : List (List (List Int))} (h : Rows3W F w v xs) : Rows3D F w v xs := h

/-- one element is put in its place -/
theorem SlO.store {α : Type} [Inhabited α] {El : (Nat → Prop) → World → Value → α → Prop} (hEl : RdOk El) {E B g n cap : Nat} {w1 w2 : World} {xs : List α} {u : Value} {y : α} (h : SlO El E B w1 (.slice (some ⟨g, 0, none⟩) n cap) xs)
    (hg : Ext w1 w2) (hu : El (From w1.heap.size) w2 u y) (j : Nat) :
    SlO El E B (w2.setCell ⟨g, j, none⟩ u) (.slice (some ⟨g, 0, none⟩) n cap) (xs.set j y) ∧ w2.grownBy (w2.setCell ⟨g, j, none⟩ u) (some g) := by
  obtain ⟨vs, G, hvl, hO, hG, hd, hE⟩ := h
  have hgl := hO.lt g rfl
  have hO2 : OwnV B E w2 (.slice (some ⟨g, 0, none⟩) n cap) vs := hO.kept hg (by simp [Value.ownBlock])
  have hn : n = vs.length := by
    obtain ⟨_, ⟨h, _⟩ | ⟨_, _, _, h, _⟩⟩ := hO2 <;> cases h; rfl
  subst hn
  obtain ⟨h1, h2⟩ := World.ownsRow.stored hO2 j u
  have hsz : (w2.setCell ⟨g, j, none⟩ u).heap.size = w2.heap.size := by simp [World.setCell]
  have hblk : ∀ k, k ≠ g → (w2.setCell ⟨g, j, none⟩ u).heap[k]? = w2.heap[k]? := fun k hk => Below.heap_setCell _ _ _ _ (by simpa using hk)
  have hB1 : B ≤ w1.heap.size := by omega
  refine ⟨⟨vs.set j u, fun i k => if i = j then w1.heap.size ≤ k ∧ k < w2.heap.size else G i k ∧ k < w1.heap.size, by simp [hvl], ?_, ?_, ?_, ?_⟩, h2⟩
  · unfold OwnV; rw [List.length_set]; exact h1
  · intro i k hi hk
    rw [List.length_set] at hi
    simp only [Value.ownBlock]
    split at hk
    · exact ⟨by omega, by intro e; cases e; omega, by omega⟩
    · obtain ⟨a1, a2, a3⟩ := hG i k hi hk.1
      exact ⟨a1, a2, by have := hg.size; omega⟩
  · intro i i' k hi hi' hk hk'
    rw [List.length_set] at hi hi'
    split at hk <;> split at hk'
    · omega
    · omega
    · omega
    · exact hd i i' k hi hi' hk.1 hk'.1
  · intro i hi
    rw [List.length_set] at hi
    by_cases e : j = i
    · subst e
      rw [gt_set_eq _ _ _ (by omega), gt_set_eq _ _ _ hi]
      simp only [if_true]
      exact hEl.mono hu (fun k hk hlt => ⟨⟨hk, hlt⟩, by omega, hblk k (by have hk : w1.heap.size ≤ k := hk; omega)⟩)
    · rw [gt_set_ne _ _ _ _ e, gt_set_ne _ _ _ _ e]
      simp only [if_neg (fun h : i = j => e h.symm)]
      refine hEl.mono (hE i hi) (fun k hk hlt => ⟨⟨hk, hlt⟩, by have := hg.size; omega, ?_⟩)
      rw [hblk k (fun e => (hG i k hi hk).2.1 (by rw [e]; rfl))]
      exact hg.block k hlt (by simp)

/-- make([]T, n) for elements that are slices -/
theorem wp_make_sl {α : Type} {El : (Nat → Prop) → World → Value → List α → Prop} (T E : Nat) (hT : Tryz.prog.underlying T = some (.slice E)) (hEi : (Tryz.prog.info? E).map (fun i => (i.zero, i.size, i.bytes)) = some (some (.slice none 0 0), 1, 24))
    (h0 : ∀ w, El (fun _ => False) w (.slice none 0 0) [])
    {ops : Array Oper} {rest : List Oper} {o : Oper} {a : Act} {Q : Exit → Act → World → Prop} {w : World} (hgd : o.guard = none) (l c : Operand)
    (ho : o.op = Op.makeSlice T l c) (base n H : Nat) (hH : w.heap.size = H) (L : Int) (hl : a.eval l = .int .i64 L) (hc : a.eval c = .int .i64 L) (hL : L = n) (hn : n ≤ 2147483648) (hbase : base ≤ H)
    (h : ∀ w', SlO El E base w' (.slice (some ⟨H, 0, none⟩) n n) (List.replicate n ([] : List α)) → Ext w w' → H < w'.heap.size → wpList Tryz.prog ops Q rest (a.put o.dst (.slice (some ⟨H, 0, none⟩) n n)) w') :
    wpList Tryz.prog ops Q (o :: rest) a w := by
  subst hH
  obtain ⟨i0, hi, hz0, hz1, hz2⟩ := info_parts hEi
  refine wpList_make_full w hgd l c T ho base E i0 (.slice none 0 0) 1 hT hi hz0 hz1 .i64 .i64 L L n hl hc hL hL (by rw [hz2]; omega) (by unfold maxLen; omega) hbase ?_
  intro w' h1 h2
  refine h w' ?_ h2 (h1.lt w.heap.size rfl).2
  have e : (madeCells (Value.cells (.slice none 0 0)) (n * 1)).toList = List.replicate n (Value.slice none 0 0) := by
    rw [show Value.cells (.slice none 0 0) = #[.slice none 0 0] from rfl, toList_madeCells_one]; simp
  rw [e] at h1
  refine ⟨List.replicate n (.slice none 0 0), fun _ _ => False, by simp, ?_, by simp, by simp, fun i hi => ?_⟩
  · unfold OwnV; rw [List.length_replicate]; exact h1
  · rw [List.length_replicate] at hi
    have e1 : gt (List.replicate n (Value.slice none 0 0)) i = .slice none 0 0 := by simp [gt, hi]
    have e2 : gt (List.replicate n ([] : List α)) i = [] := by simp [gt, hi]
    rw [e1, e2]; exact h0 w'

/-- the first k elements of l, behind them z -/
def cpTo {α : Type} (l : List α) (z : α) (k : Nat) : List α := l.take k ++ List.replicate (l.length - k) z
theorem cpTo_len {α : Type} (l : List α) (z : α) (k : Nat) (hk : k ≤ l.length) : (cpTo l z k).length = l.length := by unfold cpTo; simp; omega
theorem cpTo_zero {α : Type} (l : List α) (z : α) : cpTo l z 0 = List.replicate l.length z := by simp [cpTo]
theorem cpTo_all {α : Type} (l : List α) (z : α) : cpTo l z l.length = l := by simp [cpTo]
theorem cpTo_step {α : Type} [Inhabited α] (l : List α) (z : α) (k : Nat) (hk : k < l.length) : (cpTo l z k).set k (gt l k) = cpTo l z (k + 1) := by
  unfold cpTo
  rw [List.set_append, if_neg (by simp; omega), show k - (l.take k).length = 0 by simp; omega, show l.length - k = (l.length - (k + 1)) + 1 by omega, List.replicate_succ, List.set_cons_zero, take_succ_gt l k hk, List.append_assoc]
  rfl

/-- a place of an own row may be written -/
theorem SlO.place {α : Type} [Inhabited α] {El : (Nat → Prop) → World → Value → α → Prop} {E B g n cap : Nat} {w : World} {xs : List α} (h : SlO El E B w (.slice (some ⟨g, 0, none⟩) n cap) xs) (k : Nat) (hk : k < xs.length) :
    (∃ z, w.cell? ⟨g, k, none⟩ = some z) ∧ w.frozen? ⟨g, k, none⟩ = false := by
  obtain ⟨vs, G, hvl, hO, _⟩ := h
  refine ⟨⟨_, hO.cell k (by omega)⟩, ?_⟩
  have hn : n = vs.length := by
    obtain ⟨_, ⟨h, _⟩ | ⟨_, _, _, h, _⟩⟩ := hO <;> cases h; rfl
  subst hn
  exact World.ownsRow.frozenAt hO k
theorem Tryz.infoRows : (Tryz.prog.info? 23).map (fun i => (i.zero, i.size, i.bytes)) = some (some (.slice none 0 0), 1, 24) := by kernel_rfl
theorem und_rows3 : Tryz.prog.underlying 24 = some (.slice 23) := by kernel_rfl

/-- a presentation by value whose parts lie in blocks of their own, all in F -/
def PresW (F : Nat → Prop) (w : World) (v : Value) (P : Pr) : Prop :=
  ∃ vo vp vc Fo Fp Fc, v = .agg #[vo, vp, vc] ∧ OwnIn Fo w vo P.orders ∧ RowsW Fp w vp P.powers ∧ Rows3W Fc w vc P.conj ∧
    (∀ k, Fo k → F k ∧ ¬ Fp k ∧ ¬ Fc k) ∧ (∀ k, Fp k → F k ∧ ¬ Fc k) ∧ (∀ k, Fc k → F k)

theorem PresW.mono {F F' : Nat → Prop} {w w' : World} {v : Value} {P : Pr} (h : PresW F w v P) (hb : ∀ k, F k → k < w.heap.size → F' k ∧ k < w'.heap.size ∧ w'.heap[k]? = w.heap[k]?) : PresW F' w' v P := by
  obtain ⟨vo, vp, vc, Fo, Fp, Fc, rfl, h1, h2, h3, h4, h5, h6⟩ := h
  refine ⟨vo, vp, vc, fun k => Fo k ∧ k < w.heap.size, fun k => Fp k ∧ k < w.heap.size, fun k => Fc k ∧ k < w.heap.size, rfl, rdOwn.mono h1 (fun k hk hlt => ⟨⟨hk, hlt⟩, (hb k (h4 k hk).1 hlt).2⟩),
    rdRowsW.mono h2 (fun k hk hlt => ⟨⟨hk, hlt⟩, (hb k (h5 k hk).1 hlt).2⟩), SlD.mono rdRowsW h3 (fun k hk hlt => ⟨⟨hk, hlt⟩, (hb k (h6 k hk) hlt).2⟩), fun k hk => ?_, fun k hk => ?_, fun k hk => ?_⟩
  · exact ⟨(hb k (h4 k hk.1).1 hk.2).1, fun h => (h4 k hk.1).2.1 h.1, fun h => (h4 k hk.1).2.2 h.1⟩
  · exact ⟨(hb k (h5 k hk.1).1 hk.2).1, fun h => (h5 k hk.1).2 h.1⟩
  · exact (hb k (h6 k hk.1) hk.2).1

theorem PresW.ext {F : Nat → Prop} {w w' : World} {v : Value} {P : Pr} (h : PresW F w v P) (hg : Ext w w') : PresW F w' v P := h.mono (frame_ext hg)

theorem PresW.v {F : Nat → Prop} {w : World} {v : Value} {P : Pr} (h : PresW F w v P) : PresV F w v P := by
  obtain ⟨vo, vp, vc, Fo, Fp, Fc, rfl, h1, h2, h3, h4, h5, h6⟩ := h
  exact ⟨vo, vp, vc, rfl, ⟨Ints.sub h1.ints (fun k hk _ => (h4 k hk).1), Rows2.sub (RowsD.rows (RowsW.d h2)) (fun k hk _ => (h5 k hk).1), Rows3.sub (Rows3D.rows (Rows3W.d h3)) (fun k hk _ => h6 k hk)⟩⟩

theorem PresW.shape {F : Nat → Prop} {w : World} {v : Value} {P : Pr} (h : PresW F w v P) : ∃ a c a2 c2 a3 c3, v = .agg #[.slice a P.orders.length c, .slice a2 P.powers.length c2, .slice a3 P.conj.length c3] := by
  obtain ⟨vo, vp, vc, Fo, Fp, Fc, rfl, h1, h2, h3, _⟩ := h
  obtain ⟨a, c, rfl, _⟩ := h1.ints.shape
  obtain ⟨a2, c2, rfl, _⟩ := SlD.shape h2
  obtain ⟨a3, c3, rfl, _⟩ := SlD.shape h3
  exact ⟨_, _, _, _, _, _, rfl⟩

theorem ext_store {w wB : World} {rc : Nat} (hg : Ext w wB) (hrc : w.heap.size ≤ rc) (k : Nat) (v : Value) : Ext w (wB.setCell ⟨rc, k, none⟩ v) :=
  grown_own hg ⟨rfl, rfl, rfl, by simp [World.setCell], fun j _ hj => Below.heap_setCell _ _ _ _ (by intro e; exact hj (by rw [e]))⟩ (q := some rc) (fun j hj hlt => by cases hj; omega)

/-- a struct of three cells that may be written -/
def Box3 (W : World) (b : Nat) (x0 x1 x2 : Value) : Prop :=
  b < W.heap.size ∧ W.cell? ⟨b, 0, none⟩ = some x0 ∧ W.cell? ⟨b, 1, none⟩ = some x1 ∧ W.cell? ⟨b, 2, none⟩ = some x2 ∧ ∀ k, W.frozen? ⟨b, k, none⟩ = false
theorem Box3.ext {W W' : World} {b : Nat} {x0 x1 x2 : Value} (h : Box3 W b x0 x1 x2) (hg : Ext W W') : Box3 W' b x0 x1 x2 := by
  obtain ⟨h0, h1, h2, h3, h4⟩ := h
  exact ⟨Nat.lt_of_lt_of_le h0 hg.size, hg.cell h1 (by simp), hg.cell h2 (by simp), hg.cell h3 (by simp), fun k => (World.frozen?_of_block (w := W) (hg.block b h0 (by simp))).trans (h4 k)⟩
theorem Box3.far {W : World} {b c j : Nat} {x0 x1 x2 v : Value} (h : Box3 W b x0 x1 x2) (hne : b ≠ c) : Box3 (W.setCell ⟨c, j, none⟩ v) b x0 x1 x2 := by
  obtain ⟨h0, h1, h2, h3, h4⟩ := h
  have e : (W.setCell ⟨c, j, none⟩ v).heap[b]? = W.heap[b]? := Below.heap_setCell _ _ _ _ (by simpa using hne)
  exact ⟨by simpa [World.setCell] using h0, (World.cell?_of_block (w := W) e).trans h1, (World.cell?_of_block (w := W) e).trans h2, (World.cell?_of_block (w := W) e).trans h3, fun k => (World.frozen?_of_block (w := W) e).trans (h4 k)⟩
theorem Box3.put {W : World} {b : Nat} {x0 x1 x2 : Value} (h : Box3 W b x0 x1 x2) (v : Value) :
    Box3 (W.setCell ⟨b, 0, none⟩ v) b v x1 x2 ∧ Box3 (W.setCell ⟨b, 1, none⟩ v) b x0 v x2 ∧ Box3 (W.setCell ⟨b, 2, none⟩ v) b x0 x1 v := by
  obtain ⟨h0, h1, h2, h3, h4⟩ := h
  have hs : ∀ k, b < (W.setCell ⟨b, k, none⟩ v).heap.size := fun k => by simpa [World.setCell] using h0
  refine ⟨⟨hs 0, World.cell?_setCell_same _ _ _ h1, ?_, ?_, fun k => by simp [h4]⟩, ⟨hs 1, ?_, World.cell?_setCell_same _ _ _ h2, ?_, fun k => by simp [h4]⟩, ⟨hs 2, ?_, ?_, World.cell?_setCell_same _ _ _ h3, fun k => by simp [h4]⟩⟩
  all_goals first
    | exact (World.cell?_setCell_other _ _ _ _ (by simp)).trans h1
    | exact (World.cell?_setCell_other _ _ _ _ (by simp)).trans h2
    | exact (World.cell?_setCell_other _ _ _ _ (by simp)).trans h3
theorem Box3.made (w : World) (T : Nat) (x0 x1 x2 : Value) : Box3 (w.alloc (.cells #[x0, x1, x2] T)) w.heap.size x0 x1 x2 := by
  refine ⟨by simp, ?_, ?_, ?_, fun k => World.frozen?_alloc_at _ _ _ _ rfl⟩ <;> (rw [World.cell?_alloc_at _ _ _ _ rfl]; rfl)

/-- only blocks in F have turned -/
structure Touch (F : Nat → Prop) (w w' : World) : Prop where
  os : w'.os = w.os
  tape : w'.tape = w.tape
  output : w'.output = w.output
  size : w.heap.size ≤ w'.heap.size
  block : ∀ k, k < w.heap.size → ¬ F k → w'.heap[k]? = w.heap[k]?
theorem Touch.refl (F : Nat → Prop) (w : World) : Touch F w w := ⟨rfl, rfl, rfl, Nat.le_refl _, fun _ _ _ => rfl⟩
theorem Touch.of {F : Nat → Prop} {w w' : World} {r : Option Nat} (h : w.grownBy w' r) (hr : ∀ k, r = some k → F k) : Touch F w w' :=
  ⟨h.os, h.tape, h.output, h.size, fun k hk hF => h.block k hk (fun e => hF (hr k e.symm))⟩
theorem Touch.trans {F F1 F2 : Nat → Prop} {a b c : World} (h : Touch F1 a b) (k : Touch F2 b c) (h1 : ∀ i, F1 i → F i) (h2 : ∀ i, F2 i → F i) : Touch F a c :=
  ⟨k.os.trans h.os, k.tape.trans h.tape, k.output.trans h.output, Nat.le_trans h.size k.size,
   fun i hi hF => (k.block i (Nat.lt_of_lt_of_le hi h.size) (fun e => hF (h2 i e))).trans (h.block i hi (fun e => hF (h1 i e)))⟩
/-- blocks behind a world may turn -/
theorem Touch.ext {F : Nat → Prop} {w w1 w2 : World} (h : Ext w w1) (k : Touch F w1 w2) (hF : ∀ i, F i → w.heap.size ≤ i) : Ext w w2 :=
  ⟨k.os.trans h.os, k.tape.trans h.tape, k.output.trans h.output, Nat.le_trans h.size k.size,
   fun i hi _ => (k.block i (Nat.lt_of_lt_of_le hi h.size) (fun e => by have := hF i e; omega)).trans (h.block i hi (by simp))⟩
theorem Touch.frame {F S : Nat → Prop} {w w' : World} (h : Touch F w w') (hS : ∀ k, S k → ¬ F k) : ∀ k, S k → k < w.heap.size → S k ∧ k < w'.heap.size ∧ w'.heap[k]? = w.heap[k]? :=
  fun k hk hlt => ⟨hk, Nat.lt_of_lt_of_le hlt h.size, h.block k hlt (hS k hk)⟩
theorem Touch.cell {F : Nat → Prop} {w w' : World} (h : Touch F w w') {a : Addr} {v : Value} (hc : w.cell? a = some v) (hF : ¬ F a.block) : w'.cell? a = some v :=
  (World.cell?_of_block (h.block a.block (World.block_lt_of_cell? w a hc) hF)).trans hc

/-- a slice whose elements lie in blocks that are named -/
def SlG {α : Type} [Inhabited α] (El : (Nat → Prop) → World → Value → α → Prop) (G : Nat → Nat → Prop) (H : Nat → Prop) (w : World) (v : Value) (xs : List α) : Prop :=
  ∃ a cap, v = .slice a xs.length cap ∧ (xs.length ≤ cap ∧ xs.length ≤ 9223372036854775807 ∧ (a = none → cap = 0)) ∧
      ∀ i, i < xs.length → ∃ b off u, a = some ⟨b, off, none⟩ ∧ H b ∧ b < w.heap.size ∧ w.cell? ⟨b, off + i, none⟩ = some u ∧ El (G i) w u (gt xs i)
def Apart (F : Nat → Prop) (G : Nat → Nat → Prop) (H : Nat → Prop) (n : Nat) : Prop :=
  (∀ k, H k → F k) ∧ (∀ i k, i < n → G i k → F k ∧ ¬ H k) ∧ (∀ i j k, i < n → j < n → G i k → G j k → i = j)
theorem SlD.g {α : Type} [Inhabited α] {El : (Nat → Prop) → World → Value → α → Prop} {F : Nat → Prop} {w : World} {v : Value} {xs : List α} (h : SlD El F w v xs) : ∃ G H, Apart F G H xs.length ∧ SlG El G H w v xs := by
  obtain ⟨G, H, h1, h2, h3, r⟩ := h
  exact ⟨G, H, ⟨h1, h2, h3⟩, r⟩
theorem SlG.d {α : Type} [Inhabited α] {El : (Nat → Prop) → World → Value → α → Prop} {F : Nat → Prop} {G : Nat → Nat → Prop} {H : Nat → Prop} {w : World} {v : Value} {xs : List α} (h : SlG El G H w v xs) (hA : Apart F G H xs.length) : SlD El F w v xs :=
  ⟨G, H, hA.1, hA.2.1, hA.2.2, h⟩

/-- one element is turned -/
theorem SlG.turn {α : Type} [Inhabited α] {El : (Nat → Prop) → World → Value → α → Prop} (hEl : RdOk El) {F : Nat → Prop} {G : Nat → Nat → Prop} {H : Nat → Prop} {w w' : World} {b off n cap j : Nat} {u : Value} {y : α} {xs : List α}
    (hA : Apart F G H n) (hn : xs.length = n) (h : SlG El G H w (.slice (some ⟨b, off, none⟩) n cap) xs) (hj : j < n) (hc : w.cell? ⟨b, off + j, none⟩ = some u) (ht : Touch (G j) w w') (hy : El (G j) w' u y) :
    SlG El G H w' (.slice (some ⟨b, off, none⟩) n cap) (xs.set j y) := by
  obtain ⟨a', cap', hv, hl, hcell⟩ := h
  cases hv
  refine ⟨_, cap, by rw [List.length_set], by rw [List.length_set]; exact hl, fun i hi => ?_⟩
  rw [List.length_set] at hi
  obtain ⟨b2, off2, u2, e1, e2, e3, e4, e5⟩ := hcell i hi
  cases e1
  have hnb : ¬ G j b := fun h => (hA.2.1 j b hj h).2 e2
  by_cases e : j = i
  · subst e
    rw [gt_set_eq _ _ _ hi]
    exact ⟨b, off, u, rfl, e2, Nat.lt_of_lt_of_le e3 ht.size, ht.cell hc hnb, hy⟩
  · rw [gt_set_ne _ _ _ _ e]
    exact ⟨b, off, u2, rfl, e2, Nat.lt_of_lt_of_le e3 ht.size, ht.cell e4 hnb, hEl.mono e5 (ht.frame (fun k hk hk' => e (hA.2.2 i j k (by omega) hj hk hk').symm))⟩

/-- what a law over one presentation and one list keeps in view -/
structure St (P : Pr) (w W : World) (vo vp vc uo up uc r g : Value) (bx : Nat) (FX FR FG : Nat → Prop) (l l' : List Int) : Prop where
  a : Ext w W
  b : Box3 W w.heap.size vo vp vc
  x : Box3 W bx uo up uc
  p : PresW FX W (.agg #[uo, up, uc]) P
  r : OwnIn FR W r l
  g : OwnIn FG W g l'

theorem St.ext {P : Pr} {w W W' : World} {vo vp vc uo up uc r g : Value} {bx : Nat} {FX FR FG : Nat → Prop} {l l' : List Int} (h : St P w W vo vp vc uo up uc r g bx FX FR FG l l') (hg : Ext W W') : St P w W' vo vp vc uo up uc r g bx FX FR FG l l' :=
  ⟨grown_trans h.a hg, h.b.ext hg, h.x.ext hg, h.p.ext hg, rdOwn.mono h.r (frame_ext hg), rdOwn.mono h.g (frame_ext hg)⟩

end Go.Proofs.YtdklekdpdbjfiaaGreat

/- The laws' measure of an argument: laws.szInt64S, szInt64SS, szInt64SSS, szPresentation. -/
namespace Go.Proofs.YtdklekdpdbjfiaaGreat
open Go.RowKit

/-- what a measure answers: what is left, or -1 -/
def SzR (L : Int) (n : Nat) (v : Value) : Prop := ((n : Int) ≤ L ∧ v = .int .i64 (L - n)) ∨ (L < n ∧ v = .int .i64 (-1))

set_option maxHeartbeats 400000 in
theorem szInt64S_ok (v : Value) (l : List Int) (L : Int) (w : World) (S : Nat → Prop) (h : Ints S w v l) (hL : 0 ≤ L ∧ L ≤ 1048576) :
    Calls Tryz.prog 57 #[v, .int .i64 L] w (Ret w fun _ r => SzR L l.length r) := by
  obtain ⟨a, cap, rfl, _, hlen⟩ := h.shape
  have hwr : IntKind.i64.wrap (L - (l.length : Int)) = L - l.length := IntWalk.i64_in _ (by omega)
  by_cases hc : (l.length : Int) ≤ L
  · have h0 : ¬ (L - (l.length : Int) < 0) := by omega
    have h1 : 0 ≤ L - (l.length : Int) := by omega
    go_enter Tryz.func57, Tryz.ntmps57
    go_wp2
    go_ret
    exact ⟨_, rfl, Ext.refl _, .inl ⟨hc, rfl⟩⟩
  · have h0 : L - (l.length : Int) < 0 := by omega
    go_enter Tryz.func57, Tryz.ntmps57
    go_wp2
    go_ret
    exact ⟨_, rfl, Ext.refl _, .inr ⟨by omega, rfl⟩⟩

-- rows

set_option maxHeartbeats 1000000 in
theorem szInt64SS_ok (v : Value) (xs : List (List Int)) (L : Int) (w : World) (S : Nat → Prop) (h : Rows2 S w v xs) (hL : 0 ≤ L ∧ L ≤ 1048576) :
    Calls Tryz.prog 51 #[v, .int .i64 L] w (Ret w fun _ r => SzR L (size2 xs) r) := by
  obtain ⟨a, cap, rfl, _, hlen⟩ := Sl.shape h
  have hwr : IntKind.i64.wrap (L - (xs.length : Int)) = L - xs.length := IntWalk.i64_in _ (by omega)
  by_cases hc : (xs.length : Int) ≤ L
  · have h0 : ¬ (L - (xs.length : Int) < 0) := by omega
    have h1 : 0 ≤ L - (xs.length : Int) := by omega
    go_enter Tryz.func51, Tryz.ntmps51
    go_wp2
    clear hwr h0 h1
    go_loopw [1, 5] (fun lv iv wr => ∃ k : Nat, iv = .int .i64 k ∧ lv = .int .i64 (L - xs.length - szTo List.length xs k) ∧ k ≤ xs.length ∧ Ext w wr ∧ 0 ≤ L - xs.length - szTo List.length xs k) (fun _ iv _ => xs.length - (intOf iv).toNat)
    case atStart => exact ⟨0, rfl, by simp [szTo], by omega, Ext.refl _, by simp [szTo]; omega⟩
    case round =>
      obtain ⟨k, rfl, rfl, hk, hg, hp⟩ := hrel
      by_cases hlt : k < xs.length
      · obtain ⟨b, off, a2, cap2, rfl, _, _, hc2, hi2⟩ := Rows2.at ((Rows2.ext h hg)) k hlt
        have hm := szTo_mono List.length xs (show k + 1 ≤ xs.length by omega)
        have hsz : L - xs.length - szTo List.length xs k ≤ 1048576 := by omega
        have HH := Lib.hid (And.intro hm hsz); clear hm hsz
        go_wp2_with fail
        refine Calls.mono (szInt64S_ok _ _ (L - xs.length - szTo List.length xs k) wr S hi2 ⟨hp, HH.out.2⟩) ?_
        rintro eA wA ⟨vA, rfl, hgA, ⟨hA, rfl⟩ | ⟨hA, rfl⟩⟩
        · have h0 : ¬ (L - xs.length - szTo List.length xs k - (List.length (gt xs k) : Nat) < 0) := by omega
          have h1 : 0 ≤ L - xs.length - szTo List.length xs k - (List.length (gt xs k) : Nat) := by omega
          clear hc2 hi2 hA
          go_wp2
          go_roundw
          case rel => exact ⟨k + 1, by go_num, by simp [szTo]; omega, by omega, grown_trans hg hgA, by simp [szTo]; omega⟩
          case measure => simp [intOf]; omega
        · clear hc2 hi2
          go_wp2
          go_ret
          exact ⟨_, rfl, grown_trans hg hgA, .inr ⟨by
            have h3 := HH.out.1
            simp only [szTo] at h3
            unfold size2; omega, rfl⟩⟩
      · have hke : k = xs.length := by omega
        subst hke
        go_wp2
        go_ret
        exact ⟨_, rfl, hg, .inl ⟨by unfold size2; omega, congrArg (Value.int .i64) (by unfold size2; omega)⟩⟩
  · have h0 : L - (xs.length : Int) < 0 := by omega
    go_enter Tryz.func51, Tryz.ntmps51
    go_wp2
    go_ret
    exact ⟨_, rfl, Ext.refl _, .inr ⟨by unfold size2; omega, rfl⟩⟩

set_option maxHeartbeats 1000000 in
theorem szInt64SSS_ok (v : Value) (xs : List (List (List Int))) (L : Int) (w : World) (S : Nat → Prop) (h : Rows3 S w v xs) (hL : 0 ≤ L ∧ L ≤ 1048576) :
    Calls Tryz.prog 16 #[v, .int .i64 L] w (Ret w fun _ r => SzR L (size3 xs) r) := by
  obtain ⟨a, cap, rfl, _, hlen⟩ := Sl.shape h
  have hwr : IntKind.i64.wrap (L - (xs.length : Int)) = L - xs.length := IntWalk.i64_in _ (by omega)
  by_cases hc : (xs.length : Int) ≤ L
  · have h0 : ¬ (L - (xs.length : Int) < 0) := by omega
    have h1 : 0 ≤ L - (xs.length : Int) := by omega
    go_enter Tryz.func16, Tryz.ntmps16
    go_wp2
    clear hwr h0 h1
    go_loopw [1, 5] (fun lv iv wr => ∃ k : Nat, iv = .int .i64 k ∧ lv = .int .i64 (L - xs.length - szTo size2 xs k) ∧ k ≤ xs.length ∧ Ext w wr ∧ 0 ≤ L - xs.length - szTo size2 xs k) (fun _ iv _ => xs.length - (intOf iv).toNat)
    case atStart => exact ⟨0, rfl, by simp [szTo], by omega, Ext.refl _, by simp [szTo]; omega⟩
    case round =>
      obtain ⟨k, rfl, rfl, hk, hg, hp⟩ := hrel
      by_cases hlt : k < xs.length
      · obtain ⟨b, off, a2, cap2, rfl, _, _, hc2, hi2⟩ := Rows3.at ((Rows3.ext h hg)) k hlt
        have hm := szTo_mono size2 xs (show k + 1 ≤ xs.length by omega)
        have hsz : L - xs.length - szTo size2 xs k ≤ 1048576 := by omega
        have HH := Lib.hid (And.intro hm hsz); clear hm hsz
        go_wp2_with fail
        refine Calls.mono (szInt64SS_ok _ _ (L - xs.length - szTo size2 xs k) wr S hi2 ⟨hp, HH.out.2⟩) ?_
        rintro eA wA ⟨vA, rfl, hgA, ⟨hA, rfl⟩ | ⟨hA, rfl⟩⟩
        · have h0 : ¬ (L - xs.length - szTo size2 xs k - (size2 (gt xs k) : Nat) < 0) := by omega
          have h1 : 0 ≤ L - xs.length - szTo size2 xs k - (size2 (gt xs k) : Nat) := by omega
          clear hc2 hi2 hA
          go_wp2
          go_roundw
          case rel => exact ⟨k + 1, by go_num, by simp [szTo]; omega, by omega, grown_trans hg hgA, by simp [szTo]; omega⟩
          case measure => simp [intOf]; omega
        · clear hc2 hi2
          go_wp2
          go_ret
          exact ⟨_, rfl, grown_trans hg hgA, .inr ⟨by
            have h3 := HH.out.1
            simp only [szTo] at h3
            unfold size3; omega, rfl⟩⟩
      · have hke : k = xs.length := by omega
        subst hke
        go_wp2
        go_ret
        exact ⟨_, rfl, hg, .inl ⟨by unfold size3; omega, congrArg (Value.int .i64) (by unfold size3; omega)⟩⟩
  · have h0 : L - (xs.length : Int) < 0 := by omega
    go_enter Tryz.func16, Tryz.ntmps16
    go_wp2
    go_ret
    exact ⟨_, rfl, Ext.refl _, .inr ⟨by unfold size3; omega, rfl⟩⟩

set_option maxHeartbeats 1000000 in
theorem szPresentation_ok (v : Value) (P : Pr) (L : Int) (w : World) (S : Nat → Prop) (h : PresV S w v P) (hL : 0 ≤ L ∧ L ≤ 1048576) :
    Calls Tryz.prog 15 #[v, .int .i64 L] w (Ret w fun _ r => SzR L (sizeP P) r) := by
  obtain ⟨vo, vp, vc, rfl, h3⟩ := h
  have hp0 := PresP.box h3 26
  have hg0 : Ext w (w.alloc (.cells #[vo, vp, vc] 26)) := World.grownBy_alloc _ _ _
  go_enter Tryz.func15, Tryz.ntmps15
  go_wp2_with fail
  refine Calls.mono (szInt64S_ok _ _ L _ _ (h3.o.ext hg0) hL) ?_
  rintro eA wA ⟨vA, rfl, hgA, ⟨hA, rfl⟩ | ⟨hA, rfl⟩⟩
  · obtain ⟨vo5, vp5, vc5, _, _, hb1, hb2A, hb3A, h3r⟩ := (hp0.ext hgA).at
    simp at hb2A hb3A
    have h0 : ¬ (L - (P.orders.length : Int) < 0) := by omega
    have h1 : 0 ≤ L - (P.orders.length : Int) := by omega
    clear hb1
    go_wp2_with fail
    refine Calls.mono (szInt64SS_ok _ _ (L - (P.orders.length : Int)) _ _ h3r.p (by omega)) ?_
    rintro eB wB ⟨vB, rfl, hgB, ⟨hB, rfl⟩ | ⟨hB, rfl⟩⟩
    · have hb3B := hgB.cell hb3A (by simp)
      have h2 : ¬ (L - (P.orders.length : Int) - (size2 P.powers : Nat) < 0) := by omega
      have h4 : 0 ≤ L - (P.orders.length : Int) - (size2 P.powers : Nat) := by omega
      clear hb2A hb3A h0 h1
      go_wp2_with fail
      refine Calls.mono (szInt64SSS_ok _ _ (L - (P.orders.length : Int) - (size2 P.powers : Nat)) _ _ (Rows3.ext h3r.c hgB) (by omega)) ?_
      rintro eC wC ⟨vC, rfl, hgC, ⟨hC, rfl⟩ | ⟨hC, rfl⟩⟩
      · have h5 : ¬ (L - (P.orders.length : Int) - (size2 P.powers : Nat) - (size3 P.conj : Nat) < 0) := by omega
        have h6 : 0 ≤ L - (P.orders.length : Int) - (size2 P.powers : Nat) - (size3 P.conj : Nat) := by omega
        clear hb3B h2 h4
        go_wp2
        go_ret
        exact ⟨_, rfl, grown_trans hg0 (grown_trans hgA (grown_trans hgB hgC)), .inl ⟨by unfold sizeP; omega, congrArg (Value.int .i64) (by unfold sizeP; omega)⟩⟩
      · go_wp2
        go_ret
        exact ⟨_, rfl, grown_trans hg0 (grown_trans hgA (grown_trans hgB hgC)), .inr ⟨by unfold sizeP; omega, rfl⟩⟩
    · go_wp2
      go_ret
      exact ⟨_, rfl, grown_trans hg0 (grown_trans hgA hgB), .inr ⟨by unfold sizeP; omega, rfl⟩⟩
  · go_wp2
    go_ret
    exact ⟨_, rfl, grown_trans hg0 hgA, .inr ⟨by unfold sizeP; omega, rfl⟩⟩

end Go.Proofs.YtdklekdpdbjfiaaGreat

/- The laws' copies of an argument: laws.toInt64S, toInt64SS, toInt64SSS, toPresentation: each part in blocks of its own. -/
namespace Go.Proofs.YtdklekdpdbjfiaaGreat
open Go.RowKit

set_option maxHeartbeats 400000 in
theorem toInt64S_ok (v : Value) (l : List Int) (w : World) (S : Nat → Prop) (h : Ints S w v l) (hl : l.length ≤ 1048576) :
    Calls Tryz.prog 26 #[v] w (Ret w fun w' r => Own w.heap.size w' r l) := by
  obtain ⟨a, cap, rfl, _, hlen⟩ := h.shape
  go_enter Tryz.func26, Tryz.ntmps26
  go_wp2_with (at_make; refine wp_make_ints rfl _ _ rfl w.heap.size l.length w.heap.size rfl _ rfl rfl rfl (by omega) (Nat.le_refl _) ?_; intro w1 ho1 hg1 hlt1)
  rw [← cpTo_zero] at ho1
  go_loopw [4] (fun iv wr => ∃ k : Nat, iv = .int .i64 k ∧ k ≤ l.length ∧ Ext w wr ∧ Own w.heap.size wr (.slice (some ⟨w.heap.size, 0, none⟩) l.length l.length) (cpTo l 0 k)) (fun iv _ => l.length - (intOf iv).toNat)
  case atStart => exact ⟨0, rfl, by omega, hg1, ho1⟩
  case round =>
    obtain ⟨k, rfl, hk, hg, hO⟩ := hrel
    by_cases hlt : k < l.length
    · obtain ⟨b, off, rfl, _, hbl, hc⟩ := Ints.at (h.ext hg) k hlt
      have hcw := hO.cell k (by rw [cpTo_len _ _ _ hk]; exact hlt)
      have hfr := hO.frozen k
      obtain ⟨hs1, hs2⟩ := hO.store k (gt l k)
      have hgn : Ext w (wr.setCell ⟨w.heap.size, k, none⟩ (.int .i64 (gt l k))) := grown_own hg hs2 (fun j hj hlt => by cases hj; omega)
      rw [cpTo_step l 0 k hlt] at hs1
      clear hs2
      go_wp2
      go_roundw
      case rel => exact ⟨k + 1, by go_num, by omega, hgn, hs1⟩
      case measure => simp [intOf]; omega
    · have hke : k = l.length := by omega
      subst hke
      rw [cpTo_all] at hO
      go_wp2
      go_ret
      exact ⟨_, rfl, hg, hO⟩

-- rows

set_option maxHeartbeats 1000000 in
theorem toInt64SS_ok (v : Value) (xs : List (List Int)) (w : World) (S : Nat → Prop) (h : Rows2 S w v xs) (hl : size2 xs ≤ 1048576) :
    Calls Tryz.prog 53 #[v] w (Ret w fun w' r => SlO OwnIn 22 w.heap.size w' r xs) := by
  obtain ⟨a, cap, rfl, _, hlen⟩ := Sl.shape h
  have hlx : xs.length ≤ 1048576 := by unfold size2 at hl; omega
  have hsub : ∀ k, k < xs.length → List.length (gt xs k) ≤ 1048576 := fun k hk => by
    have := szTo_mono List.length xs (show k + 1 ≤ xs.length by omega)
    simp only [szTo] at this
    unfold size2 at hl; omega
  have HS := Lib.hid hsub; clear hsub hl
  go_enter Tryz.func53, Tryz.ntmps53
  go_wp2_with (at_make; refine wp_make_sl (El := OwnIn) 23 22 und_rows Tryz.infoRow (fun w => OwnIn.nil _ w) rfl _ _ rfl w.heap.size xs.length w.heap.size rfl _ rfl rfl rfl (by omega) (Nat.le_refl _) ?_; intro w1 ho1 hg1 hlt1)
  rw [← cpTo_zero] at ho1
  go_loopw [4] (fun iv wr => ∃ k : Nat, iv = .int .i64 k ∧ k ≤ xs.length ∧ Ext w wr ∧ SlO OwnIn 22 w.heap.size wr (.slice (some ⟨w.heap.size, 0, none⟩) xs.length xs.length) (cpTo xs [] k)) (fun iv _ => xs.length - (intOf iv).toNat)
  case atStart => exact ⟨0, rfl, by omega, hg1, ho1⟩
  case round =>
    obtain ⟨k, rfl, hk, hg, hO⟩ := hrel
    by_cases hlt : k < xs.length
    · obtain ⟨b, off, a2, cap2, rfl, _, _, hc2, hi2⟩ := Rows2.at (Rows2.ext h hg) k hlt
      go_wp2_with fail
      refine Calls.mono (toInt64S_ok _ _ wr S hi2 (HS.out k hlt)) ?_
      rintro eA wA ⟨vA, rfl, hgA, hA⟩
      have hEl := OwnIn.of (F := From wr.heap.size) hA (by have := HS.out k hlt; omega) (fun j hj _ => hj)
      obtain ⟨aA, capA, rfl, _, _⟩ := hEl.ints.shape
      obtain ⟨⟨z, hcw⟩, hfr⟩ := (hO.ext rdOwn hgA).place k (by rw [cpTo_len _ _ _ hk]; exact hlt)
      obtain ⟨hs1, hs2⟩ := hO.store rdOwn hgA hEl k
      have hgn : Ext w (wA.setCell ⟨w.heap.size, k, none⟩ (.slice aA (gt xs k).length capA)) := grown_own (grown_trans hg hgA) hs2 (fun j hj hlt => by cases hj; omega)
      rw [cpTo_step xs [] k hlt] at hs1
      clear hs2 hc2 hi2 hA hEl hO
      go_wp2
      go_roundw
      case rel => exact ⟨k + 1, by go_num, by omega, hgn, hs1⟩
      case measure => simp [intOf]; omega
    · have hke : k = xs.length := by omega
      subst hke
      rw [cpTo_all] at hO
      go_wp2
      go_ret
      exact ⟨_, rfl, hg, hO⟩

set_option maxHeartbeats 1000000 in
theorem toInt64SSS_ok (v : Value) (xs : List (List (List Int))) (w : World) (S : Nat → Prop) (h : Rows3 S w v xs) (hl : size3 xs ≤ 1048576) :
    Calls Tryz.prog 19 #[v] w (Ret w fun w' r => SlO (fun F w u (x : List (List Int)) => RowsW F w u x) 23 w.heap.size w' r xs) := by
  obtain ⟨a, cap, rfl, _, hlen⟩ := Sl.shape h
  have hlx : xs.length ≤ 1048576 := by unfold size3 at hl; omega
  have hsub : ∀ k, k < xs.length → size2 (gt xs k) ≤ 1048576 := fun k hk => by
    have := szTo_mono size2 xs (show k + 1 ≤ xs.length by omega)
    simp only [szTo] at this
    unfold size3 at hl; omega
  have HS := Lib.hid hsub; clear hsub hl
  go_enter Tryz.func19, Tryz.ntmps19
  go_wp2_with (at_make; refine wp_make_sl (El := (fun F w u (x : List (List Int)) => RowsW F w u x)) 24 23 und_rows3 Tryz.infoRows (fun w => SlD.nil _ _ w) rfl _ _ rfl w.heap.size xs.length w.heap.size rfl _ rfl rfl rfl (by omega) (Nat.le_refl _) ?_; intro w1 ho1 hg1 hlt1)
  rw [← cpTo_zero] at ho1
  go_loopw [4] (fun iv wr => ∃ k : Nat, iv = .int .i64 k ∧ k ≤ xs.length ∧ Ext w wr ∧ SlO (fun F w u (x : List (List Int)) => RowsW F w u x) 23 w.heap.size wr (.slice (some ⟨w.heap.size, 0, none⟩) xs.length xs.length) (cpTo xs [] k)) (fun iv _ => xs.length - (intOf iv).toNat)
  case atStart => exact ⟨0, rfl, by omega, hg1, ho1⟩
  case round =>
    obtain ⟨k, rfl, hk, hg, hO⟩ := hrel
    by_cases hlt : k < xs.length
    · obtain ⟨b, off, a2, cap2, rfl, _, _, hc2, hi2⟩ := Rows3.at (Rows3.ext h hg) k hlt
      go_wp2_with fail
      refine Calls.mono (toInt64SS_ok _ _ wr S hi2 (HS.out k hlt)) ?_
      rintro eA wA ⟨vA, rfl, hgA, hA⟩
      have hEl := SlO.toD hA (by have := HS.out k hlt; unfold size2 at this; omega)
      obtain ⟨aA, capA, rfl, _, _⟩ := SlD.shape hEl
      obtain ⟨⟨z, hcw⟩, hfr⟩ := (hO.ext rdRowsW hgA).place k (by rw [cpTo_len _ _ _ hk]; exact hlt)
      obtain ⟨hs1, hs2⟩ := hO.store rdRowsW hgA hEl k
      have hgn : Ext w (wA.setCell ⟨w.heap.size, k, none⟩ (.slice aA (gt xs k).length capA)) := grown_own (grown_trans hg hgA) hs2 (fun j hj hlt => by cases hj; omega)
      rw [cpTo_step xs [] k hlt] at hs1
      clear hs2 hc2 hi2 hA hEl hO
      go_wp2
      go_roundw
      case rel => exact ⟨k + 1, by go_num, by omega, hgn, hs1⟩
      case measure => simp [intOf]; omega
    · have hke : k = xs.length := by omega
      subst hke
      rw [cpTo_all] at hO
      go_wp2
      go_ret
      exact ⟨_, rfl, hg, hO⟩

end Go.Proofs.YtdklekdpdbjfiaaGreat

/- laws.toPresentation: a copy of a presentation, each part in blocks of its own. -/
namespace Go.Proofs.YtdklekdpdbjfiaaGreat
open Go.RowKit

set_option maxRecDepth 100000 in
set_option maxHeartbeats 4000000 in
theorem toPresentation_ok (v : Value) (P : Pr) (w : World) (S : Nat → Prop) (h : PresV S w v P) (hl : sizeP P ≤ 1048576) :
    Calls Tryz.prog 18 #[v] w (Ret w fun w' r => PresW (From w.heap.size) w' r P) := by
  obtain ⟨vo, vp, vc, rfl, h3⟩ := h
  have hso : P.orders.length ≤ 1048576 := by unfold sizeP at hl; omega
  have hsp : size2 P.powers ≤ 1048576 := by unfold sizeP at hl; omega
  have hsc : size3 P.conj ≤ 1048576 := by unfold sizeP at hl; omega
  have HS := Lib.hid (And.intro hso (And.intro hsp hsc)); clear hso hsp hsc hl
  go_enter Tryz.func18, Tryz.ntmps18
  have hg0 : Ext w (((w.alloc (.cells #[vo, vp, vc] 26)).alloc (.cells #[.slice none 0 0, .slice none 0 0, .slice none 0 0] 31)).alloc (.cells #[.slice none 0 0, .slice none 0 0, .slice none 0 0] 31)) :=
    grown_trans (World.grownBy_alloc _ _ _) (grown_trans (World.grownBy_alloc _ _ _) (World.grownBy_alloc _ _ _))
  have hA0 : Box3 (((w.alloc (.cells #[vo, vp, vc] 26)).alloc (.cells #[.slice none 0 0, .slice none 0 0, .slice none 0 0] 31)).alloc (.cells #[.slice none 0 0, .slice none 0 0, .slice none 0 0] 31)) w.heap.size vo vp vc :=
    ((Box3.made w _ vo vp vc).ext (World.grownBy_alloc _ _ _)).ext (World.grownBy_alloc _ _ _)
  have hR0 := (Box3.made (w.alloc (.cells #[vo, vp, vc] 26)) 31 (.slice none 0 0) (.slice none 0 0) (.slice none 0 0)).ext (World.grownBy_alloc _ (.cells #[.slice none 0 0, .slice none 0 0, .slice none 0 0] 31) _)
  have hO0 := Box3.made ((w.alloc (.cells #[vo, vp, vc] 26)).alloc (.cells #[.slice none 0 0, .slice none 0 0, .slice none 0 0] 31)) 31 (.slice none 0 0) (.slice none 0 0) (.slice none 0 0)
  have hs1 : (w.alloc (.cells #[vo, vp, vc] 26)).heap.size = w.heap.size + 1 := by simp
  have hs2 : ((w.alloc (.cells #[vo, vp, vc] 26)).alloc (.cells #[.slice none 0 0, .slice none 0 0, .slice none 0 0] 31)).heap.size = w.heap.size + 1 + 1 := by simp
  rw [hs1] at hR0
  rw [hs2] at hO0
  have HB := Lib.hid (And.intro hA0 (And.intro hR0 hO0)); clear hA0 hR0 hO0 hs1 hs2
  go_wp2_with fail
  generalize hw0 : ((w.alloc (.cells #[vo, vp, vc] 26)).alloc (.cells #[.slice none 0 0, .slice none 0 0, .slice none 0 0] 31)).alloc (.cells #[.slice none 0 0, .slice none 0 0, .slice none 0 0] 31) = w0 at *
  clear hw0
  have hsz0 : w.heap.size + 1 + 1 < w0.heap.size := HB.out.2.2.1
  refine Calls.mono (toInt64S_ok _ _ _ _ (h3.o.ext hg0) HS.out.1) ?_
  rintro eA wA ⟨vA, rfl, hgA, hA⟩
  have hAi := hA.ints (by have := HS.out.1; omega)
  obtain ⟨aA, capA, rfl, _, _⟩ := hAi.shape
  clear hAi
  have a1 := (HB.out.1.ext hgA)
  have r1 := (HB.out.2.1.ext hgA)
  have o1 := (HB.out.2.2.ext hgA)
  have hgwA := grown_trans hg0 hgA
  have hgw1 := ext_store hgwA (show w.heap.size ≤ w.heap.size + 1 + 1 by omega) 0 (.slice aA P.orders.length capA)
  have hlA := hgA.size
  have o2 := (o1.put (.slice aA P.orders.length capA)).1
  have a2 := a1.far (c := w.heap.size + 1 + 1) (j := 0) (v := .slice aA P.orders.length capA) (by omega)
  have r2 := r1.far (c := w.heap.size + 1 + 1) (j := 0) (v := .slice aA P.orders.length capA) (by omega)
  have hA2 : OwnIn (fun k => w0.heap.size ≤ k ∧ k < wA.heap.size) (wA.setCell ⟨w.heap.size + 1 + 1, 0, none⟩ (.slice aA P.orders.length capA)) (.slice aA P.orders.length capA) P.orders :=
    rdOwn.mono (OwnIn.of (F := fun k => w0.heap.size ≤ k ∧ k < wA.heap.size) hA (by have := HS.out.1; omega) (fun k h1 h2 => ⟨h1, h2⟩)) (fun k hk hlt => ⟨hk, by simpa [World.setCell] using hlt, Below.heap_setCell _ _ _ _ (by have := hk.1; simp; omega)⟩)
  have HW := Lib.hid (And.intro a2 (And.intro r2 (And.intro o2 hA2))); clear a2 r2 o2 hA2 hA
  obtain ⟨_, ca0, ca1, ca2, _⟩ := a1
  obtain ⟨_, co0, co1, co2, cof⟩ := o1
  clear r1
  go_wp2_with fail
  clear ca0 ca1 ca2 co0 co1 co2 cof
  have hszs : (wA.setCell ⟨w.heap.size + 1 + 1, 0, none⟩ (.slice aA P.orders.length capA)).heap.size = wA.heap.size := by simp [World.setCell]
  generalize wA.setCell ⟨w.heap.size + 1 + 1, 0, none⟩ (.slice aA P.orders.length capA) = w1 at *
  have HSZ := Lib.hid hszs; clear hszs
  refine Calls.mono (toInt64SS_ok _ _ _ _ (Rows2.ext h3.p hgw1) HS.out.2.1) ?_
  rintro eB wB ⟨vB, rfl, hgB, hB⟩
  have hlpp : P.powers.length ≤ 1048576 := by have := HS.out.2.1; unfold size2 at this; omega
  have hBd := SlO.toD hB (by omega)
  obtain ⟨aB, capB, rfl, _, _⟩ := SlD.shape hBd
  have a1 := (HW.out.1.ext hgB)
  have r1 := (HW.out.2.1.ext hgB)
  have o1 := (HW.out.2.2.1.ext hgB)
  have hgwB := grown_trans hgw1 hgB
  have hgw2 := ext_store hgwB (show w.heap.size ≤ w.heap.size + 1 + 1 by omega) 1 (.slice aB P.powers.length capB)
  have hlB := hgB.size
  have hsA := HSZ.out
  have o2 := (o1.put (.slice aB P.powers.length capB)).2.1
  have a2 := a1.far (c := w.heap.size + 1 + 1) (j := 1) (v := .slice aB P.powers.length capB) (by omega)
  have r2 := r1.far (c := w.heap.size + 1 + 1) (j := 1) (v := .slice aB P.powers.length capB) (by omega)
  have hA2 : OwnIn (fun k => w0.heap.size ≤ k ∧ k < wA.heap.size) (wB.setCell ⟨w.heap.size + 1 + 1, 1, none⟩ (.slice aB P.powers.length capB)) (.slice aA P.orders.length capA) P.orders :=
    rdOwn.mono HW.out.2.2.2 (fun k hk hlt => ⟨hk, by simp [World.setCell]; omega, (Below.heap_setCell _ _ _ _ (by have := hk.1; simp; omega)).trans (hgB.block k hlt (by simp))⟩)
  have hB2 : RowsW (fun k => w1.heap.size ≤ k ∧ k < wB.heap.size) (wB.setCell ⟨w.heap.size + 1 + 1, 1, none⟩ (.slice aB P.powers.length capB)) (.slice aB P.powers.length capB) P.powers :=
    rdRowsW.mono hBd (fun k hk hlt => ⟨⟨hk, hlt⟩, by simpa [World.setCell] using hlt, Below.heap_setCell _ _ _ _ (by have hk : w1.heap.size ≤ k := hk; simp; omega)⟩)
  have HW2 := Lib.hid (And.intro a2 (And.intro r2 (And.intro o2 (And.intro hA2 hB2)))); clear a2 r2 o2 hA2 hB2 hB hBd HW
  obtain ⟨_, ca0, ca1, ca2, _⟩ := a1
  obtain ⟨_, co0, co1, co2, cof⟩ := o1
  clear r1
  go_wp2_with fail
  clear ca0 ca1 ca2 co0 co1 co2 cof
  have hszs : (wB.setCell ⟨w.heap.size + 1 + 1, 1, none⟩ (.slice aB P.powers.length capB)).heap.size = wB.heap.size := by simp [World.setCell]
  generalize wB.setCell ⟨w.heap.size + 1 + 1, 1, none⟩ (.slice aB P.powers.length capB) = w2 at *
  have HSZ2 := Lib.hid hszs; clear hszs
  refine Calls.mono (toInt64SSS_ok _ _ _ _ (Rows3.ext h3.c hgw2) HS.out.2.2) ?_
  rintro eC wC ⟨vC, rfl, hgC, hC⟩
  have hlcc : P.conj.length ≤ 1048576 := by have := HS.out.2.2; unfold size3 at this; omega
  have hCd := SlO.toD hC (by omega)
  obtain ⟨aC, capC, rfl, _, _⟩ := SlD.shape hCd
  have a1 := (HW2.out.1.ext hgC)
  have r1 := (HW2.out.2.1.ext hgC)
  have o1 := (HW2.out.2.2.1.ext hgC)
  have hgwC := grown_trans hgw2 hgC
  have hlC := hgC.size
  have hsB := HSZ2.out
  have hg3 := ext_store hgwC (show w.heap.size ≤ w.heap.size + 1 + 1 by omega) 2 (.slice aC P.conj.length capC)
  have hA2 := HW2.out.2.2.2.1
  have hB2 := HW2.out.2.2.2.2
  clear hC HW2
  obtain ⟨_, ca0, ca1, ca2, _⟩ := a1
  obtain ⟨_, co0, co1, co2, cof⟩ := o1
  obtain ⟨_, cr0, cr1, cr2, crf⟩ := r1
  have HX := Lib.hid (And.intro hA2 (And.intro hB2 hCd)); clear hA2 hB2 hCd
  go_wp2
  refine bodyPost_ret (v := .agg #[.slice aA P.orders.length capA, .slice aB P.powers.length capB, .slice aC P.conj.length capC]) (by simp [results, Tryz.results18, go_sem, cr0, cr1, cr2]) rfl ⟨_, rfl, ext_store (ext_store (ext_store hg3 (by omega) _ _) (by omega) _ _) (by omega) _ _, ?_⟩
  have hblk : ∀ k, w.heap.size + 1 + 1 < k → ((((wC.setCell ⟨w.heap.size + 1 + 1, 2, none⟩ (.slice aC P.conj.length capC)).setCell ⟨w.heap.size + 1, 0, none⟩ (.slice aA P.orders.length capA)).setCell ⟨w.heap.size + 1, 1, none⟩ (.slice aB P.powers.length capB)).setCell ⟨w.heap.size + 1, 2, none⟩ (.slice aC P.conj.length capC)).heap[k]? = wC.heap[k]? := fun k hk => by
    rw [Below.heap_setCell _ _ _ _ (by simp; omega), Below.heap_setCell _ _ _ _ (by simp; omega), Below.heap_setCell _ _ _ _ (by simp; omega), Below.heap_setCell _ _ _ _ (by simp; omega)]
  have hsz : ((((wC.setCell ⟨w.heap.size + 1 + 1, 2, none⟩ (.slice aC P.conj.length capC)).setCell ⟨w.heap.size + 1, 0, none⟩ (.slice aA P.orders.length capA)).setCell ⟨w.heap.size + 1, 1, none⟩ (.slice aB P.powers.length capB)).setCell ⟨w.heap.size + 1, 2, none⟩ (.slice aC P.conj.length capC)).heap.size = wC.heap.size := by simp [World.setCell]
  have hsz3 := HSZ.out
  have hsz4 := HSZ2.out
  refine ⟨_, _, _, fun k => w0.heap.size ≤ k ∧ k < wA.heap.size, fun k => w1.heap.size ≤ k ∧ k < wB.heap.size, fun k => w2.heap.size ≤ k, rfl, rdOwn.mono HX.out.1 (fun k hk hlt => ⟨hk, by rw [hsz]; omega, (hblk k (by omega)).trans (hgC.block k hlt (by simp))⟩),
    rdRowsW.mono HX.out.2.1 (fun k hk hlt => ⟨hk, by rw [hsz]; omega, (hblk k (by omega)).trans (hgC.block k hlt (by simp))⟩), SlD.mono rdRowsW HX.out.2.2 (fun k hk hlt => ⟨hk, by rw [hsz]; exact hlt, hblk k (by have hk : w2.heap.size ≤ k := hk; omega)⟩), fun k hk => ?_, fun k hk => ?_, fun k hk => ?_⟩
  · exact ⟨by show w.heap.size ≤ k; omega, by omega, by omega⟩
  · exact ⟨by show w.heap.size ≤ k; omega, by omega⟩
  · show w.heap.size ≤ k; omega

end Go.Proofs.YtdklekdpdbjfiaaGreat

/- laws.eqInt64S. -/
namespace Go.Proofs.YtdklekdpdbjfiaaGreat
open Go.RowKit

set_option maxHeartbeats 400000 in
theorem eqInt64S_ok (v1 v2 : Value) (l1 l2 : List Int) (w : World) (S1 S2 : Nat → Prop) (h1 : Ints S1 w v1 l1) (h2 : Ints S2 w v2 l2) :
    Calls Tryz.prog 29 #[v1, v2] w (Ret w fun _ v => v = .bool (eqB l1 l2)) := by
  obtain ⟨a, cap, rfl, _, _⟩ := h1.shape
  obtain ⟨a2, cap2, rfl, _, _⟩ := h2.shape
  by_cases hl : l1.length = l2.length
  · have hd : ((l1.length : Int) != (l2.length : Int)) = false := by simp [hl]
    have hl1 : l1.length ≤ l2.length ∧ l2.length ≤ l1.length := by omega
    have HL := Lib.hid hl; clear hl
    go_enter Tryz.func29, Tryz.ntmps29
    go_wp2
    go_loopw [5] (fun i wr => ∃ k : Nat, i = .int .i64 k ∧ k ≤ l1.length ∧ Ext w wr ∧ ∀ i, i < k → gt l1 i = gt l2 i) (fun i _ => l1.length - (intOf i).toNat)
    case atStart => exact ⟨0, rfl, by omega, Ext.refl _, fun i hi => by omega⟩
    case round =>
      obtain ⟨k, rfl, hk, hg, hz⟩ := hrel
      have HZ := Lib.hid hz; clear hz
      by_cases hlt : k < l1.length
      · obtain ⟨b, off, rfl, _, _, hc⟩ := Ints.at (h1.ext hg) k hlt
        obtain ⟨b2, off2, rfl, _, _, hc2⟩ := Ints.at (h2.ext hg) k (by omega)
        by_cases hx : gt l1 k = gt l2 k
        · have hb : (gt l1 k != gt l2 k) = false := by simp [hx]
          have hx2 := Lib.hid hx; clear hx
          go_wp2
          go_quiet (fail)
          go_wp2
          go_roundw
          case rel => exact ⟨k + 1, by go_num, by omega, grown_trans hg (grown_drewN _ _ _), fun i hi => by
            rcases Nat.lt_or_ge i k with h1 | h1
            · exact HZ.out i h1
            · have : i = k := by omega
              rw [this, hx2.out]⟩
          case measure => simp [intOf]; omega
        · have hb : (gt l1 k != gt l2 k) = true := by simp [hx]
          have hx2 := Lib.hid hx; clear hx
          go_wp2
          go_quiet (fail)
          go_wp2
          go_ret
          exact ret_bool (grown_trans hg (grown_drewN _ _ _)) (by rw [eqB_false_at (hx := hx2.out)])
      · go_wp2
        go_ret
        exact ret_bool hg (by rw [eqB_true.2 (ext_gt HL.out (fun i hi => HZ.out i (by omega)))])
  · have hd : ((l1.length : Int) != (l2.length : Int)) = true := by simp; omega
    have HL := Lib.hid hl; clear hl
    go_enter Tryz.func29, Tryz.ntmps29
    go_wp2
    go_ret
    exact ret_bool (Ext.refl _) (by rw [eqB_false.2 (fun h => HL.out (by rw [h]))])

end Go.Proofs.YtdklekdpdbjfiaaGreat

/- The laws' comparisons: laws.eqInt64SS, eqInt64SSS, eqPresentation. -/
namespace Go.Proofs.YtdklekdpdbjfiaaGreat
open Go.RowKit

theorem Ints.extA {S : Nat → Prop} {w w' : World} {v : Value} {xs : List Int} (h : Ints S w v xs) (hg : Ext w w') : Ints Any w' v xs := Ints.sub (Ints.ext h hg) (fun _ _ _ => trivial)
theorem Rows2.extA {S : Nat → Prop} {w w' : World} {v : Value} {xs : List (List Int)} (h : Rows2 S w v xs) (hg : Ext w w') : Rows2 Any w' v xs := Rows2.sub (Rows2.ext h hg) (fun _ _ _ => trivial)

set_option maxRecDepth 100000 in
set_option maxHeartbeats 2000000 in
theorem eqInt64SS_ok (v1 v2 : Value) (l1 l2 : List (List Int)) (w : World) (S1 S2 : Nat → Prop) (h1 : Rows2 S1 w v1 l1) (h2 : Rows2 S2 w v2 l2) :
    Calls Tryz.prog 28 #[v1, v2] w (Ret w fun _ v => v = .bool (eqB l1 l2)) := by
  obtain ⟨a, cap, rfl, _, _⟩ := Sl.shape h1
  obtain ⟨a2, cap2, rfl, _, _⟩ := Sl.shape h2
  by_cases hl : l1.length = l2.length
  · have hd : ((l1.length : Int) != (l2.length : Int)) = false := by simp [hl]
    have hl1 : l1.length ≤ l2.length ∧ l2.length ≤ l1.length := by omega
    have HL := Lib.hid hl; clear hl
    go_enter Tryz.func28, Tryz.ntmps28
    go_wp2
    go_loopw [5] (fun i wr => ∃ k : Nat, i = .int .i64 k ∧ k ≤ l1.length ∧ Ext w wr ∧ ∀ i, i < k → gt l1 i = gt l2 i) (fun i _ => l1.length - (intOf i).toNat)
    case atStart => exact ⟨0, rfl, by omega, Ext.refl _, fun i hi => by omega⟩
    case round =>
      obtain ⟨k, rfl, hk, hg, hz⟩ := hrel
      have HZ := Lib.hid hz; clear hz
      by_cases hlt : k < l1.length
      · obtain ⟨b, off, x1, c1, rfl, _, _, hc, hi1⟩ := Rows2.at (Rows2.ext h1 hg) k hlt
        obtain ⟨b2, off2, x2, c2, rfl, _, _, hc2, hi2⟩ := Rows2.at (Rows2.ext h2 hg) k (by omega)
        have e1 : ∀ w', Ext wr w' → w'.cell? ⟨b, off + k, none⟩ = some (.slice x1 (gt l1 k).length c1) := fun w' h => h.cell hc (by simp)
        have e2 : ∀ w', Ext wr w' → w'.cell? ⟨b2, off2 + k, none⟩ = some (.slice x2 (gt l2 k).length c2) := fun w' h => h.cell hc2 (by simp)
        clear hc hc2
        have hlt2 : k < l2.length := by omega
        go_wp2
        cases hx : eqB (gt l1 k) (gt l2 k) with
        | true =>
          have hx2 := Lib.hid hx
          go_region_held3 (fun w' => Ext wr w') (first | exact grown_drew _ _ | assumption)
            (first
              | (go_at_call 29; refine Calls.mono (Calls.rel (w0 := wr) (by assumption) (eqInt64S_ok _ _ _ _ _ Any Any ((Ints.extA hi1 (by assumption))) (Ints.extA hi2 (by assumption)))) ?_; rintro eA wA ⟨vA, rfl, hgA, hsA, rfl⟩))
          clear e1 e2
          go_wp2
          go_roundw
          case rel => exact ⟨k + 1, by go_num, by omega, grown_trans hg hgA, fun i hi => by
            rcases Nat.lt_or_ge i k with h1 | h1
            · exact HZ.out i h1
            · have : i = k := by omega
              rw [this]; exact eqB_true.1 hx2.out⟩
          case measure => simp [intOf]; omega
        | false =>
          have hx2 := Lib.hid hx
          go_region_held3 (fun w' => Ext wr w') (first | exact grown_drew _ _ | assumption)
            (first
              | (go_at_call 29; refine Calls.mono (Calls.rel (w0 := wr) (by assumption) (eqInt64S_ok _ _ _ _ _ Any Any (Ints.extA hi1 (by assumption)) (Ints.extA hi2 (by assumption)))) ?_; rintro eA wA ⟨vA, rfl, hgA, hsA, rfl⟩))
          clear e1 e2
          go_wp2
          go_ret
          exact ret_bool (grown_trans hg hgA) (by rw [eqB_false_at (hx := eqB_false.1 hx2.out)])
      · go_wp2
        go_ret
        exact ret_bool hg (by rw [eqB_true.2 (ext_gt HL.out (fun i hi => HZ.out i (by omega)))])
  · have hd : ((l1.length : Int) != (l2.length : Int)) = true := by simp; omega
    have HL := Lib.hid hl; clear hl
    go_enter Tryz.func28, Tryz.ntmps28
    go_wp2
    go_ret
    exact ret_bool (Ext.refl _) (by rw [eqB_false.2 (fun e => HL.out (by rw [e]))])

set_option maxRecDepth 100000 in
set_option maxHeartbeats 2000000 in
theorem eqInt64SSS_ok (v1 v2 : Value) (l1 l2 : List (List (List Int))) (w : World) (S1 S2 : Nat → Prop) (h1 : Rows3 S1 w v1 l1) (h2 : Rows3 S2 w v2 l2) :
    Calls Tryz.prog 22 #[v1, v2] w (Ret w fun _ v => v = .bool (eqB l1 l2)) := by
  obtain ⟨a, cap, rfl, _, _⟩ := Sl.shape h1
  obtain ⟨a2, cap2, rfl, _, _⟩ := Sl.shape h2
  by_cases hl : l1.length = l2.length
  · have hd : ((l1.length : Int) != (l2.length : Int)) = false := by simp [hl]
    have hl1 : l1.length ≤ l2.length ∧ l2.length ≤ l1.length := by omega
    have HL := Lib.hid hl; clear hl
    go_enter Tryz.func22, Tryz.ntmps22
    go_wp2
    go_loopw [5] (fun i wr => ∃ k : Nat, i = .int .i64 k ∧ k ≤ l1.length ∧ Ext w wr ∧ ∀ i, i < k → gt l1 i = gt l2 i) (fun i _ => l1.length - (intOf i).toNat)
    case atStart => exact ⟨0, rfl, by omega, Ext.refl _, fun i hi => by omega⟩
    case round =>
      obtain ⟨k, rfl, hk, hg, hz⟩ := hrel
      have HZ := Lib.hid hz; clear hz
      by_cases hlt : k < l1.length
      · obtain ⟨b, off, x1, c1, rfl, _, _, hc, hi1⟩ := Rows3.at (Rows3.ext h1 hg) k hlt
        obtain ⟨b2, off2, x2, c2, rfl, _, _, hc2, hi2⟩ := Rows3.at (Rows3.ext h2 hg) k (by omega)
        have e1 : ∀ w', Ext wr w' → w'.cell? ⟨b, off + k, none⟩ = some (.slice x1 (gt l1 k).length c1) := fun w' h => h.cell hc (by simp)
        have e2 : ∀ w', Ext wr w' → w'.cell? ⟨b2, off2 + k, none⟩ = some (.slice x2 (gt l2 k).length c2) := fun w' h => h.cell hc2 (by simp)
        clear hc hc2
        have hlt2 : k < l2.length := by omega
        go_wp2
        cases hx : eqB (gt l1 k) (gt l2 k) with
        | true =>
          have hx2 := Lib.hid hx
          go_region_held3 (fun w' => Ext wr w') (first | exact grown_drew _ _ | assumption)
            (first
              | (go_at_call 28; refine Calls.mono (Calls.rel (w0 := wr) (by assumption) (eqInt64SS_ok _ _ _ _ _ Any Any ((Rows2.extA hi1 (by assumption))) (Rows2.extA hi2 (by assumption)))) ?_; rintro eA wA ⟨vA, rfl, hgA, hsA, rfl⟩))
          clear e1 e2
          go_wp2
          go_roundw
          case rel => exact ⟨k + 1, by go_num, by omega, grown_trans hg hgA, fun i hi => by
            rcases Nat.lt_or_ge i k with h1 | h1
            · exact HZ.out i h1
            · have : i = k := by omega
              rw [this]; exact eqB_true.1 hx2.out⟩
          case measure => simp [intOf]; omega
        | false =>
          have hx2 := Lib.hid hx
          go_region_held3 (fun w' => Ext wr w') (first | exact grown_drew _ _ | assumption)
            (first
              | (go_at_call 28; refine Calls.mono (Calls.rel (w0 := wr) (by assumption) (eqInt64SS_ok _ _ _ _ _ Any Any (Rows2.extA hi1 (by assumption)) (Rows2.extA hi2 (by assumption)))) ?_; rintro eA wA ⟨vA, rfl, hgA, hsA, rfl⟩))
          clear e1 e2
          go_wp2
          go_ret
          exact ret_bool (grown_trans hg hgA) (by rw [eqB_false_at (hx := eqB_false.1 hx2.out)])
      · go_wp2
        go_ret
        exact ret_bool hg (by rw [eqB_true.2 (ext_gt HL.out (fun i hi => HZ.out i (by omega)))])
  · have hd : ((l1.length : Int) != (l2.length : Int)) = true := by simp; omega
    have HL := Lib.hid hl; clear hl
    go_enter Tryz.func22, Tryz.ntmps22
    go_wp2
    go_ret
    exact ret_bool (Ext.refl _) (by rw [eqB_false.2 (fun e => HL.out (by rw [e]))])

set_option maxRecDepth 100000 in
set_option maxHeartbeats 2000000 in
theorem eqPresentation_ok (v1 v2 : Value) (P : Pr) (w : World) (S1 S2 : Nat → Prop) (h1 : PresV S1 w v1 P) (h2 : PresV S2 w v2 P) :
    Calls Tryz.prog 21 #[v1, v2] w (Ret w fun _ v => v = .bool true) := by
  obtain ⟨vo, vp, vc, rfl, h3⟩ := h1
  obtain ⟨uo, up, uc, rfl, k3⟩ := h2
  have hg0 : Ext w ((w.alloc (.cells #[vo, vp, vc] 31)).alloc (.cells #[uo, up, uc] 31)) := grown_trans (World.grownBy_alloc _ _ _) (World.grownBy_alloc _ _ _)
  have hs1 : (w.alloc (.cells #[vo, vp, vc] 31)).heap.size = w.heap.size + 1 := by simp
  have b1 := (Box3.made w 31 vo vp vc).ext (World.grownBy_alloc _ (.cells #[uo, up, uc] 31) none)
  have b2 := Box3.made (w.alloc (.cells #[vo, vp, vc] 31)) 31 uo up uc
  rw [hs1] at b2
  have HB := Lib.hid (And.intro b1 b2); clear b1 b2 hs1
  go_enter Tryz.func21, Tryz.ntmps21
  go_wp2_with fail
  generalize (w.alloc (.cells #[vo, vp, vc] 31)).alloc (.cells #[uo, up, uc] 31) = w0 at *
  refine Calls.mono (eqInt64S_ok _ _ _ _ _ S1 S2 (h3.o.ext hg0) (k3.o.ext hg0)) ?_
  rintro eA wA ⟨vA, rfl, hgA, rfl⟩
  have hgwA := grown_trans hg0 hgA
  obtain ⟨_, a0, a1, a2, _⟩ := HB.out.1.ext hgA
  obtain ⟨_, c0, c1, c2, _⟩ := HB.out.2.ext hgA
  have e1 : eqB P.orders P.orders = true := eqB_true.2 rfl
  go_wp2_with fail
  clear a0 a1 a2 c0 c1 c2 e1
  refine Calls.mono (eqInt64SS_ok _ _ _ _ _ S1 S2 (Rows2.ext h3.p hgwA) (Rows2.ext k3.p hgwA)) ?_
  rintro eB wB ⟨vB, rfl, hgB, rfl⟩
  have hgwB := grown_trans hgwA hgB
  obtain ⟨_, a0, a1, a2, _⟩ := HB.out.1.ext (grown_trans hgA hgB)
  obtain ⟨_, c0, c1, c2, _⟩ := HB.out.2.ext (grown_trans hgA hgB)
  have e1 : eqB P.powers P.powers = true := eqB_true.2 rfl
  go_wp2_with fail
  clear a0 a1 a2 c0 c1 c2 e1
  refine Calls.mono (eqInt64SSS_ok _ _ _ _ _ S1 S2 (Rows3.ext h3.c hgwB) (Rows3.ext k3.c hgwB)) ?_
  rintro eC wC ⟨vC, rfl, hgC, rfl⟩
  have e1 : eqB P.conj P.conj = true := eqB_true.2 rfl
  go_wp2
  go_ret
  exact ⟨_, rfl, grown_trans hgwB hgC, rfl⟩

end Go.Proofs.YtdklekdpdbjfiaaGreat

/- The laws' marks: laws.markInt64S.., heldInt64S..: each place of a value is given a number of its own, and looked at again. -/
namespace Go.Proofs.YtdklekdpdbjfiaaGreat
open Go.RowKit

end Go.Proofs.YtdklekdpdbjfiaaGreat

/- The laws' look at marked rows of rows: laws.heldInt64SS, heldInt64SSS. -/
namespace Go.Proofs.YtdklekdpdbjfiaaGreat
open Go.RowKit

end Go.Proofs.YtdklekdpdbjfiaaGreat

/- What a law over one presentation and one list keeps in view. -/
namespace Go.Proofs.YtdklekdpdbjfiaaGreat
open Go.RowKit

end Go.Proofs.YtdklekdpdbjfiaaGreat
