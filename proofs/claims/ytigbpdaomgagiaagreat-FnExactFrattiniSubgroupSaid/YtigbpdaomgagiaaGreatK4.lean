/-
  Plain: subgroups of a consistent presentation; what a table by depths must hold so that its products are a subgroup.
  Plain: the canonical sequence of a subgroup is one: a table that is reduced is determined by the subgroup; so are representatives of cosets.
  Plain: what holds while a table by depths grows: each element that was looked at is neutral, waits in the queue, or is led deeper by the table.
  Plain: depths; every subgroup has a canonical sequence, and every element a representative.
  Plain: the steps of sifting on both sides.
  Residues: impl.residue.
  impl.depthOf, impl.commutator, impl.inverseMod.
  Numbers of elements: impl.numberOf, spec.l10Number, impl.elementAt, spec.l10At, spec.l10One.
  impl.allElements, impl.generators.
  impl.pivots.
  The laws' measure of an argument: laws.szInt64S, szInt64SS, szInt64SSS, szPresentation.
  The laws' copies of an argument: laws.toInt64S, toInt64SS, toInt64SSS, toPresentation: each part in blocks of its own.
  Queues of rows: a slice at any place of an array of the call's own, whose rows lie in blocks elsewhere; tables of rows, nil where nothing stands.
-/
import Derived.Test.YtigbpdaomgagiaaGreatK3
import Derived.Test.YtigbpdaomgagiaaGreatK1
import Derived.Test.YtigbpdaomgagiaaGreatK2
import Derived.ArgAppend
/- Plain: subgroups of a consistent presentation; what a table by depths must hold so that its products are a subgroup. -/
namespace Go.Proofs.YtigbpdaomgagiaaGreat

theorem rAt_right {P : Pr} (hP : Valid P) (f : Nat) : ∀ (i e : Nat) (x z : List Int), i + f = P.orders.length → i ≤ e → e ≤ P.orders.length → Vec P.orders x → T P e z →
    (∀ k, i ≤ k → k < e → gt (rAt P f i x z) k = gt x k) ∧ (e < P.orders.length → gt (rAt P f i x z) e = (gt x e + gt z e) % gt P.orders e) := by
  induction f with
  | zero => intro i e x z hi he hen _ _; exact ⟨fun k a b => by omega, fun h => by omega⟩
  | succ f ih =>
    intro i e x z hi he hen hx hz
    have hin : i < P.orders.length := by omega
    have ho := hP.ord7 i hin
    have hxi := hx.2 i hin
    have hzi := hz.1.2 i hin
    have hr := rAt_T hP (f + 1) i x z hi hx hz.1
    by_cases hie : i = e
    · subst hie
      refine ⟨fun k a b => by omega, fun _ => ?_⟩
      simp only [rAt]
      have hl : ∀ l : List Int, Vec P.orders l → Vec P.orders (iter (gt z i).toNat (fun l => rImgTo (rAt P f (i + 1)) (gt P.conj i) i l (zeros P.orders.length) f) l) := fun l hl =>
        iter_inv (Vec P.orders) _ (fun y hy => rImgTo_vec hP f i hi (rAt_vec hP f) _ _ (zeros_vec hP) f (Nat.le_refl _)) _ _ hl
      have v1 := hl _ (hx.set i 0 ⟨by omega, fun _ => by omega⟩)
      have v2 : Vec P.orders (z.set i 0) := hz.1.set i 0 ⟨by omega, fun _ => by omega⟩
      have v3 := rAt_vec hP f (i + 1) _ _ (by omega) v1 v2
      split
      · rename_i hc
        have v4 := rAt_vec hP f (i + 1) _ _ (by omega) (hP.pv i hin).1 v3
        rw [gt_set_eq _ _ _ (by rw [v4.1]; exact hin)]
        have e1 : gt x i + gt z i = (gt x i + gt z i - gt P.orders i) + gt P.orders i := by omega
        rw [e1, Int.add_emod_right, Int.emod_eq_of_lt (by omega) (by omega)]
        omega
      · rename_i hc
        rw [gt_set_eq _ _ _ (by rw [v3.1]; exact hin), Int.emod_eq_of_lt (by omega) (by omega)]
    · have hz0 : gt z i = 0 := hz.2 i (by omega)
      have hzs : z.set i 0 = z := set_zero_of (P := P) (hz.down (by omega))
      have hxs : Vec P.orders (x.set i 0) := hx.set i 0 ⟨by omega, fun _ => by omega⟩
      have hrec := ih (i + 1) e (x.set i 0) z (by omega) (by omega) hen hxs hz
      have v3 := rAt_vec hP f (i + 1) (x.set i 0) z (by omega) hxs hz.1
      have hdef : rAt P (f + 1) i x z = (rAt P f (i + 1) (x.set i 0) z).set i (gt x i) := by
        simp only [rAt, hz0, hzs]
        rw [if_neg (by omega), Int.add_zero]
        rfl
      rw [hdef]
      refine ⟨fun k a b => ?_, fun h => ?_⟩
      · by_cases ek : i = k
        · subst ek; rw [gt_set_eq _ _ _ (by rw [v3.1]; exact hin)]
        · rw [gt_set_ne _ _ _ _ ek, hrec.1 k (by omega) b, gt_set_ne _ _ _ _ ek]
      · rw [gt_set_ne _ _ _ _ (by omega), hrec.2 h, gt_set_ne _ _ _ _ (by omega)]

/-- powers in the group -/
def pw (P : Pr) (x : List Int) (k : Nat) : List Int := iter k (fun y => rMul P y x) (zeros P.orders.length)

section
variable {P : Pr} (G : Grp P)
include G

theorem Grp.right {x z : List Int} {e : Nat} (he : e ≤ P.orders.length) (hx : Vec P.orders x) (hz : T P e z) :
    (∀ k, k < e → gt (rMul P x z) k = gt x k) ∧ (e < P.orders.length → gt (rMul P x z) e = (gt x e + gt z e) % gt P.orders e) := by
  have h := rAt_right G.v P.orders.length 0 e x z (by omega) (by omega) he hx hz
  exact ⟨fun k hk => h.1 k (by omega) hk, h.2⟩

theorem Grp.T_mul {x y : List Int} {d : Nat} (hd : d ≤ P.orders.length) (hx : T P d x) (hy : T P d y) : T P d (rMul P x y) :=
  ⟨G.mulV hx.1 hy.1, fun k hk => by rw [(G.right hd hx.1 hy).1 k hk]; exact hx.2 k hk⟩

theorem Grp.pw_vec {x : List Int} (hx : Vec P.orders x) (k : Nat) : Vec P.orders (pw P x k) := G.grp.toMonOn.pow_cl hx G.oneV k
theorem Grp.pw_add {x : List Int} (hx : Vec P.orders x) (a b : Nat) : pw P x (a + b) = rMul P (pw P x a) (pw P x b) := G.grp.toMonOn.pow_add hx a b
omit G in
theorem pw_zero (P : Pr) (x : List Int) : pw P x 0 = zeros P.orders.length := rfl
omit G in
theorem pw_succ (P : Pr) (x : List Int) (k : Nat) : pw P x (k + 1) = rMul P (pw P x k) x := rfl
theorem Grp.pw_one {x : List Int} (hx : Vec P.orders x) : pw P x 1 = x := G.grp.el x hx
theorem Grp.pw_succ' {x : List Int} (hx : Vec P.orders x) (k : Nat) : pw P x (k + 1) = rMul P x (pw P x k) := by
  rw [Nat.add_comm, G.pw_add hx, G.pw_one hx]
theorem Grp.pw_mul {x : List Int} (hx : Vec P.orders x) (a b : Nat) : pw P x (a * b) = pw P (pw P x a) b := by
  induction b with
  | zero => rfl
  | succ b ih => rw [Nat.mul_succ, G.pw_add hx, ih]; rfl
theorem Grp.pw_T {x : List Int} {d : Nat} (hd : d ≤ P.orders.length) (hx : T P d x) (k : Nat) : T P d (pw P x k) := by
  induction k with
  | zero => exact T.zeros G.v d
  | succ k ih => exact G.T_mul hd ih hx
theorem Grp.pw_at {x : List Int} {d : Nat} (hd : d < P.orders.length) (hx : T P d x) (k : Nat) : gt (pw P x k) d = ((k : Int) * gt x d) % gt P.orders d := by
  induction k with
  | zero => rw [pw_zero]; show gt (List.replicate _ (0 : Int)) d = _; rw [gt_replicate]; simp
  | succ k ih =>
    rw [pw_succ, (G.right (Nat.le_of_lt hd) (G.pw_vec hx.1 k) hx).2 hd, ih, Int.emod_add_emod]
    congr 1
    rw [Int.natCast_add, Int.add_mul]; simp
theorem Grp.pw_order {x : List Int} {d : Nat} (hd : d < P.orders.length) (hx : T P d x) : T P (d + 1) (pw P x (gt P.orders d).toNat) := by
  have ho := G.v.ord7 d hd
  refine (G.pw_T (Nat.le_of_lt hd) hx _).up ?_
  rw [G.pw_at hd hx, show (((gt P.orders d).toNat : Nat) : Int) = gt P.orders d by omega, Int.mul_emod_right]

/-- every element has finite order -/
theorem Grp.fin (f : Nat) : ∀ (d : Nat) (x : List Int), d + f = P.orders.length → T P d x → ∃ M, 1 ≤ M ∧ pw P x M = zeros P.orders.length := by
  induction f with
  | zero =>
    intro d x hd hx
    have : d = P.orders.length := by omega
    subst this
    refine ⟨1, Nat.le_refl _, ?_⟩
    rw [G.pw_one hx.1]; exact hx.top G.v
  | succ f ih =>
    intro d x hd hx
    have ho := G.v.ord7 d (by omega)
    obtain ⟨M, h1, h2⟩ := ih (d + 1) _ (by omega) (G.pw_order (by omega) hx)
    refine ⟨(gt P.orders d).toNat * M, Nat.mul_pos (by omega) h1, ?_⟩
    rw [G.pw_mul hx.1, h2]

theorem Grp.inv_pw {x : List Int} (hx : Vec P.orders x) : ∃ k, rInv P x = pw P x k := by
  obtain ⟨M, h1, h2⟩ := G.fin P.orders.length 0 x (by omega) (T_zero.2 hx)
  refine ⟨M - 1, ?_⟩
  refine (G.inv_of hx (G.pw_vec hx _) ?_).symm
  rw [← G.pw_succ' hx, show M - 1 + 1 = M by omega, h2]

theorem Grp.T_inv {x : List Int} {d : Nat} (hd : d ≤ P.orders.length) (hx : T P d x) : T P d (rInv P x) := by
  obtain ⟨k, hk⟩ := G.inv_pw hx.1
  rw [hk]; exact G.pw_T hd hx k

/-- two elements alike at their depth differ by a deeper one -/
theorem Grp.diff {u v : List Int} {d : Nat} (hd : d < P.orders.length) (hu : T P d u) (hv : T P d v) (h : gt u d = gt v d) : T P (d + 1) (rMul P (rInv P u) v) := by
  have hi := G.T_inv (Nat.le_of_lt hd) hu
  have hc := G.T_mul (Nat.le_of_lt hd) hi hv
  refine hc.up ?_
  have e1 : rMul P u (rMul P (rInv P u) v) = v := by rw [← G.ass hu.1 hi.1 hv.1, G.mul_inv hu.1, G.grp.el _ hv.1]
  have e2 := (G.right (Nat.le_of_lt hd) hu.1 hc).2 hd
  rw [e1] at e2
  have b1 := hu.1.2 d hd
  have b2 := hc.1.2 d hd
  by_cases hlt : gt u d + gt (rMul P (rInv P u) v) d < gt P.orders d
  · rw [Int.emod_eq_of_lt (by omega) hlt] at e2; omega
  · have e3 : gt u d + gt (rMul P (rInv P u) v) d = (gt u d + gt (rMul P (rInv P u) v) d - gt P.orders d) + gt P.orders d := by omega
    rw [e3, Int.add_emod_right, Int.emod_eq_of_lt (by omega) (by omega)] at e2; omega
end

/-- a subgroup -/
structure Sub (P : Pr) (H : List Int → Prop) : Prop where
  vec : ∀ x, H x → Vec P.orders x
  one : H (zeros P.orders.length)
  mul : ∀ x y, H x → H y → H (rMul P x y)
  inv : ∀ x, H x → H (rInv P x)

/-- the subgroup that a list of elements generates -/
def gen (P : Pr) (L : List (List Int)) (x : List Int) : Prop := ∀ H, Sub P H → (∀ y ∈ L, H y) → H x

section
variable {P : Pr} (G : Grp P)
include G

theorem Grp.sub_all : Sub P (Vec P.orders) := ⟨fun _ h => h, G.oneV, fun _ _ h k => G.mulV h k, fun _ h => G.invV h⟩
theorem Grp.sub_of_mul {H : List Int → Prop} (hv : ∀ x, H x → Vec P.orders x) (h1 : H (zeros P.orders.length)) (hm : ∀ x y, H x → H y → H (rMul P x y)) : Sub P H := by
  refine ⟨hv, h1, hm, fun x hx => ?_⟩
  obtain ⟨k, hk⟩ := G.inv_pw (hv x hx)
  rw [hk]
  induction k generalizing x with
  | zero => exact h1
  | succ k _ =>
    have : ∀ j, H (pw P x j) := by
      intro j
      induction j with
      | zero => exact h1
      | succ j ihj => exact hm _ _ ihj hx
    exact this _
omit G in
theorem Sub.pw {H : List Int → Prop} (S : Sub P H) {x : List Int} (hx : H x) (k : Nat) : H (Go.Proofs.YtigbpdaomgagiaaGreat.pw P x k) := by
  induction k with
  | zero => exact S.one
  | succ k ih => exact S.mul _ _ ih hx
theorem Grp.gen_sub {L : List (List Int)} (hL : ∀ y ∈ L, Vec P.orders y) : Sub P (gen P L) :=
  ⟨fun _ h => h _ G.sub_all hL, fun _ S _ => S.one, fun _ _ h k _ S hH => S.mul _ _ (h _ S hH) (k _ S hH), fun _ h _ S hH => S.inv _ (h _ S hH)⟩
omit G in
theorem gen_mem {L : List (List Int)} {y : List Int} (hy : y ∈ L) : gen P L y := fun _ _ hH => hH y hy
omit G in
theorem gen_le {L : List (List Int)} {H : List Int → Prop} (S : Sub P H) (h : ∀ y ∈ L, H y) {x : List Int} (hx : gen P L x) : H x := hx _ S h

/-- commutators as both sides take them -/
theorem Grp.comm_deep {x y : List Int} {d : Nat} (hd : d < P.orders.length) (hx : T P d x) (hy : T P (d + 1) y) :
    T P (d + 1) (rMul P (rInv P (rMul P y x)) (rMul P x y)) ∧ T P (d + 1) (rMul P (rInv P (rMul P x y)) (rMul P y x)) := by
  have hd' := Nat.le_of_lt hd
  have hyd := hy.down (Nat.le_succ d)
  have h1 := G.T_mul hd' hx hyd
  have h2 := G.T_mul hd' hyd hx
  have e1 : gt (rMul P x y) d = gt x d := (G.right (Nat.succ_le_of_lt hd) hx.1 hy).1 d (by omega)
  have e2 : gt (rMul P y x) d = gt x d := by
    rw [(G.right hd' hyd.1 hx).2 hd, hy.2 d (by omega), Int.zero_add]
    have := hx.1.2 d hd
    exact Int.emod_eq_of_lt this.1 this.2
  exact ⟨G.diff hd h2 h1 (by rw [e1, e2]), G.diff hd h1 h2 (by rw [e1, e2])⟩

/-- x^y out of the commutator -/
theorem Grp.conj_of_comm {x y : List Int} (hx : Vec P.orders x) (hy : Vec P.orders y) : rConj P x y = rMul P x (rMul P (rInv P (rMul P y x)) (rMul P x y)) := by
  unfold rConj
  have c1 := G.mulV hx hy
  rw [G.inv_mulR hy hx, G.ass (G.invV hx) (G.invV hy) c1, ← G.ass hx (G.invV hx) (G.mulV (G.invV hy) c1), G.mul_inv hx, G.grp.el _ (G.mulV (G.invV hy) c1)]
theorem Grp.comm_inv {x y : List Int} (hx : Vec P.orders x) (hy : Vec P.orders y) : rInv P (rMul P (rInv P (rMul P x y)) (rMul P y x)) = rMul P (rInv P (rMul P y x)) (rMul P x y) := by
  have c1 := G.mulV hx hy
  have c2 := G.mulV hy hx
  rw [G.inv_mulR (G.invV c1) c2, G.inv_inv c1]

/-- what the tables of both sides come to: R, the elements that were looked at -/
structure Closed (P : Pr) (b : Nat → List Int) (R : List Int → Prop) : Prop where
  tab : ∀ d, d < P.orders.length → b d ≠ [] → T P d (b d) ∧ gt (b d) d = 1
  vec : ∀ q, R q → Vec P.orders q
  step : ∀ q, R q → q = zeros P.orders.length ∨ ∃ d, d < P.orders.length ∧ T P d q ∧ gt q d ≠ 0 ∧ b d ≠ [] ∧ ∃ q', R q' ∧ T P (d + 1) q' ∧ ∀ K, Sub P K → K (b d) → K q' → K q
  pow : ∀ d, d < P.orders.length → b d ≠ [] → R (pw P (b d) (gt P.orders d).toNat)
  com : ∀ d e, d < e → e < P.orders.length → b d ≠ [] → b e ≠ [] → ∃ c, R c ∧ T P (d + 1) c ∧ ∀ K, Sub P K → K (b e) → K c → K (rConj P (b e) (b d))

/-- the subgroup of the entries from depth d on -/
structure TailSub (P : Pr) (b : Nat → List Int) (R : List Int → Prop) (d : Nat) (K : List Int → Prop) : Prop where
  sub : Sub P K
  deep : ∀ x, K x → T P d x
  mem : ∀ e, d ≤ e → e < P.orders.length → b e ≠ [] → K (b e)
  res : ∀ q, R q → T P d q → K q
  piv : ∀ x, K x → ∀ e, d ≤ e → e < P.orders.length → T P e x → gt x e ≠ 0 → b e ≠ []
  min : ∀ K', Sub P K' → (∀ e, d ≤ e → e < P.orders.length → b e ≠ [] → K' (b e)) → ∀ x, K x → K' x

theorem Grp.conj_hom {x y z : List Int} (hx : Vec P.orders x) (hy : Vec P.orders y) (hz : Vec P.orders z) : rConj P (rMul P x y) z = rMul P (rConj P x z) (rConj P y z) := by
  unfold rConj
  have hi := G.invV hz
  have c1 := G.mulV hx hz
  have c2 := G.mulV hy hz
  rw [G.ass hi c1 (G.mulV hi c2), G.ass hx hz (G.mulV hi c2), ← G.ass hz hi c2, G.mul_inv hz, G.grp.el _ c2, G.ass hx hy hz]

theorem Grp.tailSub {b : Nat → List Int} {R : List Int → Prop} (C : Closed P b R) (f : Nat) : ∀ d, d + f = P.orders.length → ∃ K, TailSub P b R d K := by
  induction f with
  | zero =>
    intro d hd
    have : d = P.orders.length := by omega
    subst this
    have hone : Sub P (fun x => x = zeros P.orders.length) := by
      refine G.sub_of_mul (fun x h => by rw [h]; exact G.oneV) rfl (fun x y hx hy => ?_)
      rw [hx, hy]; exact G.grp.el _ G.oneV
    exact ⟨_, hone, fun x h => by rw [h]; exact T.zeros G.v _, fun e a b' => by omega, fun q _ hq => hq.top G.v, fun x _ e a b' => by omega, fun K' S _ x hx => by rw [hx]; exact S.one⟩
  | succ f ih =>
    intro d hd
    obtain ⟨K', t⟩ := ih (d + 1) (by omega)
    have hdn : d < P.orders.length := by omega
    have hd' := Nat.le_of_lt hdn
    by_cases hb : b d = []
    · refine ⟨K', t.sub, fun x hx => (t.deep x hx).down (Nat.le_succ d), fun e a b' hbe => ?_, fun q hq hT => ?_, fun x hx e a b' hT h0 => ?_, fun K2 S h x hx => t.min K2 S (fun e a b' hbe => h e (by omega) b' hbe) x hx⟩
      · by_cases ed : e = d
        · subst ed; exact absurd hb hbe
        · exact t.mem e (by omega) b' hbe
      · rcases C.step q hq with h | ⟨d', h1, h2, h3, h4, _⟩
        · rw [h]; exact t.sub.one
        · have hdd : d ≤ d' := by
            have : ¬ d' < d := fun h => h3 (hT.2 d' h)
            omega
          have hne : d' ≠ d := fun e => h4 (by rw [e]; exact hb)
          exact t.res q hq (h2.down (by omega))
      · by_cases ed : e = d
        · subst ed
          exact absurd ((t.deep x hx).2 e (by omega)) h0
        · exact t.piv x hx e (by omega) b' hT h0
    · obtain ⟨hbT, hb1⟩ := C.tab d hdn hb
      have ho := G.v.ord7 d hdn
      have hbV := hbT.1
      -- conjugation by the new entry keeps K'
      have hN : Sub P (fun y => K' y ∧ K' (rConj P y (b d))) := by
        refine G.sub_of_mul (fun x h => t.sub.vec x h.1) ⟨t.sub.one, ?_⟩ (fun x y hx hy => ⟨t.sub.mul _ _ hx.1 hy.1, ?_⟩)
        · have : rConj P (zeros P.orders.length) (b d) = zeros P.orders.length := by
            unfold rConj; rw [G.grp.el _ hbV, G.inv_mul hbV]
          rw [this]; exact t.sub.one
        · rw [G.conj_hom (t.sub.vec x hx.1) (t.sub.vec y hy.1) hbV]; exact t.sub.mul _ _ hx.2 hy.2
      have hcj : ∀ y, K' y → K' (rConj P y (b d)) := fun y hy => (t.min _ hN (fun e a b' hbe => by
        have hm := t.mem e a b' hbe
        obtain ⟨c, hc1, hc2, hc3⟩ := C.com d e (by omega) b' hb hbe
        exact ⟨hm, hc3 K' t.sub hm (t.res c hc1 hc2)⟩) y hy).2
      have hcjk : ∀ (k : Nat) y, K' y → K' (rMul P (rInv P (pw P (b d) k)) (rMul P y (pw P (b d) k))) := by
        intro k
        induction k with
        | zero =>
          intro y hy
          have h0 : rConj P y (zeros P.orders.length) = y := G.conj_one (t.sub.vec y hy)
          show K' (rConj P y (zeros P.orders.length))
          rw [h0]; exact hy
        | succ k ihk =>
          intro y hy
          have h1 := hcj _ (ihk y hy)
          have h2 : rConj P (rConj P y (pw P (b d) k)) (b d) = rConj P y (pw P (b d) (k + 1)) := G.conj_mul (t.sub.vec y hy) (G.pw_vec hbV k) hbV
          show K' (rConj P y (pw P (b d) (k + 1)))
          rw [← h2]; exact h1
      have hw : K' (pw P (b d) (gt P.orders d).toNat) := t.res _ (C.pow d hdn hb) (G.pw_order hdn hbT)
      have hK : Sub P (fun x => ∃ k y, K' y ∧ x = rMul P (pw P (b d) k) y) := by
        refine G.sub_of_mul ?_ ⟨0, _, t.sub.one, (G.grp.el _ G.oneV).symm⟩ ?_
        · rintro x ⟨k, y, hy, rfl⟩; exact G.mulV (G.pw_vec hbV k) (t.sub.vec y hy)
        · rintro x x' ⟨k, y, hy, rfl⟩ ⟨l, z, hz, rfl⟩
          have vy := t.sub.vec y hy
          have vz := t.sub.vec z hz
          have pk := G.pw_vec hbV k
          have pl := G.pw_vec hbV l
          refine ⟨k + l, _, t.sub.mul _ _ (hcjk l y hy) hz, ?_⟩
          rw [G.pw_add hbV, G.ass pk vy (G.mulV pl vz), ← G.ass vy pl vz, G.ass (G.invV pl) (G.mulV vy pl) vz, G.ass pk pl (G.mulV (G.invV pl) (G.mulV (G.mulV vy pl) vz)), ← G.ass pl (G.invV pl) (G.mulV (G.mulV vy pl) vz), G.mul_inv pl, G.grp.el _ (G.mulV (G.mulV vy pl) vz)]
      have hsub : ∀ y, K' y → ∃ k z, K' z ∧ y = rMul P (pw P (b d) k) z := fun y hy => ⟨0, y, hy, (G.grp.el y (t.sub.vec y hy)).symm⟩
      have hbK : ∃ k z, K' z ∧ b d = rMul P (pw P (b d) k) z := ⟨1, _, t.sub.one, by rw [G.pw_one hbV, G.grp.er _ hbV]⟩
      refine ⟨_, hK, ?_, fun e a b' hbe => ?_, fun q hq hT => ?_, ?_, ?_⟩
      · rintro x ⟨k, y, hy, rfl⟩
        exact G.T_mul hd' (G.pw_T hd' hbT k) ((t.deep y hy).down (Nat.le_succ d))
      · by_cases ed : e = d
        · subst ed; exact hbK
        · exact hsub _ (t.mem e (by omega) b' hbe)
      · rcases C.step q hq with h | ⟨d', h1, h2, h3, h4, q', h5, h6, h7⟩
        · rw [h]; exact hK.one
        · have hdd : d ≤ d' := by
            have : ¬ d' < d := fun h => h3 (hT.2 d' h)
            omega
          by_cases ed : d' = d
          · subst ed
            exact h7 _ hK hbK (hsub q' (t.res q' h5 h6))
          · exact hsub q (t.res q hq (h2.down (by omega)))
      · rintro x ⟨k, y, hy, rfl⟩ e a b' hT h0
        by_cases ed : e = d
        · rw [ed]; exact hb
        · have hyT := t.deep y hy
          have hx0 : gt (rMul P (pw P (b d) k) y) d = 0 := hT.2 d (by omega)
          rw [(G.right (Nat.succ_le_of_lt hdn) (G.pw_vec hbV k) hyT).1 d (by omega), G.pw_at hdn hbT, hb1, Int.mul_one] at hx0
          -- the order divides k
          obtain ⟨j, hj⟩ : ∃ j : Nat, k = (gt P.orders d).toNat * j := by
            refine ⟨k / (gt P.orders d).toNat, ?_⟩
            have h1 : ((k % (gt P.orders d).toNat : Nat) : Int) = 0 := by
              rw [Int.natCast_emod, show (((gt P.orders d).toNat : Nat) : Int) = gt P.orders d by omega]; exact hx0
            have h2 := Nat.div_add_mod k (gt P.orders d).toNat
            omega
          have hpk : K' (pw P (b d) k) := by rw [hj, G.pw_mul hbV]; exact t.sub.pw hw j
          exact t.piv _ (t.sub.mul _ _ hpk hy) e (by omega) b' hT h0
      · rintro K2 S h x ⟨k, y, hy, rfl⟩
        exact S.mul _ _ (S.pw (h d (Nat.le_refl d) hdn hb) k) (t.min K2 S (fun e a b' hbe => h e (by omega) b' hbe) y hy)

/-- a table that induces a subgroup -/
structure Ind (P : Pr) (H : List Int → Prop) (b : Nat → List Int) : Prop where
  sub : Sub P H
  mem : ∀ d, d < P.orders.length → b d ≠ [] → H (b d) ∧ T P d (b d) ∧ gt (b d) d = 1
  piv : ∀ x, H x → ∀ d, d < P.orders.length → T P d x → gt x d ≠ 0 → b d ≠ []

theorem Grp.ind_of_closed {b : Nat → List Int} {R : List Int → Prop} (C : Closed P b R) {L : List (List Int)} (hL : ∀ y ∈ L, R y) (hb : ∀ d, d < P.orders.length → b d ≠ [] → gen P L (b d)) : Ind P (gen P L) b := by
  obtain ⟨K, t⟩ := G.tailSub C P.orders.length 0 (by omega)
  have hgs := G.gen_sub (L := L) (fun y hy => C.vec y (hL y hy))
  have hKL : ∀ x, K x → gen P L x := fun x hx => t.min _ hgs (fun e _ b' hbe => hb e b' hbe) x hx
  have hLK : ∀ x, gen P L x → K x := fun x hx => gen_le t.sub (fun y hy => t.res y (hL y hy) (T_zero.2 (C.vec y (hL y hy)))) hx
  exact ⟨hgs, fun d hd hbd => ⟨hb d hd hbd, C.tab d hd hbd⟩, fun x hx d hd hT h0 => t.piv x (hLK x hx) d (by omega) hd hT h0⟩

end

end Go.Proofs.YtigbpdaomgagiaaGreat

/- Plain: the canonical sequence of a subgroup is one: a table that is reduced is determined by the subgroup; so are representatives of cosets. -/
namespace Go.Proofs.YtigbpdaomgagiaaGreat

/-- a vector other than the neutral one has a depth -/
theorem depth_ex {P : Pr} {x : List Int} (hx : Vec P.orders x) (h : x ≠ zeros P.orders.length) : ∃ d, d < P.orders.length ∧ T P d x ∧ gt x d ≠ 0 := by
  have key : ∀ f d, d + f = P.orders.length → T P d x → ∃ d, d < P.orders.length ∧ T P d x ∧ gt x d ≠ 0 := by
    intro f
    induction f with
    | zero =>
      intro d hd hT
      exfalso; apply h
      have : d = P.orders.length := by omega
      subst this
      exact ext_gt (by rw [hx.1]; simp [zeros]) (fun k hk => by
        rw [hx.1] at hk
        rw [hT.2 k hk]; exact (gt_replicate _ _).symm)
    | succ f ih =>
      intro d hd hT
      by_cases h0 : gt x d = 0
      · exact ih (d + 1) (by omega) (hT.up h0)
      · exact ⟨d, by omega, hT, h0⟩
  exact key P.orders.length 0 (by omega) (T_zero.2 hx)

/-- a reduced table that induces a subgroup -/
structure Red (P : Pr) (H : List Int → Prop) (r : Nat → List Int) : Prop extends Ind P H r where
  red : ∀ d e, d < e → e < P.orders.length → r d ≠ [] → r e ≠ [] → gt (r d) e = 0

/-- a table as a sequence -/
def seqOf (n : Nat) (r : Nat → List Int) : List (List Int) := (List.range n).filterMap (fun d => if r d = [] then none else some (r d))

section
variable {P : Pr} (G : Grp P)
include G

/-- y is the representative of x for a subgroup with the table r -/
def Rep (P : Pr) (H : List Int → Prop) (r : Nat → List Int) (x y : List Int) : Prop := Vec P.orders y ∧ H (rMul P (rInv P x) y) ∧ ∀ e, e < P.orders.length → r e ≠ [] → gt y e = 0

theorem Grp.coset_one {H : List Int → Prop} {b : Nat → List Int} (I : Ind P H b) {x y : List Int} (hx : Vec P.orders x) (hy : Vec P.orders y) (h : H (rMul P (rInv P x) y))
    (hx0 : ∀ e, e < P.orders.length → b e ≠ [] → gt x e = 0) (hy0 : ∀ e, e < P.orders.length → b e ≠ [] → gt y e = 0) : x = y := by
  have hxi := G.invV hx
  have e1 : rMul P x (rMul P (rInv P x) y) = y := by rw [← G.ass hx hxi hy, G.mul_inv hx, G.grp.el _ hy]
  by_cases hz : rMul P (rInv P x) y = zeros P.orders.length
  · rw [hz, G.grp.er _ hx] at e1; exact e1
  · exfalso
    have hzv := I.sub.vec _ h
    obtain ⟨e, he, hT, h0⟩ := depth_ex hzv hz
    have hp := I.piv _ h e he hT h0
    have h2 := (G.right (Nat.le_of_lt he) hx hT).2 he
    rw [e1, hx0 e he hp, hy0 e he hp, Int.zero_add] at h2
    have hb := hzv.2 e he
    rw [Int.emod_eq_of_lt hb.1 hb.2] at h2
    exact h0 h2.symm

theorem Grp.rep_one {H : List Int → Prop} {b : Nat → List Int} (I : Ind P H b) {x y y' : List Int} (hx : Vec P.orders x) (h : Rep P H b x y) (h' : Rep P H b x y') : y = y' := by
  refine G.coset_one I h.1 h'.1 ?_ h.2.2 h'.2.2
  have hi := G.invV hx
  have hyi := G.invV h.1
  have e : rMul P (rInv P y) y' = rMul P (rInv P (rMul P (rInv P x) y)) (rMul P (rInv P x) y') := by
    rw [G.inv_mulR hi h.1, G.inv_inv hx, G.ass hyi hx (G.mulV hi h'.1), ← G.ass hx hi h'.1, G.mul_inv hx, G.grp.el _ h'.1]
  rw [e]; exact I.sub.mul _ _ (I.sub.inv _ h.2.1) h'.2.1

theorem Grp.red_one {H : List Int → Prop} {r r' : Nat → List Int} (A : Red P H r) (B : Red P H r') : ∀ d, d < P.orders.length → r d = r' d := by
  intro d hd
  have pres : ∀ {s s' : Nat → List Int}, Ind P H s → Ind P H s' → ∀ e, e < P.orders.length → s e ≠ [] → s' e ≠ [] := fun I J e he h => by
    obtain ⟨h1, h2, h3⟩ := I.mem e he h
    exact J.piv _ h1 e he h2 (by rw [h3]; decide)
  by_cases h : r d = []
  · by_cases h' : r' d = []
    · rw [h, h']
    · exact absurd h (pres B.toInd A.toInd d hd h')
  · have h' := pres A.toInd B.toInd d hd h
    obtain ⟨a1, a2, a3⟩ := A.mem d hd h
    obtain ⟨b1, b2, b3⟩ := B.mem d hd h'
    -- the quotient lies deeper; compare by representatives
    have hz := G.diff hd a2 b2 (by rw [a3, b3])
    have hzH := A.sub.mul _ _ (A.sub.inv _ a1) b1
    have hai := G.invV a2.1
    have e1 : rMul P (r d) (rMul P (rInv P (r d)) (r' d)) = r' d := by rw [← G.ass a2.1 hai b2.1, G.mul_inv a2.1, G.grp.el _ b2.1]
    by_cases hz0 : rMul P (rInv P (r d)) (r' d) = zeros P.orders.length
    · rw [hz0, G.grp.er _ a2.1] at e1; exact e1
    · exfalso
      obtain ⟨e, he, hT, h0⟩ := depth_ex hz.1 hz0
      have hde : d < e := by
        have : ¬ e < d + 1 := fun h => h0 (hz.2 e h)
        omega
      have hp := A.piv _ hzH e he hT h0
      have hp' := pres A.toInd B.toInd e he hp
      have h2 := (G.right (Nat.le_of_lt he) a2.1 hT).2 he
      rw [e1, A.red d e hde he h hp, B.red d e hde he h' hp', Int.zero_add] at h2
      have hb := hz.1.2 e he
      rw [Int.emod_eq_of_lt hb.1 hb.2] at h2
      exact h0 h2.symm

omit G in
theorem seqOf_congr {n : Nat} {r r' : Nat → List Int} (h : ∀ d, d < n → r d = r' d) : seqOf n r = seqOf n r' := by
  unfold seqOf
  induction n with
  | zero => rfl
  | succ n ih =>
    have e := h n (by omega)
    rw [List.range_succ, List.filterMap_append, List.filterMap_append, ih (fun d hd => h d (by omega))]
    simp only [List.filterMap_cons, List.filterMap_nil, e]

/-- both sides' sequences of one subgroup are one -/
theorem Grp.seq_one {H : List Int → Prop} {r r' : Nat → List Int} (A : Red P H r) (B : Red P H r') : seqOf P.orders.length r = seqOf P.orders.length r' :=
  seqOf_congr (G.red_one A B)

end

end Go.Proofs.YtigbpdaomgagiaaGreat

/- Plain: what holds while a table by depths grows: each element that was looked at is neutral, waits in the queue, or is led deeper by the table. -/
namespace Go.Proofs.YtigbpdaomgagiaaGreat

/-- the subgroup that a set of elements generates -/
def genP (P : Pr) (Q : List Int → Prop) (x : List Int) : Prop := ∀ H, Sub P H → (∀ y, Q y → H y) → H x

structure AddInv (P : Pr) (Q : List Int → Prop) (b : Nat → List Int) (q : List (List Int)) (R : List Int → Prop) : Prop where
  tab : ∀ d, d < P.orders.length → b d ≠ [] → R (b d) ∧ T P d (b d) ∧ gt (b d) d = 1
  vec : ∀ x, R x → Vec P.orders x
  que : ∀ x ∈ q, R x
  src : ∀ x, Q x → R x
  step : ∀ x, R x → x = zeros P.orders.length ∨ x ∈ q ∨ ∃ d, d < P.orders.length ∧ T P d x ∧ gt x d ≠ 0 ∧ b d ≠ [] ∧ ∃ x', R x' ∧ T P (d + 1) x' ∧ ∀ K, Sub P K → K (b d) → K x' → K x
  pow : ∀ d, d < P.orders.length → b d ≠ [] → R (pw P (b d) (gt P.orders d).toNat)
  com : ∀ d e, d < e → e < P.orders.length → b d ≠ [] → b e ≠ [] → ∃ c, R c ∧ T P (d + 1) c ∧ ∀ K, Sub P K → K (b e) → K c → K (rConj P (b e) (b d))
  gen : ∀ x, R x → genP P Q x

section
variable {P : Pr} (G : Grp P)
include G

theorem Grp.genP_sub {Q : List Int → Prop} (hQ : ∀ y, Q y → Vec P.orders y) : Sub P (genP P Q) :=
  ⟨fun _ h => h _ G.sub_all hQ, fun _ S _ => S.one, fun _ _ h k _ S hH => S.mul _ _ (h _ S hH) (k _ S hH), fun _ h _ S hH => S.inv _ (h _ S hH)⟩
omit G in
theorem genP_mem {Q : List Int → Prop} {y : List Int} (hy : Q y) : genP P Q y := fun _ _ hH => hH y hy
omit G in
theorem genP_le {Q : List Int → Prop} {H : List Int → Prop} (S : Sub P H) (h : ∀ y, Q y → H y) {x : List Int} (hx : genP P Q x) : H x := hx _ S h

theorem Grp.addInv_start {H : List Int → Prop} {b : Nat → List Int} (I : Ind P H b) {list : List (List Int)} (hl : ∀ x ∈ list, Vec P.orders x) :
    AddInv P (fun x => H x ∨ x ∈ list) b list (fun x => H x ∨ x ∈ list) := by
  have S := I.sub
  refine ⟨fun d hd hb => ?_, ?_, fun x hx => .inr hx, fun x hx => hx, ?_, fun d hd hb => .inl (S.pw (I.mem d hd hb).1 _), fun d e hde he hbd hbe => ?_, fun x hx => genP_mem hx⟩
  · obtain ⟨h1, h2, h3⟩ := I.mem d hd hb
    exact ⟨.inl h1, h2, h3⟩
  · rintro x (h | h)
    · exact S.vec x h
    · exact hl x h
  · rintro x (h | h)
    · by_cases h0 : x = zeros P.orders.length
      · exact .inl h0
      · obtain ⟨d, hd, hT, hx0⟩ := depth_ex (S.vec x h) h0
        have hb := I.piv x h d hd hT hx0
        obtain ⟨m1, m2, m3⟩ := I.mem d hd hb
        have ho := G.v.ord7 d hd
        have hxd := hT.1.2 d hd
        refine .inr (.inr ⟨d, hd, hT, hx0, hb, rMul P (pw P (b d) (gt P.orders d - gt x d).toNat) x, .inl (S.mul _ _ (S.pw m1 _) h), ?_, fun K SK h1 h2 => ?_⟩)
        · refine (G.T_mul (Nat.le_of_lt hd) (G.pw_T (Nat.le_of_lt hd) m2 _) hT).up ?_
          rw [(G.right (Nat.le_of_lt hd) (G.pw_vec m2.1 _) hT).2 hd, G.pw_at hd m2, m3, Int.mul_one, Int.emod_add_emod, show (((gt P.orders d - gt x d).toNat : Nat) : Int) + gt x d = gt P.orders d by omega, Int.emod_self]
        · have h3 := SK.mul _ _ (SK.inv _ (SK.pw h1 (gt P.orders d - gt x d).toNat)) h2
          rwa [← G.ass (G.invV (G.pw_vec m2.1 _)) (G.pw_vec m2.1 _) hT.1, G.inv_mul (G.pw_vec m2.1 _), G.grp.el _ hT.1] at h3
    · exact .inr (.inl h)
  · obtain ⟨m1, m2, m3⟩ := I.mem d (by omega) hbd
    obtain ⟨k1, k2, k3⟩ := I.mem e he hbe
    have hk2 := k2.down (show d + 1 ≤ e by omega)
    refine ⟨_, .inl (S.mul _ _ (S.inv _ (S.mul _ _ m1 k1)) (S.mul _ _ k1 m1)), (G.comm_deep (by omega) m2 hk2).2, fun K SK h1 h2 => ?_⟩
    rw [G.conj_of_comm k2.1 m2.1]
    exact SK.mul _ _ h1 h2

omit G in
/-- one step of sifting, by a power from the left or from the right -/
theorem addInv_sift {Q : List Int → Prop} {b : Nat → List Int} {q : List (List Int)} {R : List Int → Prop} {y y' : List Int} (A : AddInv P Q b (y :: q) R) {d : Nat} (hd : d < P.orders.length) (hT : T P d y) (h0 : gt y d ≠ 0) (hb : b d ≠ [])
    (hy' : T P (d + 1) y') (hK : ∀ K, Sub P K → K (b d) → K y' → K y) (hgen : ∀ K, Sub P K → K (b d) → K y → K y') : AddInv P Q b (y' :: q) (fun x => R x ∨ x = y') := by
  refine ⟨fun e he hbe => ⟨.inl (A.tab e he hbe).1, (A.tab e he hbe).2⟩, ?_, ?_, fun x hx => .inl (A.src x hx), ?_, fun e he hbe => .inl (A.pow e he hbe), fun d e hde he h1 h2 => ?_, ?_⟩
  · rintro x (h | h)
    · exact A.vec x h
    · rw [h]; exact hy'.1
  · intro x hx
    rcases List.mem_cons.1 hx with h | h
    · exact .inr h
    · exact .inl (A.que x (List.mem_cons_of_mem _ h))
  · rintro x (h | h)
    · rcases A.step x h with h1 | h1 | ⟨e, h2, h3, h4, h5, x', h6, h7, h8⟩
      · exact .inl h1
      · rcases List.mem_cons.1 h1 with h2 | h2
        · rw [h2]; exact .inr (.inr ⟨d, hd, hT, h0, hb, y', .inr rfl, hy', hK⟩)
        · exact .inr (.inl (List.mem_cons_of_mem _ h2))
      · exact .inr (.inr ⟨e, h2, h3, h4, h5, x', .inl h6, h7, h8⟩)
    · exact .inr (.inl (by rw [h]; exact List.mem_cons_self))
  · obtain ⟨c, c1, c2⟩ := A.com d e hde he h1 h2
    exact ⟨c, .inl c1, c2⟩
  · rintro x (h | h)
    · exact A.gen x h
    · rw [h]
      intro K S hQ
      exact hgen K S (A.gen _ (A.tab d hd hb).1 K S hQ) (A.gen _ (A.que y List.mem_cons_self) K S hQ)

omit G in
/-- the neutral element needs no waiting -/
theorem addInv_drop {Q : List Int → Prop} {b : Nat → List Int} {q : List (List Int)} {R : List Int → Prop} {y : List Int} (A : AddInv P Q b (y :: q) R) (hy : y = zeros P.orders.length) : AddInv P Q b q R := by
  refine ⟨A.tab, A.vec, fun x hx => A.que x (List.mem_cons_of_mem _ hx), A.src, fun x hx => ?_, A.pow, A.com, A.gen⟩
  rcases A.step x hx with h1 | h1 | h1
  · exact .inl h1
  · rcases List.mem_cons.1 h1 with h2 | h2
    · exact .inl (h2.trans hy)
    · exact .inr (.inl h2)
  · exact .inr (.inr h1)

/-- a new entry of the table; L: the commutators that are put to the queue -/
theorem Grp.addInv_insert {Q : List Int → Prop} {b b' : Nat → List Int} {q q' : List (List Int)} {R : List Int → Prop} {y z : List Int} (A : AddInv P Q b (y :: q) R) {d : Nat} (hd : d < P.orders.length) (hT : T P d y) (hb : b d = [])
    (hz : T P d z) (hz1 : gt z d = 1) (hgz : ∀ K, Sub P K → K y → K z) (hb' : ∀ e, e < P.orders.length → b' e = if e = d then z else b e)
    (hq1 : ∀ x ∈ q', x ∈ q ∨ x = y ∨ x = z ∨ x = pw P z (gt P.orders d).toNat ∨ ∃ e, e < P.orders.length ∧ b e ≠ [] ∧ (x = rMul P (rInv P (rMul P z (b e))) (rMul P (b e) z) ∨ x = rMul P (rInv P (rMul P (b e) z)) (rMul P z (b e))))
    (hq2 : ∀ x, x ∈ q ∨ x = y ∨ x = pw P z (gt P.orders d).toNat → x ∈ q')
    (hq3 : ∀ e, e < P.orders.length → b e ≠ [] → rMul P (rInv P (rMul P z (b e))) (rMul P (b e) z) ∈ q' ∨ rMul P (rInv P (rMul P (b e) z)) (rMul P z (b e)) ∈ q') :
    AddInv P Q b' q' (fun x => R x ∨ x = z ∨ x ∈ q') := by
  have ho := G.v.ord7 d hd
  have hzV := hz.1
  have hold : ∀ e, e < P.orders.length → b e ≠ [] → b' e = b e := fun e he hbe => by
    rw [hb' e he, if_neg (fun h => hbe (by rw [h]; exact hb))]
  have hcase : ∀ e, e < P.orders.length → b' e ≠ [] → (e = d ∧ b' e = z) ∨ (e ≠ d ∧ b e ≠ [] ∧ b' e = b e) := fun e he hbe => by
    by_cases h : e = d
    · exact .inl ⟨h, by rw [hb' e he, if_pos h]⟩
    · have h2 : b' e = b e := by rw [hb' e he, if_neg h]
      exact .inr ⟨h, by rw [← h2]; exact hbe, h2⟩
  have hbd' : b' d = z := by rw [hb' d hd, if_pos rfl]
  have hzne : z ≠ [] := by
    intro h
    have := hzV.1
    rw [h] at this; simp at this; omega
  have hqv : ∀ x ∈ q', Vec P.orders x ∧ genP P Q x := by
    have hgy := A.gen y (A.que y List.mem_cons_self)
    have hgz' : genP P Q z := fun K S hQ => hgz K S (hgy K S hQ)
    intro x hx
    rcases hq1 x hx with h | h | h | h | ⟨e, he, hbe, h | h⟩
    · have := A.que x (List.mem_cons_of_mem _ h); exact ⟨A.vec x this, A.gen x this⟩
    · rw [h]; exact ⟨hT.1, hgy⟩
    · rw [h]; exact ⟨hzV, hgz'⟩
    · rw [h]; exact ⟨G.pw_vec hzV _, fun K S hQ => S.pw (hgz' K S hQ) _⟩
    · have hbV := (A.tab e he hbe).2.1.1
      have hgb := A.gen _ (A.tab e he hbe).1
      rw [h]
      exact ⟨G.mulV (G.invV (G.mulV hzV hbV)) (G.mulV hbV hzV), fun K S hQ => S.mul _ _ (S.inv _ (S.mul _ _ (hgz' K S hQ) (hgb K S hQ))) (S.mul _ _ (hgb K S hQ) (hgz' K S hQ))⟩
    · have hbV := (A.tab e he hbe).2.1.1
      have hgb := A.gen _ (A.tab e he hbe).1
      rw [h]
      exact ⟨G.mulV (G.invV (G.mulV hbV hzV)) (G.mulV hzV hbV), fun K S hQ => S.mul _ _ (S.inv _ (S.mul _ _ (hgb K S hQ) (hgz' K S hQ))) (S.mul _ _ (hgz' K S hQ) (hgb K S hQ))⟩
  have hpz : T P (d + 1) (pw P z (gt P.orders d).toNat) := G.pw_order hd hz
  refine ⟨fun e he hbe => ?_, ?_, fun x hx => .inr (.inr hx), fun x hx => .inl (A.src x hx), ?_, fun e he hbe => ?_, fun e1 e2 hlt he2 h1 h2 => ?_, ?_⟩
  · rcases hcase e he hbe with ⟨h1, h2⟩ | ⟨h1, h2, h3⟩
    · subst h1; rw [h2]; exact ⟨.inr (.inl rfl), hz, hz1⟩
    · rw [h3]; exact ⟨.inl (A.tab e he h2).1, (A.tab e he h2).2⟩
  · rintro x (h | h | h)
    · exact A.vec x h
    · rw [h]; exact hzV
    · exact (hqv x h).1
  · rintro x (h | h | h)
    · rcases A.step x h with h1 | h1 | ⟨e, h2, h3, h4, h5, x', h6, h7, h8⟩
      · exact .inl h1
      · rcases List.mem_cons.1 h1 with h2 | h2
        · exact .inr (.inl (hq2 x (.inr (.inl h2))))
        · exact .inr (.inl (hq2 x (.inl h2)))
      · refine .inr (.inr ⟨e, h2, h3, h4, by rw [hold e h2 h5]; exact h5, x', .inl h6, h7, ?_⟩)
        rw [hold e h2 h5]; exact h8
    · -- the new entry itself: its power with the order, times its inverse
      subst h
      refine .inr (.inr ⟨d, hd, hz, by rw [hz1]; decide, by rw [hbd']; exact hzne, pw P x (gt P.orders d).toNat, .inr (.inr (hq2 _ (.inr (.inr rfl)))), hpz, fun K _ hk _ => by rw [hbd'] at hk; exact hk⟩)
    · exact .inr (.inl h)
  · rcases hcase e he hbe with ⟨h1, h2⟩ | ⟨h1, h2, h3⟩
    · subst h1; rw [h2]; exact .inr (.inr (hq2 _ (.inr (.inr rfl))))
    · rw [h3]; exact .inl (A.pow e he h2)
  · rcases hcase e1 (by omega) h1 with ⟨a1, a2⟩ | ⟨a1, a2, a3⟩
    · rcases hcase e2 he2 h2 with ⟨b1, b2⟩ | ⟨b1, b2, b3⟩
      · omega
      · subst a1
        rw [a2, b3]
        obtain ⟨k1, k2, k3⟩ := A.tab e2 he2 b2
        have hk2 := k2.down (show e1 + 1 ≤ e2 by omega)
        have hcd := G.comm_deep hd hz hk2
        rcases hq3 e2 he2 b2 with hm | hm
        · refine ⟨_, .inr (.inr hm), hcd.2, fun K SK g1 g2 => ?_⟩
          rw [G.conj_of_comm k2.1 hzV]; exact SK.mul _ _ g1 g2
        · refine ⟨_, .inr (.inr hm), hcd.1, fun K SK g1 g2 => ?_⟩
          rw [G.conj_of_comm k2.1 hzV, ← G.comm_inv k2.1 hzV]; exact SK.mul _ _ g1 (SK.inv _ g2)
    · rcases hcase e2 he2 h2 with ⟨b1, b2⟩ | ⟨b1, b2, b3⟩
      · subst b1
        rw [a3, b2]
        obtain ⟨k1, k2, k3⟩ := A.tab e1 (by omega) a2
        have hz2 := hz.down (show e1 + 1 ≤ e2 by omega)
        have hcd := G.comm_deep (by omega) k2 hz2
        rcases hq3 e1 (by omega) a2 with hm | hm
        · refine ⟨_, .inr (.inr hm), hcd.1, fun K SK g1 g2 => ?_⟩
          rw [G.conj_of_comm hzV k2.1, ← G.comm_inv hzV k2.1]; exact SK.mul _ _ g1 (SK.inv _ g2)
        · refine ⟨_, .inr (.inr hm), hcd.2, fun K SK g1 g2 => ?_⟩
          rw [G.conj_of_comm hzV k2.1]; exact SK.mul _ _ g1 g2
      · rw [a3, b3]
        obtain ⟨c, c1, c2⟩ := A.com e1 e2 hlt he2 a2 b2
        exact ⟨c, .inl c1, c2⟩
  · rintro x (h | h | h)
    · exact A.gen x h
    · rw [h]; intro K S hQ; exact hgz K S (A.gen _ (A.que y List.mem_cons_self) K S hQ)
    · exact (hqv x h).2

/-- the queue is empty: the table induces the subgroup -/
theorem Grp.addInv_end {Q : List Int → Prop} {b : Nat → List Int} {R : List Int → Prop} (A : AddInv P Q b [] R) : Ind P (genP P Q) b := by
  have C : Closed P b R := by
    refine ⟨fun d hd hb => (A.tab d hd hb).2, A.vec, fun q hq => ?_, A.pow, A.com⟩
    rcases A.step q hq with h | h | h
    · exact .inl h
    · cases h
    · exact .inr h
  obtain ⟨K, t⟩ := G.tailSub C P.orders.length 0 (by omega)
  have hgs := G.genP_sub (Q := Q) (fun y hy => A.vec y (A.src y hy))
  have hLK : ∀ x, genP P Q x → K x := fun x hx => genP_le t.sub (fun y hy => t.res y (A.src y hy) (T_zero.2 (A.vec y (A.src y hy)))) hx
  exact ⟨hgs, fun d hd hbd => ⟨A.gen _ (A.tab d hd hbd).1, (A.tab d hd hbd).2⟩, fun x hx d hd hT h0 => t.piv x (hLK x hx) d (by omega) hd hT h0⟩

end

end Go.Proofs.YtigbpdaomgagiaaGreat

/- Plain: depths; every subgroup has a canonical sequence, and every element a representative. -/
namespace Go.Proofs.YtigbpdaomgagiaaGreat

/-- the first entry that is not 0; the length if there is none -/
def dep (x : List Int) : Nat := x.findIdx (fun e => e != 0)

theorem dep_le (x : List Int) : dep x ≤ x.length := List.findIdx_le_length
theorem dep_zero {x : List Int} {k : Nat} (h : k < dep x) : gt x k = 0 := by
  have hl : k < x.length := Nat.lt_of_lt_of_le h (dep_le x)
  have := List.not_of_lt_findIdx h
  rw [gt_eq x k hl]; simpa using this
theorem dep_ne {x : List Int} (h : dep x < x.length) : gt x (dep x) ≠ 0 := by
  have h2 := List.findIdx_getElem (xs := x) (p := fun e => e != 0) (w := h)
  rw [gt_eq x _ h]
  show ¬ (x[List.findIdx (fun e => e != 0) x] = 0)
  simpa using h2
theorem dep_eq {x : List Int} {d : Nat} (hd : d < x.length) (hz : ∀ k, k < d → gt x k = 0) (h0 : gt x d ≠ 0) : dep x = d := by
  rcases Nat.lt_trichotomy (dep x) d with h | h | h
  · exact absurd (hz _ h) (dep_ne (by omega))
  · exact h
  · exact absurd (dep_zero h) h0
theorem dep_T {P : Pr} {x : List Int} (hx : Vec P.orders x) : T P (dep x) x := ⟨hx, fun _ hk => dep_zero hk⟩
theorem dep_top {P : Pr} {x : List Int} (hP : Valid P) (hx : Vec P.orders x) : dep x = P.orders.length ↔ x = zeros P.orders.length := by
  constructor
  · intro h
    have := dep_T hx
    rw [h] at this
    exact this.top hP
  · intro h
    rcases Nat.lt_or_ge (dep x) x.length with h1 | h1
    · exfalso
      apply dep_ne h1
      have : ∀ k, gt (zeros P.orders.length) k = 0 := fun k => gt_replicate _ _
      rw [h]; exact this _
    · have := dep_le x
      rw [← hx.1]; omega
theorem dep_lead {P : Pr} {x : List Int} {d : Nat} (hd : d < P.orders.length) (hT : T P d x) (h0 : gt x d ≠ 0) : dep x = d := dep_eq (by rw [hT.1.1]; exact hd) hT.2 h0

section
variable {P : Pr} (G : Grp P)
include G

/-- the turn of one entry -/
theorem Grp.clear {d : Nat} (hd : d < P.orders.length) {x z : List Int} (hx : Vec P.orders x) (hz : T P d z) (hz1 : gt z d = 1) (k : Nat) (hk : ((k : Int) + gt x d) % gt P.orders d = 0) :
    gt (rMul P x (pw P z k)) d = 0 ∧ ∀ j, j < d → gt (rMul P x (pw P z k)) j = gt x j := by
  have hp := G.pw_T (Nat.le_of_lt hd) hz k
  have h := G.right (Nat.le_of_lt hd) hx hp
  refine ⟨?_, h.1⟩
  rw [h.2 hd, G.pw_at hd hz, hz1, Int.mul_one, Int.add_emod_emod, Int.add_comm]; exact hk

/-- every element has a representative -/
theorem Grp.rep_from {H : List Int → Prop} {b : Nat → List Int} (I : Ind P H b) (f : Nat) : ∀ d x, d + f = P.orders.length → Vec P.orders x → ∃ y h, H h ∧ T P d h ∧ y = rMul P x h ∧ Vec P.orders y ∧ ∀ e, d ≤ e → e < P.orders.length → b e ≠ [] → gt y e = 0 := by
  induction f with
  | zero =>
    intro d x hd hx
    exact ⟨x, _, I.sub.one, T.zeros G.v d, (G.grp.er x hx).symm, hx, fun e a b' => by omega⟩
  | succ f ih =>
    intro d x hd hx
    have hdn : d < P.orders.length := by omega
    by_cases hb : b d = []
    · obtain ⟨y, h, h1, h2, h3, h4, h5⟩ := ih (d + 1) x (by omega) hx
      refine ⟨y, h, h1, h2.down (Nat.le_succ d), h3, h4, fun e a b' hbe => ?_⟩
      by_cases ed : e = d
      · subst ed; exact absurd hb hbe
      · exact h5 e (by omega) b' hbe
    · obtain ⟨m1, m2, m3⟩ := I.mem d hdn hb
      have ho := G.v.ord7 d hdn
      have hxd := hx.2 d hdn
      have hpv := G.pw_vec m2.1 (gt P.orders d - gt x d).toNat
      have hpT := G.pw_T (Nat.le_of_lt hdn) m2 (gt P.orders d - gt x d).toNat
      have hc := G.clear hdn hx m2 m3 (gt P.orders d - gt x d).toNat (by
        rw [show (((gt P.orders d - gt x d).toNat : Nat) : Int) + gt x d = gt P.orders d by omega, Int.emod_self])
      obtain ⟨y, h, h1, h2, h3, h4, h5⟩ := ih (d + 1) _ (by omega) (G.mulV hx hpv)
      refine ⟨y, rMul P (pw P (b d) (gt P.orders d - gt x d).toNat) h, I.sub.mul _ _ (I.sub.pw m1 _) h1, G.T_mul (Nat.le_of_lt hdn) hpT (h2.down (Nat.le_succ d)), ?_, h4, fun e a b' hbe => ?_⟩
      · rw [h3, G.ass hx hpv h2.1]
      · by_cases ed : e = d
        · subst ed
          rw [h3, (G.right (Nat.succ_le_of_lt hdn) (G.mulV hx hpv) h2).1 e (by omega)]; exact hc.1
        · exact h5 e (by omega) b' hbe

theorem Grp.rep_ex {H : List Int → Prop} {b : Nat → List Int} (I : Ind P H b) {x : List Int} (hx : Vec P.orders x) : ∃ y, Rep P H b x y := by
  obtain ⟨y, h, h1, h2, h3, h4, h5⟩ := G.rep_from I P.orders.length 0 x (by omega) hx
  refine ⟨y, h4, ?_, fun e he hb => h5 e (by omega) he hb⟩
  rw [h3, ← G.ass (G.invV hx) hx h2.1, G.inv_mul hx, G.grp.el _ h2.1]; exact h1

/-- a table can be reduced -/
theorem Grp.red_of_ind {H : List Int → Prop} {b : Nat → List Int} (I : Ind P H b) : ∃ r, Red P H r := by
  have key : ∀ d, ∃ y, (b d = [] → y = []) ∧ (d < P.orders.length → b d ≠ [] → y ≠ [] ∧ H y ∧ T P d y ∧ gt y d = 1 ∧ ∀ e, d < e → e < P.orders.length → b e ≠ [] → gt y e = 0) := by
    intro d
    by_cases hb : b d = []
    · exact ⟨[], fun _ => rfl, fun _ h => absurd hb h⟩
    · by_cases hd : d < P.orders.length
      · obtain ⟨m1, m2, m3⟩ := I.mem d hd hb
        obtain ⟨y, h, h1, h2, h3, h4, h5⟩ := G.rep_from I (P.orders.length - (d + 1)) (d + 1) (b d) (by omega) m2.1
        have hyT : T P d y := by rw [h3]; exact G.T_mul (Nat.le_of_lt hd) m2 (h2.down (Nat.le_succ d))
        refine ⟨y, fun h => absurd h hb, fun _ _ => ⟨?_, ?_, hyT, ?_, fun e a b' hbe => h5 e (by omega) b' hbe⟩⟩
        · intro e
          have := h4.1
          rw [e] at this; simp at this; omega
        · rw [h3]; exact I.sub.mul _ _ m1 h1
        · rw [h3, (G.right (Nat.succ_le_of_lt hd) m2.1 h2).1 d (by omega)]; exact m3
      · exact ⟨[], fun _ => rfl, fun h => absurd h hd⟩
  have hex := fun d => key d
  refine ⟨fun d => Classical.choose (hex d), ⟨⟨I.sub, fun d hd hr => ?_, fun x hx d hd hT h0 => ?_⟩, fun d e hde he h1 h2 => ?_⟩⟩
  · have s := Classical.choose_spec (hex d)
    have hb : b d ≠ [] := fun h => hr (s.1 h)
    have := s.2 hd hb
    exact ⟨this.2.1, this.2.2.1, this.2.2.2.1⟩
  · have s := Classical.choose_spec (hex d)
    exact (s.2 hd (I.piv x hx d hd hT h0)).1
  · have s := Classical.choose_spec (hex d)
    have s2 := Classical.choose_spec (hex e)
    have hb : b d ≠ [] := fun h => h1 (s.1 h)
    have hb2 : b e ≠ [] := fun h => h2 (s2.1 h)
    exact (s.2 (by omega) hb).2.2.2.2 e hde he hb2

omit G in
/-- a unit modulo a prime up to 7 -/
theorem unit_ex {o a : Int} (ho : o = 2 ∨ o = 3 ∨ o = 5 ∨ o = 7) (ha : 0 < a) (hao : a < o) : ∃ k : Nat, ((k : Int) * a) % o = 1 := by
  rcases ho with rfl | rfl | rfl | rfl
  · exact ⟨1, by have : a = 1 := by omega
                 subst this; rfl⟩
  · rcases (show a = 1 ∨ a = 2 by omega) with rfl | rfl
    · exact ⟨1, rfl⟩
    · exact ⟨2, rfl⟩
  · rcases (show a = 1 ∨ a = 2 ∨ a = 3 ∨ a = 4 by omega) with rfl | rfl | rfl | rfl
    · exact ⟨1, rfl⟩
    · exact ⟨3, rfl⟩
    · exact ⟨2, rfl⟩
    · exact ⟨4, rfl⟩
  · rcases (show a = 1 ∨ a = 2 ∨ a = 3 ∨ a = 4 ∨ a = 5 ∨ a = 6 by omega) with rfl | rfl | rfl | rfl | rfl | rfl
    · exact ⟨1, rfl⟩
    · exact ⟨4, rfl⟩
    · exact ⟨5, rfl⟩
    · exact ⟨2, rfl⟩
    · exact ⟨3, rfl⟩
    · exact ⟨6, rfl⟩

open Classical in
/-- every subgroup has a table -/
theorem Grp.ind_ex {H : List Int → Prop} (S : Sub P H) : ∃ b, Ind P H b := by
  refine ⟨fun d => if h : ∃ y, d < P.orders.length ∧ H y ∧ T P d y ∧ gt y d = 1 then Classical.choose h else [], S, fun d _ hb => ?_, fun x hx d hd hT h0 => ?_⟩
  · by_cases h : ∃ y, d < P.orders.length ∧ H y ∧ T P d y ∧ gt y d = 1
    · simp only [dif_pos h] at hb ⊢
      exact (Classical.choose_spec h).2
    · simp only [dif_neg h] at hb; exact absurd rfl hb
  · have hxd := hT.1.2 d hd
    obtain ⟨k, hk⟩ := unit_ex (G.v.ord d hd) (by omega) hxd.2
    have h : ∃ y, d < P.orders.length ∧ H y ∧ T P d y ∧ gt y d = 1 := ⟨pw P x k, hd, S.pw hx k, G.pw_T (Nat.le_of_lt hd) hT k, by rw [G.pw_at hd hT]; exact hk⟩
    simp only [dif_pos h]
    have hc := (Classical.choose_spec h).2.2.1.1.1
    intro e
    rw [e] at hc; simp at hc; omega

open Classical in
/-- THE canonical sequence of a subgroup -/
noncomputable def cseq (P : Pr) (H : List Int → Prop) : List (List Int) := if h : ∃ r, Red P H r then seqOf P.orders.length (Classical.choose h) else []

theorem Grp.cseq_red {H : List Int → Prop} {r : Nat → List Int} (A : Red P H r) : cseq P H = seqOf P.orders.length r := by
  unfold cseq
  have h : ∃ r, Red P H r := ⟨r, A⟩
  rw [dif_pos h]
  exact G.seq_one (Classical.choose_spec h) A
theorem Grp.cseq_spec {H : List Int → Prop} (S : Sub P H) : ∃ r, Red P H r ∧ cseq P H = seqOf P.orders.length r := by
  obtain ⟨b, I⟩ := G.ind_ex S
  obtain ⟨r, A⟩ := G.red_of_ind I
  exact ⟨r, A, G.cseq_red A⟩

end

/-! ### a sequence as a list -/
def depsOf (n : Nat) (r : Nat → List Int) : List Nat := (List.range n).filter (fun d => decide (r d ≠ []))
theorem seqOf_map (n : Nat) (r : Nat → List Int) : seqOf n r = (depsOf n r).map r := by
  unfold seqOf depsOf
  induction n with
  | zero => rfl
  | succ n ih =>
    rw [List.range_succ, List.filterMap_append, List.filter_append, List.map_append, ih]
    by_cases h : r n = [] <;> simp [h]
theorem depsOf_mem {n : Nat} {r : Nat → List Int} {d : Nat} : d ∈ depsOf n r ↔ d < n ∧ r d ≠ [] := by unfold depsOf; simp
theorem depsOf_sorted (n : Nat) (r : Nat → List Int) : (depsOf n r).Pairwise (fun a b => a < b) := List.Pairwise.filter _ List.pairwise_lt_range

end Go.Proofs.YtigbpdaomgagiaaGreat

/- Plain: the steps of sifting on both sides. -/
namespace Go.Proofs.YtigbpdaomgagiaaGreat

section
variable {P : Pr} (G : Grp P)
include G

/-- a factor from the left that clears the leading entry -/
theorem Grp.left_clear {d : Nat} (hd : d < P.orders.length) {x t : List Int} (hx : T P d x) (ht : T P d t) (ht1 : gt t d = 1) :
    T P (d + 1) (rMul P (pw P t (gt P.orders d - gt x d).toNat) x) ∧ ∀ K, Sub P K → K t → (K (rMul P (pw P t (gt P.orders d - gt x d).toNat) x) ↔ K x) := by
  have ho := G.v.ord7 d hd
  have hxd := hx.1.2 d hd
  have hpT := G.pw_T (Nat.le_of_lt hd) ht (gt P.orders d - gt x d).toNat
  refine ⟨?_, fun K S h1 => ⟨fun h2 => ?_, fun h2 => S.mul _ _ (S.pw h1 _) h2⟩⟩
  · refine (G.T_mul (Nat.le_of_lt hd) hpT hx).up ?_
    rw [(G.right (Nat.le_of_lt hd) hpT.1 hx).2 hd, G.pw_at hd ht, ht1, Int.mul_one, Int.emod_add_emod, show (((gt P.orders d - gt x d).toNat : Nat) : Int) + gt x d = gt P.orders d by omega, Int.emod_self]
  · have h3 := S.mul _ _ (S.inv _ (S.pw h1 (gt P.orders d - gt x d).toNat)) h2
    rwa [← G.ass (G.invV hpT.1) hpT.1 hx.1, G.inv_mul hpT.1, G.grp.el _ hx.1] at h3

/-- a power with any exponent -/
def pwZ (P : Pr) (x : List Int) (k : Int) : List Int := if k < 0 then pw P (rInv P x) (-k).toNat else pw P x k.toNat

theorem Grp.pwZ_vec {x : List Int} (hx : Vec P.orders x) (k : Int) : Vec P.orders (pwZ P x k) := by
  unfold pwZ; split
  · exact G.pw_vec (G.invV hx) _
  · exact G.pw_vec hx _
omit G in
theorem Sub.pwZ {H : List Int → Prop} (S : Sub P H) {x : List Int} (hx : H x) (k : Int) : H (Go.Proofs.YtigbpdaomgagiaaGreat.pwZ P x k) := by
  unfold Go.Proofs.YtigbpdaomgagiaaGreat.pwZ; split
  · exact S.pw (S.inv _ hx) _
  · exact S.pw hx _
theorem Grp.pwZ_T {x : List Int} {d : Nat} (hd : d ≤ P.orders.length) (hx : T P d x) (k : Int) : T P d (pwZ P x k) := by
  unfold pwZ; split
  · exact G.pw_T hd (G.T_inv hd hx) _
  · exact G.pw_T hd hx _

/-- powers of the inverse -/
theorem Grp.pw_inv {x : List Int} (hx : Vec P.orders x) (k : Nat) : rMul P (pw P (rInv P x) k) (pw P x k) = zeros P.orders.length := by
  have hi := G.invV hx
  induction k with
  | zero => exact G.grp.el _ G.oneV
  | succ k ih =>
    have p1 := G.pw_vec hi k
    have p2 := G.pw_vec hx k
    rw [pw_succ, G.pw_succ' hx, G.ass p1 hi (G.mulV hx p2), ← G.ass hi hx p2, G.inv_mul hx, G.grp.el _ p2, ih]

/-- the entry at the depth of an inverse's power -/
theorem Grp.inv_at {x : List Int} {d : Nat} (hd : d < P.orders.length) (hx : T P d x) : (gt (rInv P x) d + gt x d) % gt P.orders d = 0 := by
  have hi := G.T_inv (Nat.le_of_lt hd) hx
  have h := (G.right (Nat.le_of_lt hd) hi.1 hx).2 hd
  rw [G.inv_mul hx.1] at h
  have h0 : gt (zeros P.orders.length) d = 0 := gt_replicate _ _
  rw [← h, h0]

/-- a factor from the right that clears an entry -/
theorem Grp.right_clear {d : Nat} (hd : d < P.orders.length) {x t : List Int} (hx : Vec P.orders x) (ht : T P d t) (ht1 : gt t d = 1) :
    gt (rMul P x (pwZ P t (-(gt x d)))) d = 0 ∧ (∀ k, k < d → gt (rMul P x (pwZ P t (-(gt x d)))) k = gt x k) ∧ Vec P.orders (rMul P x (pwZ P t (-(gt x d)))) := by
  have ho := G.v.ord7 d hd
  have hxd := hx.2 d hd
  have hzT := G.pwZ_T (Nat.le_of_lt hd) ht (-(gt x d))
  have h := G.right (Nat.le_of_lt hd) hx hzT
  refine ⟨?_, h.1, G.mulV hx hzT.1⟩
  rw [h.2 hd]
  by_cases h0 : gt x d = 0
  · have : pwZ P t (-(gt x d)) = zeros P.orders.length := by
      unfold pwZ; rw [h0]; simp; rfl
    have hz : gt (zeros P.orders.length) d = 0 := gt_replicate _ _
    rw [this, hz, h0]; simp
  · have e : pwZ P t (-(gt x d)) = pw P (rInv P t) (gt x d).toNat := by
      unfold pwZ; rw [if_pos (by omega), Int.neg_neg]
    rw [e, G.pw_at hd (G.T_inv (Nat.le_of_lt hd) ht)]
    have hi := G.inv_at hd ht
    rw [ht1] at hi
    have hib := (G.invV ht.1).2 d hd
    -- the inverse's entry is one less than the order
    have e2 : gt (rInv P t) d = gt P.orders d - 1 := by
      by_cases h1 : gt (rInv P t) d + 1 < gt P.orders d
      · rw [Int.emod_eq_of_lt (by omega) h1] at hi; omega
      · omega
    rw [e2, show (((gt x d).toNat : Nat) : Int) = gt x d by omega, Int.add_emod_emod]
    have e3 : gt x d + gt x d * (gt P.orders d - 1) = gt x d * gt P.orders d := by rw [Int.mul_sub, Int.mul_one]; omega
    rw [e3, Int.mul_emod_left]

/-- a leading entry made 1 -/
theorem Grp.lead_one {d : Nat} (hd : d < P.orders.length) {x : List Int} (hx : T P d x) (k : Int) (hk0 : 0 ≤ k) (hk : (k * gt x d) % gt P.orders d = 1) : T P d (pw P x k.toNat) ∧ gt (pw P x k.toNat) d = 1 := by
  refine ⟨G.pw_T (Nat.le_of_lt hd) hx _, ?_⟩
  rw [G.pw_at hd hx, show ((k.toNat : Nat) : Int) = k by omega]; exact hk

end

end Go.Proofs.YtigbpdaomgagiaaGreat

/- Residues: impl.residue. -/
namespace Go.Proofs.YtigbpdaomgagiaaGreat
open Go.RowKit

theorem tmod_residue (a m : Int) (hm : 0 < m) : (a.tmod m + m).tmod m = a % m := by
  have h1 : -m < a.tmod m ∧ a.tmod m < m := ⟨Int.neg_lt_of_neg_lt (by have := Int.lt_tmod_of_pos a hm; omega), Int.tmod_lt_of_pos a hm⟩
  rw [Int.tmod_eq_emod_of_nonneg (by omega), Int.add_emod_right]
  rw [Int.tmod_eq_emod]
  split
  · rw [show ((0 : Nat) : Int) = 0 from rfl, Int.sub_zero, Int.emod_emod_of_dvd _ (Int.dvd_refl m)]
  · rw [show a % m - m.natAbs = a % m - m by omega, Int.sub_emod, Int.emod_self, Int.sub_zero, Int.emod_emod_of_dvd _ (Int.dvd_refl m), Int.emod_emod_of_dvd _ (Int.dvd_refl m)]

theorem residue_ok (a m : Int) (w : World) (hm : 1 ≤ m ∧ m ≤ 1000000000) :
    Calls Tryz.prog 223 #[.int .i64 a, .int .i64 m] w fun e w' => e = .returned (.int .i64 (a % m)) ∧ w = w' := by
  have h1 : -m < a.tmod m ∧ a.tmod m < m := ⟨by have := Int.lt_tmod_of_pos a (show 0 < m by omega); omega, Int.tmod_lt_of_pos a (by omega)⟩
  have e0 := tmod_residue a m (by omega)
  have e1 : IntKind.i64.wrap (a.tmod m) = a.tmod m := IntWalk.i64_in _ (by omega)
  have e2 : IntKind.i64.wrap (a.tmod m + m) = a.tmod m + m := IntWalk.i64_in _ (by omega)
  have h3 : 0 ≤ a % m ∧ a % m < m := ⟨Int.emod_nonneg _ (by omega), Int.emod_lt_of_pos _ (by omega)⟩
  have e3 : IntKind.i64.wrap (a % m) = a % m := IntWalk.i64_in _ (by omega)
  have hm0 : (m == 0) = false := by simp; omega
  have hm1 : ¬ m = 0 := by omega
  have hm2 : ¬ m = -1 := by omega
  go_enter Tryz.func223, Tryz.ntmps223
  go_wp2
  go_ret
  exact ⟨rfl, rfl⟩

end Go.Proofs.YtigbpdaomgagiaaGreat

/- impl.depthOf, impl.commutator, impl.inverseMod. -/
namespace Go.Proofs.YtigbpdaomgagiaaGreat
open Go.RowKit

theorem dep_all {X : List Int} (h : ∀ k, k < X.length → gt X k = 0) : dep X = X.length := by
  have := dep_le X
  rcases Nat.lt_or_ge (dep X) X.length with h1 | h1
  · exact absurd (h _ h1) (dep_ne h1)
  · omega

set_option maxHeartbeats 400000 in
theorem depthOf_ok (v : Value) (X : List Int) (w : World) (S : Nat → Prop) (h : Ints S w v X) :
    Calls Tryz.prog 186 #[v] w fun e w' => e = .returned (.int .i64 (dep X)) ∧ w = w' := by
  obtain ⟨a, cap, rfl, _, _⟩ := h.shape
  go_enter Tryz.func186, Tryz.ntmps186
  go_wp2
  go_loop [7] (fun i => ∃ k : Nat, i = .int .i64 k ∧ k ≤ X.length ∧ ∀ j, j < k → gt X j = 0) (fun i => X.length - (intOf i).toNat)
  case atStart => exact ⟨0, rfl, by omega, fun j hj => by omega⟩
  case round =>
    obtain ⟨k, rfl, hk, hz⟩ := hrel
    have HZ := Lib.hid hz; clear hz
    by_cases hlt : k < X.length
    · obtain ⟨b, off, rfl, _, _, hc⟩ := Ints.at h k hlt
      by_cases hx : gt X k = 0
      · have hb : (gt X k != 0) = false := by simp [hx]
        have HX := Lib.hid hx; clear hx
        go_wp2
        go_round
        case rel => exact ⟨k + 1, by go_num, by omega, fun j hj => by
          rcases Nat.lt_succ_iff_lt_or_eq.1 hj with h1 | h1
          · exact HZ.out j h1
          · rw [h1]; exact HX.out⟩
        case measure => simp [intOf]; omega
      · have hb : (gt X k != 0) = true := by simp [hx]
        have he : dep X = k := dep_eq hlt HZ.out hx
        have HE := Lib.hid he; clear he hx
        go_wp2
        go_ret
        exact ⟨by rw [HE.out]; rfl, rfl⟩
    · have hke : k = X.length := by omega
      have he : dep X = X.length := dep_all (fun j hj => HZ.out j (by omega))
      have HE := Lib.hid he; clear he
      go_wp2
      go_ret
      exact ⟨by rw [HE.out]; rfl, rfl⟩

theorem Grp.comm_eq {P : Pr} (G : Grp P) {x y : List Int} (hx : Vec P.orders x) (hy : Vec P.orders y) : tv P (iInv P x) (iConj P x y) = rMul P (rInv P (rMul P y x)) (rMul P x y) := by
  have hi := G.invV hx
  have hyi := G.invV hy
  have c1 := G.mulV hx hy
  rw [G.iInv_eq hx, G.iConj_eq hx hy, G.tv_eq hi (G.conjV hx hy), G.inv_mulR hy hx]
  unfold rConj
  rw [G.ass hi hyi c1]

set_option maxHeartbeats 400000 in
theorem commutator_ok (P : Pr) (G : Grp P) (w : World) (p a b : Value) (A B : List Int) (Sp Sa Sb : Nat → Prop) (hp : PresP Sp w p P) (ha : Ints Sa w a A) (hb : Ints Sb w b B) (hA : Vec P.orders A) (hB : Vec P.orders B) :
    Calls Tryz.prog 189 #[p, a, b] w (Ret w fun w' v => Own w.heap.size w' v (rMul P (rInv P (rMul P B A)) (rMul P A B))) := by
  have hP := G.v
  have hn6 := hP.n6
  have hl1 : (iInv P A).length ≤ 6 := by rw [(iInv_vec hP A hA).1]; omega
  have hcv : Vec P.orders (iConj P A B) := by rw [G.iConj_eq hA hB]; exact G.conjV hA hB
  have hl2 : (iConj P A B).length ≤ 6 := by rw [hcv.1]; omega
  go_enter Tryz.func189, Tryz.ntmps189
  go_wp2_with fail
  refine Calls.mono (invert_ok P hP w p a A Sp Sa hp ha hA) ?_
  rintro e1 w1 ⟨r, rfl, hg1, hR⟩
  go_wp2_with fail
  refine Calls.mono (conjugate_ok P hP w1 p a b A B Sp Sa Sb (hp.ext hg1) (ha.ext hg1) (hb.ext hg1) hA hB) ?_
  rintro e2 w2 ⟨m, rfl, hg2, hM⟩
  go_wp2_with fail
  refine Calls.mono (multiply_ok P hP w2 p r m _ _ Sp Any Any (hp.ext (grown_trans hg1 hg2)) ((hR.ext0 hg2).ints (by omega)) (hM.ints (by omega)) (iInv_vec hP A hA) hcv) ?_
  rintro e3 w3 ⟨q, rfl, hg3, hQ⟩
  rw [G.comm_eq hA hB] at hQ
  go_wp2
  go_ret
  exact ⟨_, rfl, grown_trans (grown_trans hg1 hg2) hg3, hQ.weak (by have := hg1.size; have := hg2.size; omega)⟩

/-- the state of the extended Euclid after i steps -/
def euc (m a : Int) : Nat → Int × Int × Int × Int
  | 0 => (m, a, 0, 1)
  | i + 1 => let s := euc m a i; if s.2.1 = 0 then s else (s.2.1, s.1 - s.1 / s.2.1 * s.2.1, s.2.2.2, s.2.2.1 - s.1 / s.2.1 * s.2.2.2)

def eucGood (m a : Int) : Bool :=
  (List.range 6).all (fun i => let s := euc m a i; decide (0 ≤ s.1 ∧ s.1 ≤ 7 ∧ 0 ≤ s.2.1 ∧ s.2.1 ≤ 7 ∧ -7 ≤ s.2.2.1 ∧ s.2.2.1 ≤ 7 ∧ -7 ≤ s.2.2.2 ∧ s.2.2.2 ≤ 7 ∧ (s.2.1 = 0 ∨ i < 5))) &&
    decide ((euc m a 5).2.1 = 0 ∧ (euc m a 5).1 = 1 ∧ ((euc m a 5).2.2.1 % m * a) % m = 1)

theorem euc_good {m a : Int} (hm : m = 2 ∨ m = 3 ∨ m = 5 ∨ m = 7) (h1 : 1 ≤ a) (h2 : a < m) : eucGood m a = true := by
  rcases hm with rfl | rfl | rfl | rfl
  · have : a = 1 := by omega
    subst this; decide
  · rcases (show a = 1 ∨ a = 2 by omega) with rfl | rfl <;> decide
  · rcases (show a = 1 ∨ a = 2 ∨ a = 3 ∨ a = 4 by omega) with rfl | rfl | rfl | rfl <;> decide
  · rcases (show a = 1 ∨ a = 2 ∨ a = 3 ∨ a = 4 ∨ a = 5 ∨ a = 6 by omega) with rfl | rfl | rfl | rfl | rfl | rfl <;> decide

theorem euc_stay (m a : Int) (i j : Nat) (h : (euc m a i).2.1 = 0) : euc m a (i + j) = euc m a i := by
  induction j with
  | zero => rfl
  | succ j ih =>
    show euc m a (i + j + 1) = _
    simp only [euc, ih, if_pos h]

set_option maxHeartbeats 1000000 in
theorem inverseMod_ok (a m : Int) (w : World) (hm : m = 2 ∨ m = 3 ∨ m = 5 ∨ m = 7) (h1 : 1 ≤ a) (h2 : a < m) :
    Calls Tryz.prog 187 #[.int .i64 a, .int .i64 m] w fun e w' => (∃ k : Int, e = .returned (.tuple #[.int .i64 k, .bool true]) ∧ 0 ≤ k ∧ k < m ∧ (k * a) % m = 1) ∧ w = w' := by
  have hg := euc_good hm h1 h2
  unfold eucGood at hg
  rw [Bool.and_eq_true, List.all_eq_true] at hg
  obtain ⟨hall, hend⟩ := hg
  have hb : ∀ i, i < 6 → 0 ≤ (euc m a i).1 ∧ (euc m a i).1 ≤ 7 ∧ 0 ≤ (euc m a i).2.1 ∧ (euc m a i).2.1 ≤ 7 ∧ -7 ≤ (euc m a i).2.2.1 ∧ (euc m a i).2.2.1 ≤ 7 ∧ -7 ≤ (euc m a i).2.2.2 ∧ (euc m a i).2.2.2 ≤ 7 ∧ ((euc m a i).2.1 = 0 ∨ i < 5) := fun i hi => of_decide_eq_true (hall i (List.mem_range.2 hi))
  have he := of_decide_eq_true hend
  have HB := Lib.hid (And.intro hb he); clear hb he hall hend
  have hm7 : 2 ≤ m ∧ m ≤ 7 := by omega
  have HM := Lib.hid hm; clear hm
  go_enter Tryz.func187, Tryz.ntmps187
  go_wp2
  go_loopg [6, 7, 8, 9] 5 (fun gk rv nv xv yv wr => ∃ (i : Nat) (r n x y : Int), gk + i = 5 ∧ rv = .int .i64 r ∧ nv = .int .i64 n ∧ xv = .int .i64 x ∧ yv = .int .i64 y ∧ euc m a i = (r, n, x, y) ∧ w = wr)
  case atStart => exact ⟨0, m, a, 0, 1, rfl, rfl, rfl, rfl, rfl, rfl, rfl⟩
  case round =>
    obtain ⟨i, r, n, x, y, hgi, rfl, rfl, rfl, rfl, hs, rfl⟩ := hrel
    have hbi := HB.out.1 i (by omega)
    rw [hs] at hbi
    simp only at hbi
    obtain ⟨b1, b2, b3, b4, b5, b6, b7, b8, b9⟩ := hbi
    have HS := Lib.hid (And.intro hs b9); clear hs b9
    by_cases hn : n = 0
    · subst hn
      have hst : euc m a 5 = (r, 0, x, y) := by
        have h3 := euc_stay m a i (5 - i) (by rw [HS.out.1])
        rw [show i + (5 - i) = 5 by omega] at h3
        rw [h3, HS.out.1]
      have hfin := HB.out.2
      rw [hst] at hfin
      simp only at hfin
      obtain ⟨_, hr, hk⟩ := hfin
      subst hr
      have hkb : 0 ≤ x % m ∧ x % m < m := ⟨Int.emod_nonneg _ (by omega), Int.emod_lt_of_pos _ (by omega)⟩
      have HK := Lib.hid hk; clear hk hst
      go_wp2_with (go_at_call 223; refine Calls.mono (residue_ok x m w (by omega)) ?_; rintro eR wR ⟨rfl, rfl⟩)
      go_ret2
      exact ⟨⟨_, rfl, hkb.1, hkb.2, HK.out⟩, rfl⟩
    · have hnz : (n != 0) = true := by simp [hn]
      have hi5 : i < 5 := HS.out.2.resolve_left hn
      have hnp : 0 < n := by omega
      have hstep : euc m a (i + 1) = (n, r - r / n * n, y, x - r / n * y) := by
        simp only [euc, HS.out.1]; rw [if_neg hn]
      have hb2 := HB.out.1 (i + 1) (by omega)
      rw [hstep] at hb2
      simp only at hb2
      have HS2 := Lib.hid (And.intro hstep hb2); clear hstep
      have hq0 : 0 ≤ r / n := Int.ediv_nonneg b1 (by omega)
      have hq7 : r / n ≤ 7 := Int.le_trans (Int.ediv_le_self _ b1) b2
      have hqn : 0 ≤ r / n * n := Int.mul_nonneg hq0 (by omega)
      have hqn7 : r / n * n ≤ 7 := by omega
      have hqy1 : -100 ≤ r / n * y ∧ r / n * y ≤ 100 := by omega
      have e1 : r.tdiv n = r / n := Int.tdiv_eq_ediv_of_nonneg b1
      have e2 : IntKind.i64.wrap (r / n) = r / n := IntWalk.i64_in _ (by omega)
      have e3 : IntKind.i64.wrap (r / n * n) = r / n * n := IntWalk.i64_in _ (by omega)
      have e4 : IntKind.i64.wrap (r - r / n * n) = r - r / n * n := IntWalk.i64_in _ (by omega)
      have e5 : IntKind.i64.wrap (r / n * y) = r / n * y := IntWalk.i64_in _ (by omega)
      have e6 : IntKind.i64.wrap (x - r / n * y) = x - r / n * y := IntWalk.i64_in _ (by omega)
      clear hb2 hn
      go_wp2
      go_roundg (gk - 1)
      case measure => omega
      case rel => exact ⟨i + 1, n, r - r / n * n, y, x - r / n * y, by omega, rfl, rfl, rfl, rfl, HS2.out.1, rfl⟩

end Go.Proofs.YtigbpdaomgagiaaGreat

/- Numbers of elements: impl.numberOf, spec.l10Number, impl.elementAt, spec.l10At, spec.l10One. -/
namespace Go.Proofs.YtigbpdaomgagiaaGreat
open Go.RowKit

def numTo (o x : List Int) : Nat → Int
  | 0 => 0
  | k + 1 => numTo o x k * gt o k + gt x k

def num (P : Pr) (x : List Int) : Int := numTo P.orders x P.orders.length

theorem numTo_bd {P : Pr} (hP : Valid P) {x : List Int} (hx : Vec P.orders x) (k : Nat) (hk : k ≤ P.orders.length) : 0 ≤ numTo P.orders x k ∧ numTo P.orders x k + 1 ≤ prodTo P.orders k := by
  induction k with
  | zero => simp [numTo, prodTo]
  | succ k ih =>
    obtain ⟨h1, h2⟩ := ih (by omega)
    have h3 := hP.pos k (by omega)
    have h4 := hx.2 k (by omega)
    have h5 : 0 ≤ numTo P.orders x k * gt P.orders k := Int.mul_nonneg h1 (by omega)
    have h6 : (numTo P.orders x k + 1) * gt P.orders k ≤ prodTo P.orders k * gt P.orders k := Int.mul_le_mul_of_nonneg_right h2 (by omega)
    rw [Int.add_mul, Int.one_mul] at h6
    simp only [numTo, prodTo]
    omega

theorem num_bd {P : Pr} (hP : Valid P) {x : List Int} (hx : Vec P.orders x) : 0 ≤ num P x ∧ num P x < ordP P := by
  have := numTo_bd hP hx P.orders.length (Nat.le_refl _)
  unfold num ordP; omega

set_option maxHeartbeats 400000 in
theorem numberOf_ok (P : Pr) (hP : Valid P) (w : World) (p x : Value) (X : List Int) (Sp Sx : Nat → Prop) (hp : PresP Sp w p P) (hx : Ints Sx w x X) (hX : Vec P.orders X) :
    Calls Tryz.prog 194 #[p, x] w fun e w' => e = .returned (.int .i64 (num P X)) ∧ w = w' := by
  have hn6 := hP.n6
  have hlX : X.length ≤ P.orders.length ∧ P.orders.length ≤ X.length := by rw [hX.1]; omega
  obtain ⟨pb, po, rfl⟩ := hp.shape
  obtain ⟨ax, capx, rfl, _, _⟩ := hx.shape
  obtain ⟨ao, capo, hco, hoi⟩ := hp.ordAt
  go_enter Tryz.func194, Tryz.ntmps194
  go_wp2
  go_loop [5, 10] (fun nv i => ∃ k : Nat, i = .int .i64 k ∧ nv = .int .i64 (numTo P.orders X k) ∧ k ≤ X.length) (fun _ i => X.length - (intOf i).toNat)
  case atStart => exact ⟨0, rfl, rfl, by omega⟩
  case round =>
    obtain ⟨k, rfl, rfl, hk⟩ := hrel
    by_cases hlt : k < X.length
    · obtain ⟨b, off, rfl, _, _, hc⟩ := Ints.at hx k hlt
      obtain ⟨b2, off2, rfl, _, _, hc2⟩ := Ints.at hoi k (by omega)
      have h1 := numTo_bd hP hX (k + 1) (by omega)
      have h2 := hP.pre (k + 1) (by omega)
      have h3 := hX.2 k (by omega)
      have h4 := numTo_bd hP hX k (by omega)
      have h7 := hP.ord7 k (by omega)
      have h5 : 0 ≤ numTo P.orders X k * gt P.orders k := Int.mul_nonneg h4.1 (by omega)
      have h6 : numTo P.orders X k * gt P.orders k ≤ 729 := by simp only [numTo] at h1; omega
      have h8 : 0 ≤ gt X k := h3.1
      have h9 : gt X k ≤ 7 := by omega
      clear h1 h2 h3 h4 h7
      go_wp2
      go_round
      case rel => exact ⟨k + 1, by go_num, rfl, by omega⟩
      case measure => simp [intOf]; omega
    · have hke : k = P.orders.length := by omega
      subst hke
      go_wp2
      go_ret
      exact ⟨rfl, rfl⟩

set_option maxHeartbeats 400000 in
theorem l10Number_ok (P : Pr) (hP : Valid P) (w : World) (pv x : Value) (X : List Int) (Sp Sx : Nat → Prop) (hp : PresV Sp w pv P) (hx : Ints Sx w x X) (hX : Vec P.orders X) :
    Calls Tryz.prog 190 #[pv, x] w (Ret w fun _ v => v = .int .i64 (num P X)) := by
  obtain ⟨vo, vp, vc, rfl, h3⟩ := hp
  have hn6 := hP.n6
  have hlX : X.length ≤ P.orders.length ∧ P.orders.length ≤ X.length := by rw [hX.1]; omega
  have hB := PresP.box h3 31
  have hg0 : Ext w (w.alloc (.cells #[vo, vp, vc] 31)) := World.grownBy_alloc _ _ _
  have hx0 := hx.ext hg0
  obtain ⟨ax, capx, rfl, _, _⟩ := hx.shape
  go_enter Tryz.func190, Tryz.ntmps190
  go_wp2
  generalize hw0 : w.alloc (.cells #[vo, vp, vc] 31) = w0 at *
  clear hw0
  go_loopw [5, 6] (fun nv i wr => ∃ k : Nat, i = .int .i64 k ∧ nv = .int .i64 (numTo P.orders X k) ∧ k ≤ X.length ∧ Ext w0 wr) (fun _ i _ => X.length - (intOf i).toNat)
  case atStart => exact ⟨0, rfl, rfl, by omega, Ext.refl _⟩
  case round =>
    obtain ⟨k, rfl, rfl, hk, hg⟩ := hrel
    by_cases hlt : k < X.length
    · obtain ⟨ao, capo, hco, hoi⟩ := (hB.ext hg).ordAt
      obtain ⟨b, off, rfl, _, _, hc⟩ := Ints.at (hx0.ext hg) k hlt
      obtain ⟨b2, off2, rfl, _, _, hc2⟩ := Ints.at hoi k (by omega)
      have h1 := numTo_bd hP hX (k + 1) (by omega)
      have h2 := hP.pre (k + 1) (by omega)
      have h3 := hX.2 k (by omega)
      have h4 := numTo_bd hP hX k (by omega)
      have h7 := hP.ord7 k (by omega)
      have h5 : 0 ≤ numTo P.orders X k * gt P.orders k := Int.mul_nonneg h4.1 (by omega)
      have h6 : numTo P.orders X k * gt P.orders k ≤ 729 := by simp only [numTo] at h1; omega
      have h8 : 0 ≤ gt X k := h3.1
      have h9 : gt X k ≤ 7 := by omega
      have hk1 : (k : Int) < X.length := by omega
      have hk2 : (k : Int) < P.orders.length := by omega
      have s1 : IntKind.i64.wrap (numTo P.orders X k * gt P.orders k) = numTo P.orders X k * gt P.orders k := IntWalk.i64_in _ (by omega)
      have s2 : IntKind.i64.wrap (numTo P.orders X k * gt P.orders k + gt X k) = numTo P.orders X k * gt P.orders k + gt X k := IntWalk.i64_in _ (by omega)
      clear h1 h2 h3 h4 h7
      go_wp2
      go_quiet (fail)
      clear s1 s2
      go_wp2
      go_roundw
      case rel => exact ⟨k + 1, by go_num, rfl, by omega, grown_trans hg (grown_drewN _ _ _)⟩
      case measure => simp [intOf]; omega
    · have hke : k = P.orders.length := by omega
      subst hke
      go_wp2
      go_ret
      exact ⟨_, rfl, grown_trans hg0 hg, rfl⟩

/-- the element with a number, from the last entry on -/
def elTo (o : List Int) (N : Nat) (m : Int) : Nat → List Int × Int
  | 0 => (List.replicate N 0, m)
  | k + 1 =>
    let s := elTo o N m k
    (s.1.set (N - 1 - k) (s.2 % gt o (N - 1 - k)), s.2 / gt o (N - 1 - k))

def elAt (P : Pr) (m : Int) : List Int := (elTo P.orders P.orders.length m P.orders.length).1

theorem elTo_inv {P : Pr} (hP : Valid P) (m : Int) (hm : 0 ≤ m) (k : Nat) (hk : k ≤ P.orders.length) :
    Vec P.orders (elTo P.orders P.orders.length m k).1 ∧ 0 ≤ (elTo P.orders P.orders.length m k).2 ∧ (elTo P.orders P.orders.length m k).2 ≤ m := by
  induction k with
  | zero =>
    refine ⟨⟨by simp [elTo], fun i hi => ?_⟩, hm, Int.le_refl _⟩
    have := hP.ord7 i hi
    simp only [elTo]; rw [gt_replicate]; omega
  | succ k ih =>
    obtain ⟨h1, h2, h3⟩ := ih (by omega)
    have ho := hP.ord7 (P.orders.length - 1 - k) (by omega)
    refine ⟨h1.set _ _ ⟨Int.emod_nonneg _ (by omega), fun _ => Int.emod_lt_of_pos _ (by omega)⟩, Int.ediv_nonneg h2 (by omega), ?_⟩
    exact Int.le_trans (Int.ediv_le_self _ h2) h3

theorem elAt_vec {P : Pr} (hP : Valid P) (m : Int) (hm : 0 ≤ m) : Vec P.orders (elAt P m) := (elTo_inv hP m hm _ (Nat.le_refl _)).1

set_option maxHeartbeats 400000 in
theorem l10One_ok (P : Pr) (hP : Valid P) (w : World) (pv : Value) (Sp : Nat → Prop) (hp : PresV Sp w pv P) :
    Calls Tryz.prog 211 #[pv] w (Ret w fun w' v => Own w.heap.size w' v (zeros P.orders.length)) := by
  obtain ⟨vo, vp, vc, rfl, h3⟩ := hp
  have hn6 := hP.n6
  have hB := PresP.box h3 31
  obtain ⟨ao, capo, hco, hoi⟩ := hB.ordAt
  go_enter Tryz.func211, Tryz.ntmps211
  go_wp2_with (at_make; refine wp_make_ints rfl _ _ rfl (w.heap.size + 1) P.orders.length (w.heap.size + 1) (by simp) _ rfl rfl rfl (by omega) (by simp) ?_; intro w1 ho1 hg1 _)
  go_ret
  exact ⟨_, rfl, grown_trans (World.grownBy_alloc _ _ _) hg1, ho1.weak (by omega)⟩

set_option maxHeartbeats 1000000 in
theorem elementAt_ok (P : Pr) (hP : Valid P) (w : World) (p : Value) (m : Int) (Sp : Nat → Prop) (hp : PresP Sp w p P) (hm : 0 ≤ m) (hm2 : m ≤ 1000000000) :
    Calls Tryz.prog 137 #[p, .int .i64 m] w (Ret w fun w' v => Own w.heap.size w' v (elAt P m)) := by
  have hn6 := hP.n6
  obtain ⟨pb, po, rfl⟩ := hp.shape
  obtain ⟨ao, capo, hco0, hoi⟩ := hp.ordAt
  have hco := hco0
  go_enter Tryz.func137, Tryz.ntmps137
  go_wp2_with (at_make; refine wp_make_ints rfl _ _ rfl w.heap.size P.orders.length w.heap.size rfl _ rfl rfl rfl (by omega) (by simp) ?_; intro w1 ho1 hg1 _)
  clear hco
  have HCO := Lib.hid hco0; clear hco0
  go_loopw [1, 6] (fun mv i wr => ∃ k : Nat, i = .int .i64 ((P.orders.length : Int) - 1 - k) ∧ mv = .int .i64 (elTo P.orders P.orders.length m k).2 ∧ k ≤ P.orders.length ∧ Ext w wr ∧
      Own w.heap.size wr (.slice (some ⟨w.heap.size, 0, none⟩) P.orders.length P.orders.length) (elTo P.orders P.orders.length m k).1) (fun _ i _ => (intOf i + 1).toNat)
  case atStart => exact ⟨0, by simp, rfl, by omega, hg1, ho1⟩
  case round =>
    obtain ⟨k, rfl, rfl, hk, hg, hO⟩ := hrel
    obtain ⟨hv, hm0, hm1⟩ := elTo_inv hP m hm k hk
    by_cases hlt : k < P.orders.length
    · obtain ⟨b2, off2, rfl, _, _, hc20⟩ := Ints.at hoi (P.orders.length - 1 - k) (by omega)
      have hco := hg.cell HCO.out (by simp)
      have hc2 := hg.cell hc20 (by simp)
      have ho7 := hP.ord7 (P.orders.length - 1 - k) (by omega)
      have hc := hO.cell (P.orders.length - 1 - k) (by rw [hv.1]; omega)
      have hf := hO.frozen (P.orders.length - 1 - k)
      have hsucc : elTo P.orders P.orders.length m (k + 1) = ((elTo P.orders P.orders.length m k).1.set (P.orders.length - 1 - k) ((elTo P.orders P.orders.length m k).2 % gt P.orders (P.orders.length - 1 - k)), (elTo P.orders P.orders.length m k).2 / gt P.orders (P.orders.length - 1 - k)) := rfl
      have HSC := Lib.hid hsucc; clear hsucc
      obtain ⟨hO2, hg2⟩ := hO.store (P.orders.length - 1 - k) ((elTo P.orders P.orders.length m k).2 % gt P.orders (P.orders.length - 1 - k))
      have hgx : Ext w (wr.setCell ⟨w.heap.size, P.orders.length - 1 - k, none⟩ (.int .i64 ((elTo P.orders P.orders.length m k).2 % gt P.orders (P.orders.length - 1 - k)))) := grown_own hg hg2 (fun j hj hlt => by cases hj; omega)
      have hco3 := hgx.cell HCO.out (by simp)
      have hc23 := hgx.cell hc20 (by simp)
      clear hc20
      have hidx : ((P.orders.length : Int) - 1 - k).toNat = P.orders.length - 1 - k := by omega
      generalize hi : P.orders.length - 1 - k = i at *
      generalize (elTo P.orders P.orders.length m k).1 = L at *
      generalize (elTo P.orders P.orders.length m k).2 = M at *
      have ho70 : 2 ≤ gt P.orders i := ho7.1
      have ho71 : gt P.orders i ≤ 7 := ho7.2
      have HI := Lib.hid hi; clear hi ho7
      go_wp2
      go_roundw
      case rel => exact ⟨k + 1, by congr 1; omega, by rw [HSC.out], by omega, hgx, by rw [HSC.out]; exact hO2⟩
      case measure => simp [intOf]; omega
    · have hke : k = P.orders.length := by omega
      subst hke
      go_wp2
      go_ret
      exact ⟨_, rfl, hg, hO⟩

set_option maxHeartbeats 1000000 in
theorem l10At_ok (P : Pr) (hP : Valid P) (w : World) (pv : Value) (m : Int) (Sp : Nat → Prop) (hpv : PresV Sp w pv P) (hm : 0 ≤ m) (hm2 : m ≤ 1000000000) :
    Calls Tryz.prog 191 #[pv, .int .i64 m] w (Ret w fun w' v => Own w.heap.size w' v (elAt P m)) := by
  have hn6 := hP.n6
  obtain ⟨vo, vp, vc, rfl, h3⟩ := hpv
  have hp := PresP.box h3 31
  have hg0 : Ext w (w.alloc (.cells #[vo, vp, vc] 31)) := World.grownBy_alloc _ _ _
  obtain ⟨vo9, vp9, vc9, _, _, hc0, hc1, hc2, h39⟩ := hp.at
  obtain ⟨ao, capo, hco, hoi⟩ := hp.ordAt
  go_enter Tryz.func191, Tryz.ntmps191
  go_wp2_with fail
  have hs0 : (w.alloc (.cells #[vo, vp, vc] 31)).heap.size = w.heap.size + 1 := by simp
  have HS := Lib.hid hs0; clear hs0
  clear hc0 hc1 hc2
  have HCO := Lib.hid hco; clear hco
  generalize hw0 : w.alloc (.cells #[vo, vp, vc] 31) = w0 at *
  clear hw0
  refine Calls.mono (l10One_ok P hP w0 _ Any ⟨_, _, _, rfl, h39⟩) ?_
  rintro e1 w1 ⟨r, rfl, hg1, ho1⟩
  have hri := ho1.ints (by simp [zeros]; omega)
  obtain ⟨ar, capr, rfl, _, _⟩ := hri.shape
  have hzl : (zeros P.orders.length).length = P.orders.length := by simp [zeros]
  rw [hzl] at hri
  have ho1 : Own w0.heap.size w1 (.slice ar P.orders.length capr) (zeros P.orders.length) := by rw [hzl] at ho1; exact ho1
  simp only [hzl]
  clear hzl hri
  go_wp2
  go_loopw [1, 6] (fun mv i wr => ∃ k : Nat, i = .int .i64 ((P.orders.length : Int) - 1 - k) ∧ mv = .int .i64 (elTo P.orders P.orders.length m k).2 ∧ k ≤ P.orders.length ∧ Ext w0 wr ∧
      Own w0.heap.size wr (.slice ar P.orders.length capr) (elTo P.orders P.orders.length m k).1) (fun _ i _ => (intOf i + 1).toNat)
  case atStart => exact ⟨0, by simp, rfl, by omega, hg1, ho1⟩
  case round =>
    clear ho1
    obtain ⟨k, rfl, rfl, hk, hg, hO⟩ := hrel
    obtain ⟨hv, hm0, hm1⟩ := elTo_inv hP m hm k hk
    by_cases hlt : k < P.orders.length
    · obtain ⟨g, capg, hfm, hgb, hgs⟩ := hO.form (by rw [hv.1]; omega)
      rw [hv.1] at hfm
      obtain ⟨rfl, _⟩ : ar = some ⟨g, 0, none⟩ ∧ capr = capg := by cases hfm; exact ⟨rfl, rfl⟩
      clear hfm
      obtain ⟨b2, off2, rfl, _, _, hc20⟩ := Ints.at hoi (P.orders.length - 1 - k) (by omega)
      have hco := hg.cell HCO.out (by simp)
      have hc2 := hg.cell hc20 (by simp)
      have ho7 := hP.ord7 (P.orders.length - 1 - k) (by omega)
      have hc := hO.cell (P.orders.length - 1 - k) (by rw [hv.1]; omega)
      have hf := hO.frozen (P.orders.length - 1 - k)
      have hsucc : elTo P.orders P.orders.length m (k + 1) = ((elTo P.orders P.orders.length m k).1.set (P.orders.length - 1 - k) ((elTo P.orders P.orders.length m k).2 % gt P.orders (P.orders.length - 1 - k)), (elTo P.orders P.orders.length m k).2 / gt P.orders (P.orders.length - 1 - k)) := rfl
      have HSC := Lib.hid hsucc; clear hsucc
      obtain ⟨hO2, hg2⟩ := hO.store (P.orders.length - 1 - k) ((elTo P.orders P.orders.length m k).2 % gt P.orders (P.orders.length - 1 - k))
      have hgx : Ext w0 (wr.setCell ⟨g, P.orders.length - 1 - k, none⟩ (.int .i64 ((elTo P.orders P.orders.length m k).2 % gt P.orders (P.orders.length - 1 - k)))) := grown_own hg hg2 (fun j hj hlt => by cases hj; omega)
      have hco3 := hgx.cell HCO.out (by simp)
      have hc23 := hgx.cell hc20 (by simp)
      clear hc20
      have hidx : ((P.orders.length : Int) - 1 - k).toNat = P.orders.length - 1 - k := by omega
      generalize hi : P.orders.length - 1 - k = i at *
      generalize (elTo P.orders P.orders.length m k).1 = L at *
      generalize (elTo P.orders P.orders.length m k).2 = M at *
      have ho70 : 2 ≤ gt P.orders i := ho7.1
      have ho71 : gt P.orders i ≤ 7 := ho7.2
      have HI := Lib.hid hi; clear hi ho7
      go_wp2
      go_roundw
      case rel => exact ⟨k + 1, by congr 1; omega, by rw [HSC.out], by omega, hgx, by rw [HSC.out]; exact hO2⟩
      case measure => simp [intOf]; omega
    · have hke : k = P.orders.length := by omega
      subst hke
      go_wp2
      go_ret
      exact ⟨_, rfl, grown_trans hg0 hg, hO.weak (by have := HS.out; omega)⟩

end Go.Proofs.YtigbpdaomgagiaaGreat

/- impl.allElements, impl.generators. -/
namespace Go.Proofs.YtigbpdaomgagiaaGreat
open Go.RowKit

theorem und_rows : Tryz.prog.underlying 23 = some (.slice 22) := by kernel_rfl
theorem Tryz.infoRow : (Tryz.prog.info? 22).map (fun i => (i.zero, i.size, i.bytes)) = some (some (.slice none 0 0), 1, 24) := by kernel_rfl

/-- append(rows, row), the row made since -/
theorem wp_app_row {ops : Array Oper} {rest : List Oper} {o : Oper} {a : Act} {Q : Exit → Act → World → Prop} {w : World} (hgd : o.guard = none) (s x : Operand)
    (ho : o.op = Op.call { callee := Callee.builtin Builtin.append, args := #[s, x], argTypes := #[23, 23] }) (B : Nat) (w1 w2 : World) (v u : Value) (xs : List (List Int)) (y : List Int) (hs : a.eval s = v) (hown : RowsO B w1 v xs)
    (hg : Ext w1 w2) (hu : OwnIn (From w1.heap.size) w2 u y) (hw : w = w2.alloc (.cells #[u] 22)) (hx : a.eval x = .slice (some ⟨w2.heap.size, 0, none⟩) 1 1) (hlen : xs.length ≤ 1000000) (hbase : B ≤ w1.heap.size)
    (h : ∀ v' w', RowsO B w' v' (xs ++ [y]) → w1.grownBy w' v.ownBlock → w2.grownBy w' v.ownBlock → wpList Tryz.prog ops Q rest (a.put o.dst v') w') :
    wpList Tryz.prog ops Q (o :: rest) a w :=
  wp_app_one rdOwn 23 22 (.slice none 0 0) 24 und_rows Tryz.infoRow rfl (by decide) hgd s x ho B w1 w2 v u xs y hs hown hg hu hw hx hlen hbase h

theorem SlO.lt {α : Type} [Inhabited α] {El : (Nat → Prop) → World → Value → α → Prop} {E B : Nat} {w : World} {v : Value} {xs : List α} (h : SlO El E B w v xs) (k : Nat) (hk : v.ownBlock = some k) : B ≤ k ∧ k < w.heap.size := by
  obtain ⟨vs, G, _, hO, _⟩ := h
  exact hO.lt k hk

theorem SlO.extw {α : Type} [Inhabited α] {El : (Nat → Prop) → World → Value → α → Prop} {E B : Nat} {w w1 w2 : World} {v : Value} {xs : List α} (h : SlO El E B w1 v xs) (hg : Ext w w1) (hB : w.heap.size ≤ B) (k : w1.grownBy w2 v.ownBlock) : Ext w w2 :=
  grown_own hg k (fun j hj hlt => by have := (h.lt j hj).1; omega)

def allEl (P : Pr) : List (List Int) := (List.range (ordP P).toNat).map (fun k : Nat => elAt P (k : Int))

theorem range_map_succ {α : Type} (f : Nat → α) (k : Nat) : (List.range (k + 1)).map f = (List.range k).map f ++ [f k] := by
  rw [List.range_succ, List.map_append]; rfl

set_option maxHeartbeats 400000 in
theorem allElements_ok (P : Pr) (hP : Valid P) (w : World) (p : Value) (Sp : Nat → Prop) (hp : PresP Sp w p P) :
    Calls Tryz.prog 147 #[p] w (Ret w fun w' v => RowsO w.heap.size w' v (allEl P)) := by
  have h729 : ordP P ≤ 729 := hP.le729
  have hpos := hP.ordP_pos
  go_enter Tryz.func147, Tryz.ntmps147
  go_wp2_with (go_at_call 68; refine (orderOf_ok _ _ P Sp hP hp).mono ?_; rintro e1 w1 ⟨rfl, rfl⟩)
  go_loopw [3, 7] (fun v i wr => ∃ k : Nat, i = .int .i64 k ∧ k ≤ (ordP P).toNat ∧ Ext w wr ∧ RowsO w.heap.size wr v ((List.range k).map (fun k : Nat => elAt P (k : Int)))) (fun _ i _ => (ordP P).toNat - (intOf i).toNat)
  case atStart => exact ⟨0, rfl, by omega, Ext.refl _, SlO.nil _ _ _ _⟩
  case round =>
    obtain ⟨k, rfl, hk, hg, hO⟩ := hrel
    by_cases hlt : (k : Int) < ordP P
    · go_wp2_with fail
      refine Calls.mono (elementAt_ok P hP wr p k Sp (hp.ext hg) (by omega) (by omega)) ?_
      rintro e2 w2 ⟨r, rfl, hg2, hR⟩
      have hv := elAt_vec hP (k : Int) (by omega)
      have hRi : OwnIn (From wr.heap.size) w2 r (elAt P k) := OwnIn.of hR (by rw [hv.1]; have := hP.n6; omega) (fun j hj _ => hj)
      clear hv
      obtain ⟨ar, capr, rfl, _, _⟩ := hRi.ints.shape
      go_wp2_with (at_builtin; go_must (refine wp_app_row rfl _ _ rfl w.heap.size wr w2 _ _ _ (elAt P k) rfl hO hg2 hRi rfl rfl (by simp; omega) hg.size ?_); intro v3 w3 hO3 hg3 hg4)
      have hgx := hO.extw hg (Nat.le_refl _) hg3
      rw [← range_map_succ (fun k : Nat => elAt P (k : Int))] at hO3
      go_roundw
      case rel => exact ⟨k + 1, by go_num, by omega, hgx, hO3⟩
      case measure => simp [intOf]; omega
    · have hke : k = (ordP P).toNat := by omega
      subst hke
      go_wp2
      go_ret
      exact ⟨_, rfl, hg, hO⟩

/-- the generators of a group -/
def gensOf (n : Nat) : List (List Int) := (List.range n).map (fun k : Nat => unitV n k)

set_option maxHeartbeats 400000 in
theorem generators_ok (P : Pr) (hP : Valid P) (w : World) (p : Value) (Sp : Nat → Prop) (hp : PresP Sp w p P) :
    Calls Tryz.prog 149 #[p] w (Ret w fun w' v => RowsO w.heap.size w' v (gensOf P.orders.length)) := by
  have hn6 := hP.n6
  obtain ⟨pb, po, rfl⟩ := hp.shape
  obtain ⟨ao, capo, hco0, hoi⟩ := hp.ordAt
  have hco := hco0
  go_enter Tryz.func149, Tryz.ntmps149
  go_wp2
  clear hco
  have HCO := Lib.hid hco0; clear hco0
  go_loopw [3, 10] (fun v i wr => ∃ k : Nat, i = .int .i64 k ∧ k ≤ P.orders.length ∧ Ext w wr ∧ RowsO w.heap.size wr v ((List.range k).map (fun k : Nat => unitV P.orders.length k))) (fun _ i _ => P.orders.length - (intOf i).toNat)
  case atStart => exact ⟨0, rfl, by omega, Ext.refl _, SlO.nil _ _ _ _⟩
  case round =>
    obtain ⟨k, rfl, hk, hg, hO⟩ := hrel
    by_cases hlt : k < P.orders.length
    · have hco := hg.cell HCO.out (by simp)
      go_wp2_with fail
      refine Calls.mono (unitVector_ok P.orders.length k wr hlt (by omega)) ?_
      rintro e2 w2 ⟨r, rfl, hg2, hR⟩
      have hRi : OwnIn (From wr.heap.size) w2 r (unitV P.orders.length k) := OwnIn.of hR (by simp [unitV]; omega) (fun j hj _ => hj)
      obtain ⟨ar, capr, rfl, _, _⟩ := hRi.ints.shape
      go_wp2_with (at_builtin; go_must (refine wp_app_row rfl _ _ rfl w.heap.size wr w2 _ _ _ (unitV P.orders.length k) rfl hO hg2 hRi rfl rfl (by simp; omega) hg.size ?_); intro v3 w3 hO3 hg3 hg4)
      have hgx := hO.extw hg (Nat.le_refl _) hg3
      rw [← range_map_succ (fun k : Nat => unitV P.orders.length k)] at hO3
      go_roundw
      case rel => exact ⟨k + 1, by go_num, by omega, hgx, hO3⟩
      case measure => simp [intOf]; omega
    · have hke : k = P.orders.length := by omega
      subst hke
      go_wp2
      go_ret
      exact ⟨_, rfl, hg, hO⟩

end Go.Proofs.YtigbpdaomgagiaaGreat

/- impl.pivots. -/
namespace Go.Proofs.YtigbpdaomgagiaaGreat
open Go.RowKit

theorem gtMem {α : Type} [Inhabited α] {l : List α} {i : Nat} (h : i < l.length) : gt l i ∈ l := by rw [gt_eq l i h]; exact List.getElem_mem h

theorem nzClosure_ok (x : Int) (w : World) : Calls Tryz.prog 182 #[.int .i64 x] w fun e w' => e = .returned (.bool (x != 0)) ∧ w = w' := by
  go_enter Tryz.func182, Tryz.ntmps182
  go_wp2
  exact bodyPost_ret (v := .bool (x != 0)) (by simp [results, Tryz.results182, go_sem]) rfl ⟨rfl, rfl⟩

set_option maxHeartbeats 1000000 in
theorem idxNz_ok (v : Value) (X : List Int) (w : World) (S : Nat → Prop) (h : Ints S w v X) (hd : dep X < X.length) :
    Calls Tryz.prog 181 #[v, .func (.func 182) #[] #[]] w fun e w' => e = .returned (.int .i64 (dep X)) ∧ w = w' := by
  obtain ⟨a, cap, rfl, _, _⟩ := h.shape
  have HD := Lib.hid hd; clear hd
  go_enter Tryz.func181, Tryz.ntmps181
  go_wp2
  go_loopw [8] (fun v wr => ∃ k : Nat, v = .int .i64 k ∧ k ≤ dep X ∧ w = wr) (fun v _ => X.length - (intOf v).toNat)
  case atStart => exact ⟨0, rfl, by omega, rfl⟩
  case round =>
    obtain ⟨k, rfl, hk, rfl⟩ := hrel
    have hlt : k < X.length := by have := HD.out; omega
    have hlt' : (k : Int) < X.length := by omega
    obtain ⟨b, off, rfl, _, _, hc⟩ := Ints.at h k hlt
    by_cases hx : gt X k = 0
    · have hne : k ≠ dep X := fun e => dep_ne HD.out (by rw [← e]; exact hx)
      have hcon := nzClosure_ok (gt X k) w
      rw [show (gt X k != 0) = false by simp [hx]] at hcon
      have HX := Lib.hid (And.intro hx hne); clear hx hne
      go_wp2_with fail
      refine Calls.mono hcon ?_
      rintro e1 w1 ⟨rfl, rfl⟩
      clear hcon
      go_wp2
      go_roundw
      case rel => exact ⟨k + 1, by go_num, by have := HX.out.2; omega, trivial⟩
      case measure => simp [intOf]; omega
    · have he : dep X = k := dep_eq hlt (fun j hj => dep_zero (by omega)) hx
      have hcon := nzClosure_ok (gt X k) w
      rw [show (gt X k != 0) = true by simp [hx]] at hcon
      have HX := Lib.hid he; clear hx he
      go_wp2_with fail
      refine Calls.mono hcon ?_
      rintro e1 w1 ⟨rfl, rfl⟩
      clear hcon
      go_wp2
      exact bodyPost_ret (v := .int .i64 k) (by simp [results, Tryz.results181, go_sem]) rfl ⟨by rw [HX.out], rfl⟩

/-- append of one value -/
theorem wp_app_val (T E : Nat) (z : Value) (bytes : Nat) (hT : Tryz.prog.underlying T = some (.slice E)) (hE : (Tryz.prog.info? E).map (fun i => (i.zero, i.size, i.bytes)) = some (some z, 1, bytes))
    (hzs : z.cells.size = 1) (hbt : bytes ≤ 64) {ops : Array Oper} {rest : List Oper} {o : Oper} {a : Act} {Q : Exit → Act → World → Prop} {w : World} (hgd : o.guard = none) (s x : Operand)
    (ho : o.op = Op.call { callee := Callee.builtin Builtin.append, args := #[s, x], argTypes := #[T, T] }) (B : Nat) (v u : Value) (xs : List Value) (hs : a.eval s = v) (w0 : World) (hown : OwnV B E w0 v xs) (hw : w = w0.alloc (.cells #[u] E)) (h1 : u.oneCell' = true)
    (hx : a.eval x = .slice (some ⟨w0.heap.size, 0, none⟩) 1 1) (hlen : xs.length ≤ 1000000) (hbase : B ≤ w0.heap.size)
    (h : ∀ v' w', OwnV B E w' v' (xs ++ [u]) → w0.grownBy w' v.ownBlock → wpList Tryz.prog ops Q rest (a.put o.dst v') w') :
    wpList Tryz.prog ops Q (o :: rest) a w := by
  subst hw
  have hga : Ext w0 (w0.alloc (.cells #[u] E)) := World.grownBy_alloc _ _ _
  refine wp_app T E z bytes hT hE hzs hbt hgd s x ho B v xs hs (hown.kept hga (by cases hv : v.ownBlock <;> simp)) (some ⟨w0.heap.size, 0, none⟩) 1 1 [u] hx rfl (by simp) ?_ ?_ (by simp; omega) (by have := hga.size; omega) ?_
  · intro j hj
    have : j = 0 := by omega
    subst this
    exact ⟨_, _, rfl, by rw [World.cell?_alloc_at _ _ _ _ rfl]; rfl⟩
  · intro u' hu'
    simp at hu'; subst hu'; exact h1
  · intro v' w' k1 k2 _ _
    exact h v' w' k1 (grown_trans (grown_of_ext _ hga) k2)

theorem und_intsG : Tryz.prog.underlying 113 = some (.slice 3) := by kernel_rfl
theorem Tryz.infoIntG : (Tryz.prog.info? 3).map (fun i => (i.zero, i.size, i.bytes)) = some (some (.int .i64 0), 1, 8) := by kernel_rfl

/-- the depths of rows, as cells -/
def depV (U : List (List Int)) : List Value := U.map (fun z => .int .i64 (dep z))

set_option maxHeartbeats 1000000 in
theorem pivots_ok (v : Value) (U : List (List Int)) (w : World) (S : Nat → Prop) (h : Rows2 S w v U) (hU : ∀ z ∈ U, dep z < z.length) (hl : U.length ≤ 100000) :
    Calls Tryz.prog 123 #[v] w (Ret w fun w' r => OwnV w.heap.size 3 w' r (depV U)) := by
  obtain ⟨a, cap, rfl, _, _⟩ := Sl.shape h
  have HU := Lib.hid hU; clear hU
  go_enter Tryz.func123, Tryz.ntmps123
  go_wp2
  go_loopw [3, 8] (fun ov iv wr => ∃ (k : Nat) (v4 : Value), v4 = ov ∧ iv = .int .i64 k ∧ k ≤ U.length ∧ Ext w wr ∧ OwnV w.heap.size 3 wr v4 (depV (U.take k))) (fun _ iv _ => U.length - (intOf iv).toNat)
  case atStart => exact ⟨0, _, rfl, rfl, by omega, Ext.refl _, World.ownsRow_nil _ _ _ _⟩
  case round =>
    obtain ⟨k, v4, rfl, rfl, hk, hg, hO⟩ := hrel
    by_cases hlt : k < U.length
    · obtain ⟨b, off, a2, cap2, rfl, _, _, hc, hi⟩ := Rows2.at (Rows2.ext h hg) k hlt
      have hstep : depV (U.take (k + 1)) = depV (U.take k) ++ [.int .i64 (dep (gt U k))] := by unfold depV; rw [take_succ_gt U k hlt, List.map_append]; rfl
      have hdl : (depV (U.take k)).length ≤ 1000000 := by unfold depV; rw [List.length_map, List.length_take]; omega
      have HS := Lib.hid hstep; clear hstep
      have hlt' : (k : Int) < U.length := by omega
      go_wp2_with fail
      refine Calls.mono (idxNz_ok _ (gt U k) wr _ hi (HU.out _ (gtMem hlt))) ?_
      rintro e1 w1 ⟨rfl, rfl⟩
      go_wp2_with (first | (at_builtin; refine wp_app_val 113 3 (.int .i64 0) 8 und_intsG Tryz.infoIntG rfl (by decide) rfl _ _ rfl w.heap.size v4 _ (depV (U.take k)) rfl wr hO rfl rfl rfl hdl hg.size ?_; intro v5 w5 hO5 hg5) | fail)
      have hg6 : Ext w w5 := grown_own hg hg5 (fun j hj hlt => by have := (hO.lt j hj).1; omega)
      go_roundw
      case rel => exact ⟨k + 1, v5, rfl, by go_num, by omega, hg6, by rw [HS.out]; exact hO5⟩
      case measure => simp [intOf]; omega
    · have hke : k = U.length := by omega
      subst hke
      rw [List.take_length] at hO
      have hsh : ∃ az capz, v4 = .slice az U.length capz := by
        rcases hO.form with ⟨h1, h2⟩ | ⟨g, cp, h1, _⟩
        · have h3 : U.length = 0 := by unfold depV at h2; rw [List.map_eq_nil_iff] at h2; rw [h2]; rfl
          exact ⟨none, 0, by rw [h1, h3]⟩
        · exact ⟨_, _, by rw [h1]; unfold depV; rw [List.length_map]⟩
      obtain ⟨az, capz, rfl⟩ := hsh
      go_wp2
      go_ret
      exact ⟨_, rfl, hg, hO⟩

end Go.Proofs.YtigbpdaomgagiaaGreat

/- The laws' measure of an argument: laws.szInt64S, szInt64SS, szInt64SSS, szPresentation. -/
namespace Go.Proofs.YtigbpdaomgagiaaGreat
open Go.RowKit

/-- what a measure answers: what is left, or -1 -/
def SzR (L : Int) (n : Nat) (v : Value) : Prop := ((n : Int) ≤ L ∧ v = .int .i64 (L - n)) ∨ (L < n ∧ v = .int .i64 (-1))

set_option maxHeartbeats 400000 in
theorem szInt64S_ok (v : Value) (l : List Int) (L : Int) (w : World) (S : Nat → Prop) (h : Ints S w v l) (hL : 0 ≤ L ∧ L ≤ 1048576) :
    Calls Tryz.prog 56 #[v, .int .i64 L] w (Ret w fun _ r => SzR L l.length r) := by
  obtain ⟨a, cap, rfl, _, hlen⟩ := h.shape
  have hwr : IntKind.i64.wrap (L - (l.length : Int)) = L - l.length := IntWalk.i64_in _ (by omega)
  by_cases hc : (l.length : Int) ≤ L
  · have h0 : ¬ (L - (l.length : Int) < 0) := by omega
    have h1 : 0 ≤ L - (l.length : Int) := by omega
    go_enter Tryz.func56, Tryz.ntmps56
    go_wp2
    go_ret
    exact ⟨_, rfl, Ext.refl _, .inl ⟨hc, rfl⟩⟩
  · have h0 : L - (l.length : Int) < 0 := by omega
    go_enter Tryz.func56, Tryz.ntmps56
    go_wp2
    go_ret
    exact ⟨_, rfl, Ext.refl _, .inr ⟨by omega, rfl⟩⟩

/-- places in the first k rows -/
def szTo {α : Type} [Inhabited α] (sz : α → Nat) (xs : List α) : Nat → Nat
  | 0 => 0
  | k + 1 => szTo sz xs k + sz (gt xs k)
theorem szTo_mono {α : Type} [Inhabited α] (sz : α → Nat) (xs : List α) {k n : Nat} (h : k ≤ n) : szTo sz xs k ≤ szTo sz xs n := by
  induction n with
  | zero => have : k = 0 := by omega
            subst this; exact Nat.le_refl _
  | succ n ih =>
    rcases Nat.lt_or_ge n k with h1 | h1
    · have : k = n + 1 := by omega
      subst this; exact Nat.le_refl _
    · exact Nat.le_trans (ih h1) (Nat.le_add_right _ _)
def size2 (xs : List (List Int)) : Nat := xs.length + szTo List.length xs xs.length
def size3 (xs : List (List (List Int))) : Nat := xs.length + szTo size2 xs xs.length
def sizeP (P : Pr) : Nat := P.orders.length + size2 P.powers + size3 P.conj

-- rows

set_option maxHeartbeats 1000000 in
theorem szInt64SS_ok (v : Value) (xs : List (List Int)) (L : Int) (w : World) (S : Nat → Prop) (h : Rows2 S w v xs) (hL : 0 ≤ L ∧ L ≤ 1048576) :
    Calls Tryz.prog 41 #[v, .int .i64 L] w (Ret w fun _ r => SzR L (size2 xs) r) := by
  obtain ⟨a, cap, rfl, _, hlen⟩ := Sl.shape h
  have hwr : IntKind.i64.wrap (L - (xs.length : Int)) = L - xs.length := IntWalk.i64_in _ (by omega)
  by_cases hc : (xs.length : Int) ≤ L
  · have h0 : ¬ (L - (xs.length : Int) < 0) := by omega
    have h1 : 0 ≤ L - (xs.length : Int) := by omega
    go_enter Tryz.func41, Tryz.ntmps41
    go_wp2
    clear hwr h0 h1
    go_loopw [1, 5] (fun lv iv wr => ∃ k : Nat, iv = .int .i64 k ∧ lv = .int .i64 (L - xs.length - szTo List.length xs k) ∧ k ≤ xs.length ∧ Ext w wr ∧ 0 ≤ L - xs.length - szTo List.length xs k) (fun _ iv _ => xs.length - (intOf iv).toNat)
    case atStart => exact ⟨0, rfl, by simp [szTo], by omega, Ext.refl _, by simp [szTo]; omega⟩
    case round =>
      obtain ⟨k, rfl, rfl, hk, hg, hp⟩ := hrel
      by_cases hlt : k < xs.length
      · obtain ⟨b, off, a2, cap2, rfl, _, _, hc2, hi2⟩ := Rows2.at ((Rows2.ext h hg)) k hlt
        have hm := szTo_mono List.length xs (show k + 1 ≤ xs.length by omega)
        have hsz : L - xs.length - szTo List.length xs k ≤ 1048576 := by omega
        have HH := Lib.hid (And.intro hm hsz); clear hm hsz
        go_wp2_with fail
        refine Calls.mono (szInt64S_ok _ _ (L - xs.length - szTo List.length xs k) wr S hi2 ⟨hp, HH.out.2⟩) ?_
        rintro eA wA ⟨vA, rfl, hgA, ⟨hA, rfl⟩ | ⟨hA, rfl⟩⟩
        · have h0 : ¬ (L - xs.length - szTo List.length xs k - (List.length (gt xs k) : Nat) < 0) := by omega
          have h1 : 0 ≤ L - xs.length - szTo List.length xs k - (List.length (gt xs k) : Nat) := by omega
          clear hc2 hi2 hA
          go_wp2
          go_roundw
          case rel => exact ⟨k + 1, by go_num, by simp [szTo]; omega, by omega, grown_trans hg hgA, by simp [szTo]; omega⟩
          case measure => simp [intOf]; omega
        · clear hc2 hi2
          go_wp2
          go_ret
          exact ⟨_, rfl, grown_trans hg hgA, .inr ⟨by
            have h3 := HH.out.1
            simp only [szTo] at h3
            unfold size2; omega, rfl⟩⟩
      · have hke : k = xs.length := by omega
        subst hke
        go_wp2
        go_ret
        exact ⟨_, rfl, hg, .inl ⟨by unfold size2; omega, congrArg (Value.int .i64) (by unfold size2; omega)⟩⟩
  · have h0 : L - (xs.length : Int) < 0 := by omega
    go_enter Tryz.func41, Tryz.ntmps41
    go_wp2
    go_ret
    exact ⟨_, rfl, Ext.refl _, .inr ⟨by unfold size2; omega, rfl⟩⟩

set_option maxHeartbeats 1000000 in
theorem szInt64SSS_ok (v : Value) (xs : List (List (List Int))) (L : Int) (w : World) (S : Nat → Prop) (h : Rows3 S w v xs) (hL : 0 ≤ L ∧ L ≤ 1048576) :
    Calls Tryz.prog 16 #[v, .int .i64 L] w (Ret w fun _ r => SzR L (size3 xs) r) := by
  obtain ⟨a, cap, rfl, _, hlen⟩ := Sl.shape h
  have hwr : IntKind.i64.wrap (L - (xs.length : Int)) = L - xs.length := IntWalk.i64_in _ (by omega)
  by_cases hc : (xs.length : Int) ≤ L
  · have h0 : ¬ (L - (xs.length : Int) < 0) := by omega
    have h1 : 0 ≤ L - (xs.length : Int) := by omega
    go_enter Tryz.func16, Tryz.ntmps16
    go_wp2
    clear hwr h0 h1
    go_loopw [1, 5] (fun lv iv wr => ∃ k : Nat, iv = .int .i64 k ∧ lv = .int .i64 (L - xs.length - szTo size2 xs k) ∧ k ≤ xs.length ∧ Ext w wr ∧ 0 ≤ L - xs.length - szTo size2 xs k) (fun _ iv _ => xs.length - (intOf iv).toNat)
    case atStart => exact ⟨0, rfl, by simp [szTo], by omega, Ext.refl _, by simp [szTo]; omega⟩
    case round =>
      obtain ⟨k, rfl, rfl, hk, hg, hp⟩ := hrel
      by_cases hlt : k < xs.length
      · obtain ⟨b, off, a2, cap2, rfl, _, _, hc2, hi2⟩ := Rows3.at ((Rows3.ext h hg)) k hlt
        have hm := szTo_mono size2 xs (show k + 1 ≤ xs.length by omega)
        have hsz : L - xs.length - szTo size2 xs k ≤ 1048576 := by omega
        have HH := Lib.hid (And.intro hm hsz); clear hm hsz
        go_wp2_with fail
        refine Calls.mono (szInt64SS_ok _ _ (L - xs.length - szTo size2 xs k) wr S hi2 ⟨hp, HH.out.2⟩) ?_
        rintro eA wA ⟨vA, rfl, hgA, ⟨hA, rfl⟩ | ⟨hA, rfl⟩⟩
        · have h0 : ¬ (L - xs.length - szTo size2 xs k - (size2 (gt xs k) : Nat) < 0) := by omega
          have h1 : 0 ≤ L - xs.length - szTo size2 xs k - (size2 (gt xs k) : Nat) := by omega
          clear hc2 hi2 hA
          go_wp2
          go_roundw
          case rel => exact ⟨k + 1, by go_num, by simp [szTo]; omega, by omega, grown_trans hg hgA, by simp [szTo]; omega⟩
          case measure => simp [intOf]; omega
        · clear hc2 hi2
          go_wp2
          go_ret
          exact ⟨_, rfl, grown_trans hg hgA, .inr ⟨by
            have h3 := HH.out.1
            simp only [szTo] at h3
            unfold size3; omega, rfl⟩⟩
      · have hke : k = xs.length := by omega
        subst hke
        go_wp2
        go_ret
        exact ⟨_, rfl, hg, .inl ⟨by unfold size3; omega, congrArg (Value.int .i64) (by unfold size3; omega)⟩⟩
  · have h0 : L - (xs.length : Int) < 0 := by omega
    go_enter Tryz.func16, Tryz.ntmps16
    go_wp2
    go_ret
    exact ⟨_, rfl, Ext.refl _, .inr ⟨by unfold size3; omega, rfl⟩⟩

set_option maxHeartbeats 1000000 in
theorem szPresentation_ok (v : Value) (P : Pr) (L : Int) (w : World) (S : Nat → Prop) (h : PresV S w v P) (hL : 0 ≤ L ∧ L ≤ 1048576) :
    Calls Tryz.prog 15 #[v, .int .i64 L] w (Ret w fun _ r => SzR L (sizeP P) r) := by
  obtain ⟨vo, vp, vc, rfl, h3⟩ := h
  have hp0 := PresP.box h3 26
  have hg0 : Ext w (w.alloc (.cells #[vo, vp, vc] 26)) := World.grownBy_alloc _ _ _
  go_enter Tryz.func15, Tryz.ntmps15
  go_wp2_with fail
  refine Calls.mono (szInt64S_ok _ _ L _ _ (h3.o.ext hg0) hL) ?_
  rintro eA wA ⟨vA, rfl, hgA, ⟨hA, rfl⟩ | ⟨hA, rfl⟩⟩
  · obtain ⟨vo5, vp5, vc5, _, _, hb1, hb2A, hb3A, h3r⟩ := (hp0.ext hgA).at
    simp at hb2A hb3A
    have h0 : ¬ (L - (P.orders.length : Int) < 0) := by omega
    have h1 : 0 ≤ L - (P.orders.length : Int) := by omega
    clear hb1
    go_wp2_with fail
    refine Calls.mono (szInt64SS_ok _ _ (L - (P.orders.length : Int)) _ _ h3r.p (by omega)) ?_
    rintro eB wB ⟨vB, rfl, hgB, ⟨hB, rfl⟩ | ⟨hB, rfl⟩⟩
    · have hb3B := hgB.cell hb3A (by simp)
      have h2 : ¬ (L - (P.orders.length : Int) - (size2 P.powers : Nat) < 0) := by omega
      have h4 : 0 ≤ L - (P.orders.length : Int) - (size2 P.powers : Nat) := by omega
      clear hb2A hb3A h0 h1
      go_wp2_with fail
      refine Calls.mono (szInt64SSS_ok _ _ (L - (P.orders.length : Int) - (size2 P.powers : Nat)) _ _ (Rows3.ext h3r.c hgB) (by omega)) ?_
      rintro eC wC ⟨vC, rfl, hgC, ⟨hC, rfl⟩ | ⟨hC, rfl⟩⟩
      · have h5 : ¬ (L - (P.orders.length : Int) - (size2 P.powers : Nat) - (size3 P.conj : Nat) < 0) := by omega
        have h6 : 0 ≤ L - (P.orders.length : Int) - (size2 P.powers : Nat) - (size3 P.conj : Nat) := by omega
        clear hb3B h2 h4
        go_wp2
        go_ret
        exact ⟨_, rfl, grown_trans hg0 (grown_trans hgA (grown_trans hgB hgC)), .inl ⟨by unfold sizeP; omega, congrArg (Value.int .i64) (by unfold sizeP; omega)⟩⟩
      · go_wp2
        go_ret
        exact ⟨_, rfl, grown_trans hg0 (grown_trans hgA (grown_trans hgB hgC)), .inr ⟨by unfold sizeP; omega, rfl⟩⟩
    · go_wp2
      go_ret
      exact ⟨_, rfl, grown_trans hg0 (grown_trans hgA hgB), .inr ⟨by unfold sizeP; omega, rfl⟩⟩
  · go_wp2
    go_ret
    exact ⟨_, rfl, grown_trans hg0 hgA, .inr ⟨by unfold sizeP; omega, rfl⟩⟩

end Go.Proofs.YtigbpdaomgagiaaGreat

/- The laws' copies of an argument: laws.toInt64S, toInt64SS, toInt64SSS, toPresentation: each part in blocks of its own. -/
namespace Go.Proofs.YtigbpdaomgagiaaGreat
open Go.RowKit

theorem SlD.nil {α : Type} [Inhabited α] (El : (Nat → Prop) → World → Value → α → Prop) (F : Nat → Prop) (w : World) : SlD El F w (.slice none 0 0) ([] : List α) :=
  ⟨fun _ _ => False, fun _ => False, by simp, by simp, by simp, none, 0, rfl, ⟨by simp, by simp, fun _ => rfl⟩, by simp⟩

theorem SlD.map {α : Type} [Inhabited α] {El El' : (Nat → Prop) → World → Value → α → Prop} (h0 : ∀ F w u x, El F w u x → El' F w u x) {F : Nat → Prop} {w : World} {v : Value} {xs : List α} (h : SlD El F w v xs) : SlD El' F w v xs := by
  obtain ⟨G, H, h1, h2, h3, a, cap, hv, hl, hc⟩ := h
  exact ⟨G, H, h1, h2, h3, a, cap, hv, hl, fun i hi => by
    obtain ⟨b, off, u, e1, e2, e3, e4, e5⟩ := hc i hi
    exact ⟨b, off, u, e1, e2, e3, e4, h0 _ _ _ _ e5⟩⟩
theorem SlO.map {α : Type} [Inhabited α] {El El' : (Nat → Prop) → World → Value → α → Prop} (h0 : ∀ F w u x, El F w u x → El' F w u x) {E B : Nat} {w : World} {v : Value} {xs : List α} (h : SlO El E B w v xs) : SlO El' E B w v xs := by
  obtain ⟨vs, G, a, b, c, d, e⟩ := h
  exact ⟨vs, G, a, b, c, d, fun i hi => h0 _ _ _ _ (e i hi)⟩

abbrev RowsW (F : Nat → Prop) (w : World) (v : Value) (xs : List (List Int)) : Prop := RowsD F w v xs
theorem rdRowsW : RdOk (fun F w u (x : List (List Int)) => RowsW F w u x) := rdRows
abbrev Rows3W (F : Nat → Prop) (w : World) (v : Value) (xs : List (List (List Int))) : Prop := Rows3D F w v xs
abbrev RowsM (B : Nat) (w : World) (v : Value) (xs : List (List Int)) : Prop := RowsO B w v xs
abbrev Rows3M (B : Nat) (w : World) (v : Value) (xs : List (List (List Int))) : Prop := SlO (fun F w u (x : List (List Int)) => RowsW F w u x) 23 B w v xs
theorem RowsW.d {F : Nat → Prop} {w : World} {v : Value} {xs : List (List Int)} (h : RowsW F w v xs) : RowsD F w v xs := h
theorem Rows3W.d {F : Nat → Prop} {w : World} {v : Value} {xs : List (List (List Int))} (h : Rows3W F w v xs) : Rows3D F w v xs := h

/-- one element is put in its place -/
theorem SlO.store {α : Type} [Inhabited α] {El : (Nat → Prop) → World → Value → α → Prop} (hEl : RdOk El) {E B g n cap : Nat} {w1 w2 : World} {xs : List α} {u : Value} {y : α} (h : SlO El E B w1 (.slice (some ⟨g, 0, none⟩) n cap) xs)
    (hg : Ext w1 w2) (hu : El (From w1.heap.size) w2 u y) (j : Nat) :
    SlO El E B (w2.setCell ⟨g, j, none⟩ u) (.slice (some ⟨g, 0, none⟩) n cap) (xs.set j y) ∧ w2.grownBy (w2.setCell ⟨g, j, none⟩ u) (some g) := by
  obtain ⟨vs, G, hvl, hO, hG, hd, hE⟩ := h
  have hgl := hO.lt g rfl
  have hO2 : OwnV B E w2 (.slice (some ⟨g, 0, none⟩) n cap) vs := hO.kept hg (by simp [Value.ownBlock])
  have hn : n = vs.length := by
    obtain ⟨_, ⟨h, _⟩ | ⟨_, _, _, h, _⟩⟩ := hO2 <;> cases h; rfl
  subst hn
  obtain ⟨h1, h2⟩ := World.ownsRow.stored hO2 j u
  have hsz : (w2.setCell ⟨g, j, none⟩ u).heap.size = w2.heap.size := by simp [World.setCell]
  have hblk : ∀ k, k ≠ g → (w2.setCell ⟨g, j, none⟩ u).heap[k]? = w2.heap[k]? := fun k hk => Below.heap_setCell _ _ _ _ (by simpa using hk)
  have hB1 : B ≤ w1.heap.size := by omega
  refine ⟨⟨vs.set j u, fun i k => if i = j then w1.heap.size ≤ k ∧ k < w2.heap.size else G i k ∧ k < w1.heap.size, by simp [hvl], ?_, ?_, ?_, ?_⟩, h2⟩
  · unfold OwnV; rw [List.length_set]; exact h1
  · intro i k hi hk
    rw [List.length_set] at hi
    simp only [Value.ownBlock]
    split at hk
    · exact ⟨by omega, by intro e; cases e; omega, by omega⟩
    · obtain ⟨a1, a2, a3⟩ := hG i k hi hk.1
      exact ⟨a1, a2, by have := hg.size; omega⟩
  · intro i i' k hi hi' hk hk'
    rw [List.length_set] at hi hi'
    split at hk <;> split at hk'
    · omega
    · omega
    · omega
    · exact hd i i' k hi hi' hk.1 hk'.1
  · intro i hi
    rw [List.length_set] at hi
    by_cases e : j = i
    · subst e
      rw [gt_set_eq _ _ _ (by omega), gt_set_eq _ _ _ hi]
      simp only [if_true]
      exact hEl.mono hu (fun k hk hlt => ⟨⟨hk, hlt⟩, by omega, hblk k (by have hk : w1.heap.size ≤ k := hk; omega)⟩)
    · rw [gt_set_ne _ _ _ _ e, gt_set_ne _ _ _ _ e]
      simp only [if_neg (fun h : i = j => e h.symm)]
      refine hEl.mono (hE i hi) (fun k hk hlt => ⟨⟨hk, hlt⟩, by have := hg.size; omega, ?_⟩)
      rw [hblk k (fun e => (hG i k hi hk).2.1 (by rw [e]; rfl))]
      exact hg.block k hlt (by simp)

/-- make([]T, n) for elements that are slices -/
theorem wp_make_sl {α : Type} {El : (Nat → Prop) → World → Value → List α → Prop} (T E : Nat) (hT : Tryz.prog.underlying T = some (.slice E)) (hEi : (Tryz.prog.info? E).map (fun i => (i.zero, i.size, i.bytes)) = some (some (.slice none 0 0), 1, 24))
    (h0 : ∀ w, El (fun _ => False) w (.slice none 0 0) [])
    {ops : Array Oper} {rest : List Oper} {o : Oper} {a : Act} {Q : Exit → Act → World → Prop} {w : World} (hgd : o.guard = none) (l c : Operand)
    (ho : o.op = Op.makeSlice T l c) (base n H : Nat) (hH : w.heap.size = H) (L : Int) (hl : a.eval l = .int .i64 L) (hc : a.eval c = .int .i64 L) (hL : L = n) (hn : n ≤ 2147483648) (hbase : base ≤ H)
    (h : ∀ w', SlO El E base w' (.slice (some ⟨H, 0, none⟩) n n) (List.replicate n ([] : List α)) → Ext w w' → H < w'.heap.size → wpList Tryz.prog ops Q rest (a.put o.dst (.slice (some ⟨H, 0, none⟩) n n)) w') :
    wpList Tryz.prog ops Q (o :: rest) a w := by
  subst hH
  obtain ⟨i0, hi, hz0, hz1, hz2⟩ := info_parts hEi
  refine wpList_make_full w hgd l c T ho base E i0 (.slice none 0 0) 1 hT hi hz0 hz1 .i64 .i64 L L n hl hc hL hL (by rw [hz2]; omega) (by unfold maxLen; omega) hbase ?_
  intro w' h1 h2
  refine h w' ?_ h2 (h1.lt w.heap.size rfl).2
  have e : (madeCells (Value.cells (.slice none 0 0)) (n * 1)).toList = List.replicate n (Value.slice none 0 0) := by
    rw [show Value.cells (.slice none 0 0) = #[.slice none 0 0] from rfl, toList_madeCells_one]; simp
  rw [e] at h1
  refine ⟨List.replicate n (.slice none 0 0), fun _ _ => False, by simp, ?_, by simp, by simp, fun i hi => ?_⟩
  · unfold OwnV; rw [List.length_replicate]; exact h1
  · rw [List.length_replicate] at hi
    have e1 : gt (List.replicate n (Value.slice none 0 0)) i = .slice none 0 0 := by simp [gt, hi]
    have e2 : gt (List.replicate n ([] : List α)) i = [] := by simp [gt, hi]
    rw [e1, e2]; exact h0 w'

/-- the first k elements of l, behind them z -/
def cpTo {α : Type} (l : List α) (z : α) (k : Nat) : List α := l.take k ++ List.replicate (l.length - k) z
theorem cpTo_len {α : Type} (l : List α) (z : α) (k : Nat) (hk : k ≤ l.length) : (cpTo l z k).length = l.length := by unfold cpTo; simp; omega
theorem cpTo_zero {α : Type} (l : List α) (z : α) : cpTo l z 0 = List.replicate l.length z := by simp [cpTo]
theorem cpTo_all {α : Type} (l : List α) (z : α) : cpTo l z l.length = l := by simp [cpTo]
theorem cpTo_step {α : Type} [Inhabited α] (l : List α) (z : α) (k : Nat) (hk : k < l.length) : (cpTo l z k).set k (gt l k) = cpTo l z (k + 1) := by
  unfold cpTo
  rw [List.set_append, if_neg (by simp; omega), show k - (l.take k).length = 0 by simp; omega, show l.length - k = (l.length - (k + 1)) + 1 by omega, List.replicate_succ, List.set_cons_zero, take_succ_gt l k hk, List.append_assoc]
  rfl

set_option maxHeartbeats 400000 in
theorem toInt64S_ok (v : Value) (l : List Int) (w : World) (S : Nat → Prop) (h : Ints S w v l) (hl : l.length ≤ 1048576) :
    Calls Tryz.prog 65 #[v] w (Ret w fun w' r => Own w.heap.size w' r l) := by
  obtain ⟨a, cap, rfl, _, hlen⟩ := h.shape
  go_enter Tryz.func65, Tryz.ntmps65
  go_wp2_with (at_make; refine wp_make_ints rfl _ _ rfl w.heap.size l.length w.heap.size rfl _ rfl rfl rfl (by omega) (Nat.le_refl _) ?_; intro w1 ho1 hg1 hlt1)
  rw [← cpTo_zero] at ho1
  go_loopw [4] (fun iv wr => ∃ k : Nat, iv = .int .i64 k ∧ k ≤ l.length ∧ Ext w wr ∧ Own w.heap.size wr (.slice (some ⟨w.heap.size, 0, none⟩) l.length l.length) (cpTo l 0 k)) (fun iv _ => l.length - (intOf iv).toNat)
  case atStart => exact ⟨0, rfl, by omega, hg1, ho1⟩
  case round =>
    obtain ⟨k, rfl, hk, hg, hO⟩ := hrel
    by_cases hlt : k < l.length
    · obtain ⟨b, off, rfl, _, hbl, hc⟩ := Ints.at (h.ext hg) k hlt
      have hcw := hO.cell k (by rw [cpTo_len _ _ _ hk]; exact hlt)
      have hfr := hO.frozen k
      obtain ⟨hs1, hs2⟩ := hO.store k (gt l k)
      have hgn : Ext w (wr.setCell ⟨w.heap.size, k, none⟩ (.int .i64 (gt l k))) := grown_own hg hs2 (fun j hj hlt => by cases hj; omega)
      rw [cpTo_step l 0 k hlt] at hs1
      clear hs2
      go_wp2
      go_roundw
      case rel => exact ⟨k + 1, by go_num, by omega, hgn, hs1⟩
      case measure => simp [intOf]; omega
    · have hke : k = l.length := by omega
      subst hke
      rw [cpTo_all] at hO
      go_wp2
      go_ret
      exact ⟨_, rfl, hg, hO⟩

-- rows

/-- a place of an own row may be written -/
theorem SlO.place {α : Type} [Inhabited α] {El : (Nat → Prop) → World → Value → α → Prop} {E B g n cap : Nat} {w : World} {xs : List α} (h : SlO El E B w (.slice (some ⟨g, 0, none⟩) n cap) xs) (k : Nat) (hk : k < xs.length) :
    (∃ z, w.cell? ⟨g, k, none⟩ = some z) ∧ w.frozen? ⟨g, k, none⟩ = false := by
  obtain ⟨vs, G, hvl, hO, _⟩ := h
  refine ⟨⟨_, hO.cell k (by omega)⟩, ?_⟩
  have hn : n = vs.length := by
    obtain ⟨_, ⟨h, _⟩ | ⟨_, _, _, h, _⟩⟩ := hO <;> cases h; rfl
  subst hn
  exact World.ownsRow.frozenAt hO k
theorem Tryz.infoRows : (Tryz.prog.info? 23).map (fun i => (i.zero, i.size, i.bytes)) = some (some (.slice none 0 0), 1, 24) := by kernel_rfl
theorem und_rows3 : Tryz.prog.underlying 24 = some (.slice 23) := by kernel_rfl

set_option maxHeartbeats 1000000 in
theorem toInt64SS_ok (v : Value) (xs : List (List Int)) (w : World) (S : Nat → Prop) (h : Rows2 S w v xs) (hl : size2 xs ≤ 1048576) :
    Calls Tryz.prog 43 #[v] w (Ret w fun w' r => SlO OwnIn 22 w.heap.size w' r xs) := by
  obtain ⟨a, cap, rfl, _, hlen⟩ := Sl.shape h
  have hlx : xs.length ≤ 1048576 := by unfold size2 at hl; omega
  have hsub : ∀ k, k < xs.length → List.length (gt xs k) ≤ 1048576 := fun k hk => by
    have := szTo_mono List.length xs (show k + 1 ≤ xs.length by omega)
    simp only [szTo] at this
    unfold size2 at hl; omega
  have HS := Lib.hid hsub; clear hsub hl
  go_enter Tryz.func43, Tryz.ntmps43
  go_wp2_with (at_make; refine wp_make_sl (El := OwnIn) 23 22 und_rows Tryz.infoRow (fun w => OwnIn.nil _ w) rfl _ _ rfl w.heap.size xs.length w.heap.size rfl _ rfl rfl rfl (by omega) (Nat.le_refl _) ?_; intro w1 ho1 hg1 hlt1)
  rw [← cpTo_zero] at ho1
  go_loopw [4] (fun iv wr => ∃ k : Nat, iv = .int .i64 k ∧ k ≤ xs.length ∧ Ext w wr ∧ SlO OwnIn 22 w.heap.size wr (.slice (some ⟨w.heap.size, 0, none⟩) xs.length xs.length) (cpTo xs [] k)) (fun iv _ => xs.length - (intOf iv).toNat)
  case atStart => exact ⟨0, rfl, by omega, hg1, ho1⟩
  case round =>
    obtain ⟨k, rfl, hk, hg, hO⟩ := hrel
    by_cases hlt : k < xs.length
    · obtain ⟨b, off, a2, cap2, rfl, _, _, hc2, hi2⟩ := Rows2.at (Rows2.ext h hg) k hlt
      go_wp2_with fail
      refine Calls.mono (toInt64S_ok _ _ wr S hi2 (HS.out k hlt)) ?_
      rintro eA wA ⟨vA, rfl, hgA, hA⟩
      have hEl := OwnIn.of (F := From wr.heap.size) hA (by have := HS.out k hlt; omega) (fun j hj _ => hj)
      obtain ⟨aA, capA, rfl, _, _⟩ := hEl.ints.shape
      obtain ⟨⟨z, hcw⟩, hfr⟩ := (hO.ext rdOwn hgA).place k (by rw [cpTo_len _ _ _ hk]; exact hlt)
      obtain ⟨hs1, hs2⟩ := hO.store rdOwn hgA hEl k
      have hgn : Ext w (wA.setCell ⟨w.heap.size, k, none⟩ (.slice aA (gt xs k).length capA)) := grown_own (grown_trans hg hgA) hs2 (fun j hj hlt => by cases hj; omega)
      rw [cpTo_step xs [] k hlt] at hs1
      clear hs2 hc2 hi2 hA hEl hO
      go_wp2
      go_roundw
      case rel => exact ⟨k + 1, by go_num, by omega, hgn, hs1⟩
      case measure => simp [intOf]; omega
    · have hke : k = xs.length := by omega
      subst hke
      rw [cpTo_all] at hO
      go_wp2
      go_ret
      exact ⟨_, rfl, hg, hO⟩

set_option maxHeartbeats 1000000 in
theorem toInt64SSS_ok (v : Value) (xs : List (List (List Int))) (w : World) (S : Nat → Prop) (h : Rows3 S w v xs) (hl : size3 xs ≤ 1048576) :
    Calls Tryz.prog 19 #[v] w (Ret w fun w' r => SlO (fun F w u (x : List (List Int)) => RowsW F w u x) 23 w.heap.size w' r xs) := by
  obtain ⟨a, cap, rfl, _, hlen⟩ := Sl.shape h
  have hlx : xs.length ≤ 1048576 := by unfold size3 at hl; omega
  have hsub : ∀ k, k < xs.length → size2 (gt xs k) ≤ 1048576 := fun k hk => by
    have := szTo_mono size2 xs (show k + 1 ≤ xs.length by omega)
    simp only [szTo] at this
    unfold size3 at hl; omega
  have HS := Lib.hid hsub; clear hsub hl
  go_enter Tryz.func19, Tryz.ntmps19
  go_wp2_with (at_make; refine wp_make_sl (El := (fun F w u (x : List (List Int)) => RowsW F w u x)) 24 23 und_rows3 Tryz.infoRows (fun w => SlD.nil _ _ w) rfl _ _ rfl w.heap.size xs.length w.heap.size rfl _ rfl rfl rfl (by omega) (Nat.le_refl _) ?_; intro w1 ho1 hg1 hlt1)
  rw [← cpTo_zero] at ho1
  go_loopw [4] (fun iv wr => ∃ k : Nat, iv = .int .i64 k ∧ k ≤ xs.length ∧ Ext w wr ∧ SlO (fun F w u (x : List (List Int)) => RowsW F w u x) 23 w.heap.size wr (.slice (some ⟨w.heap.size, 0, none⟩) xs.length xs.length) (cpTo xs [] k)) (fun iv _ => xs.length - (intOf iv).toNat)
  case atStart => exact ⟨0, rfl, by omega, hg1, ho1⟩
  case round =>
    obtain ⟨k, rfl, hk, hg, hO⟩ := hrel
    by_cases hlt : k < xs.length
    · obtain ⟨b, off, a2, cap2, rfl, _, _, hc2, hi2⟩ := Rows3.at (Rows3.ext h hg) k hlt
      go_wp2_with fail
      refine Calls.mono (toInt64SS_ok _ _ wr S hi2 (HS.out k hlt)) ?_
      rintro eA wA ⟨vA, rfl, hgA, hA⟩
      have hEl := SlO.toD hA (by have := HS.out k hlt; unfold size2 at this; omega)
      obtain ⟨aA, capA, rfl, _, _⟩ := SlD.shape hEl
      obtain ⟨⟨z, hcw⟩, hfr⟩ := (hO.ext rdRowsW hgA).place k (by rw [cpTo_len _ _ _ hk]; exact hlt)
      obtain ⟨hs1, hs2⟩ := hO.store rdRowsW hgA hEl k
      have hgn : Ext w (wA.setCell ⟨w.heap.size, k, none⟩ (.slice aA (gt xs k).length capA)) := grown_own (grown_trans hg hgA) hs2 (fun j hj hlt => by cases hj; omega)
      rw [cpTo_step xs [] k hlt] at hs1
      clear hs2 hc2 hi2 hA hEl hO
      go_wp2
      go_roundw
      case rel => exact ⟨k + 1, by go_num, by omega, hgn, hs1⟩
      case measure => simp [intOf]; omega
    · have hke : k = xs.length := by omega
      subst hke
      rw [cpTo_all] at hO
      go_wp2
      go_ret
      exact ⟨_, rfl, hg, hO⟩

end Go.Proofs.YtigbpdaomgagiaaGreat

/- Queues of rows: a slice at any place of an array of the call's own, whose rows lie in blocks elsewhere; tables of rows, nil where nothing stands. -/
namespace Go.Proofs.YtigbpdaomgagiaaGreat
open Go.RowKit

/-- a slice of one-cell elements in a block that the call owns, its spare too -/
def QOwn (B E : Nat) (w : World) (v : Value) (vs : List Value) : Prop :=
  (v = .slice none 0 0 ∧ vs = []) ∨ ∃ g off cap cur, v = .slice (some ⟨g, off, none⟩) vs.length cap ∧ B ≤ g ∧ w.heap[g]? = some (.cells cur E (0, 0)) ∧ vs.length ≤ cap ∧ cap ≤ maxLen ∧ off + cap ≤ cur.size ∧ ∀ i, i < vs.length → cur[off + i]? = some (gt vs i)

theorem QOwn.nil (B E : Nat) (w : World) : QOwn B E w (.slice none 0 0) [] := .inl ⟨rfl, rfl⟩

theorem QOwn.lt {B E : Nat} {w : World} {v : Value} {vs : List Value} (h : QOwn B E w v vs) (k : Nat) (hk : v.ownBlock = some k) : B ≤ k ∧ k < w.heap.size := by
  rcases h with ⟨rfl, _⟩ | ⟨g, off, cap, cur, rfl, hb, hg, _⟩
  · simp [Value.ownBlock] at hk
  · simp [Value.ownBlock] at hk
    subst hk
    exact ⟨hb, (Array.getElem?_eq_some_iff.1 hg).1⟩

theorem QOwn.of {B E : Nat} {w : World} {v : Value} {vs : List Value} (h : OwnV B E w v vs) : QOwn B E w v vs := by
  obtain ⟨h1, h | ⟨g, cap, cur, hv, hg, hb, hnc, hcm, hsz, hx⟩⟩ := h
  · exact .inl ⟨h.1, List.eq_nil_of_length_eq_zero h.2⟩
  · refine .inr ⟨g, 0, cap, cur, hv, hg, hb, hnc, hcm, by omega, fun i hi => ?_⟩
    have h2 : (cur.toList.take (vs.length * 1))[i]? = vs[i]? := by rw [hx]
    rw [List.getElem?_take_of_lt (by omega)] at h2
    rw [Nat.zero_add, ← Array.getElem?_toList, h2]
    simp [gt, hi]

theorem QOwn.kept {B E : Nat} {w w' : World} {v : Value} {vs : List Value} (h : QOwn B E w v vs) (hb : ∀ k, v.ownBlock = some k → w'.heap[k]? = w.heap[k]?) : QOwn B E w' v vs := by
  rcases h with h | ⟨g, off, cap, cur, rfl, h1, h2, r⟩
  · exact .inl h
  · exact .inr ⟨g, off, cap, cur, rfl, h1, by rw [hb g rfl]; exact h2, r⟩

theorem QOwn.weak {B B' E : Nat} {w : World} {v : Value} {vs : List Value} (h : QOwn B E w v vs) (hb : B' ≤ B) : QOwn B' E w v vs := by
  rcases h with h | ⟨g, off, cap, cur, hv, h1, r⟩
  · exact .inl h
  · exact .inr ⟨g, off, cap, cur, hv, Nat.le_trans hb h1, r⟩

theorem QOwn.shape {B E : Nat} {w : World} {v : Value} {vs : List Value} (h : QOwn B E w v vs) : ∃ a cap, v = .slice a vs.length cap ∧ vs.length ≤ maxLen := by
  rcases h with ⟨rfl, rfl⟩ | ⟨g, off, cap, cur, rfl, _, _, h1, h2, _⟩
  · exact ⟨none, 0, rfl, by simp⟩
  · exact ⟨_, _, rfl, Nat.le_trans h1 h2⟩

theorem QOwn.at {B E n cap : Nat} {w : World} {a : Option Addr} {vs : List Value} (h : QOwn B E w (.slice a n cap) vs) (i : Nat) (hi : i < vs.length) : ∃ g off, a = some ⟨g, off, none⟩ ∧ B ≤ g ∧ g < w.heap.size ∧ w.cell? ⟨g, off + i, none⟩ = some (gt vs i) := by
  rcases h with ⟨_, rfl⟩ | ⟨g, off, cap', cur, hv, hb, hg, h1, h2, h3, h4⟩
  · simp at hi
  · cases hv
    refine ⟨g, off, rfl, hb, (Array.getElem?_eq_some_iff.1 hg).1, ?_⟩
    simp only [World.cell?, hg, Option.isSome_none, Bool.false_eq_true, if_false]
    exact h4 i hi

/-- the queue without its first -/
theorem QOwn.tail {B E n cap : Nat} {w : World} {a : Option Addr} {x : Value} {vs : List Value} (h : QOwn B E w (.slice a n cap) (x :: vs)) : QOwn B E w (subSl (.slice a n cap) 1 n) vs := by
  rcases h with ⟨_, h⟩ | ⟨g, off, cap', cur, hv, hb, hg, h1, h2, h3, h4⟩
  · cases h
  · simp only [Value.slice.injEq] at hv
    obtain ⟨rfl, rfl, rfl⟩ := hv
    simp only [List.length_cons] at h1 h4 ⊢
    unfold subSl
    simp only [Nat.add_sub_cancel]
    by_cases e : cap = 1
    · have hn : vs = [] := List.eq_nil_of_length_eq_zero (by omega)
      subst hn
      rw [if_pos e]
      refine .inr ⟨g, off, 0, cur, ?_, hb, hg, by simp, by simp, by omega, by simp⟩
      subst e; rfl
    · rw [if_neg e]
      refine .inr ⟨g, off + 1, cap - 1, cur, by simp [Addr.add], hb, hg, by omega, by omega, by omega, fun i hi => ?_⟩
      have := h4 (i + 1) (by omega)
      rw [show off + 1 + i = off + (i + 1) by omega, this]
      simp [gt]

theorem QOwn.own_tail {a : Option Addr} {n cap : Nat} (k : Nat) (h : (subSl (.slice a n cap) 1 n).ownBlock = some k) : (Value.slice a n cap).ownBlock = some k := by
  unfold subSl at h
  cases a with
  | none => simp [Value.ownBlock] at h
  | some a =>
    by_cases e : cap = 1
    · simp only [if_pos e] at h; exact h
    · simp only [if_neg e, Option.map_some, Value.ownBlock] at h ⊢
      unfold Addr.add at h
      simpa using h

/-- append of one-cell elements -/
theorem wp_q_app (T E : Nat) (z : Value) (bytes : Nat) (hT : Tryz.prog.underlying T = some (.slice E)) (hE : (Tryz.prog.info? E).map (fun i => (i.zero, i.size, i.bytes)) = some (some z, 1, bytes))
    (hzs : z.cells.size = 1) (hbt : bytes ≤ 64) {ops : Array Oper} {rest : List Oper} {o : Oper} {a : Act} {Q : Exit → Act → World → Prop} {w : World} (hgd : o.guard = none) (s x : Operand)
    (ho : o.op = Op.call { callee := Callee.builtin Builtin.append, args := #[s, x], argTypes := #[T, T] }) (base : Nat) (v : Value) (xs : List Value) (hs : a.eval s = v) (hown : QOwn base E w v xs)
    (H : Nat) (u : Value) (hx : a.eval x = .slice (some ⟨H, 0, none⟩) 1 1) (hu : w.cell? ⟨H, 0, none⟩ = some u) (h1 : u.oneCell' = true) (hlen : xs.length ≤ 1000000) (hbase : base ≤ w.heap.size)
    (h : ∀ v' w', QOwn base E w' v' (xs ++ [u]) → w.grownBy w' v.ownBlock → (v'.ownBlock = v.ownBlock ∨ ∀ k, v'.ownBlock = some k → w.heap.size ≤ k) → wpList Tryz.prog ops Q rest (a.put o.dst v') w') :
    wpList Tryz.prog ops Q (o :: rest) a w := by
  rcases hown with ⟨rfl, rfl⟩ | ⟨g, off, cap, cur, rfl, hb, hg, hnc, hcm, hsz, hc⟩
  · refine wp_app T E z bytes hT hE hzs hbt hgd s x ho base (.slice none 0 0) [] hs (World.ownsRow_nil _ _ _ _) (some ⟨H, 0, none⟩) 1 1 [u] hx rfl (by simp) ?_ ?_ (by simp) hbase ?_
    · intro j hj
      have : j = 0 := by omega
      subst this
      exact ⟨H, 0, rfl, hu⟩
    · intro u' hu'
      simp at hu'; subst hu'; exact h1
    · intro v' w' k1 k2 _ k4
      exact h v' w' (QOwn.of k1) k2 (k4.imp id (fun e k hk => by rw [e] at hk; cases hk; exact Nat.le_refl _))
  · obtain ⟨i0, hi, hz0, hz1, hz2⟩ := info_parts hE
    have hgs : g < w.heap.size := (Array.getElem?_eq_some_iff.1 hg).1
    have hcell : ∀ i, i < cur.size → w.cell? ⟨g, i, none⟩ = cur[i]? := fun i _ => by
      simp only [World.cell?, hg, Option.isSome_none, Bool.false_eq_true, if_false]
    refine wpList_append_arg w hgd s x T ho E i0 z 1 bytes hT hi hz0 hz1 hz2 hzs (by decide) g off xs.length cap xs hs (by omega) ?_ ⟨H, 0, none⟩ 1 1 [u] hx rfl ?_ ?_ ?_ (by unfold maxLen; omega) (by have := Nat.mul_le_mul (show xs.length + 1 ≤ 1000001 by omega) hbt; omega) ?_ ?_
    · intro j u' hj
      have hj2 : j < xs.length := by
        rcases Nat.lt_or_ge j xs.length with h | h
        · exact h
        · rw [List.getElem?_eq_none h] at hj; cases hj
      rw [hcell _ (by omega), hc j hj2]
      simp [gt, hj]
    · intro j u' hj
      match j, hj with
      | 0, hj =>
        simp at hj; subst hj
        simpa [Addr.add] using hu
    · intro u' hu'
      simp at hu'; subst hu'; exact h1
    · intro hroom j hj
      have : j = 0 := by simpa using hj
      subst this
      refine ⟨?_, ?_⟩
      · rw [hcell _ (by omega), Array.getElem?_eq_getElem (by omega)]; rfl
      · simp [World.frozen?, hg]
    · intro hroom
      have e : w.setCells g (off + xs.length * 1) [u] = w.setCell ⟨g, off + xs.length, none⟩ u := by
        simp [World.setCells]
      rw [e]
      refine h _ _ (.inr ⟨g, off, cap, cur.setIfInBounds (off + xs.length) u, by simp, hb, ?_, by simpa using hroom, hcm, by simpa using hsz, fun i hi => ?_⟩) ?_ (.inl rfl)
      · simp only [World.setCell, Array.getElem?_modify, if_true, hg, Option.map_some]
        simp
      · simp only [List.length_append, List.length_singleton] at hi
        by_cases ei : i = xs.length
        · subst ei
          rw [gt_concat, Array.getElem?_setIfInBounds_self]
          simp; omega
        · rw [gt_append_left _ _ _ (by omega), Array.getElem?_setIfInBounds_ne (by omega)]
          exact hc i (by omega)
      · exact ⟨rfl, rfl, rfl, by simp [World.setCell], fun k hk hne => Below.heap_setCell _ _ _ _ (by intro e2; exact hne (by rw [e2]; rfl))⟩
    · intro hgrow v' w' k1 k2
      have k3 : OwnV base E w' v' (xs ++ [u]) := by
        unfold OwnV
        rw [List.length_append]
        obtain ⟨h1', h2'⟩ := k1
        refine ⟨h1', ?_⟩
        rcases h2' with h | ⟨g', cap', cur', hv, hg', r⟩
        · exact .inl h
        · exact .inr ⟨g', cap', cur', hv, by omega, r⟩
      refine h v' w' (QOwn.of k3) (grown_of_ext _ k2) (.inr (fun k hk => ?_))
      obtain ⟨_, h2'⟩ := k1
      rcases h2' with h | ⟨g', cap', cur', rfl, hg', r⟩
      · rw [h.1] at hk; simp [Value.ownBlock] at hk
      · simp [Value.ownBlock] at hk
        omega

/-- rows in blocks outside bad and outside the queue's own -/
def ShQ (bad : Nat → Prop) (B : Nat) (w : World) (v : Value) (xs : List (List Int)) : Prop :=
  ∃ vs, vs.length = xs.length ∧ QOwn B 22 w v vs ∧ ∀ i, i < xs.length → Ints (fun k => ¬ bad k ∧ v.ownBlock ≠ some k) w (gt vs i) (gt xs i)

theorem ShQ.nil (bad : Nat → Prop) (B : Nat) (w : World) : ShQ bad B w (.slice none 0 0) [] := ⟨[], rfl, QOwn.nil _ _ _, by simp⟩

theorem ShQ.shape {bad : Nat → Prop} {B : Nat} {w : World} {v : Value} {xs : List (List Int)} (h : ShQ bad B w v xs) : ∃ a cap, v = .slice a xs.length cap ∧ xs.length ≤ maxLen := by
  obtain ⟨vs, hl, hq, _⟩ := h
  obtain ⟨a, cap, rfl, hm⟩ := hq.shape
  exact ⟨a, cap, by rw [hl], by omega⟩

theorem ShQ.lt {bad : Nat → Prop} {B : Nat} {w : World} {v : Value} {xs : List (List Int)} (h : ShQ bad B w v xs) (k : Nat) (hk : v.ownBlock = some k) : B ≤ k ∧ k < w.heap.size := by
  obtain ⟨vs, _, hq, _⟩ := h
  exact hq.lt k hk

/-- nothing that the queue reads has turned -/
theorem ShQ.kept {bad bad' : Nat → Prop} {B : Nat} {w w' : World} {v : Value} {xs : List (List Int)} (h : ShQ bad B w v xs) (hs : w.heap.size ≤ w'.heap.size) (hb : ∀ k, k < w.heap.size → (v.ownBlock = some k ∨ ¬ bad k) → w'.heap[k]? = w.heap[k]?)
    (hbad : ∀ k, k < w.heap.size → bad' k → bad k) : ShQ bad' B w' v xs := by
  obtain ⟨vs, hl, hq, hr⟩ := h
  have hlt := hq.lt
  refine ⟨vs, hl, hq.kept (fun k hk => hb k (hlt k hk).2 (.inl hk)), fun i hi => Ints.mono (hr i hi) (fun k hk hlt => ⟨⟨fun h => hk.1 (hbad k hlt h), hk.2⟩, Nat.lt_of_lt_of_le hlt hs, hb k hlt (.inr hk.1)⟩)⟩

theorem ShQ.ext {bad : Nat → Prop} {B : Nat} {w w' : World} {v : Value} {xs : List (List Int)} (h : ShQ bad B w v xs) (hg : Ext w w') : ShQ bad B w' v xs :=
  h.kept hg.size (fun k hk _ => hg.block k hk (by simp)) (fun _ _ h => h)

theorem ShQ.head {bad : Nat → Prop} {B n cap : Nat} {w : World} {a : Option Addr} {xs : List (List Int)} (h : ShQ bad B w (.slice a n cap) xs) (i : Nat) (hi : i < xs.length) :
    ∃ g off u, a = some ⟨g, off, none⟩ ∧ B ≤ g ∧ g < w.heap.size ∧ w.cell? ⟨g, off + i, none⟩ = some u ∧ Ints (fun k => ¬ bad k ∧ k ≠ g) w u (gt xs i) := by
  obtain ⟨vs, hl, hq, hr⟩ := h
  obtain ⟨g, off, rfl, h1, h2, h3⟩ := hq.at i (by omega)
  exact ⟨g, off, _, rfl, h1, h2, h3, Ints.sub (hr i hi) (fun k hk _ => ⟨hk.1, fun e => hk.2 (by rw [e]; rfl)⟩)⟩

theorem ShQ.tail {bad : Nat → Prop} {B n cap : Nat} {w : World} {a : Option Addr} {x : List Int} {xs : List (List Int)} (h : ShQ bad B w (.slice a n cap) (x :: xs)) : ShQ bad B w (subSl (.slice a n cap) 1 n) xs := by
  obtain ⟨vs, hl, hq, hr⟩ := h
  cases vs with
  | nil => simp at hl
  | cons u vs =>
    refine ⟨vs, by simpa using hl, hq.tail, fun i hi => ?_⟩
    have h2 := hr (i + 1) (by simpa using hi)
    have h3 : Ints (fun k => ¬ bad k ∧ (Value.slice a n cap).ownBlock ≠ some k) w (gt vs i) (gt xs i) := by simpa [gt] using h2
    exact Ints.sub h3 (fun k hk _ => ⟨hk.1, fun e => hk.2 (QOwn.own_tail k e)⟩)

/-- append of one row -/
theorem wp_shq_app {ops : Array Oper} {rest : List Oper} {o : Oper} {a : Act} {Q : Exit → Act → World → Prop} {w : World} (hgd : o.guard = none) (s x : Operand)
    (ho : o.op = Op.call { callee := Callee.builtin Builtin.append, args := #[s, x], argTypes := #[23, 23] }) (bad : Nat → Prop) (B : Nat) (v u : Value) (xs : List (List Int)) (y : List Int) (hs : a.eval s = v) (w0 : World) (hown : ShQ bad B w0 v xs)
    (hw : w = w0.alloc (.cells #[u] 22)) (hu : Ints (fun k => ¬ bad k ∧ v.ownBlock ≠ some k) w0 u y) (hx : a.eval x = .slice (some ⟨w0.heap.size, 0, none⟩) 1 1) (hlen : xs.length ≤ 1000000) (hbase : B ≤ w0.heap.size)
    (h : ∀ v' w', ShQ bad B w' v' (xs ++ [y]) → w0.grownBy w' v.ownBlock → (v'.ownBlock = v.ownBlock ∨ ∀ k, v'.ownBlock = some k → w0.heap.size ≤ k) → wpList Tryz.prog ops Q rest (a.put o.dst v') w') :
    wpList Tryz.prog ops Q (o :: rest) a w := by
  subst hw
  obtain ⟨vs, hl, hq, hr⟩ := hown
  have hga : Ext w0 (w0.alloc (.cells #[u] 22)) := World.grownBy_alloc _ _ _
  have hlt := hq.lt
  have hq2 : QOwn B 22 (w0.alloc (.cells #[u] 22)) v vs := hq.kept (fun k hk => hga.block k (hlt k hk).2 (by simp))
  have hone : u.oneCell' = true := rdInts.one hu
  refine wp_q_app 23 22 (.slice none 0 0) 24 und_rows Tryz.infoRow rfl (by decide) hgd s x ho B v vs hs hq2 w0.heap.size u hx (by rw [World.cell?_alloc_at _ _ _ _ rfl]; rfl) hone (by omega) (by have := hga.size; omega) ?_
  intro v' w' h1 h2 h3
  have hg2 : w0.grownBy w' v.ownBlock := grown_trans (grown_of_ext _ hga) h2
  have hnew : ∀ k, k < w0.heap.size → v'.ownBlock = some k → v.ownBlock = some k := fun k hk e => by
    rcases h3 with h | h
    · rw [← h]; exact e
    · have := h k e; simp at this; omega
  refine h v' w' ⟨vs ++ [u], by simp [hl], h1, fun i hi => ?_⟩ hg2 (h3.imp id (fun h k hk => by have := h k hk; simp at this; omega))
  simp only [List.length_append, List.length_singleton] at hi
  have hfr : ∀ k, (¬ bad k ∧ v.ownBlock ≠ some k) → k < w0.heap.size → (¬ bad k ∧ v'.ownBlock ≠ some k) ∧ k < w'.heap.size ∧ w'.heap[k]? = w0.heap[k]? := fun k hk hlt =>
    ⟨⟨hk.1, fun e => hk.2 (hnew k hlt e)⟩, Nat.lt_of_lt_of_le hlt hg2.size, hg2.block k hlt (fun e => hk.2 e.symm)⟩
  by_cases hlt : i < xs.length
  · rw [gt_append_left _ _ _ (by omega), gt_append_left _ _ _ hlt]
    exact Ints.mono (hr i hlt) hfr
  · have hi2 : i = xs.length := by omega
    subst hi2
    rw [gt_concat, ← hl, gt_concat]
    exact Ints.mono hu hfr

end Go.Proofs.YtigbpdaomgagiaaGreat
