/-
  Plain: subgroups of a consistent presentation; what a table by depths must hold so that its products are a subgroup.
-/
import Derived.Test.YtbfbpjkpoepmkaaK7
namespace Go.Proofs.Ytbfbpjkpoepmkaa

theorem rAt_right {P : Pr} (hP : Valid P) (f : Nat) : ∀ (i e : Nat) (x z : List Int), i + f = P.orders.length → i ≤ e → e ≤ P.orders.length → Vec P.orders x → T P e z →
    (∀ k, i ≤ k → k < e → gt (rAt P f i x z) k = gt x k) ∧ (e < P.orders.length → gt (rAt P f i x z) e = (gt x e + gt z e) % gt P.orders e) := by
  induction f with
  | zero => intro i e x z hi he hen _ _; exact ⟨fun k a b => by omega, fun h => by omega⟩
  | succ f ih =>
    intro i e x z hi he hen hx hz
    have hin : i < P.orders.length := by omega
    have ho := hP.ord7 i hin
    have hxi := hx.2 i hin
    have hzi := hz.1.2 i hin
    have hr := rAt_T hP (f + 1) i x z hi hx hz.1
    by_cases hie : i = e
    · subst hie
      refine ⟨fun k a b => by omega, fun _ => ?_⟩
      simp only [rAt]
      have hl : ∀ l : List Int, Vec P.orders l → Vec P.orders (iter (gt z i).toNat (fun l => rImgTo (rAt P f (i + 1)) (gt P.conj i) i l (zeros P.orders.length) f) l) := fun l hl =>
        iter_inv (Vec P.orders) _ (fun y hy => rImgTo_vec hP f i hi (rAt_vec hP f) _ _ (zeros_vec hP) f (Nat.le_refl _)) _ _ hl
      have v1 := hl _ (hx.set i 0 ⟨by omega, fun _ => by omega⟩)
      have v2 : Vec P.orders (z.set i 0) := hz.1.set i 0 ⟨by omega, fun _ => by omega⟩
      have v3 := rAt_vec hP f (i + 1) _ _ (by omega) v1 v2
      split
      · rename_i hc
        have v4 := rAt_vec hP f (i + 1) _ _ (by omega) (hP.pv i hin).1 v3
        rw [gt_set_eq _ _ _ (by rw [v4.1]; exact hin)]
        have e1 : gt x i + gt z i = (gt x i + gt z i - gt P.orders i) + gt P.orders i := by omega
        rw [e1, Int.add_emod_right, Int.emod_eq_of_lt (by omega) (by omega)]
        omega
      · rename_i hc
        rw [gt_set_eq _ _ _ (by rw [v3.1]; exact hin), Int.emod_eq_of_lt (by omega) (by omega)]
    · have hz0 : gt z i = 0 := hz.2 i (by omega)
      have hzs : z.set i 0 = z := set_zero_of (P := P) (hz.down (by omega))
      have hxs : Vec P.orders (x.set i 0) := hx.set i 0 ⟨by omega, fun _ => by omega⟩
      have hrec := ih (i + 1) e (x.set i 0) z (by omega) (by omega) hen hxs hz
      have v3 := rAt_vec hP f (i + 1) (x.set i 0) z (by omega) hxs hz.1
      have hdef : rAt P (f + 1) i x z = (rAt P f (i + 1) (x.set i 0) z).set i (gt x i) := by
        simp only [rAt, hz0, hzs]
        rw [if_neg (by omega), Int.add_zero]
        rfl
      rw [hdef]
      refine ⟨fun k a b => ?_, fun h => ?_⟩
      · by_cases ek : i = k
        · subst ek; rw [gt_set_eq _ _ _ (by rw [v3.1]; exact hin)]
        · rw [gt_set_ne _ _ _ _ ek, hrec.1 k (by omega) b, gt_set_ne _ _ _ _ ek]
      · rw [gt_set_ne _ _ _ _ (by omega), hrec.2 h, gt_set_ne _ _ _ _ (by omega)]

/-- powers in the group -/
def pw (P : Pr) (x : List Int) (k : Nat) : List Int := iter k (fun y => rMul P y x) (zeros P.orders.length)

section
variable {P : Pr} (G : Grp P)
include G

theorem Grp.right {x z : List Int} {e : Nat} (he : e ≤ P.orders.length) (hx : Vec P.orders x) (hz : T P e z) :
    (∀ k, k < e → gt (rMul P x z) k = gt x k) ∧ (e < P.orders.length → gt (rMul P x z) e = (gt x e + gt z e) % gt P.orders e) := by
  have h := rAt_right G.v P.orders.length 0 e x z (by omega) (by omega) he hx hz
  exact ⟨fun k hk => h.1 k (by omega) hk, h.2⟩

theorem Grp.T_mul {x y : List Int} {d : Nat} (hd : d ≤ P.orders.length) (hx : T P d x) (hy : T P d y) : T P d (rMul P x y) :=
  ⟨G.mulV hx.1 hy.1, fun k hk => by rw [(G.right hd hx.1 hy).1 k hk]; exact hx.2 k hk⟩

theorem Grp.pw_vec {x : List Int} (hx : Vec P.orders x) (k : Nat) : Vec P.orders (pw P x k) := G.grp.toMonOn.pow_cl hx G.oneV k
theorem Grp.pw_add {x : List Int} (hx : Vec P.orders x) (a b : Nat) : pw P x (a + b) = rMul P (pw P x a) (pw P x b) := G.grp.toMonOn.pow_add hx a b
omit G in
theorem pw_zero (P : Pr) (x : List Int) : pw P x 0 = zeros P.orders.length := rfl
omit G in
theorem pw_succ (P : Pr) (x : List Int) (k : Nat) : pw P x (k + 1) = rMul P (pw P x k) x := rfl
theorem Grp.pw_one {x : List Int} (hx : Vec P.orders x) : pw P x 1 = x := G.grp.el x hx
theorem Grp.pw_succ' {x : List Int} (hx : Vec P.orders x) (k : Nat) : pw P x (k + 1) = rMul P x (pw P x k) := by
  rw [Nat.add_comm, G.pw_add hx, G.pw_one hx]
theorem Grp.pw_mul {x : List Int} (hx : Vec P.orders x) (a b : Nat) : pw P x (a * b) = pw P (pw P x a) b := by
  induction b with
  | zero => rfl
  | succ b ih => rw [Nat.mul_succ, G.pw_add hx, ih]; rfl
theorem Grp.pw_T {x : List Int} {d : Nat} (hd : d ≤ P.orders.length) (hx : T P d x) (k : Nat) : T P d (pw P x k) := by
  induction k with
  | zero => exact T.zeros G.v d
  | succ k ih => exact G.T_mul hd ih hx
theorem Grp.pw_at {x : List Int} {d : Nat} (hd : d < P.orders.length) (hx : T P d x) (k : Nat) : gt (pw P x k) d = ((k : Int) * gt x d) % gt P.orders d := by
  induction k with
  | zero => rw [pw_zero]; show gt (List.replicate _ (0 : Int)) d = _; rw [gt_replicate]; simp
  | succ k ih =>
    rw [pw_succ, (G.right (Nat.le_of_lt hd) (G.pw_vec hx.1 k) hx).2 hd, ih, Int.emod_add_emod]
    congr 1
    rw [Int.natCast_add, Int.add_mul]; simp
theorem Grp.pw_order {x : List Int} {d : Nat} (hd : d < P.orders.length) (hx : T P d x) : T P (d + 1) (pw P x (gt P.orders d).toNat) := by
  have ho := G.v.ord7 d hd
  refine (G.pw_T (Nat.le_of_lt hd) hx _).up ?_
  rw [G.pw_at hd hx, show (((gt P.orders d).toNat : Nat) : Int) = gt P.orders d by omega, Int.mul_emod_right]

/-- every element has finite order -/
theorem Grp.fin (f : Nat) : ∀ (d : Nat) (x : List Int), d + f = P.orders.length → T P d x → ∃ M, 1 ≤ M ∧ pw P x M = zeros P.orders.length := by
  induction f with
  | zero =>
    intro d x hd hx
    have : d = P.orders.length := by omega
    subst this
    refine ⟨1, Nat.le_refl _, ?_⟩
    rw [G.pw_one hx.1]; exact hx.top G.v
  | succ f ih =>
    intro d x hd hx
    have ho := G.v.ord7 d (by omega)
    obtain ⟨M, h1, h2⟩ := ih (d + 1) _ (by omega) (G.pw_order (by omega) hx)
    refine ⟨(gt P.orders d).toNat * M, Nat.mul_pos (by omega) h1, ?_⟩
    rw [G.pw_mul hx.1, h2]

theorem Grp.inv_pw {x : List Int} (hx : Vec P.orders x) : ∃ k, rInv P x = pw P x k := by
  obtain ⟨M, h1, h2⟩ := G.fin P.orders.length 0 x (by omega) (T_zero.2 hx)
  refine ⟨M - 1, ?_⟩
  refine (G.inv_of hx (G.pw_vec hx _) ?_).symm
  rw [← G.pw_succ' hx, show M - 1 + 1 = M by omega, h2]

theorem Grp.T_inv {x : List Int} {d : Nat} (hd : d ≤ P.orders.length) (hx : T P d x) : T P d (rInv P x) := by
  obtain ⟨k, hk⟩ := G.inv_pw hx.1
  rw [hk]; exact G.pw_T hd hx k

/-- two elements alike at their depth differ by a deeper one -/
theorem Grp.diff {u v : List Int} {d : Nat} (hd : d < P.orders.length) (hu : T P d u) (hv : T P d v) (h : gt u d = gt v d) : T P (d + 1) (rMul P (rInv P u) v) := by
  have hi := G.T_inv (Nat.le_of_lt hd) hu
  have hc := G.T_mul (Nat.le_of_lt hd) hi hv
  refine hc.up ?_
  have e1 : rMul P u (rMul P (rInv P u) v) = v := by rw [← G.ass hu.1 hi.1 hv.1, G.mul_inv hu.1, G.grp.el _ hv.1]
  have e2 := (G.right (Nat.le_of_lt hd) hu.1 hc).2 hd
  rw [e1] at e2
  have b1 := hu.1.2 d hd
  have b2 := hc.1.2 d hd
  by_cases hlt : gt u d + gt (rMul P (rInv P u) v) d < gt P.orders d
  · rw [Int.emod_eq_of_lt (by omega) hlt] at e2; omega
  · have e3 : gt u d + gt (rMul P (rInv P u) v) d = (gt u d + gt (rMul P (rInv P u) v) d - gt P.orders d) + gt P.orders d := by omega
    rw [e3, Int.add_emod_right, Int.emod_eq_of_lt (by omega) (by omega)] at e2; omega
end

/-- a subgroup -/
structure Sub (P : Pr) (H : List Int → Prop) : Prop where
  vec : ∀ x, H x → Vec P.orders x
  one : H (zeros P.orders.length)
  mul : ∀ x y, H x → H y → H (rMul P x y)
  inv : ∀ x, H x → H (rInv P x)

/-- the subgroup that a list of elements generates -/
def gen (P : Pr) (L : List (List Int)) (x : List Int) : Prop := ∀ H, Sub P H → (∀ y ∈ L, H y) → H x

section
variable {P : Pr} (G : Grp P)
include G

theorem Grp.sub_all : Sub P (Vec P.orders) := ⟨fun _ h => h, G.oneV, fun _ _ h k => G.mulV h k, fun _ h => G.invV h⟩
theorem Grp.sub_of_mul {H : List Int → Prop} (hv : ∀ x, H x → Vec P.orders x) (h1 : H (zeros P.orders.length)) (hm : ∀ x y, H x → H y → H (rMul P x y)) : Sub P H := by
  refine ⟨hv, h1, hm, fun x hx => ?_⟩
  obtain ⟨k, hk⟩ := G.inv_pw (hv x hx)
  rw [hk]
  induction k generalizing x with
  | zero => exact h1
  | succ k _ =>
    have : ∀ j, H (pw P x j) := by
      intro j
      induction j with
      | zero => exact h1
      | succ j ihj => exact hm _ _ ihj hx
    exact this _
omit G in
theorem Sub.pw {H : List Int → Prop} (S : Sub P H) {x : List Int} (hx : H x) (k : Nat) : H (Go.Proofs.Ytbfbpjkpoepmkaa.pw P x k) := by
  induction k with
  | zero => exact S.one
  | succ k ih => exact S.mul _ _ ih hx
theorem Grp.gen_sub {L : List (List Int)} (hL : ∀ y ∈ L, Vec P.orders y) : Sub P (gen P L) :=
  ⟨fun _ h => h _ G.sub_all hL, fun _ S _ => S.one, fun _ _ h k _ S hH => S.mul _ _ (h _ S hH) (k _ S hH), fun _ h _ S hH => S.inv _ (h _ S hH)⟩
omit G in
theorem gen_mem {L : List (List Int)} {y : List Int} (hy : y ∈ L) : gen P L y := fun _ _ hH => hH y hy
omit G in
theorem gen_le {L : List (List Int)} {H : List Int → Prop} (S : Sub P H) (h : ∀ y ∈ L, H y) {x : List Int} (hx : gen P L x) : H x := hx _ S h

/-- commutators as both sides take them -/
theorem Grp.comm_deep {x y : List Int} {d : Nat} (hd : d < P.orders.length) (hx : T P d x) (hy : T P (d + 1) y) :
    T P (d + 1) (rMul P (rInv P (rMul P y x)) (rMul P x y)) ∧ T P (d + 1) (rMul P (rInv P (rMul P x y)) (rMul P y x)) := by
  have hd' := Nat.le_of_lt hd
  have hyd := hy.down (Nat.le_succ d)
  have h1 := G.T_mul hd' hx hyd
  have h2 := G.T_mul hd' hyd hx
  have e1 : gt (rMul P x y) d = gt x d := (G.right (Nat.succ_le_of_lt hd) hx.1 hy).1 d (by omega)
  have e2 : gt (rMul P y x) d = gt x d := by
    rw [(G.right hd' hyd.1 hx).2 hd, hy.2 d (by omega), Int.zero_add]
    have := hx.1.2 d hd
    exact Int.emod_eq_of_lt this.1 this.2
  exact ⟨G.diff hd h2 h1 (by rw [e1, e2]), G.diff hd h1 h2 (by rw [e1, e2])⟩

/-- x^y out of the commutator -/
theorem Grp.conj_of_comm {x y : List Int} (hx : Vec P.orders x) (hy : Vec P.orders y) : rConj P x y = rMul P x (rMul P (rInv P (rMul P y x)) (rMul P x y)) := by
  unfold rConj
  have c1 := G.mulV hx hy
  rw [G.inv_mulR hy hx, G.ass (G.invV hx) (G.invV hy) c1, ← G.ass hx (G.invV hx) (G.mulV (G.invV hy) c1), G.mul_inv hx, G.grp.el _ (G.mulV (G.invV hy) c1)]
theorem Grp.comm_inv {x y : List Int} (hx : Vec P.orders x) (hy : Vec P.orders y) : rInv P (rMul P (rInv P (rMul P x y)) (rMul P y x)) = rMul P (rInv P (rMul P y x)) (rMul P x y) := by
  have c1 := G.mulV hx hy
  have c2 := G.mulV hy hx
  rw [G.inv_mulR (G.invV c1) c2, G.inv_inv c1]

/-- what the tables of both sides come to: R, the elements that were looked at -/
structure Closed (P : Pr) (b : Nat → List Int) (R : List Int → Prop) : Prop where
  tab : ∀ d, d < P.orders.length → b d ≠ [] → T P d (b d) ∧ gt (b d) d = 1
  vec : ∀ q, R q → Vec P.orders q
  step : ∀ q, R q → q = zeros P.orders.length ∨ ∃ d, d < P.orders.length ∧ T P d q ∧ gt q d ≠ 0 ∧ b d ≠ [] ∧ ∃ q', R q' ∧ T P (d + 1) q' ∧ ∀ K, Sub P K → K (b d) → K q' → K q
  pow : ∀ d, d < P.orders.length → b d ≠ [] → R (pw P (b d) (gt P.orders d).toNat)
  com : ∀ d e, d < e → e < P.orders.length → b d ≠ [] → b e ≠ [] → ∃ c, R c ∧ T P (d + 1) c ∧ ∀ K, Sub P K → K (b e) → K c → K (rConj P (b e) (b d))

/-- the subgroup of the entries from depth d on -/
structure TailSub (P : Pr) (b : Nat → List Int) (R : List Int → Prop) (d : Nat) (K : List Int → Prop) : Prop where
  sub : Sub P K
  deep : ∀ x, K x → T P d x
  mem : ∀ e, d ≤ e → e < P.orders.length → b e ≠ [] → K (b e)
  res : ∀ q, R q → T P d q → K q
  piv : ∀ x, K x → ∀ e, d ≤ e → e < P.orders.length → T P e x → gt x e ≠ 0 → b e ≠ []
  min : ∀ K', Sub P K' → (∀ e, d ≤ e → e < P.orders.length → b e ≠ [] → K' (b e)) → ∀ x, K x → K' x

theorem Grp.conj_hom {x y z : List Int} (hx : Vec P.orders x) (hy : Vec P.orders y) (hz : Vec P.orders z) : rConj P (rMul P x y) z = rMul P (rConj P x z) (rConj P y z) := by
  unfold rConj
  have hi := G.invV hz
  have c1 := G.mulV hx hz
  have c2 := G.mulV hy hz
  rw [G.ass hi c1 (G.mulV hi c2), G.ass hx hz (G.mulV hi c2), ← G.ass hz hi c2, G.mul_inv hz, G.grp.el _ c2, G.ass hx hy hz]

theorem Grp.tailSub {b : Nat → List Int} {R : List Int → Prop} (C : Closed P b R) (f : Nat) : ∀ d, d + f = P.orders.length → ∃ K, TailSub P b R d K := by
  induction f with
  | zero =>
    intro d hd
    have : d = P.orders.length := by omega
    subst this
    have hone : Sub P (fun x => x = zeros P.orders.length) := by
      refine G.sub_of_mul (fun x h => by rw [h]; exact G.oneV) rfl (fun x y hx hy => ?_)
      rw [hx, hy]; exact G.grp.el _ G.oneV
    exact ⟨_, hone, fun x h => by rw [h]; exact T.zeros G.v _, fun e a b' => by omega, fun q _ hq => hq.top G.v, fun x _ e a b' => by omega, fun K' S _ x hx => by rw [hx]; exact S.one⟩
  | succ f ih =>
    intro d hd
    obtain ⟨K', t⟩ := ih (d + 1) (by omega)
    have hdn : d < P.orders.length := by omega
    have hd' := Nat.le_of_lt hdn
    by_cases hb : b d = []
    · refine ⟨K', t.sub, fun x hx => (t.deep x hx).down (Nat.le_succ d), fun e a b' hbe => ?_, fun q hq hT => ?_, fun x hx e a b' hT h0 => ?_, fun K2 S h x hx => t.min K2 S (fun e a b' hbe => h e (by omega) b' hbe) x hx⟩
      · by_cases ed : e = d
        · subst ed; exact absurd hb hbe
        · exact t.mem e (by omega) b' hbe
      · rcases C.step q hq with h | ⟨d', h1, h2, h3, h4, _⟩
        · rw [h]; exact t.sub.one
        · have hdd : d ≤ d' := by
            have : ¬ d' < d := fun h => h3 (hT.2 d' h)
            omega
          have hne : d' ≠ d := fun e => h4 (by rw [e]; exact hb)
          exact t.res q hq (h2.down (by omega))
      · by_cases ed : e = d
        · subst ed
          exact absurd ((t.deep x hx).2 e (by omega)) h0
        · exact t.piv x hx e (by omega) b' hT h0
    · obtain ⟨hbT, hb1⟩ := C.tab d hdn hb
      have ho := G.v.ord7 d hdn
      have hbV := hbT.1
      -- conjugation by the new entry keeps K'
      have hN : Sub P (fun y => K' y ∧ K' (rConj P y (b d))) := by
        refine G.sub_of_mul (fun x h => t.sub.vec x h.1) ⟨t.sub.one, ?_⟩ (fun x y hx hy => ⟨t.sub.mul _ _ hx.1 hy.1, ?_⟩)
        · have : rConj P (zeros P.orders.length) (b d) = zeros P.orders.length := by
            unfold rConj; rw [G.grp.el _ hbV, G.inv_mul hbV]
          rw [this]; exact t.sub.one
        · rw [G.conj_hom (t.sub.vec x hx.1) (t.sub.vec y hy.1) hbV]; exact t.sub.mul _ _ hx.2 hy.2
      have hcj : ∀ y, K' y → K' (rConj P y (b d)) := fun y hy => (t.min _ hN (fun e a b' hbe => by
        have hm := t.mem e a b' hbe
        obtain ⟨c, hc1, hc2, hc3⟩ := C.com d e (by omega) b' hb hbe
        exact ⟨hm, hc3 K' t.sub hm (t.res c hc1 hc2)⟩) y hy).2
      have hcjk : ∀ (k : Nat) y, K' y → K' (rMul P (rInv P (pw P (b d) k)) (rMul P y (pw P (b d) k))) := by
        intro k
        induction k with
        | zero =>
          intro y hy
          have h0 : rConj P y (zeros P.orders.length) = y := G.conj_one (t.sub.vec y hy)
          show K' (rConj P y (zeros P.orders.length))
          rw [h0]; exact hy
        | succ k ihk =>
          intro y hy
          have h1 := hcj _ (ihk y hy)
          have h2 : rConj P (rConj P y (pw P (b d) k)) (b d) = rConj P y (pw P (b d) (k + 1)) := G.conj_mul (t.sub.vec y hy) (G.pw_vec hbV k) hbV
          show K' (rConj P y (pw P (b d) (k + 1)))
          rw [← h2]; exact h1
      have hw : K' (pw P (b d) (gt P.orders d).toNat) := t.res _ (C.pow d hdn hb) (G.pw_order hdn hbT)
      have hK : Sub P (fun x => ∃ k y, K' y ∧ x = rMul P (pw P (b d) k) y) := by
        refine G.sub_of_mul ?_ ⟨0, _, t.sub.one, (G.grp.el _ G.oneV).symm⟩ ?_
        · rintro x ⟨k, y, hy, rfl⟩; exact G.mulV (G.pw_vec hbV k) (t.sub.vec y hy)
        · rintro x x' ⟨k, y, hy, rfl⟩ ⟨l, z, hz, rfl⟩
          have vy := t.sub.vec y hy
          have vz := t.sub.vec z hz
          have pk := G.pw_vec hbV k
          have pl := G.pw_vec hbV l
          refine ⟨k + l, _, t.sub.mul _ _ (hcjk l y hy) hz, ?_⟩
          rw [G.pw_add hbV, G.ass pk vy (G.mulV pl vz), ← G.ass vy pl vz, G.ass (G.invV pl) (G.mulV vy pl) vz, G.ass pk pl (G.mulV (G.invV pl) (G.mulV (G.mulV vy pl) vz)), ← G.ass pl (G.invV pl) (G.mulV (G.mulV vy pl) vz), G.mul_inv pl, G.grp.el _ (G.mulV (G.mulV vy pl) vz)]
      have hsub : ∀ y, K' y → ∃ k z, K' z ∧ y = rMul P (pw P (b d) k) z := fun y hy => ⟨0, y, hy, (G.grp.el y (t.sub.vec y hy)).symm⟩
      have hbK : ∃ k z, K' z ∧ b d = rMul P (pw P (b d) k) z := ⟨1, _, t.sub.one, by rw [G.pw_one hbV, G.grp.er _ hbV]⟩
      refine ⟨_, hK, ?_, fun e a b' hbe => ?_, fun q hq hT => ?_, ?_, ?_⟩
      · rintro x ⟨k, y, hy, rfl⟩
        exact G.T_mul hd' (G.pw_T hd' hbT k) ((t.deep y hy).down (Nat.le_succ d))
      · by_cases ed : e = d
        · subst ed; exact hbK
        · exact hsub _ (t.mem e (by omega) b' hbe)
      · rcases C.step q hq with h | ⟨d', h1, h2, h3, h4, q', h5, h6, h7⟩
        · rw [h]; exact hK.one
        · have hdd : d ≤ d' := by
            have : ¬ d' < d := fun h => h3 (hT.2 d' h)
            omega
          by_cases ed : d' = d
          · subst ed
            exact h7 _ hK hbK (hsub q' (t.res q' h5 h6))
          · exact hsub q (t.res q hq (h2.down (by omega)))
      · rintro x ⟨k, y, hy, rfl⟩ e a b' hT h0
        by_cases ed : e = d
        · rw [ed]; exact hb
        · have hyT := t.deep y hy
          have hx0 : gt (rMul P (pw P (b d) k) y) d = 0 := hT.2 d (by omega)
          rw [(G.right (Nat.succ_le_of_lt hdn) (G.pw_vec hbV k) hyT).1 d (by omega), G.pw_at hdn hbT, hb1, Int.mul_one] at hx0
          -- the order divides k
          obtain ⟨j, hj⟩ : ∃ j : Nat, k = (gt P.orders d).toNat * j := by
            refine ⟨k / (gt P.orders d).toNat, ?_⟩
            have h1 : ((k % (gt P.orders d).toNat : Nat) : Int) = 0 := by
              rw [Int.natCast_emod, show (((gt P.orders d).toNat : Nat) : Int) = gt P.orders d by omega]; exact hx0
            have h2 := Nat.div_add_mod k (gt P.orders d).toNat
            omega
          have hpk : K' (pw P (b d) k) := by rw [hj, G.pw_mul hbV]; exact t.sub.pw hw j
          exact t.piv _ (t.sub.mul _ _ hpk hy) e (by omega) b' hT h0
      · rintro K2 S h x ⟨k, y, hy, rfl⟩
        exact S.mul _ _ (S.pw (h d (Nat.le_refl d) hdn hb) k) (t.min K2 S (fun e a b' hbe => h e (by omega) b' hbe) y hy)

/-- a table that induces a subgroup -/
structure Ind (P : Pr) (H : List Int → Prop) (b : Nat → List Int) : Prop where
  sub : Sub P H
  mem : ∀ d, d < P.orders.length → b d ≠ [] → H (b d) ∧ T P d (b d) ∧ gt (b d) d = 1
  piv : ∀ x, H x → ∀ d, d < P.orders.length → T P d x → gt x d ≠ 0 → b d ≠ []

theorem Grp.ind_of_closed {b : Nat → List Int} {R : List Int → Prop} (C : Closed P b R) {L : List (List Int)} (hL : ∀ y ∈ L, R y) (hb : ∀ d, d < P.orders.length → b d ≠ [] → gen P L (b d)) : Ind P (gen P L) b := by
  obtain ⟨K, t⟩ := G.tailSub C P.orders.length 0 (by omega)
  have hgs := G.gen_sub (L := L) (fun y hy => C.vec y (hL y hy))
  have hKL : ∀ x, K x → gen P L x := fun x hx => t.min _ hgs (fun e _ b' hbe => hb e b' hbe) x hx
  have hLK : ∀ x, gen P L x → K x := fun x hx => gen_le t.sub (fun y hy => t.res y (hL y hy) (T_zero.2 (C.vec y (hL y hy)))) hx
  exact ⟨hgs, fun d hd hbd => ⟨hb d hd hbd, C.tab d hd hbd⟩, fun x hx d hd hT h0 => t.piv x (hLK x hx) d (by omega) hd hT h0⟩

end

end Go.Proofs.Ytbfbpjkpoepmkaa
