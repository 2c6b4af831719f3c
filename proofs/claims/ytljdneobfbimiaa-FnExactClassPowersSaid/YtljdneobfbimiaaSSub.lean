/-
  Plain: subgroups of a consistent presentation; what a table by depths must hold so that its products are a subgroup.
-/
import Derived.Test.YtljdneobfbimiaaK7
namespace Go.Proofs.Ytljdneobfbimiaa

theorem rAt_right {P : Pr} (hP : Valid P) (f : Nat) : ∀ (i e : Nat) (x z : List Int), i + f = P.orders.length → i ≤ e → e ≤ P.orders.length → Vec P.orders x → T P e z →
    (∀ k, i ≤ k → k < e → gt (rAt P f i x z) k = gt x k) ∧ (e < P.orders.length → gt (rAt P f i x z) e = (gt x e + gt z e) % gt P.orders e) := by
  induction f with
  | zero => intro i e x z hi he hen _ _; exact ⟨fun k a b => by omega, fun h => by omega⟩
  | succ f ih =>
    intro i e x z hi he hen hx hz
    have hin : i < P.orders.length := by omega
    have ho := hP.ord7 i hin
    have hxi := hx.2 i hin
    have hzi := hz.1.2 i hin
    have hr := rAt_T hP (f + 1) i x z hi hx hz.1
    by_cases hie : i = e
    · subst hie
      refine ⟨fun k a b => by omega, fun _ => ?_⟩
      simp only [rAt]
      have hl : ∀ l : List Int, Vec P.orders l → Vec P.orders (iter (gt z i).toNat (fun l => rImgTo (rAt P f (i + 1)) (gt P.conj i) i l (zeros P.orders.length) f) l) := fun l hl =>
        iter_inv (Vec P.orders) _ (fun y hy => rImgTo_vec hP f i hi (rAt_vec hP f) _ _ (zeros_vec hP) f (Nat.le_refl _)) _ _ hl
      have v1 := hl _ (hx.set i 0 ⟨by omega, fun _ => by omega⟩)
      have v2 : Vec P.orders (z.set i 0) := hz.1.set i 0 ⟨by omega, fun _ => by omega⟩
      have v3 := rAt_vec hP f (i + 1) _ _ (by omega) v1 v2
      split
      · rename_i hc
        have v4 := rAt_vec hP f (i + 1) _ _ (by omega) (hP.pv i hin).1 v3
        rw [gt_set_eq _ _ _ (by rw [v4.1]; exact hin)]
        have e1 : gt x i + gt z i = (gt x i + gt z i - gt P.orders i) + gt P.orders i := by omega
        rw [e1, Int.add_emod_right, Int.emod_eq_of_lt (by omega) (by omega)]
        omega
      · rename_i hc
        rw [gt_set_eq _ _ _ (by rw [v3.1]; exact hin), Int.emod_eq_of_lt (by omega) (by omega)]
    · have hz0 : gt z i = 0 := hz.2 i (by omega)
      have hzs : z.set i 0 = z := set_zero_of (P := P) (hz.down (by omega))
      have hxs : Vec P.orders (x.set i 0) := hx.set i 0 ⟨by omega, fun _ => by omega⟩
      have hrec := ih (i + 1) e (x.set i 0) z (by omega) (by omega) hen hxs hz
      have v3 := rAt_vec hP f (i + 1) (x.set i 0) z (by omega) hxs hz.1
      have hdef : rAt P (f + 1) i x z = (rAt P f (i + 1) (x.set i 0) z).set i (gt x i) := by
        simp only [rAt, hz0, hzs]
        rw [if_neg (by omega), Int.add_zero]
        rfl
      rw [hdef]
      refine ⟨fun k a b => ?_, fun h => ?_⟩
      · by_cases ek : i = k
        · subst ek; rw [gt_set_eq _ _ _ (by rw [v3.1]; exact hin)]
        · rw [gt_set_ne _ _ _ _ ek, hrec.1 k (by omega) b, gt_set_ne _ _ _ _ ek]
      · rw [gt_set_ne _ _ _ _ (by omega), hrec.2 h, gt_set_ne _ _ _ _ (by omega)]

/-- powers in the group -/
def pw (P : Pr) (x : List Int) (k : Nat) : List Int := iter k (fun y => rMul P y x) (zeros P.orders.length)

section
variable {P : Pr} (G : Grp P)
include G

theorem Grp.right {x z : List Int} {e : Nat} (he : e ≤ P.orders.length) (hx : Vec P.orders x) (hz : T P e z) :
    (∀ k, k < e → gt (rMul P x z) k = gt x k) ∧ (e < P.orders.length → gt (rMul P x z) e = (gt x e + gt z e) % gt P.orders e) := by
  have h := rAt_right G.v P.orders.length 0 e x z (by omega) (by omega) he hx hz
  exact ⟨fun k hk => h.1 k (by omega) hk, h.2⟩

theorem Grp.T_mul {x y : List Int} {d : Nat} (hd : d ≤ P.orders.length) (hx : T P d x) (hy : T P d y) : T P d (rMul P x y) :=
  ⟨G.mulV hx.1 hy.1, fun k hk => by rw [(G.right hd hx.1 hy).1 k hk]; exact hx.2 k hk⟩

theorem Grp.pw_vec {x : List Int} (hx : Vec P.orders x) (k : Nat) : Vec P.orders (pw P x k) := G.grp.toMonOn.pow_cl hx G.oneV k
theorem Grp.pw_add {x : List Int} (hx : Vec P.orders x) (a b : Nat) : pw P x (a + b) = rMul P (pw P x a) (pw P x b) := G.grp.toMonOn.pow_add hx a b
omit G in
theorem pw_zero (P : Pr) (x : List Int) : pw P x 0 = zeros P.orders.length := rfl
omit G in
theorem pw_succ (P : Pr) (x : List Int) (k : Nat) : pw P x (k + 1) = rMul P (pw P x k) x := rfl
theorem Grp.pw_one {x : List Int} (hx : Vec P.orders x) : pw P x 1 = x := G.grp.el x hx
theorem Grp.pw_succ' {x : List Int} (hx : Vec P.orders x) (k : Nat) : pw P x (k + 1) = rMul P x (pw P x k) := by
  rw [Nat.add_comm, G.pw_add hx, G.pw_one hx]
theorem Grp.pw_mul {x : List Int} (hx : Vec P.orders x) (a b : Nat) : pw P x (a * b) = pw P (pw P x a) b := by
  induction b with
  | zero => rfl
  | succ b ih => rw [Nat.mul_succ, G.pw_add hx, ih]; rfl
theorem Grp.pw_T {x : List Int} {d : Nat} (hd : d ≤ P.orders.length) (hx : T P d x) (k : Nat) : T P d (pw P x k) := by
  induction k with
  | zero => exact T.zeros G.v d
  | succ k ih => exact G.T_mul hd ih hx
theorem Grp.pw_at {x : List Int} {d : Nat} (hd : d < P.orders.length) (hx : T P d x) (k : Nat) : gt (pw P x k) d = ((k : Int) * gt x d) % gt P.orders d := by
  induction k with
  | zero => rw [pw_zero]; show gt (List.replicate _ (0 : Int)) d = _; rw [gt_replicate]; simp
  | succ k ih =>
    rw [pw_succ, (G.right (Nat.le_of_lt hd) (G.pw_vec hx.1 k) hx).2 hd, ih, Int.emod_add_emod]
    congr 1
    rw [Int.natCast_add, Int.add_mul]; simp
theorem Grp.pw_order {x : List Int} {d : Nat} (hd : d < P.orders.length) (hx : T P d x) : T P (d + 1) (pw P x (gt P.orders d).toNat) := by
  have ho := G.v.ord7 d hd
  refine (G.pw_T (Nat.le_of_lt hd) hx _).up ?_
  rw [G.pw_at hd hx, show (((gt P.orders d).toNat : Nat) : Int) = gt P.orders d by omega, Int.mul_emod_right]

/-- every element has finite order -/
theorem Grp.fin (f : Nat) : ∀ (d : Nat) (x : List Int), d + f = P.orders.length → T P d x → ∃ M, 1 ≤ M ∧ pw P x M = zeros P.orders.length := by
  induction f with
  | zero =>
    intro d x hd hx
    have : d = P.orders.length := by omega
    subst this
    refine ⟨1, Nat.le_refl _, ?_⟩
    rw [G.pw_one hx.1]; exact hx.top G.v
  | succ f ih =>
    intro d x hd hx
    have ho := G.v.ord7 d (by omega)
    obtain ⟨M, h1, h2⟩ := ih (d + 1) _ (by omega) (G.pw_order (by omega) hx)
    refine ⟨(gt P.orders d).toNat * M, Nat.mul_pos (by omega) h1, ?_⟩
    rw [G.pw_mul hx.1, h2]

end

/-- a subgroup -/
structure Sub (P : Pr) (H : List Int → Prop) : Prop where
  vec : ∀ x, H x → Vec P.orders x
  one : H (zeros P.orders.length)
  mul : ∀ x y, H x → H y → H (rMul P x y)
  inv : ∀ x, H x → H (rInv P x)

section
variable {P : Pr} (G : Grp P)
include G

omit G in
theorem Sub.pw {H : List Int → Prop} (S : Sub P H) {x : List Int} (hx : H x) (k : Nat) : H (Go.Proofs.Ytljdneobfbimiaa.pw P x k) := by
  induction k with
  | zero => exact S.one
  | succ k ih => exact S.mul _ _ ih hx
end

end Go.Proofs.Ytljdneobfbimiaa
