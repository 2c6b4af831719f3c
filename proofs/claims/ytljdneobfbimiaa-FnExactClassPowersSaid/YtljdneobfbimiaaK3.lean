/-
  Numbers of elements: impl.numberOf, spec.l10Number, impl.elementAt, spec.l10At, spec.l10One.
  impl.allElements, impl.generators.
  Words of memory that laws and functions share: places in rows, rows in blocks of their own, a presentation in blocks of its own, a struct of three cells, what a law keeps in view.
  The laws' measure of an argument: laws.szInt64S, szInt64SS, szInt64SSS, szPresentation.
  The laws' copies of an argument: laws.toInt64S, toInt64SS, toInt64SSS, toPresentation: each part in blocks of its own.
  laws.toPresentation: a copy of a presentation, each part in blocks of its own.
  laws.eqInt64S.
  The laws' comparisons: laws.eqInt64SS, eqInt64SSS, eqPresentation.
-/
import Derived.Test.YtljdneobfbimiaaK2
import Derived.Test.YtljdneobfbimiaaK1
import Derived.Deep.RegionHeld3
/- Numbers of elements: impl.numberOf, spec.l10Number, impl.elementAt, spec.l10At, spec.l10One. -/
namespace Go.Proofs.Ytljdneobfbimiaa
open Go.RowKit

def numTo (o x : List Int) : Nat → Int
  | 0 => 0
  | k + 1 => numTo o x k * gt o k + gt x k

def num (P : Pr) (x : List Int) : Int := numTo P.orders x P.orders.length

theorem numTo_bd {P : Pr} (hP : Valid P) {x : List Int} (hx : Vec P.orders x) (k : Nat) (hk : k ≤ P.orders.length) : 0 ≤ numTo P.orders x k ∧ numTo P.orders x k + 1 ≤ prodTo P.orders k := by
  induction k with
  | zero => simp [numTo, prodTo]
  | succ k ih =>
    obtain ⟨h1, h2⟩ := ih (by omega)
    have h3 := hP.pos k (by omega)
    have h4 := hx.2 k (by omega)
    have h5 : 0 ≤ numTo P.orders x k * gt P.orders k := Int.mul_nonneg h1 (by omega)
    have h6 : (numTo P.orders x k + 1) * gt P.orders k ≤ prodTo P.orders k * gt P.orders k := Int.mul_le_mul_of_nonneg_right h2 (by omega)
    rw [Int.add_mul, Int.one_mul] at h6
    simp only [numTo, prodTo]
    omega

theorem num_bd {P : Pr} (hP : Valid P) {x : List Int} (hx : Vec P.orders x) : 0 ≤ num P x ∧ num P x < ordP P := by
  have := numTo_bd hP hx P.orders.length (Nat.le_refl _)
  unfold num ordP; omega

set_option maxHeartbeats 400000 in
theorem numberOf_ok (P : Pr) (hP : Valid P) (w : World) (p x : Value) (X : List Int) (Sp Sx : Nat → Prop) (hp : PresP Sp w p P) (hx : Ints Sx w x X) (hX : Vec P.orders X) :
    Calls Try.prog 66 #[p, x] w fun e w' => e = .returned (.int .i64 (num P X)) ∧ w = w' := by
  have hn6 := hP.n6
  have hlX : X.length ≤ P.orders.length ∧ P.orders.length ≤ X.length := by rw [hX.1]; omega
  obtain ⟨pb, po, rfl⟩ := hp.shape
  obtain ⟨ax, capx, rfl, _, _⟩ := hx.shape
  obtain ⟨ao, capo, hco, hoi⟩ := hp.ordAt
  go_enter Try.func66, Try.ntmps66
  go_wp2
  go_loop [5, 10] (fun nv i => ∃ k : Nat, i = .int .i64 k ∧ nv = .int .i64 (numTo P.orders X k) ∧ k ≤ X.length) (fun _ i => X.length - (intOf i).toNat)
  case atStart => exact ⟨0, rfl, rfl, by omega⟩
  case round =>
    obtain ⟨k, rfl, rfl, hk⟩ := hrel
    by_cases hlt : k < X.length
    · obtain ⟨b, off, rfl, _, _, hc⟩ := Ints.at hx k hlt
      obtain ⟨b2, off2, rfl, _, _, hc2⟩ := Ints.at hoi k (by omega)
      have h1 := numTo_bd hP hX (k + 1) (by omega)
      have h2 := hP.pre (k + 1) (by omega)
      have h3 := hX.2 k (by omega)
      have h4 := numTo_bd hP hX k (by omega)
      have h7 := hP.ord7 k (by omega)
      have h5 : 0 ≤ numTo P.orders X k * gt P.orders k := Int.mul_nonneg h4.1 (by omega)
      have h6 : numTo P.orders X k * gt P.orders k ≤ 729 := by simp only [numTo] at h1; omega
      have h8 : 0 ≤ gt X k := h3.1
      have h9 : gt X k ≤ 7 := by omega
      clear h1 h2 h3 h4 h7
      go_wp2
      go_round
      case rel => exact ⟨k + 1, by go_num, rfl, by omega⟩
      case measure => simp [intOf]; omega
    · have hke : k = P.orders.length := by omega
      subst hke
      go_wp2
      go_ret
      exact ⟨rfl, rfl⟩

set_option maxHeartbeats 400000 in
theorem l10Number_ok (P : Pr) (hP : Valid P) (w : World) (pv x : Value) (X : List Int) (Sp Sx : Nat → Prop) (hp : PresV Sp w pv P) (hx : Ints Sx w x X) (hX : Vec P.orders X) :
    Calls Try.prog 38 #[pv, x] w (Ret w fun _ v => v = .int .i64 (num P X)) := by
  obtain ⟨vo, vp, vc, rfl, h3⟩ := hp
  have hn6 := hP.n6
  have hlX : X.length ≤ P.orders.length ∧ P.orders.length ≤ X.length := by rw [hX.1]; omega
  have hB := PresP.box h3 30
  have hg0 : Ext w (w.alloc (.cells #[vo, vp, vc] 30)) := World.grownBy_alloc _ _ _
  have hx0 := hx.ext hg0
  obtain ⟨ax, capx, rfl, _, _⟩ := hx.shape
  go_enter Try.func38, Try.ntmps38
  go_wp2
  generalize hw0 : w.alloc (.cells #[vo, vp, vc] 30) = w0 at *
  clear hw0
  go_loopw [5, 6] (fun nv i wr => ∃ k : Nat, i = .int .i64 k ∧ nv = .int .i64 (numTo P.orders X k) ∧ k ≤ X.length ∧ Ext w0 wr) (fun _ i _ => X.length - (intOf i).toNat)
  case atStart => exact ⟨0, rfl, rfl, by omega, Ext.refl _⟩
  case round =>
    obtain ⟨k, rfl, rfl, hk, hg⟩ := hrel
    by_cases hlt : k < X.length
    · obtain ⟨ao, capo, hco, hoi⟩ := (hB.ext hg).ordAt
      obtain ⟨b, off, rfl, _, _, hc⟩ := Ints.at (hx0.ext hg) k hlt
      obtain ⟨b2, off2, rfl, _, _, hc2⟩ := Ints.at hoi k (by omega)
      have h1 := numTo_bd hP hX (k + 1) (by omega)
      have h2 := hP.pre (k + 1) (by omega)
      have h3 := hX.2 k (by omega)
      have h4 := numTo_bd hP hX k (by omega)
      have h7 := hP.ord7 k (by omega)
      have h5 : 0 ≤ numTo P.orders X k * gt P.orders k := Int.mul_nonneg h4.1 (by omega)
      have h6 : numTo P.orders X k * gt P.orders k ≤ 729 := by simp only [numTo] at h1; omega
      have h8 : 0 ≤ gt X k := h3.1
      have h9 : gt X k ≤ 7 := by omega
      have hk1 : (k : Int) < X.length := by omega
      have hk2 : (k : Int) < P.orders.length := by omega
      have s1 : IntKind.i64.wrap (numTo P.orders X k * gt P.orders k) = numTo P.orders X k * gt P.orders k := IntWalk.i64_in _ (by omega)
      have s2 : IntKind.i64.wrap (numTo P.orders X k * gt P.orders k + gt X k) = numTo P.orders X k * gt P.orders k + gt X k := IntWalk.i64_in _ (by omega)
      clear h1 h2 h3 h4 h7
      go_wp2
      go_quiet (fail)
      clear s1 s2
      go_wp2
      go_roundw
      case rel => exact ⟨k + 1, by go_num, rfl, by omega, grown_trans hg (grown_drewN _ _ _)⟩
      case measure => simp [intOf]; omega
    · have hke : k = P.orders.length := by omega
      subst hke
      go_wp2
      go_ret
      exact ⟨_, rfl, grown_trans hg0 hg, rfl⟩

/-- the element with a number, from the last entry on -/
def elTo (o : List Int) (N : Nat) (m : Int) : Nat → List Int × Int
  | 0 => (List.replicate N 0, m)
  | k + 1 =>
    let s := elTo o N m k
    (s.1.set (N - 1 - k) (s.2 % gt o (N - 1 - k)), s.2 / gt o (N - 1 - k))

def elAt (P : Pr) (m : Int) : List Int := (elTo P.orders P.orders.length m P.orders.length).1

theorem elTo_inv {P : Pr} (hP : Valid P) (m : Int) (hm : 0 ≤ m) (k : Nat) (hk : k ≤ P.orders.length) :
    Vec P.orders (elTo P.orders P.orders.length m k).1 ∧ 0 ≤ (elTo P.orders P.orders.length m k).2 ∧ (elTo P.orders P.orders.length m k).2 ≤ m := by
  induction k with
  | zero =>
    refine ⟨⟨by simp [elTo], fun i hi => ?_⟩, hm, Int.le_refl _⟩
    have := hP.ord7 i hi
    simp only [elTo]; rw [gt_replicate]; omega
  | succ k ih =>
    obtain ⟨h1, h2, h3⟩ := ih (by omega)
    have ho := hP.ord7 (P.orders.length - 1 - k) (by omega)
    refine ⟨h1.set _ _ ⟨Int.emod_nonneg _ (by omega), fun _ => Int.emod_lt_of_pos _ (by omega)⟩, Int.ediv_nonneg h2 (by omega), ?_⟩
    exact Int.le_trans (Int.ediv_le_self _ h2) h3

theorem elAt_vec {P : Pr} (hP : Valid P) (m : Int) (hm : 0 ≤ m) : Vec P.orders (elAt P m) := (elTo_inv hP m hm _ (Nat.le_refl _)).1

set_option maxHeartbeats 400000 in
theorem l10One_ok (P : Pr) (hP : Valid P) (w : World) (pv : Value) (Sp : Nat → Prop) (hp : PresV Sp w pv P) :
    Calls Try.prog 50 #[pv] w (Ret w fun w' v => Own w.heap.size w' v (zeros P.orders.length)) := by
  obtain ⟨vo, vp, vc, rfl, h3⟩ := hp
  have hn6 := hP.n6
  have hB := PresP.box h3 30
  obtain ⟨ao, capo, hco, hoi⟩ := hB.ordAt
  go_enter Try.func50, Try.ntmps50
  go_wp2_with (at_make; refine wp_make_ints rfl _ _ rfl (w.heap.size + 1) P.orders.length (w.heap.size + 1) (by simp) _ rfl rfl rfl (by omega) (by simp) ?_; intro w1 ho1 hg1 _)
  go_ret
  exact ⟨_, rfl, grown_trans (World.grownBy_alloc _ _ _) hg1, ho1.weak (by omega)⟩

set_option maxHeartbeats 1000000 in
theorem elementAt_ok (P : Pr) (hP : Valid P) (w : World) (p : Value) (m : Int) (Sp : Nat → Prop) (hp : PresP Sp w p P) (hm : 0 ≤ m) (hm2 : m ≤ 1000000000) :
    Calls Try.prog 64 #[p, .int .i64 m] w (Ret w fun w' v => Own w.heap.size w' v (elAt P m)) := by
  have hn6 := hP.n6
  obtain ⟨pb, po, rfl⟩ := hp.shape
  obtain ⟨ao, capo, hco0, hoi⟩ := hp.ordAt
  have hco := hco0
  go_enter Try.func64, Try.ntmps64
  go_wp2_with (at_make; refine wp_make_ints rfl _ _ rfl w.heap.size P.orders.length w.heap.size rfl _ rfl rfl rfl (by omega) (by simp) ?_; intro w1 ho1 hg1 _)
  clear hco
  have HCO := Lib.hid hco0; clear hco0
  go_loopw [1, 6] (fun mv i wr => ∃ k : Nat, i = .int .i64 ((P.orders.length : Int) - 1 - k) ∧ mv = .int .i64 (elTo P.orders P.orders.length m k).2 ∧ k ≤ P.orders.length ∧ Ext w wr ∧
      Own w.heap.size wr (.slice (some ⟨w.heap.size, 0, none⟩) P.orders.length P.orders.length) (elTo P.orders P.orders.length m k).1) (fun _ i _ => (intOf i + 1).toNat)
  case atStart => exact ⟨0, by simp, rfl, by omega, hg1, ho1⟩
  case round =>
    obtain ⟨k, rfl, rfl, hk, hg, hO⟩ := hrel
    obtain ⟨hv, hm0, hm1⟩ := elTo_inv hP m hm k hk
    by_cases hlt : k < P.orders.length
    · obtain ⟨b2, off2, rfl, _, _, hc20⟩ := Ints.at hoi (P.orders.length - 1 - k) (by omega)
      have hco := hg.cell HCO.out (by simp)
      have hc2 := hg.cell hc20 (by simp)
      have ho7 := hP.ord7 (P.orders.length - 1 - k) (by omega)
      have hc := hO.cell (P.orders.length - 1 - k) (by rw [hv.1]; omega)
      have hf := hO.frozen (P.orders.length - 1 - k)
      have hsucc : elTo P.orders P.orders.length m (k + 1) = ((elTo P.orders P.orders.length m k).1.set (P.orders.length - 1 - k) ((elTo P.orders P.orders.length m k).2 % gt P.orders (P.orders.length - 1 - k)), (elTo P.orders P.orders.length m k).2 / gt P.orders (P.orders.length - 1 - k)) := rfl
      have HSC := Lib.hid hsucc; clear hsucc
      obtain ⟨hO2, hg2⟩ := hO.store (P.orders.length - 1 - k) ((elTo P.orders P.orders.length m k).2 % gt P.orders (P.orders.length - 1 - k))
      have hgx : Ext w (wr.setCell ⟨w.heap.size, P.orders.length - 1 - k, none⟩ (.int .i64 ((elTo P.orders P.orders.length m k).2 % gt P.orders (P.orders.length - 1 - k)))) := grown_own hg hg2 (fun j hj hlt => by cases hj; omega)
      have hco3 := hgx.cell HCO.out (by simp)
      have hc23 := hgx.cell hc20 (by simp)
      clear hc20
      have hidx : ((P.orders.length : Int) - 1 - k).toNat = P.orders.length - 1 - k := by omega
      generalize hi : P.orders.length - 1 - k = i at *
      generalize (elTo P.orders P.orders.length m k).1 = L at *
      generalize (elTo P.orders P.orders.length m k).2 = M at *
      have ho70 : 2 ≤ gt P.orders i := ho7.1
      have ho71 : gt P.orders i ≤ 7 := ho7.2
      have HI := Lib.hid hi; clear hi ho7
      go_wp2
      go_roundw
      case rel => exact ⟨k + 1, by congr 1; omega, by rw [HSC.out], by omega, hgx, by rw [HSC.out]; exact hO2⟩
      case measure => simp [intOf]; omega
    · have hke : k = P.orders.length := by omega
      subst hke
      go_wp2
      go_ret
      exact ⟨_, rfl, hg, hO⟩

set_option maxHeartbeats 1000000 in
theorem l10At_ok (P : Pr) (hP : Valid P) (w : World) (pv : Value) (m : Int) (Sp : Nat → Prop) (hpv : PresV Sp w pv P) (hm : 0 ≤ m) (hm2 : m ≤ 1000000000) :
    Calls Try.prog 34 #[pv, .int .i64 m] w (Ret w fun w' v => Own w.heap.size w' v (elAt P m)) := by
  have hn6 := hP.n6
  obtain ⟨vo, vp, vc, rfl, h3⟩ := hpv
  have hp := PresP.box h3 30
  have hg0 : Ext w (w.alloc (.cells #[vo, vp, vc] 30)) := World.grownBy_alloc _ _ _
  obtain ⟨vo9, vp9, vc9, _, _, hc0, hc1, hc2, h39⟩ := hp.at
  obtain ⟨ao, capo, hco, hoi⟩ := hp.ordAt
  go_enter Try.func34, Try.ntmps34
  go_wp2_with fail
  have hs0 : (w.alloc (.cells #[vo, vp, vc] 30)).heap.size = w.heap.size + 1 := by simp
  have HS := Lib.hid hs0; clear hs0
  clear hc0 hc1 hc2
  have HCO := Lib.hid hco; clear hco
  generalize hw0 : w.alloc (.cells #[vo, vp, vc] 30) = w0 at *
  clear hw0
  refine Calls.mono (l10One_ok P hP w0 _ Any ⟨_, _, _, rfl, h39⟩) ?_
  rintro e1 w1 ⟨r, rfl, hg1, ho1⟩
  have hri := ho1.ints (by simp [zeros]; omega)
  obtain ⟨ar, capr, rfl, _, _⟩ := hri.shape
  have hzl : (zeros P.orders.length).length = P.orders.length := by simp [zeros]
  rw [hzl] at hri
  have ho1 : Own w0.heap.size w1 (.slice ar P.orders.length capr) (zeros P.orders.length) := by rw [hzl] at ho1; exact ho1
  simp only [hzl]
  clear hzl hri
  go_wp2
  go_loopw [1, 6] (fun mv i wr => ∃ k : Nat, i = .int .i64 ((P.orders.length : Int) - 1 - k) ∧ mv = .int .i64 (elTo P.orders P.orders.length m k).2 ∧ k ≤ P.orders.length ∧ Ext w0 wr ∧
      Own w0.heap.size wr (.slice ar P.orders.length capr) (elTo P.orders P.orders.length m k).1) (fun _ i _ => (intOf i + 1).toNat)
  case atStart => exact ⟨0, by simp, rfl, by omega, hg1, ho1⟩
  case round =>
    clear ho1
    obtain ⟨k, rfl, rfl, hk, hg, hO⟩ := hrel
    obtain ⟨hv, hm0, hm1⟩ := elTo_inv hP m hm k hk
    by_cases hlt : k < P.orders.length
    · obtain ⟨g, capg, hfm, hgb, hgs⟩ := hO.form (by rw [hv.1]; omega)
      rw [hv.1] at hfm
      obtain ⟨rfl, _⟩ : ar = some ⟨g, 0, none⟩ ∧ capr = capg := by cases hfm; exact ⟨rfl, rfl⟩
      clear hfm
      obtain ⟨b2, off2, rfl, _, _, hc20⟩ := Ints.at hoi (P.orders.length - 1 - k) (by omega)
      have hco := hg.cell HCO.out (by simp)
      have hc2 := hg.cell hc20 (by simp)
      have ho7 := hP.ord7 (P.orders.length - 1 - k) (by omega)
      have hc := hO.cell (P.orders.length - 1 - k) (by rw [hv.1]; omega)
      have hf := hO.frozen (P.orders.length - 1 - k)
      have hsucc : elTo P.orders P.orders.length m (k + 1) = ((elTo P.orders P.orders.length m k).1.set (P.orders.length - 1 - k) ((elTo P.orders P.orders.length m k).2 % gt P.orders (P.orders.length - 1 - k)), (elTo P.orders P.orders.length m k).2 / gt P.orders (P.orders.length - 1 - k)) := rfl
      have HSC := Lib.hid hsucc; clear hsucc
      obtain ⟨hO2, hg2⟩ := hO.store (P.orders.length - 1 - k) ((elTo P.orders P.orders.length m k).2 % gt P.orders (P.orders.length - 1 - k))
      have hgx : Ext w0 (wr.setCell ⟨g, P.orders.length - 1 - k, none⟩ (.int .i64 ((elTo P.orders P.orders.length m k).2 % gt P.orders (P.orders.length - 1 - k)))) := grown_own hg hg2 (fun j hj hlt => by cases hj; omega)
      have hco3 := hgx.cell HCO.out (by simp)
      have hc23 := hgx.cell hc20 (by simp)
      clear hc20
      have hidx : ((P.orders.length : Int) - 1 - k).toNat = P.orders.length - 1 - k := by omega
      generalize hi : P.orders.length - 1 - k = i at *
      generalize (elTo P.orders P.orders.length m k).1 = L at *
      generalize (elTo P.orders P.orders.length m k).2 = M at *
      have ho70 : 2 ≤ gt P.orders i := ho7.1
      have ho71 : gt P.orders i ≤ 7 := ho7.2
      have HI := Lib.hid hi; clear hi ho7
      go_wp2
      go_roundw
      case rel => exact ⟨k + 1, by congr 1; omega, by rw [HSC.out], by omega, hgx, by rw [HSC.out]; exact hO2⟩
      case measure => simp [intOf]; omega
    · have hke : k = P.orders.length := by omega
      subst hke
      go_wp2
      go_ret
      exact ⟨_, rfl, grown_trans hg0 hg, hO.weak (by have := HS.out; omega)⟩

end Go.Proofs.Ytljdneobfbimiaa

/- impl.allElements, impl.generators. -/
namespace Go.Proofs.Ytljdneobfbimiaa
open Go.RowKit

theorem und_rows : Try.prog.underlying 23 = some (.slice 22) := by kernel_rfl
theorem Try.infoRow : (Try.prog.info? 22).map (fun i => (i.zero, i.size, i.bytes)) = some (some (.slice none 0 0), 1, 24) := by kernel_rfl

/-- append(rows, row), the row made since -/
theorem wp_app_row {ops : Array Oper} {rest : List Oper} {o : Oper} {a : Act} {Q : Exit → Act → World → Prop} {w : World} (hgd : o.guard = none) (s x : Operand)
    (ho : o.op = Op.call { callee := Callee.builtin Builtin.append, args := #[s, x], argTypes := #[23, 23] }) (B : Nat) (w1 w2 : World) (v u : Value) (xs : List (List Int)) (y : List Int) (hs : a.eval s = v) (hown : RowsO B w1 v xs)
    (hg : Ext w1 w2) (hu : OwnIn (From w1.heap.size) w2 u y) (hw : w = w2.alloc (.cells #[u] 22)) (hx : a.eval x = .slice (some ⟨w2.heap.size, 0, none⟩) 1 1) (hlen : xs.length ≤ 1000000) (hbase : B ≤ w1.heap.size)
    (h : ∀ v' w', RowsO B w' v' (xs ++ [y]) → w1.grownBy w' v.ownBlock → w2.grownBy w' v.ownBlock → wpList Try.prog ops Q rest (a.put o.dst v') w') :
    wpList Try.prog ops Q (o :: rest) a w :=
  wp_app_one rdOwn 23 22 (.slice none 0 0) 24 und_rows Try.infoRow rfl (by decide) hgd s x ho B w1 w2 v u xs y hs hown hg hu hw hx hlen hbase h

theorem SlO.lt {α : Type} [Inhabited α] {El : (Nat → Prop) → World → Value → α → Prop} {E B : Nat} {w : World} {v : Value} {xs : List α} (h : SlO El E B w v xs) (k : Nat) (hk : v.ownBlock = some k) : B ≤ k ∧ k < w.heap.size := by
  obtain ⟨vs, G, _, hO, _⟩ := h
  exact hO.lt k hk

theorem SlO.extw {α : Type} [Inhabited α] {El : (Nat → Prop) → World → Value → α → Prop} {E B : Nat} {w w1 w2 : World} {v : Value} {xs : List α} (h : SlO El E B w1 v xs) (hg : Ext w w1) (hB : w.heap.size ≤ B) (k : w1.grownBy w2 v.ownBlock) : Ext w w2 :=
  grown_own hg k (fun j hj hlt => by have := (h.lt j hj).1; omega)

def allEl (P : Pr) : List (List Int) := (List.range (ordP P).toNat).map (fun k : Nat => elAt P (k : Int))

theorem range_map_succ {α : Type} (f : Nat → α) (k : Nat) : (List.range (k + 1)).map f = (List.range k).map f ++ [f k] := by
  rw [List.range_succ, List.map_append]; rfl

set_option maxHeartbeats 400000 in
theorem allElements_ok (P : Pr) (hP : Valid P) (w : World) (p : Value) (Sp : Nat → Prop) (hp : PresP Sp w p P) :
    Calls Try.prog 48 #[p] w (Ret w fun w' v => RowsO w.heap.size w' v (allEl P)) := by
  have h729 : ordP P ≤ 729 := hP.le729
  have hpos := hP.ordP_pos
  go_enter Try.func48, Try.ntmps48
  go_wp2_with (go_at_call 47; refine (orderOf_ok _ _ P Sp hP hp).mono ?_; rintro e1 w1 ⟨rfl, rfl⟩)
  go_loopw [3, 7] (fun v i wr => ∃ k : Nat, i = .int .i64 k ∧ k ≤ (ordP P).toNat ∧ Ext w wr ∧ RowsO w.heap.size wr v ((List.range k).map (fun k : Nat => elAt P (k : Int)))) (fun _ i _ => (ordP P).toNat - (intOf i).toNat)
  case atStart => exact ⟨0, rfl, by omega, Ext.refl _, SlO.nil _ _ _ _⟩
  case round =>
    obtain ⟨k, rfl, hk, hg, hO⟩ := hrel
    by_cases hlt : (k : Int) < ordP P
    · go_wp2_with fail
      refine Calls.mono (elementAt_ok P hP wr p k Sp (hp.ext hg) (by omega) (by omega)) ?_
      rintro e2 w2 ⟨r, rfl, hg2, hR⟩
      have hv := elAt_vec hP (k : Int) (by omega)
      have hRi : OwnIn (From wr.heap.size) w2 r (elAt P k) := OwnIn.of hR (by rw [hv.1]; have := hP.n6; omega) (fun j hj _ => hj)
      clear hv
      obtain ⟨ar, capr, rfl, _, _⟩ := hRi.ints.shape
      go_wp2_with (at_builtin; go_must (refine wp_app_row rfl _ _ rfl w.heap.size wr w2 _ _ _ (elAt P k) rfl hO hg2 hRi rfl rfl (by simp; omega) hg.size ?_); intro v3 w3 hO3 hg3 hg4)
      have hgx := hO.extw hg (Nat.le_refl _) hg3
      rw [← range_map_succ (fun k : Nat => elAt P (k : Int))] at hO3
      go_roundw
      case rel => exact ⟨k + 1, by go_num, by omega, hgx, hO3⟩
      case measure => simp [intOf]; omega
    · have hke : k = (ordP P).toNat := by omega
      subst hke
      go_wp2
      go_ret
      exact ⟨_, rfl, hg, hO⟩

/-- the generators of a group -/
def gensOf (n : Nat) : List (List Int) := (List.range n).map (fun k : Nat => unitV n k)

set_option maxHeartbeats 400000 in
theorem generators_ok (P : Pr) (hP : Valid P) (w : World) (p : Value) (Sp : Nat → Prop) (hp : PresP Sp w p P) :
    Calls Try.prog 67 #[p] w (Ret w fun w' v => RowsO w.heap.size w' v (gensOf P.orders.length)) := by
  have hn6 := hP.n6
  obtain ⟨pb, po, rfl⟩ := hp.shape
  obtain ⟨ao, capo, hco0, hoi⟩ := hp.ordAt
  have hco := hco0
  go_enter Try.func67, Try.ntmps67
  go_wp2
  clear hco
  have HCO := Lib.hid hco0; clear hco0
  go_loopw [3, 10] (fun v i wr => ∃ k : Nat, i = .int .i64 k ∧ k ≤ P.orders.length ∧ Ext w wr ∧ RowsO w.heap.size wr v ((List.range k).map (fun k : Nat => unitV P.orders.length k))) (fun _ i _ => P.orders.length - (intOf i).toNat)
  case atStart => exact ⟨0, rfl, by omega, Ext.refl _, SlO.nil _ _ _ _⟩
  case round =>
    obtain ⟨k, rfl, hk, hg, hO⟩ := hrel
    by_cases hlt : k < P.orders.length
    · have hco := hg.cell HCO.out (by simp)
      go_wp2_with fail
      refine Calls.mono (unitVector_ok P.orders.length k wr hlt (by omega)) ?_
      rintro e2 w2 ⟨r, rfl, hg2, hR⟩
      have hRi : OwnIn (From wr.heap.size) w2 r (unitV P.orders.length k) := OwnIn.of hR (by simp [unitV]; omega) (fun j hj _ => hj)
      obtain ⟨ar, capr, rfl, _, _⟩ := hRi.ints.shape
      go_wp2_with (at_builtin; go_must (refine wp_app_row rfl _ _ rfl w.heap.size wr w2 _ _ _ (unitV P.orders.length k) rfl hO hg2 hRi rfl rfl (by simp; omega) hg.size ?_); intro v3 w3 hO3 hg3 hg4)
      have hgx := hO.extw hg (Nat.le_refl _) hg3
      rw [← range_map_succ (fun k : Nat => unitV P.orders.length k)] at hO3
      go_roundw
      case rel => exact ⟨k + 1, by go_num, by omega, hgx, hO3⟩
      case measure => simp [intOf]; omega
    · have hke : k = P.orders.length := by omega
      subst hke
      go_wp2
      go_ret
      exact ⟨_, rfl, hg, hO⟩

end Go.Proofs.Ytljdneobfbimiaa

/- Words of memory that laws and functions share: places in rows, rows in blocks of their own, a presentation in blocks of its own, a struct of three cells, what a law keeps in view. -/
namespace Go.Proofs.Ytljdneobfbimiaa
open Go.RowKit

/-- places in the first k rows -/
def szTo {α : Type} [Inhabited α] (sz : α → Nat) (xs : List α) : Nat → Nat
  | 0 => 0
  | k + 1 => szTo sz xs k + sz (gt xs k)
theorem szTo_mono {α : Type} [Inhabited α] (sz : α → Nat) (xs : List α) {k n : Nat} (h : k ≤ n) : szTo sz xs k ≤ szTo sz xs n := by
  induction n with
  | zero => have : k = 0 := by omega
            subst this; exact Nat.le_refl _
  | succ n ih =>
    rcases Nat.lt_or_ge n k with h1 | h1
    · have : k = n + 1 := by omega
      subst this; exact Nat.le_refl _
    · exact Nat.le_trans (ih h1) (Nat.le_add_right _ _)
def size2 (xs : List (List Int)) : Nat := xs.length + szTo List.length xs xs.length
def size3 (xs : List (List (List Int))) : Nat := xs.length + szTo size2 xs xs.length
def sizeP (P : Pr) : Nat := P.orders.length + size2 P.powers + size3 P.conj

theorem SlD.nil {α : Type} [Inhabited α] (El : (Nat → Prop) → World → Value → α → Prop) (F : Nat → Prop) (w : World) : SlD El F w (.slice none 0 0) ([] : List α) :=
  ⟨fun _ _ => False, fun _ => False, by simp, by simp, by simp, none, 0, rfl, ⟨by simp, by simp, fun _ => rfl⟩, by simp⟩

theorem SlD.map {α : Type} [Inhabited α] {El El' : (Nat → Prop) → World → Value → α → Prop} (h0 : ∀ F w u x, El F w u x → El' F w u x) {F : Nat → Prop} {w : World} {v : Value} {xs : List α} (h : SlD El F w v xs) : SlD El' F w v xs := by
  obtain ⟨G, H, h1, h2, h3, a, cap, hv, hl, hc⟩ := h
  exact ⟨G, H, h1, h2, h3, a, cap, hv, hl, fun i hi => by
    obtain ⟨b, off, u, e1, e2, e3, e4, e5⟩ := hc i hi
    exact ⟨b, off, u, e1, e2, e3, e4, h0 _ _ _ _ e5⟩⟩
theorem SlO.map {α : Type} [Inhabited α] {El El' : (Nat → Prop) → World → Value → α → Prop} (h0 : ∀ F w u x, El F w u x → El' F w u x) {E B : Nat} {w : World} {v : Value} {xs : List α} (h : SlO El E B w v xs) : SlO El' E B w v xs := by
  obtain ⟨vs, G, a, b, c, d, e⟩ := h
  exact ⟨vs, G, a, b, c, d, fun i hi => h0 _ _ _ _ (e i hi)⟩

abbrev RowsW (F : Nat → Prop) (w : World) (v : Value) (xs : List (List Int)) : Prop := RowsD F w v xs
theorem rdRowsW : RdOk (fun F w u (x : List (List Int)) => RowsW F w u x) := rdRows
abbrev Rows3W (F : Nat → Prop) (w : World) (v : Value) (xs : List (List (List Int))) : Prop := Rows3D F w v xs
theorem RowsW.d {F : Nat → Prop} {w : World} {v : Value} {xs : List (List Int)} (h : RowsW F w v xs) : RowsD F w v xs := h
theorem Rows3W.d {F : Nat → Prop} {w : World} {v : Value} {xs : List (List (List Int))} (h : Rows3W F w v xs) : Rows3D F w v xs := h

/-- one element is put in its place -/
theorem SlO.store {α : Type} [Inhabited α] {El : (Nat → Prop) → World → Value → α → Prop} (hEl : RdOk El) {E B g n cap : Nat} {w1 w2 : World} {xs : List α} {u : Value} {y : α} (h : SlO El E B w1 (.slice (some ⟨g, 0, none⟩) n cap) xs)
    (hg : Ext w1 w2) (hu : El (From w1.heap.size) w2 u y) (j : Nat) :
    SlO El E B (w2.setCell ⟨g, j, none⟩ u) (.slice (some ⟨g, 0, none⟩) n cap) (xs.set j y) ∧ w2.grownBy (w2.setCell ⟨g, j, none⟩ u) (some g) := by
  obtain ⟨vs, G, hvl, hO, hG, hd, hE⟩ := h
  have hgl := hO.lt g rfl
  have hO2 : OwnV B E w2 (.slice (some ⟨g, 0, none⟩) n cap) vs := hO.kept hg (by simp [Value.ownBlock])
  have hn : n = vs.length := by
    obtain ⟨_, ⟨h, _⟩ | ⟨_, _, _, h, _⟩⟩ := hO2 <;> cases h; rfl
  subst hn
  obtain ⟨h1, h2⟩ := World.ownsRow.stored hO2 j u
  have hsz : (w2.setCell ⟨g, j, none⟩ u).heap.size = w2.heap.size := by simp [World.setCell]
  have hblk : ∀ k, k ≠ g → (w2.setCell ⟨g, j, none⟩ u).heap[k]? = w2.heap[k]? := fun k hk => Below.heap_setCell _ _ _ _ (by simpa using hk)
  have hB1 : B ≤ w1.heap.size := by omega
  refine ⟨⟨vs.set j u, fun i k => if i = j then w1.heap.size ≤ k ∧ k < w2.heap.size else G i k ∧ k < w1.heap.size, by simp [hvl], ?_, ?_, ?_, ?_⟩, h2⟩
  · unfold OwnV; rw [List.length_set]; exact h1
  · intro i k hi hk
    rw [List.length_set] at hi
    simp only [Value.ownBlock]
    split at hk
    · exact ⟨by omega, by intro e; cases e; omega, by omega⟩
    · obtain ⟨a1, a2, a3⟩ := hG i k hi hk.1
      exact ⟨a1, a2, by have := hg.size; omega⟩
  · intro i i' k hi hi' hk hk'
    rw [List.length_set] at hi hi'
    split at hk <;> split at hk'
    · omega
    · omega
    · omega
    · exact hd i i' k hi hi' hk.1 hk'.1
  · intro i hi
    rw [List.length_set] at hi
    by_cases e : j = i
    · subst e
      rw [gt_set_eq _ _ _ (by omega), gt_set_eq _ _ _ hi]
      simp only [if_true]
      exact hEl.mono hu (fun k hk hlt => ⟨⟨hk, hlt⟩, by omega, hblk k (by have hk : w1.heap.size ≤ k := hk; omega)⟩)
    · rw [gt_set_ne _ _ _ _ e, gt_set_ne _ _ _ _ e]
      simp only [if_neg (fun h : i = j => e h.symm)]
      refine hEl.mono (hE i hi) (fun k hk hlt => ⟨⟨hk, hlt⟩, by have := hg.size; omega, ?_⟩)
      rw [hblk k (fun e => (hG i k hi hk).2.1 (by rw [e]; rfl))]
      exact hg.block k hlt (by simp)

/-- make([]T, n) for elements that are slices -/
theorem wp_make_sl {α : Type} {El : (Nat → Prop) → World → Value → List α → Prop} (T E : Nat) (hT : Try.prog.underlying T = some (.slice E)) (hEi : (Try.prog.info? E).map (fun i => (i.zero, i.size, i.bytes)) = some (some (.slice none 0 0), 1, 24))
    (h0 : ∀ w, El (fun _ => False) w (.slice none 0 0) [])
    {ops : Array Oper} {rest : List Oper} {o : Oper} {a : Act} {Q : Exit → Act → World → Prop} {w : World} (hgd : o.guard = none) (l c : Operand)
    (ho : o.op = Op.makeSlice T l c) (base n H : Nat) (hH : w.heap.size = H) (L : Int) (hl : a.eval l = .int .i64 L) (hc : a.eval c = .int .i64 L) (hL : L = n) (hn : n ≤ 2147483648) (hbase : base ≤ H)
    (h : ∀ w', SlO El E base w' (.slice (some ⟨H, 0, none⟩) n n) (List.replicate n ([] : List α)) → Ext w w' → H < w'.heap.size → wpList Try.prog ops Q rest (a.put o.dst (.slice (some ⟨H, 0, none⟩) n n)) w') :
    wpList Try.prog ops Q (o :: rest) a w := by
  subst hH
  obtain ⟨i0, hi, hz0, hz1, hz2⟩ := info_parts hEi
  refine wpList_make_full w hgd l c T ho base E i0 (.slice none 0 0) 1 hT hi hz0 hz1 .i64 .i64 L L n hl hc hL hL (by rw [hz2]; omega) (by unfold maxLen; omega) hbase ?_
  intro w' h1 h2
  refine h w' ?_ h2 (h1.lt w.heap.size rfl).2
  have e : (madeCells (Value.cells (.slice none 0 0)) (n * 1)).toList = List.replicate n (Value.slice none 0 0) := by
    rw [show Value.cells (.slice none 0 0) = #[.slice none 0 0] from rfl, toList_madeCells_one]; simp
  rw [e] at h1
  refine ⟨List.replicate n (.slice none 0 0), fun _ _ => False, by simp, ?_, by simp, by simp, fun i hi => ?_⟩
  · unfold OwnV; rw [List.length_replicate]; exact h1
  · rw [List.length_replicate] at hi
    have e1 : gt (List.replicate n (Value.slice none 0 0)) i = .slice none 0 0 := by simp [gt, hi]
    have e2 : gt (List.replicate n ([] : List α)) i = [] := by simp [gt, hi]
    rw [e1, e2]; exact h0 w'

/-- the first k elements of l, behind them z -/
def cpTo {α : Type} (l : List α) (z : α) (k : Nat) : List α := l.take k ++ List.replicate (l.length - k) z
theorem cpTo_len {α : Type} (l : List α) (z : α) (k : Nat) (hk : k ≤ l.length) : (cpTo l z k).length = l.length := by unfold cpTo; simp; omega
theorem cpTo_zero {α : Type} (l : List α) (z : α) : cpTo l z 0 = List.replicate l.length z := by simp [cpTo]
theorem cpTo_all {α : Type} (l : List α) (z : α) : cpTo l z l.length = l := by simp [cpTo]
theorem cpTo_step {α : Type} [Inhabited α] (l : List α) (z : α) (k : Nat) (hk : k < l.length) : (cpTo l z k).set k (gt l k) = cpTo l z (k + 1) := by
  unfold cpTo
  rw [List.set_append, if_neg (by simp; omega), show k - (l.take k).length = 0 by simp; omega, show l.length - k = (l.length - (k + 1)) + 1 by omega, List.replicate_succ, List.set_cons_zero, take_succ_gt l k hk, List.append_assoc]
  rfl

/-- a place of an own row may be written -/
theorem SlO.place {α : Type} [Inhabited α] {El : (Nat → Prop) → World → Value → α → Prop} {E B g n cap : Nat} {w : World} {xs : List α} (h : SlO El E B w (.slice (some ⟨g, 0, none⟩) n cap) xs) (k : Nat) (hk : k < xs.length) :
    (∃ z, w.cell? ⟨g, k, none⟩ = some z) ∧ w.frozen? ⟨g, k, none⟩ = false := by
  obtain ⟨vs, G, hvl, hO, _⟩ := h
  refine ⟨⟨_, hO.cell k (by omega)⟩, ?_⟩
  have hn : n = vs.length := by
    obtain ⟨_, ⟨h, _⟩ | ⟨_, _, _, h, _⟩⟩ := hO <;> cases h; rfl
  subst hn
  exact World.ownsRow.frozenAt hO k
theorem Try.infoRows : (Try.prog.info? 23).map (fun i => (i.zero, i.size, i.bytes)) = some (some (.slice none 0 0), 1, 24) := by kernel_rfl
theorem und_rows3 : Try.prog.underlying 24 = some (.slice 23) := by kernel_rfl

/-- a presentation by value whose parts lie in blocks of their own, all in F -/
def PresW (F : Nat → Prop) (w : World) (v : Value) (P : Pr) : Prop :=
  ∃ vo vp vc Fo Fp Fc, v = .agg #[vo, vp, vc] ∧ OwnIn Fo w vo P.orders ∧ RowsW Fp w vp P.powers ∧ Rows3W Fc w vc P.conj ∧
    (∀ k, Fo k → F k ∧ ¬ Fp k ∧ ¬ Fc k) ∧ (∀ k, Fp k → F k ∧ ¬ Fc k) ∧ (∀ k, Fc k → F k)

theorem PresW.mono {F F' : Nat → Prop} {w w' : World} {v : Value} {P : Pr} (h : PresW F w v P) (hb : ∀ k, F k → k < w.heap.size → F' k ∧ k < w'.heap.size ∧ w'.heap[k]? = w.heap[k]?) : PresW F' w' v P := by
  obtain ⟨vo, vp, vc, Fo, Fp, Fc, rfl, h1, h2, h3, h4, h5, h6⟩ := h
  refine ⟨vo, vp, vc, fun k => Fo k ∧ k < w.heap.size, fun k => Fp k ∧ k < w.heap.size, fun k => Fc k ∧ k < w.heap.size, rfl, rdOwn.mono h1 (fun k hk hlt => ⟨⟨hk, hlt⟩, (hb k (h4 k hk).1 hlt).2⟩),
    rdRowsW.mono h2 (fun k hk hlt => ⟨⟨hk, hlt⟩, (hb k (h5 k hk).1 hlt).2⟩), SlD.mono rdRowsW h3 (fun k hk hlt => ⟨⟨hk, hlt⟩, (hb k (h6 k hk) hlt).2⟩), fun k hk => ?_, fun k hk => ?_, fun k hk => ?_⟩
  · exact ⟨(hb k (h4 k hk.1).1 hk.2).1, fun h => (h4 k hk.1).2.1 h.1, fun h => (h4 k hk.1).2.2 h.1⟩
  · exact ⟨(hb k (h5 k hk.1).1 hk.2).1, fun h => (h5 k hk.1).2 h.1⟩
  · exact (hb k (h6 k hk.1) hk.2).1

theorem PresW.ext {F : Nat → Prop} {w w' : World} {v : Value} {P : Pr} (h : PresW F w v P) (hg : Ext w w') : PresW F w' v P := h.mono (frame_ext hg)

theorem PresW.v {F : Nat → Prop} {w : World} {v : Value} {P : Pr} (h : PresW F w v P) : PresV F w v P := by
  obtain ⟨vo, vp, vc, Fo, Fp, Fc, rfl, h1, h2, h3, h4, h5, h6⟩ := h
  exact ⟨vo, vp, vc, rfl, ⟨Ints.sub h1.ints (fun k hk _ => (h4 k hk).1), Rows2.sub (RowsD.rows (RowsW.d h2)) (fun k hk _ => (h5 k hk).1), Rows3.sub (Rows3D.rows (Rows3W.d h3)) (fun k hk _ => h6 k hk)⟩⟩

theorem PresW.shape {F : Nat → Prop} {w : World} {v : Value} {P : Pr} (h : PresW F w v P) : ∃ a c a2 c2 a3 c3, v = .agg #[.slice a P.orders.length c, .slice a2 P.powers.length c2, .slice a3 P.conj.length c3] := by
  obtain ⟨vo, vp, vc, Fo, Fp, Fc, rfl, h1, h2, h3, _⟩ := h
  obtain ⟨a, c, rfl, _⟩ := h1.ints.shape
  obtain ⟨a2, c2, rfl, _⟩ := SlD.shape h2
  obtain ⟨a3, c3, rfl, _⟩ := SlD.shape h3
  exact ⟨_, _, _, _, _, _, rfl⟩

theorem ext_store {w wB : World} {rc : Nat} (hg : Ext w wB) (hrc : w.heap.size ≤ rc) (k : Nat) (v : Value) : Ext w (wB.setCell ⟨rc, k, none⟩ v) :=
  grown_own hg ⟨rfl, rfl, rfl, by simp [World.setCell], fun j _ hj => Below.heap_setCell _ _ _ _ (by intro e; exact hj (by rw [e]))⟩ (q := some rc) (fun j hj hlt => by cases hj; omega)

/-- a struct of three cells that may be written -/
def Box3 (W : World) (b : Nat) (x0 x1 x2 : Value) : Prop :=
  b < W.heap.size ∧ W.cell? ⟨b, 0, none⟩ = some x0 ∧ W.cell? ⟨b, 1, none⟩ = some x1 ∧ W.cell? ⟨b, 2, none⟩ = some x2 ∧ ∀ k, W.frozen? ⟨b, k, none⟩ = false
theorem Box3.ext {W W' : World} {b : Nat} {x0 x1 x2 : Value} (h : Box3 W b x0 x1 x2) (hg : Ext W W') : Box3 W' b x0 x1 x2 := by
  obtain ⟨h0, h1, h2, h3, h4⟩ := h
  exact ⟨Nat.lt_of_lt_of_le h0 hg.size, hg.cell h1 (by simp), hg.cell h2 (by simp), hg.cell h3 (by simp), fun k => (World.frozen?_of_block (w := W) (hg.block b h0 (by simp))).trans (h4 k)⟩
theorem Box3.far {W : World} {b c j : Nat} {x0 x1 x2 v : Value} (h : Box3 W b x0 x1 x2) (hne : b ≠ c) : Box3 (W.setCell ⟨c, j, none⟩ v) b x0 x1 x2 := by
  obtain ⟨h0, h1, h2, h3, h4⟩ := h
  have e : (W.setCell ⟨c, j, none⟩ v).heap[b]? = W.heap[b]? := Below.heap_setCell _ _ _ _ (by simpa using hne)
  exact ⟨by simpa [World.setCell] using h0, (World.cell?_of_block (w := W) e).trans h1, (World.cell?_of_block (w := W) e).trans h2, (World.cell?_of_block (w := W) e).trans h3, fun k => (World.frozen?_of_block (w := W) e).trans (h4 k)⟩
theorem Box3.put {W : World} {b : Nat} {x0 x1 x2 : Value} (h : Box3 W b x0 x1 x2) (v : Value) :
    Box3 (W.setCell ⟨b, 0, none⟩ v) b v x1 x2 ∧ Box3 (W.setCell ⟨b, 1, none⟩ v) b x0 v x2 ∧ Box3 (W.setCell ⟨b, 2, none⟩ v) b x0 x1 v := by
  obtain ⟨h0, h1, h2, h3, h4⟩ := h
  have hs : ∀ k, b < (W.setCell ⟨b, k, none⟩ v).heap.size := fun k => by simpa [World.setCell] using h0
  refine ⟨⟨hs 0, World.cell?_setCell_same _ _ _ h1, ?_, ?_, fun k => by simp [h4]⟩, ⟨hs 1, ?_, World.cell?_setCell_same _ _ _ h2, ?_, fun k => by simp [h4]⟩, ⟨hs 2, ?_, ?_, World.cell?_setCell_same _ _ _ h3, fun k => by simp [h4]⟩⟩
  all_goals first
    | exact (World.cell?_setCell_other _ _ _ _ (by simp)).trans h1
    | exact (World.cell?_setCell_other _ _ _ _ (by simp)).trans h2
    | exact (World.cell?_setCell_other _ _ _ _ (by simp)).trans h3
theorem Box3.made (w : World) (T : Nat) (x0 x1 x2 : Value) : Box3 (w.alloc (.cells #[x0, x1, x2] T)) w.heap.size x0 x1 x2 := by
  refine ⟨by simp, ?_, ?_, ?_, fun k => World.frozen?_alloc_at _ _ _ _ rfl⟩ <;> (rw [World.cell?_alloc_at _ _ _ _ rfl]; rfl)

/-- k, k + 1, .., n of them -/
def upFrom (k : Int) (n : Nat) : List Int := (List.range n).map (fun i : Nat => k + i)
theorem upFrom_len (k : Int) (n : Nat) : (upFrom k n).length = n := by simp [upFrom]
theorem gt_upFrom (k : Int) (n i : Nat) (h : i < n) : gt (upFrom k n) i = k + i := by simp [upFrom, gt, h]

/-- only blocks in F have turned -/
structure Touch (F : Nat → Prop) (w w' : World) : Prop where
  os : w'.os = w.os
  tape : w'.tape = w.tape
  output : w'.output = w.output
  size : w.heap.size ≤ w'.heap.size
  block : ∀ k, k < w.heap.size → ¬ F k → w'.heap[k]? = w.heap[k]?
theorem Touch.refl (F : Nat → Prop) (w : World) : Touch F w w := ⟨rfl, rfl, rfl, Nat.le_refl _, fun _ _ _ => rfl⟩
theorem Touch.of {F : Nat → Prop} {w w' : World} {r : Option Nat} (h : w.grownBy w' r) (hr : ∀ k, r = some k → F k) : Touch F w w' :=
  ⟨h.os, h.tape, h.output, h.size, fun k hk hF => h.block k hk (fun e => hF (hr k e.symm))⟩
theorem Touch.trans {F F1 F2 : Nat → Prop} {a b c : World} (h : Touch F1 a b) (k : Touch F2 b c) (h1 : ∀ i, F1 i → F i) (h2 : ∀ i, F2 i → F i) : Touch F a c :=
  ⟨k.os.trans h.os, k.tape.trans h.tape, k.output.trans h.output, Nat.le_trans h.size k.size,
   fun i hi hF => (k.block i (Nat.lt_of_lt_of_le hi h.size) (fun e => hF (h2 i e))).trans (h.block i hi (fun e => hF (h1 i e)))⟩
/-- blocks behind a world may turn -/
theorem Touch.ext {F : Nat → Prop} {w w1 w2 : World} (h : Ext w w1) (k : Touch F w1 w2) (hF : ∀ i, F i → w.heap.size ≤ i) : Ext w w2 :=
  ⟨k.os.trans h.os, k.tape.trans h.tape, k.output.trans h.output, Nat.le_trans h.size k.size,
   fun i hi _ => (k.block i (Nat.lt_of_lt_of_le hi h.size) (fun e => by have := hF i e; omega)).trans (h.block i hi (by simp))⟩
theorem Touch.frame {F S : Nat → Prop} {w w' : World} (h : Touch F w w') (hS : ∀ k, S k → ¬ F k) : ∀ k, S k → k < w.heap.size → S k ∧ k < w'.heap.size ∧ w'.heap[k]? = w.heap[k]? :=
  fun k hk hlt => ⟨hk, Nat.lt_of_lt_of_le hlt h.size, h.block k hlt (hS k hk)⟩
theorem Touch.cell {F : Nat → Prop} {w w' : World} (h : Touch F w w') {a : Addr} {v : Value} (hc : w.cell? a = some v) (hF : ¬ F a.block) : w'.cell? a = some v :=
  (World.cell?_of_block (h.block a.block (World.block_lt_of_cell? w a hc) hF)).trans hc

/-- a slice whose elements lie in blocks that are named -/
def SlG {α : Type} [Inhabited α] (El : (Nat → Prop) → World → Value → α → Prop) (G : Nat → Nat → Prop) (H : Nat → Prop) (w : World) (v : Value) (xs : List α) : Prop :=
  ∃ a cap, v = .slice a xs.length cap ∧ (xs.length ≤ cap ∧ xs.length ≤ 9223372036854775807 ∧ (a = none → cap = 0)) ∧
      ∀ i, i < xs.length → ∃ b off u, a = some ⟨b, off, none⟩ ∧ H b ∧ b < w.heap.size ∧ w.cell? ⟨b, off + i, none⟩ = some u ∧ El (G i) w u (gt xs i)
def Apart (F : Nat → Prop) (G : Nat → Nat → Prop) (H : Nat → Prop) (n : Nat) : Prop :=
  (∀ k, H k → F k) ∧ (∀ i k, i < n → G i k → F k ∧ ¬ H k) ∧ (∀ i j k, i < n → j < n → G i k → G j k → i = j)
theorem SlD.g {α : Type} [Inhabited α] {El : (Nat → Prop) → World → Value → α → Prop} {F : Nat → Prop} {w : World} {v : Value} {xs : List α} (h : SlD El F w v xs) : ∃ G H, Apart F G H xs.length ∧ SlG El G H w v xs := by
  obtain ⟨G, H, h1, h2, h3, r⟩ := h
  exact ⟨G, H, ⟨h1, h2, h3⟩, r⟩
theorem SlG.d {α : Type} [Inhabited α] {El : (Nat → Prop) → World → Value → α → Prop} {F : Nat → Prop} {G : Nat → Nat → Prop} {H : Nat → Prop} {w : World} {v : Value} {xs : List α} (h : SlG El G H w v xs) (hA : Apart F G H xs.length) : SlD El F w v xs :=
  ⟨G, H, hA.1, hA.2.1, hA.2.2, h⟩

/-- one element is turned -/
theorem SlG.turn {α : Type} [Inhabited α] {El : (Nat → Prop) → World → Value → α → Prop} (hEl : RdOk El) {F : Nat → Prop} {G : Nat → Nat → Prop} {H : Nat → Prop} {w w' : World} {b off n cap j : Nat} {u : Value} {y : α} {xs : List α}
    (hA : Apart F G H n) (hn : xs.length = n) (h : SlG El G H w (.slice (some ⟨b, off, none⟩) n cap) xs) (hj : j < n) (hc : w.cell? ⟨b, off + j, none⟩ = some u) (ht : Touch (G j) w w') (hy : El (G j) w' u y) :
    SlG El G H w' (.slice (some ⟨b, off, none⟩) n cap) (xs.set j y) := by
  obtain ⟨a', cap', hv, hl, hcell⟩ := h
  cases hv
  refine ⟨_, cap, by rw [List.length_set], by rw [List.length_set]; exact hl, fun i hi => ?_⟩
  rw [List.length_set] at hi
  obtain ⟨b2, off2, u2, e1, e2, e3, e4, e5⟩ := hcell i hi
  cases e1
  have hnb : ¬ G j b := fun h => (hA.2.1 j b hj h).2 e2
  by_cases e : j = i
  · subst e
    rw [gt_set_eq _ _ _ hi]
    exact ⟨b, off, u, rfl, e2, Nat.lt_of_lt_of_le e3 ht.size, ht.cell hc hnb, hy⟩
  · rw [gt_set_ne _ _ _ _ e]
    exact ⟨b, off, u2, rfl, e2, Nat.lt_of_lt_of_le e3 ht.size, ht.cell e4 hnb, hEl.mono e5 (ht.frame (fun k hk hk' => e (hA.2.2 i j k (by omega) hj hk hk').symm))⟩

/-- the first j elements turned by up -/
def mixTo {α : Type} [Inhabited α] (up : Int → α → α) (sz : α → Nat) (q : Int) (xs : List α) : Nat → List α
  | 0 => xs
  | j + 1 => (mixTo up sz q xs j).set j (up (q + szTo sz xs j) (gt xs j))
theorem mixTo_len {α : Type} [Inhabited α] (up : Int → α → α) (sz : α → Nat) (q : Int) (xs : List α) (j : Nat) : (mixTo up sz q xs j).length = xs.length := by
  induction j with
  | zero => rfl
  | succ j ih => simp only [mixTo]; rw [List.length_set, ih]
theorem gt_mixTo {α : Type} [Inhabited α] (up : Int → α → α) (sz : α → Nat) (q : Int) (xs : List α) (j : Nat) : ∀ i, i < xs.length → gt (mixTo up sz q xs j) i = if i < j then up (q + szTo sz xs i) (gt xs i) else gt xs i := by
  induction j with
  | zero => intro i _; rw [if_neg (by omega)]; rfl
  | succ j ih =>
    intro i hi
    simp only [mixTo]
    by_cases e : j = i
    · subst e; rw [gt_set_eq _ _ _ (by rw [mixTo_len]; exact hi), if_pos (by omega)]
    · rw [gt_set_ne _ _ _ _ e, ih i hi]
      by_cases h : i < j
      · rw [if_pos h, if_pos (by omega)]
      · rw [if_neg h, if_neg (by omega)]
def up1 (q : Int) (l : List Int) : List Int := upFrom q l.length
def up2 (q : Int) (xs : List (List Int)) : List (List Int) := mixTo up1 List.length q xs xs.length
def tot2 (xs : List (List Int)) : Nat := szTo List.length xs xs.length
def tot3 (xs : List (List (List Int))) : Nat := szTo tot2 xs xs.length
def up3 (q : Int) (xs : List (List (List Int))) : List (List (List Int)) := mixTo up2 tot2 q xs xs.length

/-- what a law over one presentation and one list keeps in view -/
structure St (P : Pr) (w W : World) (vo vp vc uo up uc r g : Value) (bx : Nat) (FX FR FG : Nat → Prop) (l l' : List Int) : Prop where
  a : Ext w W
  b : Box3 W w.heap.size vo vp vc
  x : Box3 W bx uo up uc
  p : PresW FX W (.agg #[uo, up, uc]) P
  r : OwnIn FR W r l
  g : OwnIn FG W g l'

theorem St.ext {P : Pr} {w W W' : World} {vo vp vc uo up uc r g : Value} {bx : Nat} {FX FR FG : Nat → Prop} {l l' : List Int} (h : St P w W vo vp vc uo up uc r g bx FX FR FG l l') (hg : Ext W W') : St P w W' vo vp vc uo up uc r g bx FX FR FG l l' :=
  ⟨grown_trans h.a hg, h.b.ext hg, h.x.ext hg, h.p.ext hg, rdOwn.mono h.r (frame_ext hg), rdOwn.mono h.g (frame_ext hg)⟩

theorem Box3.keep {W W' : World} {b : Nat} {x0 x1 x2 : Value} (h : Box3 W b x0 x1 x2) (hs : W.heap.size ≤ W'.heap.size) (e : W'.heap[b]? = W.heap[b]?) : Box3 W' b x0 x1 x2 := by
  obtain ⟨c0, c1, c2, c3, c4⟩ := h
  exact ⟨Nat.lt_of_lt_of_le c0 hs, (World.cell?_of_block (w := W) e).trans c1, (World.cell?_of_block (w := W) e).trans c2, (World.cell?_of_block (w := W) e).trans c3, fun k => (World.frozen?_of_block (w := W) e).trans (c4 k)⟩

end Go.Proofs.Ytljdneobfbimiaa

/- The laws' measure of an argument: laws.szInt64S, szInt64SS, szInt64SSS, szPresentation. -/
namespace Go.Proofs.Ytljdneobfbimiaa
open Go.RowKit

/-- what a measure answers: what is left, or -1 -/
def SzR (L : Int) (n : Nat) (v : Value) : Prop := ((n : Int) ≤ L ∧ v = .int .i64 (L - n)) ∨ (L < n ∧ v = .int .i64 (-1))

set_option maxHeartbeats 400000 in
theorem szInt64S_ok (v : Value) (l : List Int) (L : Int) (w : World) (S : Nat → Prop) (h : Ints S w v l) (hL : 0 ≤ L ∧ L ≤ 1048576) :
    Calls Try.prog 22 #[v, .int .i64 L] w (Ret w fun _ r => SzR L l.length r) := by
  obtain ⟨a, cap, rfl, _, hlen⟩ := h.shape
  have hwr : IntKind.i64.wrap (L - (l.length : Int)) = L - l.length := IntWalk.i64_in _ (by omega)
  by_cases hc : (l.length : Int) ≤ L
  · have h0 : ¬ (L - (l.length : Int) < 0) := by omega
    have h1 : 0 ≤ L - (l.length : Int) := by omega
    go_enter Try.func22, Try.ntmps22
    go_wp2
    go_ret
    exact ⟨_, rfl, Ext.refl _, .inl ⟨hc, rfl⟩⟩
  · have h0 : L - (l.length : Int) < 0 := by omega
    go_enter Try.func22, Try.ntmps22
    go_wp2
    go_ret
    exact ⟨_, rfl, Ext.refl _, .inr ⟨by omega, rfl⟩⟩

-- rows

set_option maxHeartbeats 1000000 in
theorem szInt64SS_ok (v : Value) (xs : List (List Int)) (L : Int) (w : World) (S : Nat → Prop) (h : Rows2 S w v xs) (hL : 0 ≤ L ∧ L ≤ 1048576) :
    Calls Try.prog 23 #[v, .int .i64 L] w (Ret w fun _ r => SzR L (size2 xs) r) := by
  obtain ⟨a, cap, rfl, _, hlen⟩ := Sl.shape h
  have hwr : IntKind.i64.wrap (L - (xs.length : Int)) = L - xs.length := IntWalk.i64_in _ (by omega)
  by_cases hc : (xs.length : Int) ≤ L
  · have h0 : ¬ (L - (xs.length : Int) < 0) := by omega
    have h1 : 0 ≤ L - (xs.length : Int) := by omega
    go_enter Try.func23, Try.ntmps23
    go_wp2
    clear hwr h0 h1
    go_loopw [1, 5] (fun lv iv wr => ∃ k : Nat, iv = .int .i64 k ∧ lv = .int .i64 (L - xs.length - szTo List.length xs k) ∧ k ≤ xs.length ∧ Ext w wr ∧ 0 ≤ L - xs.length - szTo List.length xs k) (fun _ iv _ => xs.length - (intOf iv).toNat)
    case atStart => exact ⟨0, rfl, by simp [szTo], by omega, Ext.refl _, by simp [szTo]; omega⟩
    case round =>
      obtain ⟨k, rfl, rfl, hk, hg, hp⟩ := hrel
      by_cases hlt : k < xs.length
      · obtain ⟨b, off, a2, cap2, rfl, _, _, hc2, hi2⟩ := Rows2.at ((Rows2.ext h hg)) k hlt
        have hm := szTo_mono List.length xs (show k + 1 ≤ xs.length by omega)
        have hsz : L - xs.length - szTo List.length xs k ≤ 1048576 := by omega
        have HH := Lib.hid (And.intro hm hsz); clear hm hsz
        go_wp2_with fail
        refine Calls.mono (szInt64S_ok _ _ (L - xs.length - szTo List.length xs k) wr S hi2 ⟨hp, HH.out.2⟩) ?_
        rintro eA wA ⟨vA, rfl, hgA, ⟨hA, rfl⟩ | ⟨hA, rfl⟩⟩
        · have h0 : ¬ (L - xs.length - szTo List.length xs k - (List.length (gt xs k) : Nat) < 0) := by omega
          have h1 : 0 ≤ L - xs.length - szTo List.length xs k - (List.length (gt xs k) : Nat) := by omega
          clear hc2 hi2 hA
          go_wp2
          go_roundw
          case rel => exact ⟨k + 1, by go_num, by simp [szTo]; omega, by omega, grown_trans hg hgA, by simp [szTo]; omega⟩
          case measure => simp [intOf]; omega
        · clear hc2 hi2
          go_wp2
          go_ret
          exact ⟨_, rfl, grown_trans hg hgA, .inr ⟨by
            have h3 := HH.out.1
            simp only [szTo] at h3
            unfold size2; omega, rfl⟩⟩
      · have hke : k = xs.length := by omega
        subst hke
        go_wp2
        go_ret
        exact ⟨_, rfl, hg, .inl ⟨by unfold size2; omega, congrArg (Value.int .i64) (by unfold size2; omega)⟩⟩
  · have h0 : L - (xs.length : Int) < 0 := by omega
    go_enter Try.func23, Try.ntmps23
    go_wp2
    go_ret
    exact ⟨_, rfl, Ext.refl _, .inr ⟨by unfold size2; omega, rfl⟩⟩

set_option maxHeartbeats 1000000 in
theorem szInt64SSS_ok (v : Value) (xs : List (List (List Int))) (L : Int) (w : World) (S : Nat → Prop) (h : Rows3 S w v xs) (hL : 0 ≤ L ∧ L ≤ 1048576) :
    Calls Try.prog 24 #[v, .int .i64 L] w (Ret w fun _ r => SzR L (size3 xs) r) := by
  obtain ⟨a, cap, rfl, _, hlen⟩ := Sl.shape h
  have hwr : IntKind.i64.wrap (L - (xs.length : Int)) = L - xs.length := IntWalk.i64_in _ (by omega)
  by_cases hc : (xs.length : Int) ≤ L
  · have h0 : ¬ (L - (xs.length : Int) < 0) := by omega
    have h1 : 0 ≤ L - (xs.length : Int) := by omega
    go_enter Try.func24, Try.ntmps24
    go_wp2
    clear hwr h0 h1
    go_loopw [1, 5] (fun lv iv wr => ∃ k : Nat, iv = .int .i64 k ∧ lv = .int .i64 (L - xs.length - szTo size2 xs k) ∧ k ≤ xs.length ∧ Ext w wr ∧ 0 ≤ L - xs.length - szTo size2 xs k) (fun _ iv _ => xs.length - (intOf iv).toNat)
    case atStart => exact ⟨0, rfl, by simp [szTo], by omega, Ext.refl _, by simp [szTo]; omega⟩
    case round =>
      obtain ⟨k, rfl, rfl, hk, hg, hp⟩ := hrel
      by_cases hlt : k < xs.length
      · obtain ⟨b, off, a2, cap2, rfl, _, _, hc2, hi2⟩ := Rows3.at ((Rows3.ext h hg)) k hlt
        have hm := szTo_mono size2 xs (show k + 1 ≤ xs.length by omega)
        have hsz : L - xs.length - szTo size2 xs k ≤ 1048576 := by omega
        have HH := Lib.hid (And.intro hm hsz); clear hm hsz
        go_wp2_with fail
        refine Calls.mono (szInt64SS_ok _ _ (L - xs.length - szTo size2 xs k) wr S hi2 ⟨hp, HH.out.2⟩) ?_
        rintro eA wA ⟨vA, rfl, hgA, ⟨hA, rfl⟩ | ⟨hA, rfl⟩⟩
        · have h0 : ¬ (L - xs.length - szTo size2 xs k - (size2 (gt xs k) : Nat) < 0) := by omega
          have h1 : 0 ≤ L - xs.length - szTo size2 xs k - (size2 (gt xs k) : Nat) := by omega
          clear hc2 hi2 hA
          go_wp2
          go_roundw
          case rel => exact ⟨k + 1, by go_num, by simp [szTo]; omega, by omega, grown_trans hg hgA, by simp [szTo]; omega⟩
          case measure => simp [intOf]; omega
        · clear hc2 hi2
          go_wp2
          go_ret
          exact ⟨_, rfl, grown_trans hg hgA, .inr ⟨by
            have h3 := HH.out.1
            simp only [szTo] at h3
            unfold size3; omega, rfl⟩⟩
      · have hke : k = xs.length := by omega
        subst hke
        go_wp2
        go_ret
        exact ⟨_, rfl, hg, .inl ⟨by unfold size3; omega, congrArg (Value.int .i64) (by unfold size3; omega)⟩⟩
  · have h0 : L - (xs.length : Int) < 0 := by omega
    go_enter Try.func24, Try.ntmps24
    go_wp2
    go_ret
    exact ⟨_, rfl, Ext.refl _, .inr ⟨by unfold size3; omega, rfl⟩⟩

set_option maxHeartbeats 1000000 in
theorem szPresentation_ok (v : Value) (P : Pr) (L : Int) (w : World) (S : Nat → Prop) (h : PresV S w v P) (hL : 0 ≤ L ∧ L ≤ 1048576) :
    Calls Try.prog 6 #[v, .int .i64 L] w (Ret w fun _ r => SzR L (sizeP P) r) := by
  obtain ⟨vo, vp, vc, rfl, h3⟩ := h
  have hp0 := PresP.box h3 26
  have hg0 : Ext w (w.alloc (.cells #[vo, vp, vc] 26)) := World.grownBy_alloc _ _ _
  go_enter Try.func6, Try.ntmps6
  go_wp2_with fail
  refine Calls.mono (szInt64S_ok _ _ L _ _ (h3.o.ext hg0) hL) ?_
  rintro eA wA ⟨vA, rfl, hgA, ⟨hA, rfl⟩ | ⟨hA, rfl⟩⟩
  · obtain ⟨vo5, vp5, vc5, _, _, hb1, hb2A, hb3A, h3r⟩ := (hp0.ext hgA).at
    simp at hb2A hb3A
    have h0 : ¬ (L - (P.orders.length : Int) < 0) := by omega
    have h1 : 0 ≤ L - (P.orders.length : Int) := by omega
    clear hb1
    go_wp2_with fail
    refine Calls.mono (szInt64SS_ok _ _ (L - (P.orders.length : Int)) _ _ h3r.p (by omega)) ?_
    rintro eB wB ⟨vB, rfl, hgB, ⟨hB, rfl⟩ | ⟨hB, rfl⟩⟩
    · have hb3B := hgB.cell hb3A (by simp)
      have h2 : ¬ (L - (P.orders.length : Int) - (size2 P.powers : Nat) < 0) := by omega
      have h4 : 0 ≤ L - (P.orders.length : Int) - (size2 P.powers : Nat) := by omega
      clear hb2A hb3A h0 h1
      go_wp2_with fail
      refine Calls.mono (szInt64SSS_ok _ _ (L - (P.orders.length : Int) - (size2 P.powers : Nat)) _ _ (Rows3.ext h3r.c hgB) (by omega)) ?_
      rintro eC wC ⟨vC, rfl, hgC, ⟨hC, rfl⟩ | ⟨hC, rfl⟩⟩
      · have h5 : ¬ (L - (P.orders.length : Int) - (size2 P.powers : Nat) - (size3 P.conj : Nat) < 0) := by omega
        have h6 : 0 ≤ L - (P.orders.length : Int) - (size2 P.powers : Nat) - (size3 P.conj : Nat) := by omega
        clear hb3B h2 h4
        go_wp2
        go_ret
        exact ⟨_, rfl, grown_trans hg0 (grown_trans hgA (grown_trans hgB hgC)), .inl ⟨by unfold sizeP; omega, congrArg (Value.int .i64) (by unfold sizeP; omega)⟩⟩
      · go_wp2
        go_ret
        exact ⟨_, rfl, grown_trans hg0 (grown_trans hgA (grown_trans hgB hgC)), .inr ⟨by unfold sizeP; omega, rfl⟩⟩
    · go_wp2
      go_ret
      exact ⟨_, rfl, grown_trans hg0 (grown_trans hgA hgB), .inr ⟨by unfold sizeP; omega, rfl⟩⟩
  · go_wp2
    go_ret
    exact ⟨_, rfl, grown_trans hg0 hgA, .inr ⟨by unfold sizeP; omega, rfl⟩⟩

end Go.Proofs.Ytljdneobfbimiaa

/- The laws' copies of an argument: laws.toInt64S, toInt64SS, toInt64SSS, toPresentation: each part in blocks of its own. -/
namespace Go.Proofs.Ytljdneobfbimiaa
open Go.RowKit

set_option maxHeartbeats 400000 in
theorem toInt64S_ok (v : Value) (l : List Int) (w : World) (S : Nat → Prop) (h : Ints S w v l) (hl : l.length ≤ 1048576) :
    Calls Try.prog 27 #[v] w (Ret w fun w' r => Own w.heap.size w' r l) := by
  obtain ⟨a, cap, rfl, _, hlen⟩ := h.shape
  go_enter Try.func27, Try.ntmps27
  go_wp2_with (at_make; refine wp_make_ints rfl _ _ rfl w.heap.size l.length w.heap.size rfl _ rfl rfl rfl (by omega) (Nat.le_refl _) ?_; intro w1 ho1 hg1 hlt1)
  rw [← cpTo_zero] at ho1
  go_loopw [4] (fun iv wr => ∃ k : Nat, iv = .int .i64 k ∧ k ≤ l.length ∧ Ext w wr ∧ Own w.heap.size wr (.slice (some ⟨w.heap.size, 0, none⟩) l.length l.length) (cpTo l 0 k)) (fun iv _ => l.length - (intOf iv).toNat)
  case atStart => exact ⟨0, rfl, by omega, hg1, ho1⟩
  case round =>
    obtain ⟨k, rfl, hk, hg, hO⟩ := hrel
    by_cases hlt : k < l.length
    · obtain ⟨b, off, rfl, _, hbl, hc⟩ := Ints.at (h.ext hg) k hlt
      have hcw := hO.cell k (by rw [cpTo_len _ _ _ hk]; exact hlt)
      have hfr := hO.frozen k
      obtain ⟨hs1, hs2⟩ := hO.store k (gt l k)
      have hgn : Ext w (wr.setCell ⟨w.heap.size, k, none⟩ (.int .i64 (gt l k))) := grown_own hg hs2 (fun j hj hlt => by cases hj; omega)
      rw [cpTo_step l 0 k hlt] at hs1
      clear hs2
      go_wp2
      go_roundw
      case rel => exact ⟨k + 1, by go_num, by omega, hgn, hs1⟩
      case measure => simp [intOf]; omega
    · have hke : k = l.length := by omega
      subst hke
      rw [cpTo_all] at hO
      go_wp2
      go_ret
      exact ⟨_, rfl, hg, hO⟩

-- rows

set_option maxHeartbeats 1000000 in
theorem toInt64SS_ok (v : Value) (xs : List (List Int)) (w : World) (S : Nat → Prop) (h : Rows2 S w v xs) (hl : size2 xs ≤ 1048576) :
    Calls Try.prog 28 #[v] w (Ret w fun w' r => SlO OwnIn 22 w.heap.size w' r xs) := by
  obtain ⟨a, cap, rfl, _, hlen⟩ := Sl.shape h
  have hlx : xs.length ≤ 1048576 := by unfold size2 at hl; omega
  have hsub : ∀ k, k < xs.length → List.length (gt xs k) ≤ 1048576 := fun k hk => by
    have := szTo_mono List.length xs (show k + 1 ≤ xs.length by omega)
    simp only [szTo] at this
    unfold size2 at hl; omega
  have HS := Lib.hid hsub; clear hsub hl
  go_enter Try.func28, Try.ntmps28
  go_wp2_with (at_make; refine wp_make_sl (El := OwnIn) 23 22 und_rows Try.infoRow (fun w => OwnIn.nil _ w) rfl _ _ rfl w.heap.size xs.length w.heap.size rfl _ rfl rfl rfl (by omega) (Nat.le_refl _) ?_; intro w1 ho1 hg1 hlt1)
  rw [← cpTo_zero] at ho1
  go_loopw [4] (fun iv wr => ∃ k : Nat, iv = .int .i64 k ∧ k ≤ xs.length ∧ Ext w wr ∧ SlO OwnIn 22 w.heap.size wr (.slice (some ⟨w.heap.size, 0, none⟩) xs.length xs.length) (cpTo xs [] k)) (fun iv _ => xs.length - (intOf iv).toNat)
  case atStart => exact ⟨0, rfl, by omega, hg1, ho1⟩
  case round =>
    obtain ⟨k, rfl, hk, hg, hO⟩ := hrel
    by_cases hlt : k < xs.length
    · obtain ⟨b, off, a2, cap2, rfl, _, _, hc2, hi2⟩ := Rows2.at (Rows2.ext h hg) k hlt
      go_wp2_with fail
      refine Calls.mono (toInt64S_ok _ _ wr S hi2 (HS.out k hlt)) ?_
      rintro eA wA ⟨vA, rfl, hgA, hA⟩
      have hEl := OwnIn.of (F := From wr.heap.size) hA (by have := HS.out k hlt; omega) (fun j hj _ => hj)
      obtain ⟨aA, capA, rfl, _, _⟩ := hEl.ints.shape
      obtain ⟨⟨z, hcw⟩, hfr⟩ := (hO.ext rdOwn hgA).place k (by rw [cpTo_len _ _ _ hk]; exact hlt)
      obtain ⟨hs1, hs2⟩ := hO.store rdOwn hgA hEl k
      have hgn : Ext w (wA.setCell ⟨w.heap.size, k, none⟩ (.slice aA (gt xs k).length capA)) := grown_own (grown_trans hg hgA) hs2 (fun j hj hlt => by cases hj; omega)
      rw [cpTo_step xs [] k hlt] at hs1
      clear hs2 hc2 hi2 hA hEl hO
      go_wp2
      go_roundw
      case rel => exact ⟨k + 1, by go_num, by omega, hgn, hs1⟩
      case measure => simp [intOf]; omega
    · have hke : k = xs.length := by omega
      subst hke
      rw [cpTo_all] at hO
      go_wp2
      go_ret
      exact ⟨_, rfl, hg, hO⟩

set_option maxHeartbeats 1000000 in
theorem toInt64SSS_ok (v : Value) (xs : List (List (List Int))) (w : World) (S : Nat → Prop) (h : Rows3 S w v xs) (hl : size3 xs ≤ 1048576) :
    Calls Try.prog 29 #[v] w (Ret w fun w' r => SlO (fun F w u (x : List (List Int)) => RowsW F w u x) 23 w.heap.size w' r xs) := by
  obtain ⟨a, cap, rfl, _, hlen⟩ := Sl.shape h
  have hlx : xs.length ≤ 1048576 := by unfold size3 at hl; omega
  have hsub : ∀ k, k < xs.length → size2 (gt xs k) ≤ 1048576 := fun k hk => by
    have := szTo_mono size2 xs (show k + 1 ≤ xs.length by omega)
    simp only [szTo] at this
    unfold size3 at hl; omega
  have HS := Lib.hid hsub; clear hsub hl
  go_enter Try.func29, Try.ntmps29
  go_wp2_with (at_make; refine wp_make_sl (El := (fun F w u (x : List (List Int)) => RowsW F w u x)) 24 23 und_rows3 Try.infoRows (fun w => SlD.nil _ _ w) rfl _ _ rfl w.heap.size xs.length w.heap.size rfl _ rfl rfl rfl (by omega) (Nat.le_refl _) ?_; intro w1 ho1 hg1 hlt1)
  rw [← cpTo_zero] at ho1
  go_loopw [4] (fun iv wr => ∃ k : Nat, iv = .int .i64 k ∧ k ≤ xs.length ∧ Ext w wr ∧ SlO (fun F w u (x : List (List Int)) => RowsW F w u x) 23 w.heap.size wr (.slice (some ⟨w.heap.size, 0, none⟩) xs.length xs.length) (cpTo xs [] k)) (fun iv _ => xs.length - (intOf iv).toNat)
  case atStart => exact ⟨0, rfl, by omega, hg1, ho1⟩
  case round =>
    obtain ⟨k, rfl, hk, hg, hO⟩ := hrel
    by_cases hlt : k < xs.length
    · obtain ⟨b, off, a2, cap2, rfl, _, _, hc2, hi2⟩ := Rows3.at (Rows3.ext h hg) k hlt
      go_wp2_with fail
      refine Calls.mono (toInt64SS_ok _ _ wr S hi2 (HS.out k hlt)) ?_
      rintro eA wA ⟨vA, rfl, hgA, hA⟩
      have hEl := SlO.toD hA (by have := HS.out k hlt; unfold size2 at this; omega)
      obtain ⟨aA, capA, rfl, _, _⟩ := SlD.shape hEl
      obtain ⟨⟨z, hcw⟩, hfr⟩ := (hO.ext rdRowsW hgA).place k (by rw [cpTo_len _ _ _ hk]; exact hlt)
      obtain ⟨hs1, hs2⟩ := hO.store rdRowsW hgA hEl k
      have hgn : Ext w (wA.setCell ⟨w.heap.size, k, none⟩ (.slice aA (gt xs k).length capA)) := grown_own (grown_trans hg hgA) hs2 (fun j hj hlt => by cases hj; omega)
      rw [cpTo_step xs [] k hlt] at hs1
      clear hs2 hc2 hi2 hA hEl hO
      go_wp2
      go_roundw
      case rel => exact ⟨k + 1, by go_num, by omega, hgn, hs1⟩
      case measure => simp [intOf]; omega
    · have hke : k = xs.length := by omega
      subst hke
      rw [cpTo_all] at hO
      go_wp2
      go_ret
      exact ⟨_, rfl, hg, hO⟩

end Go.Proofs.Ytljdneobfbimiaa

/- laws.toPresentation: a copy of a presentation, each part in blocks of its own. -/
namespace Go.Proofs.Ytljdneobfbimiaa
open Go.RowKit

set_option maxRecDepth 100000 in
set_option maxHeartbeats 4000000 in
theorem toPresentation_ok (v : Value) (P : Pr) (w : World) (S : Nat → Prop) (h : PresV S w v P) (hl : sizeP P ≤ 1048576) :
    Calls Try.prog 8 #[v] w (Ret w fun w' r => PresW (From w.heap.size) w' r P) := by
  obtain ⟨vo, vp, vc, rfl, h3⟩ := h
  have hso : P.orders.length ≤ 1048576 := by unfold sizeP at hl; omega
  have hsp : size2 P.powers ≤ 1048576 := by unfold sizeP at hl; omega
  have hsc : size3 P.conj ≤ 1048576 := by unfold sizeP at hl; omega
  have HS := Lib.hid (And.intro hso (And.intro hsp hsc)); clear hso hsp hsc hl
  go_enter Try.func8, Try.ntmps8
  have hg0 : Ext w (((w.alloc (.cells #[vo, vp, vc] 26)).alloc (.cells #[.slice none 0 0, .slice none 0 0, .slice none 0 0] 30)).alloc (.cells #[.slice none 0 0, .slice none 0 0, .slice none 0 0] 30)) :=
    grown_trans (World.grownBy_alloc _ _ _) (grown_trans (World.grownBy_alloc _ _ _) (World.grownBy_alloc _ _ _))
  have hA0 : Box3 (((w.alloc (.cells #[vo, vp, vc] 26)).alloc (.cells #[.slice none 0 0, .slice none 0 0, .slice none 0 0] 30)).alloc (.cells #[.slice none 0 0, .slice none 0 0, .slice none 0 0] 30)) w.heap.size vo vp vc :=
    ((Box3.made w _ vo vp vc).ext (World.grownBy_alloc _ _ _)).ext (World.grownBy_alloc _ _ _)
  have hR0 := (Box3.made (w.alloc (.cells #[vo, vp, vc] 26)) 30 (.slice none 0 0) (.slice none 0 0) (.slice none 0 0)).ext (World.grownBy_alloc _ (.cells #[.slice none 0 0, .slice none 0 0, .slice none 0 0] 30) _)
  have hO0 := Box3.made ((w.alloc (.cells #[vo, vp, vc] 26)).alloc (.cells #[.slice none 0 0, .slice none 0 0, .slice none 0 0] 30)) 30 (.slice none 0 0) (.slice none 0 0) (.slice none 0 0)
  have hs1 : (w.alloc (.cells #[vo, vp, vc] 26)).heap.size = w.heap.size + 1 := by simp
  have hs2 : ((w.alloc (.cells #[vo, vp, vc] 26)).alloc (.cells #[.slice none 0 0, .slice none 0 0, .slice none 0 0] 30)).heap.size = w.heap.size + 1 + 1 := by simp
  rw [hs1] at hR0
  rw [hs2] at hO0
  have HB := Lib.hid (And.intro hA0 (And.intro hR0 hO0)); clear hA0 hR0 hO0 hs1 hs2
  go_wp2_with fail
  generalize hw0 : ((w.alloc (.cells #[vo, vp, vc] 26)).alloc (.cells #[.slice none 0 0, .slice none 0 0, .slice none 0 0] 30)).alloc (.cells #[.slice none 0 0, .slice none 0 0, .slice none 0 0] 30) = w0 at *
  clear hw0
  have hsz0 : w.heap.size + 1 + 1 < w0.heap.size := HB.out.2.2.1
  refine Calls.mono (toInt64S_ok _ _ _ _ (h3.o.ext hg0) HS.out.1) ?_
  rintro eA wA ⟨vA, rfl, hgA, hA⟩
  have hAi := hA.ints (by have := HS.out.1; omega)
  obtain ⟨aA, capA, rfl, _, _⟩ := hAi.shape
  clear hAi
  have a1 := (HB.out.1.ext hgA)
  have r1 := (HB.out.2.1.ext hgA)
  have o1 := (HB.out.2.2.ext hgA)
  have hgwA := grown_trans hg0 hgA
  have hgw1 := ext_store hgwA (show w.heap.size ≤ w.heap.size + 1 + 1 by omega) 0 (.slice aA P.orders.length capA)
  have hlA := hgA.size
  have o2 := (o1.put (.slice aA P.orders.length capA)).1
  have a2 := a1.far (c := w.heap.size + 1 + 1) (j := 0) (v := .slice aA P.orders.length capA) (by omega)
  have r2 := r1.far (c := w.heap.size + 1 + 1) (j := 0) (v := .slice aA P.orders.length capA) (by omega)
  have hA2 : OwnIn (fun k => w0.heap.size ≤ k ∧ k < wA.heap.size) (wA.setCell ⟨w.heap.size + 1 + 1, 0, none⟩ (.slice aA P.orders.length capA)) (.slice aA P.orders.length capA) P.orders :=
    rdOwn.mono (OwnIn.of (F := fun k => w0.heap.size ≤ k ∧ k < wA.heap.size) hA (by have := HS.out.1; omega) (fun k h1 h2 => ⟨h1, h2⟩)) (fun k hk hlt => ⟨hk, by simpa [World.setCell] using hlt, Below.heap_setCell _ _ _ _ (by have := hk.1; simp; omega)⟩)
  have HW := Lib.hid (And.intro a2 (And.intro r2 (And.intro o2 hA2))); clear a2 r2 o2 hA2 hA
  obtain ⟨_, ca0, ca1, ca2, _⟩ := a1
  obtain ⟨_, co0, co1, co2, cof⟩ := o1
  clear r1
  go_wp2_with fail
  clear ca0 ca1 ca2 co0 co1 co2 cof
  have hszs : (wA.setCell ⟨w.heap.size + 1 + 1, 0, none⟩ (.slice aA P.orders.length capA)).heap.size = wA.heap.size := by simp [World.setCell]
  generalize wA.setCell ⟨w.heap.size + 1 + 1, 0, none⟩ (.slice aA P.orders.length capA) = w1 at *
  have HSZ := Lib.hid hszs; clear hszs
  refine Calls.mono (toInt64SS_ok _ _ _ _ (Rows2.ext h3.p hgw1) HS.out.2.1) ?_
  rintro eB wB ⟨vB, rfl, hgB, hB⟩
  have hlpp : P.powers.length ≤ 1048576 := by have := HS.out.2.1; unfold size2 at this; omega
  have hBd := SlO.toD hB (by omega)
  obtain ⟨aB, capB, rfl, _, _⟩ := SlD.shape hBd
  have a1 := (HW.out.1.ext hgB)
  have r1 := (HW.out.2.1.ext hgB)
  have o1 := (HW.out.2.2.1.ext hgB)
  have hgwB := grown_trans hgw1 hgB
  have hgw2 := ext_store hgwB (show w.heap.size ≤ w.heap.size + 1 + 1 by omega) 1 (.slice aB P.powers.length capB)
  have hlB := hgB.size
  have hsA := HSZ.out
  have o2 := (o1.put (.slice aB P.powers.length capB)).2.1
  have a2 := a1.far (c := w.heap.size + 1 + 1) (j := 1) (v := .slice aB P.powers.length capB) (by omega)
  have r2 := r1.far (c := w.heap.size + 1 + 1) (j := 1) (v := .slice aB P.powers.length capB) (by omega)
  have hA2 : OwnIn (fun k => w0.heap.size ≤ k ∧ k < wA.heap.size) (wB.setCell ⟨w.heap.size + 1 + 1, 1, none⟩ (.slice aB P.powers.length capB)) (.slice aA P.orders.length capA) P.orders :=
    rdOwn.mono HW.out.2.2.2 (fun k hk hlt => ⟨hk, by simp [World.setCell]; omega, (Below.heap_setCell _ _ _ _ (by have := hk.1; simp; omega)).trans (hgB.block k hlt (by simp))⟩)
  have hB2 : RowsW (fun k => w1.heap.size ≤ k ∧ k < wB.heap.size) (wB.setCell ⟨w.heap.size + 1 + 1, 1, none⟩ (.slice aB P.powers.length capB)) (.slice aB P.powers.length capB) P.powers :=
    rdRowsW.mono hBd (fun k hk hlt => ⟨⟨hk, hlt⟩, by simpa [World.setCell] using hlt, Below.heap_setCell _ _ _ _ (by have hk : w1.heap.size ≤ k := hk; simp; omega)⟩)
  have HW2 := Lib.hid (And.intro a2 (And.intro r2 (And.intro o2 (And.intro hA2 hB2)))); clear a2 r2 o2 hA2 hB2 hB hBd HW
  obtain ⟨_, ca0, ca1, ca2, _⟩ := a1
  obtain ⟨_, co0, co1, co2, cof⟩ := o1
  clear r1
  go_wp2_with fail
  clear ca0 ca1 ca2 co0 co1 co2 cof
  have hszs : (wB.setCell ⟨w.heap.size + 1 + 1, 1, none⟩ (.slice aB P.powers.length capB)).heap.size = wB.heap.size := by simp [World.setCell]
  generalize wB.setCell ⟨w.heap.size + 1 + 1, 1, none⟩ (.slice aB P.powers.length capB) = w2 at *
  have HSZ2 := Lib.hid hszs; clear hszs
  refine Calls.mono (toInt64SSS_ok _ _ _ _ (Rows3.ext h3.c hgw2) HS.out.2.2) ?_
  rintro eC wC ⟨vC, rfl, hgC, hC⟩
  have hlcc : P.conj.length ≤ 1048576 := by have := HS.out.2.2; unfold size3 at this; omega
  have hCd := SlO.toD hC (by omega)
  obtain ⟨aC, capC, rfl, _, _⟩ := SlD.shape hCd
  have a1 := (HW2.out.1.ext hgC)
  have r1 := (HW2.out.2.1.ext hgC)
  have o1 := (HW2.out.2.2.1.ext hgC)
  have hgwC := grown_trans hgw2 hgC
  have hlC := hgC.size
  have hsB := HSZ2.out
  have hg3 := ext_store hgwC (show w.heap.size ≤ w.heap.size + 1 + 1 by omega) 2 (.slice aC P.conj.length capC)
  have hA2 := HW2.out.2.2.2.1
  have hB2 := HW2.out.2.2.2.2
  clear hC HW2
  obtain ⟨_, ca0, ca1, ca2, _⟩ := a1
  obtain ⟨_, co0, co1, co2, cof⟩ := o1
  obtain ⟨_, cr0, cr1, cr2, crf⟩ := r1
  have HX := Lib.hid (And.intro hA2 (And.intro hB2 hCd)); clear hA2 hB2 hCd
  go_wp2
  refine bodyPost_ret (v := .agg #[.slice aA P.orders.length capA, .slice aB P.powers.length capB, .slice aC P.conj.length capC]) (by simp [results, Try.results8, go_sem, cr0, cr1, cr2]) rfl ⟨_, rfl, ext_store (ext_store (ext_store hg3 (by omega) _ _) (by omega) _ _) (by omega) _ _, ?_⟩
  have hblk : ∀ k, w.heap.size + 1 + 1 < k → ((((wC.setCell ⟨w.heap.size + 1 + 1, 2, none⟩ (.slice aC P.conj.length capC)).setCell ⟨w.heap.size + 1, 0, none⟩ (.slice aA P.orders.length capA)).setCell ⟨w.heap.size + 1, 1, none⟩ (.slice aB P.powers.length capB)).setCell ⟨w.heap.size + 1, 2, none⟩ (.slice aC P.conj.length capC)).heap[k]? = wC.heap[k]? := fun k hk => by
    rw [Below.heap_setCell _ _ _ _ (by simp; omega), Below.heap_setCell _ _ _ _ (by simp; omega), Below.heap_setCell _ _ _ _ (by simp; omega), Below.heap_setCell _ _ _ _ (by simp; omega)]
  have hsz : ((((wC.setCell ⟨w.heap.size + 1 + 1, 2, none⟩ (.slice aC P.conj.length capC)).setCell ⟨w.heap.size + 1, 0, none⟩ (.slice aA P.orders.length capA)).setCell ⟨w.heap.size + 1, 1, none⟩ (.slice aB P.powers.length capB)).setCell ⟨w.heap.size + 1, 2, none⟩ (.slice aC P.conj.length capC)).heap.size = wC.heap.size := by simp [World.setCell]
  have hsz3 := HSZ.out
  have hsz4 := HSZ2.out
  refine ⟨_, _, _, fun k => w0.heap.size ≤ k ∧ k < wA.heap.size, fun k => w1.heap.size ≤ k ∧ k < wB.heap.size, fun k => w2.heap.size ≤ k, rfl, rdOwn.mono HX.out.1 (fun k hk hlt => ⟨hk, by rw [hsz]; omega, (hblk k (by omega)).trans (hgC.block k hlt (by simp))⟩),
    rdRowsW.mono HX.out.2.1 (fun k hk hlt => ⟨hk, by rw [hsz]; omega, (hblk k (by omega)).trans (hgC.block k hlt (by simp))⟩), SlD.mono rdRowsW HX.out.2.2 (fun k hk hlt => ⟨hk, by rw [hsz]; exact hlt, hblk k (by have hk : w2.heap.size ≤ k := hk; omega)⟩), fun k hk => ?_, fun k hk => ?_, fun k hk => ?_⟩
  · exact ⟨by show w.heap.size ≤ k; omega, by omega, by omega⟩
  · exact ⟨by show w.heap.size ≤ k; omega, by omega⟩
  · show w.heap.size ≤ k; omega

end Go.Proofs.Ytljdneobfbimiaa

/- laws.eqInt64S. -/
namespace Go.Proofs.Ytljdneobfbimiaa
open Go.RowKit

set_option maxHeartbeats 400000 in
theorem eqInt64S_ok (v1 v2 : Value) (l1 l2 : List Int) (w : World) (S1 S2 : Nat → Prop) (h1 : Ints S1 w v1 l1) (h2 : Ints S2 w v2 l2) :
    Calls Try.prog 10 #[v1, v2] w (Ret w fun _ v => v = .bool (eqB l1 l2)) := by
  obtain ⟨a, cap, rfl, _, _⟩ := h1.shape
  obtain ⟨a2, cap2, rfl, _, _⟩ := h2.shape
  by_cases hl : l1.length = l2.length
  · have hd : ((l1.length : Int) != (l2.length : Int)) = false := by simp [hl]
    have hl1 : l1.length ≤ l2.length ∧ l2.length ≤ l1.length := by omega
    have HL := Lib.hid hl; clear hl
    go_enter Try.func10, Try.ntmps10
    go_wp2
    go_loopw [5] (fun i wr => ∃ k : Nat, i = .int .i64 k ∧ k ≤ l1.length ∧ Ext w wr ∧ ∀ i, i < k → gt l1 i = gt l2 i) (fun i _ => l1.length - (intOf i).toNat)
    case atStart => exact ⟨0, rfl, by omega, Ext.refl _, fun i hi => by omega⟩
    case round =>
      obtain ⟨k, rfl, hk, hg, hz⟩ := hrel
      have HZ := Lib.hid hz; clear hz
      by_cases hlt : k < l1.length
      · obtain ⟨b, off, rfl, _, _, hc⟩ := Ints.at (h1.ext hg) k hlt
        obtain ⟨b2, off2, rfl, _, _, hc2⟩ := Ints.at (h2.ext hg) k (by omega)
        by_cases hx : gt l1 k = gt l2 k
        · have hb : (gt l1 k != gt l2 k) = false := by simp [hx]
          have hx2 := Lib.hid hx; clear hx
          go_wp2
          go_quiet (fail)
          go_wp2
          go_roundw
          case rel => exact ⟨k + 1, by go_num, by omega, grown_trans hg (grown_drewN _ _ _), fun i hi => by
            rcases Nat.lt_or_ge i k with h1 | h1
            · exact HZ.out i h1
            · have : i = k := by omega
              rw [this, hx2.out]⟩
          case measure => simp [intOf]; omega
        · have hb : (gt l1 k != gt l2 k) = true := by simp [hx]
          have hx2 := Lib.hid hx; clear hx
          go_wp2
          go_quiet (fail)
          go_wp2
          go_ret
          exact ret_bool (grown_trans hg (grown_drewN _ _ _)) (by rw [eqB_false_at (hx := hx2.out)])
      · go_wp2
        go_ret
        exact ret_bool hg (by rw [eqB_true.2 (ext_gt HL.out (fun i hi => HZ.out i (by omega)))])
  · have hd : ((l1.length : Int) != (l2.length : Int)) = true := by simp; omega
    have HL := Lib.hid hl; clear hl
    go_enter Try.func10, Try.ntmps10
    go_wp2
    go_ret
    exact ret_bool (Ext.refl _) (by rw [eqB_false.2 (fun h => HL.out (by rw [h]))])

end Go.Proofs.Ytljdneobfbimiaa

/- The laws' comparisons: laws.eqInt64SS, eqInt64SSS, eqPresentation. -/
namespace Go.Proofs.Ytljdneobfbimiaa
open Go.RowKit

theorem Ints.extA {S : Nat → Prop} {w w' : World} {v : Value} {xs : List Int} (h : Ints S w v xs) (hg : Ext w w') : Ints Any w' v xs := Ints.sub (Ints.ext h hg) (fun _ _ _ => trivial)
theorem Rows2.extA {S : Nat → Prop} {w w' : World} {v : Value} {xs : List (List Int)} (h : Rows2 S w v xs) (hg : Ext w w') : Rows2 Any w' v xs := Rows2.sub (Rows2.ext h hg) (fun _ _ _ => trivial)

set_option maxRecDepth 100000 in
set_option maxHeartbeats 2000000 in
theorem eqInt64SS_ok (v1 v2 : Value) (l1 l2 : List (List Int)) (w : World) (S1 S2 : Nat → Prop) (h1 : Rows2 S1 w v1 l1) (h2 : Rows2 S2 w v2 l2) :
    Calls Try.prog 17 #[v1, v2] w (Ret w fun _ v => v = .bool (eqB l1 l2)) := by
  obtain ⟨a, cap, rfl, _, _⟩ := Sl.shape h1
  obtain ⟨a2, cap2, rfl, _, _⟩ := Sl.shape h2
  by_cases hl : l1.length = l2.length
  · have hd : ((l1.length : Int) != (l2.length : Int)) = false := by simp [hl]
    have hl1 : l1.length ≤ l2.length ∧ l2.length ≤ l1.length := by omega
    have HL := Lib.hid hl; clear hl
    go_enter Try.func17, Try.ntmps17
    go_wp2
    go_loopw [5] (fun i wr => ∃ k : Nat, i = .int .i64 k ∧ k ≤ l1.length ∧ Ext w wr ∧ ∀ i, i < k → gt l1 i = gt l2 i) (fun i _ => l1.length - (intOf i).toNat)
    case atStart => exact ⟨0, rfl, by omega, Ext.refl _, fun i hi => by omega⟩
    case round =>
      obtain ⟨k, rfl, hk, hg, hz⟩ := hrel
      have HZ := Lib.hid hz; clear hz
      by_cases hlt : k < l1.length
      · obtain ⟨b, off, x1, c1, rfl, _, _, hc, hi1⟩ := Rows2.at (Rows2.ext h1 hg) k hlt
        obtain ⟨b2, off2, x2, c2, rfl, _, _, hc2, hi2⟩ := Rows2.at (Rows2.ext h2 hg) k (by omega)
        have e1 : ∀ w', Ext wr w' → w'.cell? ⟨b, off + k, none⟩ = some (.slice x1 (gt l1 k).length c1) := fun w' h => h.cell hc (by simp)
        have e2 : ∀ w', Ext wr w' → w'.cell? ⟨b2, off2 + k, none⟩ = some (.slice x2 (gt l2 k).length c2) := fun w' h => h.cell hc2 (by simp)
        clear hc hc2
        have hlt2 : k < l2.length := by omega
        go_wp2
        cases hx : eqB (gt l1 k) (gt l2 k) with
        | true =>
          have hx2 := Lib.hid hx
          go_region_held3 (fun w' => Ext wr w') (first | exact grown_drew _ _ | assumption)
            (first
              | (go_at_call 10; refine Calls.mono (Calls.rel (w0 := wr) (by assumption) (eqInt64S_ok _ _ _ _ _ Any Any ((Ints.extA hi1 (by assumption))) (Ints.extA hi2 (by assumption)))) ?_; rintro eA wA ⟨vA, rfl, hgA, hsA, rfl⟩))
          clear e1 e2
          go_wp2
          go_roundw
          case rel => exact ⟨k + 1, by go_num, by omega, grown_trans hg hgA, fun i hi => by
            rcases Nat.lt_or_ge i k with h1 | h1
            · exact HZ.out i h1
            · have : i = k := by omega
              rw [this]; exact eqB_true.1 hx2.out⟩
          case measure => simp [intOf]; omega
        | false =>
          have hx2 := Lib.hid hx
          go_region_held3 (fun w' => Ext wr w') (first | exact grown_drew _ _ | assumption)
            (first
              | (go_at_call 10; refine Calls.mono (Calls.rel (w0 := wr) (by assumption) (eqInt64S_ok _ _ _ _ _ Any Any (Ints.extA hi1 (by assumption)) (Ints.extA hi2 (by assumption)))) ?_; rintro eA wA ⟨vA, rfl, hgA, hsA, rfl⟩))
          clear e1 e2
          go_wp2
          go_ret
          exact ret_bool (grown_trans hg hgA) (by rw [eqB_false_at (hx := eqB_false.1 hx2.out)])
      · go_wp2
        go_ret
        exact ret_bool hg (by rw [eqB_true.2 (ext_gt HL.out (fun i hi => HZ.out i (by omega)))])
  · have hd : ((l1.length : Int) != (l2.length : Int)) = true := by simp; omega
    have HL := Lib.hid hl; clear hl
    go_enter Try.func17, Try.ntmps17
    go_wp2
    go_ret
    exact ret_bool (Ext.refl _) (by rw [eqB_false.2 (fun e => HL.out (by rw [e]))])

set_option maxRecDepth 100000 in
set_option maxHeartbeats 2000000 in
theorem eqInt64SSS_ok (v1 v2 : Value) (l1 l2 : List (List (List Int))) (w : World) (S1 S2 : Nat → Prop) (h1 : Rows3 S1 w v1 l1) (h2 : Rows3 S2 w v2 l2) :
    Calls Try.prog 31 #[v1, v2] w (Ret w fun _ v => v = .bool (eqB l1 l2)) := by
  obtain ⟨a, cap, rfl, _, _⟩ := Sl.shape h1
  obtain ⟨a2, cap2, rfl, _, _⟩ := Sl.shape h2
  by_cases hl : l1.length = l2.length
  · have hd : ((l1.length : Int) != (l2.length : Int)) = false := by simp [hl]
    have hl1 : l1.length ≤ l2.length ∧ l2.length ≤ l1.length := by omega
    have HL := Lib.hid hl; clear hl
    go_enter Try.func31, Try.ntmps31
    go_wp2
    go_loopw [5] (fun i wr => ∃ k : Nat, i = .int .i64 k ∧ k ≤ l1.length ∧ Ext w wr ∧ ∀ i, i < k → gt l1 i = gt l2 i) (fun i _ => l1.length - (intOf i).toNat)
    case atStart => exact ⟨0, rfl, by omega, Ext.refl _, fun i hi => by omega⟩
    case round =>
      obtain ⟨k, rfl, hk, hg, hz⟩ := hrel
      have HZ := Lib.hid hz; clear hz
      by_cases hlt : k < l1.length
      · obtain ⟨b, off, x1, c1, rfl, _, _, hc, hi1⟩ := Rows3.at (Rows3.ext h1 hg) k hlt
        obtain ⟨b2, off2, x2, c2, rfl, _, _, hc2, hi2⟩ := Rows3.at (Rows3.ext h2 hg) k (by omega)
        have e1 : ∀ w', Ext wr w' → w'.cell? ⟨b, off + k, none⟩ = some (.slice x1 (gt l1 k).length c1) := fun w' h => h.cell hc (by simp)
        have e2 : ∀ w', Ext wr w' → w'.cell? ⟨b2, off2 + k, none⟩ = some (.slice x2 (gt l2 k).length c2) := fun w' h => h.cell hc2 (by simp)
        clear hc hc2
        have hlt2 : k < l2.length := by omega
        go_wp2
        cases hx : eqB (gt l1 k) (gt l2 k) with
        | true =>
          have hx2 := Lib.hid hx
          go_region_held3 (fun w' => Ext wr w') (first | exact grown_drew _ _ | assumption)
            (first
              | (go_at_call 17; refine Calls.mono (Calls.rel (w0 := wr) (by assumption) (eqInt64SS_ok _ _ _ _ _ Any Any ((Rows2.extA hi1 (by assumption))) (Rows2.extA hi2 (by assumption)))) ?_; rintro eA wA ⟨vA, rfl, hgA, hsA, rfl⟩))
          clear e1 e2
          go_wp2
          go_roundw
          case rel => exact ⟨k + 1, by go_num, by omega, grown_trans hg hgA, fun i hi => by
            rcases Nat.lt_or_ge i k with h1 | h1
            · exact HZ.out i h1
            · have : i = k := by omega
              rw [this]; exact eqB_true.1 hx2.out⟩
          case measure => simp [intOf]; omega
        | false =>
          have hx2 := Lib.hid hx
          go_region_held3 (fun w' => Ext wr w') (first | exact grown_drew _ _ | assumption)
            (first
              | (go_at_call 17; refine Calls.mono (Calls.rel (w0 := wr) (by assumption) (eqInt64SS_ok _ _ _ _ _ Any Any (Rows2.extA hi1 (by assumption)) (Rows2.extA hi2 (by assumption)))) ?_; rintro eA wA ⟨vA, rfl, hgA, hsA, rfl⟩))
          clear e1 e2
          go_wp2
          go_ret
          exact ret_bool (grown_trans hg hgA) (by rw [eqB_false_at (hx := eqB_false.1 hx2.out)])
      · go_wp2
        go_ret
        exact ret_bool hg (by rw [eqB_true.2 (ext_gt HL.out (fun i hi => HZ.out i (by omega)))])
  · have hd : ((l1.length : Int) != (l2.length : Int)) = true := by simp; omega
    have HL := Lib.hid hl; clear hl
    go_enter Try.func31, Try.ntmps31
    go_wp2
    go_ret
    exact ret_bool (Ext.refl _) (by rw [eqB_false.2 (fun e => HL.out (by rw [e]))])

set_option maxRecDepth 100000 in
set_option maxHeartbeats 2000000 in
theorem eqPresentation_ok (v1 v2 : Value) (P : Pr) (w : World) (S1 S2 : Nat → Prop) (h1 : PresV S1 w v1 P) (h2 : PresV S2 w v2 P) :
    Calls Try.prog 11 #[v1, v2] w (Ret w fun _ v => v = .bool true) := by
  obtain ⟨vo, vp, vc, rfl, h3⟩ := h1
  obtain ⟨uo, up, uc, rfl, k3⟩ := h2
  have hg0 : Ext w ((w.alloc (.cells #[vo, vp, vc] 30)).alloc (.cells #[uo, up, uc] 30)) := grown_trans (World.grownBy_alloc _ _ _) (World.grownBy_alloc _ _ _)
  have hs1 : (w.alloc (.cells #[vo, vp, vc] 30)).heap.size = w.heap.size + 1 := by simp
  have b1 := (Box3.made w 30 vo vp vc).ext (World.grownBy_alloc _ (.cells #[uo, up, uc] 30) none)
  have b2 := Box3.made (w.alloc (.cells #[vo, vp, vc] 30)) 30 uo up uc
  rw [hs1] at b2
  have HB := Lib.hid (And.intro b1 b2); clear b1 b2 hs1
  go_enter Try.func11, Try.ntmps11
  go_wp2_with fail
  generalize (w.alloc (.cells #[vo, vp, vc] 30)).alloc (.cells #[uo, up, uc] 30) = w0 at *
  refine Calls.mono (eqInt64S_ok _ _ _ _ _ S1 S2 (h3.o.ext hg0) (k3.o.ext hg0)) ?_
  rintro eA wA ⟨vA, rfl, hgA, rfl⟩
  have hgwA := grown_trans hg0 hgA
  obtain ⟨_, a0, a1, a2, _⟩ := HB.out.1.ext hgA
  obtain ⟨_, c0, c1, c2, _⟩ := HB.out.2.ext hgA
  have e1 : eqB P.orders P.orders = true := eqB_true.2 rfl
  go_wp2_with fail
  clear a0 a1 a2 c0 c1 c2 e1
  refine Calls.mono (eqInt64SS_ok _ _ _ _ _ S1 S2 (Rows2.ext h3.p hgwA) (Rows2.ext k3.p hgwA)) ?_
  rintro eB wB ⟨vB, rfl, hgB, rfl⟩
  have hgwB := grown_trans hgwA hgB
  obtain ⟨_, a0, a1, a2, _⟩ := HB.out.1.ext (grown_trans hgA hgB)
  obtain ⟨_, c0, c1, c2, _⟩ := HB.out.2.ext (grown_trans hgA hgB)
  have e1 : eqB P.powers P.powers = true := eqB_true.2 rfl
  go_wp2_with fail
  clear a0 a1 a2 c0 c1 c2 e1
  refine Calls.mono (eqInt64SSS_ok _ _ _ _ _ S1 S2 (Rows3.ext h3.c hgwB) (Rows3.ext k3.c hgwB)) ?_
  rintro eC wC ⟨vC, rfl, hgC, rfl⟩
  have e1 : eqB P.conj P.conj = true := eqB_true.2 rfl
  go_wp2
  go_ret
  exact ⟨_, rfl, grown_trans hgwB hgC, rfl⟩

end Go.Proofs.Ytljdneobfbimiaa
