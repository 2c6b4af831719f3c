/-
  Plain: tails and heads of a presentation: the tail is the presentation of the subgroup of the last generators, the head at a normal tail that of the quotient.
  The source of drawn numbers: spec.l01Next.
  append(out, make([]int64, m)...): the builtin is handed the number m.
  Drawing: spec.l01Pick, l07Shift, l07Digits, l07Factors, l01Power.
  Slices of the call's own at every level, whose parts may be written: SlI; a presentation all of whose parts may be written: PresX.
  Plain: the shape of a presentation that is drawn; the trivial presentation.
  Drawing: spec.l07Trivial.
  A presentation under way in a variable: appends to its orders, powers and conjugates.
-/
import Derived.Test.YtldheeicjnncoaaGreatE4
import Derived.Test.YtldheeicjnncoaaGreatE5
import Derived.Test.YtldheeicjnncoaaGreatE6
import Derived.Lib.AppendZeros
import Derived.Deep.RegionLaw
import Derived.Deep.DrawnRows
namespace Go.Proofs.YtldheeicjnncoaaGreat
open Go.RowKit

/-- the generators from an index on -/
def tlG (P : Pr) (i : Nat) : List (List Int) := (gensOf P.orders.length).drop i
theorem tl_len (P : Pr) (i : Nat) : (tlG P i).length = P.orders.length - i := by unfold tlG; rw [List.length_drop, gensOf_len]
theorem gt_dp {α : Type} [Inhabited α] (l : List α) (i k : Nat) : gt (l.drop i) k = gt l (i + k) := by simp [gt, List.getElem?_drop]
theorem gt_tk {α : Type} [Inhabited α] (l : List α) {i k : Nat} (h : k < i) : gt (l.take i) k = gt l k := by simp [gt, h]
theorem gt_tl {P : Pr} {i k : Nat} (h : i + k < P.orders.length) : gt (tlG P i) k = unitV P.orders.length (i + k) := by
  unfold tlG
  rw [gt_dp, gensOf_at _ _ h]
theorem dep_unit {n j : Nat} (h : j < n) : dep (unitV n j) = j := by
  have hl : (unitV n j).length = n := by unfold unitV; simp
  exact dep_eq (by rw [hl]; exact h) (fun k hk => by rw [gt_unit _ _ _ (by omega), if_neg (by omega)]) (by rw [gt_unit _ _ _ h, if_pos rfl]; decide)
theorem prodTo_cut (l : List Int) {i : Nat} : ∀ m, i + m ≤ l.length → prodTo l (i + m) = prodTo (l.take i) i * prodTo (l.drop i) m
  | 0, h => by
    have e : ∀ k, k ≤ i → prodTo (l.take i) k = prodTo l k := fun k => by
      induction k with
      | zero => intro _; rfl
      | succ k ih => intro hk; rw [prodTo, prodTo, ih (by omega), gt_tk l (by omega)]
    rw [e i (Nat.le_refl _)]
    show prodTo l i = _ * 1
    rw [Int.mul_one]
  | m + 1, h => by
    show prodTo l (i + m) * gt l (i + m) = _ * (prodTo (l.drop i) m * gt (l.drop i) m)
    rw [prodTo_cut l m (by omega), gt_dp, Int.mul_assoc]
theorem acc_shift {α : Type} (g : α → Nat → α) (x : List Int) (i : Nat) (out : α) : ∀ k, acc g x i out k = acc (fun y j => g y (i + j)) (x.drop i) 0 out k
  | 0 => rfl
  | k + 1 => by
    show iter (gt x (i + k)).toNat (fun y => g y (i + k)) (acc g x i out k) = iter (gt (x.drop i) (0 + k)).toNat (fun y => g y (i + (0 + k))) (acc _ (x.drop i) 0 out k)
    rw [acc_shift g x i out k, gt_dp, Nat.zero_add]

theorem fm_congr {α β : Type} {f g : α → Option β} : ∀ {l : List α}, (∀ a ∈ l, f a = g a) → l.filterMap f = l.filterMap g
  | [], _ => rfl
  | a :: l, h => by rw [List.filterMap_cons, List.filterMap_cons, h a (List.mem_cons_self ..), fm_congr (fun b hb => h b (List.mem_cons_of_mem _ hb))]
theorem acc_gc {α : Type} {g g' : α → Nat → α} (x : List Int) (i : Nat) (out : α) : ∀ k, (∀ y j, i ≤ j → j < i + k → g y j = g' y j) → acc g x i out k = acc g' x i out k
  | 0, _ => rfl
  | k + 1, h => by
    show iter _ (fun y => g y (i + k)) (acc g x i out k) = iter _ (fun y => g' y (i + k)) (acc g' x i out k)
    rw [acc_gc x i out k (fun y j a b => h y j a (by omega)), show (fun y => g y (i + k)) = fun y => g' y (i + k) from funext fun y => h y (i + k) (by omega) (by omega)]

section
variable {P : Pr} (G : Grp P) {i : Nat} (hi : i ≤ P.orders.length)
include G hi

theorem T_subg : Sub P (T P i) := ⟨fun _ h => h.1, T.zeros G.v i, fun _ _ h k => G.T_mul hi h k, fun _ h => G.T_inv hi h⟩
theorem tl_gen : gU P (tlG P i) = T P i := by
  have S := T_subg G hi
  funext x
  refine propext ⟨fun h => genP_le S (fun y hy => ?_) h, fun h => ?_⟩
  · obtain ⟨k, hk, rfl⟩ := mem_gt hy
    rw [tl_len] at hk
    rw [gt_tl (by omega)]
    exact T.unit G.v (by omega) (by omega)
  · intro K SK hK
    have h1 := el_nf G h.1
    have e : P.orders.length = i + (P.orders.length - i) := by omega
    have h2 := npr_skip (m := fun a b : El G => a * b) (h := gE G) (e := (1 : El G)) (x := x) (i := i) (f := P.orders.length - i) (fun l hl => h.2 l hl)
    rw [← e] at h2
    have h3 : (npr (fun a b : El G => a * b) (gE G) x 0 1 P.orders.length).1 = x := h1
    rw [h2] at h3
    rw [← h3]
    refine acc_inv (fun y : El G => K y.1) _ _ _ _ _ SK.one (fun y j hy a b _ => ?_)
    refine SK.mul _ _ hy ?_
    have := hK (gt (tlG P i) (j - i)) (gtMem (by rw [tl_len]; omega))
    rw [gt_tl (by omega), show i + (j - i) = j by omega] at this
    exact this
theorem tl_sub : SubB P (tlG P i) := by
  have S := T_subg G hi
  refine ⟨fun x hx => ?_, ?_⟩
  · obtain ⟨k, hk, rfl⟩ := mem_gt hx
    rw [tl_len] at hk
    rw [gt_tl (by omega)]; exact unitV_vec G.v _
  · show _ = cseq P (gU P (tlG P i))
    rw [tl_gen G hi]
    have A : Red P (T P i) (fun d => if i ≤ d ∧ d < P.orders.length then unitV P.orders.length d else []) := by
      have hne : ∀ d, (if i ≤ d ∧ d < P.orders.length then unitV P.orders.length d else []) ≠ [] → i ≤ d ∧ d < P.orders.length := fun d h => by
        apply Classical.byContradiction
        intro hc; rw [if_neg hc] at h; exact h rfl
      refine ⟨⟨S, fun d hd hb => ?_, fun x hx d hd hT h0 => ?_⟩, fun d e hde he hbd hbe => ?_⟩
      · have h := hne d hb
        simp only [if_pos h]
        exact ⟨T.unit G.v h.1 hd, T.unit G.v (Nat.le_refl _) hd, by rw [gt_unit _ _ _ hd, if_pos rfl]⟩
      · have hid : i ≤ d := by
          rcases Nat.lt_or_ge d i with h | h
          · exact absurd (hx.2 d h) h0
          · exact h
        simp only [if_pos (And.intro hid hd)]
        intro hc
        have h0 : P.orders.length = 0 := by
          have h := congrArg List.length hc
          rw [show (unitV P.orders.length d).length = P.orders.length by unfold unitV; simp] at h; exact h
        omega
      · have h := hne d hbd
        simp only [if_pos h]
        rw [gt_unit _ _ _ he, if_neg (by omega)]
    rw [G.cseq_red A]
    unfold seqOf tlG gensOf
    have e : List.range P.orders.length = List.range i ++ (List.range (P.orders.length - i)).map (fun k => i + k) := by
      rw [← List.range_add]; congr 1; omega
    have hlen : ∀ d, d < P.orders.length → unitV P.orders.length d ≠ [] := fun d hd hc => by
      have h0 : P.orders.length = 0 := by
        have h := congrArg List.length hc
        rw [show (unitV P.orders.length d).length = P.orders.length by unfold unitV; simp] at h; exact h
      omega
    rw [e, List.filterMap_append, List.map_append, List.drop_left' (by rw [List.length_map, List.length_range])]
    have e1 : (List.range i).filterMap (fun d => if (if i ≤ d ∧ d < P.orders.length then unitV P.orders.length d else []) = [] then none else some (if i ≤ d ∧ d < P.orders.length then unitV P.orders.length d else [])) = [] := by
      rw [List.filterMap_eq_nil_iff]
      intro a ha
      have := List.mem_range.1 ha
      rw [if_neg (show ¬ (i ≤ a ∧ a < P.orders.length) by omega), if_pos rfl]
    rw [e1, List.nil_append]
    rw [List.map_map, List.filterMap_map, ← List.filterMap_eq_map]
    refine (fm_congr (fun k hk => ?_)).symm
    have := List.mem_range.1 hk
    show (if (if i ≤ i + k ∧ i + k < P.orders.length then unitV P.orders.length (i + k) else []) = [] then none else some (if i ≤ i + k ∧ i + k < P.orders.length then unitV P.orders.length (i + k) else [])) = some (unitV P.orders.length (i + k))
    rw [if_pos (show i ≤ i + k ∧ i + k < P.orders.length by omega), if_neg (hlen _ (by omega))]
theorem mx_tl {X : List Int} (hX : T P i X) : mxV P (tlG P i) X = X.drop i := by
  have hU := tl_sub G hi
  have hm : gU P (tlG P i) X := by rw [tl_gen G hi]; exact hX
  obtain ⟨h1, h2, h3⟩ := mx_spec G hU hm
  have hdl : (X.drop i).length = (tlG P i).length := by rw [List.length_drop, tl_len, hX.1.1]
  refine ex_one G hU h1 hdl h2 (fun j hj => ?_) ?_
  · rw [tl_len] at hj
    rw [gt_dp, gt_tl (by omega), dep_unit (by omega)]
    exact hX.1.2 _ (by omega)
  · rw [h3, exP_sx G hU _ _ (Nat.le_refl _), tl_len]
    have e : P.orders.length = i + (P.orders.length - i) := by omega
    have k1 := npr_skip (m := fun a b : El G => a * b) (h := gE G) (e := (1 : El G)) (x := X) (i := i) (f := P.orders.length - i) (fun l hl => hX.2 l hl)
    rw [← e] at k1
    have k2 : (npr (fun a b : El G => a * b) (gE G) X 0 1 P.orders.length).1 = X := el_nf G hX.1
    rw [k1] at k2
    have k3 : sx G hU (X.drop i) 0 (P.orders.length - i) = npr (fun a b : El G => a * b) (gE G) X i 1 (P.orders.length - i) := by
      unfold sx npr
      rw [acc_shift (fun (y : El G) j => y * gE G j) X i 1]
      refine acc_gc _ _ _ _ (fun y j _ hj => ?_)
      rw [Nat.zero_add] at hj
      show y * uE G hU j = y * gE G (i + j)
      congr 1
      apply Subtype.ext
      rw [uE_val G hU (by rw [tl_len]; exact hj), gt_tl (by omega)]; rfl
    rw [k3]; exact k2.symm
omit G in
theorem tl_dep {k : Nat} (hk : k < P.orders.length - i) : dep (gt (tlG P i) k) = i + k := by rw [gt_tl (by omega), dep_unit (by omega)]
/-- the tail is the presentation of the subgroup -/
theorem tail_sub : subP P (tlG P i) = tailP P i := by
  have hP := G.v
  have hTp : ∀ j, i ≤ j → j < P.orders.length → T P i (gt P.powers j) := fun j a b => ⟨(hP.pv j b).1, fun k hk => (hP.pv j b).2 k (by omega)⟩
  have hTc : ∀ j k, i ≤ j → j + k + 1 < P.orders.length → T P i (gt (gt P.conj j) k) := fun j k a b => ⟨((hP.cv j (by omega)).2 k (by omega)).1, fun l hl => ((hP.cv j (by omega)).2 k (by omega)).2 l (by omega)⟩
  have e1 : (subP P (tlG P i)).orders = (tailP P i).orders := by
    apply ext_gt
    · rw [sub_n, tl_len]; show _ = (P.orders.drop i).length; rw [List.length_drop]
    · intro k hk
      rw [sub_n, tl_len] at hk
      rw [gt_subO (by rw [tl_len]; exact hk), tl_dep hi hk]
      show _ = gt (P.orders.drop i) k
      rw [gt_dp]
  have e2 : (subP P (tlG P i)).powers = (tailP P i).powers := by
    apply ext_gt
    · show ((tlG P i).map _).length = ((P.powers.drop i).map _).length
      rw [List.length_map, tl_len, List.length_map, List.length_drop, hP.pl]
    · intro k hk
      have hk : k < P.orders.length - i := by
        have h : ((tlG P i).map (fun u => mxV P (tlG P i) (pw P u (gt P.orders (dep u)).toNat))).length = P.orders.length - i := by rw [List.length_map, tl_len]
        have h2 : k < ((tlG P i).map (fun u => mxV P (tlG P i) (pw P u (gt P.orders (dep u)).toNat))).length := hk
        omega
      rw [gt_subP (by rw [tl_len]; exact hk), tl_dep hi hk, gt_tl (by omega), pw_unit G (by omega), mx_tl G hi (hTp _ (by omega) (by omega))]
      show _ = gt ((P.powers.drop i).map _) k
      rw [gt_map _ _ _ (by rw [List.length_drop, hP.pl]; exact hk), gt_dp]
  have e3 : (subP P (tlG P i)).conj = (tailP P i).conj := by
    have hl : ((List.range (tlG P i).length).map (fun k => ((tlG P i).drop (k + 1)).map (fun y => mxV P (tlG P i) (rConj P y (gt (tlG P i) k))))).length = P.orders.length - i := by rw [List.length_map, List.length_range, tl_len]
    apply ext_gt
    · show ((List.range (tlG P i).length).map _).length = ((P.conj.drop i).map _).length
      rw [hl, List.length_map, List.length_drop, hP.cl]
    · intro k hk
      have hk : k < P.orders.length - i := by
        have h2 : k < ((List.range (tlG P i).length).map (fun k => ((tlG P i).drop (k + 1)).map (fun y => mxV P (tlG P i) (rConj P y (gt (tlG P i) k))))).length := hk
        omega
      have hcl := (hP.cv (i + k) (by omega)).1
      show gt ((List.range (tlG P i).length).map _) k = gt ((P.conj.drop i).map _) k
      rw [gt_map _ _ _ (by rw [List.length_range, tl_len]; exact hk), gt_range (by rw [tl_len]; exact hk), gt_map _ _ _ (by rw [List.length_drop, hP.cl]; exact hk), gt_dp]
      apply ext_gt
      · rw [List.length_map, List.length_drop, tl_len, List.length_map, hcl]; omega
      · intro l hl
        rw [List.length_map, List.length_drop, tl_len] at hl
        rw [gt_map _ _ _ (by rw [List.length_drop, tl_len]; exact hl), gt_dp, gt_map _ _ _ (by rw [hcl]; omega), gt_tl (by omega), gt_tl (by omega)]
        have e : i + (k + 1 + l) = i + k + l + 1 := by omega
        rw [e, cj_unit G (by omega), mx_tl G hi (hTc _ _ (by omega) (by omega))]
  show Pr.mk (subP P (tlG P i)).orders (subP P (tlG P i)).powers (subP P (tlG P i)).conj = tailP P i
  rw [e1, e2, e3]
/-- the tail is normal exactly if the relations say so -/
theorem tl_norm : NormG P (gU P (tlG P i)) (tlG P i) ↔ TlN P i := by
  rw [tl_gen G hi]
  have S := T_subg G hi
  constructor
  · intro h g hg j hj hjn k hk
    have h1 := h (unitV P.orders.length g) (by rw [← gensOf_at P.orders.length g (by omega)]; exact gtMem (by rw [gensOf_len]; omega)) (gt (tlG P i) (j - i)) (gtMem (by rw [tl_len]; omega))
    rw [gt_tl (by omega), show i + (j - i) = g + (j - g - 1) + 1 by omega, cj_unit G (by omega)] at h1
    exact h1.2 k hk
  · intro h g hg x hx
    obtain ⟨a, ha, rfl⟩ := mem_gt hg
    obtain ⟨b, hb, rfl⟩ := mem_gt hx
    rw [gensOf_len] at ha
    rw [tl_len] at hb
    rw [gensOf_at _ _ ha, gt_tl (by omega)]
    rcases Nat.lt_or_ge a i with h1 | h1
    · have e : i + b = a + (i + b - a - 1) + 1 := by omega
      rw [e, cj_unit G (by omega)]
      exact ⟨((G.v.cv a (by omega)).2 _ (by omega)).1, fun k hk => h a h1 (i + b) (by omega) (by omega) k hk⟩
    · have hu := T.unit G.v (i := i) (j := a) h1 ha
      exact S.mul _ _ (S.inv _ hu) (S.mul _ _ (T.unit G.v (i := i) (j := i + b) (by omega) (by omega)) hu)
theorem tl_nrm (h : TlN P i) : NormP P (gU P (tlG P i)) := by
  have hU := tl_sub G hi
  have h1 := (G.norm_iff (G.subB hU)).1
  have e : cseq P (gU P (tlG P i)) = tlG P i := hU.2.symm
  rw [e] at h1
  exact h1 ((tl_norm G hi).2 h)
omit G in
theorem fr_tl : frI P (tlG P i) = List.range i := by
  have hm : ∀ j, j < P.orders.length → ((tlG P i).map dep).contains j = !decide (j < i) := fun j hj => by
    rw [Bool.eq_iff_iff]
    simp only [List.contains_iff_mem, Bool.not_eq_true', decide_eq_false_iff_not]
    constructor
    · intro h
      obtain ⟨u, hu, e⟩ := List.mem_map.1 h
      obtain ⟨k, hk, rfl⟩ := mem_gt hu
      rw [tl_len] at hk
      rw [tl_dep hi hk] at e
      omega
    · intro h
      refine List.mem_map.2 ⟨gt (tlG P i) (j - i), gtMem (by rw [tl_len]; omega), ?_⟩
      rw [tl_dep hi (by omega)]; omega
  unfold frI
  have e : List.range P.orders.length = List.range i ++ (List.range (P.orders.length - i)).map (fun k => i + k) := by
    rw [← List.range_add]; congr 1; omega
  rw [List.filter_congr (q := fun j => decide (j < i)) (fun j hj => by rw [hm j (List.mem_range.1 hj), Bool.not_not]), e, List.filter_append]
  have e1 : (List.range i).filter (fun j => decide (j < i)) = List.range i := List.filter_eq_self.2 (fun a ha => by simpa using List.mem_range.1 ha)
  have e2 : ((List.range (P.orders.length - i)).map (fun k => i + k)).filter (fun j => decide (j < i)) = [] := by
    rw [List.filter_eq_nil_iff]
    intro a ha
    obtain ⟨k, _, rfl⟩ := List.mem_map.1 ha
    simp
  rw [e1, e2, List.append_nil]
theorem prj_tl (hr : rconsB P = true) {X : List Int} (hX : Vec P.orders X) : prjV P (tlG P i) X = X.take i := by
  have hU := tl_sub G hi
  have h := cr_is (P := P) (U := tlG P i) (X := X) ⟨⟨hr, hU⟩, hX⟩
  have h1 : T P i (rMul P (rInv P X) (crV P (tlG P i) X)) := by rw [← tl_gen G hi]; exact h.2.1
  have h2 := (G.right hi hX h1).1
  have h3 : rMul P X (rMul P (rInv P X) (crV P (tlG P i) X)) = crV P (tlG P i) X := by rw [← G.ass hX (G.invV hX) h.1, G.mul_inv hX, G.grp.el _ h.1]
  rw [h3] at h2
  unfold prjV
  rw [fr_tl hi]
  apply ext_gt
  · rw [List.length_map, List.length_range, List.length_take, hX.1]; omega
  · intro k hk
    rw [List.length_map, List.length_range] at hk
    rw [gt_map _ _ _ (by rw [List.length_range]; exact hk), gt_range hk, gt_tk _ hk]
    exact h2 k hk
/-- the head is the presentation of the quotient by the tail -/
theorem head_quo (hr : rconsB P = true) : quoP P (tlG P i) = headP P i := by
  have hP := G.v
  have hf := fr_tl hi
  have hpw : ∀ j, j < P.orders.length → Vec P.orders (gt P.powers j) := fun j b => (hP.pv j b).1
  have hcj : ∀ j k, j + k + 1 < P.orders.length → Vec P.orders (gt (gt P.conj j) k) := fun j k b => ((hP.cv j (by omega)).2 k (by omega)).1
  have e1 : (quoP P (tlG P i)).orders = (headP P i).orders := by
    show (frI P (tlG P i)).map _ = P.orders.take i
    rw [hf]
    apply ext_gt
    · rw [List.length_map, List.length_range, List.length_take]; omega
    · intro k hk
      rw [List.length_map, List.length_range] at hk
      rw [gt_map _ _ _ (by rw [List.length_range]; exact hk), gt_range hk, gt_tk _ hk]
  have e2 : (quoP P (tlG P i)).powers = (headP P i).powers := by
    show (frI P (tlG P i)).map _ = (P.powers.take i).map _
    rw [hf]
    apply ext_gt
    · rw [List.length_map, List.length_range, List.length_map, List.length_take, hP.pl]; omega
    · intro k hk
      rw [List.length_map, List.length_range] at hk
      rw [gt_map _ _ _ (by rw [List.length_range]; exact hk), gt_range hk, gt_map _ _ _ (by rw [List.length_take, hP.pl]; omega), gt_tk _ hk, pw_unit G (by omega), prj_tl G hi hr (hpw _ (by omega))]
  have e3 : (quoP P (tlG P i)).conj = (headP P i).conj := by
    show (List.range (frI P (tlG P i)).length).map _ = (List.range i).map _
    rw [hf, List.length_range]
    refine List.map_congr_left (fun k hk => ?_)
    have hk := List.mem_range.1 hk
    have hcl := (hP.cv k (by omega)).1
    rw [gt_range hk]
    apply ext_gt
    · rw [List.length_map, List.length_drop, List.length_range, List.length_map, List.length_take, hcl]; omega
    · intro l hl
      rw [List.length_map, List.length_drop, List.length_range] at hl
      rw [gt_map _ _ _ (by rw [List.length_drop, List.length_range]; exact hl), gt_dp, gt_range (by omega), gt_map _ _ _ (by rw [List.length_take, hcl]; omega), gt_tk _ (by omega), show k + 1 + l = k + l + 1 by omega, cj_unit G (by omega), prj_tl G hi hr (hcj _ _ (by omega))]
  show Pr.mk (quoP P (tlG P i)).orders (quoP P (tlG P i)).powers (quoP P (tlG P i)).conj = headP P i
  rw [e1, e2, e3]
theorem tail_cons : rconsB (tailP P i) = true := by rw [← tail_sub G hi]; exact sub_cons G (tl_sub G hi)
theorem head_cons (hr : rconsB P = true) (h : TlN P i) : rconsB (headP P i) = true := by rw [← head_quo G hi hr]; exact quo_cons G hr (tl_sub G hi) (tl_nrm G hi h)
omit G in
theorem head_tail : ordP (headP P i) * ordP (tailP P i) = ordP P := by
  unfold ordP
  have h := prodTo_cut P.orders (i := i) (P.orders.length - i) (by omega)
  rw [show i + (P.orders.length - i) = P.orders.length by omega] at h
  rw [h]
  show prodTo (P.orders.take i) (P.orders.take i).length * prodTo (P.orders.drop i) (P.orders.drop i).length = _
  rw [List.length_take, List.length_drop, Nat.min_eq_left hi]
end

end Go.Proofs.YtldheeicjnncoaaGreat
namespace Go.Proofs.YtldheeicjnncoaaGreat
open Go.RowKit

/-- a cell of a byte -/
def ByteEl (_ : World) (u : Value) (x : Int) : Prop := u = .int .u8 x ∧ 0 ≤ x ∧ x ≤ 255
abbrev Bytes (S : Nat → Prop) (w : World) (v : Value) (l : List Int) : Prop := Sl ByteEl S w v l
theorem Bytes.at {S : Nat → Prop} {w : World} {a : Option Addr} {n cap : Nat} {xs : List Int} (h : Sl ByteEl S w (.slice a n cap) xs) (i : Nat) (hi : i < xs.length) :
    ∃ b off, a = some ⟨b, off, none⟩ ∧ S b ∧ b < w.heap.size ∧ w.cell? ⟨b, off + i, none⟩ = some (.int .u8 (gt xs i)) ∧ 0 ≤ gt xs i ∧ gt xs i ≤ 255 := by
  obtain ⟨b, off, u, h1, h2, h3, h4, h5⟩ := h.at i hi
  obtain ⟨h5, h6⟩ : u = .int .u8 (gt xs i) ∧ 0 ≤ gt xs i ∧ gt xs i ≤ 255 := h5
  exact ⟨b, off, h1, h2, h3, by rw [h4, h5], h6⟩

theorem Bytes.mono {S S' : Nat → Prop} {w w' : World} {v : Value} {xs : List Int} (h : Bytes S w v xs) (hb : ∀ k, S k → k < w.heap.size → S' k ∧ k < w'.heap.size ∧ w'.heap[k]? = w.heap[k]?) : Bytes S' w' v xs := Sl.mono h hb (fun _ _ h => h)
theorem Bytes.ext {S : Nat → Prop} {w w' : World} {v : Value} {xs : List Int} (h : Bytes S w v xs) (hg : Ext w w') : Bytes S w' v xs := h.mono (frame_ext hg)
theorem grown_set (w : World) (b j : Nat) (v : Value) : w.grownBy (w.setCell ⟨b, j, none⟩ v) (some b) := ⟨rfl, rfl, rfl, by simp [World.setCell], fun k _ hk => Below.heap_setCell _ _ _ _ (by intro e; exact hk (by rw [e]))⟩

/-- a source of numbers in the block sb; its bytes lie below B0 too -/
def Src (B0 : Nat) (w : World) (sb : Nat) : Prop := ∃ (cv : Value) (pos seed : Nat) (bs : List Int), Box3 w sb cv (.int .i64 pos) (.int .i64 seed) ∧ Bytes (fun k => k ≠ sb ∧ k < B0) w cv bs ∧ pos ≤ bs.length ∧ seed < 2147483647 ∧ sb < B0
theorem Src.keep {B0 : Nat} {w w' : World} {sb : Nat} (h : Src B0 w sb) (hs : w.heap.size ≤ w'.heap.size) (hb : ∀ k, k < B0 → k < w.heap.size → w'.heap[k]? = w.heap[k]?) : Src B0 w' sb := by
  obtain ⟨cv, pos, seed, bs, h1, h2, h3, h4, h5⟩ := h
  exact ⟨cv, pos, seed, bs, h1.keep hs (hb sb h5 h1.1), Sl.mono h2 (fun k hk hlt => ⟨hk, Nat.lt_of_lt_of_le hlt hs, hb k hk.2 hlt⟩) (fun _ _ h => h), h3, h4, h5⟩
theorem Src.ext {B0 : Nat} {w w' : World} {sb : Nat} (h : Src B0 w sb) (hg : Ext w w') : Src B0 w' sb := h.keep hg.size (fun k _ hlt => hg.block k hlt (by simp))
theorem Src.own {B0 : Nat} {w w' : World} {sb : Nat} {r : Option Nat} (h : Src B0 w sb) (hg : w.grownBy w' r) (hr : ∀ k, r = some k → B0 ≤ k) : Src B0 w' sb :=
  h.keep hg.size (fun k hk hlt => hg.block k hlt (fun e => by have := hr k e.symm; omega))
theorem Src.lt {B0 : Nat} {w : World} {sb : Nat} (h : Src B0 w sb) : sb < B0 ∧ sb < w.heap.size := by
  obtain ⟨cv, pos, seed, bs, h1, h2, h3, h4, h5⟩ := h; exact ⟨h5, h1.1⟩

/-- l01Next: a number below n, 0 for n < 2 -/
def NextR (B0 sb : Nat) (n : Int) (w' : World) (v : Value) : Prop := ∃ x : Int, v = .int .i64 x ∧ (n ≤ 1 → x = 0) ∧ (1 < n → 0 ≤ x ∧ x < n) ∧ Src B0 w' sb

set_option maxRecDepth 100000 in
set_option maxHeartbeats 2000000 in
theorem l01Next_ok (B0 : Nat) (w : World) (sb : Nat) (n : Int) (h : Src B0 w sb) :
    Calls Tryz.prog 111 #[.pointer (some ⟨sb, 0, none⟩), .int .i64 n] w (Mut w (some sb) (NextR B0 sb n)) := by
  have hS := h
  obtain ⟨cv, pos, seed, bs, hB, hby, hpos, hseed, hlt⟩ := h
  by_cases hn : n ≤ 1
  · go_enter Tryz.func111, Tryz.ntmps111
    go_wp2
    go_ret
    exact ⟨_, rfl, grown_refl _ _, 0, rfl, fun _ => rfl, fun h => by omega, hS⟩
  · have hn' : 1 < n := by omega
    obtain ⟨a, cap, rfl, _, hlen⟩ := hby.shape
    obtain ⟨s2, hs2⟩ : ∃ s2 : Nat, s2 = (seed * 48271 + 71) % 2147483647 := ⟨_, rfl⟩
    have hs2b : s2 < 2147483647 := by omega
    have hs2i : ((seed : Int) * 48271 + 71) % 2147483647 = (s2 : Int) := by omega
    have hB1 := (hB.put (.int .i64 (s2 : Nat))).2.2
    obtain ⟨h0, h1, h2, h3, h4⟩ := id hB
    go_enter Tryz.func111, Tryz.ntmps111
    have hg1 : w.grownBy (w.setCell ⟨sb, 2, none⟩ (.int .i64 (s2 : Nat))) (some sb) := grown_set _ _ _ _
    have hby1 : Bytes (fun k => k ≠ sb ∧ k < B0) (w.setCell ⟨sb, 2, none⟩ (.int .i64 (s2 : Nat))) (.slice a bs.length cap) bs := Bytes.mono hby (frame_of hg1 (fun k hk _ => ⟨hk, fun e => hk.1 (by cases e; rfl)⟩))
    have HB1 := Lib.hid (And.intro hB1 (And.intro hg1 hby1)); clear hB1 hB hs2 hby hS hg1 hby1
    go_wp2
    clear h0 h1 h2 h3 h4 hs2i
    obtain ⟨hB1, hg1, hby1⟩ := HB1.out
    clear HB1
    generalize w.setCell ⟨sb, 2, none⟩ (.int .i64 (s2 : Nat)) = w1 at *
    obtain ⟨h0, h1, h2, h3, h4⟩ := id hB1
    have HG := Lib.hid (And.intro hB1 (And.intro hg1 hby1)); clear hB1 hg1 hby1
    by_cases hp : pos < bs.length
    · obtain ⟨b, off, rfl, ⟨hbs, hbB⟩, hbl, hcb, hx0, hx1⟩ := Bytes.at HG.out.2.2 pos hp
      obtain ⟨x, hx⟩ : ∃ x, x = gt bs pos := ⟨_, rfl⟩
      rw [← hx] at hcb hx0 hx1
      have HX := Lib.hid hx; clear hx
      have hpi : (pos : Int) < bs.length := by omega
      have hp0 : (0 : Int) ≤ pos := by omega
      have hq0 : 0 ≤ (s2 : Int) / 47 ∧ (s2 : Int) / 47 ≤ 45691142 := by omega
      have hqw : IntKind.i64.wrap ((s2 : Int) / 47 + x) = (s2 : Int) / 47 + x := IntWalk.i64_in _ (by omega)
      go_quiet (fail)
      go_wp2
      have hq : Ext w1 (w1.drewN nq) := grown_drewN _ _ _
      have hcb' := hq.cell hcb (by simp)
      have h0' : sb < (w1.drewN nq).heap.size := Nat.lt_of_lt_of_le h0 hq.size
      have hG2 := And.intro (HG.out.1.ext hq) (And.intro (grown_trans HG.out.2.1 (grown_of_ext (some sb) hq)) (Bytes.ext HG.out.2.2 hq))
      have HG := Lib.hid hG2; clear hG2 hq hcb h0 h1 h2 h3 h4
      obtain ⟨h1, h2, h3, h4⟩ := HG.out.1.2
      generalize w1.drewN nq = w2 at *
      go_quiet (fail)
      have hq : Ext w2 (w2.drewN nq) := grown_drewN _ _ _
      have hcb := hq.cell hcb' (by simp)
      have h0 : sb < (w2.drewN nq).heap.size := Nat.lt_of_lt_of_le h0' hq.size
      have hG2 := And.intro (HG.out.1.ext hq) (And.intro (grown_trans HG.out.2.1 (grown_of_ext (some sb) hq)) (Bytes.ext HG.out.2.2 hq))
      have HG := Lib.hid hG2; clear hG2 hq hcb' h0' h1 h2 h3 h4
      obtain ⟨h1, h2, h3, h4⟩ := HG.out.1.2
      generalize w2.drewN nq = w3 at *
      have hB4 := (HG.out.1.put (.int .i64 ((pos : Int) + 1))).2.1
      have hg4 : w3.grownBy (w3.setCell ⟨sb, 1, none⟩ (.int .i64 ((pos : Int) + 1))) (some sb) := grown_set _ _ _ _
      have hby4 : Bytes (fun k => k ≠ sb ∧ k < B0) (w3.setCell ⟨sb, 1, none⟩ (.int .i64 ((pos : Int) + 1))) (.slice (some ⟨b, off, none⟩) bs.length cap) bs := Bytes.mono HG.out.2.2 (frame_of hg4 (fun k hk _ => ⟨hk, fun e => hk.1 (by cases e; rfl)⟩))
      have hcb4 : (w3.setCell ⟨sb, 1, none⟩ (.int .i64 ((pos : Int) + 1))).cell? ⟨b, off + pos, none⟩ = some (.int .u8 x) := (World.cell?_setCell_other _ _ _ _ (by first | exact fun e => hbs (congrArg Addr.block e) | exact fun e => hbs (congrArg Addr.block e).symm)).trans hcb
      have HB4 := Lib.hid (And.intro hB4 (And.intro (grown_trans HG.out.2.1 hg4) (And.intro hby4 hcb4))); clear hB4 hg4 hby4 hcb4 HG hqw
      have hpw : IntKind.i64.wrap ((pos : Int) + 1) = (pos : Int) + 1 := IntWalk.i64_in _ (by omega)
      by_cases hc : n ≤ 256 ∧ ((pos : Int) + 1) % 2 = 0
      · obtain ⟨hn6, hpar⟩ := hc
        go_wp2
        clear h0 h1 h2 h3 h4 hpw hcb
        obtain ⟨hB4, hg4, hby4, hcb4⟩ := HB4.out
        have hpw2 : IntKind.i64.wrap ((pos : Int) + 1 - 1) = (pos : Int) := by rw [show (pos : Int) + 1 - 1 = (pos : Int) by omega]; exact IntWalk.i64_in _ (by omega)
        clear HB4
        generalize w3.setCell ⟨sb, 1, none⟩ (.int .i64 ((pos : Int) + 1)) = w4 at *
        obtain ⟨h0, h1, h2, h3, h4⟩ := id hB4
        have HG := Lib.hid (And.intro hB4 (And.intro hg4 hby4)); clear hB4 hg4 hby4
        go_quiet (fail)
        have hq : Ext w4 (w4.drewN nq) := grown_drewN _ _ _
        have hm : 0 ≤ x % n ∧ x % n < n := ⟨Int.emod_nonneg _ (by omega), Int.emod_lt_of_pos _ (by omega)⟩
        go_wp2
        go_ret
        exact ⟨_, rfl, grown_trans HG.out.2.1 (grown_of_ext _ hq), _, rfl, fun h => by omega, fun _ => hm, _, pos + 1, s2, bs, HG.out.1.ext hq, HG.out.2.2.ext hq, by omega, hs2b, hlt⟩
      · have hm : 0 ≤ ((s2 : Int) / 47 + x) % n ∧ ((s2 : Int) / 47 + x) % n < n := ⟨Int.emod_nonneg _ (by omega), Int.emod_lt_of_pos _ (by omega)⟩
        by_cases hn6 : n ≤ 256
        · have hpar : (((pos : Int) + 1) % 2 == 0) = false := by simp; exact fun h => hc ⟨hn6, h⟩
          clear hc
          go_wp2
          go_ret
          exact ⟨_, rfl, HB4.out.2.1, _, rfl, fun h => by omega, fun _ => hm, _, pos + 1, s2, bs, HB4.out.1, HB4.out.2.2.1, by omega, hs2b, hlt⟩
        · clear hc
          go_wp2
          go_ret
          exact ⟨_, rfl, HB4.out.2.1, _, rfl, fun h => by omega, fun _ => hm, _, pos + 1, s2, bs, HB4.out.1, HB4.out.2.2.1, by omega, hs2b, hlt⟩
    · go_quiet (fail)
      go_wp2
      have hq : Ext w1 (w1.drewN nq) := grown_drewN _ _ _
      have hm : 0 ≤ (s2 : Int) / 47 % n ∧ (s2 : Int) / 47 % n < n := ⟨Int.emod_nonneg _ (by omega), Int.emod_lt_of_pos _ (by omega)⟩
      go_ret
      exact ⟨_, rfl, grown_trans HG.out.2.1 (grown_of_ext _ hq), _, rfl, fun h => by omega, fun _ => hm, _, pos, s2, bs, HG.out.1.ext hq, HG.out.2.2.ext hq, hpos, hs2b, hlt⟩

end Go.Proofs.YtldheeicjnncoaaGreat
namespace Go.Proofs.YtldheeicjnncoaaGreat
open Go.RowKit

theorem und_int : Tryz.prog.underlying 3 = some (.int .i64) := by kernel_rfl
theorem zeroCells_toList (m : Nat) : (Builtin.zeroCells #[Value.int .i64 0] m).toList = (List.replicate m (0 : Int)).map (Value.int .i64) := by
  apply List.ext_getElem
  · simp [Builtin.zeroCells]
  · intro i h1 h2
    simp [Builtin.zeroCells, Nat.mod_one]

set_option maxHeartbeats 1000000 in
theorem run_app_zeros (w : World) (base : Nat) (v : Value) (l : List Int) (hown : Own base w v l) (ty : TypeId) (m : Nat) (hlen : l.length + m ≤ 2147483648) (hbase : base ≤ w.heap.size) :
    ∃ v' w', (Builtin.append_ #[24, 3] ty #[v, .int .i64 m]).run Tryz.prog w = .ok v' w' ∧ Own base w' v' (l ++ List.replicate m 0) ∧ w.grownBy w' v.ownBlock := by
  obtain ⟨i0, hi, hz0, hz1, hz2⟩ := info_parts Tryz.infoInt
  have ht := und_ints
  have htn := und_int
  have hw : IntKind.i64.wrap (m : Int) = m := IntWalk.i64_in _ (by omega)
  have hw0 : IntKind.i64.wrap 0 = 0 := IntWalk.i64_in _ (by omega)
  have hneg : ¬ ((m : Int) < 0) := by omega
  have h48i : ¬ (281474976710656 < (m : Int) * (i0.bytes : Int)) := by rw [hz2]; omega
  have hzc : (Value.int IntKind.i64 0).cells = #[Value.int IntKind.i64 0] := rfl
  have hzl := zeroCells_toList m
  have hzs : (Builtin.zeroCells #[Value.int .i64 0] m).toList.length = m := by rw [hzl]; simp
  have hown' := hown
  obtain ⟨hl1, hown⟩ := hown
  rcases hown with ⟨rfl, hn⟩ | ⟨g, cap, cur, rfl, hbg, hg, hnc, hcm, hcs, htake⟩
  · have hl0 : l = [] := List.eq_nil_of_length_eq_zero hn
    subst hl0
    by_cases hm : m = 0
    · subst hm
      refine ⟨.slice none 0 0, w, ?_, World.ownsRow_nil _ _ _ _, grown_refl _ _⟩
      simp [Builtin.append_, run_underlying ht, run_underlying htn, sizeOf, typeInfo, hi, asInt, asIntOf, hw0]
    · have hr := Lib.run_append_nil_zeros (P := Tryz.prog) w 24 3 ty 2 i0 (.int .i64 0) .i64 .i64 ht htn hi hz0 m (by omega) (by omega) (by omega) (by rw [hz2]; omega)
      refine ⟨_, _, hr, ?_, ⟨rfl, rfl, rfl, by simp, fun k hk _ => heap_alloc_old w.drew _ hk⟩⟩
      have hge := grownCap_ge w m 0 2
      have hcm : grownCap w m 0 2 ≤ maxLen := grownCap_le_maxLen w m 0 2 (by unfold maxLen; omega)
      have hL : (([] : List Int) ++ List.replicate m 0).length = m := by simp
      refine ⟨by simp, .inr ⟨w.heap.size, _, _, by rw [hL], hbase, heap_alloc_new w.drew _, by rw [hL]; exact hge, hcm, ?_, ?_⟩⟩
      · rw [Array.size_append, hzc, ← Array.length_toList, hzs, ← Array.length_toList, zeroCells_toList]
        simp; omega
      · rw [Array.toList_append, hzc, hzl, List.nil_append]
        simp
  · by_cases hroom : l.length + m ≤ cap
    · by_cases hm : m = 0
      · subst hm
        refine ⟨_, w, ?_, by simpa using hown', grown_refl _ _⟩
        simp [Builtin.append_, run_underlying ht, run_underlying htn, sizeOf, typeInfo, hi, asInt, asIntOf, hw0, hnc, storeCells]
      · have hst := run_storeCells_at (P := Tryz.prog) g (l.length * 1) 2 (Builtin.zeroCells #[Value.int .i64 0] m).toList 0 cur w hg (by rw [hzs]; omega) (by rw [hzl]; intro u hu; obtain ⟨x, _, rfl⟩ := List.mem_map.1 hu; rfl)
        simp only [Nat.add_zero, Nat.mul_one] at hst
        rw [Nat.mul_one] at htake
        refine ⟨.slice (some ⟨g, 0, none⟩) (l.length + m) cap, w.setRow g (cur.toList.take l.length ++ (Builtin.zeroCells #[Value.int .i64 0] m).toList ++ cur.toList.drop (l.length + (Builtin.zeroCells #[Value.int .i64 0] m).toList.length)).toArray, ?_, ⟨by simp, .inr ⟨g, cap, _, by simp, hbg, setRow_heap w g cur _ _ _ hg, by simp; exact hroom, hcm, ?_, ?_⟩⟩, ⟨rfl, rfl, rfl, by simp, fun k _ hk => setRow_other w g k _ (fun e => hk (by simp [Value.ownBlock, e]))⟩⟩
        · generalize cur.toList.take l.length ++ (Builtin.zeroCells #[Value.int .i64 0] m).toList ++ cur.toList.drop (l.length + (Builtin.zeroCells #[Value.int .i64 0] m).toList.length) = Z at *
          simp [Builtin.append_, run_underlying ht, run_underlying htn, sizeOf, typeInfo, zeroValue, hi, hz0, hz1, asInt, asIntOf, hw, hneg, h48i, hroom, hm, hzc, Addr.add_lit, hst]
        · have hcl : cur.toList.length = cap := by rw [Array.length_toList]; omega
          simp only [List.size_toArray, List.length_append, List.length_take, List.length_drop, hzs, hcl]
          omega
        · rw [htake, hzl]
          simp only [List.length_append, List.length_replicate, Nat.mul_one, List.map_append]
          exact List.take_left' (by simp)
    · have hm : m ≠ 0 := by omega
      have holds := hown'.cells (g := g) rfl
      have hf := run_firstCells_some (P := Tryz.prog) w.drew 1 l.length ⟨g, 0, none⟩ l.length cap (l.map (Value.int .i64)) hl1 (by simpa using holds)
      have h63' : ¬ (9223372036854775807 < ((l.length : Int) + (m : Int))) := by omega
      have h48' : ¬ (281474976710656 < Builtin.nextslicecap (l.length + m) cap * i0.bytes) := by
        rw [hz2]
        have := nextslicecap_le (show cap < l.length + m by omega)
        omega
      refine ⟨.slice (some ⟨w.heap.size, 0, none⟩) (l.length + m) (grownCap w (l.length + m) cap 2), w.drew.alloc (.cells ((l.map (Value.int .i64)).toArray ++ Builtin.zeroCells #[Value.int .i64 0] m ++ Builtin.zeroCells #[Value.int .i64 0] (grownCap w (l.length + m) cap 2 - (l.length + m))) 2), ?_, ?_, ⟨rfl, rfl, rfl, by simp, fun k hk _ => heap_alloc_old w.drew _ hk⟩⟩
      · simp [Builtin.append_, run_underlying ht, run_underlying htn, sizeOf, typeInfo, zeroValue, hi, hz0, hz1, asInt, asIntOf, hw, hneg, h48i, hroom, hm, hzc, h63', h48', Question.forced, hf, newRow, grownCap]
        done
      · have hge := grownCap_ge w (l.length + m) cap 2
        have hcm2 : grownCap w (l.length + m) cap 2 ≤ maxLen := grownCap_le_maxLen w (l.length + m) cap 2 (by unfold maxLen; omega)
        refine ⟨by simp, .inr ⟨w.heap.size, _, _, by simp, hbase, heap_alloc_new w.drew _, by simp; exact hge, hcm2, ?_, ?_⟩⟩
        · simp only [Array.size_append]
          rw [← Array.length_toList (xs := Builtin.zeroCells #[Value.int .i64 0] m), hzs, ← Array.length_toList (xs := Builtin.zeroCells #[Value.int .i64 0] _), zeroCells_toList]
          simp; omega
        · rw [Array.toList_append, Array.toList_append, hzl]
          simp only [List.length_append, List.length_replicate, Nat.mul_one, List.map_append]
          exact List.take_left' (by simp)

/-- append(out, make([]int64, m)...) -/
theorem wp_app_zeros {ops : Array Oper} {rest : List Oper} {o : Oper} {a : Act} {Q : Exit → Act → World → Prop} {w : World} (hgd : o.guard = none) (s x : Operand)
    (ho : o.op = Op.call { callee := Callee.builtin Builtin.append, args := #[s, x], argTypes := #[24, 3] }) (base : Nat) (v : Value) (l : List Int) (hs : a.eval s = v) (hown : Own base w v l) (m : Nat) (hx : a.eval x = .int .i64 m)
    (hlen : l.length + m ≤ 2147483648) (hbase : base ≤ w.heap.size)
    (h : ∀ v' w', Own base w' v' (l ++ List.replicate m 0) → w.grownBy w' v.ownBlock → wpList Tryz.prog ops Q rest (a.put o.dst v') w') :
    wpList Tryz.prog ops Q (o :: rest) a w := by
  obtain ⟨v', w', hr, h1, h2⟩ := run_app_zeros w base v l hown o.type m hlen hbase
  exact Lib.wpList_append_run w hgd s x _ _ ho _ _ hs hx v' w' hr (h v' w' h1 h2)

end Go.Proofs.YtldheeicjnncoaaGreat
namespace Go.Proofs.YtldheeicjnncoaaGreat
open Go.RowKit

set_option maxHeartbeats 1000000 in
theorem l01Pick_ok (B0 : Nat) (w : World) (sb : Nat) (lv : Value) (L : List Int) (S : Nat → Prop) (h : Src B0 w sb) (hL : Ints S w lv L) (hS : ∀ k, S k → k ≠ sb) (hne : 0 < L.length) (hb : L.length ≤ 1000) :
    Calls Tryz.prog 182 #[.pointer (some ⟨sb, 0, none⟩), lv] w (Mut w (some sb) fun w' v => ∃ i, i < L.length ∧ v = .int .i64 (gt L i) ∧ Src B0 w' sb) := by
  obtain ⟨a, cap, rfl, _, _⟩ := hL.shape
  have hcon := l01Next_ok B0 w sb L.length h
  have HL := Lib.hid (And.intro hL hS); clear hL hS h
  go_enter Tryz.func182, Tryz.ntmps182
  go_wp2_with fail
  refine Calls.mono hcon ?_
  rintro e1 w1 ⟨v1, rfl, hg1, x, rfl, hx0, hx1, hs1⟩
  clear hcon
  obtain ⟨i, hi, hil⟩ : ∃ i : Nat, x = i ∧ i < L.length := ⟨x.toNat, by omega, by omega⟩
  subst hi
  have hil' : (i : Int) < L.length := by omega
  obtain ⟨b, off, rfl, hbS, _, hc⟩ := Ints.at (Ints.mono HL.out.1 (frame_of hg1 (fun k hk _ => ⟨hk, fun e => HL.out.2 k hk (by cases e; rfl)⟩))) i hil
  have HX := Lib.hid (And.intro hx0 (And.intro hx1 hs1)); clear hx0 hx1 hs1
  go_wp2
  go_ret
  exact ⟨_, rfl, hg1, i, hil, rfl, HX.out.2.2⟩

def shiftL (b : Nat) (v : List Int) (a : Nat) : List Int := (List.replicate b 0 ++ v) ++ List.replicate a 0
theorem shiftL_len (b : Nat) (v : List Int) (a : Nat) : (shiftL b v a).length = b + v.length + a := by unfold shiftL; simp; omega

set_option maxHeartbeats 1000000 in
theorem l07Shift_ok (w : World) (b : Nat) (vv : Value) (v : List Int) (a : Nat) (S : Nat → Prop) (hv : Ints S w vv v) (hb : b + v.length + a ≤ 1000) :
    Calls Tryz.prog 330 #[.int .i64 b, vv, .int .i64 a] w (Ret w fun w' r => Own w.heap.size w' r (shiftL b v a)) := by
  obtain ⟨av, capv, rfl, _, _⟩ := hv.shape
  go_enter Tryz.func330, Tryz.ntmps330
  go_wp2_with (first
    | (at_make; refine wp_make_ints rfl _ _ rfl w.heap.size b w.heap.size rfl _ rfl rfl rfl (by omega) (Nat.le_refl _) ?_; intro w1 ho1 hg1 hlt1)
    | (at_builtin; refine wp_app_ints rfl _ _ rfl w.heap.size _ (List.replicate b 0) rfl ho1 _ v rfl S (hv.ext hg1) (by simp; omega) hg1.size ?_; intro v2 w2 ho2 hg2 _; have hl2 : (List.replicate b (0 : Int) ++ v).length ≤ 1000 := by simp; omega)
    | (at_builtin; refine wp_app_zeros rfl _ _ rfl w.heap.size v2 (List.replicate b 0 ++ v) rfl ho2 a rfl (by simp; omega) (by have := hg1.size; have := hg2.size; omega) ?_; intro v3 w3 ho3 hg3))
  have hl3 : (shiftL b v a).length ≤ 9223372036854775807 := by rw [shiftL_len]; omega
  obtain ⟨a3, c3, hv3, _⟩ := (ho3.ints hl3).shape
  subst hv3
  go_wp2
  go_ret
  refine ⟨_, rfl, ?_, ho3⟩
  have h1 : Ext w w2 := grown_own hg1 hg2 (fun j hj hlt => by have := own_blk hj; omega)
  exact grown_own h1 hg3 (fun j hj hlt => by have := (ho2.lt j hj).1; omega)

/-- l07Digits: some vector of the length of the orders -/
theorem l07Digits_ok (w : World) (ov : Value) (o : List Int) (k : Nat) (x : Int) (S : Nat → Prop) (ho : Ints S w ov o) (hl : o.length ≤ 1000) (hp : ∀ i, i < o.length → 1 ≤ gt o i ∧ gt o i ≤ 7) (hx : 0 ≤ x ∧ x ≤ 1000000000) :
    Calls Tryz.prog 318 #[ov, .int .i64 k, .int .i64 x] w (Ret w fun w' r => ∃ l, l.length = o.length ∧ Own w.heap.size w' r l) := by
  obtain ⟨ao, capo, rfl, _, _⟩ := ho.shape
  have HP := Lib.hid (And.intro hp ho); clear hp
  go_enter Tryz.func318, Tryz.ntmps318
  go_wp2_with (at_make; refine wp_make_ints rfl _ _ rfl w.heap.size o.length w.heap.size rfl _ rfl rfl rfl (by omega) (Nat.le_refl _) ?_; intro w1 ho1 hg1 hlt1)
  go_loopw [2, 8] (fun xv iv wr => ∃ (i : Nat) (y : Int) (l : List Int), iv = .int .i64 i ∧ xv = .int .i64 y ∧ 0 ≤ y ∧ y ≤ 1000000000 ∧ l.length = o.length ∧ Ext w wr ∧ Own w.heap.size wr (.slice (some ⟨w.heap.size, 0, none⟩) o.length o.length) l) (fun _ iv _ => o.length - (intOf iv).toNat)
  case atStart => exact ⟨k, x, _, rfl, rfl, hx.1, hx.2, by simp, hg1, ho1⟩
  case round =>
    obtain ⟨i, y, l, rfl, rfl, hy0, hy1, hll, hg, hO⟩ := hrel
    clear ho1 hg1 hlt1
    by_cases hlt : i < o.length
    · have hlt' : (i : Int) < o.length := by omega
      obtain ⟨b, off, rfl, _, hbl, hc0⟩ := Ints.at HP.out.2 i hlt
      have hc := hg.cell hc0 (by simp)
      have hq := HP.out.1 i hlt
      obtain ⟨q, hqe⟩ : ∃ q, q = gt o i := ⟨_, rfl⟩
      rw [← hqe] at hc hq
      have hcw := hO.cell i (by omega)
      have hfr := hO.frozen i
      obtain ⟨hs1, hs2⟩ := hO.store i (y % q)
      have hgn : Ext w (wr.setCell ⟨w.heap.size, i, none⟩ (.int .i64 (y % q))) := grown_own hg hs2 (fun j hj hlt => by cases hj; omega)
      have hd0 : 0 ≤ y / q := Int.ediv_nonneg hy0 (by omega)
      have hd1 : y / q ≤ y := Int.ediv_le_self _ hy0
      have hcq : (wr.setCell ⟨w.heap.size, i, none⟩ (.int .i64 (y % q))).cell? ⟨b, off + i, none⟩ = some (.int .i64 q) := hgn.cell (by rw [hqe]; exact hc0) (by simp)
      have HS := Lib.hid (And.intro hs1 (And.intro hgn hll)); clear hs1 hs2 hgn hll hqe hc0
      go_wp2
      go_roundw
      case rel => exact ⟨i + 1, y / q, l.set i (y % q), by go_num, rfl, hd0, by omega, by rw [List.length_set]; exact HS.out.2.2, HS.out.2.1, HS.out.1⟩
      case measure => simp [intOf]; omega
    · go_wp2
      go_ret
      exact ⟨_, rfl, hg, l, hll, hO⟩

/-- l07Factors: some primes of a small number -/
def FacsR (B : Nat) (w' : World) (v : Value) : Prop := ∃ (a : Option Addr) (c : Nat) (l : List Int) (r : Bool), v = .tuple #[.slice a l.length c, .bool r] ∧ Own B w' (.slice a l.length c) l ∧ l.length ≤ 9 ∧ ∀ x ∈ l, 2 ≤ x ∧ x ≤ 7
set_option maxRecDepth 100000 in
set_option maxHeartbeats 2000000 in
theorem l07Factors_ok (w : World) (n : Nat) (hn : 1 ≤ n ∧ n ≤ 729) :
    Calls Tryz.prog 317 #[.int .i64 n] w (Ret w (FacsR w.heap.size)) := by
  go_enter Tryz.func317, Tryz.ntmps317
  go_wp2
  go_loopw [0, 4, 5] (fun nv fv dv wr => ∃ (m : Nat) (l : List Int) (d : Nat), nv = .int .i64 m ∧ dv = .int .i64 d ∧ 1 ≤ m ∧ 2 ≤ d ∧ d ≤ 8 ∧ m * 2 ^ l.length ≤ 729 ∧ (∀ x ∈ l, 2 ≤ x ∧ x ≤ 7) ∧ Ext w wr ∧ Own w.heap.size wr fv l) (fun _ _ dv _ => 8 - (intOf dv).toNat)
  case atStart => exact ⟨n, [], 2, rfl, rfl, hn.1, by omega, by omega, by simp; omega, by simp, World.grownBy_alloc _ _ _, World.ownsRow_lit w #[] 0 (Nat.le_refl _) (by decide) rfl⟩
  case round =>
    obtain ⟨m, l, d, rfl, rfl, hm1, hd2, hd8, hml, hlx, hg, hO⟩ := hrel
    have HL := Lib.hid (And.intro hml hlx); clear hml hlx
    by_cases hlt : d ≤ 7
    · have hlt' : (d : Int) ≤ 7 := by omega
      go_wp2
      go_loopw [0, 4] (fun nv fv wr => ∃ (m : Nat) (l : List Int), nv = .int .i64 m ∧ 1 ≤ m ∧ Hid (m * 2 ^ l.length ≤ 729 ∧ ∀ x ∈ l, (2 : Int) ≤ x ∧ x ≤ 7) ∧ Ext w wr ∧ Own w.heap.size wr fv l) (fun nv _ _ => (intOf nv).toNat)
      case atStart => exact ⟨m, l, rfl, hm1, HL, hg, hO⟩
      case round =>
        clear hm1 HL hg hO
        obtain ⟨m, l, rfl, hm1, HL, hg, hO⟩ := hrel
        have hd0 : 2 ≤ (d : Int) := by omega
        by_cases hp : primeB d = true
        · have hcon := l01Prime_ok d wr
          rw [hp] at hcon
          clear hp
          by_cases hm : m % d = 0
          · have hmi : (m : Int) % (d : Int) = 0 := by rw [← Int.natCast_emod, hm]; rfl
            have hdv : (m : Int) / (d : Int) = ((m / d : Nat) : Int) := by rw [Int.natCast_ediv]
            have hq1 : 1 ≤ m / d := Nat.div_pos (Nat.le_of_dvd hm1 (Nat.dvd_of_mod_eq_zero hm)) (by omega)
            have hq2 : m / d < m := Nat.div_lt_self hm1 (by omega)
            have hqd : m / d * d = m := Nat.div_mul_cancel (Nat.dvd_of_mod_eq_zero hm)
            have hll : l.length ≤ 1000000 := by
              have h2 := HL.out.1
              have h3 : 1 * 2 ^ l.length ≤ m * 2 ^ l.length := Nat.mul_le_mul_right _ hm1
              have h4 : l.length < 2 ^ l.length := Nat.lt_two_pow_self
              omega
            have hN : m / d * 2 ^ (l ++ [(d : Int)]).length ≤ 729 ∧ ∀ x ∈ l ++ [(d : Int)], (2 : Int) ≤ x ∧ x ≤ 7 := by
              refine ⟨?_, fun x hx => ?_⟩
              · have h2 := HL.out.1
                have h3 : m / d * 2 ≤ m := by
                  have := Nat.mul_le_mul_left (m / d) hd2
                  omega
                have h4 := Nat.mul_le_mul_right (2 ^ l.length) h3
                rw [List.length_append, List.length_singleton, Nat.pow_succ, Nat.mul_comm (2 ^ l.length) 2, ← Nat.mul_assoc]
                omega
              · rcases List.mem_append.1 hx with h | h
                · exact HL.out.2 x h
                · rw [List.mem_singleton.1 h]; omega
            have hm7 : m / d ≤ 729 := by
              have h1 := HL.out.1
              have h2 := Nat.le_mul_of_pos_right m (Nat.two_pow_pos l.length)
              omega
            obtain ⟨q, hq⟩ : ∃ q, q = m / d := ⟨_, rfl⟩
            rw [← hq] at hdv hq1 hq2 hN hm7
            have HN := Lib.hid hN; clear hN HL hqd hm hq
            go_wp2_with fail
            refine Calls.mono hcon ?_
            rintro e1 w1 ⟨rfl, rfl⟩
            clear hcon
            go_wp2_with (first | (at_builtin; refine wp_app_int rfl _ _ rfl w.heap.size u4 l (d : Int) rfl wr hO rfl rfl hll hg.size ?_; intro v5 w5 hO5 hg5) | fail)
            go_roundw
            case rel => exact ⟨q, _, rfl, hq1, HN, grown_own hg hg5 (fun j hj hlt => by have := (hO.lt j hj).1; omega), hO5⟩
            case measure => simp [intOf]; omega
          · have hmi : ((m : Int) % (d : Int) == 0) = false := by
              have : (m : Int) % (d : Int) = ((m % d : Nat) : Int) := by rw [Int.natCast_emod]
              rw [this]; simp; omega
            have hd1 : d + 1 ≤ 8 := by omega
            clear hm hlt hlt'
            go_wp2_with (first | (refine Calls.mono hcon ?_; rintro e1 w1 ⟨rfl, rfl⟩; clear hcon) | fail)
            go_roundw
            case rel => exact ⟨m, l, d + 1, rfl, by go_num, hm1, by omega, hd1, HL.out.1, HL.out.2, hg, hO⟩
            case measure => simp [intOf]; omega
        · have hcon := l01Prime_ok d wr
          rw [show primeB (d : Int) = false by simpa using hp] at hcon
          have hd1 : d + 1 ≤ 8 := by omega
          clear hp hlt hlt'
          go_wp2_with (first | (refine Calls.mono hcon ?_; rintro e1 w1 ⟨rfl, rfl⟩; clear hcon) | fail)
          go_roundw
          case rel => exact ⟨m, l, d + 1, rfl, by go_num, hm1, by omega, hd1, HL.out.1, HL.out.2, hg, hO⟩
          case measure => simp [intOf]; omega
    · have hlt' : ¬ (d : Int) ≤ 7 := by omega
      have hll : l.length ≤ 9 := by
        rcases Nat.lt_or_ge l.length 10 with h | h
        · omega
        · have h1 : 2 ^ 10 ≤ 2 ^ l.length := Nat.pow_le_pow_right (by omega) h
          have h2 := HL.out.1
          have h3 : 1 * 2 ^ l.length ≤ m * 2 ^ l.length := Nat.mul_le_mul_right _ hm1
          omega
      obtain ⟨af, cf, hfv, _⟩ := (hO.ints (by omega)).shape
      subst hfv
      go_wp2
      go_ret2
      exact ⟨_, rfl, hg, af, cf, l, ((m : Int) == 1), rfl, hO, hll, HL.out.2⟩

set_option maxRecDepth 100000 in
set_option maxHeartbeats 2000000 in
/-- l01Power: some residue -/
theorem l01Power_ok (w : World) (b e m : Int) (hb : 0 ≤ b ∧ b < 30000) (he : 0 ≤ e ∧ e ≤ 1000000000) (hm : 1 ≤ m ∧ m ≤ 30000) :
    Calls Tryz.prog 319 #[.int .i64 b, .int .i64 e, .int .i64 m] w (Ret w fun _ v => ∃ x : Int, v = .int .i64 x ∧ 0 ≤ x ∧ x < 30000) := by
  have hm0 : (1 : Int) % m < m := Int.emod_lt_of_pos _ (by omega)
  have hm1 : 0 ≤ (1 : Int) % m := Int.emod_nonneg _ (by omega)
  go_enter Tryz.func319, Tryz.ntmps319
  go_wp2
  go_loopw [0, 1, 7] (fun bv ev ov wr => ∃ (b e o : Int), bv = .int .i64 b ∧ ev = .int .i64 e ∧ ov = .int .i64 o ∧ 0 ≤ b ∧ b < 30000 ∧ 0 ≤ e ∧ e ≤ 1000000000 ∧ 0 ≤ o ∧ o < 30000 ∧ Ext w wr) (fun _ ev _ _ => (intOf ev).toNat)
  case atStart => exact ⟨b, e, _, rfl, rfl, rfl, hb.1, hb.2, he.1, he.2, hm1, by omega, Ext.refl _⟩
  case round =>
    clear hb he
    obtain ⟨b, e, o, rfl, rfl, rfl, hb0, hb1, he0, he1, ho0, ho1, hg⟩ := hrel
    by_cases hlt : 0 < e
    · have h1 : 0 ≤ o * b ∧ o * b ≤ 30000 * 30000 := ⟨Int.mul_nonneg ho0 hb0, Int.mul_le_mul (by omega) (by omega) hb0 (by omega)⟩
      have h2 : 0 ≤ b * b ∧ b * b ≤ 30000 * 30000 := ⟨Int.mul_nonneg hb0 hb0, Int.mul_le_mul (by omega) (by omega) hb0 (by omega)⟩
      have h3 : 0 ≤ o * b % m ∧ o * b % m < m := ⟨Int.emod_nonneg _ (by omega), Int.emod_lt_of_pos _ (by omega)⟩
      have h4 : 0 ≤ b * b % m ∧ b * b % m < m := ⟨Int.emod_nonneg _ (by omega), Int.emod_lt_of_pos _ (by omega)⟩
      have h5 : e / 2 < e := by omega
      by_cases hp : e % 2 = 1
      · have hpb : (e % 2 == 1) = true := by simp [hp]
        clear hp
        go_wp2
        go_roundw
        case rel => exact ⟨_, _, _, rfl, rfl, rfl, h4.1, by omega, by omega, by omega, h3.1, by omega, hg⟩
        case measure => simp [intOf]; omega
      · have hpb : (e % 2 == 1) = false := by simp [hp]
        clear hp
        go_wp2
        go_roundw
        case rel => exact ⟨_, _, _, rfl, rfl, rfl, h4.1, by omega, by omega, by omega, ho0, ho1, hg⟩
        case measure => simp [intOf]; omega
    · go_wp2
      go_ret
      exact ⟨_, rfl, hg, o, rfl, ho0, ho1⟩

end Go.Proofs.YtldheeicjnncoaaGreat
namespace Go.Proofs.YtldheeicjnncoaaGreat
open Go.RowKit

/-- a struct result is stored whole -/
theorem Box3.all {W : World} {b : Nat} {x0 x1 x2 : Value} (h : Box3 W b x0 x1 x2) (x y z : Value) : Box3 (((W.setCell ⟨b, 0, none⟩ x).setCell ⟨b, 1, none⟩ y).setCell ⟨b, 2, none⟩ z) b x y z :=
  ((((h.put x).1.put y).2.1).put z).2.2
theorem grown_set1 (w : World) (b j : Nat) (v : Value) : w.grownBy (w.setCell ⟨b, j, none⟩ v) (some b) := ⟨rfl, rfl, rfl, by simp [World.setCell], fun k _ hk => Below.heap_setCell _ _ _ _ (by intro e; exact hk (by rw [e]))⟩
theorem grown_set3 (w : World) (b : Nat) (x y z : Value) : w.grownBy (((w.setCell ⟨b, 0, none⟩ x).setCell ⟨b, 1, none⟩ y).setCell ⟨b, 2, none⟩ z) (some b) :=
  grown_trans (grown_set1 _ _ _ _) (grown_trans (grown_set1 _ _ _ _) (grown_set1 _ _ _ _))

/-- a slice that may be written, whose elements lie in blocks of their own; all in F -/
def SlI {α : Type} [Inhabited α] (El : (Nat → Prop) → World → Value → α → Prop) (E : Nat) (F : Nat → Prop) (w : World) (v : Value) (xs : List α) : Prop :=
  ∃ (vs : List Value) (G : Nat → Nat → Prop), vs.length = xs.length ∧ xs.length ≤ 9223372036854775807 ∧ OwnV 0 E w v vs ∧ (∀ k, v.ownBlock = some k → F k) ∧
    (∀ i k, i < xs.length → G i k → F k ∧ v.ownBlock ≠ some k ∧ k < w.heap.size) ∧
    (∀ i j k, i < xs.length → j < xs.length → G i k → G j k → i = j) ∧ ∀ i, i < xs.length → El (G i) w (gt vs i) (gt xs i)

section
variable {α : Type} [Inhabited α] {El : (Nat → Prop) → World → Value → α → Prop} {E : Nat}

theorem SlI.of {B : Nat} {F : Nat → Prop} {w : World} {v : Value} {xs : List α} (h : SlO El E B w v xs) (hl : xs.length ≤ 9223372036854775807) (hF : ∀ k, B ≤ k → k < w.heap.size → F k) : SlI El E F w v xs := by
  obtain ⟨vs, G, hvl, hO, hG, hd, hE⟩ := h
  exact ⟨vs, G, hvl, hl, ownsRow_move hO (fun _ _ => ⟨rfl, Nat.zero_le _⟩), fun k hk => hF k (hO.lt k hk).1 (hO.lt k hk).2, fun i k hi hk => ⟨hF k (hG i k hi hk).1 (hG i k hi hk).2.2, (hG i k hi hk).2⟩, hd, hE⟩

theorem SlI.d {F : Nat → Prop} {w : World} {v : Value} {xs : List α} (h : SlI El E F w v xs) : SlD El F w v xs := by
  obtain ⟨vs, G, hvl, hl, hO, hF, hG, hd, hE⟩ := h
  refine ⟨G, fun k => v.ownBlock = some k, fun k hk => hF k hk, fun i k hi hk => ⟨(hG i k hi hk).1, fun h => (hG i k hi hk).2.1 h⟩, hd, ?_⟩
  rcases hO.form with ⟨rfl, rfl⟩ | ⟨g, cap, rfl, hnc, hBg, hgs⟩
  · have : xs.length = 0 := by simpa using hvl.symm
    exact ⟨none, 0, by rw [this], ⟨by omega, by omega, fun _ => rfl⟩, fun i hi => by omega⟩
  · refine ⟨_, cap, by rw [hvl], ⟨by omega, hl, fun h => by cases h⟩, fun i hi => ⟨g, 0, gt vs i, rfl, rfl, hgs, ?_, hE i hi⟩⟩
    rw [Nat.zero_add]; exact hO.cell i (by omega)

theorem rdI (hEl : RdOk El) : RdOk (SlI El E) := by
  refine ⟨fun {F F' w w' u x} h hb => ?_, fun {F w u x} h => ?_⟩
  · obtain ⟨vs, G, hvl, hl, hO, hF, hG, hd, hE⟩ := h
    have hlt := hO.lt
    exact ⟨vs, G, hvl, hl, ownsRow_move hO (fun k hk => ⟨(hb k (hF k hk) (hlt k hk).2).2.2, Nat.zero_le _⟩), fun k hk => (hb k (hF k hk) (hlt k hk).2).1,
      fun i k hi hk => ⟨(hb k (hG i k hi hk).1 (hG i k hi hk).2.2).1, (hG i k hi hk).2.1, (hb k (hG i k hi hk).1 (hG i k hi hk).2.2).2.1⟩, hd,
      fun i hi => hEl.mono (hE i hi) (fun k hk hlt => ⟨hk, (hb k (hG i k hi hk).1 hlt).2⟩)⟩
  · obtain ⟨vs, G, _, _, ⟨_, h | ⟨g, cap, cur, hv, _⟩⟩, _⟩ := h
    · rw [h.1]; rfl
    · rw [hv]; rfl

theorem SlI.map {El' : (Nat → Prop) → World → Value → α → Prop} (h0 : ∀ F w u x, El F w u x → El' F w u x) {F : Nat → Prop} {w : World} {v : Value} {xs : List α} (h : SlI El E F w v xs) : SlI El' E F w v xs := by
  obtain ⟨vs, G, hvl, hl, hO, h1, hG, hd, hE⟩ := h
  exact ⟨vs, G, hvl, hl, hO, h1, hG, hd, fun i hi => h0 _ _ _ _ (hE i hi)⟩

theorem SlI.form {F : Nat → Prop} {w : World} {v : Value} {xs : List α} (h : SlI El E F w v xs) : (v = .slice none 0 0 ∧ xs = []) ∨ ∃ g cap, v = .slice (some ⟨g, 0, none⟩) xs.length cap ∧ F g ∧ g < w.heap.size := by
  obtain ⟨vs, G, hvl, hl, hO, h1, hG, hd, hE⟩ := h
  rcases hO.form with ⟨rfl, rfl⟩ | ⟨g, cap, rfl, hnc, hBg, hgs⟩
  · exact .inl ⟨rfl, List.eq_nil_of_length_eq_zero (by simpa using hvl.symm)⟩
  · exact .inr ⟨g, cap, by rw [hvl], h1 g rfl, hgs⟩

theorem SlI.place {F : Nat → Prop} {g n cap : Nat} {w : World} {xs : List α} (h : SlI El E F w (.slice (some ⟨g, 0, none⟩) n cap) xs) (k : Nat) (hk : k < xs.length) : (∃ z, w.cell? ⟨g, k, none⟩ = some z) ∧ w.frozen? ⟨g, k, none⟩ = false := by
  obtain ⟨vs, G, hvl, hl, hO, h1, hG, hd, hE⟩ := h
  refine ⟨⟨_, hO.cell k (by omega)⟩, ?_⟩
  have hn : n = vs.length := by
    obtain ⟨_, ⟨h, _⟩ | ⟨_, _, _, h, _⟩⟩ := hO <;> cases h; rfl
  subst hn
  exact World.ownsRow.frozenAt hO k

/-- a fresh element is put in its place -/
theorem SlI.store (hEl : RdOk El) {F : Nat → Prop} {g n cap : Nat} {w1 w2 : World} {xs : List α} {u : Value} {y : α} (h : SlI El E F w1 (.slice (some ⟨g, 0, none⟩) n cap) xs)
    (hg : Ext w1 w2) (hu : El (From w1.heap.size) w2 u y) (j : Nat) :
    SlI El E (fun k => F k ∨ w1.heap.size ≤ k) (w2.setCell ⟨g, j, none⟩ u) (.slice (some ⟨g, 0, none⟩) n cap) (xs.set j y) ∧ w2.grownBy (w2.setCell ⟨g, j, none⟩ u) (some g) := by
  obtain ⟨vs, G, hvl, hl, hO, hF, hG, hd, hE⟩ := h
  have hgl := hO.lt g rfl
  have hO2 : OwnV 0 E w2 (.slice (some ⟨g, 0, none⟩) n cap) vs := hO.kept hg (by simp [Value.ownBlock])
  have hn : n = vs.length := by
    obtain ⟨_, ⟨h, _⟩ | ⟨_, _, _, h, _⟩⟩ := hO2 <;> cases h; rfl
  subst hn
  obtain ⟨h1, h2⟩ := World.ownsRow.stored hO2 j u
  have hsz : (w2.setCell ⟨g, j, none⟩ u).heap.size = w2.heap.size := by simp [World.setCell]
  have hblk : ∀ k, k ≠ g → (w2.setCell ⟨g, j, none⟩ u).heap[k]? = w2.heap[k]? := fun k hk => Below.heap_setCell _ _ _ _ (by simpa using hk)
  refine ⟨⟨vs.set j u, fun i k => if i = j then w1.heap.size ≤ k ∧ k < w2.heap.size else G i k ∧ k < w1.heap.size, by simp [hvl], by rw [List.length_set]; exact hl, ?_, fun k hk => .inl (hF k hk), ?_, ?_, ?_⟩, h2⟩
  · unfold OwnV; rw [List.length_set]; exact h1
  · intro i k hi hk
    rw [List.length_set] at hi
    simp only [Value.ownBlock]
    split at hk
    · exact ⟨.inr hk.1, by intro e; cases e; omega, by omega⟩
    · obtain ⟨a1, a2, a3⟩ := hG i k hi hk.1
      exact ⟨.inl a1, a2, by have := hg.size; omega⟩
  · intro i i' k hi hi' hk hk'
    rw [List.length_set] at hi hi'
    split at hk <;> split at hk'
    · omega
    · omega
    · omega
    · exact hd i i' k hi hi' hk.1 hk'.1
  · intro i hi
    rw [List.length_set] at hi
    by_cases e : j = i
    · subst e
      rw [gt_set_eq _ _ _ (by omega), gt_set_eq _ _ _ hi]
      simp only [if_true]
      exact hEl.mono hu (fun k hk hlt => ⟨⟨hk, hlt⟩, by omega, hblk k (by have hk : w1.heap.size ≤ k := hk; omega)⟩)
    · rw [gt_set_ne _ _ _ _ e, gt_set_ne _ _ _ _ e]
      simp only [if_neg (fun h : i = j => e h.symm)]
      refine hEl.mono (hE i hi) (fun k hk hlt => ⟨⟨hk, hlt⟩, by have := hg.size; omega, ?_⟩)
      rw [hblk k (fun e => (hG i k hi hk).2.1 (by rw [e]; rfl))]
      exact hg.block k hlt (by simp)

/-- an element is opened; it may be turned in its own blocks, and in new ones -/
theorem SlI.turn (hEl : RdOk El) {F : Nat → Prop} {g n cap : Nat} {w : World} {xs : List α} (h : SlI El E F w (.slice (some ⟨g, 0, none⟩) n cap) xs) (j : Nat) (hj : j < xs.length) :
    ∃ (u : Value) (Gj : Nat → Prop), w.cell? ⟨g, j, none⟩ = some u ∧ El Gj w u (gt xs j) ∧ (∀ k, Gj k → F k ∧ k ≠ g ∧ k < w.heap.size) ∧
      ∀ w' y, Touch Gj w w' → El (fun k => Gj k ∨ w.heap.size ≤ k) w' u y → SlI El E (fun k => F k ∨ w.heap.size ≤ k) w' (.slice (some ⟨g, 0, none⟩) n cap) (xs.set j y) := by
  obtain ⟨vs, G, hvl, hl, hO, hF, hG, hd, hE⟩ := h
  have hgl := hO.lt g rfl
  refine ⟨gt vs j, G j, hO.cell j (by omega), hE j hj, fun k hk => ⟨(hG j k hj hk).1, fun e => (hG j k hj hk).2.1 (by rw [e]; rfl), (hG j k hj hk).2.2⟩, fun w' y hT hy => ?_⟩
  refine ⟨vs, fun i k => if i = j then (G j k ∨ w.heap.size ≤ k) ∧ k < w'.heap.size else G i k, by rw [List.length_set]; exact hvl, by rw [List.length_set]; exact hl, ownsRow_move hO (fun k hk => ⟨hT.block k (hO.lt k hk).2 (fun e => (hG j k hj e).2.1 hk), Nat.zero_le _⟩), fun k hk => .inl (hF k hk), ?_, ?_, ?_⟩
  · intro i k hi hk
    rw [List.length_set] at hi
    split at hk
    · rcases hk with ⟨hk | hk, hk2⟩
      · exact ⟨.inl (hG j k hj hk).1, (hG j k hj hk).2.1, hk2⟩
      · exact ⟨.inr hk, fun e => by have := (hO.lt k e).2; omega, hk2⟩
    · exact ⟨.inl (hG i k hi hk).1, (hG i k hi hk).2.1, by have := hT.size; have := (hG i k hi hk).2.2; omega⟩
  · intro i i' k hi hi' hk hk'
    rw [List.length_set] at hi hi'
    split at hk <;> split at hk'
    · omega
    · rcases hk.1 with h1 | h1
      · exact (by have := hd j i' k hj hi' h1 hk'; omega)
      · have := (hG i' k hi' hk').2.2; omega
    · rcases hk'.1 with h1 | h1
      · exact (by have := hd i j k hi hj hk h1; omega)
      · have := (hG i k hi hk).2.2; omega
    · exact hd i i' k hi hi' hk hk'
  · intro i hi
    rw [List.length_set] at hi
    by_cases e : j = i
    · subst e
      rw [gt_set_eq _ _ _ hi]
      simp only [if_true]
      exact hEl.mono hy (fun k hk hlt => ⟨⟨hk, hlt⟩, hlt, rfl⟩)
    · rw [gt_set_ne _ _ _ _ e]
      simp only [if_neg (fun h : i = j => e h.symm)]
      exact hEl.mono (hE i hi) (fun k hk hlt => ⟨hk, Nat.lt_of_lt_of_le hlt hT.size, hT.block k hlt (fun h2 => e (hd j i k hj hi h2 hk))⟩)
end

/-! ### append to such slices -/
section
variable {α : Type} [Inhabited α] {El : (Nat → Prop) → World → Value → α → Prop} {E : Nat}

theorem SlI.grow (hEl : RdOk El) {F : Nat → Prop} {w1 w2 w' : World} {v v' u : Value} {xs : List α} {y : α} {vs : List Value} {G : Nat → Nat → Prop} (hl : xs.length ≤ 1000000)
    (hvl : vs.length = xs.length) (hO : OwnV 0 E w1 v vs) (hF : ∀ k, v.ownBlock = some k → F k) (hG : ∀ i k, i < xs.length → G i k → F k ∧ v.ownBlock ≠ some k ∧ k < w1.heap.size)
    (hd : ∀ i j k, i < xs.length → j < xs.length → G i k → G j k → i = j) (hEx : ∀ i, i < xs.length → El (G i) w1 (gt vs i) (gt xs i))
    (hg : Ext w1 w2) (hu : El (From w1.heap.size) w2 u y) (h1 : OwnV 0 E w' v' (vs ++ [u])) (h2 : (w2.alloc (.cells #[u] E)).grownBy w' v.ownBlock) (hat : v'.ownBlock = v.ownBlock ∨ v'.ownBlock = some (w2.heap.size + 1)) :
    SlI El E (fun k => F k ∨ w1.heap.size ≤ k) w' v' (xs ++ [y]) ∧ w1.grownBy w' v.ownBlock ∧ w2.grownBy w' v.ownBlock := by
  have hga : Ext w2 (w2.alloc (.cells #[u] E)) := World.grownBy_alloc _ _ _
  have hvb : ∀ k, v.ownBlock = some k → k < w1.heap.size := fun k hk => (hO.lt k hk).2
  have hg2 : w2.grownBy w' v.ownBlock := grown_trans (grown_of_ext _ hga) h2
  have hg1 : w1.grownBy w' v.ownBlock := grown_trans (grown_of_ext _ hg) hg2
  have hv'b : ∀ k, v'.ownBlock = some k → v.ownBlock = some k ∨ w2.heap.size < k := by
    intro k hk
    rcases hat with h | h
    · exact .inl (by rw [← h]; exact hk)
    · rw [h] at hk; cases hk; exact .inr (by omega)
  have hsz2 := hg.size
  refine ⟨⟨vs ++ [u], fun i k => if i < xs.length then G i k ∧ k < w1.heap.size else w1.heap.size ≤ k ∧ k < w2.heap.size, by simp [hvl], by simp; omega, h1, ?_, ?_, ?_, ?_⟩, hg1, hg2⟩
  · intro k hk
    rcases hv'b k hk with h | h
    · exact .inl (hF k h)
    · exact .inr (by omega)
  · intro i k hi hk
    split at hk
    · rename_i hlt
      obtain ⟨a1, a2, a3⟩ := hG i k hlt hk.1
      refine ⟨.inl a1, fun hv' => ?_, Nat.lt_of_lt_of_le a3 hg1.size⟩
      rcases hv'b k hv' with h | h
      · exact a2 h
      · omega
    · refine ⟨.inr hk.1, fun hv' => ?_, Nat.lt_of_lt_of_le hk.2 hg2.size⟩
      rcases hv'b k hv' with h | h
      · have := hvb k h; omega
      · omega
  · intro i j k hi hj hk hk'
    simp only [List.length_append, List.length_singleton] at hi hj
    split at hk <;> split at hk'
    · exact hd i j k (by assumption) (by assumption) hk.1 hk'.1
    · omega
    · omega
    · omega
  · intro i hi
    simp only [List.length_append, List.length_singleton] at hi
    by_cases hlt : i < xs.length
    · rw [gt_append_left _ _ _ (by omega), gt_append_left _ _ _ hlt]
      simp only [if_pos hlt]
      exact hEl.mono (hEx i hlt) (fun k hk hkl => ⟨⟨hk, hkl⟩, Nat.lt_of_lt_of_le hkl hg1.size, hg1.block k hkl (fun e => (hG i k hlt hk).2.1 e.symm)⟩)
    · have hi2 : i = xs.length := by omega
      subst hi2
      rw [gt_concat, ← hvl, gt_concat]
      simp only [hvl, Nat.lt_irrefl, if_false]
      exact hEl.mono hu (fun k hk hkl => ⟨⟨hk, hkl⟩, Nat.lt_of_lt_of_le hkl hg2.size, hg2.block k hkl (fun e => by
        have hk : w1.heap.size ≤ k := hk
        have := hvb k e.symm; omega)⟩)

theorem wp_app_I (hEl : RdOk El) (T : Nat) (z : Value) (bytes : Nat) (hT : Tryz.prog.underlying T = some (.slice E))
    (hE : (Tryz.prog.info? E).map (fun i => (i.zero, i.size, i.bytes)) = some (some z, 1, bytes)) (hzs : z.cells.size = 1) (hbt : bytes ≤ 64)
    {ops : Array Oper} {rest : List Oper} {o : Oper} {a : Act} {Q : Exit → Act → World → Prop} {w : World} (hgd : o.guard = none) (s x : Operand)
    (ho : o.op = Op.call { callee := Callee.builtin Builtin.append, args := #[s, x], argTypes := #[T, T] }) (F : Nat → Prop) (w1 w2 : World) (v u : Value) (xs : List α) (y : α) (hs : a.eval s = v) (hown : SlI El E F w1 v xs)
    (hg : Ext w1 w2) (hu : El (From w1.heap.size) w2 u y) (hw : w = w2.alloc (.cells #[u] E)) (hx : a.eval x = .slice (some ⟨w2.heap.size, 0, none⟩) 1 1) (hlen : xs.length ≤ 1000000)
    (h : ∀ v' w', SlI El E (fun k => F k ∨ w1.heap.size ≤ k) w' v' (xs ++ [y]) → w1.grownBy w' v.ownBlock → w2.grownBy w' v.ownBlock → wpList Tryz.prog ops Q rest (a.put o.dst v') w') :
    wpList Tryz.prog ops Q (o :: rest) a w := by
  subst hw
  obtain ⟨vs, G, hvl, _, hO, hF, hG, hd, hEx⟩ := hown
  have hga : Ext w2 (w2.alloc (.cells #[u] E)) := World.grownBy_alloc _ _ _
  have hO2 : OwnV 0 E (w2.alloc (.cells #[u] E)) v vs := hO.kept (grown_trans hg hga) (by cases hv : v.ownBlock <;> simp)
  refine wp_app T E z bytes hT hE hzs hbt hgd s x ho 0 v vs hs hO2 (some ⟨w2.heap.size, 0, none⟩) 1 1 [u] hx rfl (by simp) ?_ ?_ (by omega) (by omega) ?_
  · intro j hj
    have : j = 0 := by omega
    subst this
    exact ⟨_, _, rfl, by rw [World.cell?_alloc_at _ _ _ _ rfl]; rfl⟩
  · intro u' hu'
    simp at hu'; subst hu'; exact hEl.one hu
  · intro v' w' k1 k2 _ k4
    obtain ⟨r1, r2, r3⟩ := SlI.grow hEl hlen hvl hO hF hG hd hEx hg hu k1 k2 (by rcases k4 with k | k; exact .inl k; exact .inr (by rw [k]; simp))
    exact h v' w' r1 r2 r3

theorem step_app_I (hEl : RdOk El) (T : Nat) (z : Value) (bytes : Nat) (hT : Tryz.prog.underlying T = some (.slice E))
    (hE : (Tryz.prog.info? E).map (fun i => (i.zero, i.size, i.bytes)) = some (some z, 1, bytes)) (hzs : z.cells.size = 1) (hbt : bytes ≤ 64)
    {ops : Array Oper} {o : Oper} {a : Act} {K : Act → World → Prop} {Q : Exit → Act → World → Prop} {Ex : Prop} {w : World} (hgd : o.guard = none) (s x : Operand)
    (ho : o.op = Op.call { callee := Callee.builtin Builtin.append, args := #[s, x], argTypes := #[T, T] }) (F : Nat → Prop) (w1 w2 : World) (v u : Value) (xs : List α) (y : α) (hs : a.eval s = v) (hown : SlI El E F w1 v xs)
    (hg : Ext w1 w2) (hu : El (From w1.heap.size) w2 u y) (hw : w = w2.alloc (.cells #[u] E)) (hx : a.eval x = .slice (some ⟨w2.heap.size, 0, none⟩) 1 1) (hlen : xs.length ≤ 1000000)
    (h : ∀ v' w', SlI El E (fun k => F k ∨ w1.heap.size ≤ k) w' v' (xs ++ [y]) → w1.grownBy w' v.ownBlock → w2.grownBy w' v.ownBlock → K (a.put o.dst v') w') :
    if Region.wanted o (yielded ops a.tmps) = true then Oper.wp Tryz.prog o a w K Q else Ex := by
  subst hw
  obtain ⟨vs, G, hvl, _, hO, hF, hG, hd, hEx⟩ := hown
  have hga : Ext w2 (w2.alloc (.cells #[u] E)) := World.grownBy_alloc _ _ _
  have hO2 : OwnV 0 E (w2.alloc (.cells #[u] E)) v vs := hO.kept (grown_trans hg hga) (by cases hv : v.ownBlock <;> simp)
  refine step_app T E z bytes hT hE hzs hbt hgd s x ho 0 v vs hs hO2 w2.heap.size u hx (by rw [World.cell?_alloc_at _ _ _ _ rfl]; rfl) (hEl.one hu) (by omega) (by omega) ?_
  intro v' w' k1 k2 k4
  obtain ⟨r1, r2, r3⟩ := SlI.grow hEl hlen hvl hO hF hG hd hEx hg hu k1 k2 (by rcases k4 with k | k; exact .inl k; exact .inr (by rw [k]; simp))
  exact h v' w' r1 r2 r3
end

/-- make([]int64, n), as a run: to be laid before a region that draws -/
theorem run_mk_ints (n : Nat) (hn : n ≤ 2147483648) (w : World) : (Instr.makeSlice 24 (.int .i64 (n : Int)) (.int .i64 (n : Int))).run Tryz.prog w = .ok (.slice (some ⟨w.heap.size, 0, none⟩) n n) (w.alloc (.cells (madeCells #[.int .i64 0] n) 2)) := by
  obtain ⟨i0, hi, hz0, hz1, hz2⟩ := info_parts Tryz.infoInt
  have hr := run_make (P := Tryz.prog) w 24 2 i0 (.int .i64 0) und_ints hi hz0 .i64 .i64 n n (by omega) (Int.le_refl _) (by rw [hz2]; omega) (by omega)
  simp only [Int.toNat_natCast, hz1, Nat.mul_one] at hr
  exact hr
theorem own_mk_ints (n : Nat) (hn : n ≤ 2147483648) (w : World) : Own w.heap.size (w.alloc (.cells (madeCells #[.int .i64 0] n) 2)) (.slice (some ⟨w.heap.size, 0, none⟩) n n) (List.replicate n 0) := by
  have h := World.ownsRow_lit (base := w.heap.size) (e := 2) (size := 1) w (madeCells #[.int .i64 0] n) n (Nat.le_refl _) (by unfold maxLen; omega) (by have := size_madeCells #[Value.int .i64 0] n; simpa using this)
  rw [toList_madeCells_one] at h
  show World.ownsRow _ _ _ _ _ _ _
  rw [List.length_replicate, List.map_replicate]; exact h

abbrev RowsI (F : Nat → Prop) (w : World) (v : Value) (xs : List (List Int)) : Prop := SlI OwnIn 24 F w v xs
abbrev Rows3I (F : Nat → Prop) (w : World) (v : Value) (xs : List (List (List Int))) : Prop := SlI (SlI OwnIn 24) 25 F w v xs
theorem rdRowsI : RdOk (fun F w u (x : List (List Int)) => RowsI F w u x) := rdI rdOwn
theorem rdRows3I : RdOk (fun F w u (x : List (List (List Int))) => Rows3I F w u x) := rdI (rdI rdOwn)
theorem RowsI.rows {F : Nat → Prop} {w : World} {v : Value} {xs : List (List Int)} (h : RowsI F w v xs) : Rows2 F w v xs := RowsD.rows (SlI.d h)
theorem Rows3I.rows {F : Nat → Prop} {w : World} {v : Value} {xs : List (List (List Int))} (h : Rows3I F w v xs) : Rows3 F w v xs := Rows3D.rows (SlI.d (SlI.map (fun _ _ _ _ h => SlI.d h) h))

/-- a presentation all of whose parts may be written -/
def PresX (F : Nat → Prop) (w : World) (vo vp vc : Value) (P : Pr) : Prop :=
  ∃ Fo Fp Fc : Nat → Prop, OwnIn Fo w vo P.orders ∧ RowsI Fp w vp P.powers ∧ Rows3I Fc w vc P.conj ∧ (∀ k, Fo k → F k ∧ ¬ Fp k ∧ ¬ Fc k) ∧ (∀ k, Fp k → F k ∧ ¬ Fc k) ∧ (∀ k, Fc k → F k)
theorem PresX.p3 {F : Nat → Prop} {w : World} {vo vp vc : Value} {P : Pr} (h : PresX F w vo vp vc P) : Pres3 F w vo vp vc P := by
  obtain ⟨Fo, Fp, Fc, h1, h2, h3, h4, h5, h6⟩ := h
  exact ⟨Ints.sub h1.ints (fun k hk _ => (h4 k hk).1), Rows2.sub (RowsI.rows h2) (fun k hk _ => (h5 k hk).1), Rows3.sub (Rows3I.rows h3) (fun k hk _ => h6 k hk)⟩
theorem PresX.mono {F F' : Nat → Prop} {w w' : World} {vo vp vc : Value} {P : Pr} (h : PresX F w vo vp vc P) (hb : ∀ k, F k → k < w.heap.size → F' k ∧ k < w'.heap.size ∧ w'.heap[k]? = w.heap[k]?) : PresX F' w' vo vp vc P := by
  obtain ⟨Fo, Fp, Fc, h1, h2, h3, h4, h5, h6⟩ := h
  refine ⟨fun k => Fo k ∧ k < w.heap.size, fun k => Fp k ∧ k < w.heap.size, fun k => Fc k ∧ k < w.heap.size, rdOwn.mono h1 (fun k hk hlt => ⟨⟨hk, hlt⟩, (hb k (h4 k hk).1 hlt).2⟩),
    rdRowsI.mono h2 (fun k hk hlt => ⟨⟨hk, hlt⟩, (hb k (h5 k hk).1 hlt).2⟩), rdRows3I.mono h3 (fun k hk hlt => ⟨⟨hk, hlt⟩, (hb k (h6 k hk) hlt).2⟩), fun k hk => ?_, fun k hk => ?_, fun k hk => ?_⟩
  · exact ⟨(hb k (h4 k hk.1).1 hk.2).1, fun h => (h4 k hk.1).2.1 h.1, fun h => (h4 k hk.1).2.2 h.1⟩
  · exact ⟨(hb k (h5 k hk.1).1 hk.2).1, fun h => (h5 k hk.1).2 h.1⟩
  · exact (hb k (h6 k hk.1) hk.2).1
theorem PresX.ext {F : Nat → Prop} {w w' : World} {vo vp vc : Value} {P : Pr} (h : PresX F w vo vp vc P) (hg : Ext w w') : PresX F w' vo vp vc P := h.mono (frame_ext hg)
theorem PresX.shape {F : Nat → Prop} {w : World} {vo vp vc : Value} {P : Pr} (h : PresX F w vo vp vc P) : ∃ a c a2 c2 a3 c3, vo = .slice a P.orders.length c ∧ vp = .slice a2 P.powers.length c2 ∧ vc = .slice a3 P.conj.length c3 := by
  obtain ⟨Fo, Fp, Fc, h1, h2, h3, _⟩ := h
  obtain ⟨a, c, rfl, _⟩ := h1.ints.shape
  obtain ⟨a2, c2, rfl, _⟩ := SlD.shape (SlI.d h2)
  obtain ⟨a3, c3, rfl, _⟩ := SlD.shape (SlI.d h3)
  exact ⟨_, _, _, _, _, _, rfl, rfl, rfl⟩

theorem PresX.wide {F F' : Nat → Prop} {w : World} {vo vp vc : Value} {P : Pr} (h : PresX F w vo vp vc P) (hF : ∀ k, F k → F' k) : PresX F' w vo vp vc P := by
  obtain ⟨Fo, Fp, Fc, h1, h2, h3, h4, h5, h6⟩ := h
  exact ⟨Fo, Fp, Fc, h1, h2, h3, fun k hk => ⟨hF k (h4 k hk).1, (h4 k hk).2⟩, fun k hk => ⟨hF k (h5 k hk).1, (h5 k hk).2⟩, fun k hk => hF k (h6 k hk)⟩

theorem PresX.put {F : Nat → Prop} {w w' : World} {vo vp vc : Value} {P' : Pr} {Fo Fp Fc Fo' Fp' Fc' : Nat → Prop} (r : Option Nat) (_hT : w.grownBy w' r)
    (h1 : OwnIn Fo' w' vo P'.orders) (h2 : RowsI Fp' w' vp P'.powers) (h3 : Rows3I Fc' w' vc P'.conj)
    (h4 : ∀ k, Fo k → F k ∧ ¬ Fp k ∧ ¬ Fc k) (h5 : ∀ k, Fp k → F k ∧ ¬ Fc k) (h6 : ∀ k, Fc k → F k)
    (k1 : (∀ k, Fo' k → Fo k ∧ k < w.heap.size)) (k2 : (∀ k, Fp' k → Fp k ∧ k < w.heap.size ∨ w.heap.size ≤ k)) (k3 : (∀ k, Fc' k → Fc k ∧ k < w.heap.size ∨ w.heap.size ≤ k)) (k4 : (∀ k, Fp' k → k < w.heap.size) ∨ (∀ k, Fc' k → k < w.heap.size)) :
    PresX (fun k => F k ∨ w.heap.size ≤ k) w' vo vp vc P' := by
  refine ⟨Fo', Fp', Fc', h1, h2, h3, fun k hk => ⟨.inl (h4 k (k1 k hk).1).1, fun e => ?_, fun e => ?_⟩, fun k hk => ⟨?_, fun e => ?_⟩, fun k hk => ?_⟩
  · rcases k2 k e with e | e
    · exact (h4 k (k1 k hk).1).2.1 e.1
    · have := (k1 k hk).2; omega
  · rcases k3 k e with e | e
    · exact (h4 k (k1 k hk).1).2.2 e.1
    · have := (k1 k hk).2; omega
  · rcases k2 k hk with e | e
    · exact .inl (h5 k e.1).1
    · exact .inr e
  · rcases k4 with k4 | k4
    · have a := k4 k hk
      rcases k2 k hk with b | b
      · rcases k3 k e with c | c
        · exact (h5 k b.1).2 c.1
        · omega
      · omega
    · have a := k4 k e
      rcases k3 k e with c | c
      · rcases k2 k hk with b | b
        · exact (h5 k b.1).2 c.1
        · omega
      · omega
  · rcases k3 k hk with e | e
    · exact .inl (h6 k e.1)
    · exact .inr e

/-- a power may be put in its place -/
theorem PresX.openP {F : Nat → Prop} {w1 : World} {vo vp vc : Value} {P : Pr} (h : PresX F w1 vo vp vc P) (i : Nat) (hi : i < P.powers.length) :
    ∃ g cap z, vp = .slice (some ⟨g, 0, none⟩) P.powers.length cap ∧ F g ∧ g < w1.heap.size ∧ w1.cell? ⟨g, i, none⟩ = some z ∧ (∀ j, j < P.powers.length → w1.frozen? ⟨g, j, none⟩ = false) ∧
      ∀ w2 u y, Ext w1 w2 → OwnIn (From w1.heap.size) w2 u y → PresX (fun k => F k ∨ w1.heap.size ≤ k) (w2.setCell ⟨g, i, none⟩ u) vo vp vc { P with powers := P.powers.set i y } := by
  obtain ⟨Fo, Fp, Fc, h1, h2, h3, h4, h5, h6⟩ := h
  rcases SlI.form h2 with ⟨_, e⟩ | ⟨g, cap, rfl, hFg, hgl⟩
  · rw [e] at hi; simp at hi
  obtain ⟨⟨z, hz⟩, _⟩ := SlI.place h2 i hi
  refine ⟨g, cap, z, rfl, (h5 g hFg).1, hgl, hz, fun j hj => (SlI.place h2 j hj).2, fun w2 u y hg hu => ?_⟩
  obtain ⟨s1, s2⟩ := SlI.store rdOwn h2 hg hu i
  have hT : w1.grownBy (w2.setCell ⟨g, i, none⟩ u) (some g) := grown_trans (grown_of_ext _ hg) s2
  exact PresX.put (Fo' := fun k => Fo k ∧ k < w1.heap.size) (Fp' := fun k => Fp k ∧ k < w1.heap.size ∨ w1.heap.size ≤ k) (Fc' := fun k => Fc k ∧ k < w1.heap.size) (some g) hT
    (rdOwn.mono h1 (fun k hk hlt => ⟨⟨hk, hlt⟩, Nat.lt_of_lt_of_le hlt hT.size, hT.block k hlt (fun e => (h4 k hk).2.1 (by cases e; exact hFg))⟩))
    (rdRowsI.mono s1 (fun k hk hlt => ⟨by
      rcases hk with hk | hk
      · rcases Nat.lt_or_ge k w1.heap.size with h | h
        · exact .inl ⟨hk, h⟩
        · exact .inr h
      · exact .inr hk, hlt, rfl⟩))
    (rdRows3I.mono h3 (fun k hk hlt => ⟨⟨hk, hlt⟩, Nat.lt_of_lt_of_le hlt hT.size, hT.block k hlt (fun e => (h5 g hFg).2 (by cases e; exact hk))⟩))
    h4 h5 h6 (fun _ h => h) (fun _ h => h) (fun _ h => .inl h) (.inr (fun _ h => h.2))

/-- a conjugate may be put in its place -/
theorem PresX.openC {F : Nat → Prop} {w1 : World} {vo vp vc : Value} {P : Pr} (h : PresX F w1 vo vp vc P) (i j : Nat) (hi : i < P.conj.length) (hj : j < (gt P.conj i).length) :
    ∃ g cap b cap2 z, vc = .slice (some ⟨g, 0, none⟩) P.conj.length cap ∧ F g ∧ g < w1.heap.size ∧ w1.cell? ⟨g, i, none⟩ = some (.slice (some ⟨b, 0, none⟩) (gt P.conj i).length cap2) ∧ F b ∧ b ≠ g ∧ b < w1.heap.size ∧
      w1.cell? ⟨b, j, none⟩ = some z ∧ w1.frozen? ⟨b, j, none⟩ = false ∧
      ∀ w2 u y, Ext w1 w2 → OwnIn (From w1.heap.size) w2 u y → PresX (fun k => F k ∨ w1.heap.size ≤ k) (w2.setCell ⟨b, j, none⟩ u) vo vp vc { P with conj := P.conj.set i ((gt P.conj i).set j y) } := by
  obtain ⟨Fo, Fp, Fc, h1, h2, h3, h4, h5, h6⟩ := h
  rcases SlI.form h3 with ⟨_, e⟩ | ⟨g, cap, rfl, hFg, hgl⟩
  · rw [e] at hi; simp at hi
  obtain ⟨v, Gj, hc, hEl, hGj, hturn⟩ := SlI.turn (rdI rdOwn) h3 i hi
  rcases SlI.form hEl with ⟨_, e⟩ | ⟨b, cap2, rfl, hGb, hbl⟩
  · rw [e] at hj; simp at hj
  obtain ⟨⟨z, hz⟩, hpf⟩ := SlI.place hEl j hj
  have hFb := (hGj b hGb).1
  refine ⟨g, cap, b, cap2, z, rfl, h6 g hFg, hgl, hc, h6 b hFb, (hGj b hGb).2.1, hbl, hz, hpf, fun w2 u y hg hu => ?_⟩
  obtain ⟨s1, s2⟩ := SlI.store rdOwn hEl hg hu j
  have hT : w1.grownBy (w2.setCell ⟨b, j, none⟩ u) (some b) := grown_trans (grown_of_ext _ hg) s2
  have hn := hturn (w2.setCell ⟨b, j, none⟩ u) _ (Touch.of hT (fun k hk => by cases hk; exact hGb)) s1
  exact PresX.put (Fo' := fun k => Fo k ∧ k < w1.heap.size) (Fp' := fun k => Fp k ∧ k < w1.heap.size) (Fc' := fun k => Fc k ∧ k < w1.heap.size ∨ w1.heap.size ≤ k) (some b) hT
    (rdOwn.mono h1 (fun k hk hlt => ⟨⟨hk, hlt⟩, Nat.lt_of_lt_of_le hlt hT.size, hT.block k hlt (fun e => (h4 k hk).2.2 (by cases e; exact hFb))⟩))
    (rdRowsI.mono h2 (fun k hk hlt => ⟨⟨hk, hlt⟩, Nat.lt_of_lt_of_le hlt hT.size, hT.block k hlt (fun e => (h5 k hk).2 (by cases e; exact hFb))⟩))
    (rdRows3I.mono hn (fun k hk hlt => ⟨by
      rcases hk with hk | hk
      · rcases Nat.lt_or_ge k w1.heap.size with h | h
        · exact .inl ⟨hk, h⟩
        · exact .inr h
      · exact .inr hk, hlt, rfl⟩))
    h4 h5 h6 (fun _ h => h) (fun _ h => .inl h) (fun _ h => h) (.inl (fun _ h => h.2))

/-- an integer of a power may be put in its place -/
theorem PresX.openPI {F : Nat → Prop} {w1 : World} {vo vp vc : Value} {P : Pr} (h : PresX F w1 vo vp vc P) (i j : Nat) (hi : i < P.powers.length) (hj : j < (gt P.powers i).length) :
    ∃ g cap b cap2, vp = .slice (some ⟨g, 0, none⟩) P.powers.length cap ∧ F g ∧ g < w1.heap.size ∧ w1.cell? ⟨g, i, none⟩ = some (.slice (some ⟨b, 0, none⟩) (gt P.powers i).length cap2) ∧ F b ∧ b ≠ g ∧ b < w1.heap.size ∧
      w1.cell? ⟨b, j, none⟩ = some (.int .i64 (gt (gt P.powers i) j)) ∧ (∀ w2, Ext w1 w2 → w2.frozen? ⟨b, j, none⟩ = false) ∧
      ∀ w2 x, Ext w1 w2 → PresX (fun k => F k ∨ w1.heap.size ≤ k) (w2.setCell ⟨b, j, none⟩ (.int .i64 x)) vo vp vc { P with powers := P.powers.set i ((gt P.powers i).set j x) } := by
  obtain ⟨Fo, Fp, Fc, h1, h2, h3, h4, h5, h6⟩ := h
  rcases SlI.form h2 with ⟨_, e⟩ | ⟨g, cap, rfl, hFg, hgl⟩
  · rw [e] at hi; simp at hi
  obtain ⟨v, Gj, hc, hEl, hGj, hturn⟩ := SlI.turn rdOwn h2 i hi
  obtain ⟨q1, q2, q3⟩ := hEl
  obtain ⟨b, cap2, rfl, _, hbl⟩ := q1.form (by omega)
  have hGb := q2 b rfl
  have hFb := (hGj b hGb).1
  refine ⟨g, cap, b, cap2, rfl, (h5 g hFg).1, hgl, hc, (h5 b hFb).1, (hGj b hGb).2.1, hbl, q1.cell j hj, fun w2 hg => (q1.ext0 hg).frozen j, fun w2 x hg => ?_⟩
  obtain ⟨s1, s2⟩ := (q1.ext0 hg).store j x
  have hT : w1.grownBy (w2.setCell ⟨b, j, none⟩ (.int .i64 x)) (some b) := grown_trans (grown_of_ext _ hg) s2
  have hn := hturn (w2.setCell ⟨b, j, none⟩ (.int .i64 x)) _ (Touch.of hT (fun k hk => by cases hk; exact hGb)) (⟨s1, fun k hk => .inl (q2 k hk), by rw [List.length_set]; exact q3⟩ : OwnIn (fun k => Gj k ∨ w1.heap.size ≤ k) _ _ ((gt P.powers i).set j x))
  exact PresX.put (Fo' := fun k => Fo k ∧ k < w1.heap.size) (Fp' := fun k => Fp k ∧ k < w1.heap.size ∨ w1.heap.size ≤ k) (Fc' := fun k => Fc k ∧ k < w1.heap.size) (some b) hT
    (rdOwn.mono h1 (fun k hk hlt => ⟨⟨hk, hlt⟩, Nat.lt_of_lt_of_le hlt hT.size, hT.block k hlt (fun e => (h4 k hk).2.1 (by cases e; exact hFb))⟩))
    (rdRowsI.mono hn (fun k hk hlt => ⟨by
      rcases hk with hk | hk
      · rcases Nat.lt_or_ge k w1.heap.size with h | h
        · exact .inl ⟨hk, h⟩
        · exact .inr h
      · exact .inr hk, hlt, rfl⟩))
    (rdRows3I.mono h3 (fun k hk hlt => ⟨⟨hk, hlt⟩, Nat.lt_of_lt_of_le hlt hT.size, hT.block k hlt (fun e => (h5 b hFb).2 (by cases e; exact hk))⟩))
    h4 h5 h6 (fun _ h => h) (fun _ h => h) (fun _ h => .inl h) (.inr (fun _ h => h.2))

/-- an integer of a conjugate may be put in its place -/
theorem PresX.openCI {F : Nat → Prop} {w1 : World} {vo vp vc : Value} {P : Pr} (h : PresX F w1 vo vp vc P) (i k j : Nat) (hi : i < P.conj.length) (hk : k < (gt P.conj i).length) (hj : j < (gt (gt P.conj i) k).length) :
    ∃ g cap e cap1 b cap2, vc = .slice (some ⟨g, 0, none⟩) P.conj.length cap ∧ F g ∧ g < w1.heap.size ∧ w1.cell? ⟨g, i, none⟩ = some (.slice (some ⟨e, 0, none⟩) (gt P.conj i).length cap1) ∧ F e ∧ e < w1.heap.size ∧
      w1.cell? ⟨e, k, none⟩ = some (.slice (some ⟨b, 0, none⟩) (gt (gt P.conj i) k).length cap2) ∧ F b ∧ b ≠ g ∧ b ≠ e ∧ b < w1.heap.size ∧ w1.cell? ⟨b, j, none⟩ = some (.int .i64 (gt (gt (gt P.conj i) k) j)) ∧ (∀ w2, Ext w1 w2 → w2.frozen? ⟨b, j, none⟩ = false) ∧
      ∀ w2 x, Ext w1 w2 → PresX (fun k => F k ∨ w1.heap.size ≤ k) (w2.setCell ⟨b, j, none⟩ (.int .i64 x)) vo vp vc { P with conj := P.conj.set i ((gt P.conj i).set k ((gt (gt P.conj i) k).set j x)) } := by
  obtain ⟨Fo, Fp, Fc, h1, h2, h3, h4, h5, h6⟩ := h
  rcases SlI.form h3 with ⟨_, e⟩ | ⟨g, cap, rfl, hFg, hgl⟩
  · rw [e] at hi; simp at hi
  obtain ⟨v, Gj, hc, hEl, hGj, hturn⟩ := SlI.turn (rdI rdOwn) h3 i hi
  rcases SlI.form hEl with ⟨_, e⟩ | ⟨e, cap1, rfl, hGe, hel⟩
  · rw [e] at hk; simp at hk
  obtain ⟨v2, Hj, hc2, hE2, hHj, hturn2⟩ := SlI.turn rdOwn hEl k hk
  obtain ⟨q1, q2, q3⟩ := hE2
  obtain ⟨b, cap2, rfl, _, hbl⟩ := q1.form (by omega)
  have hHb := q2 b rfl
  have hGb := (hHj b hHb).1
  have hFb := (hGj b hGb).1
  refine ⟨g, cap, e, cap1, b, cap2, rfl, h6 g hFg, hgl, hc, h6 e (hGj e hGe).1, hel, hc2, h6 b hFb, (hGj b hGb).2.1, (hHj b hHb).2.1, hbl, q1.cell j hj, fun w2 hg => (q1.ext0 hg).frozen j, fun w2 x hg => ?_⟩
  obtain ⟨s1, s2⟩ := (q1.ext0 hg).store j x
  have hT : w1.grownBy (w2.setCell ⟨b, j, none⟩ (.int .i64 x)) (some b) := grown_trans (grown_of_ext _ hg) s2
  have hn2 := hturn2 (w2.setCell ⟨b, j, none⟩ (.int .i64 x)) _ (Touch.of hT (fun k hk => by cases hk; exact hHb)) (⟨s1, fun k hk => .inl (q2 k hk), by rw [List.length_set]; exact q3⟩ : OwnIn (fun k => Hj k ∨ w1.heap.size ≤ k) _ _ ((gt (gt P.conj i) k).set j x))
  have hn := hturn (w2.setCell ⟨b, j, none⟩ (.int .i64 x)) _ (Touch.of hT (fun k hk => by cases hk; exact hGb)) hn2
  exact PresX.put (Fo' := fun k => Fo k ∧ k < w1.heap.size) (Fp' := fun k => Fp k ∧ k < w1.heap.size) (Fc' := fun k => Fc k ∧ k < w1.heap.size ∨ w1.heap.size ≤ k) (some b) hT
    (rdOwn.mono h1 (fun k hk hlt => ⟨⟨hk, hlt⟩, Nat.lt_of_lt_of_le hlt hT.size, hT.block k hlt (fun e => (h4 k hk).2.2 (by cases e; exact hFb))⟩))
    (rdRowsI.mono h2 (fun k hk hlt => ⟨⟨hk, hlt⟩, Nat.lt_of_lt_of_le hlt hT.size, hT.block k hlt (fun e => (h5 k hk).2 (by cases e; exact hFb))⟩))
    (rdRows3I.mono hn (fun k hk hlt => ⟨by
      rcases hk with hk | hk
      · rcases Nat.lt_or_ge k w1.heap.size with h | h
        · exact .inl ⟨hk, h⟩
        · exact .inr h
      · exact .inr hk, hlt, rfl⟩))
    h4 h5 h6 (fun _ h => h) (fun _ h => .inl h) (fun _ h => h) (.inl (fun _ h => h.2))

end Go.Proofs.YtldheeicjnncoaaGreat
namespace Go.Proofs.YtldheeicjnncoaaGreat
open Go.RowKit

/-- at most N generators, vectors of at most N places, lists of the lengths that n asks -/
structure Shp (N : Nat) (P : Pr) : Prop where
  n : P.orders.length ≤ N
  p : P.powers.length = P.orders.length
  c : P.conj.length = P.orders.length
  cl : ∀ i, i < P.orders.length → (gt P.conj i).length = P.orders.length - 1 - i
  pv : ∀ v ∈ P.powers, v.length ≤ N
  cv : ∀ r ∈ P.conj, ∀ v ∈ r, v.length ≤ N

def setP (P : Pr) (i : Nat) (v : List Int) : Pr := { P with powers := P.powers.set i v }
def setC (P : Pr) (i j : Nat) (v : List Int) : Pr := { P with conj := P.conj.set i ((gt P.conj i).set j v) }

theorem mem_set_or {α : Type} {l : List α} {i : Nat} {a b : α} (h : b ∈ l.set i a) : b = a ∨ b ∈ l := by
  rcases List.mem_or_eq_of_mem_set h with h | h
  · exact .inr h
  · exact .inl h

theorem Shp.setP {N : Nat} {P : Pr} (h : Shp N P) (i : Nat) {v : List Int} (hv : v.length ≤ N) : Shp N (setP P i v) :=
  ⟨h.n, by show (P.powers.set i v).length = _; rw [List.length_set]; exact h.p, h.c, h.cl, fun x hx => by
    rcases mem_set_or hx with e | e
    · rw [e]; exact hv
    · exact h.pv x e, h.cv⟩
theorem Shp.setC {N : Nat} {P : Pr} (h : Shp N P) (i j : Nat) (hi : i < P.orders.length) {v : List Int} (hv : v.length ≤ N) : Shp N (setC P i j v) := by
  have hic : i < P.conj.length := by rw [h.c]; exact hi
  refine ⟨h.n, h.p, by show (P.conj.set i _).length = _; rw [List.length_set]; exact h.c, fun k hk => ?_, h.pv, fun r hr x hx => ?_⟩
  · show (gt (P.conj.set i _) k).length = _
    by_cases e : i = k
    · subst e
      rw [gt_set_eq _ _ _ hic, List.length_set]; exact h.cl i hi
    · rw [gt_set_ne _ _ _ _ e]; exact h.cl k hk
  · rcases mem_set_or hr with e | e
    · rw [e] at hx
      rcases mem_set_or hx with e2 | e2
      · rw [e2]; exact hv
      · exact h.cv _ (by rw [gt_eq _ i hic]; exact List.getElem_mem hic) x e2
    · exact h.cv r e x hx

theorem Shp.mono {N M : Nat} {P : Pr} (h : Shp N P) (hm : N ≤ M) : Shp M P := ⟨Nat.le_trans h.n hm, h.p, h.c, h.cl, fun v hv => Nat.le_trans (h.pv v hv) hm, fun r hr v hv => Nat.le_trans (h.cv r hr v hv) hm⟩

/-- the conjugates of a trivial presentation -/
def trivC (n i : Nat) : List (List Int) := (List.range (n - 1 - i)).map (fun k => unitV n (i + 1 + k))
def trivP (o : List Int) : Pr := ⟨o, List.replicate o.length (zeros o.length), (List.range o.length).map (trivC o.length)⟩
theorem trivC_len (n i : Nat) : (trivC n i).length = n - 1 - i := by unfold trivC; simp
theorem unitV_len (n k : Nat) : (unitV n k).length = n := by unfold unitV; simp
theorem zeros_len (n : Nat) : (zeros n).length = n := by unfold zeros; simp
theorem trivP_shp (o : List Int) {N : Nat} (h : o.length ≤ N) : Shp N (trivP o) := by
  refine ⟨h, by simp [trivP], by simp [trivP], fun i hi => ?_, fun v hv => ?_, fun r hr v hv => ?_⟩
  · have hi' : i < o.length := hi
    show (gt ((List.range o.length).map (trivC o.length)) i).length = o.length - 1 - i
    rw [gt_map _ _ _ (by simpa using hi'), gt_eq _ _ (by simpa using hi'), List.getElem_range, trivC_len]
  · have := List.eq_of_mem_replicate hv
    rw [this, zeros_len]; exact h
  · obtain ⟨i, _, rfl⟩ := List.mem_map.1 hr
    obtain ⟨k, _, rfl⟩ := List.mem_map.1 hv
    rw [unitV_len]; exact h

end Go.Proofs.YtldheeicjnncoaaGreat
namespace Go.Proofs.YtldheeicjnncoaaGreat
open Go.RowKit
attribute [local go_sem ↓] Go.wp_at_zero Go.wp_at_succ

/-- a presentation by value all of whose parts lie in blocks from B on -/
def PresR (B : Nat) (P : Pr) (w' : World) (v : Value) : Prop := ∃ vo vp vc, v = .agg #[vo, vp, vc] ∧ PresX (From B) w' vo vp vc P

/-- the parts of a presentation under way -/
structure Part3 (F : Nat → Prop) (w : World) (vo vp vc : Value) (P : Pr) (Fo Fp Fc : Nat → Prop) : Prop where
  o : OwnIn Fo w vo P.orders
  p : RowsI Fp w vp P.powers
  c : Rows3I Fc w vc P.conj
  do_ : ∀ k, Fo k → F k ∧ ¬ Fp k ∧ ¬ Fc k
  dp : ∀ k, Fp k → F k ∧ ¬ Fc k
  dc : ∀ k, Fc k → F k
theorem PresX.part {F : Nat → Prop} {w : World} {vo vp vc : Value} {P : Pr} (h : PresX F w vo vp vc P) : ∃ Fo Fp Fc, Part3 F w vo vp vc P Fo Fp Fc := by
  obtain ⟨Fo, Fp, Fc, h1, h2, h3, h4, h5, h6⟩ := h
  exact ⟨Fo, Fp, Fc, h1, h2, h3, h4, h5, h6⟩

theorem SlI.sl {α : Type} [Inhabited α] {El : (Nat → Prop) → World → Value → α → Prop} {E : Nat} {F : Nat → Prop} {w : World} {v : Value} {xs : List α} (h : SlI El E F w v xs) : ∃ a n c, v = .slice a n c ∧ n = xs.length := by
  rcases h.form with ⟨rfl, rfl⟩ | ⟨g, cap, rfl, _⟩
  · exact ⟨_, _, _, rfl, rfl⟩
  · exact ⟨_, _, _, rfl, rfl⟩
theorem PresX.sh2 {F : Nat → Prop} {w : World} {vo vp vc : Value} {P : Pr} (h : PresX F w vo vp vc P) : ∃ a2 n2 c2 a3 n3 c3, vp = .slice a2 n2 c2 ∧ vc = .slice a3 n3 c3 ∧ n2 = P.powers.length ∧ n3 = P.conj.length := by
  obtain ⟨_, _, a2, c2, a3, c3, _, h2, h3⟩ := h.shape
  exact ⟨a2, _, c2, a3, _, c3, h2, h3, rfl, rfl⟩

/-- the powers are put anew -/
theorem Part3.newP {F : Nat → Prop} {w w' : World} {vo vp vc v' : Value} {P : Pr} {Fo Fp Fc : Nat → Prop} (h : Part3 F w vo vp vc P Fo Fp Fc) {L : List (List Int)} (hR : RowsI (fun k => Fp k ∨ w.heap.size ≤ k) w' v' L) (hT : w.grownBy w' vp.ownBlock) :
    PresX (fun k => F k ∨ w.heap.size ≤ k) w' vo v' vc { P with powers := L } := by
  have hv : ∀ k, vp.ownBlock = some k → Fp k := by
    obtain ⟨_, _, _, _, _, h1, _⟩ := h.p
    exact h1
  refine ⟨fun k => Fo k ∧ k < w.heap.size, fun k => Fp k ∧ k < w.heap.size ∨ w.heap.size ≤ k, fun k => Fc k ∧ k < w.heap.size,
    rdOwn.mono h.o (fun k hk hlt => ⟨⟨hk, hlt⟩, Nat.lt_of_lt_of_le hlt hT.size, hT.block k hlt (fun e => (h.do_ k hk).2.1 (hv k e.symm))⟩),
    rdRowsI.mono hR (fun k hk hlt => ⟨?_, hlt, rfl⟩),
    rdRows3I.mono h.c (fun k hk hlt => ⟨⟨hk, hlt⟩, Nat.lt_of_lt_of_le hlt hT.size, hT.block k hlt (fun e => (h.dp k (hv k e.symm)).2 hk)⟩),
    fun k hk => ⟨.inl (h.do_ k hk.1).1, fun e => ?_, fun e => (h.do_ k hk.1).2.2 e.1⟩, fun k hk => ⟨?_, fun e => ?_⟩, fun k hk => .inl (h.dc k hk.1)⟩
  · rcases hk with hk | hk
    · rcases Nat.lt_or_ge k w.heap.size with h | h
      · exact .inl ⟨hk, h⟩
      · exact .inr h
    · exact .inr hk
  · rcases e with e | e
    · exact (h.do_ k hk.1).2.1 e.1
    · omega
  · rcases hk with hk | hk
    · exact .inl (h.dp k hk.1).1
    · exact .inr hk
  · rcases hk with hk | hk
    · exact (h.dp k hk.1).2 e.1
    · omega
/-- the conjugates are put anew -/
theorem Part3.newC {F : Nat → Prop} {w w' : World} {vo vp vc v' : Value} {P : Pr} {Fo Fp Fc : Nat → Prop} (h : Part3 F w vo vp vc P Fo Fp Fc) {L : List (List (List Int))} (hR : Rows3I (fun k => Fc k ∨ w.heap.size ≤ k) w' v' L) (hT : w.grownBy w' vc.ownBlock) :
    PresX (fun k => F k ∨ w.heap.size ≤ k) w' vo vp v' { P with conj := L } := by
  have hv : ∀ k, vc.ownBlock = some k → Fc k := by
    obtain ⟨_, _, _, _, _, h1, _⟩ := h.c
    exact h1
  refine ⟨fun k => Fo k ∧ k < w.heap.size, fun k => Fp k ∧ k < w.heap.size, fun k => Fc k ∧ k < w.heap.size ∨ w.heap.size ≤ k,
    rdOwn.mono h.o (fun k hk hlt => ⟨⟨hk, hlt⟩, Nat.lt_of_lt_of_le hlt hT.size, hT.block k hlt (fun e => (h.do_ k hk).2.2 (hv k e.symm))⟩),
    rdRowsI.mono h.p (fun k hk hlt => ⟨⟨hk, hlt⟩, Nat.lt_of_lt_of_le hlt hT.size, hT.block k hlt (fun e => (h.dp k hk).2 (hv k e.symm))⟩),
    rdRows3I.mono hR (fun k hk hlt => ⟨?_, hlt, rfl⟩),
    fun k hk => ⟨.inl (h.do_ k hk.1).1, fun e => (h.do_ k hk.1).2.1 e.1, fun e => ?_⟩, fun k hk => ⟨.inl (h.dp k hk.1).1, fun e => ?_⟩, fun k hk => ?_⟩
  · rcases hk with hk | hk
    · rcases Nat.lt_or_ge k w.heap.size with h | h
      · exact .inl ⟨hk, h⟩
      · exact .inr h
    · exact .inr hk
  · rcases e with e | e
    · exact (h.do_ k hk.1).2.2 e.1
    · omega
  · rcases e with e | e
    · exact (h.dp k hk.1).2 e.1
    · omega
  · rcases hk with hk | hk
    · exact .inl (h.dc k hk.1)
    · exact .inr hk

theorem presX_start {w : World} {vo : Value} {o : List Int} {B : Nat} (h : Own B w vo o) (hl : o.length ≤ 1000) : PresX (From B) w vo (.slice none 0 0) (.slice none 0 0) ⟨o, [], []⟩ :=
  ⟨fun k => vo.ownBlock = some k, fun _ => False, fun _ => False, ⟨h.weak (Nat.zero_le _), fun _ hk => hk, by show o.length ≤ _; omega⟩,
    ⟨[], fun _ _ => False, rfl, by simp, World.ownsRow_nil _ _ _ _, by simp [Value.ownBlock], by simp, by simp, by simp⟩, ⟨[], fun _ _ => False, rfl, by simp, World.ownsRow_nil _ _ _ _, by simp [Value.ownBlock], by simp, by simp, by simp⟩,
    fun k hk => ⟨(h.lt k hk).1, fun h => h, fun h => h⟩, fun _ h => h.elim, fun _ h => h.elim⟩

set_option maxRecDepth 100000 in
set_option maxHeartbeats 2000000 in
theorem l07Trivial_ok (w : World) (ov : Value) (o : List Int) (S : Nat → Prop) (ho : Ints S w ov o) (hl : o.length ≤ 100) :
    Calls Tryz.prog 277 #[ov] w (Ret w (PresR w.heap.size (trivP o))) := by
  obtain ⟨ao, capo, rfl, _, _⟩ := ho.shape
  have hg0 : Ext w (w.alloc (.cells #[.slice none 0 0, .slice none 0 0, .slice none 0 0] 28)) := World.grownBy_alloc _ _ _
  have hR0 := Box3.made w 28 (.slice none 0 0) (.slice none 0 0) (.slice none 0 0)
  have hcon := l01Own_ok (w.alloc (.cells #[.slice none 0 0, .slice none 0 0, .slice none 0 0] 28)) _ o S (ho.ext hg0) (by omega)
  have HR0 := Lib.hid hR0; clear hR0
  go_enter Tryz.func277, Tryz.ntmps277
  go_wp2_with fail
  have hs0 : (w.alloc (.cells #[.slice none 0 0, .slice none 0 0, .slice none 0 0] 28)).heap.size = w.heap.size + 1 := by simp
  rw [hs0] at hcon
  generalize w.alloc (.cells #[.slice none 0 0, .slice none 0 0, .slice none 0 0] 28) = w0 at *
  refine Calls.mono hcon ?_
  rintro e1 w1 ⟨v1, rfl, hg1, hO1⟩
  clear hcon
  obtain ⟨a1, c1, hv1, _⟩ := (hO1.ints (by omega)).shape
  subst hv1
  go_wp2_with fail
  have hB2 := Box3.made w1 28 (.slice a1 o.length c1) (.slice none 0 0) (.slice none 0 0)
  have hg2 : Ext w1 (w1.alloc (.cells #[.slice a1 o.length c1, .slice none 0 0, .slice none 0 0] 28)) := World.grownBy_alloc _ _ _
  have hX2 : PresX (fun k => w.heap.size + 1 ≤ k ∧ k ≠ w1.heap.size) (w1.alloc (.cells #[.slice a1 o.length c1, .slice none 0 0, .slice none 0 0] 28)) (.slice a1 o.length c1) (.slice none 0 0) (.slice none 0 0) ⟨o, [], []⟩ :=
    (presX_start hO1 (by omega)).mono (fun k hk hlt => ⟨⟨hk, by omega⟩, Nat.lt_of_lt_of_le hlt hg2.size, hg2.block k hlt (by simp)⟩)
  have hs1 := hg1.size
  have HH := Lib.hid (And.intro hs0 hs1); clear hs0 hs1 hO1
  generalize w1.alloc (.cells #[.slice a1 o.length c1, .slice none 0 0, .slice none 0 0] 28) = w2 at *
  go_loopw [5] (fun iv wr => ∃ (i : Nat) (vp vc : Value), iv = .int .i64 i ∧ i ≤ o.length ∧ Ext w0 wr ∧ Box3 wr w1.heap.size (.slice a1 o.length c1) vp vc ∧
    PresX (fun k => w.heap.size + 1 ≤ k ∧ k ≠ w1.heap.size) wr (.slice a1 o.length c1) vp vc ⟨o, List.replicate i (zeros o.length), (List.range i).map (trivC o.length)⟩) (fun iv _ => o.length - (intOf iv).toNat)
  case atStart => exact ⟨0, _, _, rfl, by omega, grown_trans hg1 hg2, hB2, hX2⟩
  case round =>
    clear hB2 hX2
    obtain ⟨i, vp, vc, rfl, hi, hg, hB, hX⟩ := hrel
    by_cases hlt : i < o.length
    · have hlt' : (i : Int) < o.length := by omega
      obtain ⟨Fo, Fp, Fc, hP⟩ := hX.part
      obtain ⟨a2, n2, c2, a3, n3, c3, rfl, rfl, hn2, hn3⟩ := hX.sh2
      have hnb : (Value.slice a2 n2 c2).ownBlock ≠ some w1.heap.size := by
        obtain ⟨_, _, _, _, _, q1, _⟩ := hP.p
        exact fun e => (hP.dp _ (q1 _ e)).1.2 rfl
      have HN := Lib.hid (And.intro hn2 (And.intro hnb hn3)); clear hn2 hn3 hnb
      obtain ⟨h0, h1, h2, h3, h4⟩ := id hB
      have hmk := run_mk_ints o.length (by omega)
      have hgM : Ext wr (wr.alloc (.cells (madeCells #[.int .i64 0] o.length) 2)).drew := grown_trans (World.grownBy_alloc _ _ _) (grown_drew _ _)
      have hOM : OwnIn (From wr.heap.size) (wr.alloc (.cells (madeCells #[.int .i64 0] o.length) 2)).drew (.slice (some ⟨wr.heap.size, 0, none⟩) o.length o.length) (zeros o.length) := by
        have := (own_mk_ints o.length (by omega) wr).ext0 (grown_drew _ none)
        exact OwnIn.of this (by rw [zeros_len]; omega) (fun k hk _ => hk)
      have hpl : (List.replicate i (zeros o.length)).length ≤ 1000000 := by simp; omega
      have hxs : (Value.slice (some ⟨wr.heap.size + 1, 0, none⟩) 1 1) = .slice (some ⟨(wr.alloc (.cells (madeCells #[.int .i64 0] o.length) 2)).drew.heap.size, 0, none⟩) 1 1 := by simp
      have HM := Lib.hid (And.intro hgM (And.intro hOM (And.intro hpl hxs))); clear hgM hOM hpl hxs
      go_wp2_with fail
      go_region_law (refine step_app_I rdOwn 25 (.slice none 0 0) 24 und_rows Tryz.infoRow rfl (by decide) (by rfl) _ _ (by rfl) Fp wr (wr.alloc (.cells (madeCells #[.int .i64 0] o.length) 2)).drew _ _ (List.replicate i (zeros o.length)) (zeros o.length) (by rfl) hP.p HM.out.1 HM.out.2.1 (by rfl) (by exact HM.out.2.2.2) HM.out.2.2.1 ?_; intro v5 w5 hO5 hg5 hg6; obtain ⟨g5, m5, k5, rfl, hm5⟩ := SlI.sl hO5; have hm6 : m5 = i + 1 := (by rw [hm5]; simp); clear hm5; subst hm6; have hB5 := Box3.keep hB hg5.size (hg5.block _ hB.1 (fun e => HN.out.2.1 e.symm)); obtain ⟨f0, f1, f2, f3, f4⟩ := id hB5)
      all_goals
        have hB6 := (hB5.put (.slice g5 (i + 1) k5)).2.1
        have hT6 := grown_set w5 w1.heap.size 1 (.slice g5 (i + 1) k5)
        have hX6 : PresX (fun k => w.heap.size + 1 ≤ k ∧ k ≠ w1.heap.size) (w5.setCell ⟨w1.heap.size, 1, none⟩ (.slice g5 (i + 1) k5)) (.slice a1 o.length c1) (.slice g5 (i + 1) k5) (.slice a3 n3 c3) ⟨o, List.replicate (i + 1) (zeros o.length), (List.range i).map (trivC o.length)⟩ := by
          have hX5 := hP.newP hO5 hg5
          rw [show List.replicate (i + 1) (zeros o.length) = List.replicate i (zeros o.length) ++ [zeros o.length] from List.replicate_succ']
          exact hX5.mono (frame_of hT6 (fun k hk hlt => by
            have hk' : (w.heap.size + 1 ≤ k ∧ k ≠ w1.heap.size) ∨ wr.heap.size ≤ k := hk
            refine ⟨?_, fun e => ?_⟩
            · have := HH.out; have := hB.1
              omega
            · cases e; have := hB.1; omega))
        have hg06 : Ext w0 (w5.setCell ⟨w1.heap.size, 1, none⟩ (.slice g5 (i + 1) k5)) := grown_own (grown_own hg hg5 (fun j hj hlt => by
          obtain ⟨_, _, _, _, _, q1, _⟩ := hP.p
          have := (hP.dp _ (q1 _ hj)).1; have := HH.out; omega)) hT6 (fun j hj hlt => by cases hj; have := HH.out; omega)
        have hsz6 : w5.heap.size = (w5.setCell ⟨w1.heap.size, 1, none⟩ (.slice g5 (i + 1) k5)).heap.size := by simp
        have HZ6 := Lib.hid hsz6; clear hsz6
        have HM6 := Lib.hid (And.intro hB6 (And.intro hX6 hg06)); clear hB6 hX6 hg06 hT6 hB5 hO5 hg5 hg6 hP hX hB hg h0 h1 h2 h3 h4 HM HN hmk
        go_wp2
        clear f0 f1 f2 f3 f4
        generalize w5.setCell ⟨w1.heap.size, 1, none⟩ (.slice g5 (i + 1) k5) = w6 at *
        rw [HZ6.out]
        clear HZ6
        have hg7 : Ext w6 (w6.alloc (.cells #[] 24)) := World.grownBy_alloc _ _ _
        have hO7 : RowsO w6.heap.size (w6.alloc (.cells #[] 24)) (.slice (some ⟨w6.heap.size, 0, none⟩) 0 0) ((trivC o.length i).take 0) := ⟨[], fun _ _ => False, rfl, World.ownsRow_lit w6 #[] 0 (Nat.le_refl _) (by decide) rfl, by simp, by simp, by simp⟩
        have hcl := trivC_len o.length i
        have HC := Lib.hid hcl; clear hcl
        go_loopw [6, 7] (fun rv jv wr => ∃ (j : Nat) (v4 : Value), v4 = rv ∧ jv = .int .i64 ((i + 1 + j : Nat) : Int) ∧ i + 1 + j ≤ o.length ∧ Ext w6 wr ∧ RowsO w6.heap.size wr v4 ((trivC o.length i).take j)) (fun _ jv _ => o.length - (intOf jv).toNat)
        case atStart => exact ⟨0, _, rfl, by go_num, by omega, hg7, hO7⟩
        case round =>
          clear hO7 hg7
          obtain ⟨j, v4, rfl, rfl, hj, hgj, hO⟩ := hrel
          by_cases hltj : i + 1 + j < o.length
          · have hltj' : ((i + 1 + j : Nat) : Int) < o.length := by omega
            have hstep : (trivC o.length i).take (j + 1) = (trivC o.length i).take j ++ [unitV o.length (i + 1 + j)] := by
              rw [take_succ_gt _ j (by rw [HC.out]; omega)]
              unfold trivC
              rw [gt_map _ _ _ (by simp; omega), gt_eq _ _ (by simp; omega), List.getElem_range]
            have htl : ((trivC o.length i).take j).length ≤ 1000000 := by rw [List.length_take]; omega
            have HS := Lib.hid (And.intro hstep htl); clear hstep htl
            go_wp2_with fail
            refine Calls.mono (l07Unit_ok o.length (i + 1 + j) wr hltj (by omega)) ?_
            rintro eC wC ⟨vC, rfl, hgC, hOC⟩
            have hYO : OwnIn (From wr.heap.size) wC vC (unitV o.length (i + 1 + j)) := OwnIn.of hOC (by rw [unitV_len]; omega) (fun j h1 _ => h1)
            obtain ⟨ay, capy, hvy, _, _⟩ := hYO.ints.shape
            subst hvy
            go_wp2_with (first | (at_builtin; refine wp_app_row rfl _ _ rfl w6.heap.size wr wC v4 _ ((trivC o.length i).take j) (unitV o.length (i + 1 + j)) rfl hO hgC hYO rfl rfl HS.out.2 hgj.size ?_; intro v5 w5 hO5 hg5 hg6; have hgw5 := hO.extw hgj (Nat.le_refl _) hg5) | fail)
            go_roundw
            case rel => exact ⟨j + 1, v5, rfl, by go_num, by omega, hgw5, by rw [HS.out.1]; exact hO5⟩
            case measure => simp [intOf]; omega
          · have hje : j = o.length - 1 - i := by omega
            subst hje
            rw [List.take_of_length_le (by rw [HC.out]; exact Nat.le_refl _)] at hO
            have hRI : RowsI (From w6.heap.size) wr v4 (trivC o.length i) := SlI.of hO (by rw [HC.out]; omega) (fun k h _ => h)
            have hB7 := HM6.out.1.ext hgj
            obtain ⟨Fo, Fp, Fc, hP⟩ := HM6.out.2.1.part
            have hcl3 : ((List.range i).map (trivC o.length)).length ≤ 1000000 := by simp; omega
            obtain ⟨a4, n4, c4, rfl, hn4⟩ := SlI.sl hRI
            have hnb : (Value.slice a3 n3 c3).ownBlock ≠ some w1.heap.size := by
              obtain ⟨_, _, _, _, _, q1, _⟩ := hP.c
              exact fun e => (hP.dc _ (q1 _ e)).2 rfl
            have HR := Lib.hid (And.intro hcl3 (And.intro hn4 hnb)); clear hcl3 hn4 hO hnb
            obtain ⟨f0, f1, f2, f3, f4⟩ := id hB7
            go_wp2_with (first | (at_builtin; refine wp_app_I (rdI rdOwn) 26 (.slice none 0 0) 24 und_rows3 Tryz.infoRows rfl (by decide) rfl _ _ rfl Fc w6 wr _ _ ((List.range i).map (trivC o.length)) (trivC o.length i) rfl hP.c hgj hRI rfl rfl HR.out.1 ?_; intro v8 w8 hO8 hg8 hg9; obtain ⟨g8, m8, k8, rfl, hm8⟩ := SlI.sl hO8; clear hm8; have hB8 := Box3.keep hB7 hg9.size (hg9.block _ hB7.1 (fun e => HR.out.2.2 e.symm)); clear f0 f1 f2 f3 f4; obtain ⟨f0, f1, f2, f3, f4⟩ := id hB8) | fail)
            have hB9 := (hB8.put (.slice g8 m8 k8)).2.2
            have hT9 := grown_set w8 w1.heap.size 2 (.slice g8 m8 k8)
            have hX9 : PresX (fun k => w.heap.size + 1 ≤ k ∧ k ≠ w1.heap.size) (w8.setCell ⟨w1.heap.size, 2, none⟩ (.slice g8 m8 k8)) (.slice a1 o.length c1) (.slice g5 (i + 1) k5) (.slice g8 m8 k8) ⟨o, List.replicate (i + 1) (zeros o.length), (List.range (i + 1)).map (trivC o.length)⟩ := by
              have hX8 := hP.newC hO8 hg8
              rw [show (List.range (i + 1)).map (trivC o.length) = (List.range i).map (trivC o.length) ++ [trivC o.length i] by rw [List.range_succ, List.map_append]; rfl]
              exact hX8.mono (frame_of hT9 (fun k hk hlt => by
                have hk' : (w.heap.size + 1 ≤ k ∧ k ≠ w1.heap.size) ∨ w6.heap.size ≤ k := hk
                have h1 := HM6.out.1.1
                refine ⟨?_, fun e => ?_⟩
                · have := HH.out
                  omega
                · cases e; omega))
            have hg09 : Ext w0 (w8.setCell ⟨w1.heap.size, 2, none⟩ (.slice g8 m8 k8)) := grown_own (grown_own HM6.out.2.2 hg8 (fun j hj hlt => by
              obtain ⟨_, _, _, _, _, q1, _⟩ := hP.c
              have := hP.dc _ (q1 _ hj); have := HH.out; omega)) hT9 (fun j hj hlt => by cases hj; have := HH.out; omega)
            clear f0 f1 f2 f3 f4
            go_roundw
            case rel => exact ⟨i + 1, _, _, by go_num, by omega, hg09, hB9, hX9⟩
            case measure => simp [intOf]; omega
        done
    · have hie : i = o.length := by omega
      subst hie
      have hz := HR0.out.ext hg
      obtain ⟨a2, n2, c2, a3, n3, c3, rfl, rfl, hn2, hn3⟩ := hX.sh2
      clear hn2 hn3
      obtain ⟨h0, h1, h2, h3, h4⟩ := id hB
      obtain ⟨k0, k1, k2, k3, k4⟩ := id hz
      have hZ := hz.all (.slice a1 o.length c1) (.slice a2 n2 c2) (.slice a3 n3 c3)
      have hT := grown_set3 wr w.heap.size (.slice a1 o.length c1) (.slice a2 n2 c2) (.slice a3 n3 c3)
      obtain ⟨_, z0, z1, z2, _⟩ := id hZ
      have HT := Lib.hid hT; clear hT hZ
      go_wp2
      refine bodyPost_ret (v := .agg #[.slice a1 o.length c1, .slice a2 n2 c2, .slice a3 n3 c3]) (by simp [results, Tryz.results277, go_sem, z0, z1, z2]) rfl ?_
      exact ⟨_, rfl, grown_own (grown_trans hg0 hg) HT.out (fun j hj hlt => by cases hj; omega), _, _, _, rfl, hX.mono (frame_of HT.out (fun k hk _ => ⟨by show w.heap.size ≤ k; omega, fun e => by cases e; omega⟩))⟩

end Go.Proofs.YtldheeicjnncoaaGreat
namespace Go.Proofs.YtldheeicjnncoaaGreat
open Go.RowKit

theorem step_app_intb {ops : Array Oper} {o : Oper} {a : Act} {K : Act → World → Prop} {Q : Exit → Act → World → Prop} {Ex : Prop} {w : World} (hgd : o.guard = none) (s x : Operand)
    (ho : o.op = Op.call { callee := Callee.builtin Builtin.append, args := #[s, x], argTypes := #[24, 24] }) (B : Nat) (v : Value) (l : List Int) (y : Int) (hs : a.eval s = v) (w2 : World) (hown : Own B w2 v l)
    (hw : w = w2.alloc (.cells #[.int .i64 y] 2)) (hx : a.eval x = .slice (some ⟨w2.heap.size, 0, none⟩) 1 1) (hlen : l.length ≤ 1000000) (hbase : B ≤ w2.heap.size)
    (h : ∀ v' w', Own B w' v' (l ++ [y]) → w2.grownBy w' v.ownBlock → (v'.ownBlock = v.ownBlock ∨ ∀ k, v'.ownBlock = some k → w2.heap.size ≤ k) → K (a.put o.dst v') w') :
    if Region.wanted o (yielded ops a.tmps) = true then Oper.wp Tryz.prog o a w K Q else Ex := by
  subst hw
  have hga : Ext w2 (w2.alloc (.cells #[.int .i64 y] 2)) := World.grownBy_alloc _ _ _
  refine step_app 24 2 (.int .i64 0) 8 und_ints Tryz.infoInt rfl (by decide) hgd s x ho B v (l.map (Value.int .i64)) hs (hown.ext0 hga).v w2.heap.size (.int .i64 y) hx (by rw [World.cell?_alloc_at _ _ _ _ rfl]; rfl) rfl (by simpa using (by omega : l.length ≤ 2000000)) (by have := hga.size; omega) ?_
  intro v' w' h1 h2 h3
  refine h v' w' (Own.of (by rw [List.map_append]; exact h1)) (grown_trans (grown_of_ext _ hga) h2) ?_
  rcases h3 with h3 | h3
  · exact .inl h3
  · refine .inr (fun k hk => ?_)
    rw [h3] at hk
    have := Option.some.inj hk
    simp at this
    omega

/-- the orders are put anew -/
theorem Part3.newO {F : Nat → Prop} {w w' : World} {vo vp vc v' : Value} {P : Pr} {Fo Fp Fc : Nat → Prop} (h : Part3 F w vo vp vc P Fo Fp Fc) {L : List Int} (hR : OwnIn (fun k => Fo k ∨ w.heap.size ≤ k) w' v' L) (hT : w.grownBy w' vo.ownBlock) :
    PresX (fun k => F k ∨ w.heap.size ≤ k) w' v' vp vc { P with orders := L } := by
  have hv : ∀ k, vo.ownBlock = some k → Fo k := h.o.2.1
  refine ⟨fun k => Fo k ∧ k < w.heap.size ∨ w.heap.size ≤ k, fun k => Fp k ∧ k < w.heap.size, fun k => Fc k ∧ k < w.heap.size,
    rdOwn.mono hR (fun k hk hlt => ⟨?_, hlt, rfl⟩),
    rdRowsI.mono h.p (fun k hk hlt => ⟨⟨hk, hlt⟩, Nat.lt_of_lt_of_le hlt hT.size, hT.block k hlt (fun e => (h.do_ k (hv k e.symm)).2.1 hk)⟩),
    rdRows3I.mono h.c (fun k hk hlt => ⟨⟨hk, hlt⟩, Nat.lt_of_lt_of_le hlt hT.size, hT.block k hlt (fun e => (h.do_ k (hv k e.symm)).2.2 hk)⟩),
    fun k hk => ⟨?_, fun e => ?_, fun e => ?_⟩, fun k hk => ⟨.inl (h.dp k hk.1).1, fun e => (h.dp k hk.1).2 e.1⟩, fun k hk => .inl (h.dc k hk.1)⟩
  · rcases hk with hk | hk
    · rcases Nat.lt_or_ge k w.heap.size with h | h
      · exact .inl ⟨hk, h⟩
      · exact .inr h
    · exact .inr hk
  · rcases hk with hk | hk
    · exact .inl (h.do_ k hk.1).1
    · exact .inr hk
  · rcases hk with hk | hk
    · exact (h.do_ k hk.1).2.1 e.1
    · omega
  · rcases hk with hk | hk
    · exact (h.do_ k hk.1).2.2 e.1
    · omega

/-- the variable in block qb holds three slices that read as Q, in blocks from B on, none of them with G -/
structure OutP (G : Nat → Prop) (B qb : Nat) (w : World) (x y z : Value) (Q : Pr) : Prop where
  le : B ≤ w.heap.size
  gl : ∀ k, G k → k < w.heap.size
  box : Box3 w qb x y z
  px : PresX (fun k => B ≤ k ∧ k ≠ qb ∧ ¬ G k) w x y z Q

section
variable {G : Nat → Prop} {B qb : Nat} {w w' : World} {x y z : Value} {Q : Pr}

theorem OutP.ext (h : OutP G B qb w x y z Q) (hg : Ext w w') : OutP G B qb w' x y z Q :=
  ⟨Nat.le_trans h.le hg.size, fun k hk => Nat.lt_of_lt_of_le (h.gl k hk) hg.size, h.box.ext hg, h.px.ext hg⟩
/-- further blocks are kept away from -/
theorem OutP.away {G' : Nat → Prop} (h : OutP G B qb w x y z Q) (hg : Ext w w') (h1 : ∀ k, G' k → k < w'.heap.size) (h2 : ∀ k, G' k → G k ∨ w.heap.size ≤ k) : OutP G' B qb w' x y z Q :=
  ⟨Nat.le_trans h.le hg.size, h1, h.box.ext hg, h.px.mono (fun k hk hlt => ⟨⟨hk.1, hk.2.1, fun e => by
    rcases h2 k e with h3 | h3
    · exact hk.2.2 h3
    · omega⟩, Nat.lt_of_lt_of_le hlt hg.size, hg.block k hlt (by simp)⟩)⟩
theorem OutP.start (hle : B ≤ w.heap.size) (hb : Box3 w qb (.slice none 0 0) (.slice none 0 0) (.slice none 0 0)) : OutP (fun _ => False) B qb w (.slice none 0 0) (.slice none 0 0) (.slice none 0 0) ⟨[], [], []⟩ :=
  ⟨hle, fun _ h => h.elim, hb, fun _ => False, fun _ => False, fun _ => False, OwnIn.nil _ _, ⟨[], fun _ _ => False, rfl, by simp, World.ownsRow_nil _ _ _ _, by simp [Value.ownBlock], by simp, by simp, by simp⟩,
    ⟨[], fun _ _ => False, rfl, by simp, World.ownsRow_nil _ _ _ _, by simp [Value.ownBlock], by simp, by simp, by simp⟩, fun _ h => h.elim, fun _ h => h.elim, fun _ h => h.elim⟩
/-- orders alone, made ahead of the variable -/
theorem OutP.ords {o : List Int} {B1 : Nat} (hle : B ≤ B1) (hB1 : B1 ≤ w.heap.size) (h : Own B w x o) (hx : ∀ k, x.ownBlock = some k → k ≠ qb) (hl : o.length ≤ 1000) (hb : Box3 w qb x (.slice none 0 0) (.slice none 0 0)) : OutP (fun _ => False) B qb w x (.slice none 0 0) (.slice none 0 0) ⟨o, [], []⟩ :=
  ⟨Nat.le_trans hle hB1, fun _ h => h.elim, hb, fun k => x.ownBlock = some k, fun _ => False, fun _ => False, ⟨h.weak (Nat.zero_le _), fun _ hk => hk, by show o.length ≤ _; omega⟩, ⟨[], fun _ _ => False, rfl, by simp, World.ownsRow_nil _ _ _ _, by simp [Value.ownBlock], by simp, by simp, by simp⟩,
    ⟨[], fun _ _ => False, rfl, by simp, World.ownsRow_nil _ _ _ _, by simp [Value.ownBlock], by simp, by simp, by simp⟩, fun k hk => ⟨⟨(h.lt k hk).1, hx k hk, fun e => e⟩, fun e => e, fun e => e⟩, fun _ h => h.elim, fun _ h => h.elim⟩

/-- the parts, with the blocks of their slices -/
theorem OutP.parts (h : OutP G B qb w x y z Q) : ∃ Fo Fp Fc, Part3 (fun k => B ≤ k ∧ k ≠ qb ∧ ¬ G k) w x y z Q Fo Fp Fc ∧ (∀ k, x.ownBlock = some k → B ≤ k ∧ k ≠ qb ∧ ¬ G k) ∧ (∀ k, y.ownBlock = some k → B ≤ k ∧ k ≠ qb ∧ ¬ G k) ∧ (∀ k, z.ownBlock = some k → B ≤ k ∧ k ≠ qb ∧ ¬ G k) := by
  obtain ⟨Fo, Fp, Fc, hP⟩ := h.px.part
  refine ⟨Fo, Fp, Fc, hP, fun k e => (hP.do_ k (hP.o.2.1 k e)).1, fun k e => ?_, fun k e => ?_⟩
  · obtain ⟨_, _, _, _, _, q1, _⟩ := hP.p
    exact (hP.dp k (q1 k e)).1
  · obtain ⟨_, _, _, _, _, q1, _⟩ := hP.c
    exact hP.dc k (q1 k e)
/-- behind an append into one of the three -/
theorem OutP.boxed (h : OutP G B qb w x y z Q) {v : Value} (hv : ∀ k, v.ownBlock = some k → B ≤ k ∧ k ≠ qb ∧ ¬ G k) (hg : w.grownBy w' v.ownBlock) : Box3 w' qb x y z :=
  h.box.keep hg.size (hg.block _ h.box.1 (fun e => (hv _ e.symm).2.1 rfl))
theorem OutP.near {w0 : World} (_h : OutP G B qb w x y z Q) {v v' : Value} {j : Nat} (hv : ∀ k, v.ownBlock = some k → B ≤ k ∧ k ≠ qb ∧ ¬ G k) (hg : w.grownBy w' v.ownBlock) (h0 : w0.heap.size ≤ B) (hw : w0.grownBy w (some qb)) : w0.grownBy (w'.setCell ⟨qb, j, none⟩ v') (some qb) :=
  grown_trans (grown_own hw hg (fun k hk hlt => by have := (hv k hk).1; omega)) (grown_set1 _ _ _ _)

theorem OutP.nearE {w0 : World} (_h : OutP G B qb w x y z Q) {v v' : Value} {j : Nat} (hv : ∀ k, v.ownBlock = some k → B ≤ k ∧ k ≠ qb ∧ ¬ G k) (hg : w.grownBy w' v.ownBlock) (h0 : w0.heap.size ≤ B) (hq : w0.heap.size ≤ qb) (hw : Ext w0 w) : Ext w0 (w'.setCell ⟨qb, j, none⟩ v') :=
  grown_own (grown_own hw hg (fun k hk hlt => by have := (hv k hk).1; omega)) (grown_set1 _ _ _ _) (fun k hk hlt => by have := Option.some.inj hk; omega)
theorem OutP.done (h : OutP G B qb w x y z Q) {Q' : Pr} {x' y' z' v : Value} {j : Nat} (hg : w.grownBy w' v.ownBlock)
    (hp : PresX (fun k => (B ≤ k ∧ k ≠ qb ∧ ¬ G k) ∨ w.heap.size ≤ k) w' x' y' z' Q') {u : Value} (hb : Box3 (w'.setCell ⟨qb, j, none⟩ u) qb x' y' z') : OutP G B qb (w'.setCell ⟨qb, j, none⟩ u) x' y' z' Q' := by
  have hs := grown_set1 w' qb j u
  refine ⟨Nat.le_trans h.le (Nat.le_trans hg.size hs.size), fun k hk => Nat.lt_of_lt_of_le (h.gl k hk) (Nat.le_trans hg.size hs.size), hb, hp.mono (fun k hk hlt => ⟨?_, Nat.lt_of_lt_of_le hlt hs.size, hs.block k hlt (fun e => ?_)⟩)⟩
  · rcases hk with hk | hk
    · exact hk
    · exact ⟨Nat.le_trans h.le hk, fun e => by have := h.box.1; omega, fun e => by have := h.gl k e; omega⟩
  · have e := Option.some.inj e
    have h1 := h.box.1
    rcases hk with hk | hk
    · exact hk.2.1 e
    · omega

theorem OutP.putO (h : OutP G B qb w x y z Q) {v' : Value} {c : Int} (hO : Own 0 w' v' (Q.orders ++ [c])) (hg : w.grownBy w' x.ownBlock) (hb : v'.ownBlock = x.ownBlock ∨ ∀ k, v'.ownBlock = some k → w.heap.size ≤ k) (hl : Q.orders.length ≤ 1000) :
    OutP G B qb (w'.setCell ⟨qb, 0, none⟩ v') v' y z { Q with orders := Q.orders ++ [c] } := by
  obtain ⟨Fo, Fp, Fc, hP, h1, h2, h3⟩ := h.parts
  refine h.done hg (hP.newO (L := Q.orders ++ [c]) ⟨hO, fun k hk => ?_, by rw [List.length_append, List.length_singleton]; omega⟩ hg) ((h.boxed h1 hg).put v').1
  rcases hb with hb | hb
  · exact .inl (hP.o.2.1 k (by rw [← hb]; exact hk))
  · exact .inr (hb k hk)
/-- a row behind the powers: what an append makes of the slice (Fp: the blocks of the powers) -/
theorem OutP.putP (h : OutP G B qb w x y z Q) {Fo Fp Fc : Nat → Prop} (hP : Part3 (fun k => B ≤ k ∧ k ≠ qb ∧ ¬ G k) w x y z Q Fo Fp Fc) {v' : Value} {L : List (List Int)} (hO : RowsI (fun k => Fp k ∨ w.heap.size ≤ k) w' v' L) (hg : w.grownBy w' y.ownBlock) :
    OutP G B qb (w'.setCell ⟨qb, 1, none⟩ v') x v' z { Q with powers := L } := by
  obtain ⟨_, _, _, _, h1, h2, h3⟩ := h.parts
  exact h.done hg (hP.newP hO hg) ((h.boxed h2 hg).put v').2.1
theorem OutP.putC (h : OutP G B qb w x y z Q) {Fo Fp Fc : Nat → Prop} (hP : Part3 (fun k => B ≤ k ∧ k ≠ qb ∧ ¬ G k) w x y z Q Fo Fp Fc) {v' : Value} {L : List (List (List Int))} (hO : Rows3I (fun k => Fc k ∨ w.heap.size ≤ k) w' v' L) (hg : w.grownBy w' z.ownBlock) :
    OutP G B qb (w'.setCell ⟨qb, 2, none⟩ v') x y v' { Q with conj := L } := by
  obtain ⟨_, _, _, _, h1, h2, h3⟩ := h.parts
  exact h.done hg (hP.newC hO hg) ((h.boxed h3 hg).put v').2.2
/-- the value that is handed back -/
theorem OutP.ret (h : OutP G B qb w x y z Q) {B0 rb : Nat} (h0 : B0 ≤ B) (hr : rb < B) {w' : World} (hT : w.grownBy w' (some rb)) : PresR B0 Q w' (.agg #[x, y, z]) :=
  ⟨_, _, _, rfl, h.px.mono (fun k hk hlt => ⟨Nat.le_trans h0 hk.1, Nat.lt_of_lt_of_le hlt hT.size, hT.block k hlt (fun e => by have := Option.some.inj e; have := hk.1; omega)⟩)⟩
end

end Go.Proofs.YtldheeicjnncoaaGreat
