/-
  Finding an element: slices.BinarySearchFunc with slices.Compare, slices.IndexFunc, impl.classNumber.
  The order of slices.Compare is a total order on lists of integers. Plain.
  The reference's multiplication: spec.l08At computes rAt.
  spec.IsPresentation decides the same as impl.IsPresentation.
  The reference's inverse, conjugate and power: spec.l10From, l10Inv, l10Conj, l08Repeat.
  The reference's power: spec.l08Repeat.
-/
import Derived.Test.YtbfbpjkpoepmkaaK3
import Derived.Test.YtbfbpjkpoepmkaaK2
import Derived.BigRegion
/- Finding an element: slices.BinarySearchFunc with slices.Compare, slices.IndexFunc, impl.classNumber. -/
namespace Go.Proofs.Ytbfbpjkpoepmkaa
open Go.RowKit

/-- the binary search of the library: the first place in [lo, hi) whose row is not less than X -/
def bsTo (C : List (List Int)) (X : List Int) : Nat → Nat → Nat → Nat
  | 0, lo, _ => lo
  | f + 1, lo, hi => if lo < hi then (if cmpL (gt C ((lo + hi) / 2)) X < 0 then bsTo C X f ((lo + hi) / 2 + 1) hi else bsTo C X f lo ((lo + hi) / 2)) else lo
def bs (C : List (List Int)) (X : List Int) : Nat := bsTo C X (C.length + 1) 0 C.length
def bsFound (C : List (List Int)) (X : List Int) : Bool := decide (bs C X < C.length) && decide (cmpL (gt C (bs C X)) X = 0)

set_option maxHeartbeats 4000000 in
theorem binSearch_ok (c x : Value) (C : List (List Int)) (X : List Int) (w : World) (Sc Sx : Nat → Prop) (hc : Rows2 Sc w c C) (hx : Ints Sx w x X) (hlen : C.length ≤ 1048576) :
    Calls Try.prog 56 #[c, x, .func (.func 57) #[] #[]] w fun e w' => e = .returned (.tuple #[.int .i64 (bs C X : Nat), .bool (bsFound C X)]) ∧ w' = w := by
  obtain ⟨ac, capc, rfl, _, _⟩ := hc.shape
  go_enter Try.func56, Try.ntmps56
  go_wp2
  go_loopw [9, 10] (fun lv hv wr => ∃ lo hi f : Nat, lv = .int .i64 lo ∧ hv = .int .i64 hi ∧ lo ≤ hi ∧ hi ≤ C.length ∧ hi < lo + f ∧ wr = w ∧ bs C X = bsTo C X f lo hi) (fun lv hv _ => (intOf hv - intOf lv).toNat)
  case atStart => exact ⟨0, C.length, C.length + 1, rfl, rfl, by omega, by omega, by omega, rfl, rfl⟩
  case round =>
    obtain ⟨lo, hi, f, rfl, rfl, hlh, hhi, hf, rfl, hbs⟩ := hrel
    have HB := Lib.hid hbs; clear hbs
    by_cases hlt : lo < hi
    · have hlt' : (lo : Int) < hi := by omega
      obtain ⟨f, rfl⟩ : ∃ f', f = f' + 1 := ⟨f - 1, by omega⟩
      have hbs := HB.out
      simp only [bsTo, if_pos hlt] at hbs
      have HB2 := Lib.hid hbs; clear hbs HB
      obtain ⟨mid, hmid⟩ : ∃ mid, (lo + hi) / 2 = mid := ⟨_, rfl⟩
      have hm1 : lo ≤ mid ∧ mid < hi := by omega
      obtain ⟨bc, oc, ac2, capc2, rfl, _, _, hcc, hci⟩ := Rows2.at hc mid (by omega)
      have hcon := sCompare_ok _ x (gt C mid) X wr _ _ hci hx
      go_wp2_with fail
      refine Calls.mono hcon ?_
      rintro e1 w1 ⟨rfl, rfl⟩
      clear hcon
      rw [hmid] at HB2
      by_cases hneg : cmpL (gt C mid) X < 0
      · have hbs := HB2.out
        rw [if_pos hneg] at hbs
        have HB3 := Lib.hid hbs; clear hbs HB2 hcc
        go_wp2
        go_roundw
        case rel => exact ⟨mid + 1, hi, f, by go_num, rfl, by omega, by omega, by omega, trivial, HB3.out⟩
        case measure => simp [intOf]; omega
      · have hbs := HB2.out
        rw [if_neg hneg] at hbs
        have HB3 := Lib.hid hbs; clear hbs HB2 hcc
        go_wp2
        go_roundw
        case rel => exact ⟨lo, mid, f, rfl, congrArg (Value.int .i64) (by omega), by omega, by omega, by omega, trivial, HB3.out⟩
        case measure => simp [intOf]; omega
    · have hle : hi ≤ lo := by omega
      have hbs := HB.out
      have hbl : bs C X = lo := by
        rw [hbs]; cases f with
        | zero => rfl
        | succ f => simp only [bsTo, if_neg hlt]
      have HBL := Lib.hid hbl; clear hbl hbs HB
      have hbf : bsFound C X = (decide (lo < C.length) && decide (cmpL (gt C lo) X = 0)) := by unfold bsFound; rw [HBL.out]
      have HBF := Lib.hid hbf; clear hbf
      by_cases hin : lo < C.length
      · obtain ⟨bc, oc, ac2, capc2, rfl, _, _, hcc, hci⟩ := Rows2.at hc lo hin
        have hcon := sCompare_ok _ x (gt C lo) X wr _ _ hci hx
        go_wp2_with fail
        refine Calls.mono hcon ?_
        rintro e1 w1 ⟨rfl, rfl⟩
        clear hcon
        go_wp2
        exact bodyPost_ret (v := .tuple #[.int .i64 lo, .bool (cmpL (gt C lo) X == 0)]) (by simp [results, Try.results56, go_sem]) rfl ⟨by rw [HBL.out, HBF.out]; simp [hin]; rfl, rfl⟩
      · have hin' : C.length ≤ lo := by omega
        go_wp2
        exact bodyPost_ret (v := .tuple #[.int .i64 lo, .bool false]) (by simp [results, Try.results56, go_sem]) rfl ⟨by rw [HBL.out, HBF.out]; simp [hin], rfl⟩

set_option maxHeartbeats 4000000 in
theorem numClosure_ok (c x : Value) (pb : Nat) (C : List (List Int)) (X : List Int) (w : World) (Sc Sx : Nat → Prop) (hc : Rows2 Sc w c C) (hx : Ints Sx w x X) (hlen : C.length ≤ 1048576) (hp : w.cell? ⟨pb, 0, none⟩ = some x) :
    Calls Try.prog 55 #[c, .pointer (some ⟨pb, 0, none⟩)] w fun e w' => e = .returned (.bool (bsFound C X)) ∧ w' = w := by
  obtain ⟨ac, capc, rfl, _, _⟩ := hc.shape
  obtain ⟨ax, capx, rfl, _, _⟩ := hx.shape
  go_enter Try.func55, Try.ntmps55
  go_wp2_with fail
  refine Calls.mono (binSearch_ok _ _ C X w _ _ hc hx hlen) ?_
  rintro e1 w1 ⟨rfl, rfl⟩
  go_wp2
  exact bodyPost_ret (v := .bool (bsFound C X)) (by simp [results, Try.results55, go_sem]) rfl ⟨rfl, rfl⟩

/-- r is the first index below n at which p holds, or -1 -/
def FirstAt (p : Nat → Bool) (n : Nat) (r : Int) : Prop := (∃ k : Nat, r = k ∧ k < n ∧ p k = true ∧ ∀ j, j < k → p j = false) ∨ (r = -1 ∧ ∀ j, j < n → p j = false)

set_option maxHeartbeats 4000000 in
theorem indexFunc_ok (cc x : Value) (pb : Nat) (CC : List (List (List Int))) (X : List Int) (w : World) (Sc Sx : Nat → Prop) (hc : Rows3 Sc w cc CC) (hx : Ints Sx w x X) (hlen : ∀ i, i < CC.length → (gt CC i).length ≤ 1048576) (hp : w.cell? ⟨pb, 0, none⟩ = some x) :
    Calls Try.prog 54 #[cc, .func (.func 55) #[] #[.pointer (some ⟨pb, 0, none⟩)]] w fun e w' => (∃ r : Int, e = .returned (.int .i64 r) ∧ FirstAt (fun i => bsFound (gt CC i) X) CC.length r) ∧ w' = w := by
  obtain ⟨ac, capc, rfl, _, _⟩ := Sl.shape hc
  go_enter Try.func54, Try.ntmps54
  go_wp2
  go_loopw [8] (fun v wr => ∃ k : Nat, v = .int .i64 k ∧ k ≤ CC.length ∧ wr = w ∧ ∀ j, j < k → bsFound (gt CC j) X = false) (fun v _ => CC.length - (intOf v).toNat)
  case atStart => exact ⟨0, rfl, by omega, rfl, fun j h => by omega⟩
  case round =>
    obtain ⟨k, rfl, hk, rfl, hno⟩ := hrel
    have HN := Lib.hid hno; clear hno
    by_cases hlt : k < CC.length
    · have hlt' : (k : Int) < CC.length := by omega
      obtain ⟨bc, oc, ac2, capc2, rfl, _, _, hcc, hci⟩ := Rows3.at hc k hlt
      have hl := hlen k hlt
      have hcon := numClosure_ok _ x pb (gt CC k) X wr _ _ hci hx hl hp
      clear hp
      go_wp2_with fail
      refine Calls.mono hcon ?_
      rintro e1 w1 ⟨rfl, rfl⟩
      clear hcon
      cases hb : bsFound (gt CC k) X with
      | true =>
        have HB := Lib.hid hb; clear hb
        go_wp2
        exact bodyPost_ret (v := .int .i64 k) (by simp [results, Try.results54, go_sem]) rfl ⟨⟨_, rfl, .inl ⟨k, rfl, hlt, HB.out, HN.out⟩⟩, rfl⟩
      | false =>
        have HB := Lib.hid hb; clear hb hcc
        go_wp2
        go_roundw
        case rel => exact ⟨k + 1, by go_num, by omega, trivial, fun j hj => by
          rcases Nat.lt_or_ge j k with h | h
          · exact HN.out j h
          · have : j = k := by omega
            rw [this]; exact HB.out⟩
        case measure => simp [intOf]; omega
    · have hke : k = CC.length := by omega
      subst hke
      go_wp2
      exact bodyPost_ret (v := .int .i64 (-1)) (by simp [results, Try.results54, go_sem]) rfl ⟨⟨_, rfl, .inr ⟨rfl, HN.out⟩⟩, rfl⟩

set_option maxHeartbeats 4000000 in
theorem classNumber_ok (cc x : Value) (CC : List (List (List Int))) (X : List Int) (w : World) (Sc Sx : Nat → Prop) (hc : Rows3 Sc w cc CC) (hx : Ints Sx w x X) (hlen : ∀ i, i < CC.length → (gt CC i).length ≤ 1048576) :
    Calls Try.prog 39 #[cc, x] w (Ret w fun _ v => ∃ r : Int, v = .int .i64 r ∧ FirstAt (fun i => bsFound (gt CC i) X) CC.length r) := by
  obtain ⟨ac, capc, rfl, _, _⟩ := Sl.shape hc
  obtain ⟨ax, capx, rfl, _, _⟩ := hx.shape
  go_enter Try.func39, Try.ntmps39
  go_wp2_with fail
  have hg0 : Ext w (w.alloc (.cells #[.slice ax X.length capx] 22)) := World.grownBy_alloc _ _ _
  refine Calls.mono (indexFunc_ok _ _ w.heap.size CC X _ _ _ (Rows3.ext hc hg0) (Ints.ext hx hg0) hlen (by rw [World.cell?_alloc_at _ _ _ _ rfl]; rfl)) ?_
  rintro e1 w1 ⟨⟨r, rfl, hr⟩, rfl⟩
  go_wp2
  exact bodyPost_ret (v := .int .i64 r) (by simp [results, Try.results39, go_sem]) rfl ⟨_, rfl, hg0, r, rfl, hr⟩

end Go.Proofs.Ytbfbpjkpoepmkaa

/- The order of slices.Compare is a total order on lists of integers. Plain. -/
namespace Go.Proofs.Ytbfbpjkpoepmkaa
open Go.RowKit

theorem cmpI_cases (a b : Int) : (cmpI a b = -1 ∧ a < b) ∨ (cmpI a b = 0 ∧ a = b) ∨ (cmpI a b = 1 ∧ b < a) := by
  unfold cmpI
  by_cases h : a < b
  · simp [h]
  · by_cases h2 : b < a
    · simp [h, h2]
    · simp [h, h2]; omega

theorem cmpL_zero : ∀ (x y : List Int), cmpL x y = 0 ↔ x = y
  | [], [] => by simp [cmpL]
  | [], _ :: _ => by simp [cmpL]
  | _ :: _, [] => by simp [cmpL]
  | x :: xs, y :: ys => by
    simp only [cmpL]
    rcases cmpI_cases x y with ⟨h, h2⟩ | ⟨h, h2⟩ | ⟨h, h2⟩
    · simp [h]; omega
    · rw [if_pos h, cmpL_zero xs ys]; simp [h2]
    · simp [h]; omega

theorem cmpL_swap : ∀ (x y : List Int), cmpL y x = - cmpL x y
  | [], [] => by simp [cmpL]
  | [], _ :: _ => by simp [cmpL]
  | _ :: _, [] => by simp [cmpL]
  | x :: xs, y :: ys => by
    simp only [cmpL]
    have ih := cmpL_swap xs ys
    rcases cmpI_cases x y with ⟨h, h2⟩ | ⟨h, h2⟩ | ⟨h, h2⟩ <;> rcases cmpI_cases y x with ⟨k, k2⟩ | ⟨k, k2⟩ | ⟨k, k2⟩ <;> simp [h, k, ih] <;> omega

theorem cmpL_le_trans : ∀ (x y z : List Int), cmpL x y ≤ 0 → cmpL y z ≤ 0 → cmpL x z ≤ 0
  | [], [], [] => by simp [cmpL]
  | [], [], _ :: _ => by simp [cmpL]
  | [], _ :: _, [] => by simp [cmpL]
  | [], _ :: _, _ :: _ => by simp [cmpL]
  | _ :: _, [], [] => by simp [cmpL]
  | _ :: _, [], _ :: _ => by simp [cmpL]
  | _ :: _, _ :: _, [] => by simp [cmpL]
  | x :: xs, y :: ys, z :: zs => by
    simp only [cmpL]
    have ih := cmpL_le_trans xs ys zs
    rcases cmpI_cases x y with ⟨h, h2⟩ | ⟨h, h2⟩ | ⟨h, h2⟩ <;> rcases cmpI_cases y z with ⟨k, k2⟩ | ⟨k, k2⟩ | ⟨k, k2⟩ <;> rcases cmpI_cases x z with ⟨l, l2⟩ | ⟨l, l2⟩ | ⟨l, l2⟩ <;> simp [h, k, l] <;> first | omega | (intros; omega) | exact ih | skip

theorem cmpL_total (x y : List Int) : cmpL x y ≤ 0 ∨ cmpL y x ≤ 0 := by have := cmpL_swap x y; omega
theorem cmpL_antisymm {x y : List Int} (h : cmpL x y ≤ 0) (k : cmpL y x ≤ 0) : x = y := by
  have := cmpL_swap x y
  exact (cmpL_zero x y).1 (by omega)

/-- ascending by cmpL -/
def SortedL (L : List (List Int)) : Prop := L.Pairwise (fun x y => cmpL x y ≤ 0)
def sortL (L : List (List Int)) : List (List Int) := L.mergeSort (fun x y => decide (cmpL x y ≤ 0))

theorem sortL_perm (L : List (List Int)) : (sortL L).Perm L := List.mergeSort_perm _ _
theorem sortL_sorted (L : List (List Int)) : SortedL (sortL L) := by
  have h := List.pairwise_mergeSort (le := fun x y => decide (cmpL x y ≤ 0)) (fun a b c h k => by simp at *; exact cmpL_le_trans a b c h k) (fun a b => by simp; exact cmpL_total a b) L
  exact h.imp (fun h => by simpa using h)

theorem sorted_unique : ∀ (L M : List (List Int)), SortedL L → SortedL M → L.Perm M → L = M := by
  intro L
  induction L with
  | nil => intro M _ _ h; exact (List.nil_perm.1 h).symm ▸ rfl
  | cons x L ih =>
    intro M hL hM hp
    cases M with
    | nil => exact absurd hp.symm (by simp)
    | cons y M =>
      have hxM : x ∈ y :: M := hp.subset (by simp)
      have hyL : y ∈ x :: L := hp.symm.subset (by simp)
      have hxy : x = y := by
        rcases List.mem_cons.1 hxM with h | h
        · exact h
        · rcases List.mem_cons.1 hyL with k | k
          · exact k.symm
          · exact cmpL_antisymm ((List.pairwise_cons.1 hL).1 y k) ((List.pairwise_cons.1 hM).1 x h)
      subst hxy
      rw [ih M (List.pairwise_cons.1 hL).2 (List.pairwise_cons.1 hM).2 (List.perm_cons x |>.1 hp)]

theorem sortL_unique {L M : List (List Int)} (h : M.Perm L) (hs : SortedL M) : M = sortL L :=
  sorted_unique _ _ hs (sortL_sorted L) (h.trans (sortL_perm L).symm)

theorem sortedL_le {C : List (List Int)} (h : SortedL C) {i j : Nat} (hij : i ≤ j) (hj : j < C.length) : cmpL (gt C i) (gt C j) ≤ 0 := by
  rcases Nat.lt_or_eq_of_le hij with h1 | rfl
  · have := (List.pairwise_iff_getElem.1 h) i j (by omega) hj h1
    simpa [gt, hj, show i < C.length by omega] using this
  · have := (cmpL_zero (gt C i) (gt C i)).2 rfl
    omega

theorem bsTo_spec (C : List (List Int)) (X : List Int) (hs : SortedL C) : ∀ (f lo hi : Nat), hi < lo + f → lo ≤ hi → hi ≤ C.length →
    (∀ j, j < lo → cmpL (gt C j) X < 0) → (∀ j, hi ≤ j → j < C.length → 0 ≤ cmpL (gt C j) X) →
    bsTo C X f lo hi ≤ C.length ∧ (∀ j, j < bsTo C X f lo hi → cmpL (gt C j) X < 0) ∧ (∀ j, bsTo C X f lo hi ≤ j → j < C.length → 0 ≤ cmpL (gt C j) X) := by
  intro f
  induction f with
  | zero => intro lo hi h1 h2; omega
  | succ f ih =>
    intro lo hi h1 h2 h3 h4 h5
    simp only [bsTo]
    by_cases hlt : lo < hi
    · rw [if_pos hlt]
      by_cases hn : cmpL (gt C ((lo + hi) / 2)) X < 0
      · rw [if_pos hn]
        refine ih _ _ (by omega) (by omega) h3 ?_ h5
        intro j hj
        have h6 := sortedL_le hs (show j ≤ (lo + hi) / 2 by omega) (by omega)
        have h7 : ¬ (0 ≤ cmpL (gt C j) X) := by
          intro h8
          have h9 := cmpL_swap (gt C j) X
          have h10 := cmpL_le_trans X (gt C j) (gt C ((lo + hi) / 2)) (by omega) h6
          have h11 := cmpL_swap (gt C ((lo + hi) / 2)) X
          omega
        omega
      · rw [if_neg hn]
        refine ih _ _ (by omega) (by omega) (by omega) h4 ?_
        intro j hj hj2
        have h6 := sortedL_le hs (show (lo + hi) / 2 ≤ j by omega) hj2
        have h7 : ¬ (cmpL (gt C j) X < 0) := by
          intro h8
          have h10 := cmpL_le_trans (gt C ((lo + hi) / 2)) (gt C j) X h6 (by omega)
          have h11 : cmpL (gt C ((lo + hi) / 2)) X = 0 := by omega
          rw [cmpL_zero] at h11
          rw [h11] at h6
          have := cmpL_swap X (gt C j)
          omega
        omega
    · rw [if_neg hlt]
      exact ⟨by omega, h4, fun j hj hj2 => h5 j (by omega) hj2⟩

theorem gt_mem {α : Type} [Inhabited α] {l : List α} {i : Nat} (h : i < l.length) : gt l i ∈ l := by
  simp only [gt, List.getD_eq_getElem?_getD, List.getElem?_eq_getElem h, Option.getD_some]
  exact List.getElem_mem h
theorem mem_gt {α : Type} [Inhabited α] {l : List α} {x : α} (h : x ∈ l) : ∃ i, i < l.length ∧ gt l i = x := by
  obtain ⟨i, hi, rfl⟩ := List.getElem_of_mem h
  exact ⟨i, hi, by simp [gt, hi]⟩

/-- on a sorted row the library's search finds just the members -/
theorem bsFound_mem (C : List (List Int)) (X : List Int) (hs : SortedL C) : bsFound C X = decide (X ∈ C) := by
  obtain ⟨h1, h2, h3⟩ := bsTo_spec C X hs (C.length + 1) 0 C.length (by omega) (by omega) (Nat.le_refl _) (fun j hj => by omega) (fun j hj hj2 => by omega)
  have hb : bs C X = bsTo C X (C.length + 1) 0 C.length := rfl
  rw [← hb] at h1 h2 h3
  by_cases hm : X ∈ C
  · obtain ⟨i, hi, hx⟩ := mem_gt hm
    have h0 : cmpL (gt C i) X = 0 := (cmpL_zero _ _).2 hx
    have hbi : bs C X ≤ i := by
      rcases Nat.lt_or_ge i (bs C X) with h | h
      · have := h2 i h; omega
      · exact h
    have h4 := h3 (bs C X) (Nat.le_refl _) (by omega)
    have h5 := sortedL_le hs hbi hi
    rw [hx] at h5
    have h6 : cmpL (gt C (bs C X)) X = 0 := by omega
    simp [bsFound, hm, h6]; omega
  · by_cases hl : bs C X < C.length
    · have : cmpL (gt C (bs C X)) X ≠ 0 := by
        intro h
        rw [cmpL_zero] at h
        exact hm (h ▸ gt_mem hl)
      simp [bsFound, hm, this]
    · simp [bsFound, hm]; omega

end Go.Proofs.Ytbfbpjkpoepmkaa

/- The reference's multiplication: spec.l08At computes rAt. -/
namespace Go.Proofs.Ytbfbpjkpoepmkaa
open Go.RowKit

set_option maxHeartbeats 2000000 in
theorem l08At_zero (P : Pr) (hP : Valid P) : AtOk P 0 := by
  intro w pv a b i A B Sp Sa Sb hi hp ha hb hA hB
  obtain ⟨vo, vp, vc, rfl, h3⟩ := hp
  have hn6 := hP.n6
  have hBx := PresP.box h3 30
  obtain ⟨ao, capo, hco, hoi⟩ := hBx.ordAt
  have hi2 : (i : Int) = P.orders.length := by omega
  have hi3 : ((P.orders.length : Int) ≤ (i : Int)) := by omega
  have HI := Lib.hid hi2; clear hi2
  go_enter Try.func71, Try.ntmps71
  go_wp2_with (at_make; refine wp_make_ints rfl _ _ rfl (w.heap.size + 1) P.orders.length (w.heap.size + 1) (by simp) _ rfl rfl rfl (by omega) (by simp) ?_; intro w1 ho1 hg1 _)
  go_ret
  exact ⟨_, rfl, grown_trans (World.grownBy_alloc _ _ _) hg1, ho1.weak (by omega)⟩

set_option maxHeartbeats 4000000 in
theorem l08At_succ (P : Pr) (hP : Valid P) (f : Nat) (ih : AtOk P f) : AtOk P (f + 1) := by
  intro w pv a b i A B Sp Sa Sb hi hp ha hb hA hB
  obtain ⟨vo, vp, vc, rfl, h3⟩ := hp
  have hn6 := hP.n6
  have hBx := PresP.box h3 30
  have ha0 := ha.ext (World.grownBy_alloc w (.cells #[vo, vp, vc] 30) none)
  have hb0 := hb.ext (World.grownBy_alloc w (.cells #[vo, vp, vc] 30) none)
  have hlA : A.length ≤ P.orders.length ∧ P.orders.length ≤ A.length := by rw [hA.1]; omega
  have hlB : B.length ≤ P.orders.length ∧ P.orders.length ≤ B.length := by rw [hB.1]; omega
  have hg0 : Ext w (w.alloc (.cells #[vo, vp, vc] 30)) := World.grownBy_alloc _ _ _
  have hs0 : (w.alloc (.cells #[vo, vp, vc] 30)).heap.size = w.heap.size + 1 := by simp
  have HS := Lib.hid hs0; clear hs0
  clear ha hb
  go_enter Try.func71, Try.ntmps71
  obtain ⟨ao, capo, hco, hoi⟩ := hBx.ordAt
  go_wp2_with fail
  clear hco hoi
  generalize hw0 : w.alloc (.cells #[vo, vp, vc] 30) = w0 at *
  clear hw0
  refine Calls.mono (l01Own_ok w0 a A Sa ha0 (by omega)) ?_
  rintro e1 w1 ⟨L, rfl, hg1, hL⟩
  go_wp2_with fail
  refine Calls.mono (l01Own_ok w1 b B Sb (hb0.ext hg1) (by omega)) ?_
  rintro e2 w2 ⟨R, rfl, hg2, hR⟩
  have hL2 := hL.ext0 hg2
  obtain ⟨gl, capl, rfl, hbl, hsl⟩ := hL.form (by omega)
  obtain ⟨gr, capr, rfl, hbr, hsr⟩ := hR.form (by omega)
  have hne : gl ≠ gr := by omega
  have c1 := hL2.cell i (by omega)
  have f1 := hL2.frozen i
  obtain ⟨hL3, hg3⟩ := hL2.store i 0
  have hR3 := hR.ext hg3 (.inr (by intro h; cases h; exact hne rfl))
  have c2 := hR3.cell i (by omega)
  have f2 := hR3.frozen i
  obtain ⟨hR4, hg4⟩ := hR3.store i 0
  have hL4 := hL3.ext hg4 (.inr (by intro h; cases h; exact hne rfl))
  have hg4w : Ext w0 ((w2.setCell ⟨gl, i, none⟩ (.int .i64 0)).setCell ⟨gr, i, none⟩ (.int .i64 0)) :=
    grown_own (grown_own (grown_trans hg1 hg2) hg3 (fun j hj hlt => by cases hj; omega)) hg4 (fun j hj hlt => by cases hj; have := hg1.size; omega)
  have hA1 := hA.set i 0 ⟨by omega, fun _ => by have := hP.ord7 i (by omega); omega⟩
  have hB1 := hB.set i 0 ⟨by omega, fun _ => by have := hP.ord7 i (by omega); omega⟩
  have hs1 := hg1.size
  have hs2 := hg2.size
  have hAi := hA.2 i (by omega)
  have hBi := hB.2 i (by omega)
  have hoi := hP.ord7 i (by omega)
  have hAi0 : 0 ≤ gt A i := hAi.1
  have hBi0 : 0 ≤ gt B i := hBi.1
  have hoi0 : 2 ≤ gt P.orders i := hoi.1
  have hAi1 : gt A i < gt P.orders i := hAi.2
  have hBi1 : gt B i < gt P.orders i := hBi.2
  have hoi1 : gt P.orders i ≤ 7 := hoi.2
  clear hAi hBi hoi
  go_wp2
  clear c1 f1 c2 f2 hL2 hL3 hR3 hL hR
  generalize hw4 : (w2.setCell ⟨gl, i, none⟩ (.int .i64 0)).setCell ⟨gr, i, none⟩ (.int .i64 0) = w4 at *
  clear hw4 hg3 hg4
  obtain ⟨ab, capb, rfl, _, _⟩ := hb0.shape
  obtain ⟨aa, capa, rfl, _, _⟩ := ha0.shape
  go_loopw [10, 12] (fun v mm wr => ∃ m : Nat, mm = .int .i64 m ∧ m ≤ (gt B i).toNat ∧ Ext w4 wr ∧
      Own (w.heap.size + 1) wr v (iter m (fun l => rImage P f i l) (A.set i 0))) (fun _ mm _ => (gt B i).toNat - (intOf mm).toNat)
  case atStart => exact ⟨0, rfl, by omega, Ext.refl _, hL4.weak (by have := HS.out; omega)⟩
  case round =>
    obtain ⟨m, rfl, hm, hg, hO⟩ := hrel
    have hgr : Ext w0 wr := grown_trans hg4w hg
    obtain ⟨bb, ob, rfl, _, _, hcb⟩ := Ints.at (hb0.ext hgr) i (by omega)
    have hvm : Vec P.orders (iter m (fun l => rImage P f i l) (A.set i 0)) := iter_inv (Vec P.orders) _ (fun y hy => rImgTo_vec hP f i hi (rAt_vec hP f) _ _ (zeros_vec hP) f (Nat.le_refl _)) _ _ hA1
    have HV := Lib.hid hvm
    have hOi := hO.ints (by rw [hvm.1]; omega)
    clear hvm
    obtain ⟨vo9, vp9, vc9, _, _, hc0, hc1, hc2, h39⟩ := (hBx.ext hgr).at
    by_cases hlt2 : (m : Int) < gt B i
    · go_wp2_with fail
      refine Calls.mono (l08Image_of P hP f ih wr _ _ i _ Any Any hi ⟨_, _, _, rfl, h39⟩ hOi HV.out) ?_
      rintro e5 w5 ⟨v5, rfl, hg5, hO5⟩
      go_wp2
      go_roundw
      case rel => exact ⟨m + 1, by go_num, by omega, grown_trans hg hg5, hO5.weak (by have := hgr.size; have := HS.out; omega)⟩
      case measure => simp [intOf]; omega
    · have hme : m = (gt B i).toNat := by omega
      subst hme
      have hR5 := hR4.ext0 hg
      generalize hleft : iter (gt B i).toNat (fun l => rImage P f i l) (A.set i 0) = left at *
      have HL := Lib.hid hleft; clear hleft
      go_wp2_with fail
      refine Calls.mono (ih wr _ _ _ (i + 1) left (B.set i 0) Any Any Any (by omega) ⟨_, _, _, rfl, h39⟩ hOi (hR5.ints (by simp; omega)) HV.out hB1) ?_
      rintro e6 w6 ⟨rest, rfl, hg6, hr6⟩
      have hgr6 : Ext w0 w6 := grown_trans hgr hg6
      obtain ⟨ba, oa, rfl, _, _, hca⟩ := Ints.at (ha0.ext hgr6) i (by omega)
      have hcb6 : w6.cell? ⟨bb, ob + i, none⟩ = some (.int .i64 (gt B i)) := hg6.cell hcb (by simp)
      have hvr := rAt_vec hP f (i + 1) _ _ (by omega) HV.out hB1
      have HVr := Lib.hid hvr; clear hvr
      clear hc0 hc1 hc2 hcb hOi hO h39 hR5 hR4 hL4 hlt2 hm
      generalize hrest : rAt P f (i + 1) left (B.set i 0) = rst at *
      have HRst := Lib.hid hrest; clear hrest
      have hil : i < A.length := by omega
      have hil2 : i < B.length := by omega
      have s1 : IntKind.i64.wrap (gt A i + gt B i) = gt A i + gt B i := IntWalk.i64_in _ (by omega)
      go_wp2
      go_quiet (fail)
      clear s1 hca hcb6
      have hfin : rAt P (f + 1) i A B = if gt P.orders i ≤ gt A i + gt B i then (rAt P f (i + 1) (gt P.powers i) rst).set i (gt A i + gt B i - gt P.orders i) else rst.set i (gt A i + gt B i) := by
        rw [← HRst.out, ← HL.out]; rfl
      have HF := Lib.hid hfin; clear hfin
      rename_i nq _
      have hgr7 : Ext w0 (w6.drewN nq) := grown_trans hgr6 (grown_drewN _ _ _)
      have hr7 : Own wr.heap.size (w6.drewN nq) rest rst := hr6
      have hri := hr7.ints (by rw [HVr.out.1]; omega)
      have hbp := hBx.ext hgr7
      obtain ⟨ao7, capo7, hco, hoi⟩ := hbp.ordAt
      obtain ⟨bo, oo, rfl, _, _, hcoi⟩ := Ints.at hoi i (by omega)
      obtain ⟨ap, capp, hcp, hpr⟩ := hbp.powAt
      obtain ⟨bp, op, ap2, capp2, rfl, _, _, hcpi, hpi⟩ := Rows2.at hpr i (by rw [hP.pl]; omega)
      have hjp : i < P.powers.length := by rw [hP.pl]; omega
      have hwsz : wr.heap.size ≤ (w6.drewN nq).heap.size := hg6.size
      clear hr6 hgr6 hbp hoi hpr
      generalize w6.drewN nq = w7 at *
      by_cases hc : gt P.orders i ≤ gt A i + gt B i
      case' pos =>
        have HF2 := Lib.hid (HF.out.trans (if_pos hc)); clear HF
        obtain ⟨vo9, vp9, vc9, _, _, hc0, hc1, hc2, h39⟩ := (hBx.ext hgr7).at
        have s3 : IntKind.i64.wrap ((i : Int) + 1) = (i : Int) + 1 := IntWalk.i64_in _ (by omega)
        have s4 : IntKind.i64.wrap (gt A i + gt B i - gt P.orders i) = gt A i + gt B i - gt P.orders i := IntWalk.i64_in _ (by omega)
        have e1 : ∀ w', Ext w7 w' → w'.cell? ⟨w.heap.size, 0, none⟩ = some vo9 := fun w' h => h.cell hc0 (by simp)
        have e2 : ∀ w', Ext w7 w' → w'.cell? ⟨w.heap.size, 1, none⟩ = some (.slice (some ⟨bp, op, none⟩) P.powers.length capp) := fun w' h => h.cell (by simpa using hcp) (by simp)
        have e3 : ∀ w', Ext w7 w' → w'.cell? ⟨w.heap.size, 2, none⟩ = some vc9 := fun w' h => h.cell (by simpa using hc2) (by simp)
        have e4 : ∀ w', Ext w7 w' → w'.cell? ⟨bp, op + i, none⟩ = some (.slice ap2 (gt P.powers i).length capp2) := fun w' h => h.cell hcpi (by simp)
        have evp : vp9 = .slice (some ⟨bp, op, none⟩) P.powers.length capp := by
          have := hc1.symm.trans hcp; simpa using this
        subst evp
        have b3 : (i : Int) < P.powers.length := by omega
        have hpv := (hP.pv i (by omega)).1
        have HPV := Lib.hid hpv; clear hpv
        clear hc2 hc1 hcp
        go_wp2
        clear hco hcoi hcpi
        go_region_held3 (fun w' => Ext w7 w') (first | exact grown_drew _ _ | exact hg8)
            (first | (go_at_call 71; refine Calls.mono (Calls.rel (w0 := w7) (by assumption) (ih _ _ _ _ (i + 1) (gt P.powers i) rst Any Any Any (by omega) ⟨_, _, _, rfl, Pres3.ext h39 (by assumption)⟩ (Ints.ext hpi (by assumption)) (Ints.ext hri (by assumption)) HPV.out HVr.out)) ?_; rintro e8 w8 ⟨v8, rfl, hg8, hsz8, hO8⟩))
        have hvp := rAt_vec hP f (i + 1) _ _ (by omega) HPV.out HVr.out
        have hlp : (rAt P f (i + 1) (gt P.powers i) rst).length = P.orders.length := hvp.1
        clear e1 e2 e3 e4 s3 s4 hvp
        go_wp2_with fail
        refine Calls.mono (l01Own_ok w8 v8 (rAt P f (i + 1) (gt P.powers i) rst) Any (hO8.ints (by omega)) (by omega)) ?_
        have hw8 : w0.heap.size ≤ w8.heap.size := by have := hgr7.size; have := hg8.size; omega
        have hgr8 : Ext w0 w8 := grown_trans hgr7 hg8
        generalize rAt P f (i + 1) (gt P.powers i) rst = fin at *
        generalize hcc : gt A i + gt B i - gt P.orders i = cc at *
      case' neg =>
        have HF2 := Lib.hid (HF.out.trans (if_neg hc)); clear HF
        have hlp : rst.length = P.orders.length := HVr.out.1
        go_wp2_with fail
        refine Calls.mono (l01Own_ok w7 rest rst Any hri (by omega)) ?_
        have hgr8 : Ext w0 w7 := hgr7
        generalize hcc : gt A i + gt B i = cc at *
        clear hri hr7 HVr HRst
        generalize rst = fin at *
      all_goals
        have HCC := Lib.hid hcc; clear hcc
        have hlp2 : fin.length ≤ P.orders.length ∧ P.orders.length ≤ fin.length := by omega
        clear hlp
        rintro e9 w9 ⟨v9, rfl, hg9, hO9⟩
        obtain ⟨g9, cap9, rfl, hb9, hs9⟩ := hO9.form (by omega)
        have c9 := hO9.cell i (by omega)
        have f9 := hO9.frozen i
        obtain ⟨hO10, hg10⟩ := hO9.store i cc
        have hfl : i < fin.length := by omega
        go_wp2
        go_ret
        refine ⟨_, rfl, ?_, ?_⟩
        · exact grown_trans hg0 (grown_own (grown_trans hgr8 hg9) hg10 (fun j hj hlt => by cases hj; have := hgr8.size; omega))
        · rw [HF2.out]; exact hO10.weak (by have := hgr8.size; have := HS.out; omega)

theorem l08At_ok (P : Pr) (hP : Valid P) (f : Nat) : AtOk P f := by
  induction f with
  | zero => exact l08At_zero P hP
  | succ f ih => exact l08At_succ P hP f ih

/-- the reference's product -/
def rMul (P : Pr) (A B : List Int) : List Int := rAt P P.orders.length 0 A B

set_option maxHeartbeats 1000000 in
theorem l08Mul_ok (P : Pr) (hP : Valid P) (w : World) (pv a b : Value) (A B : List Int) (Sp Sa Sb : Nat → Prop) (hp : PresV Sp w pv P) (ha : Ints Sa w a A) (hb : Ints Sb w b B) (hA : Vec P.orders A) (hB : Vec P.orders B) :
    Calls Try.prog 84 #[pv, a, b] w (Ret w fun w' v => Own w.heap.size w' v (rMul P A B)) := by
  obtain ⟨vo, vp, vc, rfl, h3⟩ := hp
  go_enter Try.func84, Try.ntmps84
  obtain ⟨vo9, vp9, vc9, _, _, hc0, hc1, hc2, h39⟩ := (PresP.box h3 30).at
  go_wp2_with fail
  refine Calls.mono (l08At_ok P hP P.orders.length _ _ _ _ 0 A B Any Sa Sb (by omega) ⟨_, _, _, rfl, h39⟩ (ha.ext (World.grownBy_alloc _ _ _)) (hb.ext (World.grownBy_alloc _ _ _)) hA hB) ?_
  rintro e1 w1 ⟨v1, rfl, hg1, hO1⟩
  go_wp2
  go_ret
  exact ⟨_, rfl, grown_trans (World.grownBy_alloc _ _ _) hg1, hO1.weak (by simp)⟩

end Go.Proofs.Ytbfbpjkpoepmkaa

/- spec.IsPresentation decides the same as impl.IsPresentation. -/
namespace Go.Proofs.Ytbfbpjkpoepmkaa
open Go.RowKit

set_option maxHeartbeats 4000000 in
theorem sIsPresentation_ok (w : World) (pv : Value) (P : Pr) (S : Nat → Prop) (hp : PresV S w pv P) :
    Calls Try.prog 47 #[pv] w (Ret w fun _ v => v = .bool (validB P)) := by
  obtain ⟨vo, vp, vc, rfl, h3⟩ := hp
  have hBx := PresP.box h3 30
  have hg0 : Ext w (w.alloc (.cells #[vo, vp, vc] 30)) := World.grownBy_alloc _ _ _
  go_enter Try.func47, Try.ntmps47
  obtain ⟨ao, capo, hco, hoi⟩ := hBx.ordAt
  obtain ⟨ap, capp, hcp, hpi⟩ := hBx.powAt
  obtain ⟨ac, capc, hcc, hci⟩ := hBx.conjAt
  by_cases h6 : P.orders.length ≤ 6
  rotate_left
  · have hd : decide ((6 : Int) < (P.orders.length : Int)) = true := by simp; omega
    go_wp2
    go_ret
    exact ret_bool hg0 (validB_false (fun h => h6 h.n6)).symm
  have hd6 : decide ((6 : Int) < (P.orders.length : Int)) = false := by simp; omega
  by_cases hpl : P.powers.length = P.orders.length
  rotate_left
  · have hd : ((P.powers.length : Int) != (P.orders.length : Int)) = true := by simp; omega
    have HP := Lib.hid hpl; clear hpl
    go_wp2
    go_ret
    exact ret_bool hg0 (validB_false (fun h => HP.out h.pl)).symm
  have hdp : ((P.powers.length : Int) != (P.orders.length : Int)) = false := by simp [hpl]
  by_cases hcl : P.conj.length = P.orders.length
  rotate_left
  · have hd : ((P.conj.length : Int) != (P.orders.length : Int)) = true := by simp; omega
    have HP := Lib.hid hpl; clear hpl
    have HC := Lib.hid hcl; clear hcl
    go_wp2
    go_ret
    exact ret_bool hg0 (validB_false (fun h => HC.out h.cl)).symm
  have hdc : ((P.conj.length : Int) != (P.orders.length : Int)) = false := by simp [hcl]
  have hpl2 : P.powers.length ≤ P.orders.length ∧ P.orders.length ≤ P.powers.length := by omega
  have hcl2 : P.conj.length ≤ P.orders.length ∧ P.orders.length ≤ P.conj.length := by omega
  have HP := Lib.hid hpl; clear hpl
  have HC := Lib.hid hcl; clear hcl
  go_wp2
  clear hd6 hdp hdc
  generalize hw0 : w.alloc (.cells #[vo, vp, vc] 30) = w0 at *
  clear hw0
  go_loop [4] (fun i => ∃ k : Nat, i = .int .i64 k ∧ k ≤ P.orders.length ∧ ∀ i, i < k → primeB (gt P.orders i) = true) (fun i => P.orders.length - (intOf i).toNat)
  case atStart => exact ⟨0, rfl, by omega, fun i hi => by omega⟩
  case round =>
    obtain ⟨k, rfl, hk, hz⟩ := hrel
    have HZ := Lib.hid hz; clear hz
    by_cases hlt : k < P.orders.length
    · obtain ⟨b, off, rfl, _, _, hc⟩ := Ints.at hoi k hlt
      cases hx : primeB (gt P.orders k) with
      | false =>
        have HX := Lib.hid hx
        go_wp2_with (go_at_call 66; refine (l01Prime_ok _ _).mono ?_; rintro e1 w1 ⟨rfl, rfl⟩)
        go_ret
        exact ret_bool hg0 (validB_false (fun h => by have := primeB_true.2 (h.ord k hlt); rw [HX.out] at this; cases this)).symm
      | true =>
        have HX := Lib.hid hx
        go_wp2_with (go_at_call 66; refine (l01Prime_ok _ _).mono ?_; rintro e1 w1 ⟨rfl, rfl⟩)
        go_round
        case rel => exact ⟨k + 1, by go_num, by omega, fun i hi => by
            rcases Nat.lt_or_ge i k with h1 | h1
            · exact HZ.out i h1
            · have : i = k := by omega
              rw [this]; exact HX.out⟩
        case measure => simp [intOf]; omega
    · have hke : k = P.orders.length := by omega
      subst hke
      have hord : ∀ i, i < P.orders.length → 1 ≤ gt P.orders i ∧ gt P.orders i ≤ 7 := fun i hi => by have := primeB_true.1 (HZ.out i hi); omega
      have HO := Lib.hid hord; clear hord
      have hcap := capTo_le (l := P.orders) P.orders.length (fun i hi => (HO.out i hi).1)
      have HCP := Lib.hid hcap; clear hcap
      by_cases h729 : capTo P.orders P.orders.length ≤ 729
      rotate_left
      · have hd : decide ((729 : Int) < capTo P.orders P.orders.length) = true := by simp; omega
        go_wp2_with (go_at_call 67; refine (l07Product_ok _ _ P.orders Any hoi HO.out).mono ?_; rintro e1 w1 ⟨rfl, rfl⟩)
        go_ret
        exact ret_bool hg0 (validB_false (fun h => by have := HCP.out.1.2 h.le729; omega)).symm
      have hd : decide ((729 : Int) < capTo P.orders P.orders.length) = false := by simp; omega
      go_wp2_with (go_at_call 67; refine (l07Product_ok _ _ P.orders Any hoi HO.out).mono ?_; rintro e1 w1 ⟨rfl, rfl⟩)
      have HLE := Lib.hid (HCP.out.1.1 h729)
      have hord0 : ∀ i, i < P.orders.length → 0 ≤ gt P.orders i ∧ gt P.orders i ≤ 7 := fun i hi => by have := HO.out i hi; omega
      have HO0 := Lib.hid hord0; clear hord0
      clear hcc hcp hco hd h729 HO HCP
      go_loopw [5] (fun i wr => ∃ k : Nat, i = .int .i64 k ∧ k ≤ P.orders.length ∧ Dr w0 wr ∧ ∀ i, i < k → tailB P.orders i (gt P.powers i) = true ∧ (gt P.conj i).length = P.orders.length - 1 - i ∧ ∀ j, j < P.orders.length - 1 - i → tailB P.orders i (gt (gt P.conj i) j) = true) (fun i _ => P.orders.length - (intOf i).toNat)
      case atStart => exact ⟨0, rfl, by omega, Dr.refl _, fun i hi => by omega⟩
      case round =>
        obtain ⟨k, rfl, hk, hdr, hz⟩ := hrel
        have HZ2 := Lib.hid hz; clear hz
        have hgr : Ext w wr := grown_trans hg0 hdr.ext
        by_cases hlt : k < P.orders.length
        · obtain ⟨ao5, capo5, hco, hoi5⟩ := (hBx.ext hdr.ext).ordAt
          obtain ⟨ap, capp, hcp, hpi⟩ := (hBx.ext hdr.ext).powAt
          obtain ⟨ac, capc, hcc, hci⟩ := (hBx.ext hdr.ext).conjAt
          obtain ⟨b1, o1, a2, cap2, rfl, _, _, hc2, hi2⟩ := Rows2.at hpi k (by omega)
          obtain ⟨b3, o3, a4, cap4, rfl, _, _, hc4, hi4⟩ := Rows3.at hci k (by omega)
          have hbad1 : expZB P.orders (gt P.powers k) k = false → validB P = false := fun hx => validB_false (fun h => by have := expZB_vec.2 (h.pv k hlt); rw [hx] at this; cases this)
          have hbad2 : ¬ (gt P.conj k).length = P.orders.length - 1 - k → validB P = false := fun hx => validB_false (fun h => hx (h.cv k hlt).1)
          have hbad3 : ∀ j, j < P.orders.length - 1 - k → expZB P.orders (gt (gt P.conj k) j) k = false → validB P = false := fun j hj hx => validB_false (fun h => by have := expZB_vec.2 ((h.cv k hlt).2 j hj); rw [hx] at this; cases this)
          have HB1 := Lib.hid hbad1; have HB2 := Lib.hid hbad2; have HB3 := Lib.hid hbad3; clear hbad1 hbad2 hbad3
          have b5 : (0 : Int) ≤ k := by omega
          have b6 : (k : Int) < P.powers.length := by omega
          have b7 : (k : Int) < P.conj.length := by omega
          have s1 : IntKind.i64.wrap ((P.orders.length : Int) - 1) = (P.orders.length : Int) - 1 := IntWalk.i64_in _ (by omega)
          have s2 : IntKind.i64.wrap ((P.orders.length : Int) - 1 - k) = (P.orders.length : Int) - 1 - k := IntWalk.i64_in _ (by omega)
          cases hx : expZB P.orders (gt P.powers k) k with
          | false =>
            have HX := Lib.hid hx
            go_wp2
            go_quiet ((go_at_call 68; exact quiet_rd (l07Exponents_ok _ _ _ P.orders (gt P.powers k) k Any Any (hoi5.ext (grown_drewN _ _ _)) (hi2.ext (grown_drewN _ _ _)) HO0.out)))
            go_wp2
            go_ret
            exact ret_bool (grown_trans hgr (grown_drewN _ _ _)) (HB1.out HX.out).symm
          | true =>
            have HX := Lib.hid hx
            by_cases hlen : (gt P.conj k).length = P.orders.length - 1 - k
            · have hd : (((gt P.conj k).length : Int) != (P.orders.length : Int) - 1 - k) = false := by simp; omega
              have hl2 : (gt P.conj k).length ≤ P.orders.length - 1 - k ∧ P.orders.length - 1 - k ≤ (gt P.conj k).length := by omega
              have HLN := Lib.hid hlen; clear hlen
              go_wp2
              go_quiet ((go_at_call 68; exact quiet_rd (l07Exponents_ok _ _ _ P.orders (gt P.powers k) k Any Any (hoi5.ext (grown_drewN _ _ _)) (hi2.ext (grown_drewN _ _ _)) HO0.out)))
              rename_i nq _
              have hdr2 := hdr.step nq
              clear hd hx hcp hc2 s1 s2 b6
              have hci9 : Rows3 Any (wr.drewN nq) (.slice (some ⟨b3, o3, none⟩) P.conj.length capc) P.conj := hci
              go_wp2
              go_loopw [6] (fun i wr => ∃ j : Nat, i = .int .i64 j ∧ j ≤ (gt P.conj k).length ∧ Dr w0 wr ∧ ∀ i, i < j → expZB P.orders (gt (gt P.conj k) i) k = true) (fun i _ => (gt P.conj k).length - (intOf i).toNat)
              case atStart => exact ⟨0, rfl, by omega, hdr2, fun i hi => by omega⟩
              case round =>
                clear hcc hc4 hi4 hi2 hci hpi hci9 hoi5
                obtain ⟨j, rfl, hj, hdr3, hz⟩ := hrel
                have HZ3 := Lib.hid hz; clear hz
                have hgr3 : Ext w wr := grown_trans hg0 hdr3.ext
                obtain ⟨ao7, capo7, hco, hoi7⟩ := (hBx.ext hdr3.ext).ordAt
                obtain ⟨ac7, capc7, hcc, hci⟩ := (hBx.ext hdr3.ext).conjAt
                obtain ⟨b8, o8, a8, cap8, rfl, _, _, hc8, hi8⟩ := Rows3.at hci k (by omega)
                by_cases hlt2 : j < (gt P.conj k).length
                · obtain ⟨b9, o9, a9, cap9, rfl, _, _, hc9, hi9⟩ := Rows2.at hi8 j hlt2
                  have b10 : (j : Int) < (gt P.conj k).length := by omega
                  have b11 : (0 : Int) ≤ j := by omega
                  cases hy : expZB P.orders (gt (gt P.conj k) j) k with
                  | false =>
                    have HY := Lib.hid hy
                    go_wp2
                    go_quiet ((go_at_call 68; exact quiet_rd (l07Exponents_ok _ _ _ P.orders (gt (gt P.conj k) j) k Any Any (hoi7.ext (grown_drewN _ _ _)) (hi9.ext (grown_drewN _ _ _)) HO0.out)))
                    go_wp2
                    go_ret
                    exact ret_bool (grown_trans hgr3 (grown_drewN _ _ _)) (HB3.out j (by omega) HY.out).symm
                  | true =>
                    have HY := Lib.hid hy
                    go_wp2
                    go_quiet ((go_at_call 68; exact quiet_rd (l07Exponents_ok _ _ _ P.orders (gt (gt P.conj k) j) k Any Any (hoi7.ext (grown_drewN _ _ _)) (hi9.ext (grown_drewN _ _ _)) HO0.out)))
                    go_wp2
                    go_roundw
                    case rel => exact ⟨j + 1, by go_num, by omega, hdr3.step _, fun i hi => by
                      rcases Nat.lt_or_ge i j with h1 | h1
                      · exact HZ3.out i h1
                      · have : i = j := by omega
                        rw [this]; exact HY.out⟩
                    case measure => simp [intOf]; omega
                · have hje : j = (gt P.conj k).length := by omega
                  go_wp2
                  go_roundw
                  case rel => exact ⟨k + 1, by go_num, by omega, hdr3, fun i hi => by
                    rcases Nat.lt_or_ge i k with h1 | h1
                    · exact HZ2.out i h1
                    · have : i = k := by omega
                      rw [this]; exact ⟨tailB_vec.2 (expZB_vec.1 HX.out), HLN.out, fun i hi => tailB_vec.2 (expZB_vec.1 (HZ3.out i (by omega)))⟩⟩
                  case measure => simp [intOf]; omega
            · have hd : (((gt P.conj k).length : Int) != (P.orders.length : Int) - 1 - k) = true := by simp; omega
              have HLN := Lib.hid hlen; clear hlen
              go_wp2
              go_quiet ((go_at_call 68; exact quiet_rd (l07Exponents_ok _ _ _ P.orders (gt P.powers k) k Any Any (hoi5.ext (grown_drewN _ _ _)) (hi2.ext (grown_drewN _ _ _)) HO0.out)))
              go_wp2
              go_ret
              exact ret_bool (grown_trans hgr (grown_drewN _ _ _)) (HB2.out HLN.out).symm
        · have hke : k = P.orders.length := by omega
          subst hke
          go_wp2
          go_ret
          refine ret_bool hgr (validB_true ?_).symm
          exact ⟨HLE.out, h6, HP.out, HC.out, fun i hi => primeB_true.1 (HZ.out i hi), fun i hi => tailB_vec.1 (HZ2.out i hi).1,
            fun i hi => ⟨(HZ2.out i hi).2.1, fun j hj => tailB_vec.1 ((HZ2.out i hi).2.2 j hj)⟩⟩

end Go.Proofs.Ytbfbpjkpoepmkaa

/- The reference's inverse, conjugate and power: spec.l10From, l10Inv, l10Conj, l08Repeat. -/
namespace Go.Proofs.Ytbfbpjkpoepmkaa
open Go.RowKit

def rFrom (P : Pr) : Nat → Nat → List Int → List Int
  | 0, _, _ => zeros P.orders.length
  | f + 1, i, X =>
    let out := rFrom P f (i + 1) (X.set i 0)
    if gt X i = 0 then out else
      rAt P (f + 1) i (rAt P (f + 1) i out ((zeros P.orders.length).set i (gt P.orders i - gt X i))) (rFrom P f (i + 1) (gt P.powers i))

theorem rFrom_vec {P : Pr} (hP : Valid P) (f : Nat) : ∀ i X, i + f = P.orders.length → Vec P.orders X → Vec P.orders (rFrom P f i X) := by
  induction f with
  | zero => intro i X _ _; exact zeros_vec hP
  | succ f ih =>
    intro i X hi hX
    have ho := hP.ord7 i (by omega)
    have hx := hX.2 i (by omega)
    have h1 := ih (i + 1) (X.set i 0) (by omega) (hX.set i 0 ⟨by omega, fun _ => by omega⟩)
    simp only [rFrom]
    split
    · exact h1
    · exact rAt_vec hP _ _ _ _ hi (rAt_vec hP _ _ _ _ hi h1 ((zeros_vec hP).set i _ ⟨by omega, fun _ => by omega⟩)) (ih (i + 1) _ (by omega) (hP.pv i (by omega)).1)

def FromOk (P : Pr) (f : Nat) : Prop :=
  ∀ (w : World) (pv x : Value) (i : Nat) (X : List Int) (Sp Sx : Nat → Prop), i + f = P.orders.length → PresV Sp w pv P → Ints Sx w x X → Vec P.orders X →
    Calls Try.prog 72 #[pv, .int .i64 i, x] w (Ret w fun w' v => Own w.heap.size w' v (rFrom P f i X))

set_option maxHeartbeats 2000000 in
theorem l10From_zero (P : Pr) (hP : Valid P) : FromOk P 0 := by
  intro w pv x i X Sp Sx hi hp hx hX
  obtain ⟨vo, vp, vc, rfl, h3⟩ := hp
  have hn6 := hP.n6
  have hBx := PresP.box h3 30
  obtain ⟨ao, capo, hco, hoi⟩ := hBx.ordAt
  have hi3 : ((P.orders.length : Int) ≤ (i : Int)) := by omega
  go_enter Try.func72, Try.ntmps72
  go_wp2_with (at_make; refine wp_make_ints rfl _ _ rfl (w.heap.size + 1) P.orders.length (w.heap.size + 1) (by simp) _ rfl rfl rfl (by omega) (by simp) ?_; intro w1 ho1 hg1 _)
  go_ret
  exact ⟨_, rfl, grown_trans (World.grownBy_alloc _ _ _) hg1, ho1.weak (by omega)⟩

set_option maxHeartbeats 4000000 in
theorem l10From_succ (P : Pr) (hP : Valid P) (f : Nat) (ih : FromOk P f) : FromOk P (f + 1) := by
  intro w pv x i X Sp Sx hi hp hx hX
  obtain ⟨vo, vp, vc, rfl, h3⟩ := hp
  have hn6 := hP.n6
  have hBx := PresP.box h3 30
  have hg0 : Ext w (w.alloc (.cells #[vo, vp, vc] 30)) := World.grownBy_alloc _ _ _
  have hx0 := hx.ext hg0
  have hlX : X.length ≤ P.orders.length ∧ P.orders.length ≤ X.length := by rw [hX.1]; omega
  have hs0 : (w.alloc (.cells #[vo, vp, vc] 30)).heap.size = w.heap.size + 1 := by simp
  have HS := Lib.hid hs0; clear hs0 hx
  obtain ⟨ax, capx, rfl, _, _⟩ := hx0.shape
  go_enter Try.func72, Try.ntmps72
  obtain ⟨ao, capo, hco, hoi⟩ := hBx.ordAt
  go_wp2_with fail
  clear hco hoi
  generalize hw0 : w.alloc (.cells #[vo, vp, vc] 30) = w0 at *
  clear hw0
  refine Calls.mono (l01Own_ok w0 _ X Sx hx0 (by omega)) ?_
  rintro e1 w1 ⟨R, rfl, hg1, hR⟩
  obtain ⟨gr, capr, rfl, hbr, hsr⟩ := hR.form (by omega)
  have c1 := hR.cell i (by omega)
  have f1 := hR.frozen i
  obtain ⟨hR2, hg2⟩ := hR.store i 0
  have hgw : Ext w0 (w1.setCell ⟨gr, i, none⟩ (.int .i64 0)) := grown_own hg1 hg2 (fun j hj hlt => by cases hj; omega)
  obtain ⟨vo9, vp9, vc9, _, _, hc0, hc1, hc2, h39⟩ := (hBx.ext hgw).at
  have ho7 := hP.ord7 i (by omega)
  have hxi := hX.2 i (by omega)
  have hx1 : 0 ≤ gt X i := hxi.1
  have hx2 : gt X i < gt P.orders i := hxi.2
  have ho2 : 2 ≤ gt P.orders i := ho7.1
  have ho3 : gt P.orders i ≤ 7 := ho7.2
  have hX1 := hX.set i 0 ⟨by omega, fun _ => by omega⟩
  clear hxi ho7
  go_wp2_with fail
  clear c1 f1 hc0 hc1 hc2
  generalize hw2 : w1.setCell ⟨gr, i, none⟩ (.int .i64 0) = w2 at *
  clear hw2
  refine Calls.mono (ih w2 _ _ (i + 1) (X.set i 0) Any Any (by omega) ⟨_, _, _, rfl, h39⟩ (hR2.ints (by simp; omega)) hX1) ?_
  rintro e3 w3 ⟨out, rfl, hg3, hO3⟩
  have hgw3 : Ext w0 w3 := grown_trans hgw hg3
  obtain ⟨bx, ox, rfl, _, _, hcx⟩ := Ints.at (hx0.ext hgw3) i (by omega)
  by_cases hz : gt X i = 0
  · have hb : (gt X i == 0) = true := by simp [hz]
    have HZ := Lib.hid hz; clear hz
    go_wp2
    go_ret
    exact ⟨_, rfl, grown_trans hg0 hgw3, by simp only [rFrom, if_pos HZ.out]; exact hO3.weak (by have := hgw.size; have := HS.out; omega)⟩
  · have hb : (gt X i == 0) = false := by simp [hz]
    have HZ := Lib.hid hz; clear hz
    have hsz3 : w0.heap.size ≤ w3.heap.size := hgw3.size
    go_wp2_with (at_make; refine wp_make_ints rfl _ _ rfl w3.heap.size P.orders.length w3.heap.size rfl _ rfl rfl rfl (by omega) (by simp) ?_; intro w4 ho4 hg4 hlt4)
    clear hcx hb
    have hgw4 : Ext w0 w4 := grown_trans hgw3 hg4
    obtain ⟨ao4, capo4, hco, hoi⟩ := hBx.ordAt
    obtain ⟨bo, oo, rfl, _, _, hcoi⟩ := Ints.at hoi i (by omega)
    obtain ⟨bx4, ox4, hxe, _, _, hcx⟩ := Ints.at hx0 i (by omega)
    obtain ⟨rfl, rfl⟩ : bx4 = bx ∧ ox4 = ox := by cases hxe; exact ⟨rfl, rfl⟩
    clear hxe
    have c4 := ho4.cell i (by simp; omega)
    have f4 := ho4.frozen i
    obtain ⟨ho5, hst⟩ := ho4.store i (gt P.orders i - gt X i)
    have hi1 : (i : Int) < P.orders.length := by omega
    have hi2 : (i : Int) < X.length := by omega
    have hi0 : (0 : Int) ≤ i := by omega
    have s1 : IntKind.i64.wrap (gt P.orders i - gt X i) = gt P.orders i - gt X i := IntWalk.i64_in _ (by omega)
    have hkeep : Ext w0 (w4.setCell ⟨w3.heap.size, i, none⟩ (.int .i64 (gt P.orders i - gt X i))).drew :=
      grown_trans (grown_own hgw4 hst (fun j hj hlt => by cases hj; omega)) (grown_drew _ _)
    have hg36 : Ext w3 (w4.setCell ⟨w3.heap.size, i, none⟩ (.int .i64 (gt P.orders i - gt X i))).drew :=
      grown_trans (grown_own hg4 hst (fun j hj hlt => by cases hj; omega)) (grown_drew _ _)
    have ho6 : Own w3.heap.size (w4.setCell ⟨w3.heap.size, i, none⟩ (.int .i64 (gt P.orders i - gt X i))).drew (.slice (some ⟨w3.heap.size, 0, none⟩) P.orders.length P.orders.length) ((List.replicate P.orders.length 0).set i (gt P.orders i - gt X i)) := ho5
    have e1 : ∀ w', Ext w0 w' → w'.cell? ⟨w.heap.size, 0, none⟩ = some (.slice (some ⟨bo, oo, none⟩) P.orders.length capo4) := fun w' h => h.cell hco (by simp)
    have e2 : ∀ w', Ext w0 w' → w'.cell? ⟨bo, oo + i, none⟩ = some (.int .i64 (gt P.orders i)) := fun w' h => h.cell hcoi (by simp)
    have e3 : ∀ w', Ext w0 w' → w'.cell? ⟨bx4, ox4 + i, none⟩ = some (.int .i64 (gt X i)) := fun w' h => h.cell hcx (by simp)
    clear hco hcoi hcx
    go_region_held3 (fun w' => Ext w0 w') (first | exact grown_trans hgw4 (grown_drew _ _) | exact hkeep) (fail)
    clear e1 e2 e3 s1 c4 f4
    clear hst ho5
    generalize hw6 : (w4.setCell ⟨w3.heap.size, i, none⟩ (.int .i64 (gt P.orders i - gt X i))).drew = w6 at *
    clear hw6
    obtain ⟨vo6, vp6, vc6, _, _, hc0, hc1, hc2, h36⟩ := (hBx.ext hkeep).at
    obtain ⟨ap, capp, rfl, _, _⟩ := Sl.shape h36.p
    obtain ⟨bp, op, ap2, capp2, rfl, _, _, hcpi, hpi⟩ := Rows2.at h36.p i (by rw [hP.pl]; omega)
    have hjp : (i : Int) < P.powers.length := by rw [hP.pl]; omega
    have hvo := rFrom_vec hP f (i + 1) _ (by omega) hX1
    have hvt : Vec P.orders ((zeros P.orders.length).set i (gt P.orders i - gt X i)) := (zeros_vec hP).set i _ ⟨by omega, fun _ => by have := HZ.out; omega⟩
    have hvm := rAt_vec hP (f + 1) i _ _ hi hvo hvt
    have hvp := (hP.pv i (by omega)).1
    have hvf := rFrom_vec hP f (i + 1) _ (by omega) hvp
    have hl1 := hvo.1
    have hl2 := hvm.1
    have hl3 := hvf.1
    have hoi := (hO3.ext0 hg36).ints (by omega)
    have hti : Ints Any w6 (.slice (some ⟨w3.heap.size, 0, none⟩) P.orders.length P.orders.length) ((zeros P.orders.length).set i (gt P.orders i - gt X i)) := Own.ints ho6 (by rw [List.length_set]; simp [zeros]; omega)
    have HV1 := Lib.hid hvo; have HV2 := Lib.hid hvt; have HV3 := Lib.hid hvm; have HV4 := Lib.hid hvp; have HV5 := Lib.hid hvf
    have HL1 := Lib.hid hl1; have HL2 := Lib.hid hl2; have HL3 := Lib.hid hl3
    clear hvo hvt hvm hvp hvf hl1 hl2 hl3 hgw hgw3 hgw4 hO3 ho6 ho4 hR2
    have hsz6 : w.heap.size ≤ w6.heap.size := by have := hkeep.size; have := HS.out; omega
    have e1 : ∀ w', Ext w6 w' → w'.cell? ⟨w.heap.size, 0, none⟩ = some vo6 := fun w' h => h.cell hc0 (by simp)
    have e2 : ∀ w', Ext w6 w' → w'.cell? ⟨w.heap.size, 1, none⟩ = some (.slice (some ⟨bp, op, none⟩) P.powers.length capp) := fun w' h => h.cell (by simpa using hc1) (by simp)
    have e3 : ∀ w', Ext w6 w' → w'.cell? ⟨w.heap.size, 2, none⟩ = some vc6 := fun w' h => h.cell (by simpa using hc2) (by simp)
    have e4 : ∀ w', Ext w6 w' → w'.cell? ⟨bp, op + i, none⟩ = some (.slice ap2 (gt P.powers i).length capp2) := fun w' h => h.cell hcpi (by simp)
    have s3 : IntKind.i64.wrap ((i : Int) + 1) = (i : Int) + 1 := IntWalk.i64_in _ (by omega)
    clear hc0 hc1 hc2 hcpi
    go_wp2
    go_region_held3 (fun w' => Ext w6 w') (first | exact grown_drew _ _ | assumption)
      (first
        | (go_at_call_of 71 (out); refine Calls.mono (Calls.rel (w0 := w6) (by assumption) (l08At_ok P hP (f + 1) _ _ _ _ i _ _ Any Any Any hi ⟨_, _, _, rfl, Pres3.ext h36 (by assumption)⟩ (Ints.ext hoi (by assumption)) (Ints.ext hti (by assumption)) HV1.out HV2.out)) ?_; rintro eA wA ⟨vA, rfl, hgA, hsA, hOA⟩)
        | (go_at_call 72; refine Calls.mono (Calls.rel2 (w0 := w6) (by assumption) (ih _ _ _ (i + 1) _ Any Any (by omega) ⟨_, _, _, rfl, Pres3.ext h36 (by assumption)⟩ (Ints.ext hpi (by assumption)) HV4.out)) ?_; rintro eF wF ⟨vF, rfl, hgF, hgF2, hsF, hOF⟩; have hOA2 := (hOA.ext0 hgF2).ints (by rw [HL2.out]; omega); have hOF2 := hOF.ints (by rw [HL3.out]; omega))
        | (go_at_call 71; refine Calls.mono (Calls.rel (w0 := w6) (by assumption) (l08At_ok P hP (f + 1) _ _ _ _ i _ _ Any Any Any hi ⟨_, _, _, rfl, Pres3.ext h36 (by assumption)⟩ hOA2 hOF2 HV3.out HV5.out)) ?_; rintro eB wB ⟨vB, rfl, hgB, hsB, hOB⟩))
    go_wp2
    go_ret
    refine ⟨_, rfl, grown_trans hg0 (grown_trans hkeep hgB), ?_⟩
    simp only [rFrom, if_neg HZ.out]
    exact hOB.weak (by omega)

theorem l10From_ok (P : Pr) (hP : Valid P) (f : Nat) : FromOk P f := by
  induction f with
  | zero => exact l10From_zero P hP
  | succ f ih => exact l10From_succ P hP f ih

/-- the reference's inverse -/
def rInv (P : Pr) (X : List Int) : List Int := rFrom P P.orders.length 0 X

theorem rInv_vec {P : Pr} (hP : Valid P) (X : List Int) (hX : Vec P.orders X) : Vec P.orders (rInv P X) := rFrom_vec hP _ 0 X (by omega) hX
theorem rMul_vec {P : Pr} (hP : Valid P) (A B : List Int) (hA : Vec P.orders A) (hB : Vec P.orders B) : Vec P.orders (rMul P A B) := rAt_vec hP _ 0 A B (by omega) hA hB

set_option maxHeartbeats 1000000 in
theorem l10Inv_ok (P : Pr) (hP : Valid P) (w : World) (pv x : Value) (X : List Int) (Sp Sx : Nat → Prop) (hp : PresV Sp w pv P) (hx : Ints Sx w x X) (hX : Vec P.orders X) :
    Calls Try.prog 51 #[pv, x] w (Ret w fun w' v => Own w.heap.size w' v (rInv P X)) := by
  obtain ⟨vo, vp, vc, rfl, h3⟩ := hp
  go_enter Try.func51, Try.ntmps51
  obtain ⟨vo9, vp9, vc9, _, _, hc0, hc1, hc2, h39⟩ := (PresP.box h3 30).at
  go_wp2_with fail
  refine Calls.mono (l10From_ok P hP P.orders.length _ _ _ 0 X Any Sx (by omega) ⟨_, _, _, rfl, h39⟩ (hx.ext (World.grownBy_alloc _ _ _)) hX) ?_
  rintro e1 w1 ⟨v1, rfl, hg1, hO1⟩
  go_wp2
  go_ret
  exact ⟨_, rfl, grown_trans (World.grownBy_alloc _ _ _) hg1, hO1.weak (by simp)⟩

def rConj (P : Pr) (A B : List Int) : List Int := rMul P (rInv P B) (rMul P A B)

set_option maxHeartbeats 2000000 in
theorem l10Conj_ok (P : Pr) (hP : Valid P) (w : World) (pv a b : Value) (A B : List Int) (Sp Sa Sb : Nat → Prop) (hp : PresV Sp w pv P) (ha : Ints Sa w a A) (hb : Ints Sb w b B) (hA : Vec P.orders A) (hB : Vec P.orders B) :
    Calls Try.prog 70 #[pv, a, b] w (Ret w fun w' v => Own w.heap.size w' v (rConj P A B)) := by
  obtain ⟨vo, vp, vc, rfl, h3⟩ := hp
  have hn6 := hP.n6
  have hl1 := (rInv_vec hP B hB).1
  have hl2 := (rMul_vec hP A B hA hB).1
  have HL1 := Lib.hid hl1; have HL2 := Lib.hid hl2; clear hl1 hl2
  have hg0 : Ext w (w.alloc (.cells #[vo, vp, vc] 30)) := World.grownBy_alloc _ _ _
  have hBx := PresP.box h3 30
  have ha0 := ha.ext hg0
  have hb0 := hb.ext hg0
  have hs0 : (w.alloc (.cells #[vo, vp, vc] 30)).heap.size = w.heap.size + 1 := by simp
  have HS := Lib.hid hs0; clear hs0 ha hb
  go_enter Try.func70, Try.ntmps70
  go_wp2
  generalize hw0 : w.alloc (.cells #[vo, vp, vc] 30) = w0 at *
  clear hw0
  obtain ⟨vo6, vp6, vc6, _, _, hc0, hc1, hc2, h36⟩ := hBx.at
  have e1 : ∀ w', Ext w0 w' → w'.cell? ⟨w.heap.size, 0, none⟩ = some vo6 := fun w' h => h.cell hc0 (by simp)
  have e2 : ∀ w', Ext w0 w' → w'.cell? ⟨w.heap.size, 1, none⟩ = some vp6 := fun w' h => h.cell (by simpa using hc1) (by simp)
  have e3 : ∀ w', Ext w0 w' → w'.cell? ⟨w.heap.size, 2, none⟩ = some vc6 := fun w' h => h.cell (by simpa using hc2) (by simp)
  clear hc0 hc1 hc2
  go_region_held3 (fun w' => Ext w0 w') (first | exact grown_drew _ _ | assumption)
    (first
      | (go_at_call 51; refine Calls.mono (Calls.rel (w0 := w0) (by assumption) (l10Inv_ok P hP _ _ _ _ Any Any ⟨_, _, _, rfl, Pres3.ext h36 (by assumption)⟩ (Ints.sub (Ints.ext hb0 (by assumption)) (fun _ _ _ => trivial)) hB)) ?_; rintro eA wA ⟨vA, rfl, hgA, hsA, hOA⟩)
      | (go_at_call_of 84 (a); refine Calls.mono (Calls.rel2 (w0 := w0) (by assumption) (l08Mul_ok P hP _ _ _ _ _ _ Any Sa Sb ⟨_, _, _, rfl, Pres3.ext h36 (by assumption)⟩ (Ints.ext ha0 (by assumption)) (Ints.ext hb0 (by assumption)) hA hB)) ?_; rintro eF wF ⟨vF, rfl, hgF, hgF2, hsF, hOF⟩; have hOA2 := (hOA.ext0 hgF2).ints (by rw [HL1.out]; omega); have hOF2 := hOF.ints (by rw [HL2.out]; omega))
      | (go_at_call 84; refine Calls.mono (Calls.rel (w0 := w0) (by assumption) (l08Mul_ok P hP _ _ _ _ _ _ Any Any Any ⟨_, _, _, rfl, Pres3.ext h36 (by assumption)⟩ hOA2 hOF2 (rInv_vec hP B hB) (rMul_vec hP A B hA hB))) ?_; rintro eB wB ⟨vB, rfl, hgB, hsB, hOB⟩))
  clear e1 e2 e3
  go_wp2
  go_ret
  exact ⟨_, rfl, grown_trans hg0 hgB, hOB.weak (by have := HS.out; omega)⟩

end Go.Proofs.Ytbfbpjkpoepmkaa

/- The reference's power: spec.l08Repeat. -/
namespace Go.Proofs.Ytbfbpjkpoepmkaa
open Go.RowKit

/-- square and multiply -/
def rRepF (m : List Int → List Int → List Int) : Nat → List Int → List Int → Nat → List Int
  | 0, out, _, _ => out
  | f + 1, out, base, k => if k = 0 then out else rRepF m f (if k % 2 = 1 then m out base else out) (m base base) (k / 2)

def rRep (m : List Int → List Int → List Int) (out base : List Int) (k : Nat) : List Int := rRepF m k out base k

theorem rRepF_eq (m : List Int → List Int → List Int) : ∀ (f g : Nat) (out base : List Int) (k : Nat), k ≤ f → k ≤ g → rRepF m f out base k = rRepF m g out base k := by
  intro f
  induction f with
  | zero =>
    intro g out base k hf hg
    have : k = 0 := by omega
    subst this
    cases g <;> simp [rRepF]
  | succ f ih =>
    intro g out base k hf hg
    cases g with
    | zero =>
      have : k = 0 := by omega
      subst this; simp [rRepF]
    | succ g =>
      simp only [rRepF]
      split
      · rfl
      · exact ih g _ _ _ (by omega) (by omega)

theorem rRep_zero (m : List Int → List Int → List Int) (out base : List Int) : rRep m out base 0 = out := rfl
theorem rRep_step (m : List Int → List Int → List Int) (out base : List Int) (k : Nat) (hk : 0 < k) : rRep m out base k = rRep m (if k % 2 = 1 then m out base else out) (m base base) (k / 2) := by
  unfold rRep
  obtain ⟨j, rfl⟩ : ∃ j, k = j + 1 := ⟨k - 1, by omega⟩
  show (if j + 1 = 0 then out else rRepF m j _ _ ((j + 1) / 2)) = _
  rw [if_neg (by omega)]
  exact rRepF_eq m _ _ _ _ _ (by omega) (Nat.le_refl _)

set_option maxHeartbeats 2000000 in
theorem l08Repeat_ok (P : Pr) (hP : Valid P) (w : World) (pv x : Value) (i f : Nat) (hi : i + f = P.orders.length) (X : List Int) (k : Int) (Sp Sx : Nat → Prop) (hp : PresV Sp w pv P) (hx : Ints Sx w x X) (hX : Vec P.orders X) (hk0 : 0 ≤ k) (hk : k ≤ 1000000000) :
    Calls Try.prog 50 #[pv, .int .i64 i, x, .int .i64 k] w (Ret w fun w' v => Own w.heap.size w' v (rRep (rAt P f i) (zeros P.orders.length) X k.toNat)) := by
  obtain ⟨vo, vp, vc, rfl, h3⟩ := hp
  have hn6 := hP.n6
  have hBx := PresP.box h3 30
  have hg0 : Ext w (w.alloc (.cells #[vo, vp, vc] 30)) := World.grownBy_alloc _ _ _
  have hx0 := hx.ext hg0
  have hlX : X.length ≤ P.orders.length ∧ P.orders.length ≤ X.length := by rw [hX.1]; omega
  have hs0 : (w.alloc (.cells #[vo, vp, vc] 30)).heap.size = w.heap.size + 1 := by simp
  have HS := Lib.hid hs0; clear hs0 hx
  go_enter Try.func50, Try.ntmps50
  obtain ⟨ao, capo, hco, hoi⟩ := hBx.ordAt
  go_wp2_with (at_make; refine wp_make_ints rfl _ _ rfl (w.heap.size + 1) P.orders.length (w.heap.size + 1) (by simp) _ rfl rfl rfl (by omega) (by simp) ?_; intro w1 ho1 hg1 hlt1)
  clear hco hoi
  have hBx1 := hBx.ext hg1
  have hx1 := hx0.ext hg1
  have hgw1 : Ext w w1 := grown_trans hg0 hg1
  obtain ⟨ax, capx, rfl, _, _⟩ := hx1.shape
  clear hBx hx0 hg1 hg0
  generalize hres : rRep (rAt P f i) (zeros P.orders.length) X k.toNat = res at *
  have HRes := Lib.hid hres; clear hres
  have hs1 : w.heap.size ≤ w1.heap.size := hgw1.size
  go_loopw [3, 9, 10] (fun kv ov bv wr => ∃ (m : Nat) (O B : List Int), kv = .int .i64 m ∧ m ≤ k.toNat ∧ Ext w1 wr ∧ Own w.heap.size wr ov O ∧ Ints Any wr bv B ∧ Vec P.orders O ∧ Vec P.orders B ∧ rRep (rAt P f i) O B m = res) (fun kv _ _ _ => (intOf kv).toNat)
  case atStart => exact ⟨k.toNat, _, X, by congr 1; omega, Nat.le_refl _, Ext.refl _, ho1.weak (by omega), Ints.sub hx1 (fun _ _ _ => trivial), zeros_vec hP, hX, HRes.out⟩
  case round =>
    obtain ⟨m, O, B, rfl, hm, hg, hO, hB, hvO, hvB, hr⟩ := hrel
    have HVO := Lib.hid hvO; have HVB := Lib.hid hvB; have HR := Lib.hid hr; clear hr
    obtain ⟨vo9, vp9, vc9, _, _, hc0, hc1, hc2, h39⟩ := (hBx1.ext hg).at
    obtain ⟨ab, capb, rfl, _, _⟩ := hB.shape
    have hOi := hO.ints (by rw [hvO.1]; omega)
    have hlB := hvB.1
    clear hvO hvB
    have HLB := Lib.hid hlB; clear hlB
    by_cases hm0 : 0 < m
    · by_cases hodd : m % 2 = 1
      · have hb : (((m : Int).tmod 2) == 1) = true := by
          rw [Int.tmod_eq_emod_of_nonneg (by omega)]; simp; omega
        have hb2 : (((m : Int) % 2) == 1) = true := by simp; omega
        have HOD := Lib.hid hodd; clear hodd
        go_wp2_with fail
        refine Calls.mono (l08At_ok P hP f wr _ _ _ i O B Any Any Any hi ⟨_, _, _, rfl, h39⟩ hOi hB HVO.out HVB.out) ?_
        rintro e2 w2 ⟨v2, rfl, hg2, hO2⟩
        have hc02 := hg2.cell hc0 (by simp)
        have hc12 := hg2.cell hc1 (by simp)
        have hc22 := hg2.cell hc2 (by simp)
        go_wp2_with fail
        refine Calls.mono (l08At_ok P hP f w2 _ _ _ i B B Any Any Any hi ⟨_, _, _, rfl, h39.ext hg2⟩ (hB.ext hg2) (hB.ext hg2) HVB.out HVB.out) ?_
        rintro e3 w3 ⟨v3, rfl, hg3, hO3⟩
        have hvb3 := rAt_vec hP f i B B hi HVB.out HVB.out
        have hB3 := hO3.ints (by rw [hvb3.1]; omega)
        have HV3 := Lib.hid hvb3; clear hvb3 hb hb2
        have hO2' := (hO2.ext0 hg3).weak (base' := w.heap.size) (by have := hg.size; omega)
        go_wp2
        go_roundw
        case rel => exact ⟨m / 2, _, _, by first | rfl | (congr 1; omega) | congr 1, by omega, grown_trans (grown_trans hg hg2) hg3, hO2', hB3, rAt_vec hP f i O B hi HVO.out HVB.out, HV3.out, by rw [← HR.out, rRep_step _ O B m hm0, if_pos HOD.out]⟩
        case measure => simp [intOf]; omega
      · have hb : (((m : Int).tmod 2) == 1) = false := by
          rw [Int.tmod_eq_emod_of_nonneg (by omega)]; simp; omega
        have hb2 : (((m : Int) % 2) == 1) = false := by simp; omega
        have HOD := Lib.hid hodd; clear hodd
        go_wp2_with fail
        refine Calls.mono (l08At_ok P hP f wr _ _ _ i B B Any Any Any hi ⟨_, _, _, rfl, h39⟩ hB hB HVB.out HVB.out) ?_
        rintro e3 w3 ⟨v3, rfl, hg3, hO3⟩
        have hvb3 := rAt_vec hP f i B B hi HVB.out HVB.out
        have hB3 := hO3.ints (by rw [hvb3.1]; omega)
        have HV3 := Lib.hid hvb3; clear hvb3 hb hb2
        have hO2' := hO.ext0 hg3
        go_wp2
        go_roundw
        case rel => exact ⟨m / 2, _, _, by first | rfl | (congr 1; omega) | congr 1, by omega, grown_trans hg hg3, hO2', hB3, HVO.out, HV3.out, by rw [← HR.out, rRep_step _ O B m hm0, if_neg HOD.out]⟩
        case measure => simp [intOf]; omega
    · have hm1 : m = 0 := by omega
      subst hm1
      have HO : Hid (Own w.heap.size wr u9 res) := by rw [← HR.out]; exact hO
      go_wp2
      go_ret
      exact ⟨_, rfl, grown_trans hgw1 hg, by show Own _ _ _ _; rw [HRes.out]; exact HO.out⟩

end Go.Proofs.Ytbfbpjkpoepmkaa
