/-
  Plain: relators, their values under images, homomorphisms and preimages.
  Plain: a group of order at most 32 has at most 17408 subgroups (a crude bound).
  Plain: a presentation whose relations are held by members of a monoid that cancel, no two vectors alike, is consistent; words of bijections; a regular realisation makes a presentation consistent.
  Plain: the subgroups of a small group as sets of bits; all of them are found; the ascending list is one.
  Plain: what impl.extendMask and spec.l19Span compute.
  Plain: what spec.l19Span computes: the bits of the subgroup that some elements generate.
  Plain: the elements of a consistent presentation as a type with products; subgroups, cosets, their counting.
  Plain: collecting positive words: what is computed, and that in a group a collected word is worth its vector.
  Plain: what is reached from 0 under a list of bijections, step by step.
  append of one integer inside a region that draws its order.
  Rows of bools of the call's own; a region that ends in a store.
  append of one value, of one integer, to a row of the call's own.
  Bijections, the program's side: isBijection, compose, inverseBijection, IsBijection, ComposeBijections.
  The regular realisation of a group: spec.l11Regular.
  Plain: the list that RegularRealisation answers is a regular realisation; a word maps 0 to the number of its value.
-/
import Derived.Test.YtoakmefajbbggaaGreatR1
import Derived.Test.YtoakmefajbbggaaGreatR4
import Derived.Test.YtoakmefajbbggaaGreatR5
import Derived.Test.YtoakmefajbbggaaGreatR6
import Derived.StillTailTactics
namespace Go.Proofs.YtoakmefajbbggaaGreat

/-- the word of the first k entries of a vector -/
def nWord (e : List Int) : Nat → List Int
  | 0 => []
  | k + 1 => nWord e k ++ List.replicate (gt e k).toNat ((k : Int) + 1)
def invWord (w : List Int) : List Int := (w.map (fun l => -l)).reverse
/-- all letters of a word stand for one of n generators -/
def WordN (n : Nat) (w : List Int) : Prop := ∀ l ∈ w, (1 ≤ l ∧ l ≤ n) ∨ (-(n : Int) ≤ l ∧ l ≤ -1)

theorem WordN.nil (n : Nat) : WordN n [] := fun l h => by cases h
theorem WordN.app {n : Nat} {a b : List Int} (h : WordN n a) (k : WordN n b) : WordN n (a ++ b) := fun l hl => (List.mem_append.1 hl).elim (h l) (k l)
theorem WordN.rep {n k : Nat} (m : Nat) (hk : k < n) : WordN n (List.replicate m ((k : Int) + 1)) := fun l hl => by
  have := (List.mem_replicate.1 hl).2; omega
theorem WordN.nWord {n : Nat} (e : List Int) : ∀ k, k ≤ n → WordN n (nWord e k)
  | 0, _ => WordN.nil n
  | k + 1, h => (WordN.nWord e k (by omega)).app (WordN.rep _ (by omega))
theorem WordN.inv {n : Nat} {w : List Int} (h : WordN n w) : WordN n (invWord w) := fun l hl => by
  unfold invWord at hl
  rw [List.mem_reverse, List.mem_map] at hl
  obtain ⟨a, ha, rfl⟩ := hl
  have := h a ha
  omega

theorem nWord_len {e : List Int} (h : ∀ i, gt e i ≤ 7) : ∀ k, (nWord e k).length ≤ 7 * k
  | 0 => by simp [nWord]
  | k + 1 => by
    have := nWord_len h k
    have := h k
    simp only [nWord, List.length_append, List.length_replicate]; omega
theorem invWord_len (w : List Int) : (invWord w).length = w.length := by unfold invWord; simp

/-- the relators of the first i powers -/
def relPow (P : Pr) (i : Nat) : List Int := List.replicate (gt P.orders i).toNat ((i : Int) + 1) ++ invWord (nWord (gt P.powers i) P.orders.length)
def relCon (P : Pr) (i k : Nat) : List Int := [-((i : Int) + 1), (i : Int) + k + 2, (i : Int) + 1] ++ invWord (nWord (gt (gt P.conj i) k) P.orders.length)
def relPs (P : Pr) : Nat → List (List Int)
  | 0 => []
  | k + 1 => relPs P k ++ [relPow P k]
/-- the relators of the first k conjugates of a row -/
def relCs (P : Pr) (i : Nat) : Nat → List (List Int)
  | 0 => []
  | k + 1 => relCs P i k ++ [relCon P i k]
def relTo (P : Pr) : Nat → List (List Int)
  | 0 => relPs P P.orders.length
  | i + 1 => relTo P i ++ relCs P i (gt P.conj i).length
def relsP (P : Pr) : List (List Int) := relTo P P.orders.length

theorem relPs_len (P : Pr) (k : Nat) : (relPs P k).length = k := by
  induction k with
  | zero => rfl
  | succ k ih => rw [relPs, List.length_append, ih]; rfl
theorem relCs_len (P : Pr) (i k : Nat) : (relCs P i k).length = k := by
  induction k with
  | zero => rfl
  | succ k ih => rw [relCs, List.length_append, ih]; rfl

/-- the value of the first k letters -/
def evalTo (Q : Pr) (Is : List (List Int)) (w : List Int) : Nat → List Int
  | 0 => zeros Q.orders.length
  | k + 1 => rMul Q (evalTo Q Is w k) (if gt w k < 0 then rInv Q (gt Is (-(gt w k) - 1).toNat) else gt Is ((gt w k) - 1).toNat)

section
variable {Q : Pr} (G : Grp Q)
include G

theorem Grp.eval_vec {Is : List (List Int)} {w : List Int} (h : ∀ x ∈ Is, Vec Q.orders x) (hw : WordN Is.length w) : ∀ k, k ≤ w.length → Vec Q.orders (evalTo Q Is w k) := by
  intro k
  induction k with
  | zero => intro _; exact G.oneV
  | succ k ih =>
    intro hk
    have hl := hw _ (gtMem (l := w) (i := k) (by omega))
    rw [evalTo]
    split
    · exact G.mulV (ih (by omega)) (G.invV (h _ (gtMem (by omega))))
    · exact G.mulV (ih (by omega)) (h _ (gtMem (by omega)))

end

theorem relPow_word {P : Pr} {i : Nat} (hi : i < P.orders.length) : WordN P.orders.length (relPow P i) :=
  (WordN.rep _ hi).app (WordN.nWord _ _ (Nat.le_refl _)).inv
theorem relCon_word {P : Pr} {i k : Nat} (hi : i + k + 1 < P.orders.length) : WordN P.orders.length (relCon P i k) :=
  WordN.app (fun l hl => by simp at hl; omega) (WordN.nWord _ _ (Nat.le_refl _)).inv
theorem relPs_word {P : Pr} : ∀ k, k ≤ P.orders.length → ∀ w ∈ relPs P k, WordN P.orders.length w
  | 0, _, w, h => by cases h
  | k + 1, hk, w, h => by
    rcases List.mem_append.1 h with h1 | h1
    · exact relPs_word k (by omega) w h1
    · rw [List.mem_singleton.1 h1]; exact relPow_word (by omega)
theorem relCs_word {P : Pr} {i : Nat} : ∀ k, i + k < P.orders.length → ∀ w ∈ relCs P i k, WordN P.orders.length w
  | 0, _, w, h => by cases h
  | k + 1, hk, w, h => by
    rcases List.mem_append.1 h with h1 | h1
    · exact relCs_word k (by omega) w h1
    · rw [List.mem_singleton.1 h1]; exact relCon_word (by omega)

end Go.Proofs.YtoakmefajbbggaaGreat
namespace Go.Proofs.YtoakmefajbbggaaGreat

/-- a list without doubles whose members lie in another one is no longer -/
theorem nodup_sub_len {α : Type} : ∀ (l m : List α), l.Nodup → (∀ x ∈ l, x ∈ m) → l.length ≤ m.length
  | [], m, _, _ => by simp
  | a :: l, m, hn, hs => by
    obtain ⟨m1, m2, rfl⟩ := List.append_of_mem (hs a (List.mem_cons_self ..))
    have hn' := List.nodup_cons.1 hn
    have := nodup_sub_len l (m1 ++ m2) hn'.2 (fun x hx => by
      have h1 := hs x (List.mem_cons_of_mem _ hx)
      rw [List.mem_append, List.mem_cons] at h1
      rw [List.mem_append]
      rcases h1 with h1 | h1 | h1
      · exact .inl h1
      · subst h1; exact absurd hx hn'.1
      · exact .inr h1)
    simp only [List.length_append, List.length_cons] at *
    omega

end Go.Proofs.YtoakmefajbbggaaGreat
namespace Go.Proofs.YtoakmefajbbggaaGreat

section
variable {α : Type} {m : α → α → α} {e : α} {P : Pr} {h : Nat → α}

theorem npr_skip {x : List Int} {i f : Nat} (hx : ∀ k, k < i → gt x k = 0) : npr m h x 0 e (i + f) = npr m h x i e f := by
  unfold npr
  rw [acc_split, acc_zero _ x 0 e i (fun l _ b => hx l (by omega)), Nat.zero_add]
/-! ### words -/

/-- what a letter stands for -/
def letW (h hi : Nat → α) (l : Int) : α := if l < 0 then hi (-l - 1).toNat else h (l - 1).toNat
/-- the value of a word -/
def evW (m : α → α → α) (e : α) (h hi : Nat → α) (w : List Int) : α := w.foldl (fun y l => m y (letW h hi l)) e

theorem foldl_out (M : MonOn (fun _ : α => True) m e) (g : Int → α) : ∀ (v : List Int) (y : α), v.foldl (fun y l => m y (g l)) y = m y (v.foldl (fun y l => m y (g l)) e)
  | [], y => (M.er _ trivial).symm
  | l :: v, y => by
    rw [List.foldl_cons, List.foldl_cons, foldl_out M g v (m y (g l)), foldl_out M g v (m e (g l)), M.el _ trivial, M.ass _ _ _ trivial trivial trivial]
theorem evW_app (M : MonOn (fun _ : α => True) m e) {hi : Nat → α} (w v : List Int) : evW m e h hi (w ++ v) = m (evW m e h hi w) (evW m e h hi v) := by
  unfold evW
  rw [List.foldl_append, foldl_out M]
theorem evW_one (M : MonOn (fun _ : α => True) m e) {hi : Nat → α} (l : Int) : evW m e h hi [l] = letW h hi l := by
  unfold evW
  rw [List.foldl_cons, List.foldl_nil, M.el _ trivial]
theorem evW_rep (M : MonOn (fun _ : α => True) m e) {hi : Nat → α} (i k : Nat) : evW m e h hi (List.replicate k ((i : Int) + 1)) = iter k (fun y => m y (h i)) e := by
  induction k with
  | zero => rfl
  | succ k ih =>
    rw [List.replicate_succ', evW_app M, ih, evW_one M]
    unfold letW
    rw [if_neg (by omega), show ((i : Int) + 1 - 1).toNat = i by omega]; rfl
theorem evW_nWord (M : MonOn (fun _ : α => True) m e) {hi : Nat → α} (x : List Int) : ∀ k, evW m e h hi (nWord x k) = npr m h x 0 e k
  | 0 => rfl
  | k + 1 => by
    rw [nWord, evW_app M, evW_nWord M x k, evW_rep M]
    show m (npr m h x 0 e k) _ = iter (gt x (0 + k)).toNat (fun y => m y (h (0 + k))) (npr m h x 0 e k)
    rw [Nat.zero_add]
    exact (M.pow_out (h := h k) trivial trivial _).symm
theorem invWord_cons (l : Int) (w : List Int) : invWord (l :: w) = invWord w ++ [-l] := by unfold invWord; simp
theorem letW_inv {hi : Nat → α} {n : Nat} (h1 : ∀ j, j < n → m (h j) (hi j) = e) (h2 : ∀ j, j < n → m (hi j) (h j) = e) {l : Int} (hl : (1 ≤ l ∧ l ≤ n) ∨ (-(n : Int) ≤ l ∧ l ≤ -1)) : m (letW h hi l) (letW h hi (-l)) = e := by
  unfold letW
  rcases hl with hl | hl
  · rw [if_neg (by omega), if_pos (by omega), show (- -l - 1).toNat = (l - 1).toNat by omega]; exact h1 _ (by omega)
  · rw [if_pos (by omega), if_neg (by omega)]; exact h2 _ (by omega)
theorem evW_inv (M : MonOn (fun _ : α => True) m e) {hi : Nat → α} {n : Nat} (h1 : ∀ j, j < n → m (h j) (hi j) = e) (h2 : ∀ j, j < n → m (hi j) (h j) = e) : ∀ w, WordN n w → m (evW m e h hi w) (evW m e h hi (invWord w)) = e
  | [], _ => M.el _ trivial
  | l :: w, hw => by
    have ih := evW_inv M h1 h2 w (fun x hx => hw x (List.mem_cons_of_mem _ hx))
    have hl := letW_inv (m := m) (e := e) h1 h2 (hw l (List.mem_cons_self ..))
    have A := fun x y z => M.ass x y z trivial trivial trivial
    have e1 : evW m e h hi (l :: w) = m (letW h hi l) (evW m e h hi w) := by
      rw [show l :: w = [l] ++ w from rfl, evW_app M, evW_one M]
    rw [invWord_cons, evW_app M, evW_one M, e1, A, ← A (evW m e h hi w), ih, M.el _ trivial, hl]
end

theorem relTo_wd {P : Pr} (hP : Valid P) : ∀ i, i ≤ P.orders.length → ∀ w ∈ relTo P i, WordN P.orders.length w
  | 0, _, w, h => relPs_word _ (Nat.le_refl _) w h
  | i + 1, hi, w, h => by
    rcases List.mem_append.1 h with h1 | h1
    · exact relTo_wd hP i (by omega) w h1
    · exact relCs_word (i := i) _ (by rw [(hP.cv i (by omega)).1]; omega) w h1
theorem relsP_word {P : Pr} (hP : Valid P) : ∀ w ∈ relsP P, WordN P.orders.length w := relTo_wd hP _ (Nat.le_refl _)

/-! ### bijections -/

/-- a list with each index below N once -/
def BijL (N : Nat) (a : List Int) : Prop := a.length = N ∧ (∀ t, t < N → 0 ≤ gt a t ∧ gt a t < N) ∧ ∀ s t, s < N → t < N → gt a s = gt a t → s = t
/-- first a, then b -/
def aft (a b : List Int) : List Int := a.map (fun x => gt b x.toNat)
/-- the inverse -/
def bak (a : List Int) : List Int := (List.range a.length).map (fun t : Nat => ((a.findIdx (fun x => x == (t : Int)) : Nat) : Int))
def selfL (N : Nat) : List Int := (List.range N).map (fun t : Nat => (t : Int))
/-- the value of the first k letters -/
def evB (N : Nat) (L : List (List Int)) (w : List Int) : Nat → List Int
  | 0 => selfL N
  | k + 1 => aft (evB N L w k) (if gt w k < 0 then bak (gt L (-(gt w k) - 1).toNat) else gt L (gt w k - 1).toNat)
/-- what is reached from 0 -/
def Rch (L : List (List Int)) (t : Nat) : Prop := ∀ S : Nat → Prop, S 0 → (∀ s b, S s → b ∈ L → S (gt b s).toNat) → S t
/-- a regular realisation -/
def RealB (P : Pr) (L : List (List Int)) : Prop := L.length = P.orders.length ∧ (∀ b ∈ L, BijL (ordP P).toNat b) ∧ (∀ w ∈ relsP P, evB (ordP P).toNat L w w.length = selfL (ordP P).toNat) ∧ ∀ t, t < (ordP P).toNat → Rch L t

theorem inj_surj {N : Nat} (F : Nat → Nat) (hF : ∀ t, t < N → F t < N) (hi : ∀ s t, s < N → t < N → F s = F t → s = t) (s : Nat) (hs : s < N) : ∃ t, t < N ∧ F t = s := by
  rcases Classical.em (∃ t, t < N ∧ F t = s) with h | hne
  · exact h
  · exfalso
    have hn : ((List.range N).map F).Nodup := by
      rw [List.nodup_iff_pairwise_ne, List.pairwise_map]
      refine List.Pairwise.imp_of_mem ?_ (List.nodup_iff_pairwise_ne.1 (List.nodup_range (n := N)))
      intro x y hx hy hxy he
      exact hxy (hi x y (List.mem_range.1 hx) (List.mem_range.1 hy) he)
    have h1 := nodup_sub_len _ ((List.range N).erase s) hn (fun x hx => by
      obtain ⟨t, ht, rfl⟩ := List.mem_map.1 hx
      have ht := List.mem_range.1 ht
      exact (List.mem_erase_of_ne (fun e => hne ⟨t, ht, e⟩)).2 (List.mem_range.2 (hF t ht)))
    rw [List.length_map, List.length_erase_of_mem (List.mem_range.2 hs), List.length_range] at h1
    omega

theorem gt_range {n t : Nat} (h : t < n) : gt (List.range n) t = t := by simp [gt, h]
theorem gt_getElem {l : List Int} {i : Nat} (h : i < l.length) : gt l i = l[i] := by simp [gt, List.getD_eq_getElem?_getD, List.getElem?_eq_getElem h]
theorem selfL_len (N : Nat) : (selfL N).length = N := by unfold selfL; rw [List.length_map, List.length_range]
theorem gt_selfL {N t : Nat} (h : t < N) : gt (selfL N) t = (t : Int) := by
  unfold selfL
  rw [gt_map _ _ _ (by rw [List.length_range]; exact h)]
  simp [gt, h]
theorem aft_len (a b : List Int) : (aft a b).length = a.length := by unfold aft; rw [List.length_map]
theorem gt_aft {a b : List Int} {t : Nat} (h : t < a.length) : gt (aft a b) t = gt b (gt a t).toNat := by unfold aft; rw [gt_map _ _ _ h]
theorem bak_len (a : List Int) : (bak a).length = a.length := by unfold bak; rw [List.length_map, List.length_range]

theorem BijL.sur {N : Nat} {a : List Int} (h : BijL N a) (s : Nat) (hs : s < N) : ∃ t, t < N ∧ gt a t = (s : Int) := by
  obtain ⟨t, ht, e⟩ := inj_surj (fun t => (gt a t).toNat) (fun t ht => by have := h.2.1 t ht; show (gt a t).toNat < N; omega) (fun s t hs ht e => h.2.2 s t hs ht (by
    have h1 := h.2.1 s hs
    have h2 := h.2.1 t ht
    have e : (gt a s).toNat = (gt a t).toNat := e
    omega)) s hs
  exact ⟨t, ht, by have := h.2.1 t ht; have e : (gt a t).toNat = s := e; omega⟩
theorem gt_bak {N : Nat} {a : List Int} (h : BijL N a) {t : Nat} (ht : t < N) : gt (bak a) (gt a t).toNat = (t : Int) := by
  have h1 := h.2.1 t ht
  have hl := h.1
  unfold bak
  rw [gt_map _ _ _ (by rw [List.length_range]; omega)]
  have e1 : gt (List.range a.length) (gt a t).toNat = (gt a t).toNat := gt_range (by omega)
  rw [e1]
  have hx : a.findIdx (fun x => x == (((gt a t).toNat : Nat) : Int)) < a.length := List.findIdx_lt_length.2 ⟨gt a t, gtMem (by omega), by simp; omega⟩
  have hp := List.findIdx_getElem (w := hx)
  have hp2 : gt a (a.findIdx (fun x => x == (((gt a t).toNat : Nat) : Int))) = gt a t := by
    have e2 := gt_getElem hx
    rw [e2]
    have := eq_of_beq hp
    omega
  rw [h.2.2 _ t (by omega) ht hp2]
theorem BijL.self (N : Nat) : BijL N (selfL N) :=
  ⟨selfL_len N, fun t ht => by rw [gt_selfL ht]; omega, fun s t hs ht e => by rw [gt_selfL hs, gt_selfL ht] at e; omega⟩
theorem BijL.aft {N : Nat} {a b : List Int} (ha : BijL N a) (hb : BijL N b) : BijL N (aft a b) := by
  refine ⟨by rw [aft_len]; exact ha.1, fun t ht => ?_, fun s t hs ht e => ?_⟩
  · have := ha.2.1 t ht
    rw [gt_aft (by rw [ha.1]; exact ht)]; exact hb.2.1 _ (by omega)
  · have h1 := ha.2.1 s hs
    have h2 := ha.2.1 t ht
    rw [gt_aft (by rw [ha.1]; exact hs), gt_aft (by rw [ha.1]; exact ht)] at e
    have := hb.2.2 _ _ (by omega) (by omega) e
    exact ha.2.2 s t hs ht (by omega)
theorem BijL.bak {N : Nat} {a : List Int} (ha : BijL N a) : BijL N (bak a) := by
  have key : ∀ s, s < N → ∃ t, t < N ∧ gt a t = (s : Int) ∧ gt (Go.Proofs.YtoakmefajbbggaaGreat.bak a) s = (t : Int) := fun s hs => by
    obtain ⟨t, ht, e⟩ := ha.sur s hs
    refine ⟨t, ht, e, ?_⟩
    have := gt_bak ha ht
    rwa [e, Int.toNat_natCast] at this
  refine ⟨by rw [bak_len]; exact ha.1, fun s hs => ?_, fun s t hs ht e => ?_⟩
  · obtain ⟨t, ht, _, e⟩ := key s hs
    rw [e]; omega
  · obtain ⟨x, _, e1, e2⟩ := key s hs
    obtain ⟨y, _, e3, e4⟩ := key t ht
    rw [e2, e4] at e
    have : x = y := by omega
    subst this
    rw [e1] at e3; omega

theorem evB_bij {N : Nat} {L : List (List Int)} (hL : ∀ b ∈ L, BijL N b) {w : List Int} (hw : WordN L.length w) : ∀ k, k ≤ w.length → BijL N (evB N L w k)
  | 0, _ => BijL.self N
  | k + 1, hk => by
    have ih := evB_bij hL hw k (by omega)
    have hl := hw _ (gtMem (l := w) (i := k) (by omega))
    rw [evB]
    split
    · exact ih.aft (hL _ (gtMem (by omega))).bak
    · exact ih.aft (hL _ (gtMem (by omega)))
end Go.Proofs.YtoakmefajbbggaaGreat
namespace Go.Proofs.YtoakmefajbbggaaGreat

section
variable {P : Pr} (G : Grp P)
include G

theorem Grp.num_lt {x : List Int} (hx : Vec P.orders x) : (num P x).toNat < (ordP P).toNat ∧ elAt P ((num P x).toNat : Int) = x := by
  have hb := num_bd G.v hx
  refine ⟨by omega, ?_⟩
  rw [show (((num P x).toNat : Nat) : Int) = num P x by omega]; exact elAt_num G.v hx

end

end Go.Proofs.YtoakmefajbbggaaGreat
namespace Go.Proofs.YtoakmefajbbggaaGreat

section
variable {P : Pr} (G : Grp P)
include G

theorem Grp.elAtV {t : Nat} (_ht : t < (ordP P).toNat) : Vec P.orders (elAt P t) := elAt_vec G.v _ (by omega)
end

end Go.Proofs.YtoakmefajbbggaaGreat
namespace Go.Proofs.YtoakmefajbbggaaGreat

theorem num_zeros {P : Pr} (_hP : Valid P) : num P (zeros P.orders.length) = 0 := by
  have key : ∀ k, numTo P.orders (zeros P.orders.length) k = 0 := by
    intro k
    induction k with
    | zero => rfl
    | succ k ih =>
      have h0 : gt (zeros P.orders.length) k = 0 := gt_replicate _ _
      simp only [numTo, ih, h0]; simp
  exact key _

section
variable {P : Pr} (G : Grp P)
include G

theorem Grp.el_zero : elAt P ((0 : Nat) : Int) = zeros P.orders.length := by
  have h := G.num_lt G.oneV
  have h0 : num P (zeros P.orders.length) = 0 := num_zeros G.v
  rw [h0] at h
  exact h.2

end

end Go.Proofs.YtoakmefajbbggaaGreat
namespace Go.Proofs.YtoakmefajbbggaaGreat

/-- an element of the group -/
def El {P : Pr} (_ : Grp P) : Type := {x : List Int // Vec P.orders x}

section
variable {P : Pr} {G : Grp P}

instance : Mul (El G) := ⟨fun x y => ⟨rMul P x.1 y.1, G.mulV x.2 y.2⟩⟩
instance : One (El G) := ⟨⟨zeros P.orders.length, G.oneV⟩⟩
instance : Inv (El G) := ⟨fun x => ⟨rInv P x.1, G.invV x.2⟩⟩

theorem El.ass (x y z : El G) : x * y * z = x * (y * z) := Subtype.ext (G.ass x.2 y.2 z.2)
theorem El.ol (x : El G) : 1 * x = x := Subtype.ext (G.grp.el _ x.2)
theorem El.or (x : El G) : x * 1 = x := Subtype.ext (G.grp.er _ x.2)
theorem El.il (x : El G) : x⁻¹ * x = 1 := Subtype.ext (G.inv_mul x.2)
theorem El.ir (x : El G) : x * x⁻¹ = 1 := Subtype.ext (G.mul_inv x.2)
theorem El.ilc (x y : El G) : x⁻¹ * (x * y) = y := by rw [← El.ass, El.il, El.ol]
theorem El.inv_of {x y : El G} (h : x * y = 1) : y = x⁻¹ := by rw [← El.ilc x y, h, El.or]
end

end Go.Proofs.YtoakmefajbbggaaGreat
namespace Go.Proofs.YtoakmefajbbggaaGreat

/-! ### the value in a group -/
section
variable {P : Pr} (G : Grp P)

theorem el_mon : MonOn (fun _ : El G => True) (· * ·) 1 := ⟨fun _ _ _ _ => trivial, trivial, fun x y z _ _ _ => El.ass x y z, fun x _ => El.ol x, fun x _ => El.or x⟩
/-- the generators as elements -/
def gE (j : Nat) : El G := ⟨unitV P.orders.length j, unitV_vec G.v j⟩
theorem npr_val (x : List Int) (i : Nat) : ∀ k, (npr (· * ·) (gE G) x i 1 k).1 = npr (rMul P) (unitV P.orders.length) x i (zeros P.orders.length) k
  | 0 => rfl
  | k + 1 => by
    have ih := npr_val x i k
    unfold npr at ih ⊢
    rw [acc, acc, ← ih]
    generalize acc (fun (y : El G) j => y * gE G j) x i 1 k = z
    induction (gt x (i + k)).toNat with
    | zero => rfl
    | succ m ihm =>
      show rMul P (iter m (fun y => y * gE G (i + k)) z).1 (unitV P.orders.length (i + k)) = _
      rw [ihm]; rfl
theorem el_holds : Holds P (fun _ : El G => True) (· * ·) 1 (gE G) 0 := by
  refine ⟨fun _ _ _ => trivial, fun j a b => ?_, fun j k a b c => ?_⟩
  · apply Subtype.ext
    rw [npr_val, ← G.rel.pw j a b]
    induction (gt P.orders j).toNat with
    | zero => rfl
    | succ m ihm =>
      show rMul P (iter m (fun y => y * gE G j) 1).1 (unitV P.orders.length j) = _
      rw [ihm]; rfl
  · apply Subtype.ext
    have := G.rel.cj j k a b c
    rw [← npr_val G] at this
    exact this
/-- the value of a word -/
def wv (w : List Int) : El G := evW (· * ·) 1 (gE G) (fun j => (gE G j)⁻¹) w
theorem wv_app (w v : List Int) : wv G (w ++ v) = wv G w * wv G v := evW_app (el_mon G) w v
theorem wv_one {l : Int} (h : 1 ≤ l) : wv G [l] = gE G (l - 1).toNat := by
  unfold wv
  rw [evW_one (el_mon G)]
  unfold letW
  rw [if_neg (by omega)]
theorem wv_nWord (x : List Int) (k : Nat) : wv G (nWord x k) = npr (· * ·) (gE G) x 0 1 k := evW_nWord (el_mon G) x k
theorem wv_rep (i k : Nat) : wv G (List.replicate k ((i : Int) + 1)) = iter k (fun y => y * gE G i) 1 := evW_rep (el_mon G) i k

end

/-! ### normal words -/

end Go.Proofs.YtoakmefajbbggaaGreat
namespace Go.Proofs.YtoakmefajbbggaaGreat

/-- what has been reached: the first i have been turned by all, number i by the first k -/
structure RchInv (N : Nat) (L : List (List Int)) (rl : List Int) (i k : Nat) : Prop where
  nd : rl.Nodup
  rg : ∀ x ∈ rl, 0 ≤ x ∧ x < (N : Int)
  rc : ∀ x ∈ rl, Rch L x.toNat
  z : (0 : Int) ∈ rl
  ci : ∀ s, s < i → ∀ b ∈ L, gt b (gt rl s).toNat ∈ rl
  ck : ∀ j, j < k → gt (gt L j) (gt rl i).toNat ∈ rl
  le : i ≤ rl.length

theorem Rch.step {L : List (List Int)} {s : Nat} (h : Rch L s) {b : List Int} (hb : b ∈ L) : Rch L (gt b s).toNat := fun S h0 hs => hs s b (h S h0 hs) hb

theorem RchInv.len {N : Nat} {L : List (List Int)} {rl : List Int} {i k : Nat} (h : RchInv N L rl i k) : rl.length ≤ N := by
  have := nodup_sub_len rl (selfL N) h.nd (fun x hx => by
    have := h.rg x hx
    unfold selfL
    exact List.mem_map.2 ⟨x.toNat, List.mem_range.2 (by omega), by omega⟩)
  rwa [selfL_len] at this
theorem RchInv.start {N : Nat} (hN : 0 < N) (L : List (List Int)) : RchInv N L [0] 0 0 :=
  ⟨by simp, fun x hx => by rw [List.mem_singleton.1 hx]; omega, fun x hx => by rw [List.mem_singleton.1 hx]; exact fun S h0 _ => h0, by simp, fun s hs => by omega, fun j hj => by omega, by simp⟩
theorem RchInv.no {N : Nat} {L : List (List Int)} {rl : List Int} {i k : Nat} (h : RchInv N L rl i k) (hy : gt (gt L k) (gt rl i).toNat ∈ rl) : RchInv N L rl i (k + 1) :=
  ⟨h.nd, h.rg, h.rc, h.z, h.ci, fun j hj => by
    rcases Nat.lt_succ_iff_lt_or_eq.1 hj with h1 | h1
    · exact h.ck j h1
    · rw [h1]; exact hy, h.le⟩
theorem RchInv.yes {N : Nat} {L : List (List Int)} {rl : List Int} {i k : Nat} (h : RchInv N L rl i k) (hi : i < rl.length) (hk : k < L.length) (hb : BijL N (gt L k)) (hy : ¬ gt (gt L k) (gt rl i).toNat ∈ rl) : RchInv N L (rl ++ [gt (gt L k) (gt rl i).toNat]) i (k + 1) := by
  have hgi : ∀ s, s < rl.length → gt (rl ++ [gt (gt L k) (gt rl i).toNat]) s = gt rl s := fun s hs => gt_append_left _ _ _ hs
  have hx := h.rg _ (gtMem hi)
  have hr := h.rc _ (gtMem hi)
  have hyr := hb.2.1 (gt rl i).toNat (by omega)
  refine ⟨?_, fun x hx => ?_, fun x hx => ?_, List.mem_append_left _ h.z, fun s hs b hbL => ?_, fun j hj => ?_, by rw [List.length_append]; have := h.le; omega⟩
  · rw [List.nodup_append]
    refine ⟨h.nd, by simp, fun a ha b hb e => hy ?_⟩
    have hb' := List.mem_singleton.1 hb
    rw [← hb', ← e]; exact ha
  · rcases List.mem_append.1 hx with h1 | h1
    · exact h.rg x h1
    · rw [List.mem_singleton.1 h1]; exact hyr
  · rcases List.mem_append.1 hx with h1 | h1
    · exact h.rc x h1
    · rw [List.mem_singleton.1 h1]; exact hr.step (gtMem hk)
  · rw [hgi s (by omega)]; exact List.mem_append_left _ (h.ci s hs b hbL)
  · rw [hgi i hi]
    rcases Nat.lt_succ_iff_lt_or_eq.1 hj with h1 | h1
    · exact List.mem_append_left _ (h.ck j h1)
    · rw [h1]; exact List.mem_append_right _ (List.mem_singleton.2 rfl)
theorem RchInv.next {N : Nat} {L : List (List Int)} {rl : List Int} {i : Nat} (h : RchInv N L rl i L.length) (hi : i < rl.length) : RchInv N L rl (i + 1) 0 :=
  ⟨h.nd, h.rg, h.rc, h.z, fun s hs b hb => by
    rcases Nat.lt_succ_iff_lt_or_eq.1 hs with h1 | h1
    · exact h.ci s h1 b hb
    · obtain ⟨j, hj, rfl⟩ := mem_gt hb
      rw [h1]; exact h.ck j hj, fun j hj => by omega, hi⟩
theorem RchInv.done {N : Nat} {L : List (List Int)} {rl : List Int} (h : RchInv N L rl rl.length 0) : rl.length = N ↔ ∀ t, t < N → Rch L t := by
  have hle := h.len
  constructor
  · intro e t ht
    have hm : (t : Int) ∈ rl := by
      refine Classical.byContradiction fun hn => ?_
      have := nodup_sub_len ((t : Int) :: rl) (selfL N) (List.nodup_cons.2 ⟨hn, h.nd⟩) (fun x hx => by
        have hb : 0 ≤ x ∧ x < (N : Int) := by
          rcases List.mem_cons.1 hx with e | hx
          · rw [e]; omega
          · exact h.rg x hx
        unfold selfL
        exact List.mem_map.2 ⟨x.toNat, List.mem_range.2 (by omega), by omega⟩)
      rw [selfL_len, List.length_cons] at this
      omega
    have := h.rc _ hm
    rwa [Int.toNat_natCast] at this
  · intro hall
    have hsub : ∀ x ∈ selfL N, x ∈ rl := fun x hx => by
      unfold selfL at hx
      obtain ⟨t, ht, rfl⟩ := List.mem_map.1 hx
      exact hall t (List.mem_range.1 ht) (fun t => (t : Int) ∈ rl) h.z (fun s b hs hb => by
        obtain ⟨q, hq, e⟩ := mem_gt hs
        have h1 := h.ci q hq b hb
        rw [e, Int.toNat_natCast] at h1
        have h2 := h.rg _ h1
        have e2 : (((gt b s).toNat : Nat) : Int) = gt b s := by omega
        show (((gt b s).toNat : Nat) : Int) ∈ rl
        rw [e2]; exact h1)
    have hnd : (selfL N).Nodup := by
      unfold selfL
      rw [List.nodup_iff_pairwise_ne, List.pairwise_map]
      exact (List.nodup_iff_pairwise_ne.1 (List.nodup_range (n := N))).imp (fun h e => h (by omega))
    have := nodup_sub_len _ rl hnd hsub
    rw [selfL_len] at this
    omega

open Classical in
/-- what IsRealisation answers -/
noncomputable def reC (P : Pr) : Int := if validB P = true then (if 128 < ordP P then 3 else 0) else 1
open Classical in
noncomputable def reB (P : Pr) (L : List (List Int)) : Bool := decide (validB P = true ∧ ordP P ≤ 128 ∧ RealB P L)
open Classical in
theorem re_inv {P : Pr} (h : validB P = false) (L : List (List Int)) : reC P = 1 ∧ reB P L = false := by
  unfold reC reB
  rw [h]
  exact ⟨rfl, decide_eq_false (fun hh => by cases hh.1)⟩
open Classical in
theorem re_big {P : Pr} (h : validB P = true) (h2 : 128 < ordP P) (L : List (List Int)) : reC P = 3 ∧ reB P L = false := by
  unfold reC reB
  rw [if_pos h, if_pos h2]
  exact ⟨rfl, decide_eq_false (fun hh => by omega)⟩
open Classical in
theorem re_no {P : Pr} (h : validB P = true) (h2 : ¬ 128 < ordP P) {L : List (List Int)} (h3 : ¬ RealB P L) : reC P = 0 ∧ reB P L = false := by
  unfold reC reB
  rw [if_pos h, if_neg h2]
  exact ⟨rfl, decide_eq_false (fun hh => h3 hh.2.2)⟩
open Classical in
theorem re_yes {P : Pr} (h : validB P = true) (h2 : ¬ 128 < ordP P) {L : List (List Int)} (h3 : RealB P L) : reC P = 0 ∧ reB P L = true := by
  unfold reC reB
  rw [if_pos h, if_neg h2]
  exact ⟨rfl, decide_eq_true ⟨h, by omega, h3⟩⟩
end Go.Proofs.YtoakmefajbbggaaGreat
namespace Go.Proofs.YtoakmefajbbggaaGreat
open Go.RowKit

theorem step_app_int {ops : Array Oper} {o : Oper} {a : Act} {K : Act → World → Prop} {Q : Exit → Act → World → Prop} {Ex : Prop} {w : World} (hgd : o.guard = none) (s x : Operand)
    (ho : o.op = Op.call { callee := Callee.builtin Builtin.append, args := #[s, x], argTypes := #[24, 24] }) (B : Nat) (v : Value) (l : List Int) (y : Int) (hs : a.eval s = v) (w2 : World) (hown : Own B w2 v l)
    (hw : w = w2.alloc (.cells #[.int .i64 y] 2)) (hx : a.eval x = .slice (some ⟨w2.heap.size, 0, none⟩) 1 1) (hlen : l.length ≤ 1000000) (hbase : B ≤ w2.heap.size)
    (h : ∀ v' w', Own B w' v' (l ++ [y]) → w2.grownBy w' v.ownBlock → K (a.put o.dst v') w') :
    if Region.wanted o (yielded ops a.tmps) = true then Oper.wp Tryz.prog o a w K Q else Ex := by
  subst hw
  have hga : Ext w2 (w2.alloc (.cells #[.int .i64 y] 2)) := World.grownBy_alloc _ _ _
  refine step_app 24 2 (.int .i64 0) 8 und_ints Tryz.infoInt rfl (by decide) hgd s x ho B v (l.map (Value.int .i64)) hs (hown.ext0 hga).v w2.heap.size (.int .i64 y) hx (by rw [World.cell?_alloc_at _ _ _ _ rfl]; rfl) rfl (by simpa using (by omega : l.length ≤ 2000000)) (by have := hga.size; omega) ?_
  intro v' w' h1 h2 _
  exact h v' w' (Own.of (by rw [List.map_append]; exact h1)) (grown_trans (grown_of_ext _ hga) h2)

end Go.Proofs.YtoakmefajbbggaaGreat
namespace Go.Proofs.YtoakmefajbbggaaGreat
open Go.RowKit

/-! ### a row of bools of the call's own -/
abbrev BOwn (base : Nat) (w : World) (v : Value) (l : List Bool) : Prop := w.ownsRow base 4 1 v l.length (l.map Value.bool)
theorem und_bools : Tryz.prog.underlying 176 = some (.slice 4) := by kernel_rfl
theorem Tryz.infoBool : (Tryz.prog.info? 4).map (fun i => (i.zero, i.size, i.bytes)) = some (some (.bool false), 1, 1) := by kernel_rfl

theorem wp_make_bools {ops : Array Oper} {rest : List Oper} {o : Oper} {a : Act} {Q : Exit → Act → World → Prop} {w : World} (hgd : o.guard = none) (l c : Operand)
    (ho : o.op = Op.makeSlice 176 l c) (base n H : Nat) (hH : w.heap.size = H) (L : Int) (hl : a.eval l = .int .i64 L) (hc : a.eval c = .int .i64 L) (hL : L = n) (hn : n ≤ 2147483648) (hbase : base ≤ H)
    (h : ∀ w', BOwn base w' (.slice (some ⟨H, 0, none⟩) n n) (List.replicate n false) → Ext w w' → H < w'.heap.size → wpList Tryz.prog ops Q rest (a.put o.dst (.slice (some ⟨H, 0, none⟩) n n)) w') :
    wpList Tryz.prog ops Q (o :: rest) a w := by
  subst hH
  obtain ⟨i0, hi, hz0, hz1, hz2⟩ := info_parts Tryz.infoBool
  refine wpList_make_full w hgd l c 176 ho base 4 i0 (.bool false) 1 und_bools hi hz0 hz1 .i64 .i64 L L n hl hc hL hL (by rw [hz2]; omega) (by unfold maxLen; omega) hbase ?_
  intro w' h1 h2
  refine h w' ?_ h2 (h1.lt w.heap.size rfl).2
  have e : (madeCells (Value.cells (.bool false)) (n * 1)).toList = (List.replicate n false).map Value.bool := by
    rw [show Value.cells (.bool false) = #[.bool false] from rfl, toList_madeCells_one]; simp
  rw [e] at h1
  show World.ownsRow _ _ _ _ _ _ _
  rw [List.length_replicate]; exact h1

theorem BOwn.cell {base g cap n : Nat} {w : World} {l : List Bool} (h : BOwn base w (.slice (some ⟨g, 0, none⟩) n cap) l) (j : Nat) (hj : j < l.length) : w.cell? ⟨g, j, none⟩ = some (.bool (gt l j)) := by
  have hn : n = l.length := by
    obtain ⟨_, ⟨h, _⟩ | ⟨_, _, _, h, _⟩⟩ := h <;> cases h; rfl
  subst hn
  have := World.ownsRow.cellAt h j (by omega)
  rw [this]; simp [gt, hj]

theorem BOwn.frozen {base g cap n : Nat} {w : World} {l : List Bool} (h : BOwn base w (.slice (some ⟨g, 0, none⟩) n cap) l) (j : Nat) : w.frozen? ⟨g, j, none⟩ = false := by
  have hn : n = l.length := by
    obtain ⟨_, ⟨h, _⟩ | ⟨_, _, _, h, _⟩⟩ := h <;> cases h; rfl
  subst hn
  exact World.ownsRow.frozenAt h j

theorem BOwn.store {base g cap n : Nat} {w : World} {l : List Bool} (h : BOwn base w (.slice (some ⟨g, 0, none⟩) n cap) l) (j : Nat) (x : Bool) :
    BOwn base (w.setCell ⟨g, j, none⟩ (.bool x)) (.slice (some ⟨g, 0, none⟩) n cap) (l.set j x) ∧ w.grownBy (w.setCell ⟨g, j, none⟩ (.bool x)) (some g) := by
  have hn : n = l.length := by
    obtain ⟨_, ⟨h, _⟩ | ⟨_, _, _, h, _⟩⟩ := h <;> cases h; rfl
  subst hn
  obtain ⟨h1, h2⟩ := World.ownsRow.stored h j (.bool x)
  refine ⟨?_, h2⟩
  show World.ownsRow _ _ _ _ _ _ _
  rw [List.length_set, List.map_set]; exact h1

/-- w' is reached from w by growth and at most one store into block g behind it -/
def Near (w : World) (g : Nat) (w' : World) : Prop := ∃ w1, Ext w w1 ∧ (w' = w1 ∨ ∃ j x, w' = w1.setCell ⟨g, j, none⟩ x)
theorem Near.of {w w' : World} {g : Nat} (h : Ext w w') : Near w g w' := ⟨w', h, .inl rfl⟩
theorem Near.store {w w' : World} {g j : Nat} {x : Value} (h : Ext w w') : Near w g (w'.setCell ⟨g, j, none⟩ x) := ⟨w', h, .inr ⟨j, x, rfl⟩⟩
theorem Near.cell {w w' : World} {g : Nat} (h : Near w g w') {a : Addr} {v : Value} (hc : w.cell? a = some v) (hne : a.block ≠ g) : w'.cell? a = some v := by
  obtain ⟨w1, h1, rfl | ⟨j, x, rfl⟩⟩ := h
  · exact h1.cell hc (by simp)
  · rw [World.cell?_setCell_far _ _ _ _ (by simpa using Ne.symm hne)]
    exact h1.cell hc (by simp)

end Go.Proofs.YtoakmefajbbggaaGreat
namespace Go.Proofs.YtoakmefajbbggaaGreat
open Go.RowKit

/-- append of one value to a row of the call's own -/
theorem wp_app_v (T E : Nat) (z : Value) (bytes : Nat) (hT : Tryz.prog.underlying T = some (.slice E)) (hE : (Tryz.prog.info? E).map (fun i => (i.zero, i.size, i.bytes)) = some (some z, 1, bytes))
    (hzs : z.cells.size = 1) (hbt : bytes ≤ 64) {ops : Array Oper} {rest : List Oper} {o : Oper} {a : Act} {Q : Exit → Act → World → Prop} {w : World} (hgd : o.guard = none) (s x : Operand)
    (ho : o.op = Op.call { callee := Callee.builtin Builtin.append, args := #[s, x], argTypes := #[T, T] }) (base : Nat) (w1 : World) (v u : Value) (xs : List Value) (hs : a.eval s = v) (hown : OwnV base E w1 v xs)
    (hw : w = w1.alloc (.cells #[u] E)) (hu : u.oneCell' = true) (hx : a.eval x = .slice (some ⟨w1.heap.size, 0, none⟩) 1 1) (hlen : xs.length ≤ 1000000) (hbase : base ≤ w1.heap.size)
    (h : ∀ v' w', OwnV base E w' v' (xs ++ [u]) → w1.grownBy w' v.ownBlock → wpList Tryz.prog ops Q rest (a.put o.dst v') w') :
    wpList Tryz.prog ops Q (o :: rest) a w := by
  subst hw
  have hga : Ext w1 (w1.alloc (.cells #[u] E)) := World.grownBy_alloc _ _ _
  refine wp_app T E z bytes hT hE hzs hbt hgd s x ho base v xs hs (hown.kept hga (by cases hv : v.ownBlock <;> simp)) (some ⟨w1.heap.size, 0, none⟩) 1 1 [u] hx rfl (by simp) ?_ ?_ (by omega) (by have := hga.size; omega) ?_
  · intro j hj
    have : j = 0 := by omega
    subst this
    exact ⟨_, _, rfl, by rw [World.cell?_alloc_at _ _ _ _ rfl]; rfl⟩
  · intro u' hu'
    simp at hu'; subst hu'; exact hu
  · intro v' w' h1 h2 _ _
    exact h v' w' h1 (grown_trans (grown_of_ext _ hga) h2)

theorem wp_app_int {ops : Array Oper} {rest : List Oper} {o : Oper} {a : Act} {Q : Exit → Act → World → Prop} {w : World} (hgd : o.guard = none) (s x : Operand)
    (ho : o.op = Op.call { callee := Callee.builtin Builtin.append, args := #[s, x], argTypes := #[24, 24] }) (B : Nat) (v : Value) (l : List Int) (y : Int) (hs : a.eval s = v) (w2 : World) (hown : Own B w2 v l)
    (hw : w = w2.alloc (.cells #[.int .i64 y] 2)) (hx : a.eval x = .slice (some ⟨w2.heap.size, 0, none⟩) 1 1) (hlen : l.length ≤ 1000000) (hbase : B ≤ w2.heap.size)
    (h : ∀ v' w', Own B w' v' (l ++ [y]) → w2.grownBy w' v.ownBlock → wpList Tryz.prog ops Q rest (a.put o.dst v') w') :
    wpList Tryz.prog ops Q (o :: rest) a w :=
  wp_app_v 24 2 (.int .i64 0) 8 und_ints Tryz.infoInt rfl (by decide) hgd s x ho B w2 v (.int .i64 y) (l.map (Value.int .i64)) hs hown.v hw rfl hx (by rw [List.length_map]; exact hlen) hbase
    (fun v' w' h1 h2 => h v' w' (Own.of (by rw [List.map_append]; exact h1)) h2)

/-- the same; and where the new row lies -/
theorem wp_app_vb (T E : Nat) (z : Value) (bytes : Nat) (hT : Tryz.prog.underlying T = some (.slice E)) (hE : (Tryz.prog.info? E).map (fun i => (i.zero, i.size, i.bytes)) = some (some z, 1, bytes))
    (hzs : z.cells.size = 1) (hbt : bytes ≤ 64) {ops : Array Oper} {rest : List Oper} {o : Oper} {a : Act} {Q : Exit → Act → World → Prop} {w : World} (hgd : o.guard = none) (s x : Operand)
    (ho : o.op = Op.call { callee := Callee.builtin Builtin.append, args := #[s, x], argTypes := #[T, T] }) (base : Nat) (w1 : World) (v u : Value) (xs : List Value) (hs : a.eval s = v) (hown : OwnV base E w1 v xs)
    (hw : w = w1.alloc (.cells #[u] E)) (hu : u.oneCell' = true) (hx : a.eval x = .slice (some ⟨w1.heap.size, 0, none⟩) 1 1) (hlen : xs.length ≤ 1000000) (hbase : base ≤ w1.heap.size)
    (h : ∀ v' w', OwnV base E w' v' (xs ++ [u]) → w1.grownBy w' v.ownBlock → (v'.ownBlock = v.ownBlock ∨ ∀ k, v'.ownBlock = some k → w1.heap.size ≤ k) → wpList Tryz.prog ops Q rest (a.put o.dst v') w') :
    wpList Tryz.prog ops Q (o :: rest) a w := by
  subst hw
  have hga : Ext w1 (w1.alloc (.cells #[u] E)) := World.grownBy_alloc _ _ _
  refine wp_app T E z bytes hT hE hzs hbt hgd s x ho base v xs hs (hown.kept hga (by cases hv : v.ownBlock <;> simp)) (some ⟨w1.heap.size, 0, none⟩) 1 1 [u] hx rfl (by simp) ?_ ?_ (by omega) (by have := hga.size; omega) ?_
  · intro j hj
    have : j = 0 := by omega
    subst this
    exact ⟨_, _, rfl, by rw [World.cell?_alloc_at _ _ _ _ rfl]; rfl⟩
  · intro u' hu'
    simp at hu'; subst hu'; exact hu
  · intro v' w' h1 h2 _ h4
    exact h v' w' h1 (grown_trans (grown_of_ext _ hga) h2) (h4.elim .inl (fun e => .inr (fun k hk => by rw [e] at hk; cases hk; exact hga.size)))

theorem wp_app_intb {ops : Array Oper} {rest : List Oper} {o : Oper} {a : Act} {Q : Exit → Act → World → Prop} {w : World} (hgd : o.guard = none) (s x : Operand)
    (ho : o.op = Op.call { callee := Callee.builtin Builtin.append, args := #[s, x], argTypes := #[24, 24] }) (B : Nat) (v : Value) (l : List Int) (y : Int) (hs : a.eval s = v) (w2 : World) (hown : Own B w2 v l)
    (hw : w = w2.alloc (.cells #[.int .i64 y] 2)) (hx : a.eval x = .slice (some ⟨w2.heap.size, 0, none⟩) 1 1) (hlen : l.length ≤ 1000000) (hbase : B ≤ w2.heap.size)
    (h : ∀ v' w', Own B w' v' (l ++ [y]) → w2.grownBy w' v.ownBlock → (v'.ownBlock = v.ownBlock ∨ ∀ k, v'.ownBlock = some k → w2.heap.size ≤ k) → wpList Tryz.prog ops Q rest (a.put o.dst v') w') :
    wpList Tryz.prog ops Q (o :: rest) a w :=
  wp_app_vb 24 2 (.int .i64 0) 8 und_ints Tryz.infoInt rfl (by decide) hgd s x ho B w2 v (.int .i64 y) (l.map (Value.int .i64)) hs hown.v hw rfl hx (by rw [List.length_map]; exact hlen) hbase
    (fun v' w' h1 h2 h3 => h v' w' (Own.of (by rw [List.map_append]; exact h1)) h2 h3)

end Go.Proofs.YtoakmefajbbggaaGreat
namespace Go.Proofs.YtoakmefajbbggaaGreat
open Go.RowKit

/-- make([]int64, 0, n) -/
theorem wp_make_cap {ops : Array Oper} {rest : List Oper} {o : Oper} {a : Act} {Q : Exit → Act → World → Prop} {w : World} (hgd : o.guard = none) (l c : Operand)
    (ho : o.op = Op.makeSlice 24 l c) (base n : Nat) (C : Int) (hl : a.eval l = .int .i64 0) (hc : a.eval c = .int .i64 C) (hC : C = n) (hn : n ≤ 2147483648) (hbase : base ≤ w.heap.size)
    (h : ∀ v w', Own base w' v [] → Ext w w' → wpList Tryz.prog ops Q rest (a.put o.dst v) w') :
    wpList Tryz.prog ops Q (o :: rest) a w := by
  obtain ⟨i0, hi, hz0, hz1, hz2⟩ := info_parts Tryz.infoInt
  refine wpList_make_own w hgd l c 24 ho base 2 i0 (.int .i64 0) 1 und_ints hi hz0 hz1 .i64 .i64 C n hl hc hC (by rw [hz2]; omega) (by unfold maxLen; omega) hbase ?_
  intro w' h1 h2
  exact h _ w' h1 h2

/-- an empty row of the call's own -/
theorem own_nil0 {B H : Nat} {w : World} (hB : B ≤ w.heap.size) (hH : w.heap.size = H) : Own B (w.alloc (.cells #[] 2)) (.slice (some ⟨H, 0, none⟩) 0 0) [] := by
  subst hH; exact World.ownsRow_lit w #[] 0 hB (by decide) rfl

/-- what is seen of the first k entries -/
def SeenB (a : List Int) (k : Nat) (l : List Bool) : Prop := l.length = a.length ∧ (∀ j, j < a.length → (gt l j = true ↔ ∃ s, s < k ∧ gt a s = (j : Int))) ∧ (∀ s, s < k → 0 ≤ gt a s ∧ gt a s < a.length) ∧ ∀ s t, s < k → t < k → gt a s = gt a t → s = t
theorem SeenB.zero (a : List Int) : SeenB a 0 (List.replicate a.length false) :=
  ⟨List.length_replicate, fun j hj => by
    have : gt (List.replicate a.length false) j = false := by simp [gt, hj]
    rw [this]
    exact ⟨fun h => (by cases h), fun ⟨s, hs, _⟩ => absurd hs (by omega)⟩, fun s hs => by omega, fun s t hs => by omega⟩
theorem SeenB.step {a : List Int} {k : Nat} {l : List Bool} (h : SeenB a k l) (hr : 0 ≤ gt a k ∧ gt a k < a.length) (hn : gt l (gt a k).toNat = false) : SeenB a (k + 1) (l.set (gt a k).toNat true) := by
  obtain ⟨h1, h2, h3, h4⟩ := h
  have hnew : ∀ s, s < k → gt a s ≠ gt a k := fun s hs e => by
    have := (h2 (gt a k).toNat (by omega)).2 ⟨s, hs, by omega⟩
    rw [hn] at this; cases this
  refine ⟨by rw [List.length_set]; exact h1, fun j hj => ?_, fun s hs => ?_, fun s t hs ht e => ?_⟩
  · by_cases e : (gt a k).toNat = j
    · subst e
      rw [gt_set_eq _ _ _ (by omega)]
      exact ⟨fun _ => ⟨k, by omega, by omega⟩, fun _ => rfl⟩
    · rw [gt_set_ne _ _ _ _ e, h2 j hj]
      constructor
      · rintro ⟨s, hs, e2⟩; exact ⟨s, by omega, e2⟩
      · rintro ⟨s, hs, e2⟩
        rcases Nat.lt_succ_iff_lt_or_eq.1 hs with h5 | h5
        · exact ⟨s, h5, e2⟩
        · subst h5; exact absurd (by omega) e
  · rcases Nat.lt_succ_iff_lt_or_eq.1 hs with h5 | h5
    · exact h3 s h5
    · subst h5; exact hr
  · rcases Nat.lt_succ_iff_lt_or_eq.1 hs with h5 | h5 <;> rcases Nat.lt_succ_iff_lt_or_eq.1 ht with h6 | h6
    · exact h4 s t h5 h6 e
    · subst h6; exact absurd e (hnew s h5)
    · subst h5; exact absurd e.symm (hnew t h6)
    · omega
theorem SeenB.bad2 {a : List Int} {k : Nat} {l : List Bool} (h : SeenB a k l) (hk : k < a.length) (hr : 0 ≤ gt a k ∧ gt a k < a.length) (hn : gt l (gt a k).toNat = true) : ¬ BijL a.length a := fun hb => by
  obtain ⟨s, hs, e⟩ := (h.2.1 (gt a k).toNat (by omega)).1 hn
  have := hb.2.2 s k (by omega) hk (by omega)
  omega
theorem SeenB.done {a : List Int} {l : List Bool} (h : SeenB a a.length l) : BijL a.length a := ⟨rfl, h.2.2.1, h.2.2.2⟩

open Classical in
set_option maxRecDepth 100000 in
set_option maxHeartbeats 4000000 in
theorem isBijection_ok (a : List Int) (hl : a.length ≤ 1000000) (w : World) (v : Value) (S : Nat → Prop) (hv : Ints S w v a) :
    Calls Tryz.prog 93 #[v] w (Ret w fun _ r => r = .bool (decide (BijL a.length a))) := by
  obtain ⟨av, cap, rfl, _, _⟩ := hv.shape
  obtain ⟨N, hN⟩ : ∃ N, N = a.length := ⟨_, rfl⟩
  have hN2 : N ≤ 1000000 := by omega
  have HV := Lib.hid (And.intro hv hN); clear hv hl
  rw [← hN]
  clear hN
  go_enter Tryz.func93, Tryz.ntmps93
  go_wp2_with (at_make; refine wp_make_bools rfl _ _ rfl w.heap.size N w.heap.size rfl (N : Int) rfl rfl (by omega) (by omega) (Nat.le_refl _) ?_; intro w1 hM1 hg1 hlt1)
  have hM1 : BOwn w.heap.size w1 (.slice (some ⟨w.heap.size, 0, none⟩) N N) (List.replicate N false) := hM1
  have hgb1 : w1.grownBy w1 (some w.heap.size) := grown_refl _ _
  go_loopw [11] (fun iv wr => ∃ (k : Nat) (l : List Bool), iv = .int .i64 (k : Int) ∧ k ≤ N ∧ Ext w wr ∧ BOwn w.heap.size wr (.slice (some ⟨w.heap.size, 0, none⟩) N N) l ∧ Hid (SeenB a k l)) (fun iv _ => N - (intOf iv).toNat)
  case atStart => exact ⟨0, _, rfl, by omega, hg1, hM1, Lib.hid (by rw [HV.out.2]; exact SeenB.zero a)⟩
  case round =>
    clear hM1 hgb1
    obtain ⟨k, l, rfl, hk, hg, hO, hS⟩ := hrel
    by_cases hlt : k < N
    · have hlt' : (k : Int) < N := by omega
      have hka : k < a.length := by rw [← HV.out.2]; exact hlt
      obtain ⟨b, off, hab, _, _, hc⟩ := Ints.at (HV.out.1.ext hg) k hka
      subst hab
      obtain ⟨x, hx⟩ : ∃ x, x = gt a k := ⟨_, rfl⟩
      rw [← hx] at hc
      have hww : IntKind.i64.wrap ((N : Int) - 1) = (N : Int) - 1 := IntWalk.i64_in _ (by omega)
      by_cases hr : 0 ≤ x ∧ x < (N : Int)
      · have hin : inB x 0 ((N : Int) - 1) = true := by unfold inB; simp; omega
        have hll := hS.out.1
        have hcel := hO.cell x.toNat (by rw [hll, ← HV.out.2]; omega)
        have hfr := hO.frozen x.toNat
        have hxN := hr.2
        have hx0 := hr.1
        obtain ⟨s, hs⟩ : ∃ s, s = gt l x.toNat := ⟨_, rfl⟩
        rw [← hs] at hcel
        cases s with
        | true =>
          have hbad : ¬ BijL N a := by
            have h1 : 0 ≤ gt a k ∧ gt a k < a.length := by rw [← hx, ← HV.out.2]; exact hr
            have h2 := SeenB.bad2 hS.out hka h1 (by rw [← hx]; exact hs.symm)
            rw [← HV.out.2] at h2; exact h2
          have HB := Lib.hid hbad; clear hbad hll hs hx hr
          go_wp2_with fail
          refine Calls.mono (inside_ok _ _ _ _) ?_
          rintro _ _ ⟨rfl, rfl⟩
          rw [hin]
          clear hin hww
          go_wp2
          go_ret
          exact ⟨_, rfl, hg, by rw [decide_eq_false HB.out]; rfl⟩
        | false =>
          have hnx : SeenB a (k + 1) (l.set x.toNat true) := by
            have h1 : 0 ≤ gt a k ∧ gt a k < a.length := by rw [← hx, ← HV.out.2]; exact hr
            have h2 := SeenB.step hS.out h1 (by rw [← hx]; exact hs.symm)
            rw [← hx] at h2; exact h2
          obtain ⟨hO2, hgs⟩ := hO.store x.toNat true
          have hgn : Ext w (wr.setCell ⟨w.heap.size, x.toNat, none⟩ (.bool true)) := grown_own hg hgs (fun j hj hlt => by cases hj; omega)
          have HB := Lib.hid (And.intro hnx (And.intro hO2 hgn)); clear hnx hO2 hgn hgs hll hs hx hr
          go_wp2_with fail
          refine Calls.mono (inside_ok _ _ _ _) ?_
          rintro _ _ ⟨rfl, rfl⟩
          rw [hin]
          clear hin hww
          go_wp2
          go_roundw
          case rel => exact ⟨k + 1, l.set x.toNat true, by go_num, by omega, HB.out.2.2, HB.out.2.1, Lib.hid HB.out.1⟩
          case measure => simp [intOf]; omega
      · have hin : inB x 0 ((N : Int) - 1) = false := by unfold inB; simp; omega
        have hbad : ¬ BijL N a := fun hb => hr (by have := hb.2.1 k hlt; rw [hx]; exact this)
        have HB := Lib.hid hbad; clear hbad hx hr
        go_wp2_with fail
        refine Calls.mono (inside_ok _ _ _ _) ?_
        rintro _ _ ⟨rfl, rfl⟩
        rw [hin]
        clear hin hww
        go_wp2
        go_ret
        exact ⟨_, rfl, hg, by rw [decide_eq_false HB.out]; rfl⟩
    · have hke : k = N := by omega
      have hfin : BijL N a := by
        have h1 := hS.out
        rw [hke, HV.out.2] at h1
        rw [HV.out.2]; exact h1.done
      have HF := Lib.hid hfin; clear hfin
      go_wp2
      go_ret
      exact ⟨_, rfl, hg, by rw [decide_eq_true HF.out]; rfl⟩

set_option maxRecDepth 100000 in
set_option maxHeartbeats 4000000 in
theorem compose_ok (a b : List Int) (hl : a.length ≤ 1000) (hab : ∀ t, t < a.length → 0 ≤ gt a t ∧ gt a t < b.length) (w : World) (v u : Value) (S T : Nat → Prop) (hv : Ints S w v a) (hu : Ints T w u b) :
    Calls Tryz.prog 99 #[v, u] w (Ret w fun w' r => Own w.heap.size w' r (aft a b)) := by
  obtain ⟨av, cap, rfl, _, _⟩ := hv.shape
  obtain ⟨bv, capb, rfl, _, _⟩ := hu.shape
  obtain ⟨N, hN⟩ : ∃ N, N = a.length := ⟨_, rfl⟩
  have hN2 : N ≤ 1000 := by omega
  rw [← hN]
  have HV := Lib.hid (And.intro hv (And.intro hu (And.intro hN hab))); clear hv hu hl hN hab
  go_enter Tryz.func99, Tryz.ntmps99
  go_wp2_with (at_make; refine wp_make_cap rfl _ _ rfl w.heap.size N (N : Int) rfl rfl (by omega) (by omega) (Nat.le_refl _) ?_; intro v1 w1 hO1 hg1)
  go_loopw [5, 13] (fun ov iv wr => ∃ (k : Nat) (v5 : Value), v5 = ov ∧ iv = .int .i64 (k : Int) ∧ k ≤ N ∧ Ext w wr ∧ Own w.heap.size wr v5 ((aft a b).take k)) (fun _ iv _ => N - (intOf iv).toNat)
  case atStart => exact ⟨0, _, rfl, rfl, by omega, hg1, by rw [List.take_zero]; exact hO1⟩
  case round =>
    clear hO1 hg1
    obtain ⟨k, v5, rfl, rfl, hk, hg, hO⟩ := hrel
    by_cases hlt : k < N
    · have hlt' : (k : Int) < N := by omega
      have hka : k < a.length := by rw [← HV.out.2.2.1]; exact hlt
      obtain ⟨xb, xo, hxa, _, _, hc⟩ := Ints.at (HV.out.1.ext hg) k hka
      subst hxa
      have hr := HV.out.2.2.2 k hka
      obtain ⟨x, hx⟩ : ∃ x, x = (gt a k).toNat := ⟨_, rfl⟩
      have hxi : gt a k = (x : Int) := by omega
      rw [hxi] at hc
      have hxb : x < b.length := by omega
      obtain ⟨yb, yo, hya, _, _, hcy⟩ := Ints.at (HV.out.2.1.ext hg) x hxb
      subst hya
      have hst : (aft a b).take (k + 1) = (aft a b).take k ++ [gt b x] := by rw [take_succ_gt _ k (by rw [aft_len]; exact hka), gt_aft hka, hx]
      have hll : ((aft a b).take k).length ≤ 1000000 := by rw [List.length_take]; omega
      obtain ⟨y, hy⟩ : ∃ y, y = gt b x := ⟨_, rfl⟩
      rw [← hy] at hcy hst
      have hxb' : (x : Int) < b.length := by omega
      have HS := Lib.hid (And.intro hst hll); clear hst hll hx hxi hr hy hxb
      go_wp2_with (first | (at_builtin; refine wp_app_int rfl _ _ rfl w.heap.size v5 ((aft a b).take k) y rfl wr hO rfl rfl HS.out.2 hg.size ?_; intro v6 w6 hO6 hg6) | fail)
      have hgn : Ext w w6 := grown_own hg hg6 (fun j hj hlt => by have := (hO.lt j hj).1; omega)
      go_roundw
      case rel => exact ⟨k + 1, v6, rfl, by go_num, by omega, hgn, by rw [HS.out.1]; exact hO6⟩
      case measure => simp [intOf]; omega
    · have hke : k = N := by omega
      have hfin : Own w.heap.size wr v5 (aft a b) := by
        have e : (aft a b).take k = aft a b := by rw [hke, HV.out.2.2.1, ← aft_len a b, List.take_length]
        rw [e] at hO; exact hO
      have HF := Lib.hid hfin; clear hfin hO
      go_wp2
      go_ret
      exact ⟨_, rfl, hg, HF.out⟩

end Go.Proofs.YtoakmefajbbggaaGreat
namespace Go.Proofs.YtoakmefajbbggaaGreat
open Go.RowKit

/-- the row of a generator: the numbers of x g -/
def rgR (P : Pr) (i : Nat) : List Int := (List.range (ordP P).toNat).map (fun t : Nat => num P (rMul P (elAt P (t : Int)) (unitV P.orders.length i)))
def rgL (P : Pr) : List (List Int) := (List.range P.orders.length).map (rgR P)
theorem rgR_len (P : Pr) (i : Nat) : (rgR P i).length = (ordP P).toNat := by unfold rgR; rw [List.length_map, List.length_range]
theorem rgL_len (P : Pr) : (rgL P).length = P.orders.length := by unfold rgL; rw [List.length_map, List.length_range]
theorem gt_rgL {P : Pr} {i : Nat} (h : i < P.orders.length) : gt (rgL P) i = rgR P i := by
  unfold rgL
  rw [gt_map _ _ _ (by rw [List.length_range]; exact h), gt_range h]
theorem gt_rgR {P : Pr} {i t : Nat} (h : t < (ordP P).toNat) : gt (rgR P i) t = num P (rMul P (elAt P (t : Int)) (unitV P.orders.length i)) := by
  unfold rgR
  rw [gt_map _ _ _ (by rw [List.length_range]; exact h), gt_range h]

set_option maxRecDepth 100000 in
set_option maxHeartbeats 8000000 in
theorem l11Regular_ok (P : Pr) (G : Grp P) (w : World) (pv : Value) (Sp : Nat → Prop) (hpv : PresV Sp w pv P) :
    Calls Tryz.prog 92 #[pv] w (Ret w fun w' v => RowsO w.heap.size w' v (rgL P)) := by
  have hP := G.v
  have hn6 := hP.n6
  have h729 := hP.le729
  have hop := hP.ordP_pos
  obtain ⟨vo, vp, vc, rfl, h3⟩ := hpv
  have hp0 := PresP.box h3 28
  have hg0 : Ext w (w.alloc (.cells #[vo, vp, vc] 28)) := World.grownBy_alloc _ _ _
  have hs0 : w.heap.size + 1 = (w.alloc (.cells #[vo, vp, vc] 28)).heap.size := by simp
  have HS0 := Lib.hid hs0; clear hs0
  obtain ⟨vo6, vp6, vc6, _, _, hc0, hc1, hc2, h36⟩ := hp0.at
  simp only [Nat.zero_add] at hc1 hc2
  obtain ⟨ao, co, hvo, _, _⟩ := h36.o.shape
  subst hvo
  have hbx : ∀ w', Ext (w.alloc (.cells #[vo, vp, vc] 28)) w' → w'.cell? ⟨w.heap.size, 0, none⟩ = some (.slice ao P.orders.length co) ∧ w'.cell? ⟨w.heap.size, 1, none⟩ = some vp6 ∧ w'.cell? ⟨w.heap.size, 2, none⟩ = some vc6 := fun w' h => ⟨h.cell hc0 (by simp), h.cell hc1 (by simp), h.cell hc2 (by simp)⟩
  have hpx : ∀ w', Ext (w.alloc (.cells #[vo, vp, vc] 28)) w' → PresV Any w' (.agg #[.slice ao P.orders.length co, vp6, vc6]) P := fun w' h => ⟨_, _, _, rfl, Pres3.ext h36 h⟩
  obtain ⟨N, hN⟩ : ∃ N, N = (ordP P).toNat := ⟨_, rfl⟩
  have hNo : ordP P = (N : Int) := by omega
  have hN729 : N ≤ 729 := by have : ordP P ≤ 729 := h729; omega
  have hor : ∀ w', Ext (w.alloc (.cells #[vo, vp, vc] 28)) w' → Calls Tryz.prog 91 #[.agg #[.slice ao P.orders.length co, vp6, vc6]] w' (Ret w' fun _ v => v = .int .i64 (N : Int)) := fun w' h => by rw [← hNo]; exact l10Order_ok w' _ P Any hP (hpx w' h)
  have hat : ∀ w', Ext (w.alloc (.cells #[vo, vp, vc] 28)) w' → ∀ t : Nat, t < N → Calls Tryz.prog 170 #[.agg #[.slice ao P.orders.length co, vp6, vc6], .int .i64 (t : Int)] w' (Ret w' fun w'' v => Own w'.heap.size w'' v (elAt P (t : Int))) := fun w' h t ht => l10At_ok P hP w' _ (t : Int) Any (hpx w' h) (by omega) (by omega)
  have hmul : ∀ w', Ext (w.alloc (.cells #[vo, vp, vc] 28)) w' → ∀ (x y : List Int) (xv yv : Value), Vec P.orders x → Vec P.orders y → Ints Any w' xv x → Ints Any w' yv y → Calls Tryz.prog 169 #[.agg #[.slice ao P.orders.length co, vp6, vc6], xv, yv] w' (Ret w' fun w'' v => Own w'.heap.size w'' v (rMul P x y)) := fun w' h x y xv yv hx hy hxv hyv => l08Mul_ok P hP w' _ xv yv x y Any Any Any (hpx w' h) hxv hyv hx hy
  have hnum : ∀ w', Ext (w.alloc (.cells #[vo, vp, vc] 28)) w' → ∀ (x : List Int) (xv : Value), Vec P.orders x → Ints Any w' xv x → Calls Tryz.prog 168 #[.agg #[.slice ao P.orders.length co, vp6, vc6], xv] w' (Ret w' fun _ v => v = .int .i64 (num P x)) := fun w' h x xv hx hxv => l10Number_ok P hP w' _ xv x Any Any (hpx w' h) hxv hx
  have heV : ∀ t : Nat, Vec P.orders (elAt P (t : Int)) := fun t => elAt_vec hP _ (by omega)
  have hrl : ∀ i, (rgR P i).length = N := fun i => by rw [rgR_len, hN]
  have hrt : ∀ i t, t < N → (rgR P i).take (t + 1) = (rgR P i).take t ++ [num P (rMul P (elAt P (t : Int)) (unitV P.orders.length i))] := fun i t ht => by rw [take_succ_gt _ t (by rw [hrl]; exact ht), gt_rgR (by rw [← hN]; exact ht)]
  have hLt : ∀ i, i < P.orders.length → (rgL P).take (i + 1) = (rgL P).take i ++ [rgR P i] := fun i hi => by rw [take_succ_gt _ i (by rw [rgL_len]; exact hi), gt_rgL hi]
  have HB := Lib.hid (And.intro hbx (And.intro hor (And.intro hat (And.intro hmul (And.intro hnum (And.intro heV (And.intro hrl (And.intro hrt hLt)))))))); clear hbx hor hat hmul hnum heV hrl hrt hLt hpx hp0 h36 hN hNo hop h729
  go_enter Tryz.func92, Tryz.ntmps92
  go_wp2
  clear hc0 hc1 hc2
  generalize hw0 : w.alloc (.cells #[vo, vp, vc] 28) = w0 at *
  clear hw0
  go_loopw [3, 4] (fun ov iv wr => ∃ (i : Nat) (v5 : Value), v5 = ov ∧ iv = .int .i64 (i : Int) ∧ i ≤ P.orders.length ∧ Ext w0 wr ∧ RowsO w0.heap.size wr v5 ((rgL P).take i)) (fun _ iv _ => P.orders.length - (intOf iv).toNat)
  case atStart => exact ⟨0, _, rfl, rfl, by omega, World.grownBy_alloc _ _ _, by rw [List.take_zero, HS0.out]; exact ⟨[], fun _ _ => False, rfl, World.ownsRow_lit w0 #[] 0 (Nat.le_refl _) (by decide) rfl, by simp, by simp, by simp⟩⟩
  case round =>
    obtain ⟨i, v5, rfl, rfl, hi, hg, hA⟩ := hrel
    obtain ⟨wo, rfl⟩ : ∃ wo : World, wo = wr := ⟨_, rfl⟩
    obtain ⟨c0_, c1_, c2_⟩ := HB.out.1 wo hg
    by_cases hlt : i < P.orders.length
    · have hlt' : (i : Int) < P.orders.length := by omega
      have HA := Lib.hid hA; clear hA
      go_wp2_with fail
      clear c0_ c1_ c2_
      refine Calls.mono (l07Unit_ok P.orders.length i wo hlt (by omega)) ?_
      rintro e3 w3 ⟨gv, rfl, hg3, hgO⟩
      have hgV := unitV_vec hP i
      have hgi := hgO.ints (by rw [hgV.1]; omega)
      obtain ⟨ga, gc, rfl, _, _⟩ := hgi.shape
      obtain ⟨gl, hgl⟩ : ∃ gl, gl = (unitV P.orders.length i).length := ⟨_, rfl⟩
      rw [← hgl]
      have hgx : ∀ w', Ext w3 w' → Ints Any w' (.slice ga gl gc) (unitV P.orders.length i) := fun w' h => by rw [hgl]; exact Ints.ext hgi h
      have hg03 := grown_trans hg hg3
      have HG := Lib.hid (And.intro hgx hgV); clear hgx hgi hgO hgV hgl
      go_wp2
      go_loopw [6, 7] (fun rv tv wr => ∃ (t : Nat) (v6 : Value), v6 = rv ∧ tv = .int .i64 (t : Int) ∧ t ≤ N ∧ Ext w3 wr ∧ Own w3.heap.size wr v6 ((rgR P i).take t)) (fun _ tv _ => N - (intOf tv).toNat)
      case atStart => exact ⟨0, _, rfl, rfl, by omega, World.grownBy_alloc _ _ _, by rw [List.take_zero]; exact own_nil0 (Nat.le_refl _) rfl⟩
      case round =>
        obtain ⟨t, v6, rfl, rfl, ht, hgt, hR⟩ := hrel
        have hgw := grown_trans hg03 hgt
        obtain ⟨c0_, c1_, c2_⟩ := HB.out.1 wr hgw
        go_wp2_with fail
        clear c0_ c1_ c2_
        refine Calls.mono (HB.out.2.1 wr hgw) ?_
        rintro e5 w5 ⟨v7, rfl, hg5, rfl⟩
        have hg05 := grown_trans hgw hg5
        have hg35 := grown_trans hgt hg5
        have hR5 := hR.ext0 hg5
        by_cases htl : t < N
        · have htl' : (t : Int) < N := by omega
          have hst := HB.out.2.2.2.2.2.2.2.1 i t htl
          have hmV := G.mulV (HB.out.2.2.2.2.2.1 t) HG.out.2
          obtain ⟨c, hc⟩ : ∃ c : Int, c = num P (rMul P (elAt P (t : Int)) (unitV P.orders.length i)) := ⟨_, rfl⟩
          rw [← hc] at hst
          have hll : ((rgR P i).take t).length ≤ 1000000 := by rw [List.length_take]; omega
          have HX := Lib.hid (And.intro hst (And.intro hmV (And.intro hc hll))); clear hst hmV hc hll
          have e1 : ∀ w', Ext w3 w' → w'.cell? ⟨w.heap.size, 0, none⟩ = some (.slice ao P.orders.length co) := fun w' h => (HB.out.1 w' (grown_trans hg03 h)).1
          have e2 : ∀ w', Ext w3 w' → w'.cell? ⟨w.heap.size, 1, none⟩ = some vp6 := fun w' h => (HB.out.1 w' (grown_trans hg03 h)).2.1
          have e3 : ∀ w', Ext w3 w' → w'.cell? ⟨w.heap.size, 2, none⟩ = some vc6 := fun w' h => (HB.out.1 w' (grown_trans hg03 h)).2.2
          go_wp2
          go_region_held3 (fun w' => Ext w3 w') (first | exact grown_trans hg35 (grown_drew _ _) | assumption | exact grown_trans hgD (World.grownBy_alloc _ _ _))
            (first
              | (go_at_call 168; refine Calls.mono (Calls.rel2 (w0 := w3) (by assumption) (HB.out.2.2.2.2.1 _ (grown_trans hg03 (by assumption)) _ _ HX.out.2.1 hMi)) ?_; rintro eD wD ⟨vD, rfl, hgD, hgD2, _, hvD⟩; rw [← HX.out.2.2.1] at hvD; subst hvD)
              | (go_at_call 169; refine Calls.mono (Calls.rel2 (w0 := w3) (by assumption) (HB.out.2.2.2.1 _ (grown_trans hg03 (by assumption)) _ _ _ _ (HB.out.2.2.2.2.2.1 t) HG.out.2 hEi (HG.out.1 _ (by assumption)))) ?_; rintro eC wC ⟨vC, rfl, hgC, hgC2, _, hM⟩; have hMi := hM.ints (by rw [HX.out.2.1.1]; omega); obtain ⟨am, cm, hvM, _, _⟩ := hMi.shape; subst hvM)
              | (go_at_call 170; refine Calls.mono (Calls.rel2 (w0 := w3) (by assumption) (HB.out.2.2.1 _ (grown_trans hg03 (by assumption)) t htl)) ?_; rintro eE wE ⟨vE, rfl, hgE, hgE2, _, hEO⟩; have hEi := hEO.ints (by rw [(HB.out.2.2.2.2.2.1 t).1]; omega); obtain ⟨ae, ce, hvE, _, _⟩ := hEi.shape; subst hvE)
              | (refine step_app_int rfl _ _ rfl w3.heap.size _ ((rgR P i).take t) c rfl wD (hR5.ext0 (grown_trans (grown_drew _ _) (grown_trans hgE2 (grown_trans hgC2 hgD2)))) rfl rfl HX.out.2.2.2 hgD.size ?_; intro v8 w8 hO8 hg8; have hgn8 : Ext w3 w8 := grown_own hgD hg8 (fun j hj hlt => by have := (hR.lt j hj).1; omega)))
          clear e1 e2 e3
          rw [← HX.out.1] at hO8
          go_wp2
          go_roundw
          case rel => exact ⟨t + 1, v8, rfl, by go_num, by omega, hgn8, hO8⟩
          case measure => simp [intOf]; omega
        · have hte : t = N := by omega
          have hRf : Own w3.heap.size w5 v6 (rgR P i) := by
            have e : (rgR P i).take t = rgR P i := by rw [hte, ← HB.out.2.2.2.2.2.2.1 i, List.take_length]
            rw [e] at hR5; exact hR5
          obtain ⟨ra, rc, rfl, _, _⟩ := (hRf.ints (by rw [HB.out.2.2.2.2.2.2.1 i]; omega)).shape
          obtain ⟨rn, hrn⟩ : ∃ rn, rn = (rgR P i).length := ⟨_, rfl⟩
          rw [← hrn] at hRf ⊢
          have hRI : OwnIn (From wo.heap.size) w5 (.slice ra rn rc) (rgR P i) := OwnIn.of hRf (by rw [HB.out.2.2.2.2.2.2.1 i]; omega) (fun k h1 _ => by have := hg3.size; show wo.heap.size ≤ k; omega)
          have hg45 : Ext wo w5 := grown_trans hg3 hg35
          have hll : ((rgL P).take i).length ≤ 1000000 := by rw [List.length_take]; omega
          have hst := HB.out.2.2.2.2.2.2.2.2 i hlt
          have HX := Lib.hid (And.intro hRI (And.intro hll (And.intro hst hg.size))); clear hRI hll hst hRf hR5 hR hrn
          have hnl : ¬ (t : Int) < (N : Int) := by omega
          go_wp2_with (first | (at_builtin; refine wp_app_row rfl _ _ rfl w0.heap.size wo w5 v5 _ ((rgL P).take i) (rgR P i) rfl HA.out hg45 HX.out.1 rfl rfl HX.out.2.1 HX.out.2.2.2 ?_; intro v8 w8 hO8 hg8 _) | fail)
          have hgn8 : Ext w0 w8 := grown_own hg hg8 (fun j hj hlt => by have := (HA.out.lt j hj).1; omega)
          rw [← HX.out.2.2.1] at hO8
          go_roundw
          case rel => exact ⟨i + 1, v8, rfl, by go_num, by omega, hgn8, hO8⟩
          case measure => simp [intOf]; omega
    · have hie : i = P.orders.length := by omega
      have hfin : RowsO w.heap.size wo v5 (rgL P) := by
        have e : (rgL P).take i = rgL P := by rw [hie, ← rgL_len P, List.take_length]
        rw [e] at hA; exact hA.weak hg0.size
      have HF := Lib.hid hfin; clear hfin hA
      have hnl : ¬ (i : Int) < P.orders.length := by omega
      go_wp2
      go_ret
      exact ⟨_, rfl, grown_trans hg0 hg, HF.out⟩

end Go.Proofs.YtoakmefajbbggaaGreat
namespace Go.Proofs.YtoakmefajbbggaaGreat

theorem rgL_mem {P : Pr} {b : List Int} (h : b ∈ rgL P) : ∃ i, i < P.orders.length ∧ b = rgR P i := by
  unfold rgL at h
  obtain ⟨i, hi, rfl⟩ := List.mem_map.1 h
  exact ⟨i, List.mem_range.1 hi, rfl⟩
theorem El.rc {P : Pr} {G : Grp P} {x y z : El G} (h : x * z = y * z) : x = y := by
  have : x * z * z⁻¹ = y * z * z⁻¹ := by rw [h]
  rwa [El.ass, El.ass, El.ir, El.or, El.or] at this

section
variable {P : Pr} (G : Grp P)
include G
/-- the element with a number -/
def eN {t : Nat} (ht : t < (ordP P).toNat) : El G := ⟨elAt P (t : Int), G.elAtV ht⟩
theorem eN_num {t : Nat} (ht : t < (ordP P).toNat) : num P (eN G ht).1 = (t : Int) := num_elAt G.v _ (by omega) (by omega)
theorem num_ltN (x : El G) : (num P x.1).toNat < (ordP P).toNat := by
  have := num_bd G.v x.2
  omega
theorem rgR_val (x : El G) (i : Nat) : gt (rgR P i) (num P x.1).toNat = num P (x * gE G i).1 := by
  have hb := num_bd G.v x.2
  rw [gt_rgR (num_ltN G x), Int.toNat_of_nonneg hb.1, elAt_num G.v x.2]
  rfl
theorem rgR_bij (i : Nat) : BijL (ordP P).toNat (rgR P i) := by
  refine ⟨rgR_len P i, fun t ht => ?_, fun s t hs ht e => ?_⟩
  · have h1 := rgR_val G (eN G ht) i
    rw [eN_num, Int.toNat_natCast] at h1
    have := num_bd G.v (eN G ht * gE G i).2
    rw [h1]; omega
  · have h1 := rgR_val G (eN G hs) i
    have h2 := rgR_val G (eN G ht) i
    rw [eN_num, Int.toNat_natCast] at h1 h2
    rw [h1, h2] at e
    have h3 := num_inj G.v (eN G hs * gE G i).2 (eN G ht * gE G i).2 e
    have h4 : eN G hs = eN G ht := El.rc (Subtype.ext h3)
    have h5 : num P (eN G hs).1 = num P (eN G ht).1 := by rw [h4]
    rw [eN_num, eN_num] at h5
    omega
theorem rgL_bij : ∀ b ∈ rgL P, BijL (ordP P).toNat b := fun b hb => by
  obtain ⟨i, _, rfl⟩ := rgL_mem hb
  exact rgR_bij G i
theorem wv_neg {l : Int} (h : l < 0) : wv G [l] = (gE G (-l - 1).toNat)⁻¹ := by
  unfold wv
  rw [evW_one (el_mon G)]
  unfold letW
  rw [if_pos h]
theorem wv_takeS {w : List Int} {k : Nat} (hk : k < w.length) : wv G (w.take (k + 1)) = wv G (w.take k) * wv G [gt w k] := by rw [take_succ_gt w k hk, wv_app]
/-- the bijection of a word takes the number of an element to that of its product with the word's value -/
theorem rg_ev {w : List Int} (hw : WordN P.orders.length w) : ∀ k, k ≤ w.length → ∀ t (ht : t < (ordP P).toNat), gt (evB (ordP P).toNat (rgL P) w k) t = num P (eN G ht * wv G (w.take k)).1
  | 0, _, t, ht => by
    have e : wv G (w.take 0) = 1 := by rw [List.take_zero]; rfl
    rw [e, El.or, eN_num]
    exact gt_selfL ht
  | k + 1, hk, t, ht => by
    have ih := rg_ev hw k (by omega) t ht
    have hl := hw _ (gtMem (l := w) (i := k) (by omega))
    have hN : WordN (rgL P).length w := by rw [rgL_len]; exact hw
    have hb := evB_bij (rgL_bij G) hN k (by omega)
    rw [evB, gt_aft (by rw [hb.1]; exact ht), ih, wv_takeS G (by omega), ← El.ass]
    generalize eN G ht * wv G (w.take k) = y
    split
    · rename_i hneg
      rw [gt_rgL (by omega), wv_neg G hneg]
      generalize (-(gt w k) - 1).toNat = j
      have h1 := rgR_val G (y * (gE G j)⁻¹) j
      rw [El.ass, El.il, El.or] at h1
      have h2 := gt_bak (rgR_bij G j) (num_ltN G (y * (gE G j)⁻¹))
      rw [h1] at h2
      rw [h2]
      have := num_bd G.v (y * (gE G j)⁻¹).2
      omega
    · rename_i hneg
      rw [gt_rgL (by omega), wv_one G (by omega)]
      exact rgR_val G y _
theorem rg_ev0 {w : List Int} (hw : WordN P.orders.length w) : gt (evB (ordP P).toNat (rgL P) w w.length) 0 = num P (wv G w).1 := by
  have hop := G.v.ordP_pos
  have h := rg_ev G hw w.length (Nat.le_refl _) 0 (by omega)
  rw [List.take_length] at h
  have e : eN G (t := 0) (by omega) = 1 := Subtype.ext G.el_zero
  rw [e, El.ol] at h
  exact h
theorem wv_inv {w : List Int} (hw : WordN P.orders.length w) : wv G (invWord w) = (wv G w)⁻¹ :=
  El.inv_of (evW_inv (el_mon G) (n := P.orders.length) (fun j _ => El.ir (gE G j)) (fun j _ => El.il (gE G j)) w hw)
theorem wv_relPow {i : Nat} (hi : i < P.orders.length) : wv G (relPow P i) = 1 := by
  have hP := G.v
  have k1 := (el_holds G).pw i (Nat.zero_le _) hi
  have e2 : P.orders.length = (i + 1) + (P.orders.length - (i + 1)) := by omega
  have k2 := npr_skip (m := fun a b : El G => a * b) (h := gE G) (e := (1 : El G)) (x := gt P.powers i) (i := i + 1) (f := P.orders.length - (i + 1)) (fun l hl => (hP.pv i hi).2 l (by omega))
  rw [← e2] at k2
  rw [← k2] at k1
  unfold relPow
  rw [wv_app, wv_inv G (WordN.nWord _ _ (Nat.le_refl _)), wv_nWord, wv_rep]
  have k3 : iter (gt P.orders i).toNat (fun y => y * gE G i) 1 = npr (· * ·) (gE G) (gt P.powers i) 0 1 P.orders.length := k1
  rw [k3, El.ir]
theorem wv_relCon {i k : Nat} (hi : i + k + 1 < P.orders.length) : wv G (relCon P i k) = 1 := by
  have hP := G.v
  have k1 := (el_holds G).cj i (i + k + 1) (Nat.zero_le _) (by omega) (by omega)
  have e2 : P.orders.length = (i + 1) + (P.orders.length - (i + 1)) := by omega
  have k2 := npr_skip (m := fun a b : El G => a * b) (h := gE G) (e := (1 : El G)) (x := gt (gt P.conj i) (i + k + 1 - i - 1)) (i := i + 1) (f := P.orders.length - (i + 1)) (fun l hl => (cj_T hP (i := i) (j := i + k + 1) (by omega) (by omega)).2 l (by omega))
  rw [← e2] at k2
  rw [← k2] at k1
  rw [show i + k + 1 - i - 1 = k by omega] at k1
  unfold relCon
  rw [wv_app, wv_inv G (WordN.nWord _ _ (Nat.le_refl _)), wv_nWord]
  have e3 : wv G [-((i : Int) + 1), (i : Int) + k + 2, (i : Int) + 1] = (gE G i)⁻¹ * (gE G (i + k + 1) * gE G i) := by
    rw [show ([-((i : Int) + 1), (i : Int) + k + 2, (i : Int) + 1] : List Int) = [-((i : Int) + 1)] ++ ([(i : Int) + k + 2] ++ [(i : Int) + 1]) from rfl, wv_app, wv_app, wv_neg G (by omega), wv_one G (by omega), wv_one G (by omega), show (- -((i : Int) + 1) - 1).toNat = i by omega, show ((i : Int) + k + 2 - 1).toNat = i + k + 1 by omega, show ((i : Int) + 1 - 1).toNat = i by omega]
  have k3 : gE G (i + k + 1) * gE G i = gE G i * npr (· * ·) (gE G) (gt (gt P.conj i) k) 0 1 P.orders.length := k1
  rw [e3, k3, El.ilc, El.ir]
theorem wv_relPs : ∀ k, k ≤ P.orders.length → ∀ w ∈ relPs P k, wv G w = 1
  | 0, _, w, h => by cases h
  | k + 1, hk, w, h => by
    rcases List.mem_append.1 h with h1 | h1
    · exact wv_relPs k (by omega) w h1
    · rw [List.mem_singleton.1 h1]; exact wv_relPow G (by omega)
theorem wv_relCs {i : Nat} : ∀ k, i + k < P.orders.length → ∀ w ∈ relCs P i k, wv G w = 1
  | 0, _, w, h => by cases h
  | k + 1, hk, w, h => by
    rcases List.mem_append.1 h with h1 | h1
    · exact wv_relCs k (by omega) w h1
    · rw [List.mem_singleton.1 h1]; exact wv_relCon G (by omega)
theorem wv_relTo : ∀ i, i ≤ P.orders.length → ∀ w ∈ relTo P i, wv G w = 1
  | 0, _, w, h => wv_relPs G _ (Nat.le_refl _) w h
  | i + 1, hi, w, h => by
    rcases List.mem_append.1 h with h1 | h1
    · exact wv_relTo i (by omega) w h1
    · exact wv_relCs G (i := i) _ (by rw [(G.v.cv i (by omega)).1]; omega) w h1
/-- the relators hold -/
theorem wv_rels : ∀ w ∈ relsP P, wv G w = 1 := wv_relTo G _ (Nat.le_refl _)

theorem rg_rch {x : List Int} (hx : Vec P.orders x) : Rch (rgL P) (num P x).toNat := by
  refine G.gen_ind (fun x => Rch (rgL P) (num P x).toNat) ?_ (fun y j hy h hj => ?_) hx
  · rw [num_zeros G.v]; exact fun S h0 _ => h0
  · have h1 := rgR_val G ⟨y, hy⟩ j
    have h2 := h.step (b := rgR P j) (by unfold rgL; exact List.mem_map.2 ⟨j, List.mem_range.2 hj, rfl⟩)
    rw [h1] at h2
    exact h2
/-- the list is a regular realisation -/
theorem rg_real : RealB P (rgL P) := by
  refine ⟨rgL_len P, rgL_bij G, fun w hw => ?_, fun t ht => ?_⟩
  · have hwd := relsP_word G.v w hw
    have hN : WordN (rgL P).length w := by rw [rgL_len]; exact hwd
    have hb := evB_bij (rgL_bij G) hN w.length (Nat.le_refl _)
    refine ext_gt (by rw [hb.1, selfL_len]) (fun t ht => ?_)
    rw [hb.1] at ht
    rw [rg_ev G hwd _ (Nat.le_refl _) t ht, List.take_length, wv_rels G w hw, El.or, eN_num, gt_selfL ht]
  · have h := rg_rch G (G.elAtV ht)
    rw [num_elAt G.v _ (by omega) (by omega), Int.toNat_natCast] at h
    exact h

/-- the value of a word under the generators -/
theorem wv_eval {w : List Int} (hw : WordN P.orders.length w) : ∀ k, k ≤ w.length → evalTo P (gensOf P.orders.length) w k = (wv G (w.take k)).1
  | 0, _ => by rw [List.take_zero]; rfl
  | k + 1, hk => by
    have ih := wv_eval hw k (by omega)
    have hl := hw _ (gtMem (l := w) (i := k) (by omega))
    have hgo : ∀ j, j < P.orders.length → gt (gensOf P.orders.length) j = unitV P.orders.length j := fun j hj => by
      unfold gensOf
      rw [gt_map _ _ _ (by rw [List.length_range]; exact hj), gt_range hj]
    rw [evalTo, ih, wv_takeS G (by omega)]
    split
    · rename_i hneg
      rw [hgo _ (by omega), wv_neg G hneg]; rfl
    · rename_i hneg
      rw [hgo _ (by omega), wv_one G (by omega)]; rfl
theorem wv_eval0 {w : List Int} (hw : WordN P.orders.length w) : evalTo P (gensOf P.orders.length) w w.length = (wv G w).1 := by
  have := wv_eval G hw w.length (Nat.le_refl _)
  rwa [List.take_length] at this
theorem rr_word {w : List Int} (hw : WordN P.orders.length w) : gt (evB (ordP P).toNat (rgL P) w w.length) 0 = num P (evalTo P (gensOf P.orders.length) w w.length) := by rw [rg_ev0 G hw, wv_eval0 G hw]
theorem rr_evV {w : List Int} (hw : WordN P.orders.length w) : Vec P.orders (evalTo P (gensOf P.orders.length) w w.length) := by rw [wv_eval0 G hw]; exact (wv G w).2
theorem gens_vec : ∀ x ∈ gensOf P.orders.length, Vec P.orders x := fun x hx => by
  unfold gensOf at hx
  obtain ⟨k, _, rfl⟩ := List.mem_map.1 hx
  exact unitV_vec G.v k
theorem rr_real (h128 : ordP P ≤ 128) : reC P = 0 ∧ reB P (rgL P) = true := by
  classical
  have hv : validB P = true := by unfold validB; rw [decide_eq_true_eq]; exact G.v
  exact re_yes hv (by omega) (rg_real G)
end

/-- an own bijection behind its inverse leaves all as it is -/
theorem aft_bak {N : Nat} {b : List Int} (hb : BijL N b) : aft b (bak b) = selfL N := by
  refine ext_gt (by rw [aft_len, hb.1, selfL_len]) (fun t ht => ?_)
  rw [aft_len, hb.1] at ht
  rw [gt_aft (by rw [hb.1]; exact ht), gt_bak hb ht, gt_selfL ht]

end Go.Proofs.YtoakmefajbbggaaGreat
