/-
  Plain functions: what the program's collection in place computes on lists (tgen, tvec), and what a valid presentation is. No program is named here.
-/
import Derived.Test.YtdfjgpioaomceaaBase
namespace Go.Proofs.Ytdfjgpioaomceaa

def iter {α : Type} : Nat → (α → α) → α → α
  | 0, _, x => x
  | n + 1, f, x => f (iter n f x)

/-- exponents within orders -/
def Vec (o e : List Int) : Prop := e.length = o.length ∧ ∀ i, i < o.length → 0 ≤ gt e i ∧ gt e i < gt o i

def ZeroTo (i : Nat) (e : List Int) : Prop := ∀ k, k ≤ i → gt e k = 0

/-- the product of the first k entries -/
def prodTo (l : List Int) : Nat → Int
  | 0 => 1
  | k + 1 => prodTo l k * gt l k

structure Valid (P : Pr) : Prop where
  le729 : prodTo P.orders P.orders.length ≤ 729
  n6 : P.orders.length ≤ 6
  pl : P.powers.length = P.orders.length
  cl : P.conj.length = P.orders.length
  ord : ∀ i, i < P.orders.length → gt P.orders i = 2 ∨ gt P.orders i = 3 ∨ gt P.orders i = 5 ∨ gt P.orders i = 7
  pv : ∀ i, i < P.orders.length → Vec P.orders (gt P.powers i) ∧ ZeroTo i (gt P.powers i)
  cv : ∀ i, i < P.orders.length → (gt P.conj i).length = P.orders.length - 1 - i ∧ ∀ k, k < P.orders.length - 1 - i → Vec P.orders (gt (gt P.conj i) k) ∧ ZeroTo i (gt (gt P.conj i) k)

theorem Valid.ord7 {P : Pr} (h : Valid P) (i : Nat) (hi : i < P.orders.length) : 2 ≤ gt P.orders i ∧ gt P.orders i ≤ 7 := by
  rcases h.ord i hi with h | h | h | h <;> omega

/-- product by the powers of generators from the left, as far as index k -/
def tvecTo (g : List Int → Nat → List Int) (f : List Int) (e : List Int) : Nat → List Int
  | 0 => e
  | k + 1 => iter (gt f k).toNat (fun e => g e k) (tvecTo g f e k)

def tvec (g : List Int → Nat → List Int) (e f : List Int) : List Int := tvecTo g f e f.length

/-- the product by conjugates for the entries that stood behind an index -/
def tconjTo (g : List Int → Nat → List Int) (cs : List (List Int)) (rest : List Int) (e : List Int) : Nat → List Int
  | 0 => e
  | k + 1 => iter (gt rest k).toNat (fun e => tvec g e (gt cs k)) (tconjTo g cs rest e k)

def zeroed (e : List Int) (j : Nat) (k : Nat) : List Int := e.take (j + 1) ++ List.replicate k 0 ++ e.drop (j + 1 + k)

def tgen (P : Pr) : Nat → List Int → Nat → List Int
  | 0, e, _ => e
  | f + 1, e, j =>
    let rest := e.drop (j + 1)
    let e1 := (zeroed e j rest.length).set j (gt e j + 1)
    let e2 := if gt e j + 1 = gt P.orders j then tvec (tgen P f) (e1.set j 0) (gt P.powers j) else e1
    tconjTo (tgen P f) (gt P.conj j) rest e2 rest.length

theorem Vec.set {o e : List Int} (h : Vec o e) (j : Nat) (x : Int) (hx : 0 ≤ x ∧ (j < o.length → x < gt o j)) : Vec o (e.set j x) := by
  refine ⟨by simpa using h.1, fun i hi => ?_⟩
  by_cases e1 : j = i
  · subst e1
    rw [gt_set_eq e j x (by rw [h.1]; exact hi)]; exact ⟨hx.1, hx.2 hi⟩
  · rw [gt_set_ne e j i x e1]; exact h.2 i hi

theorem gt_replicate (k i : Nat) : gt (List.replicate k (0 : Int)) i = 0 := by
  simp only [gt, List.getD_eq_getElem?_getD, List.getElem?_replicate]
  split <;> rfl

theorem gt_zeroed (e : List Int) (j k i : Nat) (h : j + 1 + k ≤ e.length) : gt (zeroed e j k) i = if j < i ∧ i ≤ j + k then 0 else gt e i := by
  unfold zeroed
  simp only [gt, List.getD_eq_getElem?_getD, List.getElem?_append, List.length_append, List.length_take, List.length_replicate, List.getElem?_drop, List.getElem?_replicate, List.getElem?_take]
  have e1 : min (j + 1) e.length = j + 1 := by omega
  rw [e1]
  by_cases a : i < j + 1
  · rw [if_pos (by omega), if_pos a, if_pos a, if_neg (by omega)]
  · by_cases b : i < j + 1 + k
    · rw [if_pos b, if_neg a, if_pos (by omega), if_pos (by omega)]; rfl
    · rw [if_neg b, if_neg (by omega)]
      congr 2; omega

theorem length_zeroed (e : List Int) (j k : Nat) (h : j + 1 + k ≤ e.length) : (zeroed e j k).length = e.length := by
  unfold zeroed; simp; omega

theorem zeroed_zero (e : List Int) (j : Nat) : zeroed e j 0 = e := by simp [zeroed]

theorem zeroed_succ (e : List Int) (j k : Nat) (h : j + 1 + k < e.length) : zeroed e j (k + 1) = (zeroed e j k).set (j + 1 + k) 0 := by
  apply ext_gt
  · rw [length_zeroed _ _ _ (by omega), List.length_set, length_zeroed _ _ _ (by omega)]
  · intro i hi
    rw [length_zeroed _ _ _ (by omega)] at hi
    rw [gt_zeroed _ _ _ _ (by omega)]
    by_cases e1 : j + 1 + k = i
    · subst e1; rw [gt_set_eq _ _ _ (by rw [length_zeroed _ _ _ (by omega)]; omega), if_pos (by omega)]
    · rw [gt_set_ne _ _ _ _ e1, gt_zeroed _ _ _ _ (by omega)]
      by_cases c : j < i ∧ i ≤ j + k
      · rw [if_pos c, if_pos (by omega)]
      · rw [if_neg c, if_neg (by omega)]

theorem Vec.zeroed {o e : List Int} (h : Vec o e) (j k : Nat) (hk : j + 1 + k ≤ e.length) : Vec o (zeroed e j k) := by
  refine ⟨by rw [length_zeroed _ _ _ hk]; exact h.1, fun i hi => ?_⟩
  have := h.2 i hi
  rw [gt_zeroed _ _ _ _ hk]
  split <;> omega

theorem iter_inv {α : Type} (Q : α → Prop) (f : α → α) (hf : ∀ x, Q x → Q (f x)) (n : Nat) (x : α) (h : Q x) : Q (iter n f x) := by
  induction n with
  | zero => exact h
  | succ n ih => exact hf _ ih

theorem tvecTo_vec {o : List Int} {g : List Int → Nat → List Int} {f e : List Int} (hg : ∀ e j, Vec o e → j < o.length → gt f j ≠ 0 → Vec o (g e j)) (he : Vec o e) (k : Nat) (hk : k ≤ o.length) : Vec o (tvecTo g f e k) := by
  induction k with
  | zero => exact he
  | succ k ih =>
    unfold tvecTo
    by_cases h0 : gt f k = 0
    · rw [h0]; exact ih (by omega)
    · exact iter_inv (Vec o) _ (fun x hx => hg x k hx (by omega) h0) _ _ (ih (by omega))

theorem tvec_vec {o : List Int} {g : List Int → Nat → List Int} {f e : List Int} (hf : Vec o f) (hg : ∀ e j, Vec o e → j < o.length → gt f j ≠ 0 → Vec o (g e j)) (he : Vec o e) : Vec o (tvec g e f) :=
  tvecTo_vec hg he _ (by rw [hf.1]; omega)

theorem tgen_vec {P : Pr} (hP : Valid P) (f : Nat) : ∀ (e : List Int) (j : Nat), Vec P.orders e → j < P.orders.length → P.orders.length ≤ f + j → Vec P.orders (tgen P f e j) := by
  induction f with
  | zero => intro e j _ hj hf; omega
  | succ f ih =>
    intro e j he hj hf
    have hl := he.1
    have hcl := (hP.cv j hj).1
    have hv : ∀ c, Vec P.orders c → ZeroTo j c → ∀ x, Vec P.orders x → Vec P.orders (tvec (tgen P f) x c) := fun c hc hz x hx =>
      tvec_vec hc (fun e i he hi h0 => ih e i he hi (by
        have : ¬ i ≤ j := fun h => h0 (hz i h)
        omega)) hx
    have hz := he.zeroed j (e.drop (j + 1)).length (by simp; omega)
    have hx := he.2 j hj
    unfold tgen
    simp only
    have h2 : Vec P.orders (if gt e j + 1 = gt P.orders j then tvec (tgen P f) (((Go.Proofs.Ytdfjgpioaomceaa.zeroed e j (e.drop (j + 1)).length).set j (gt e j + 1)).set j 0) (gt P.powers j) else (Go.Proofs.Ytdfjgpioaomceaa.zeroed e j (e.drop (j + 1)).length).set j (gt e j + 1)) := by
      split
      · refine hv _ (hP.pv j hj).1 (hP.pv j hj).2 _ ?_
        rw [List.set_set]
        exact hz.set j 0 ⟨by omega, fun _ => by have := hP.ord7 j hj; omega⟩
      · exact hz.set j _ ⟨by omega, fun _ => by omega⟩
    generalize (if gt e j + 1 = gt P.orders j then tvec (tgen P f) (((Go.Proofs.Ytdfjgpioaomceaa.zeroed e j (e.drop (j + 1)).length).set j (gt e j + 1)).set j 0) (gt P.powers j) else (Go.Proofs.Ytdfjgpioaomceaa.zeroed e j (e.drop (j + 1)).length).set j (gt e j + 1)) = e2 at h2
    have : ∀ k, k ≤ (e.drop (j + 1)).length → Vec P.orders (tconjTo (tgen P f) (gt P.conj j) (e.drop (j + 1)) e2 k) := by
      intro k
      induction k with
      | zero => intro _; exact h2
      | succ k ihk =>
        intro hk
        unfold tconjTo
        have hkk : k < P.orders.length - 1 - j := by simp at hk; omega
        exact iter_inv (Vec P.orders) _ (fun x hx => hv _ ((hP.cv j hj).2 k hkk).1 ((hP.cv j hj).2 k hkk).2 x hx) _ _ (ihk (by omega))
    exact this _ (Nat.le_refl _)

end Go.Proofs.Ytdfjgpioaomceaa
