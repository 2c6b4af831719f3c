/-
  The number of generating lists as a sum that wraps.
-/
import Derived.Test.YtigbpdaomgagiaaGreatSMobLaw
import Derived.Test.YtigbpdaomgagiaaGreatK10
namespace Go.Proofs.YtigbpdaomgagiaaGreat
open Go.RowKit

noncomputable def ordU (P : Pr) (u : List (List Int)) : Int := prodU P u u.length
noncomputable def tT (P : Pr) (L : List (List (List Int))) (k i : Nat) : Int := gt (mobL (L.map (mskU P))) i * ordU P (gt L i) ^ k
noncomputable def tW (P : Pr) (L : List (List (List Int))) (k n : Nat) : Int := IntKind.i64.wrap (sumN (tT P L k) n)
theorem tW_zero (P : Pr) (L : List (List (List Int))) (k : Nat) : tW P L k 0 = 0 := rfl
theorem pow_small {o : Int} (h : 1 ≤ o ∧ o ≤ 32) : ∀ k : Nat, k ≤ 6 → 1 ≤ o ^ k ∧ o ^ k ≤ 32 ^ k
  | 0, _ => by simp
  | k + 1, hk => by
    obtain ⟨h1, h2⟩ := pow_small h k (by omega)
    rw [Int.pow_succ, Int.pow_succ]
    have h3 : 0 < o ^ k * o := Int.mul_pos (by omega) (by omega)
    exact ⟨by omega, Int.mul_le_mul h2 h.2 (by omega) (by omega)⟩
theorem pow32 : ∀ k : Nat, k ≤ 6 → (32 : Int) ^ k ≤ 1073741824
  | 0, _ => by decide
  | 1, _ => by decide
  | 2, _ => by decide
  | 3, _ => by decide
  | 4, _ => by decide
  | 5, _ => by decide
  | 6, _ => by decide
  | k + 7, h => by omega
theorem pow_bd {o : Int} (h : 1 ≤ o ∧ o ≤ 32) (k : Nat) (hk : k ≤ 6) : 1 ≤ o ^ k ∧ o ^ k ≤ 1073741824 := by
  have h1 := pow_small h k hk
  have h2 := pow32 k hk
  exact ⟨h1.1, by omega⟩
theorem tW_succ (P : Pr) (L : List (List (List Int))) (k n : Nat) (hn : n < L.length) (ho : 1 ≤ ordU P (gt L n) ∧ ordU P (gt L n) ≤ 32) (hk : k ≤ 6) :
    tW P L k (n + 1) = IntKind.i64.wrap (tW P L k n + IntKind.i64.wrap (gt (wmob (L.map (mskU P))) n * ordU P (gt L n) ^ k)) := by
  have hp := pow_bd ho k hk
  have hw : IntKind.i64.wrap (ordU P (gt L n) ^ k) = ordU P (gt L n) ^ k := IntWalk.i64_in _ (by omega)
  have h1 : gt (wmob (L.map (mskU P))) n = IntKind.i64.wrap (gt (mobL (L.map (mskU P))) n) := by
    unfold wmob
    rw [gt_map _ _ _ (by rw [mobL_len, List.length_map]; exact hn)]
  rw [h1]
  have h2 := wrap_mul (gt (mobL (L.map (mskU P))) n) (ordU P (gt L n) ^ k)
  rw [hw] at h2
  rw [h2]
  unfold tW
  rw [wrap_add]
  rfl

section
variable {P : Pr} (G : Grp P)
include G
open Classical in
theorem Grp.lat_ord (h32 : ordP P ≤ 32) {L : List (List (List Int))} (h : LatL P L) {i : Nat} (hi : i < L.length) : SeqOk P (gt L i) ∧ (gt L i).length ≤ 6 ∧ 1 ≤ ordU P (gt L i) ∧ ordU P (gt L i) ≤ 32 := by
  have hb := (h.2 _).1 (gt_mem hi)
  have S := G.subB hb
  have hs := (G.seq_facts S).1
  rw [← hb.2] at hs
  have h1 := G.order_elems S
  rw [← hb.2] at h1
  have h2 := prodU_729 G.v hs _ (Nat.le_refl _)
  have h3 : (elemsIn P (genP P (fun x => x ∈ gt L i))).length ≤ (ordP P).toNat := by
    unfold elemsIn
    have := List.length_filterMap_le (fun t : Nat => if genP P (fun x => x ∈ gt L i) (elAt P (t : Int)) then some (elAt P (t : Int)) else none) (List.range (ordP P).toNat)
    rw [List.length_range] at this
    exact this
  refine ⟨hs, (G.lat_row h _ (gt_mem hi)).1, h2.1, ?_⟩
  unfold ordU
  rw [h1]; omega

/-- the sum counts the generating lists -/
theorem Grp.tW_cnt (h32 : ordP P ≤ 32) {L : List (List (List Int))} (h : LatL P L) (k : Nat) (hk : k ≤ 6) : tW P L k L.length = cntG P k (fun x => x = zeros P.orders.length) := by
  unfold tW
  have h1 := G.tuples_eq h k
  have h2 : sumN (tT P L k) L.length = cntG P k (fun x => x = zeros P.orders.length) := h1
  have hp := G.v.ordP_pos
  have h3 := cntG_nonneg P k (fun x => x = zeros P.orders.length)
  have h4 := cntG_le P h32 (by omega) k (fun x => x = zeros P.orders.length)
  have h5 := pow32 k hk
  rw [h2]
  exact IntWalk.i64_in _ (by omega)
/-- as many elements as there are generators do generate -/
theorem Grp.tW_end (h32 : ordP P ≤ 32) {L : List (List (List Int))} (h : LatL P L) : tW P L P.orders.length L.length ≠ 0 := by
  have hn6 := G.v.n6
  rw [G.tW_cnt h32 h _ (by omega)]
  have := G.cnt_gens
  omega
end

/-- GeneratingTuples -/
noncomputable def tupC (P : Pr) (k : Int) : Int := if latC P = 0 then (if inB k 0 6 = true then 0 else 2) else latC P
open Classical in
noncomputable def tupV (P : Pr) (k : Int) : Int := if latC P = 0 ∧ inB k 0 6 = true ∧ ∃ L, LatL P L then tW P (latL P) k.toNat (latL P).length else 0
theorem tupV_ok {P : Pr} {k : Int} {L : List (List (List Int))} (h : latC P = 0) (hk : inB k 0 6 = true) (hL : LatL P L) : tupV P k = tW P L k.toNat L.length := by
  unfold tupV; rw [if_pos ⟨h, hk, L, hL⟩, latL_eq hL]
theorem tupV_no {P : Pr} {k : Int} (h : latC P ≠ 0) : tupV P k = 0 := by unfold tupV; rw [if_neg (fun hh => h hh.1)]
theorem tupV_no2 {P : Pr} {k : Int} (h : inB k 0 6 = false) : tupV P k = 0 := by unfold tupV; rw [if_neg (fun hh => by rw [h] at hh; exact absurd hh.2.1 (by simp))]

/-- GeneratorRank: the least length of a generating list -/
def RkP (P : Pr) (L : List (List (List Int))) (r : Nat) : Prop := tW P L r L.length ≠ 0 ∧ ∀ j, j < r → tW P L j L.length = 0
theorem RkP.one {P : Pr} {L : List (List (List Int))} {r s : Nat} (h : RkP P L r) (k : RkP P L s) : r = s := by
  rcases Nat.lt_trichotomy r s with c | c | c
  · exact absurd (k.2 r c) h.1
  · exact c
  · exact absurd (h.2 s c) k.1
open Classical in
noncomputable def rkV (P : Pr) : Int := if h : latC P = 0 ∧ ∃ r : Nat, ∃ L, LatL P L ∧ RkP P L r then ((Classical.choose h.2 : Nat) : Int) else 0
theorem rkV_ok {P : Pr} {L : List (List (List Int))} {r : Nat} (h : latC P = 0) (hL : LatL P L) (hr : RkP P L r) : rkV P = r := by
  have hx : latC P = 0 ∧ ∃ r : Nat, ∃ L, LatL P L ∧ RkP P L r := ⟨h, r, L, hL, hr⟩
  unfold rkV
  rw [dif_pos hx]
  obtain ⟨L', hL', hr'⟩ := Classical.choose_spec hx.2
  rw [LatL.one hL' hL] at hr'
  rw [RkP.one hr' hr]
theorem rkV_no {P : Pr} (h : latC P ≠ 0) : rkV P = 0 := by unfold rkV; rw [dif_neg (fun hh => h hh.1)]

end Go.Proofs.YtigbpdaomgagiaaGreat
