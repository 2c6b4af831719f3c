/-
  spec.IsPresentation; orders of groups.
-/
import Derived.Test.YtdfjgpioaomceaaPres
import Derived.Deep.RegionHeld3
namespace Go.Proofs.Ytdfjgpioaomceaa
open Go.RowKit

/-- the capped product -/
def capTo (l : List Int) : Nat → Int
  | 0 => 1
  | k + 1 => if capTo l k ≤ 729 then capTo l k * gt l k else capTo l k

theorem capTo_le {l : List Int} (n : Nat) (h : ∀ i, i < n → 1 ≤ gt l i) : (capTo l n ≤ 729 ↔ prodTo l n ≤ 729) ∧ (capTo l n ≤ 729 → capTo l n = prodTo l n) := by
  induction n with
  | zero => simp [capTo, prodTo]
  | succ n ih =>
    obtain ⟨h1, h2⟩ := ih (fun i hi => h i (by omega))
    simp only [capTo]
    split
    · rename_i hc
      rw [h2 hc]; exact ⟨Iff.rfl, fun _ => rfl⟩
    · rename_i hc
      have h3 := prodTo_mono (l := l) n (n + 1) (by omega) h
      have h4 : ¬ prodTo l n ≤ 729 := fun h => hc (h1.2 h)
      exact ⟨⟨fun h => absurd h hc, fun h => absurd (Int.le_trans h3 h) h4⟩, fun h => absurd h hc⟩

theorem capTo_bd {l : List Int} (n : Nat) (h : ∀ i, i < n → 1 ≤ gt l i ∧ gt l i ≤ 7) : 1 ≤ capTo l n ∧ capTo l n ≤ 5103 := by
  induction n with
  | zero => simp [capTo]
  | succ n ih =>
    have h1 := ih (fun i hi => h i (by omega))
    have h2 := h n (by omega)
    simp only [capTo]
    split
    · have h3 : capTo l n * gt l n ≤ 729 * gt l n := Int.mul_le_mul_of_nonneg_right (by omega) (by omega)
      have h4 := Int.mul_le_mul h1.1 h2.1 (by omega) (by omega)
      omega
    · omega

set_option maxHeartbeats 400000 in
theorem l07Product_ok (w : World) (v : Value) (l : List Int) (S : Nat → Prop) (hv : Ints S w v l) (ho : ∀ i, i < l.length → 1 ≤ gt l i ∧ gt l i ≤ 7) :
    Calls Try.prog 53 #[v] w fun e w' => e = .returned (.int .i64 (capTo l l.length)) ∧ w = w' := by
  obtain ⟨a, cap, rfl, _, _⟩ := hv.shape
  have HO := Lib.hid ho; clear ho
  go_enter Try.func53, Try.ntmps53
  go_wp2
  go_loop [3, 4] (fun pr i => ∃ k : Nat, i = .int .i64 k ∧ pr = .int .i64 (capTo l k) ∧ k ≤ l.length) (fun _ i => l.length - (intOf i).toNat)
  case atStart => exact ⟨0, rfl, rfl, by omega⟩
  case round =>
    obtain ⟨k, rfl, rfl, hk⟩ := hrel
    by_cases hlt : k < l.length
    · obtain ⟨b, off, rfl, _, _, hc⟩ := Ints.at hv k hlt
      have h1 := HO.out k hlt
      have hb := capTo_bd (l := l) k (fun i hi => HO.out i (by omega))
      have hb0 : 1 ≤ capTo l k := hb.1
      have hsucc : capTo l (k + 1) = if capTo l k ≤ 729 then capTo l k * gt l k else capTo l k := rfl
      have HSC := Lib.hid hsucc; clear hsucc hb
      by_cases h729 : capTo l k ≤ 729
      · have hm0 : 0 ≤ capTo l k * gt l k := Int.mul_nonneg (by omega) (by omega)
        have hm1 : capTo l k * gt l k ≤ 5103 := by
          have h1 : capTo l k * gt l k ≤ 729 * gt l k := Int.mul_le_mul_of_nonneg_right h729 (by omega)
          omega
        go_wp2
        go_round
        case rel => exact ⟨k + 1, by go_num, by rw [HSC.out, if_pos h729], by omega⟩
        case measure => simp [intOf]; omega
      · go_wp2
        go_round
        case rel => exact ⟨k + 1, by go_num, by rw [HSC.out, if_neg h729], by omega⟩
        case measure => simp [intOf]; omega
    · have hke : k = l.length := by omega
      subst hke
      go_wp2
      go_ret
      exact ⟨rfl, rfl⟩

/-- the order of a group -/
def ordP (P : Pr) : Int := prodTo P.orders P.orders.length

theorem Valid.ordP_pos {P : Pr} (h : Valid P) : 1 ≤ ordP P := prodTo_pos _ (fun i hi => h.pos i hi)

set_option maxHeartbeats 400000 in
theorem orderOf_ok (w : World) (p : Value) (P : Pr) (S : Nat → Prop) (hP : Valid P) (hp : PresP S w p P) :
    Calls Try.prog 31 #[p] w fun e w' => e = .returned (.int .i64 (ordP P)) ∧ w = w' := by
  obtain ⟨pb, po, rfl⟩ := hp.shape
  obtain ⟨ao, capo, hco, hoi⟩ := hp.ordAt
  have hn6 := hP.n6
  go_enter Try.func31, Try.ntmps31
  go_wp2
  go_loop [3, 11] (fun pr i => ∃ k : Nat, i = .int .i64 k ∧ pr = .int .i64 (prodTo P.orders k) ∧ k ≤ P.orders.length) (fun _ i => P.orders.length - (intOf i).toNat)
  case atStart => exact ⟨0, rfl, rfl, by omega⟩
  case round =>
    obtain ⟨k, rfl, rfl, hk⟩ := hrel
    by_cases hlt : k < P.orders.length
    · obtain ⟨b, off, rfl, _, _, hc⟩ := Ints.at hoi k hlt
      have h1 := hP.prefix (k + 1) hlt
      have h0 := prodTo_pos (l := P.orders) (k + 1) (fun i hi => hP.pos i (by omega))
      have hm0 : 0 ≤ prodTo P.orders k * gt P.orders k := by simp only [prodTo] at h0; omega
      have hm1 : prodTo P.orders k * gt P.orders k ≤ 729 := h1
      clear h0 h1
      go_wp2
      go_round
      case rel => exact ⟨k + 1, by go_num, rfl, by omega⟩
      case measure => simp [intOf]; omega
    · have hke : k = P.orders.length := by omega
      subst hke
      go_wp2
      go_ret
      exact ⟨rfl, rfl⟩

set_option maxHeartbeats 400000 in
theorem l10Order_ok (w : World) (pv : Value) (P : Pr) (S : Nat → Prop) (hP : Valid P) (hp : PresV S w pv P) :
    Calls Try.prog 27 #[pv] w (Ret w fun _ v => v = .int .i64 (ordP P)) := by
  obtain ⟨vo, vp, vc, rfl, h3⟩ := hp
  have hB := PresP.box h3 30
  obtain ⟨ao, capo, hco, hoi⟩ := hB.ordAt
  have hn6 := hP.n6
  go_enter Try.func27, Try.ntmps27
  go_wp2
  go_loop [3, 4] (fun pr i => ∃ k : Nat, i = .int .i64 k ∧ pr = .int .i64 (prodTo P.orders k) ∧ k ≤ P.orders.length) (fun _ i => P.orders.length - (intOf i).toNat)
  case atStart => exact ⟨0, rfl, rfl, by omega⟩
  case round =>
    obtain ⟨k, rfl, rfl, hk⟩ := hrel
    by_cases hlt : k < P.orders.length
    · obtain ⟨b, off, rfl, _, _, hc⟩ := Ints.at hoi k hlt
      have h1 := hP.prefix (k + 1) hlt
      have h0 := prodTo_pos (l := P.orders) (k + 1) (fun i hi => hP.pos i (by omega))
      have hm0 : 0 ≤ prodTo P.orders k * gt P.orders k := by simp only [prodTo] at h0; omega
      have hm1 : prodTo P.orders k * gt P.orders k ≤ 729 := h1
      clear h0 h1
      go_wp2
      go_round
      case rel => exact ⟨k + 1, by go_num, rfl, by omega⟩
      case measure => simp [intOf]; omega
    · have hke : k = P.orders.length := by omega
      subst hke
      go_wp2
      go_ret
      exact ⟨_, rfl, World.grownBy_alloc _ _ _, rfl⟩

end Go.Proofs.Ytdfjgpioaomceaa
