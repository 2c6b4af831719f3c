/-
  Valid presentations: impl.tailVector, impl.IsPresentation.
  spec.IsPresentation; orders of groups.
  Plain: what tgen does to single entries.
  Plain: a presentation's relations, held by members of a monoid, are kept by the reference's product and by the program's collection (von Dyck's law, without any consistency).
  Plain: the cyclic extension of a group by a root of an inner automorphism. No program is named here.
-/
import Derived.Test.YtoakmefajbbggaaGreatR1
import Derived.Deep.RegionHeld3
namespace Go.Proofs.YtoakmefajbbggaaGreat
open Go.RowKit

/-- v[:h] -/
theorem run_head (w : World) (a : Option Addr) (n cap : Nat) (k : Int) (h0 : 0 ≤ k) (h1 : k ≤ cap) :
    (Instr.slice 24 (.slice a n cap) none (some (.int .i64 k)) none).run Tryz.prog w = .ok (.slice a k.toNat cap) w := by
  rw [run_slice_h w 24 a n cap (by kernel_rfl) .i64 k h0 h1]
  have : (sizeOf (Tryz.prog.elem 24)).run Tryz.prog w = .ok 1 w := by kernel_rfl
  rw [this]
  simp only [Result.andThen, sliced, Nat.sub_zero, Nat.zero_mul]
  have e : (a.map fun x => x.add 0) = a := by cases a <;> simp [Addr.add]
  split
  · rfl
  · rw [e]

theorem head_ints {S : Nat → Prop} {w : World} {a : Option Addr} {n cap : Nat} {xs : List Int} (h : Ints S w (.slice a n cap) xs) (k : Nat) (hk : k ≤ xs.length) : Ints S w (.slice a k cap) (xs.take k) := by
  obtain ⟨a', cap', hv, hl, hc⟩ := h
  cases hv
  have hlen : (xs.take k).length = k := by simp; omega
  refine ⟨a, cap, by rw [hlen], ⟨by omega, by omega, hl.2.2⟩, fun i hi => ?_⟩
  obtain ⟨b, off, u, h1, h2, h3, h4, h5⟩ := hc i (by omega)
  refine ⟨b, off, u, h1, h2, h3, h4, ?_⟩
  have : gt (xs.take k) i = gt xs i := by simp only [gt, List.getD_eq_getElem?_getD, List.getElem?_take]; rw [if_pos (by omega)]
  rw [this]; exact h5

def tailB (o : List Int) (i : Nat) (e : List Int) : Bool := expB o e && isZeroB (e.take (i + 1))

theorem expB_vec {o e : List Int} : expB o e = true ↔ Vec o e := by
  unfold expB Vec
  rw [Bool.and_eq_true, decide_eq_true_eq, allB_true]
  constructor
  · rintro ⟨h1, h2⟩
    exact ⟨h1, fun i hi => by have := inB_true.1 (h2 i (by omega)); omega⟩
  · rintro ⟨h1, h2⟩
    exact ⟨h1, fun i hi => by have := h2 i (by omega); exact inB_true.2 (by omega)⟩

theorem isZeroB_true {l : List Int} : isZeroB l = true ↔ ∀ i, i < l.length → gt l i = 0 := by
  unfold isZeroB; rw [allB_true]; simp

theorem gt_take {l : List Int} {k i : Nat} (h : i < k) : gt (l.take k) i = gt l i := by
  simp only [gt, List.getD_eq_getElem?_getD, List.getElem?_take]; rw [if_pos h]

theorem gt_big {l : List Int} {i : Nat} (h : l.length ≤ i) : gt l i = 0 := by
  simp only [gt, List.getD_eq_getElem?_getD]; rw [List.getElem?_eq_none h]; rfl

theorem tailB_vec {o e : List Int} {i : Nat} : tailB o i e = true ↔ Vec o e ∧ ZeroTo i e := by
  unfold tailB
  rw [Bool.and_eq_true, expB_vec, isZeroB_true]
  constructor
  · rintro ⟨h1, h2⟩
    refine ⟨h1, fun k hk => ?_⟩
    by_cases hl : k < e.length
    · have := h2 k (by simp; omega)
      rwa [gt_take (by omega)] at this
    · exact gt_big (by omega)
  · rintro ⟨h1, h2⟩
    refine ⟨h1, fun k hk => ?_⟩
    simp at hk
    rw [gt_take (by omega)]; exact h2 k (by omega)

theorem expZB_vec {o e : List Int} {i : Nat} : expZB o e i = true ↔ Vec o e ∧ ZeroTo i e := by
  rw [← tailB_vec]
  unfold expZB tailB expB
  rw [Bool.and_eq_true, Bool.and_eq_true, Bool.and_eq_true, allB_true, allB_true, isZeroB_true]
  constructor
  · rintro ⟨h1, h2⟩
    refine ⟨⟨h1, fun k hk => ((Bool.and_eq_true _ _).mp (h2 k hk)).1⟩, fun k hk => ?_⟩
    rw [List.length_take] at hk
    rw [gt_take (by omega)]
    have := ((Bool.and_eq_true _ _).mp (h2 k (by omega))).2
    simp at this
    rcases this with h | h
    · omega
    · exact h
  · rintro ⟨⟨h1, h2⟩, h3⟩
    refine ⟨h1, fun k hk => ?_⟩
    rw [Bool.and_eq_true]
    refine ⟨h2 k hk, ?_⟩
    simp
    rcases Nat.lt_or_ge i k with hki | hki
    · exact .inl hki
    · have := h3 k (by rw [List.length_take]; omega)
      rw [gt_take (by omega)] at this
      exact .inr this

set_option maxHeartbeats 400000 in
theorem tailVector_ok (w : World) (p v : Value) (P : Pr) (e : List Int) (i : Nat) (S S' : Nat → Prop) (hp : PresP S w p P) (hv : Ints S' w v e) (ho : ∀ i, i < P.orders.length → 0 ≤ gt P.orders i ∧ gt P.orders i ≤ 7)
    (hi : i < P.orders.length) (hn : P.orders.length ≤ 6) :
    Calls Tryz.prog 114 #[p, .int .i64 i, v] w fun e1 w' => e1 = .returned (.bool (tailB P.orders i e)) ∧ w = w' := by
  obtain ⟨a, cap, rfl, hcap, _⟩ := hv.shape
  cases hx : expB P.orders e with
  | false =>
    have HX := Lib.hid hx; clear hx
    go_enter Tryz.func114, Tryz.ntmps114
    have hx2 := HX.out
    go_wp2_with (go_at_call 125; refine (isExponents_ok _ _ _ P e S S' hp hv ho).mono ?_; rintro e1 w1 ⟨rfl, rfl⟩)
    go_ret
    exact ⟨ret_b (by rw [tailB, HX.out, Bool.false_and]), rfl⟩
  | true =>
    have hvec := expB_vec.1 hx
    have hle : P.orders.length ≤ e.length := by rw [hvec.1]; omega
    have hs := fun w => run_head w a e.length cap ((i : Int) + 1) (by omega) (by omega)
    have hh := head_ints hv (i + 1) (by omega)
    have HX := Lib.hid hx
    clear hvec
    go_enter Tryz.func114, Tryz.ntmps114
    go_wp2_with (first
      | (go_at_call 125; refine (isExponents_ok _ _ _ P e S S' hp hv ho).mono ?_; rintro e1 w1 ⟨rfl, rfl⟩)
      | (go_at_call 187; refine (isZero_ok _ _ _ S' hh).mono ?_; rintro e1 w1 ⟨rfl, rfl⟩))
    go_ret
    exact ⟨ret_b (by rw [tailB, HX.out, Bool.true_and]), rfl⟩

theorem primeB_true {n : Int} : primeB n = true ↔ n = 2 ∨ n = 3 ∨ n = 5 ∨ n = 7 := by simp [primeB]

theorem prodTo_pos {l : List Int} (k : Nat) (h : ∀ i, i < k → 1 ≤ gt l i) : 1 ≤ prodTo l k := by
  induction k with
  | zero => simp [prodTo]
  | succ k ih =>
    have h1 := ih (fun i hi => h i (by omega))
    have h2 := h k (by omega)
    have := Int.mul_le_mul h1 h2 (by omega) (by omega)
    simp only [prodTo]; omega

theorem prodTo_mono {l : List Int} (k n : Nat) (hkn : k ≤ n) (h : ∀ i, i < n → 1 ≤ gt l i) : prodTo l k ≤ prodTo l n := by
  induction n with
  | zero => have : k = 0 := by omega
            rw [this]; exact Int.le_refl _
  | succ n ih =>
    rcases Nat.lt_or_ge n k with h1 | h1
    · have : k = n + 1 := by omega
      rw [this]; exact Int.le_refl _
    · have h2 := ih h1 (fun i hi => h i (by omega))
      have h3 := h n (by omega)
      have h4 := prodTo_pos (l := l) n (fun i hi => h i (by omega))
      have h5 : prodTo l n * 1 ≤ prodTo l n * gt l n := Int.mul_le_mul_of_nonneg_left h3 (by omega)
      simp only [prodTo]
      omega

open Classical in
noncomputable def validB (P : Pr) : Bool := decide (Valid P)
theorem validB_true {P : Pr} (h : Valid P) : validB P = true := by simp [validB, h]
theorem validB_false {P : Pr} (h : ¬ Valid P) : validB P = false := by simp [validB, h]
theorem valid_of {P : Pr} (h : validB P = true) : Valid P := by simpa [validB] using h
theorem Valid.pos {P : Pr} (h : Valid P) (i : Nat) (hi : i < P.orders.length) : 1 ≤ gt P.orders i := by have := h.ord7 i hi; omega

theorem Valid.pre {P : Pr} (h : Valid P) (k : Nat) (hk : k ≤ P.orders.length) : prodTo P.orders k ≤ 729 :=
  Int.le_trans (prodTo_mono k _ hk (fun i hi => h.pos i hi)) h.le729

set_option maxHeartbeats 2000000 in
theorem isPresentation_ok (w : World) (pv : Value) (P : Pr) (S : Nat → Prop) (hp : PresV S w pv P) :
    Calls Tryz.prog 53 #[pv] w (Ret w fun _ v => v = .bool (validB P)) := by
  obtain ⟨vo, vp, vc, rfl, h3⟩ := hp
  have hBx := PresP.box h3 28
  have hg0 : Ext w (w.alloc (.cells #[vo, vp, vc] 28)) := World.grownBy_alloc _ _ _
  go_enter Tryz.func53, Tryz.ntmps53
  obtain ⟨ao, capo, hco, hoi⟩ := hBx.ordAt
  obtain ⟨ap, capp, hcp, hpi⟩ := hBx.powAt
  obtain ⟨ac, capc, hcc, hci⟩ := hBx.conjAt
  by_cases h6 : P.orders.length ≤ 6
  rotate_left
  · have hd : decide ((6 : Int) < (P.orders.length : Int)) = true := by simp; omega
    go_wp2
    go_ret
    exact ret_bool hg0 (validB_false (fun h => h6 h.n6)).symm
  have hd6 : decide ((6 : Int) < (P.orders.length : Int)) = false := by simp; omega
  by_cases hpl : P.powers.length = P.orders.length
  rotate_left
  · have hd : ((P.powers.length : Int) != (P.orders.length : Int)) = true := by simp; omega
    have HP := Lib.hid hpl; clear hpl
    go_wp2
    go_ret
    exact ret_bool hg0 (validB_false (fun h => HP.out h.pl)).symm
  have hdp : ((P.powers.length : Int) != (P.orders.length : Int)) = false := by simp [hpl]
  by_cases hcl : P.conj.length = P.orders.length
  rotate_left
  · have hd : ((P.conj.length : Int) != (P.orders.length : Int)) = true := by simp; omega
    have HP := Lib.hid hpl; clear hpl
    have HC := Lib.hid hcl; clear hcl
    go_wp2
    go_ret
    exact ret_bool hg0 (validB_false (fun h => HC.out h.cl)).symm
  have hdc : ((P.conj.length : Int) != (P.orders.length : Int)) = false := by simp [hcl]
  have hpl2 : P.powers.length ≤ P.orders.length ∧ P.orders.length ≤ P.powers.length := by omega
  have hcl2 : P.conj.length ≤ P.orders.length ∧ P.orders.length ≤ P.conj.length := by omega
  have HP := Lib.hid hpl; clear hpl
  have HC := Lib.hid hcl; clear hcl
  go_wp2
  clear hd6 hdp hdc
  generalize hw0 : w.alloc (.cells #[vo, vp, vc] 28) = w0 at *
  clear hw0
  go_loop [4, 32] (fun pr i => ∃ k : Nat, i = .int .i64 k ∧ pr = .int .i64 (prodTo P.orders k) ∧ k ≤ P.orders.length ∧ prodTo P.orders k ≤ 729 ∧ ∀ i, i < k → primeB (gt P.orders i) = true) (fun _ i => P.orders.length - (intOf i).toNat)
  case atStart => exact ⟨0, rfl, rfl, by omega, by simp [prodTo], fun i hi => by omega⟩
  case round =>
    obtain ⟨k, rfl, rfl, hk, hle, hz⟩ := hrel
    have hp1 : 1 ≤ prodTo P.orders k := prodTo_pos k (fun i hi => by have := primeB_true.1 (hz i hi); omega)
    have HZ := Lib.hid hz; clear hz
    by_cases hlt : k < P.orders.length
    · obtain ⟨b, off, rfl, _, _, hc⟩ := Ints.at hoi k hlt
      cases hx : primeB (gt P.orders k) with
      | false =>
        have HX := Lib.hid hx
        go_wp2_with (go_at_call 110; refine (isGroupPrime_ok _ _).mono ?_; rintro e1 w1 ⟨rfl, rfl⟩)
        go_ret
        exact ret_bool hg0 (validB_false (fun h => by have := primeB_true.2 (h.ord k hlt); rw [HX.out] at this; cases this)).symm
      | true =>
        have hpr := primeB_true.1 hx
        have hg7 : 2 ≤ gt P.orders k ∧ gt P.orders k ≤ 7 := by omega
        have hg20 : 2 ≤ gt P.orders k := hg7.1
        have hg70 : gt P.orders k ≤ 7 := hg7.2
        have hm0 : 0 ≤ prodTo P.orders k * gt P.orders k := Int.mul_nonneg (by omega) (by omega)
        have hm1 : prodTo P.orders k * gt P.orders k ≤ 5103 := by
          have h1 : prodTo P.orders k * gt P.orders k ≤ 729 * gt P.orders k := Int.mul_le_mul_of_nonneg_right hle (by omega)
          omega
        have hsucc : prodTo P.orders (k + 1) = prodTo P.orders k * gt P.orders k := rfl
        have HSC := Lib.hid hsucc; clear hsucc hpr hg7
        by_cases h729 : prodTo P.orders k * gt P.orders k ≤ 729
        · go_wp2_with (go_at_call 110; refine (isGroupPrime_ok _ _).mono ?_; rintro e1 w1 ⟨rfl, rfl⟩)
          go_round
          case rel => exact ⟨k + 1, by go_num, by rw [HSC.out], by omega, by rw [HSC.out]; exact h729, fun i hi => by
            rcases Nat.lt_or_ge i k with h1 | h1
            · exact HZ.out i h1
            · have : i = k := by omega
              rw [this]; exact hx⟩
          case measure => simp [intOf]; omega
        · go_wp2_with (go_at_call 110; refine (isGroupPrime_ok _ _).mono ?_; rintro e1 w1 ⟨rfl, rfl⟩)
          go_ret
          exact ret_bool hg0 (validB_false (fun h => by have := h.pre (k + 1) hlt; rw [HSC.out] at this; omega)).symm
    · have hke : k = P.orders.length := by omega
      subst hke
      have hord : ∀ i, i < P.orders.length → 0 ≤ gt P.orders i ∧ gt P.orders i ≤ 7 := fun i hi => by have := primeB_true.1 (HZ.out i hi); omega
      have HO := Lib.hid hord; clear hord
      have HLE := Lib.hid hle; clear hle hp1
      go_wp2
      clear hcc hcp hco
      go_loop [50] (fun i => ∃ k : Nat, i = .int .i64 k ∧ k ≤ P.orders.length ∧ ∀ i, i < k → tailB P.orders i (gt P.powers i) = true ∧ (gt P.conj i).length = P.orders.length - 1 - i ∧ ∀ j, j < P.orders.length - 1 - i → tailB P.orders i (gt (gt P.conj i) j) = true) (fun i => P.orders.length - (intOf i).toNat)
      case atStart => exact ⟨0, rfl, by omega, fun i hi => by omega⟩
      case round =>
        obtain ⟨k, rfl, hk, hz⟩ := hrel
        have HZ2 := Lib.hid hz; clear hz
        by_cases hlt : k < P.orders.length
        · obtain ⟨ap, capp, hcp, hpi⟩ := hBx.powAt
          obtain ⟨ac, capc, hcc, hci⟩ := hBx.conjAt
          obtain ⟨b1, o1, a2, cap2, rfl, _, _, hc2, hi2⟩ := Rows2.at hpi k (by omega)
          obtain ⟨b3, o3, a4, cap4, rfl, _, _, hc4, hi4⟩ := Rows3.at hci k (by omega)
          have hbad1 : tailB P.orders k (gt P.powers k) = false → validB P = false := fun hx => validB_false (fun h => by have := tailB_vec.2 (h.pv k hlt); rw [hx] at this; cases this)
          have hbad2 : ¬ (gt P.conj k).length = P.orders.length - 1 - k → validB P = false := fun hx => validB_false (fun h => hx (h.cv k hlt).1)
          have hbad3 : ∀ j, j < P.orders.length - 1 - k → tailB P.orders k (gt (gt P.conj k) j) = false → validB P = false := fun j hj hx => validB_false (fun h => by have := tailB_vec.2 ((h.cv k hlt).2 j hj); rw [hx] at this; cases this)
          have HB1 := Lib.hid hbad1; have HB2 := Lib.hid hbad2; have HB3 := Lib.hid hbad3; clear hbad1 hbad2 hbad3
          cases hx : tailB P.orders k (gt P.powers k) with
          | false =>
            have HX := Lib.hid hx
            go_wp2_with (go_at_call 114; refine (tailVector_ok _ _ _ P _ k Any Any hBx hi2 HO.out hlt h6).mono ?_; rintro e1 w1 ⟨rfl, rfl⟩)
            go_ret
            exact ret_bool hg0 (HB1.out HX.out).symm
          | true =>
            have HX := Lib.hid hx
            by_cases hlen : (gt P.conj k).length = P.orders.length - 1 - k
            · have hd : (((gt P.conj k).length : Int) != (P.orders.length : Int) - 1 - k) = false := by simp; omega
              have hl2 : (gt P.conj k).length ≤ P.orders.length - 1 - k ∧ P.orders.length - 1 - k ≤ (gt P.conj k).length := by omega
              have HLN := Lib.hid hlen; clear hlen
              go_wp2_with (go_at_call 114; refine (tailVector_ok _ _ _ P _ k Any Any hBx hi2 HO.out hlt h6).mono ?_; rintro e1 w1 ⟨rfl, rfl⟩)
              clear hd hx hcp hc2
              go_loop [80] (fun i => ∃ j : Nat, i = .int .i64 j ∧ j ≤ (gt P.conj k).length ∧ ∀ i, i < j → tailB P.orders k (gt (gt P.conj k) i) = true) (fun i => (gt P.conj k).length - (intOf i).toNat)
              case atStart => exact ⟨0, rfl, by omega, fun i hi => by omega⟩
              case round =>
                obtain ⟨j, rfl, hj, hz⟩ := hrel
                have HZ3 := Lib.hid hz; clear hz
                by_cases hlt2 : j < (gt P.conj k).length
                · obtain ⟨b5, o5, a6, cap6, rfl, _, _, hc6, hi6⟩ := Rows2.at hi4 j hlt2
                  cases hy : tailB P.orders k (gt (gt P.conj k) j) with
                  | false =>
                    have HY := Lib.hid hy
                    go_wp2_with (go_at_call 114; refine (tailVector_ok _ _ _ P _ k Any Any hBx hi6 HO.out hlt h6).mono ?_; rintro e1 w1 ⟨rfl, rfl⟩)
                    go_ret
                    exact ret_bool hg0 (HB3.out j (by omega) HY.out).symm
                  | true =>
                    have HY := Lib.hid hy
                    go_wp2_with (go_at_call 114; refine (tailVector_ok _ _ _ P _ k Any Any hBx hi6 HO.out hlt h6).mono ?_; rintro e1 w1 ⟨rfl, rfl⟩)
                    go_round
                    case rel => exact ⟨j + 1, by go_num, by omega, fun i hi => by
                      rcases Nat.lt_or_ge i j with h1 | h1
                      · exact HZ3.out i h1
                      · have : i = j := by omega
                        rw [this]; exact HY.out⟩
                    case measure => simp [intOf]; omega
                · have hje : j = (gt P.conj k).length := by omega
                  go_wp2
                  go_round
                  case rel => exact ⟨k + 1, by go_num, by omega, fun i hi => by
                    rcases Nat.lt_or_ge i k with h1 | h1
                    · exact HZ2.out i h1
                    · have : i = k := by omega
                      rw [this]; exact ⟨HX.out, HLN.out, fun i hi => HZ3.out i (by omega)⟩⟩
                  case measure => simp [intOf]; omega
            · have hd : (((gt P.conj k).length : Int) != (P.orders.length : Int) - 1 - k) = true := by simp; omega
              have HLN := Lib.hid hlen; clear hlen
              go_wp2_with (go_at_call 114; refine (tailVector_ok _ _ _ P _ k Any Any hBx hi2 HO.out hlt h6).mono ?_; rintro e1 w1 ⟨rfl, rfl⟩)
              go_ret
              exact ret_bool hg0 (HB2.out HLN.out).symm
        · have hke : k = P.orders.length := by omega
          subst hke
          go_wp2
          go_ret
          refine ret_bool hg0 (validB_true ?_).symm
          exact ⟨HLE.out, h6, HP.out, HC.out, fun i hi => primeB_true.1 (HZ.out i hi), fun i hi => tailB_vec.1 (HZ2.out i hi).1,
            fun i hi => ⟨(HZ2.out i hi).2.1, fun j hj => tailB_vec.1 ((HZ2.out i hi).2.2 j hj)⟩⟩

end Go.Proofs.YtoakmefajbbggaaGreat
namespace Go.Proofs.YtoakmefajbbggaaGreat
open Go.RowKit

/-- the capped product -/
def capTo (l : List Int) : Nat → Int
  | 0 => 1
  | k + 1 => if capTo l k ≤ 729 then capTo l k * gt l k else capTo l k

theorem capTo_le {l : List Int} (n : Nat) (h : ∀ i, i < n → 1 ≤ gt l i) : (capTo l n ≤ 729 ↔ prodTo l n ≤ 729) ∧ (capTo l n ≤ 729 → capTo l n = prodTo l n) := by
  induction n with
  | zero => simp [capTo, prodTo]
  | succ n ih =>
    obtain ⟨h1, h2⟩ := ih (fun i hi => h i (by omega))
    simp only [capTo]
    split
    · rename_i hc
      rw [h2 hc]; exact ⟨Iff.rfl, fun _ => rfl⟩
    · rename_i hc
      have h3 := prodTo_mono (l := l) n (n + 1) (by omega) h
      have h4 : ¬ prodTo l n ≤ 729 := fun h => hc (h1.2 h)
      exact ⟨⟨fun h => absurd h hc, fun h => absurd (Int.le_trans h3 h) h4⟩, fun h => absurd h hc⟩

theorem capTo_bd {l : List Int} (n : Nat) (h : ∀ i, i < n → 1 ≤ gt l i ∧ gt l i ≤ 7) : 1 ≤ capTo l n ∧ capTo l n ≤ 5103 := by
  induction n with
  | zero => simp [capTo]
  | succ n ih =>
    have h1 := ih (fun i hi => h i (by omega))
    have h2 := h n (by omega)
    simp only [capTo]
    split
    · have h3 : capTo l n * gt l n ≤ 729 * gt l n := Int.mul_le_mul_of_nonneg_right (by omega) (by omega)
      have h4 := Int.mul_le_mul h1.1 h2.1 (by omega) (by omega)
      omega
    · omega

set_option maxHeartbeats 400000 in
theorem l07Product_ok (w : World) (v : Value) (l : List Int) (S : Nat → Prop) (hv : Ints S w v l) (ho : ∀ i, i < l.length → 1 ≤ gt l i ∧ gt l i ≤ 7) :
    Calls Tryz.prog 118 #[v] w fun e w' => e = .returned (.int .i64 (capTo l l.length)) ∧ w = w' := by
  obtain ⟨a, cap, rfl, _, _⟩ := hv.shape
  have HO := Lib.hid ho; clear ho
  go_enter Tryz.func118, Tryz.ntmps118
  go_wp2
  go_loop [3, 4] (fun pr i => ∃ k : Nat, i = .int .i64 k ∧ pr = .int .i64 (capTo l k) ∧ k ≤ l.length) (fun _ i => l.length - (intOf i).toNat)
  case atStart => exact ⟨0, rfl, rfl, by omega⟩
  case round =>
    obtain ⟨k, rfl, rfl, hk⟩ := hrel
    by_cases hlt : k < l.length
    · obtain ⟨b, off, rfl, _, _, hc⟩ := Ints.at hv k hlt
      have h1 := HO.out k hlt
      have hb := capTo_bd (l := l) k (fun i hi => HO.out i (by omega))
      have hb0 : 1 ≤ capTo l k := hb.1
      have hsucc : capTo l (k + 1) = if capTo l k ≤ 729 then capTo l k * gt l k else capTo l k := rfl
      have HSC := Lib.hid hsucc; clear hsucc hb
      by_cases h729 : capTo l k ≤ 729
      · have hm0 : 0 ≤ capTo l k * gt l k := Int.mul_nonneg (by omega) (by omega)
        have hm1 : capTo l k * gt l k ≤ 5103 := by
          have h1 : capTo l k * gt l k ≤ 729 * gt l k := Int.mul_le_mul_of_nonneg_right h729 (by omega)
          omega
        go_wp2
        go_round
        case rel => exact ⟨k + 1, by go_num, by rw [HSC.out, if_pos h729], by omega⟩
        case measure => simp [intOf]; omega
      · go_wp2
        go_round
        case rel => exact ⟨k + 1, by go_num, by rw [HSC.out, if_neg h729], by omega⟩
        case measure => simp [intOf]; omega
    · have hke : k = l.length := by omega
      subst hke
      go_wp2
      go_ret
      exact ⟨rfl, rfl⟩

/-- the order of a group -/
def ordP (P : Pr) : Int := prodTo P.orders P.orders.length

theorem Valid.ordP_pos {P : Pr} (h : Valid P) : 1 ≤ ordP P := prodTo_pos _ (fun i hi => h.pos i hi)

set_option maxHeartbeats 400000 in
theorem orderOf_ok (w : World) (p : Value) (P : Pr) (S : Nat → Prop) (hP : Valid P) (hp : PresP S w p P) :
    Calls Tryz.prog 87 #[p] w fun e w' => e = .returned (.int .i64 (ordP P)) ∧ w = w' := by
  obtain ⟨pb, po, rfl⟩ := hp.shape
  obtain ⟨ao, capo, hco, hoi⟩ := hp.ordAt
  have hn6 := hP.n6
  go_enter Tryz.func87, Tryz.ntmps87
  go_wp2
  go_loop [3, 11] (fun pr i => ∃ k : Nat, i = .int .i64 k ∧ pr = .int .i64 (prodTo P.orders k) ∧ k ≤ P.orders.length) (fun _ i => P.orders.length - (intOf i).toNat)
  case atStart => exact ⟨0, rfl, rfl, by omega⟩
  case round =>
    obtain ⟨k, rfl, rfl, hk⟩ := hrel
    by_cases hlt : k < P.orders.length
    · obtain ⟨b, off, rfl, _, _, hc⟩ := Ints.at hoi k hlt
      have h1 := hP.pre (k + 1) hlt
      have h0 := prodTo_pos (l := P.orders) (k + 1) (fun i hi => hP.pos i (by omega))
      have hm0 : 0 ≤ prodTo P.orders k * gt P.orders k := by simp only [prodTo] at h0; omega
      have hm1 : prodTo P.orders k * gt P.orders k ≤ 729 := h1
      clear h0 h1
      go_wp2
      go_round
      case rel => exact ⟨k + 1, by go_num, rfl, by omega⟩
      case measure => simp [intOf]; omega
    · have hke : k = P.orders.length := by omega
      subst hke
      go_wp2
      go_ret
      exact ⟨rfl, rfl⟩

set_option maxHeartbeats 400000 in
theorem l10Order_ok (w : World) (pv : Value) (P : Pr) (S : Nat → Prop) (hP : Valid P) (hp : PresV S w pv P) :
    Calls Tryz.prog 91 #[pv] w (Ret w fun _ v => v = .int .i64 (ordP P)) := by
  obtain ⟨vo, vp, vc, rfl, h3⟩ := hp
  have hB := PresP.box h3 28
  obtain ⟨ao, capo, hco, hoi⟩ := hB.ordAt
  have hn6 := hP.n6
  go_enter Tryz.func91, Tryz.ntmps91
  go_wp2
  go_loop [3, 4] (fun pr i => ∃ k : Nat, i = .int .i64 k ∧ pr = .int .i64 (prodTo P.orders k) ∧ k ≤ P.orders.length) (fun _ i => P.orders.length - (intOf i).toNat)
  case atStart => exact ⟨0, rfl, rfl, by omega⟩
  case round =>
    obtain ⟨k, rfl, rfl, hk⟩ := hrel
    by_cases hlt : k < P.orders.length
    · obtain ⟨b, off, rfl, _, _, hc⟩ := Ints.at hoi k hlt
      have h1 := hP.pre (k + 1) hlt
      have h0 := prodTo_pos (l := P.orders) (k + 1) (fun i hi => hP.pos i (by omega))
      have hm0 : 0 ≤ prodTo P.orders k * gt P.orders k := by simp only [prodTo] at h0; omega
      have hm1 : prodTo P.orders k * gt P.orders k ≤ 729 := h1
      clear h0 h1
      go_wp2
      go_round
      case rel => exact ⟨k + 1, by go_num, rfl, by omega⟩
      case measure => simp [intOf]; omega
    · have hke : k = P.orders.length := by omega
      subst hke
      go_wp2
      go_ret
      exact ⟨_, rfl, World.grownBy_alloc _ _ _, rfl⟩

end Go.Proofs.YtoakmefajbbggaaGreat
namespace Go.Proofs.YtoakmefajbbggaaGreat

/-- Keep j: entries up to j are as they were -/
theorem tvec_keep {P : Pr} (hP : Valid P) (f j : Nat) (hf : P.orders.length ≤ f + 1 + j)
    (ih : ∀ (e : List Int) (i : Nat), Vec P.orders e → i < P.orders.length → P.orders.length ≤ f + i → ∀ k, k < i → gt (tgen P f e i) k = gt e k)
    (c : List Int) (hc : Vec P.orders c) (hz : ZeroTo j c) (e : List Int) (he : Vec P.orders e) : ∀ k, k ≤ j → gt (tvec (tgen P f) e c) k = gt e k := by
  have hstep : ∀ m, m ≤ P.orders.length → Vec P.orders (tvecTo (tgen P f) c e m) ∧ ∀ k, k ≤ j → gt (tvecTo (tgen P f) c e m) k = gt e k := by
    intro m
    induction m with
    | zero => intro _; exact ⟨he, fun k _ => rfl⟩
    | succ m ihm =>
      intro hm
      obtain ⟨h1, h2⟩ := ihm (by omega)
      unfold tvecTo
      by_cases h0 : gt c m = 0
      · rw [h0]; exact ⟨h1, h2⟩
      · have hmj : ¬ m ≤ j := fun h => h0 (hz m h)
        refine iter_inv (fun y => Vec P.orders y ∧ ∀ k, k ≤ j → gt y k = gt e k) _ (fun y hy => ⟨tgen_vec hP f y m hy.1 (by omega) (by omega), fun k hk => ?_⟩) _ _ ⟨h1, h2⟩
        rw [ih y m hy.1 (by omega) (by omega) k (by omega)]; exact hy.2 k hk
  intro k hk
  exact (hstep c.length (by rw [hc.1]; omega)).2 k hk

theorem tgen_entries {P : Pr} (hP : Valid P) (f : Nat) : ∀ (e : List Int) (j : Nat), Vec P.orders e → j < P.orders.length → P.orders.length ≤ f + j →
    (∀ k, k < j → gt (tgen P f e j) k = gt e k) ∧ gt (tgen P f e j) j = if gt e j + 1 = gt P.orders j then 0 else gt e j + 1 := by
  induction f with
  | zero => intro e j _ hj hf; omega
  | succ f ih =>
    intro e j he hj hf
    have ihk : ∀ (e : List Int) (i : Nat), Vec P.orders e → i < P.orders.length → P.orders.length ≤ f + i → ∀ k, k < i → gt (tgen P f e i) k = gt e k := fun e i a b c k hk => (ih e i a b c).1 k hk
    have hl := he.1
    have hzl : j + 1 + (e.drop (j + 1)).length ≤ e.length := by simp; omega
    have hz := he.zeroed j (e.drop (j + 1)).length hzl
    have hx := he.2 j hj
    have ho := hP.ord7 j hj
    have hlz := length_zeroed e j (e.drop (j + 1)).length hzl
    obtain ⟨e2, he2⟩ : ∃ e2, e2 = (if gt e j + 1 = gt P.orders j then tvec (tgen P f) (((zeroed e j (e.drop (j + 1)).length).set j (gt e j + 1)).set j 0) (gt P.powers j) else (zeroed e j (e.drop (j + 1)).length).set j (gt e j + 1)) := ⟨_, rfl⟩
    have hvk : ∀ c, Vec P.orders c → ZeroTo j c → ∀ x, Vec P.orders x → Vec P.orders (tvec (tgen P f) x c) := fun c hc hz x hx =>
      tvec_vec hc (fun e i he hi h0 => tgen_vec hP f e i he hi (by
        have : ¬ i ≤ j := fun h => h0 (hz i h)
        omega)) hx
    have hkeep : ∀ k, k < j → gt (zeroed e j (e.drop (j + 1)).length) k = gt e k := fun k hk => by rw [gt_zeroed _ _ _ _ hzl, if_neg (by omega)]
    have h2 : Vec P.orders e2 ∧ (∀ k, k < j → gt e2 k = gt e k) ∧ gt e2 j = if gt e j + 1 = gt P.orders j then 0 else gt e j + 1 := by
      rw [he2]
      split
      · rename_i hc
        rw [List.set_set]
        have hv0 : Vec P.orders ((zeroed e j (e.drop (j + 1)).length).set j 0) := hz.set j 0 ⟨by omega, fun _ => by omega⟩
        have hk := tvec_keep hP f j (by omega) ihk _ (hP.pv j hj).1 (hP.pv j hj).2 _ hv0
        refine ⟨hvk _ (hP.pv j hj).1 (hP.pv j hj).2 _ hv0, fun k hkj => ?_, ?_⟩
        · rw [hk k (by omega), gt_set_ne _ _ _ _ (by omega)]; exact hkeep k hkj
        · rw [hk j (Nat.le_refl _), gt_set_eq _ _ _ (by omega)]
      · rename_i hc
        refine ⟨hz.set j _ ⟨by omega, fun _ => by omega⟩, fun k hkj => ?_, ?_⟩
        · rw [gt_set_ne _ _ _ _ (by omega)]; exact hkeep k hkj
        · rw [gt_set_eq _ _ _ (by omega)]
    have hstep : ∀ m, m ≤ (e.drop (j + 1)).length → Vec P.orders (tconjTo (tgen P f) (gt P.conj j) (e.drop (j + 1)) e2 m) ∧ ∀ k, k ≤ j → gt (tconjTo (tgen P f) (gt P.conj j) (e.drop (j + 1)) e2 m) k = gt e2 k := by
      intro m
      induction m with
      | zero => intro _; exact ⟨h2.1, fun k _ => rfl⟩
      | succ m ihm =>
        intro hm
        obtain ⟨h3, h4⟩ := ihm (by omega)
        have hmm : m < P.orders.length - 1 - j := by simp at hm; omega
        have hc := (hP.cv j hj).2 m hmm
        unfold tconjTo
        refine iter_inv (fun y => Vec P.orders y ∧ ∀ k, k ≤ j → gt y k = gt e2 k) _ (fun y hy => ⟨hvk _ hc.1 hc.2 _ hy.1, fun k hk => ?_⟩) _ _ ⟨h3, h4⟩
        rw [tvec_keep hP f j (by omega) ihk _ hc.1 hc.2 _ hy.1 k hk]; exact hy.2 k hk
    have hfin := hstep _ (Nat.le_refl _)
    have hdef : tgen P (f + 1) e j = tconjTo (tgen P f) (gt P.conj j) (e.drop (j + 1)) e2 (e.drop (j + 1)).length := by rw [he2]; rfl
    rw [hdef]
    exact ⟨fun k hk => by rw [hfin.2 k (by omega)]; exact h2.2.1 k hk, by rw [hfin.2 j (Nat.le_refl _)]; exact h2.2.2⟩

/-- the program's product by a generator, and by a vector -/
def tg (P : Pr) (e : List Int) (j : Nat) : List Int := tgen P P.orders.length e j
def tv (P : Pr) (e f : List Int) : List Int := tvec (tg P) e f

theorem tg_vec {P : Pr} (hP : Valid P) (e : List Int) (j : Nat) (he : Vec P.orders e) (hj : j < P.orders.length) : Vec P.orders (tg P e j) := tgen_vec hP _ e j he hj (by omega)
theorem tv_vec {P : Pr} (hP : Valid P) (e f : List Int) (he : Vec P.orders e) (hf : Vec P.orders f) : Vec P.orders (tv P e f) := tvec_vec hf (fun e j he hj _ => tg_vec hP e j he hj) he

end Go.Proofs.YtoakmefajbbggaaGreat
namespace Go.Proofs.YtoakmefajbbggaaGreat

theorem iter_add {α : Type} (f : α → α) (n k : Nat) (x : α) : iter (n + k) f x = iter n f (iter k f x) := by
  induction n with
  | zero => rw [Nat.zero_add]; rfl
  | succ n ih => rw [Nat.succ_add]; show f (iter (n + k) f x) = f (iter n f (iter k f x)); rw [ih]
theorem iter_rel {α β : Type} (R : α → β → Prop) (f : α → α) (g : β → β) (h : ∀ x y, R x y → R (f x) (g y)) (n : Nat) (x : α) (y : β) (hxy : R x y) : R (iter n f x) (iter n g y) := by
  induction n with
  | zero => exact hxy
  | succ n ih => exact h _ _ ih
theorem iter_congr {α : Type} (Q : α → Prop) (f g : α → α) (hQ : ∀ x, Q x → Q (f x)) (h : ∀ x, Q x → f x = g x) (n : Nat) (x : α) (hx : Q x) : iter n f x = iter n g x := by
  induction n with
  | zero => rfl
  | succ n ih =>
    show f (iter n f x) = g (iter n g x)
    rw [← ih]; exact h _ (iter_inv Q f hQ n x hx)

/-- a monoid on the members of S -/
structure MonOn {α : Type} (S : α → Prop) (m : α → α → α) (e : α) : Prop where
  cl : ∀ x y, S x → S y → S (m x y)
  one : S e
  ass : ∀ x y z, S x → S y → S z → m (m x y) z = m x (m y z)
  el : ∀ x, S x → m e x = x
  er : ∀ x, S x → m x e = x

/-- entries of x from index i on, each as often as it says brought to bear on out -/
def acc {α : Type} (g : α → Nat → α) (x : List Int) (i : Nat) (out : α) : Nat → α
  | 0 => out
  | k + 1 => iter (gt x (i + k)).toNat (fun y => g y (i + k)) (acc g x i out k)

theorem acc_front {α : Type} (g : α → Nat → α) (x : List Int) (i : Nat) (out : α) (k : Nat) : acc g x i out (k + 1) = acc g x (i + 1) (iter (gt x i).toNat (fun y => g y i) out) k := by
  induction k with
  | zero => rfl
  | succ k ih =>
    rw [acc, ih]
    show _ = iter (gt x (i + 1 + k)).toNat (fun y => g y (i + 1 + k)) _
    rw [show i + (k + 1) = i + 1 + k by omega]

theorem acc_inv {α : Type} (Q : α → Prop) (g : α → Nat → α) (x : List Int) (i : Nat) (out : α) (k : Nat) (ho : Q out) (h : ∀ y j, Q y → i ≤ j → j < i + k → gt x j ≠ 0 → Q (g y j)) : Q (acc g x i out k) := by
  induction k with
  | zero => exact ho
  | succ k ih =>
    have h1 := ih (fun y j hy a b c => h y j hy a (by omega) c)
    by_cases h0 : gt x (i + k) = 0
    · rw [acc, h0]; exact h1
    · exact iter_inv Q _ (fun y hy => h y (i + k) hy (by omega) (by omega) h0) _ _ h1

theorem acc_rel {α β : Type} (R : α → β → Prop) (g : α → Nat → α) (g' : β → Nat → β) (x : List Int) (i : Nat) (out : α) (out' : β) (k : Nat) (ho : R out out') (h : ∀ y z j, R y z → i ≤ j → j < i + k → gt x j ≠ 0 → R (g y j) (g' z j)) :
    R (acc g x i out k) (acc g' x i out' k) := by
  induction k with
  | zero => exact ho
  | succ k ih =>
    have h1 := ih (fun y z j hy a b c => h y z j hy a (by omega) c)
    by_cases h0 : gt x (i + k) = 0
    · rw [acc, acc, h0]; exact h1
    · exact iter_rel R _ _ (fun y z hy => h y z (i + k) hy (by omega) (by omega) h0) _ _ _ h1

theorem acc_congr {α : Type} (g : α → Nat → α) (x x' : List Int) (i : Nat) (out : α) (k : Nat) (h : ∀ j, i ≤ j → j < i + k → gt x j = gt x' j) : acc g x i out k = acc g x' i out k := by
  induction k with
  | zero => rfl
  | succ k ih => rw [acc, acc, ih (fun j a b => h j a (by omega)), h (i + k) (by omega) (by omega)]

theorem acc_zero {α : Type} (g : α → Nat → α) (x : List Int) (i : Nat) (out : α) (k : Nat) (h : ∀ j, i ≤ j → j < i + k → gt x j = 0) : acc g x i out k = out := by
  induction k with
  | zero => rfl
  | succ k ih => rw [acc, ih (fun j a b => h j a (by omega)), h (i + k) (by omega) (by omega)]; rfl

theorem acc_split {α : Type} (g : α → Nat → α) (x : List Int) (i : Nat) (out : α) (a b : Nat) : acc g x i out (a + b) = acc g x (i + a) (acc g x i out a) b := by
  induction b with
  | zero => rfl
  | succ b ih =>
    show acc g x i out ((a + b) + 1) = _
    rw [acc, acc, ih, show i + (a + b) = i + a + b by omega]

theorem rImgTo_acc (at_ : List Int → List Int → List Int) (cs : List (List Int)) (i : Nat) (x out : List Int) (k : Nat) :
    rImgTo at_ cs i x out k = acc (fun y j => at_ y (gt cs (j - i - 1))) x (i + 1) out k := by
  induction k with
  | zero => rfl
  | succ k ih => rw [rImgTo, acc, ih]; simp only [show i + 1 + k - i - 1 = k by omega]

theorem tvecTo_acc (g : List Int → Nat → List Int) (f e : List Int) (k : Nat) : tvecTo g f e k = acc g f 0 e k := by
  induction k with
  | zero => rfl
  | succ k ih => rw [tvecTo, acc, ih, Nat.zero_add]

theorem tconjTo_acc (g : List Int → Nat → List Int) (cs : List (List Int)) (e : List Int) (j : Nat) (out : List Int) (k : Nat) :
    tconjTo g cs (e.drop (j + 1)) out k = acc (fun y l => tvec g y (gt cs (l - j - 1))) e (j + 1) out k := by
  induction k with
  | zero => rfl
  | succ k ih =>
    rw [tconjTo, acc, ih]
    have : gt (e.drop (j + 1)) k = gt e (j + 1 + k) := by simp [gt]
    simp only [this, show j + 1 + k - j - 1 = k by omega]

section
variable {α : Type} {S : α → Prop} {m : α → α → α} {e : α}

/-- powers -/
theorem MonOn.pow_cl (M : MonOn S m e) {h y : α} (hh : S h) (hy : S y) (k : Nat) : S (iter k (fun y => m y h) y) := iter_inv S _ (fun y hy => M.cl y h hy hh) k y hy
theorem MonOn.pow_out (M : MonOn S m e) {h y : α} (hh : S h) (hy : S y) (k : Nat) : iter k (fun y => m y h) y = m y (iter k (fun y => m y h) e) := by
  induction k with
  | zero => exact (M.er y hy).symm
  | succ k ih =>
    show m (iter k (fun y => m y h) y) h = m y (m (iter k (fun y => m y h) e) h)
    rw [ih, M.ass y _ h hy (M.pow_cl hh M.one k) hh]
theorem MonOn.pow_add (M : MonOn S m e) {h : α} (hh : S h) (a b : Nat) : iter (a + b) (fun y => m y h) e = m (iter a (fun y => m y h) e) (iter b (fun y => m y h) e) := by
  rw [Nat.add_comm, iter_add, M.pow_out hh (M.pow_cl hh M.one a)]

/-- the product of powers of members, from index i on, k of them -/
def npr (m : α → α → α) (h : Nat → α) (x : List Int) (i : Nat) (out : α) (k : Nat) : α := acc (fun y j => m y (h j)) x i out k

theorem npr_cl (M : MonOn S m e) {h : Nat → α} {x : List Int} {i : Nat} {out : α} {k : Nat} (ho : S out) (hh : ∀ j, i ≤ j → j < i + k → S (h j)) : S (npr m h x i out k) :=
  acc_inv S _ x i out k ho (fun y j hy a b _ => M.cl y _ hy (hh j a b))

theorem npr_out (M : MonOn S m e) {h : Nat → α} {x : List Int} {i : Nat} {out : α} {k : Nat} (ho : S out) (hh : ∀ j, i ≤ j → j < i + k → S (h j)) : npr m h x i out k = m out (npr m h x i e k) := by
  induction k with
  | zero => exact (M.er out ho).symm
  | succ k ih =>
    have hh' : ∀ j, i ≤ j → j < i + k → S (h j) := fun j a b => hh j a (by omega)
    have h1 := ih hh'
    unfold npr at h1 ⊢
    rw [acc, acc, h1]
    have c1 : S (npr m h x i e k) := npr_cl M M.one hh'
    have hk := hh (i + k) (by omega) (by omega)
    unfold npr at c1
    rw [M.pow_out hk (M.cl _ _ ho c1), M.pow_out hk c1, M.ass _ _ _ ho c1 (M.pow_cl hk M.one _)]

theorem npr_front (M : MonOn S m e) {h : Nat → α} {x : List Int} {i : Nat} {k : Nat} (hh : ∀ j, i ≤ j → j < i + (k + 1) → S (h j)) :
    npr m h x i e (k + 1) = m (iter (gt x i).toNat (fun y => m y (h i)) e) (npr m h x (i + 1) e k) := by
  have h1 : npr m h x i e (k + 1) = npr m h x (i + 1) (iter (gt x i).toNat (fun y => m y (h i)) e) k := acc_front _ x i e k
  rw [h1]
  exact npr_out M (M.pow_cl (hh i (by omega) (by omega)) M.one _) (fun j a b => hh j (by omega) (by omega))

/-- members h hold the relations of a presentation from index i on -/
structure Holds (P : Pr) (S : α → Prop) (m : α → α → α) (e : α) (h : Nat → α) (i : Nat) : Prop where
  mem : ∀ j, i ≤ j → j < P.orders.length → S (h j)
  pw : ∀ j, i ≤ j → j < P.orders.length → iter (gt P.orders j).toNat (fun y => m y (h j)) e = npr m h (gt P.powers j) (j + 1) e (P.orders.length - (j + 1))
  cj : ∀ j k, i ≤ j → j < k → k < P.orders.length → m (h k) (h j) = m (h j) (npr m h (gt (gt P.conj j) (k - j - 1)) (j + 1) e (P.orders.length - (j + 1)))

theorem Holds.up {P : Pr} {h : Nat → α} {i i' : Nat} (H : Holds P S m e h i) (hi : i ≤ i') : Holds P S m e h i' :=
  ⟨fun j a b => H.mem j (by omega) b, fun j a b => H.pw j (by omega) b, fun j k a b c => H.cj j k (by omega) b c⟩

/-- the image behind a generator -/
theorem vd_image {P : Pr} (hP : Valid P) (M : MonOn S m e) {h : Nat → α} {i f : Nat} (hi : i + (f + 1) = P.orders.length) (H : Holds P S m e h i)
    (ih : ∀ A B, Vec P.orders A → Vec P.orders B → npr m h (rAt P f (i + 1) A B) (i + 1) e f = m (npr m h A (i + 1) e f) (npr m h B (i + 1) e f)) (x : List Int) :
    m (npr m h x (i + 1) e f) (h i) = m (h i) (npr m h (rImage P f i x) (i + 1) e f) := by
  have hm : ∀ j, i ≤ j → j < P.orders.length → S (h j) := H.mem
  have hN : ∀ y, S (npr m h y (i + 1) e f) := fun y => npr_cl M M.one (fun j a b => hm j (by omega) (by omega))
  unfold rImage
  rw [rImgTo_acc]
  have hsi := hm i (by omega) (by omega)
  have hR : (fun (y : α) (z : List Int) => S y ∧ Vec P.orders z ∧ m y (h i) = m (h i) (npr m h z (i + 1) e f)) (npr m h x (i + 1) e f)
      (acc (fun y j => rAt P f (i + 1) y (gt (gt P.conj i) (j - i - 1))) x (i + 1) (zeros P.orders.length) f) := by
    unfold npr
    refine acc_rel (fun (y : α) (z : List Int) => S y ∧ Vec P.orders z ∧ m y (h i) = m (h i) (npr m h z (i + 1) e f)) _ _ x (i + 1) _ _ f ⟨M.one, zeros_vec hP, ?_⟩ ?_
    · have h0 : npr m h (zeros P.orders.length) (i + 1) e f = e := acc_zero _ _ _ _ _ (fun j _ _ => gt_replicate _ _)
      rw [h0, M.el _ hsi, M.er _ hsi]
    · rintro y z j ⟨h1, h2, h3⟩ a b _
      have hc := (hP.cv i (by omega)).2 (j - i - 1) (by omega)
      have hj := hm j (by omega) (by omega)
      refine ⟨M.cl _ _ h1 hj, rAt_vec hP f _ _ _ (by omega) h2 hc.1, ?_⟩
      have h4 := ih z _ h2 hc.1
      have h5 := H.cj i j (by omega) (by omega) (by omega)
      have hf : P.orders.length - (i + 1) = f := by omega
      rw [hf] at h5
      have c1 := hN z
      have c2 := hN (gt (gt P.conj i) (j - i - 1))
      unfold npr at h3 h4 h5 c1 c2 ⊢
      rw [h4, M.ass _ _ _ h1 hj hsi, h5, ← M.ass _ _ _ h1 hsi c2, h3, M.ass _ _ _ hsi c1 c2]
  exact hR.2.2

/-- von Dyck's law for the reference's product -/
theorem vd_at {P : Pr} (hP : Valid P) (M : MonOn S m e) {h : Nat → α} (f : Nat) : ∀ (i : Nat), i + f = P.orders.length → Holds P S m e h i → ∀ A B, Vec P.orders A → Vec P.orders B →
    npr m h (rAt P f i A B) i e f = m (npr m h A i e f) (npr m h B i e f) := by
  induction f with
  | zero => intro i _ _ A B _ _; exact (M.el e M.one).symm
  | succ f ih =>
    intro i hi H A B hA hB
    have IH := ih (i + 1) (by omega) (H.up (by omega))
    have hm : ∀ j, i ≤ j → j < P.orders.length → S (h j) := H.mem
    have hN : ∀ y, S (npr m h y (i + 1) e f) := fun y => npr_cl M M.one (fun j a b => hm j (by omega) (by omega))
    have hsi := hm i (by omega) (by omega)
    have hW : ∀ k, S (iter k (fun y => m y (h i)) e) := fun k => M.pow_cl hsi M.one k
    have him := vd_image hP M hi H IH
    have hset : ∀ (y : List Int) (c : Int), npr m h (y.set i c) (i + 1) e f = npr m h y (i + 1) e f := fun y c =>
      acc_congr _ _ _ _ _ _ (fun j a _ => gt_set_ne _ _ _ _ (by omega))
    have hfr : ∀ y, npr m h y i e (f + 1) = m (iter (gt y i).toNat (fun y => m y (h i)) e) (npr m h y (i + 1) e f) := fun y => npr_front M (fun j a b => hm j a (by omega))
    have ho := hP.ord7 i (by omega)
    have hAi := hA.2 i (by omega)
    have hBi := hB.2 i (by omega)
    -- the left factor drawn through
    have hleft : ∀ b : Nat, Vec P.orders (iter b (fun l => rImgTo (rAt P f (i + 1)) (gt P.conj i) i l (zeros P.orders.length) f) (A.set i 0)) ∧
        m (npr m h A (i + 1) e f) (iter b (fun y => m y (h i)) e) = m (iter b (fun y => m y (h i)) e) (npr m h (iter b (fun l => rImgTo (rAt P f (i + 1)) (gt P.conj i) i l (zeros P.orders.length) f) (A.set i 0)) (i + 1) e f) := by
      intro b
      induction b with
      | zero =>
        refine ⟨hA.set i 0 ⟨by omega, fun _ => by omega⟩, ?_⟩
        show m _ e = m e (npr m h (A.set i 0) (i + 1) e f)
        rw [hset, M.er _ (hN A), M.el _ (hN A)]
      | succ b ihb =>
        obtain ⟨v1, e1⟩ := ihb
        have v2 : Vec P.orders (rImgTo (rAt P f (i + 1)) (gt P.conj i) i (iter b (fun l => rImgTo (rAt P f (i + 1)) (gt P.conj i) i l (zeros P.orders.length) f) (A.set i 0)) (zeros P.orders.length) f) :=
          rImgTo_vec hP f i hi (rAt_vec hP f) _ _ (zeros_vec hP) f (Nat.le_refl _)
        refine ⟨v2, ?_⟩
        have e2 := him (iter b (fun l => rImgTo (rAt P f (i + 1)) (gt P.conj i) i l (zeros P.orders.length) f) (A.set i 0))
        show m _ (m (iter b (fun y => m y (h i)) e) (h i)) = m (m (iter b (fun y => m y (h i)) e) (h i)) (npr m h (rImage P f i _) (i + 1) e f)
        rw [← M.ass _ _ _ (hN A) (hW b) hsi, e1, M.ass _ _ _ (hW b) (hN _) hsi, e2, ← M.ass _ _ _ (hW b) hsi (hN _)]
    obtain ⟨vl, el⟩ := hleft (gt B i).toNat
    have vB : Vec P.orders (B.set i 0) := hB.set i 0 ⟨by omega, fun _ => by omega⟩
    have er := IH _ _ vl vB
    rw [hset B 0] at er
    have vr := rAt_vec hP f (i + 1) _ _ (by omega) vl vB
    rw [hfr A, hfr B]
    -- both sides to one form
    have key : m (m (iter (gt A i).toNat (fun y => m y (h i)) e) (npr m h A (i + 1) e f)) (m (iter (gt B i).toNat (fun y => m y (h i)) e) (npr m h B (i + 1) e f)) =
        m (iter ((gt A i).toNat + (gt B i).toNat) (fun y => m y (h i)) e) (npr m h (rAt P f (i + 1) (iter (gt B i).toNat (fun l => rImgTo (rAt P f (i + 1)) (gt P.conj i) i l (zeros P.orders.length) f) (A.set i 0)) (B.set i 0)) (i + 1) e f) := by
      rw [er, M.pow_add hsi, M.ass _ _ _ (hW _) (hN _) (M.cl _ _ (hW _) (hN _)), ← M.ass _ _ _ (hN A) (hW _) (hN _), el, M.ass _ _ _ (hW _) (hN _) (hN _), ← M.ass _ _ _ (hW _) (hW _) (M.cl _ _ (hN _) (hN _))]
    rw [key, hfr]
    simp only [rAt]
    by_cases hc : gt P.orders i ≤ gt A i + gt B i
    · rw [if_pos hc]
      have vp := (hP.pv i (by omega)).1
      have v3 := rAt_vec hP f (i + 1) _ _ (by omega) vp vr
      rw [hset, gt_set_eq _ _ _ (by rw [v3.1]; omega), IH _ _ vp vr]
      have hsum : (gt A i).toNat + (gt B i).toNat = (gt A i + gt B i - gt P.orders i).toNat + (gt P.orders i).toNat := by omega
      rw [hsum, M.pow_add hsi, H.pw i (by omega) (by omega), show P.orders.length - (i + 1) = f by omega, M.ass _ _ _ (hW _) (hN _) (hN _)]
    · rw [if_neg hc, hset, gt_set_eq _ _ _ (by rw [vr.1]; omega)]
      have hsum : (gt A i).toNat + (gt B i).toNat = (gt A i + gt B i).toNat := by omega
      rw [hsum]

/-- a product in three pieces: ahead of index j, at j, behind j -/
theorem npr_three (M : MonOn S m e) {h : Nat → α} {y : List Int} {i j n : Nat} (hij : i ≤ j) (hj : j < n) (hh : ∀ l, i ≤ l → l < n → S (h l)) :
    npr m h y i e (n - i) = m (m (npr m h y i e (j - i)) (iter (gt y j).toNat (fun y => m y (h j)) e)) (npr m h y (j + 1) e (n - (j + 1))) := by
  have h1 : npr m h y i e (n - i) = npr m h y (j + 1) (iter (gt y j).toNat (fun y => m y (h j)) (npr m h y i e (j - i))) (n - (j + 1)) := by
    unfold npr
    rw [show n - i = (j - i) + ((n - (j + 1)) + 1) by omega, acc_split, acc_front, show i + (j - i) = j by omega]
  have c1 : S (npr m h y i e (j - i)) := npr_cl M M.one (fun l a b => hh l a (by omega))
  rw [h1, npr_out M (M.pow_cl (hh j hij hj) c1 _) (fun l a b => hh l (by omega) (by omega)), M.pow_out (hh j hij hj) c1]

/-- von Dyck's law for the program's collection -/
theorem vd_gen {P : Pr} (hP : Valid P) (M : MonOn S m e) {h : Nat → α} {i : Nat} (H : Holds P S m e h i) (f : Nat) : ∀ (E : List Int) (j : Nat), Vec P.orders E → i ≤ j → j < P.orders.length → P.orders.length ≤ f + j →
    npr m h (tgen P f E j) i e (P.orders.length - i) = m (npr m h E i e (P.orders.length - i)) (h j) := by
  have hm : ∀ j, i ≤ j → j < P.orders.length → S (h j) := H.mem
  have hN : ∀ y, S (npr m h y i e (P.orders.length - i)) := fun y => npr_cl M M.one (fun j a b => hm j a (by omega))
  induction f with
  | zero => intro E j _ _ hj hf; omega
  | succ f ih =>
    intro E j hE hij hj hf
    have hsj := hm j hij hj
    have hT : ∀ y, S (npr m h y (j + 1) e (P.orders.length - (j + 1))) := fun y => npr_cl M M.one (fun l a b => hm l (by omega) (by omega))
    have hpre : ∀ y, S (npr m h y i e (j - i)) := fun y => npr_cl M M.one (fun l a b => hm l a (by omega))
    have hW : ∀ k, S (iter k (fun y => m y (h j)) e) := fun k => M.pow_cl hsj M.one k
    have hvk : ∀ c, Vec P.orders c → ZeroTo j c → ∀ x, Vec P.orders x → Vec P.orders (tvec (tgen P f) x c) := fun c hc hz x hx =>
      tvec_vec hc (fun e i he hi h0 => tgen_vec hP f e i he hi (by
        have : ¬ i ≤ j := fun h => h0 (hz i h)
        omega)) hx
    have hvm : ∀ c, Vec P.orders c → ZeroTo j c → ∀ x, Vec P.orders x →
        npr m h (tvec (tgen P f) x c) i e (P.orders.length - i) = m (npr m h x i e (P.orders.length - i)) (npr m h c (j + 1) e (P.orders.length - (j + 1))) := by
      intro c hc hz x hx
      unfold tvec
      rw [tvecTo_acc, hc.1, show P.orders.length = (j + 1) + (P.orders.length - (j + 1)) by omega, acc_split, acc_zero (tgen P f) c 0 x (j + 1) (fun l _ b => hz l (by omega)), show 0 + (j + 1) = j + 1 by omega,
        show (j + 1) + (P.orders.length - (j + 1)) = P.orders.length by omega]
      have hR := acc_rel (fun (y : α) (z : List Int) => S y ∧ Vec P.orders z ∧ npr m h z i e (P.orders.length - i) = y) (fun y l => m y (h l)) (tgen P f) c (j + 1) (npr m h x i e (P.orders.length - i)) x (P.orders.length - (j + 1))
        ⟨hN x, hx, rfl⟩ (by
          rintro y z l ⟨h1, h2, h3⟩ a b _
          refine ⟨M.cl _ _ h1 (hm l (by omega) (by omega)), tgen_vec hP f z l h2 (by omega) (by omega), ?_⟩
          rw [ih z l h2 (by omega) (by omega) (by omega), h3])
      rw [hR.2.2]
      exact npr_out M (hN x) (fun l a b => hm l (by omega) (by omega))
    have hl := hE.1
    have hzl : j + 1 + (E.drop (j + 1)).length ≤ E.length := by simp; omega
    have hz := hE.zeroed j (E.drop (j + 1)).length hzl
    have hx := hE.2 j hj
    have ho := hP.ord7 j hj
    have hlz := length_zeroed E j (E.drop (j + 1)).length hzl
    have hN3 : ∀ c : Int, npr m h ((zeroed E j (E.drop (j + 1)).length).set j c) i e (P.orders.length - i) = m (npr m h E i e (j - i)) (iter c.toNat (fun y => m y (h j)) e) := by
      intro c
      rw [npr_three M hij hj hm, gt_set_eq _ _ _ (by omega)]
      have e1 : npr m h ((zeroed E j (E.drop (j + 1)).length).set j c) i e (j - i) = npr m h E i e (j - i) :=
        acc_congr _ _ _ _ _ _ (fun l a b => by rw [gt_set_ne _ _ _ _ (by omega), gt_zeroed _ _ _ _ hzl, if_neg (by omega)])
      have e2 : npr m h ((zeroed E j (E.drop (j + 1)).length).set j c) (j + 1) e (P.orders.length - (j + 1)) = e :=
        acc_zero _ _ _ _ _ (fun l a b => by
          rw [gt_set_ne _ _ _ _ (by omega), gt_zeroed _ _ _ _ hzl, if_pos ⟨by omega, by simp; omega⟩])
      rw [e1, e2, M.er _ (M.cl _ _ (hpre E) (hW _))]
    obtain ⟨e2, he2⟩ : ∃ e2, e2 = (if gt E j + 1 = gt P.orders j then tvec (tgen P f) (((zeroed E j (E.drop (j + 1)).length).set j (gt E j + 1)).set j 0) (gt P.powers j) else (zeroed E j (E.drop (j + 1)).length).set j (gt E j + 1)) := ⟨_, rfl⟩
    have h2 : Vec P.orders e2 ∧ npr m h e2 i e (P.orders.length - i) = m (m (npr m h E i e (j - i)) (iter (gt E j).toNat (fun y => m y (h j)) e)) (h j) := by
      have hs : m (npr m h E i e (j - i)) (iter (gt E j + 1).toNat (fun y => m y (h j)) e) = m (m (npr m h E i e (j - i)) (iter (gt E j).toNat (fun y => m y (h j)) e)) (h j) := by
        rw [show (gt E j + 1).toNat = (gt E j).toNat + 1 by omega]
        exact (M.ass _ _ _ (hpre E) (hW _) hsj).symm
      rw [he2]
      split
      · rename_i hc
        rw [List.set_set]
        have hv0 : Vec P.orders ((zeroed E j (E.drop (j + 1)).length).set j 0) := hz.set j 0 ⟨by omega, fun _ => by omega⟩
        refine ⟨hvk _ (hP.pv j hj).1 (hP.pv j hj).2 _ hv0, ?_⟩
        rw [hvm _ (hP.pv j hj).1 (hP.pv j hj).2 _ hv0, hN3, ← H.pw j hij hj, ← hs, hc]
        show m (m _ e) _ = _
        rw [M.er _ (hpre E)]
      · rename_i hc
        exact ⟨hz.set j _ ⟨by omega, fun _ => by omega⟩, by rw [hN3, hs]⟩
    have hdef : tgen P (f + 1) E j = tconjTo (tgen P f) (gt P.conj j) (E.drop (j + 1)) e2 (E.drop (j + 1)).length := by rw [he2]; rfl
    have hdl : (E.drop (j + 1)).length = P.orders.length - (j + 1) := by simp; omega
    rw [hdef, tconjTo_acc, hdl]
    have cQ : S (m (npr m h E i e (j - i)) (iter (gt E j).toNat (fun y => m y (h j)) e)) := M.cl _ _ (hpre E) (hW _)
    have hR := acc_rel (fun (y : α) (z : List Int) => S y ∧ Vec P.orders z ∧ npr m h z i e (P.orders.length - i) = m (m (m (npr m h E i e (j - i)) (iter (gt E j).toNat (fun y => m y (h j)) e)) y) (h j))
      (fun y l => m y (h l)) (fun y l => tvec (tgen P f) y (gt (gt P.conj j) (l - j - 1))) E (j + 1) e e2 (P.orders.length - (j + 1))
      ⟨M.one, h2.1, by rw [h2.2, M.er _ cQ]⟩ (by
        rintro y z l ⟨h3, h4, h5⟩ a b _
        have hc := (hP.cv j hj).2 (l - j - 1) (by omega)
        have hsl := hm l (by omega) (by omega)
        refine ⟨M.cl _ _ h3 hsl, hvk _ hc.1 hc.2 _ h4, ?_⟩
        rw [hvm _ hc.1 hc.2 _ h4, h5, M.ass _ _ _ (M.cl _ _ cQ h3) hsj (hT _), ← H.cj j l hij (by omega) (by omega), ← M.ass _ _ _ (M.cl _ _ cQ h3) hsl hsj, M.ass _ _ _ cQ h3 hsl])
    rw [hR.2.2, npr_three M hij hj hm (y := E)]
    rfl

theorem vd_tg {P : Pr} (hP : Valid P) (M : MonOn S m e) {h : Nat → α} {i : Nat} (H : Holds P S m e h i) (E : List Int) (j : Nat) (hE : Vec P.orders E) (hij : i ≤ j) (hj : j < P.orders.length) :
    npr m h (tg P E j) i e (P.orders.length - i) = m (npr m h E i e (P.orders.length - i)) (h j) := vd_gen hP M H _ E j hE hij hj (by omega)

theorem vd_tv {P : Pr} (hP : Valid P) (M : MonOn S m e) {h : Nat → α} {i : Nat} (hi : i ≤ P.orders.length) (H : Holds P S m e h i) (E F : List Int) (hE : Vec P.orders E) (hF : Vec P.orders F) (hz : ∀ k, k < i → gt F k = 0) :
    npr m h (tv P E F) i e (P.orders.length - i) = m (npr m h E i e (P.orders.length - i)) (npr m h F i e (P.orders.length - i)) := by
  have hm : ∀ j, i ≤ j → j < P.orders.length → S (h j) := H.mem
  have hN : ∀ y, S (npr m h y i e (P.orders.length - i)) := fun y => npr_cl M M.one (fun j a b => hm j a (by omega))
  unfold tv tvec
  rw [tvecTo_acc, hF.1, show P.orders.length = i + (P.orders.length - i) by omega, acc_split, acc_zero (tg P) F 0 E i (fun l _ b => hz l (by omega)), show 0 + i = i by omega,
    show i + (P.orders.length - i) = P.orders.length by omega]
  have hR := acc_rel (fun (y : α) (z : List Int) => S y ∧ Vec P.orders z ∧ npr m h z i e (P.orders.length - i) = y) (fun y l => m y (h l)) (tg P) F i (npr m h E i e (P.orders.length - i)) E (P.orders.length - i)
    ⟨hN E, hE, rfl⟩ (by
      rintro y z l ⟨h1, h2, h3⟩ a b _
      refine ⟨M.cl _ _ h1 (hm l (by omega) (by omega)), tg_vec hP z l h2 (by omega), ?_⟩
      rw [vd_tg hP M H z l h2 (by omega) (by omega), h3])
  rw [hR.2.2]
  exact npr_out M (hN E) (fun l a b => hm l (by omega) (by omega))

end

end Go.Proofs.YtoakmefajbbggaaGreat
namespace Go.Proofs.YtoakmefajbbggaaGreat

/-- a group on the members of S -/
structure GrpOn {α : Type} (S : α → Prop) (m : α → α → α) (e : α) : Prop extends MonOn S m e where
  inv : ∀ x, S x → ∃ y, S y ∧ m x y = e ∧ m y x = e

section
variable {α : Type} {S : α → Prop} {m : α → α → α} {e : α}

theorem GrpOn.of_right (M : MonOn S m e) (h : ∀ x, S x → ∃ y, S y ∧ m x y = e) : GrpOn S m e := by
  refine ⟨M, fun x hx => ?_⟩
  obtain ⟨y, hy, h1⟩ := h x hx
  obtain ⟨z, hz, h2⟩ := h y hy
  have : x = z := by
    have h3 : m (m x y) z = m x (m y z) := M.ass x y z hx hy hz
    rw [h1, h2, M.el z hz, M.er x hx] at h3
    exact h3.symm
  exact ⟨y, hy, h1, by rw [this]; exact h2⟩

theorem GrpOn.cancel (G : GrpOn S m e) {a x y : α} (ha : S a) (hx : S x) (hy : S y) (h : m a x = m a y) : x = y := by
  obtain ⟨b, hb, _, h2⟩ := G.inv a ha
  have h3 : m b (m a x) = m b (m a y) := by rw [h]
  rw [← G.ass b a x hb ha hx, ← G.ass b a y hb ha hy, h2, G.el x hx, G.el y hy] at h3
  exact h3

theorem GrpOn.right_left (G : GrpOn S m e) {a b : α} (ha : S a) (hb : S b) (h : m a b = e) : m b a = e := by
  obtain ⟨c, hc, h1, h2⟩ := G.inv a ha
  have : b = c := G.cancel ha hb hc (by rw [h, h1])
  rw [this]; exact h2

/-- b a = x with b the inverse of a: y = a⁻¹ x, as a product -/
theorem GrpOn.solve (G : GrpOn S m e) {a b x y : α} (ha : S a) (hb : S b) (hx : S x) (hy : S y) (hab : m a b = e) : m b x = y ↔ x = m a y := by
  have hba := G.right_left ha hb hab
  constructor
  · intro h; rw [← h, ← G.ass a b x ha hb hx, hab, G.el x hx]
  · intro h; rw [h, ← G.ass b a y hb ha hy, hba, G.el y hy]

/-- the product of pairs -/
def exm (m : α → α → α) (φ : α → α) (w : α) (o : Nat) (p q : Nat × α) : Nat × α :=
  if o ≤ p.1 + q.1 then (p.1 + q.1 - o, m w (m (iter q.1 φ p.2) q.2)) else (p.1 + q.1, m (iter q.1 φ p.2) q.2)

/-- what a cyclic extension needs -/
structure ExtOk (S : α → Prop) (m : α → α → α) (e : α) (φ : α → α) (w : α) (o : Nat) : Prop where
  o2 : 2 ≤ o
  grp : GrpOn S m e
  cl : ∀ x, S x → S (φ x)
  hom : ∀ x y, S x → S y → φ (m x y) = m (φ x) (φ y)
  wS : S w
  wφ : φ w = w
  root : ∀ x, S x → m w (iter o φ x) = m x w

variable {φ : α → α} {w : α} {o : Nat}

theorem ExtOk.icl (E : ExtOk S m e φ w o) (k : Nat) (x : α) (hx : S x) : S (iter k φ x) := iter_inv S φ E.cl k x hx
theorem ExtOk.ihom (E : ExtOk S m e φ w o) (k : Nat) (x y : α) (hx : S x) (hy : S y) : iter k φ (m x y) = m (iter k φ x) (iter k φ y) := by
  induction k with
  | zero => rfl
  | succ k ih => show φ (iter k φ (m x y)) = _; rw [ih]; exact E.hom _ _ (E.icl k x hx) (E.icl k y hy)
theorem ExtOk.iw (E : ExtOk S m e φ w o) (k : Nat) : iter k φ w = w := by
  induction k with
  | zero => rfl
  | succ k ih => show φ (iter k φ w) = w; rw [ih]; exact E.wφ
theorem ExtOk.one (E : ExtOk S m e φ w o) : φ e = e := by
  have h := E.hom e e E.grp.one E.grp.one
  rw [E.grp.el e E.grp.one] at h
  have c := E.cl e E.grp.one
  exact (E.grp.cancel c E.grp.one c (by rw [E.grp.er _ c]; exact h)).symm
theorem ExtOk.ione (E : ExtOk S m e φ w o) (k : Nat) : iter k φ e = e := by
  induction k with
  | zero => rfl
  | succ k ih => show φ (iter k φ e) = e; rw [ih]; exact E.one
/-- drawing w through -/
theorem ExtOk.draw (E : ExtOk S m e φ w o) (k : Nat) (hk : o ≤ k) (x : α) (hx : S x) : m (iter (k - o) φ x) w = m w (iter k φ x) := by
  rw [← E.root _ (E.icl _ x hx), ← iter_add, show o + (k - o) = k by omega]

/-- the pairs' set -/
def ExS (S : α → Prop) (o : Nat) (p : Nat × α) : Prop := p.1 < o ∧ S p.2

theorem ExtOk.exm_cl (E : ExtOk S m e φ w o) (p q : Nat × α) (hp : ExS S o p) (hq : ExS S o q) : ExS S o (exm m φ w o p q) := by
  obtain ⟨a, x⟩ := p
  obtain ⟨b, y⟩ := q
  obtain ⟨ha, hx⟩ := hp
  obtain ⟨hb, hy⟩ := hq
  have c := E.grp.cl _ _ (E.icl b x hx) hy
  simp only at ha hb hx hy
  unfold exm
  simp only
  split
  · exact ⟨by show a + b - o < o; omega, E.grp.cl _ _ E.wS c⟩
  · exact ⟨by show a + b < o; omega, c⟩

theorem ExtOk.exm_ass (E : ExtOk S m e φ w o) (p q r : Nat × α) (hp : ExS S o p) (hq : ExS S o q) (hr : ExS S o r) : exm m φ w o (exm m φ w o p q) r = exm m φ w o p (exm m φ w o q r) := by
  obtain ⟨a, x⟩ := p
  obtain ⟨b, y⟩ := q
  obtain ⟨c, z⟩ := r
  obtain ⟨ha, hx⟩ := hp
  obtain ⟨hb, hy⟩ := hq
  obtain ⟨hc, hz⟩ := hr
  simp only at ha hb hc hx hy hz
  have M := E.grp.toMonOn
  have cw := E.wS
  have c1 := E.icl b x hx
  have c2 := E.icl c _ c1
  have c3 := E.icl c y hy
  have c4 := M.cl _ _ c1 hy
  have c5 := M.cl _ _ c3 hz
  -- the left side's inner part, and the right side's
  have hL : iter c φ (m (iter b φ x) y) = m (iter c φ (iter b φ x)) (iter c φ y) := E.ihom c _ _ c1 hy
  have hLw : iter c φ (m w (m (iter b φ x) y)) = m w (m (iter c φ (iter b φ x)) (iter c φ y)) := by rw [E.ihom c _ _ cw c4, E.iw, hL]
  have hbc : iter (b + c) φ x = iter c φ (iter b φ x) := by rw [Nat.add_comm, iter_add]
  have c6 := M.cl _ _ c2 c3
  have hK : m (m (iter c φ (iter b φ x)) (iter c φ y)) z = m (iter c φ (iter b φ x)) (m (iter c φ y) z) := M.ass _ _ _ c2 c3 hz
  have hKw : m (m w (m (iter c φ (iter b φ x)) (iter c φ y))) z = m w (m (iter c φ (iter b φ x)) (m (iter c φ y) z)) := by rw [M.ass _ _ _ cw c6 hz, hK]
  have hR : o ≤ b + c → m (iter (b + c - o) φ x) (m w (m (iter c φ y) z)) = m w (m (iter c φ (iter b φ x)) (m (iter c φ y) z)) := by
    intro h
    rw [← M.ass _ _ _ (E.icl _ x hx) cw c5, E.draw _ h x hx, hbc, M.ass _ _ _ cw c2 c5]
  unfold exm
  by_cases e1 : o ≤ a + b
  · by_cases d1 : o ≤ b + c
    · simp only [if_pos e1, if_pos d1]
      by_cases e2 : o ≤ a + b - o + c
      · have d2 : o ≤ a + (b + c - o) := by omega
        simp only [if_pos e2, if_pos d2]
        rw [hLw, hKw, hR d1, show a + b - o + c - o = a + (b + c - o) - o by omega]
      · have d2 : ¬ o ≤ a + (b + c - o) := by omega
        simp only [if_neg e2, if_neg d2]
        rw [hLw, hKw, hR d1, show a + b - o + c = a + (b + c - o) by omega]
    · simp only [if_pos e1, if_neg d1]
      have e2 : ¬ o ≤ a + b - o + c := by omega
      have d2 : o ≤ a + (b + c) := by omega
      simp only [if_neg e2, if_pos d2]
      rw [hLw, hKw, hbc, show a + b - o + c = a + (b + c) - o by omega]
  · by_cases d1 : o ≤ b + c
    · simp only [if_neg e1, if_pos d1]
      have e2 : o ≤ a + b + c := by omega
      have d2 : ¬ o ≤ a + (b + c - o) := by omega
      simp only [if_pos e2, if_neg d2]
      rw [hL, hK, hR d1, show a + b + c - o = a + (b + c - o) by omega]
    · simp only [if_neg e1, if_neg d1]
      by_cases e2 : o ≤ a + b + c
      · have d2 : o ≤ a + (b + c) := by omega
        simp only [if_pos e2, if_pos d2]
        rw [hL, hK, hbc, show a + b + c - o = a + (b + c) - o by omega]
      · have d2 : ¬ o ≤ a + (b + c) := by omega
        simp only [if_neg e2, if_neg d2]
        rw [hL, hK, hbc, show a + b + c = a + (b + c) by omega]

/-- the extension is a group -/
theorem ExtOk.group (E : ExtOk S m e φ w o) : GrpOn (ExS S o) (exm m φ w o) (0, e) := by
  have M := E.grp.toMonOn
  have ho := E.o2
  have hM : MonOn (ExS S o) (exm m φ w o) (0, e) := by
    refine ⟨E.exm_cl, ⟨by show 0 < o; omega, M.one⟩, E.exm_ass, ?_, ?_⟩
    · rintro ⟨a, x⟩ ⟨ha, hx⟩
      simp only at ha hx
      unfold exm
      simp only [Nat.zero_add, if_neg (by omega : ¬ o ≤ a), E.ione, M.el x hx]
    · rintro ⟨a, x⟩ ⟨ha, hx⟩
      simp only at ha hx
      unfold exm
      simp only [Nat.add_zero, if_neg (by omega : ¬ o ≤ a)]
      show (a, m x e) = (a, x)
      rw [M.er x hx]
  refine GrpOn.of_right hM ?_
  rintro ⟨a, x⟩ ⟨ha, hx⟩
  simp only at ha hx
  by_cases h0 : a = 0
  · subst h0
    obtain ⟨y, hy, h1, _⟩ := E.grp.inv x hx
    refine ⟨(0, y), ⟨by show 0 < o; omega, hy⟩, ?_⟩
    unfold exm
    simp only [Nat.add_zero, if_neg (by omega : ¬ o ≤ 0)]
    show (0, m x y) = (0, e)
    rw [h1]
  · obtain ⟨y, hy, h1, _⟩ := E.grp.inv _ (M.cl _ _ E.wS (E.icl (o - a) x hx))
    refine ⟨(o - a, y), ⟨by show o - a < o; omega, hy⟩, ?_⟩
    unfold exm
    simp only [if_pos (by omega : o ≤ a + (o - a))]
    rw [← M.ass _ _ _ E.wS (E.icl _ x hx) hy, h1, show a + (o - a) - o = 0 by omega]

/-- a group carried over to another set of names -/
theorem GrpOn.carry {β : Type} {S' : β → Prop} {m' : β → β → β} {e' : β} (G : GrpOn S m e) (f : α → β) (hS : ∀ x, S x → S' (f x)) (hsur : ∀ y, S' y → ∃ x, S x ∧ f x = y) (he : f e = e')
    (hm : ∀ x y, S x → S y → m' (f x) (f y) = f (m x y)) : GrpOn S' m' e' := by
  subst he
  refine ⟨⟨?_, hS e G.one, ?_, ?_, ?_⟩, ?_⟩
  · intro x y hx hy
    obtain ⟨a, ha, rfl⟩ := hsur x hx
    obtain ⟨b, hb, rfl⟩ := hsur y hy
    rw [hm a b ha hb]; exact hS _ (G.cl _ _ ha hb)
  · intro x y z hx hy hz
    obtain ⟨a, ha, rfl⟩ := hsur x hx
    obtain ⟨b, hb, rfl⟩ := hsur y hy
    obtain ⟨c, hc, rfl⟩ := hsur z hz
    rw [hm a b ha hb, hm _ c (G.cl _ _ ha hb) hc, hm b c hb hc, hm a _ ha (G.cl _ _ hb hc), G.ass a b c ha hb hc]
  · intro x hx
    obtain ⟨a, ha, rfl⟩ := hsur x hx
    rw [hm e a G.one ha, G.el a ha]
  · intro x hx
    obtain ⟨a, ha, rfl⟩ := hsur x hx
    rw [hm a e ha G.one, G.er a ha]
  · intro x hx
    obtain ⟨a, ha, rfl⟩ := hsur x hx
    obtain ⟨b, hb, h1, h2⟩ := G.inv a ha
    exact ⟨f b, hS b hb, by rw [hm a b ha hb, h1], by rw [hm b a hb ha, h2]⟩

end
end Go.Proofs.YtoakmefajbbggaaGreat
