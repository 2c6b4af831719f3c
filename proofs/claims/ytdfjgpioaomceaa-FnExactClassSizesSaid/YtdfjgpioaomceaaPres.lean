/-
  Valid presentations: impl.tailVector, impl.IsPresentation.
-/
import Derived.Test.YtdfjgpioaomceaaSmall3
namespace Go.Proofs.Ytdfjgpioaomceaa
open Go.RowKit

/-- v[:h] -/
theorem run_head (w : World) (a : Option Addr) (n cap : Nat) (k : Int) (h0 : 0 ≤ k) (h1 : k ≤ cap) :
    (Instr.slice 22 (.slice a n cap) none (some (.int .i64 k)) none).run Try.prog w = .ok (.slice a k.toNat cap) w := by
  rw [run_slice_h w 22 a n cap (by kernel_rfl) .i64 k h0 h1]
  have : (sizeOf (Try.prog.elem 22)).run Try.prog w = .ok 1 w := by kernel_rfl
  rw [this]
  simp only [Result.andThen, sliced, Nat.sub_zero, Nat.zero_mul]
  have e : (a.map fun x => x.add 0) = a := by cases a <;> simp [Addr.add]
  split
  · rfl
  · rw [e]

theorem head_ints {S : Nat → Prop} {w : World} {a : Option Addr} {n cap : Nat} {xs : List Int} (h : Ints S w (.slice a n cap) xs) (k : Nat) (hk : k ≤ xs.length) : Ints S w (.slice a k cap) (xs.take k) := by
  obtain ⟨a', cap', hv, hl, hc⟩ := h
  cases hv
  have hlen : (xs.take k).length = k := by simp; omega
  refine ⟨a, cap, by rw [hlen], ⟨by omega, by omega, hl.2.2⟩, fun i hi => ?_⟩
  obtain ⟨b, off, u, h1, h2, h3, h4, h5⟩ := hc i (by omega)
  refine ⟨b, off, u, h1, h2, h3, h4, ?_⟩
  have : gt (xs.take k) i = gt xs i := by simp only [gt, List.getD_eq_getElem?_getD, List.getElem?_take]; rw [if_pos (by omega)]
  rw [this]; exact h5

def tailB (o : List Int) (i : Nat) (e : List Int) : Bool := expB o e && isZeroB (e.take (i + 1))

theorem expB_vec {o e : List Int} : expB o e = true ↔ Vec o e := by
  unfold expB Vec
  rw [Bool.and_eq_true, decide_eq_true_eq, allB_true]
  constructor
  · rintro ⟨h1, h2⟩
    exact ⟨h1, fun i hi => by have := inB_true.1 (h2 i (by omega)); omega⟩
  · rintro ⟨h1, h2⟩
    exact ⟨h1, fun i hi => by have := h2 i (by omega); exact inB_true.2 (by omega)⟩

theorem isZeroB_true {l : List Int} : isZeroB l = true ↔ ∀ i, i < l.length → gt l i = 0 := by
  unfold isZeroB; rw [allB_true]; simp

theorem gt_take {l : List Int} {k i : Nat} (h : i < k) : gt (l.take k) i = gt l i := by
  simp only [gt, List.getD_eq_getElem?_getD, List.getElem?_take]; rw [if_pos h]

theorem gt_big {l : List Int} {i : Nat} (h : l.length ≤ i) : gt l i = 0 := by
  simp only [gt, List.getD_eq_getElem?_getD]; rw [List.getElem?_eq_none h]; rfl

theorem tailB_vec {o e : List Int} {i : Nat} : tailB o i e = true ↔ Vec o e ∧ ZeroTo i e := by
  unfold tailB
  rw [Bool.and_eq_true, expB_vec, isZeroB_true]
  constructor
  · rintro ⟨h1, h2⟩
    refine ⟨h1, fun k hk => ?_⟩
    by_cases hl : k < e.length
    · have := h2 k (by simp; omega)
      rwa [gt_take (by omega)] at this
    · exact gt_big (by omega)
  · rintro ⟨h1, h2⟩
    refine ⟨h1, fun k hk => ?_⟩
    simp at hk
    rw [gt_take (by omega)]; exact h2 k (by omega)

theorem expZB_vec {o e : List Int} {i : Nat} : expZB o e i = true ↔ Vec o e ∧ ZeroTo i e := by
  rw [← tailB_vec]
  unfold expZB tailB expB
  rw [Bool.and_eq_true, Bool.and_eq_true, Bool.and_eq_true, allB_true, allB_true, isZeroB_true]
  constructor
  · rintro ⟨h1, h2⟩
    refine ⟨⟨h1, fun k hk => ((Bool.and_eq_true _ _).mp (h2 k hk)).1⟩, fun k hk => ?_⟩
    rw [List.length_take] at hk
    rw [gt_take (by omega)]
    have := ((Bool.and_eq_true _ _).mp (h2 k (by omega))).2
    simp at this
    rcases this with h | h
    · omega
    · exact h
  · rintro ⟨⟨h1, h2⟩, h3⟩
    refine ⟨h1, fun k hk => ?_⟩
    rw [Bool.and_eq_true]
    refine ⟨h2 k hk, ?_⟩
    simp
    rcases Nat.lt_or_ge i k with hki | hki
    · exact .inl hki
    · have := h3 k (by rw [List.length_take]; omega)
      rw [gt_take (by omega)] at this
      exact .inr this

set_option maxHeartbeats 400000 in
theorem tailVector_ok (w : World) (p v : Value) (P : Pr) (e : List Int) (i : Nat) (S S' : Nat → Prop) (hp : PresP S w p P) (hv : Ints S' w v e) (ho : ∀ i, i < P.orders.length → 0 ≤ gt P.orders i ∧ gt P.orders i ≤ 7)
    (hi : i < P.orders.length) (hn : P.orders.length ≤ 6) :
    Calls Try.prog 59 #[p, .int .i64 i, v] w fun e1 w' => e1 = .returned (.bool (tailB P.orders i e)) ∧ w = w' := by
  obtain ⟨a, cap, rfl, hcap, _⟩ := hv.shape
  cases hx : expB P.orders e with
  | false =>
    have HX := Lib.hid hx; clear hx
    go_enter Try.func59, Try.ntmps59
    have hx2 := HX.out
    go_wp2_with (go_at_call 71; refine (isExponents_ok _ _ _ P e S S' hp hv ho).mono ?_; rintro e1 w1 ⟨rfl, rfl⟩)
    go_ret
    exact ⟨ret_b (by rw [tailB, HX.out, Bool.false_and]), rfl⟩
  | true =>
    have hvec := expB_vec.1 hx
    have hle : P.orders.length ≤ e.length := by rw [hvec.1]; omega
    have hs := fun w => run_head w a e.length cap ((i : Int) + 1) (by omega) (by omega)
    have hh := head_ints hv (i + 1) (by omega)
    have HX := Lib.hid hx
    clear hvec
    go_enter Try.func59, Try.ntmps59
    go_wp2_with (first
      | (go_at_call 71; refine (isExponents_ok _ _ _ P e S S' hp hv ho).mono ?_; rintro e1 w1 ⟨rfl, rfl⟩)
      | (go_at_call 72; refine (isZero_ok _ _ _ S' hh).mono ?_; rintro e1 w1 ⟨rfl, rfl⟩))
    go_ret
    exact ⟨ret_b (by rw [tailB, HX.out, Bool.true_and]), rfl⟩

theorem primeB_true {n : Int} : primeB n = true ↔ n = 2 ∨ n = 3 ∨ n = 5 ∨ n = 7 := by simp [primeB]

theorem prodTo_pos {l : List Int} (k : Nat) (h : ∀ i, i < k → 1 ≤ gt l i) : 1 ≤ prodTo l k := by
  induction k with
  | zero => simp [prodTo]
  | succ k ih =>
    have h1 := ih (fun i hi => h i (by omega))
    have h2 := h k (by omega)
    have := Int.mul_le_mul h1 h2 (by omega) (by omega)
    simp only [prodTo]; omega

theorem prodTo_mono {l : List Int} (k n : Nat) (hkn : k ≤ n) (h : ∀ i, i < n → 1 ≤ gt l i) : prodTo l k ≤ prodTo l n := by
  induction n with
  | zero => have : k = 0 := by omega
            rw [this]; exact Int.le_refl _
  | succ n ih =>
    rcases Nat.lt_or_ge n k with h1 | h1
    · have : k = n + 1 := by omega
      rw [this]; exact Int.le_refl _
    · have h2 := ih h1 (fun i hi => h i (by omega))
      have h3 := h n (by omega)
      have h4 := prodTo_pos (l := l) n (fun i hi => h i (by omega))
      have h5 : prodTo l n * 1 ≤ prodTo l n * gt l n := Int.mul_le_mul_of_nonneg_left h3 (by omega)
      simp only [prodTo]
      omega

open Classical in
noncomputable def validB (P : Pr) : Bool := decide (Valid P)
theorem validB_true {P : Pr} (h : Valid P) : validB P = true := by simp [validB, h]
theorem validB_false {P : Pr} (h : ¬ Valid P) : validB P = false := by simp [validB, h]
theorem valid_of {P : Pr} (h : validB P = true) : Valid P := by simpa [validB] using h
theorem not_valid_of {P : Pr} (h : validB P = false) : ¬ Valid P := by simpa [validB] using h

theorem Valid.pos {P : Pr} (h : Valid P) (i : Nat) (hi : i < P.orders.length) : 1 ≤ gt P.orders i := by have := h.ord7 i hi; omega

theorem Valid.prefix {P : Pr} (h : Valid P) (k : Nat) (hk : k ≤ P.orders.length) : prodTo P.orders k ≤ 729 :=
  Int.le_trans (prodTo_mono k _ hk (fun i hi => h.pos i hi)) h.le729

set_option maxHeartbeats 2000000 in
theorem isPresentation_ok (w : World) (pv : Value) (P : Pr) (S : Nat → Prop) (hp : PresV S w pv P) :
    Calls Try.prog 40 #[pv] w (Ret w fun _ v => v = .bool (validB P)) := by
  obtain ⟨vo, vp, vc, rfl, h3⟩ := hp
  have hBx := PresP.box h3 30
  have hg0 : Ext w (w.alloc (.cells #[vo, vp, vc] 30)) := World.grownBy_alloc _ _ _
  go_enter Try.func40, Try.ntmps40
  obtain ⟨ao, capo, hco, hoi⟩ := hBx.ordAt
  obtain ⟨ap, capp, hcp, hpi⟩ := hBx.powAt
  obtain ⟨ac, capc, hcc, hci⟩ := hBx.conjAt
  by_cases h6 : P.orders.length ≤ 6
  rotate_left
  · have hd : decide ((6 : Int) < (P.orders.length : Int)) = true := by simp; omega
    go_wp2
    go_ret
    exact ret_bool hg0 (validB_false (fun h => h6 h.n6)).symm
  have hd6 : decide ((6 : Int) < (P.orders.length : Int)) = false := by simp; omega
  by_cases hpl : P.powers.length = P.orders.length
  rotate_left
  · have hd : ((P.powers.length : Int) != (P.orders.length : Int)) = true := by simp; omega
    have HP := Lib.hid hpl; clear hpl
    go_wp2
    go_ret
    exact ret_bool hg0 (validB_false (fun h => HP.out h.pl)).symm
  have hdp : ((P.powers.length : Int) != (P.orders.length : Int)) = false := by simp [hpl]
  by_cases hcl : P.conj.length = P.orders.length
  rotate_left
  · have hd : ((P.conj.length : Int) != (P.orders.length : Int)) = true := by simp; omega
    have HP := Lib.hid hpl; clear hpl
    have HC := Lib.hid hcl; clear hcl
    go_wp2
    go_ret
    exact ret_bool hg0 (validB_false (fun h => HC.out h.cl)).symm
  have hdc : ((P.conj.length : Int) != (P.orders.length : Int)) = false := by simp [hcl]
  have hpl2 : P.powers.length ≤ P.orders.length ∧ P.orders.length ≤ P.powers.length := by omega
  have hcl2 : P.conj.length ≤ P.orders.length ∧ P.orders.length ≤ P.conj.length := by omega
  have HP := Lib.hid hpl; clear hpl
  have HC := Lib.hid hcl; clear hcl
  go_wp2
  clear hd6 hdp hdc
  generalize hw0 : w.alloc (.cells #[vo, vp, vc] 30) = w0 at *
  clear hw0
  go_loop [4, 32] (fun pr i => ∃ k : Nat, i = .int .i64 k ∧ pr = .int .i64 (prodTo P.orders k) ∧ k ≤ P.orders.length ∧ prodTo P.orders k ≤ 729 ∧ ∀ i, i < k → primeB (gt P.orders i) = true) (fun _ i => P.orders.length - (intOf i).toNat)
  case atStart => exact ⟨0, rfl, rfl, by omega, by simp [prodTo], fun i hi => by omega⟩
  case round =>
    obtain ⟨k, rfl, rfl, hk, hle, hz⟩ := hrel
    have hp1 : 1 ≤ prodTo P.orders k := prodTo_pos k (fun i hi => by have := primeB_true.1 (hz i hi); omega)
    have HZ := Lib.hid hz; clear hz
    by_cases hlt : k < P.orders.length
    · obtain ⟨b, off, rfl, _, _, hc⟩ := Ints.at hoi k hlt
      cases hx : primeB (gt P.orders k) with
      | false =>
        have HX := Lib.hid hx
        go_wp2_with (go_at_call 58; refine (isGroupPrime_ok _ _).mono ?_; rintro e1 w1 ⟨rfl, rfl⟩)
        go_ret
        exact ret_bool hg0 (validB_false (fun h => by have := primeB_true.2 (h.ord k hlt); rw [HX.out] at this; cases this)).symm
      | true =>
        have hpr := primeB_true.1 hx
        have hg7 : 2 ≤ gt P.orders k ∧ gt P.orders k ≤ 7 := by omega
        have hg20 : 2 ≤ gt P.orders k := hg7.1
        have hg70 : gt P.orders k ≤ 7 := hg7.2
        have hm0 : 0 ≤ prodTo P.orders k * gt P.orders k := Int.mul_nonneg (by omega) (by omega)
        have hm1 : prodTo P.orders k * gt P.orders k ≤ 5103 := by
          have h1 : prodTo P.orders k * gt P.orders k ≤ 729 * gt P.orders k := Int.mul_le_mul_of_nonneg_right hle (by omega)
          omega
        have hsucc : prodTo P.orders (k + 1) = prodTo P.orders k * gt P.orders k := rfl
        have HSC := Lib.hid hsucc; clear hsucc hpr hg7
        by_cases h729 : prodTo P.orders k * gt P.orders k ≤ 729
        · go_wp2_with (go_at_call 58; refine (isGroupPrime_ok _ _).mono ?_; rintro e1 w1 ⟨rfl, rfl⟩)
          go_round
          case rel => exact ⟨k + 1, by go_num, by rw [HSC.out], by omega, by rw [HSC.out]; exact h729, fun i hi => by
            rcases Nat.lt_or_ge i k with h1 | h1
            · exact HZ.out i h1
            · have : i = k := by omega
              rw [this]; exact hx⟩
          case measure => simp [intOf]; omega
        · go_wp2_with (go_at_call 58; refine (isGroupPrime_ok _ _).mono ?_; rintro e1 w1 ⟨rfl, rfl⟩)
          go_ret
          exact ret_bool hg0 (validB_false (fun h => by have := h.prefix (k + 1) hlt; rw [HSC.out] at this; omega)).symm
    · have hke : k = P.orders.length := by omega
      subst hke
      have hord : ∀ i, i < P.orders.length → 0 ≤ gt P.orders i ∧ gt P.orders i ≤ 7 := fun i hi => by have := primeB_true.1 (HZ.out i hi); omega
      have HO := Lib.hid hord; clear hord
      have HLE := Lib.hid hle; clear hle hp1
      go_wp2
      clear hcc hcp hco
      go_loop [50] (fun i => ∃ k : Nat, i = .int .i64 k ∧ k ≤ P.orders.length ∧ ∀ i, i < k → tailB P.orders i (gt P.powers i) = true ∧ (gt P.conj i).length = P.orders.length - 1 - i ∧ ∀ j, j < P.orders.length - 1 - i → tailB P.orders i (gt (gt P.conj i) j) = true) (fun i => P.orders.length - (intOf i).toNat)
      case atStart => exact ⟨0, rfl, by omega, fun i hi => by omega⟩
      case round =>
        obtain ⟨k, rfl, hk, hz⟩ := hrel
        have HZ2 := Lib.hid hz; clear hz
        by_cases hlt : k < P.orders.length
        · obtain ⟨ap, capp, hcp, hpi⟩ := hBx.powAt
          obtain ⟨ac, capc, hcc, hci⟩ := hBx.conjAt
          obtain ⟨b1, o1, a2, cap2, rfl, _, _, hc2, hi2⟩ := Rows2.at hpi k (by omega)
          obtain ⟨b3, o3, a4, cap4, rfl, _, _, hc4, hi4⟩ := Rows3.at hci k (by omega)
          have hbad1 : tailB P.orders k (gt P.powers k) = false → validB P = false := fun hx => validB_false (fun h => by have := tailB_vec.2 (h.pv k hlt); rw [hx] at this; cases this)
          have hbad2 : ¬ (gt P.conj k).length = P.orders.length - 1 - k → validB P = false := fun hx => validB_false (fun h => hx (h.cv k hlt).1)
          have hbad3 : ∀ j, j < P.orders.length - 1 - k → tailB P.orders k (gt (gt P.conj k) j) = false → validB P = false := fun j hj hx => validB_false (fun h => by have := tailB_vec.2 ((h.cv k hlt).2 j hj); rw [hx] at this; cases this)
          have HB1 := Lib.hid hbad1; have HB2 := Lib.hid hbad2; have HB3 := Lib.hid hbad3; clear hbad1 hbad2 hbad3
          cases hx : tailB P.orders k (gt P.powers k) with
          | false =>
            have HX := Lib.hid hx
            go_wp2_with (go_at_call 59; refine (tailVector_ok _ _ _ P _ k Any Any hBx hi2 HO.out hlt h6).mono ?_; rintro e1 w1 ⟨rfl, rfl⟩)
            go_ret
            exact ret_bool hg0 (HB1.out HX.out).symm
          | true =>
            have HX := Lib.hid hx
            by_cases hlen : (gt P.conj k).length = P.orders.length - 1 - k
            · have hd : (((gt P.conj k).length : Int) != (P.orders.length : Int) - 1 - k) = false := by simp; omega
              have hl2 : (gt P.conj k).length ≤ P.orders.length - 1 - k ∧ P.orders.length - 1 - k ≤ (gt P.conj k).length := by omega
              have HLN := Lib.hid hlen; clear hlen
              go_wp2_with (go_at_call 59; refine (tailVector_ok _ _ _ P _ k Any Any hBx hi2 HO.out hlt h6).mono ?_; rintro e1 w1 ⟨rfl, rfl⟩)
              clear hd hx hcp hc2
              go_loop [80] (fun i => ∃ j : Nat, i = .int .i64 j ∧ j ≤ (gt P.conj k).length ∧ ∀ i, i < j → tailB P.orders k (gt (gt P.conj k) i) = true) (fun i => (gt P.conj k).length - (intOf i).toNat)
              case atStart => exact ⟨0, rfl, by omega, fun i hi => by omega⟩
              case round =>
                obtain ⟨j, rfl, hj, hz⟩ := hrel
                have HZ3 := Lib.hid hz; clear hz
                by_cases hlt2 : j < (gt P.conj k).length
                · obtain ⟨b5, o5, a6, cap6, rfl, _, _, hc6, hi6⟩ := Rows2.at hi4 j hlt2
                  cases hy : tailB P.orders k (gt (gt P.conj k) j) with
                  | false =>
                    have HY := Lib.hid hy
                    go_wp2_with (go_at_call 59; refine (tailVector_ok _ _ _ P _ k Any Any hBx hi6 HO.out hlt h6).mono ?_; rintro e1 w1 ⟨rfl, rfl⟩)
                    go_ret
                    exact ret_bool hg0 (HB3.out j (by omega) HY.out).symm
                  | true =>
                    have HY := Lib.hid hy
                    go_wp2_with (go_at_call 59; refine (tailVector_ok _ _ _ P _ k Any Any hBx hi6 HO.out hlt h6).mono ?_; rintro e1 w1 ⟨rfl, rfl⟩)
                    go_round
                    case rel => exact ⟨j + 1, by go_num, by omega, fun i hi => by
                      rcases Nat.lt_or_ge i j with h1 | h1
                      · exact HZ3.out i h1
                      · have : i = j := by omega
                        rw [this]; exact HY.out⟩
                    case measure => simp [intOf]; omega
                · have hje : j = (gt P.conj k).length := by omega
                  go_wp2
                  go_round
                  case rel => exact ⟨k + 1, by go_num, by omega, fun i hi => by
                    rcases Nat.lt_or_ge i k with h1 | h1
                    · exact HZ2.out i h1
                    · have : i = k := by omega
                      rw [this]; exact ⟨HX.out, HLN.out, fun i hi => HZ3.out i (by omega)⟩⟩
                  case measure => simp [intOf]; omega
            · have hd : (((gt P.conj k).length : Int) != (P.orders.length : Int) - 1 - k) = true := by simp; omega
              have HLN := Lib.hid hlen; clear hlen
              go_wp2_with (go_at_call 59; refine (tailVector_ok _ _ _ P _ k Any Any hBx hi2 HO.out hlt h6).mono ?_; rintro e1 w1 ⟨rfl, rfl⟩)
              go_ret
              exact ret_bool hg0 (HB2.out HLN.out).symm
        · have hke : k = P.orders.length := by omega
          subst hke
          go_wp2
          go_ret
          refine ret_bool hg0 (validB_true ?_).symm
          exact ⟨HLE.out, h6, HP.out, HC.out, fun i hi => primeB_true.1 (HZ.out i hi), fun i hi => tailB_vec.1 (HZ2.out i hi).1,
            fun i hi => ⟨(HZ2.out i hi).2.1, fun j hj => tailB_vec.1 ((HZ2.out i hi).2.2 j hj)⟩⟩

end Go.Proofs.Ytdfjgpioaomceaa
