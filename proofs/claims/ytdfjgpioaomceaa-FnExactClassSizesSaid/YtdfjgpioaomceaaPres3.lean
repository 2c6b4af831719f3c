/-
  spec.IsPresentation decides the same as impl.IsPresentation.
-/
import Derived.Test.YtdfjgpioaomceaaPres2
namespace Go.Proofs.Ytdfjgpioaomceaa
open Go.RowKit

set_option maxHeartbeats 4000000 in
theorem sIsPresentation_ok (w : World) (pv : Value) (P : Pr) (S : Nat → Prop) (hp : PresV S w pv P) :
    Calls Try.prog 35 #[pv] w (Ret w fun _ v => v = .bool (validB P)) := by
  obtain ⟨vo, vp, vc, rfl, h3⟩ := hp
  have hBx := PresP.box h3 30
  have hg0 : Ext w (w.alloc (.cells #[vo, vp, vc] 30)) := World.grownBy_alloc _ _ _
  go_enter Try.func35, Try.ntmps35
  obtain ⟨ao, capo, hco, hoi⟩ := hBx.ordAt
  obtain ⟨ap, capp, hcp, hpi⟩ := hBx.powAt
  obtain ⟨ac, capc, hcc, hci⟩ := hBx.conjAt
  by_cases h6 : P.orders.length ≤ 6
  rotate_left
  · have hd : decide ((6 : Int) < (P.orders.length : Int)) = true := by simp; omega
    go_wp2
    go_ret
    exact ret_bool hg0 (validB_false (fun h => h6 h.n6)).symm
  have hd6 : decide ((6 : Int) < (P.orders.length : Int)) = false := by simp; omega
  by_cases hpl : P.powers.length = P.orders.length
  rotate_left
  · have hd : ((P.powers.length : Int) != (P.orders.length : Int)) = true := by simp; omega
    have HP := Lib.hid hpl; clear hpl
    go_wp2
    go_ret
    exact ret_bool hg0 (validB_false (fun h => HP.out h.pl)).symm
  have hdp : ((P.powers.length : Int) != (P.orders.length : Int)) = false := by simp [hpl]
  by_cases hcl : P.conj.length = P.orders.length
  rotate_left
  · have hd : ((P.conj.length : Int) != (P.orders.length : Int)) = true := by simp; omega
    have HP := Lib.hid hpl; clear hpl
    have HC := Lib.hid hcl; clear hcl
    go_wp2
    go_ret
    exact ret_bool hg0 (validB_false (fun h => HC.out h.cl)).symm
  have hdc : ((P.conj.length : Int) != (P.orders.length : Int)) = false := by simp [hcl]
  have hpl2 : P.powers.length ≤ P.orders.length ∧ P.orders.length ≤ P.powers.length := by omega
  have hcl2 : P.conj.length ≤ P.orders.length ∧ P.orders.length ≤ P.conj.length := by omega
  have HP := Lib.hid hpl; clear hpl
  have HC := Lib.hid hcl; clear hcl
  go_wp2
  clear hd6 hdp hdc
  generalize hw0 : w.alloc (.cells #[vo, vp, vc] 30) = w0 at *
  clear hw0
  go_loop [4] (fun i => ∃ k : Nat, i = .int .i64 k ∧ k ≤ P.orders.length ∧ ∀ i, i < k → primeB (gt P.orders i) = true) (fun i => P.orders.length - (intOf i).toNat)
  case atStart => exact ⟨0, rfl, by omega, fun i hi => by omega⟩
  case round =>
    obtain ⟨k, rfl, hk, hz⟩ := hrel
    have HZ := Lib.hid hz; clear hz
    by_cases hlt : k < P.orders.length
    · obtain ⟨b, off, rfl, _, _, hc⟩ := Ints.at hoi k hlt
      cases hx : primeB (gt P.orders k) with
      | false =>
        have HX := Lib.hid hx
        go_wp2_with (go_at_call 52; refine (l01Prime_ok _ _).mono ?_; rintro e1 w1 ⟨rfl, rfl⟩)
        go_ret
        exact ret_bool hg0 (validB_false (fun h => by have := primeB_true.2 (h.ord k hlt); rw [HX.out] at this; cases this)).symm
      | true =>
        have HX := Lib.hid hx
        go_wp2_with (go_at_call 52; refine (l01Prime_ok _ _).mono ?_; rintro e1 w1 ⟨rfl, rfl⟩)
        go_round
        case rel => exact ⟨k + 1, by go_num, by omega, fun i hi => by
            rcases Nat.lt_or_ge i k with h1 | h1
            · exact HZ.out i h1
            · have : i = k := by omega
              rw [this]; exact HX.out⟩
        case measure => simp [intOf]; omega
    · have hke : k = P.orders.length := by omega
      subst hke
      have hord : ∀ i, i < P.orders.length → 1 ≤ gt P.orders i ∧ gt P.orders i ≤ 7 := fun i hi => by have := primeB_true.1 (HZ.out i hi); omega
      have HO := Lib.hid hord; clear hord
      have hcap := capTo_le (l := P.orders) P.orders.length (fun i hi => (HO.out i hi).1)
      have HCP := Lib.hid hcap; clear hcap
      by_cases h729 : capTo P.orders P.orders.length ≤ 729
      rotate_left
      · have hd : decide ((729 : Int) < capTo P.orders P.orders.length) = true := by simp; omega
        go_wp2_with (go_at_call 53; refine (l07Product_ok _ _ P.orders Any hoi HO.out).mono ?_; rintro e1 w1 ⟨rfl, rfl⟩)
        go_ret
        exact ret_bool hg0 (validB_false (fun h => by have := HCP.out.1.2 h.le729; omega)).symm
      have hd : decide ((729 : Int) < capTo P.orders P.orders.length) = false := by simp; omega
      go_wp2_with (go_at_call 53; refine (l07Product_ok _ _ P.orders Any hoi HO.out).mono ?_; rintro e1 w1 ⟨rfl, rfl⟩)
      have HLE := Lib.hid (HCP.out.1.1 h729)
      have hord0 : ∀ i, i < P.orders.length → 0 ≤ gt P.orders i ∧ gt P.orders i ≤ 7 := fun i hi => by have := HO.out i hi; omega
      have HO0 := Lib.hid hord0; clear hord0
      clear hcc hcp hco hd h729 HO HCP
      go_loopw [5] (fun i wr => ∃ k : Nat, i = .int .i64 k ∧ k ≤ P.orders.length ∧ Dr w0 wr ∧ ∀ i, i < k → tailB P.orders i (gt P.powers i) = true ∧ (gt P.conj i).length = P.orders.length - 1 - i ∧ ∀ j, j < P.orders.length - 1 - i → tailB P.orders i (gt (gt P.conj i) j) = true) (fun i _ => P.orders.length - (intOf i).toNat)
      case atStart => exact ⟨0, rfl, by omega, Dr.refl _, fun i hi => by omega⟩
      case round =>
        obtain ⟨k, rfl, hk, hdr, hz⟩ := hrel
        have HZ2 := Lib.hid hz; clear hz
        have hgr : Ext w wr := grown_trans hg0 hdr.ext
        by_cases hlt : k < P.orders.length
        · obtain ⟨ao5, capo5, hco, hoi5⟩ := (hBx.ext hdr.ext).ordAt
          obtain ⟨ap, capp, hcp, hpi⟩ := (hBx.ext hdr.ext).powAt
          obtain ⟨ac, capc, hcc, hci⟩ := (hBx.ext hdr.ext).conjAt
          obtain ⟨b1, o1, a2, cap2, rfl, _, _, hc2, hi2⟩ := Rows2.at hpi k (by omega)
          obtain ⟨b3, o3, a4, cap4, rfl, _, _, hc4, hi4⟩ := Rows3.at hci k (by omega)
          have hbad1 : expZB P.orders (gt P.powers k) k = false → validB P = false := fun hx => validB_false (fun h => by have := expZB_vec.2 (h.pv k hlt); rw [hx] at this; cases this)
          have hbad2 : ¬ (gt P.conj k).length = P.orders.length - 1 - k → validB P = false := fun hx => validB_false (fun h => hx (h.cv k hlt).1)
          have hbad3 : ∀ j, j < P.orders.length - 1 - k → expZB P.orders (gt (gt P.conj k) j) k = false → validB P = false := fun j hj hx => validB_false (fun h => by have := expZB_vec.2 ((h.cv k hlt).2 j hj); rw [hx] at this; cases this)
          have HB1 := Lib.hid hbad1; have HB2 := Lib.hid hbad2; have HB3 := Lib.hid hbad3; clear hbad1 hbad2 hbad3
          have b5 : (0 : Int) ≤ k := by omega
          have b6 : (k : Int) < P.powers.length := by omega
          have b7 : (k : Int) < P.conj.length := by omega
          have s1 : IntKind.i64.wrap ((P.orders.length : Int) - 1) = (P.orders.length : Int) - 1 := IntWalk.i64_in _ (by omega)
          have s2 : IntKind.i64.wrap ((P.orders.length : Int) - 1 - k) = (P.orders.length : Int) - 1 - k := IntWalk.i64_in _ (by omega)
          cases hx : expZB P.orders (gt P.powers k) k with
          | false =>
            have HX := Lib.hid hx
            go_wp2
            go_quiet ((go_at_call 54; exact quiet_rd (l07Exponents_ok _ _ _ P.orders (gt P.powers k) k Any Any (hoi5.ext (grown_drewN _ _ _)) (hi2.ext (grown_drewN _ _ _)) HO0.out)))
            go_wp2
            go_ret
            exact ret_bool (grown_trans hgr (grown_drewN _ _ _)) (HB1.out HX.out).symm
          | true =>
            have HX := Lib.hid hx
            by_cases hlen : (gt P.conj k).length = P.orders.length - 1 - k
            · have hd : (((gt P.conj k).length : Int) != (P.orders.length : Int) - 1 - k) = false := by simp; omega
              have hl2 : (gt P.conj k).length ≤ P.orders.length - 1 - k ∧ P.orders.length - 1 - k ≤ (gt P.conj k).length := by omega
              have HLN := Lib.hid hlen; clear hlen
              go_wp2
              go_quiet ((go_at_call 54; exact quiet_rd (l07Exponents_ok _ _ _ P.orders (gt P.powers k) k Any Any (hoi5.ext (grown_drewN _ _ _)) (hi2.ext (grown_drewN _ _ _)) HO0.out)))
              rename_i nq _
              have hdr2 := hdr.step nq
              clear hd hx hcp hc2 s1 s2 b6
              have hci9 : Rows3 Any (wr.drewN nq) (.slice (some ⟨b3, o3, none⟩) P.conj.length capc) P.conj := hci
              go_wp2
              go_loopw [6] (fun i wr => ∃ j : Nat, i = .int .i64 j ∧ j ≤ (gt P.conj k).length ∧ Dr w0 wr ∧ ∀ i, i < j → expZB P.orders (gt (gt P.conj k) i) k = true) (fun i _ => (gt P.conj k).length - (intOf i).toNat)
              case atStart => exact ⟨0, rfl, by omega, hdr2, fun i hi => by omega⟩
              case round =>
                clear hcc hc4 hi4 hi2 hci hpi hci9 hoi5
                obtain ⟨j, rfl, hj, hdr3, hz⟩ := hrel
                have HZ3 := Lib.hid hz; clear hz
                have hgr3 : Ext w wr := grown_trans hg0 hdr3.ext
                obtain ⟨ao7, capo7, hco, hoi7⟩ := (hBx.ext hdr3.ext).ordAt
                obtain ⟨ac7, capc7, hcc, hci⟩ := (hBx.ext hdr3.ext).conjAt
                obtain ⟨b8, o8, a8, cap8, rfl, _, _, hc8, hi8⟩ := Rows3.at hci k (by omega)
                by_cases hlt2 : j < (gt P.conj k).length
                · obtain ⟨b9, o9, a9, cap9, rfl, _, _, hc9, hi9⟩ := Rows2.at hi8 j hlt2
                  have b10 : (j : Int) < (gt P.conj k).length := by omega
                  have b11 : (0 : Int) ≤ j := by omega
                  cases hy : expZB P.orders (gt (gt P.conj k) j) k with
                  | false =>
                    have HY := Lib.hid hy
                    go_wp2
                    go_quiet ((go_at_call 54; exact quiet_rd (l07Exponents_ok _ _ _ P.orders (gt (gt P.conj k) j) k Any Any (hoi7.ext (grown_drewN _ _ _)) (hi9.ext (grown_drewN _ _ _)) HO0.out)))
                    go_wp2
                    go_ret
                    exact ret_bool (grown_trans hgr3 (grown_drewN _ _ _)) (HB3.out j (by omega) HY.out).symm
                  | true =>
                    have HY := Lib.hid hy
                    go_wp2
                    go_quiet ((go_at_call 54; exact quiet_rd (l07Exponents_ok _ _ _ P.orders (gt (gt P.conj k) j) k Any Any (hoi7.ext (grown_drewN _ _ _)) (hi9.ext (grown_drewN _ _ _)) HO0.out)))
                    go_wp2
                    go_roundw
                    case rel => exact ⟨j + 1, by go_num, by omega, hdr3.step _, fun i hi => by
                      rcases Nat.lt_or_ge i j with h1 | h1
                      · exact HZ3.out i h1
                      · have : i = j := by omega
                        rw [this]; exact HY.out⟩
                    case measure => simp [intOf]; omega
                · have hje : j = (gt P.conj k).length := by omega
                  go_wp2
                  go_roundw
                  case rel => exact ⟨k + 1, by go_num, by omega, hdr3, fun i hi => by
                    rcases Nat.lt_or_ge i k with h1 | h1
                    · exact HZ2.out i h1
                    · have : i = k := by omega
                      rw [this]; exact ⟨tailB_vec.2 (expZB_vec.1 HX.out), HLN.out, fun i hi => tailB_vec.2 (expZB_vec.1 (HZ3.out i (by omega)))⟩⟩
                  case measure => simp [intOf]; omega
            · have hd : (((gt P.conj k).length : Int) != (P.orders.length : Int) - 1 - k) = true := by simp; omega
              have HLN := Lib.hid hlen; clear hlen
              go_wp2
              go_quiet ((go_at_call 54; exact quiet_rd (l07Exponents_ok _ _ _ P.orders (gt P.powers k) k Any Any (hoi5.ext (grown_drewN _ _ _)) (hi2.ext (grown_drewN _ _ _)) HO0.out)))
              go_wp2
              go_ret
              exact ret_bool (grown_trans hgr (grown_drewN _ _ _)) (HB2.out HLN.out).symm
        · have hke : k = P.orders.length := by omega
          subst hke
          go_wp2
          go_ret
          refine ret_bool hgr (validB_true ?_).symm
          exact ⟨HLE.out, h6, HP.out, HC.out, fun i hi => primeB_true.1 (HZ.out i hi), fun i hi => tailB_vec.1 (HZ2.out i hi).1,
            fun i hi => ⟨(HZ2.out i hi).2.1, fun j hj => tailB_vec.1 ((HZ2.out i hi).2.2 j hj)⟩⟩

end Go.Proofs.Ytdfjgpioaomceaa
