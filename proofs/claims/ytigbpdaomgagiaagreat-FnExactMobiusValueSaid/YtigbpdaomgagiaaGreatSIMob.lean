/-
  impl: the Moebius values, the power of an integer, the number of generating lists.
-/
import Derived.Test.YtigbpdaomgagiaaGreatSMobLaw
import Derived.Test.YtigbpdaomgagiaaGreatSMaxLaw
import Derived.Test.YtigbpdaomgagiaaGreatK10
namespace Go.Proofs.YtigbpdaomgagiaaGreat
open Go.RowKit

set_option maxRecDepth 100000 in
set_option maxHeartbeats 2000000 in
theorem mobius_ok (ms : List Nat) (n : Nat) (hml : ms.length = n) (hms : ∀ m ∈ ms, m < 2 ^ 64) (hn : n ≤ 17408) (hne : 0 < n) (w : World) (B lb : Nat) (p mv : Value) (la : Option Addr) (lc : Nat) (hX : Box3 w lb p (.slice la n lc) mv) (hM : OwnV B 101 w mv (ms.map uV)) :
    Calls Tryz.prog 94 #[.pointer (some ⟨lb, 0, none⟩)] w (Ret w fun w' v => Own w.heap.size w' v (wmob ms)) := by
  obtain ⟨g, cap, rfl⟩ := uV_shape hM (by omega)
  have hcx : ∀ w', Ext w w' → w'.cell? ⟨lb, 2, none⟩ = some (.slice (some ⟨g, 0, none⟩) n cap) := fun w' h => by rw [← hml]; exact (hX.ext h).2.2.2.1
  have hM' : OwnV B 101 w (.slice (some ⟨g, 0, none⟩) n cap) (ms.map uV) := by rw [← hml]; exact hM
  have hlb := hX.1
  obtain ⟨hx0, hx1, hx2, hx3, hx4⟩ := id hX
  have HX := Lib.hid hX; clear hX hM
  go_enter Tryz.func94, Tryz.ntmps94
  go_wp2_with (first | (at_make; refine wp_make_ints rfl _ _ rfl w.heap.size n w.heap.size rfl _ rfl rfl rfl (by omega) (Nat.le_refl _) ?_; intro w1 ho1 hg1 hlt1) | fail)
  clear hx1 hx2 hx3 hx4
  go_loopw [4] (fun iv wr => ∃ k : Nat, iv = .int .i64 ((n : Int) - 1 - k) ∧ k ≤ n ∧ Ext w wr ∧ Own w.heap.size wr (.slice (some ⟨w.heap.size, 0, none⟩) n n) (vW ms k)) (fun iv _ => (intOf iv + 1).toNat)
  case atStart => exact ⟨0, by simp, by omega, hg1, by rw [vW_zero, hml]; exact ho1⟩
  case round =>
    clear ho1
    obtain ⟨k, rfl, hk, hg, hO⟩ := hrel
    by_cases hlt : k < n
    · obtain ⟨i, hi⟩ : ∃ i : Nat, i + k + 1 = n := ⟨n - 1 - k, by omega⟩
      have hik : ((n : Int) - 1 - k) = (i : Int) := by omega
      rw [hik]
      by_cases hk0 : k = 0
      · subst hk0
        have he : ((i : Int) == (n : Int) - 1) = true := by
          have : (i : Int) = (n : Int) - 1 := by omega
          simp [this]
        have hc := hO.cell i (by rw [vW_len]; omega)
        have hf := hO.frozen i
        obtain ⟨hO2, hg2⟩ := hO.store i 1
        rw [vW_last (by omega)] at hO2
        have hgx : Ext w (wr.setCell ⟨w.heap.size, i, none⟩ (.int .i64 1)) := grown_own hg hg2 (fun j hj hlt => by cases hj; omega)
        have HO := Lib.hid hO2
        clear hO hO2 hg2 hik
        go_wp2
        go_roundw
        case rel => exact ⟨1, by congr 1; omega, by omega, hgx, HO.out⟩
        case measure => simp [intOf] <;> omega
      · have he : ((i : Int) == (n : Int) - 1) = false := by
          have : ¬ (i : Int) = (n : Int) - 1 := by omega
          simpa using this
        have hset : (vW ms k).set i (nW ms i 0) = vW ms k := by
          refine ext_gt (by rw [List.length_set]) fun j hj => ?_
          rw [List.length_set, vW_len] at hj
          by_cases hij : i = j
          · subst hij
            rw [gt_set_eq _ _ _ (by rw [vW_len]; exact hj), gt_vW ms k hj, if_neg (by omega)]; rfl
          · rw [gt_set_ne _ _ _ _ hij]
        rw [← hset] at hO
        have HS := Lib.hid hset; clear hset
        have HI := Lib.hid hik; clear hik
        go_wp2
        clear he
        go_loopw [5] (fun jv wr => ∃ t : Nat, jv = .int .i64 ((i + 1 + t : Nat) : Int) ∧ t ≤ k ∧ Ext w wr ∧ Own w.heap.size wr (.slice (some ⟨w.heap.size, 0, none⟩) n n) ((vW ms k).set i (nW ms i t))) (fun jv _ => n - (intOf jv).toNat)
        case atStart => exact ⟨0, by go_num, by omega, hg, hO⟩
        case round =>
          clear hO hg
          obtain ⟨t, rfl, ht, hg, hO⟩ := hrel
          by_cases htk : t < k
          · obtain ⟨j, hj⟩ : ∃ j, j = i + 1 + t := ⟨_, rfl⟩
            rw [← hj]
            have hjn : (j : Int) < n := by omega
            have hin2 : (i : Int) < n := by omega
            have hc2 := hcx wr hg
            have hci := hg.cell (uV_cell hM' (show i < ms.length by omega)) (by simp)
            have hcj := hg.cell (uV_cell hM' (show j < ms.length by omega)) (by simp)
            have hand := andNot_zero (gt ms i) (gt ms j) (hms _ (gtMem (by omega))) (hms _ (gtMem (by omega)))
            have hyes := nW_yes (ms := ms) (i := i) (t := t)
            have hno := nW_no (ms := ms) (i := i) (t := t)
            have hval := gt_vW_set ms (i := i) (k := k) (t := t) (nW ms i t) (by omega) htk
            rw [← hj] at hyes hno hval
            have HJ := Lib.hid hj
            have hvi : gt ((vW ms k).set i (nW ms i t)) i = nW ms i t := gt_set_eq _ _ _ (by rw [vW_len]; omega)
            have hvc := hO.cell i (by rw [List.length_set, vW_len]; omega)
            have hvj := hO.cell j (by rw [List.length_set, vW_len]; omega)
            have hvf := hO.frozen i
            rw [hvi] at hvc
            rw [hval] at hvj
            obtain ⟨a, ha⟩ : ∃ a, a = gt ms i := ⟨_, rfl⟩
            obtain ⟨b, hb⟩ : ∃ b, b = gt ms j := ⟨_, rfl⟩
            rw [← ha, ← hb] at hyes hno
            rw [← ha] at hci hand
            rw [← hb] at hcj hand
            cases hin' : inM a b with
            | false =>
              rw [hin'] at hand
              have hO2 := hO
              rw [← hno hin'] at hO2
              have HO2 := Lib.hid hO2
              clear hyes hno hin' ha hb hvc hvj hval hvi hO hO2 hj
              go_wp2
              go_quiet (fail)
              rename_i nq _
              go_wp2
              go_roundw
              case rel => exact ⟨t + 1, by rw [HJ.out]; go_num, by omega, grown_trans hg (grown_drewN _ _ _), HO2.out.ext0 (grown_drewN _ _ _)⟩
              case measure => simp [intOf]; omega
            | true =>
              rw [hin'] at hand
              have hsum := hyes hin'
              obtain ⟨x, hx⟩ : ∃ x, x = nW ms i t := ⟨_, rfl⟩
              obtain ⟨y, hy⟩ : ∃ y, y = IntKind.i64.wrap (gt (mobL ms) j) := ⟨_, rfl⟩
              rw [← hx] at hvc hsum hO
              rw [← hy] at hvj hsum
              rw [w64] at hsum
              have HSM := Lib.hid hsum
              clear hyes hno hin' ha hb hval hvi hsum hx hy hj
              go_wp2
              go_quiet (fail)
              rename_i nq _
              obtain ⟨wq, hwq⟩ : ∃ wq, wq = wr.drewN nq := ⟨_, rfl⟩
              have hgq : Ext wr wq := by rw [hwq]; exact grown_drewN _ _ _
              rw [← hwq]
              clear hwq hand hci hcj hc2
              have hOq := hO.ext0 hgq
              have hvcq := hgq.cell hvc (by simp)
              have hvjq := hgq.cell hvj (by simp)
              have hfq := hOq.frozen i
              clear hvc hvj hvf hO
              obtain ⟨hO3, hgs⟩ := hOq.store i (wrap64 (x - y))
              have hgwq := grown_trans hg hgq
              have hgx : Ext w (wq.setCell ⟨w.heap.size, i, none⟩ (.int .i64 (wrap64 (x - y)))) := grown_own hgwq hgs (fun j hj hlt => by cases hj; omega)
              clear hgs
              go_wp2
              go_still_tail 10, (by kernel_rfl)
              change wpList _ _ _ _ _ wq.drew
              have hvcd : wq.drew.cell? ⟨w.heap.size, i, none⟩ = some (.int .i64 x) := hvcq
              have hvjd : wq.drew.cell? ⟨w.heap.size, j, none⟩ = some (.int .i64 y) := hvjq
              have hfD : wq.drew.frozen? ⟨w.heap.size, i, none⟩ = false := hfq
              have hgd := grown_trans hgx (grown_drew (wq.setCell ⟨w.heap.size, i, none⟩ (.int .i64 (wrap64 (x - y)))) none)
              have hOd := hO3.ext0 (grown_drew (wq.setCell ⟨w.heap.size, i, none⟩ (.int .i64 (wrap64 (x - y)))) none)
              clear hvcq hvjq hfq hOq
              go_wp2
              go_roundw
              case rel => exact ⟨t + 1, by rw [HJ.out]; go_num, by omega, hgd, by rw [HSM.out]; have := hOd; rw [List.set_set] at this; exact this⟩
              case measure => simp [intOf]; omega
          · have hte : t = k := by omega
            have hO2 := hO
            rw [hte, nW_end (by omega) hk0, vW_set ms (by omega)] at hO2
            have hnl : ¬ ((i + 1 + t : Nat) : Int) < n := by omega
            have HO2 := Lib.hid hO2; clear hO hO2
            go_wp2
            go_roundw
            case rel => exact ⟨k + 1, by congr 1; omega, by omega, hg, HO2.out⟩
            case measure => simp [intOf] <;> omega
    · have hke : k = n := by omega
      rw [hke, ← hml, vW_full, hml] at hO
      have hnl : ¬ (n : Int) - 1 - k ≥ 0 := by omega
      clear hke
      go_wp2
      go_ret
      exact ⟨_, rfl, hg, hO⟩

end Go.Proofs.YtigbpdaomgagiaaGreat
