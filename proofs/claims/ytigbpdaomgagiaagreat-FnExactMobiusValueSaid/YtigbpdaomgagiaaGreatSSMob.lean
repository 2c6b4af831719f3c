/-
  The reference: the Moebius values.
-/
import Derived.Test.YtigbpdaomgagiaaGreatSSMax
import Derived.Test.YtigbpdaomgagiaaGreatSTupLaw
namespace Go.Proofs.YtigbpdaomgagiaaGreat
open Go.RowKit

set_option maxRecDepth 100000 in
set_option maxHeartbeats 2000000 in
theorem l19Mobius_ok (ms : List Nat) (n : Nat) (hml : ms.length = n) (hms : ∀ m ∈ ms, m < 2 ^ 32) (hn : n ≤ 17408) (hne : 0 < n) (w : World) (sa : Option Addr) (sc : Nat) (mv : Value) (S : Nat → Prop) (hM : Ints S w mv (natI ms)) :
    Calls Tryz.prog 78 #[.agg #[.slice sa n sc, mv]] w (Ret w fun w' v => Own w.heap.size w' v (wmob ms)) := by
  obtain ⟨am, cm, hmv, _, _⟩ := hM.shape
  rw [natI_len, hml] at hmv
  subst hmv
  have hg0 : Ext w (w.alloc (.cells #[.slice sa n sc, .slice am n cm] 77)) := World.grownBy_alloc _ _ _
  have hb0 : ∀ w', Ext (w.alloc (.cells #[.slice sa n sc, .slice am n cm] 77)) w' → w'.cell? ⟨w.heap.size, 0, none⟩ = some (.slice sa n sc) ∧ w'.cell? ⟨w.heap.size, 1, none⟩ = some (.slice am n cm) := fun w' h =>
    ⟨h.cell (by rw [World.cell?_alloc_at _ _ _ _ rfl]; rfl) (by simp), h.cell (by rw [World.cell?_alloc_at _ _ _ _ rfl]; rfl) (by simp)⟩
  have hM0 := Ints.ext hM hg0
  have hs0 : (w.alloc (.cells #[.slice sa n sc, .slice am n cm] 77)).heap.size = w.heap.size + 1 := by simp
  have hx0 := (hb0 _ (Ext.refl _)).1
  have HB := Lib.hid (And.intro hb0 (And.intro hM0 hs0)); clear hb0 hM hM0 hs0
  go_enter Tryz.func78, Tryz.ntmps78
  go_wp2_with (first | (at_make; refine wp_make_ints rfl _ _ rfl (w.heap.size + 1) n (w.heap.size + 1) (by simp) _ rfl rfl rfl (by omega) (Nat.le_refl _) ?_; intro w1 ho1 hg1 hlt1) | fail)
  generalize hw0 : w.alloc (.cells #[.slice sa n sc, .slice am n cm] 77) = w0 at *
  clear hw0 hx0
  go_loopw [4] (fun iv wr => ∃ k : Nat, iv = .int .i64 ((n : Int) - 1 - k) ∧ k ≤ n ∧ Ext w0 wr ∧ Own (w.heap.size + 1) wr (.slice (some ⟨w.heap.size + 1, 0, none⟩) n n) (vW ms k)) (fun iv _ => (intOf iv + 1).toNat)
  case atStart => exact ⟨0, by simp, by omega, hg1, by rw [vW_zero, hml]; exact ho1⟩
  case round =>
    clear ho1
    obtain ⟨k, rfl, hk, hg, hO⟩ := hrel
    by_cases hlt : k < n
    · obtain ⟨i, hi⟩ : ∃ i : Nat, i + k + 1 = n := ⟨n - 1 - k, by omega⟩
      have hik : ((n : Int) - 1 - k) = (i : Int) := by omega
      rw [hik]
      by_cases hk0 : k = 0
      · subst hk0
        have he : ((i : Int) == (n : Int) - 1) = true := by
          have : (i : Int) = (n : Int) - 1 := by omega
          simp [this]
        have hc := hO.cell i (by rw [vW_len]; omega)
        have hf := hO.frozen i
        obtain ⟨hO2, hg2⟩ := hO.store i 1
        rw [vW_last (by omega)] at hO2
        have hsz := HB.out.2.2
        have hgx : Ext w0 (wr.setCell ⟨w.heap.size + 1, i, none⟩ (.int .i64 1)) := grown_own hg hg2 (fun j hj hlt => by cases hj; omega)
        have HO := Lib.hid hO2
        clear hO hO2 hg2 hik hsz
        go_wp2
        go_roundw
        case rel => exact ⟨1, by congr 1; omega, by omega, hgx, HO.out⟩
        case measure => simp [intOf] <;> omega
      · have he : ((i : Int) == (n : Int) - 1) = false := by
          have : ¬ (i : Int) = (n : Int) - 1 := by omega
          simpa using this
        have HI := Lib.hid hik; clear hik
        have HO := Lib.hid hO; clear hO
        go_wp2
        clear he
        obtain ⟨wo, rfl⟩ : ∃ wo : World, wo = wr := ⟨_, rfl⟩
        go_loopw [5, 6] (fun sv jv wr => ∃ t : Nat, sv = .int .i64 (sW ms i t) ∧ jv = .int .i64 ((i + 1 + t : Nat) : Int) ∧ t ≤ k ∧ Ext wo wr) (fun _ jv _ => n - (intOf jv).toNat)
        case atStart => exact ⟨0, by rw [sW_zero], by go_num, by omega, Ext.refl _⟩
        case round =>
          obtain ⟨t, rfl, rfl, ht, hgo⟩ := hrel
          have hg2 := grown_trans hg hgo
          have hO := HO.out.ext0 hgo
          by_cases htk : t < k
          · obtain ⟨j, hj⟩ : ∃ j, j = i + 1 + t := ⟨_, rfl⟩
            rw [← hj]
            have hjn : (j : Int) < n := by omega
            obtain ⟨hc0, hc1⟩ := HB.out.1 wr hg2
            have hin := l19In_ok ms hms wr (.slice sa n sc) (.slice am n cm) S i j (by omega) (by omega) (Ints.ext HB.out.2.1 hg2)
            have hyes := sW_yes (ms := ms) (i := i) (t := t)
            have hno := sW_no (ms := ms) (i := i) (t := t)
            have hval := gt_vW_at ms (i := i) (k := k) (t := t) (by omega) htk
            rw [← hj] at hyes hno hval
            have hvj := hO.cell j (by rw [vW_len]; omega)
            rw [hval] at hvj
            obtain ⟨s, hs⟩ : ∃ s, s = sW ms i t := ⟨_, rfl⟩
            obtain ⟨y, hy⟩ : ∃ y, y = IntKind.i64.wrap (gt (mobL ms) j) := ⟨_, rfl⟩
            obtain ⟨r, hr⟩ : ∃ r, r = inM (gt ms i) (gt ms j) := ⟨_, rfl⟩
            rw [← hs] at hyes hno ⊢
            rw [← hy] at hvj hyes
            rw [← hr] at hin hyes hno
            have HJ := Lib.hid (And.intro hj (And.intro hyes hno)); clear hj hyes hno hval hs hy hr hO
            go_wp2_with fail
            refine Calls.mono hin ?_
            rintro eI wI ⟨vI, rfl, hgI, rfl⟩
            clear hin hc0 hc1
            have hvjI := hgI.cell hvj (by simp)
            clear hvj
            cases r with
            | true =>
              go_wp2
              go_roundw
              case rel => exact ⟨t + 1, by rw [HJ.out.2.1 (by first | trivial | rfl)]; simp only [w64], by rw [HJ.out.1]; go_num, by omega, grown_trans hgo hgI⟩
              case measure => simp [intOf]; omega
            | false =>
              go_wp2
              go_roundw
              case rel => exact ⟨t + 1, by rw [HJ.out.2.2 (by first | trivial | rfl)], by rw [HJ.out.1]; go_num, by omega, grown_trans hgo hgI⟩
              case measure => simp [intOf]; omega
          · have hte : t = k := by omega
            have hnl : ¬ ((i + 1 + t : Nat) : Int) < n := by omega
            have hx := nW_sW ms i t
            rw [hte, nW_end (by omega) hk0, w64] at hx
            rw [hte]
            obtain ⟨s, hs⟩ : ∃ s, s = sW ms i k := ⟨_, rfl⟩
            rw [← hs] at hx ⊢
            have hc := hO.cell i (by rw [vW_len]; omega)
            have hf := hO.frozen i
            obtain ⟨hO2, hgs⟩ := hO.store i (wrap64 (- s))
            have hOn := hO2
            rw [hx, vW_set ms (by omega), ← hx] at hOn
            have hsz := HB.out.2.2
            have hgx : Ext w0 (wr.setCell ⟨w.heap.size + 1, i, none⟩ (.int .i64 (wrap64 (- s)))) := grown_own hg2 hgs (fun j hj hlt => by cases hj; omega)
            have HOn := Lib.hid hOn; clear hOn hO2 hgs hx hs hO hsz
            rw [hte] at hnl
            go_wp2
            go_roundw
            case rel => exact ⟨k + 1, by congr 1; omega, by omega, hgx, HOn.out⟩
            case measure => simp [intOf] <;> omega
    · have hke : k = n := by omega
      rw [hke, ← hml, vW_full, hml] at hO
      have hnl : ¬ (n : Int) - 1 - k ≥ 0 := by omega
      clear hke
      go_wp2
      go_ret
      exact ⟨_, rfl, grown_trans hg0 hg, hO.weak (by omega)⟩

end Go.Proofs.YtigbpdaomgagiaaGreat
