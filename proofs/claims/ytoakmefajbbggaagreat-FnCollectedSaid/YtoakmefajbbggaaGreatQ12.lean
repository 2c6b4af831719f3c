/-
  Collecting, the specification's side: spec.l09Positive, l09Run, l09Reducible, l09At.
  Collecting, the specification's side: spec.l09At, l09Step, l09Collect.
  Collecting, the specification's side: spec.l07Vector on a positive word, l09Collect, CollectWord.
  The reference's test of a sequence: spec.l10Element, l10Elements, l01Same2, l12Is, IsSubgroup, l13Two.
  spec.IsElement.
  spec.IsConsistent, PresentationRelators, Inverse, NormalWord at what is fit.
  Drawing: spec.l08Draw, l09Letters, l09Draw, l09Limit, DrawCollectWord.
-/
import Derived.Test.YtoakmefajbbggaaGreatQ1
import Derived.Test.YtoakmefajbbggaaGreatQ11
import Derived.Test.YtoakmefajbbggaaGreatQ2
import Derived.Test.YtoakmefajbbggaaGreatQ3
import Derived.Test.YtoakmefajbbggaaGreatQ4
import Derived.Test.YtoakmefajbbggaaGreatQ5
import Derived.Test.YtoakmefajbbggaaGreatQ7
namespace Go.Proofs.YtoakmefajbbggaaGreat
open Go.RowKit

set_option maxRecDepth 100000 in
set_option maxHeartbeats 2000000 in
theorem l09Positive_ok (n : Nat) (_ : n ≤ 1000) (w : World) (v : Value) (W : List Int) (S : Nat → Prop) (hv : Ints S w v W) (hl : W.length ≤ 1000000) :
    Calls Tryz.prog 58 #[.int .i64 (n : Int), v, .int .i64 64] w (Ret w fun _ r => IsB r (PosW n W ∧ W.length ≤ 64)) := by
  obtain ⟨av, cap, rfl, _, _⟩ := hv.shape
  obtain ⟨N, hN⟩ : ∃ N, N = W.length := ⟨_, rfl⟩
  rw [← hN] at hv hl ⊢
  have HV := Lib.hid (And.intro hv hN); clear hv hN
  go_enter Tryz.func58, Tryz.ntmps58
  by_cases h64 : 64 < N
  · have h64' : (64 : Int) < N := by omega
    go_wp2
    go_ret
    exact ⟨_, rfl, Ext.refl _, IsB.no (fun h => by have := h.2; omega)⟩
  have h64' : ¬ (64 : Int) < N := by omega
  go_wp2
  go_loopw [7] (fun iv wr => ∃ k : Nat, iv = .int .i64 (k : Int) ∧ k ≤ N ∧ Hid (∀ j, j < k → 1 ≤ gt W j ∧ gt W j ≤ (n : Int)) ∧ w = wr) (fun iv _ => N - (intOf iv).toNat)
  case atStart => exact ⟨0, rfl, by omega, Lib.hid (fun j hj => by omega), rfl⟩
  case round =>
    obtain ⟨k, rfl, hk, hall, rfl⟩ := hrel
    by_cases hlt : k < N
    · have hlt' : (k : Int) < N := by omega
      obtain ⟨b, off, hav, _, _, hc⟩ := Ints.at HV.out.1 k (by rw [← HV.out.2]; exact hlt)
      subst hav
      obtain ⟨x, hx⟩ : ∃ x, x = gt W k := ⟨_, rfl⟩
      rw [← hx] at hc
      have HX := Lib.hid hx; clear hx
      go_wp2_with fail
      refine Calls.mono (l01In_ok x 1 n w) ?_
      rintro _ _ ⟨rfl, rfl⟩
      cases hb : inB x 1 n with
      | true =>
        have hb2 := inB_true.1 hb
        have hnext : Hid (∀ j, j < k + 1 → 1 ≤ gt W j ∧ gt W j ≤ (n : Int)) := Lib.hid (fun j hj => by
          rcases Nat.lt_succ_iff_lt_or_eq.1 hj with h | h
          · exact hall.out j h
          · rw [h, ← HX.out]; exact hb2)
        clear hb hb2 hall
        go_wp2
        go_roundw
        case rel => exact ⟨k + 1, by go_num, by omega, hnext, by first | trivial | rfl⟩
        case measure => simp [intOf]; omega
      | false =>
        have hnot : ¬ PosW n W := fun h => by
          have h1 := h _ (gtMem (l := W) (i := k) (by rw [← HV.out.2]; exact hlt))
          rw [← HX.out, ← inB_true, hb] at h1
          cases h1
        have HN := Lib.hid hnot; clear hnot hb hall
        go_wp2
        go_ret
        exact ⟨_, rfl, Ext.refl _, IsB.no (fun h => HN.out h.1)⟩
    · have hyes : PosW n W := fun l hl => by
        obtain ⟨j, hj, rfl⟩ := mem_gt hl
        exact hall.out j (by rw [← HV.out.2] at hj; omega)
      have HY := Lib.hid hyes; clear hyes hall
      have hnl : ¬ (k : Int) < (N : Int) := by omega
      go_wp2
      go_ret
      exact ⟨_, rfl, Ext.refl _, IsB.yes ⟨HY.out, by omega⟩⟩

/-- the length of the run of equal letters from an index on -/
def RunL (W : List Int) (t m : Nat) : Prop := t + m ≤ W.length ∧ (∀ s, t ≤ s → s < t + m → gt W s = gt W t) ∧ (t + m < W.length → gt W (t + m) ≠ gt W t)

set_option maxRecDepth 100000 in
set_option maxHeartbeats 2000000 in
theorem l09Run_ok (w : World) (v : Value) (W : List Int) (t : Nat) (S : Nat → Prop) (hv : Ints S w v W) (ht : t < W.length) (hl : W.length ≤ 100000) :
    Calls Tryz.prog 235 #[v, .int .i64 (t : Int)] w (Ret w fun _ r => ∃ m : Nat, r = .int .i64 (m : Int) ∧ m ≤ 100000 ∧ RunL W t m) := by
  obtain ⟨av, cap, rfl, _, _⟩ := hv.shape
  obtain ⟨N, hN⟩ : ∃ N, N = W.length := ⟨_, rfl⟩
  rw [← hN] at hv hl ht ⊢
  have HV := Lib.hid (And.intro hv hN); clear hv hN
  go_enter Tryz.func235, Tryz.ntmps235
  go_wp2
  go_loopw [5] (fun iv wr => ∃ k : Nat, iv = .int .i64 (k : Int) ∧ t ≤ k ∧ k ≤ N ∧ Hid (∀ s, t ≤ s → s < k → gt W s = gt W t) ∧ Ext w wr) (fun iv _ => N - (intOf iv).toNat)
  case atStart => exact ⟨t, rfl, by omega, by omega, Lib.hid (fun j h1 h2 => by omega), Ext.refl _⟩
  case round =>
    obtain ⟨k, rfl, htk, hk, hall, hg⟩ := hrel
    have hwr : IntKind.i64.wrap ((k : Int) - (t : Int)) = ((k - t : Nat) : Int) := by rw [show (k : Int) - (t : Int) = ((k - t : Nat) : Int) by omega]; exact IntWalk.i64_in _ (by omega)
    by_cases hlt : k < N
    · have hlt' : (k : Int) < N := by omega
      obtain ⟨b, off, hav, _, _, hck⟩ := Ints.at (Ints.ext HV.out.1 hg) k (by rw [← HV.out.2]; exact hlt)
      subst hav
      obtain ⟨b', off', hav, _, _, hct⟩ := Ints.at (Ints.ext HV.out.1 hg) t (by rw [← HV.out.2]; exact ht)
      obtain ⟨rfl, rfl⟩ : b = b' ∧ off = off' := by cases hav; exact ⟨rfl, rfl⟩
      clear hav
      obtain ⟨x, hx⟩ : ∃ x, x = gt W k := ⟨_, rfl⟩
      obtain ⟨y, hy⟩ : ∃ y, y = gt W t := ⟨_, rfl⟩
      rw [← hx] at hck
      rw [← hy] at hct
      have HX := Lib.hid (And.intro hx (And.intro hy hwr)); clear hx hy hwr
      have ht' : (t : Int) < N := by omega
      by_cases hxy : x = y
      · have hnext : Hid (∀ j, t ≤ j → j < k + 1 → gt W j = gt W t) := Lib.hid (fun j h1 h2 => by
          rcases Nat.lt_succ_iff_lt_or_eq.1 h2 with h | h
          · exact hall.out j h1 h
          · rw [h, ← HX.out.1, hxy, HX.out.2.1])
        subst hxy
        clear hall
        go_wp2
        go_quiet (fail)
        go_wp2
        go_roundw
        case rel => exact ⟨k + 1, by go_num, by omega, by omega, hnext, grown_trans hg (grown_drewN _ _ _)⟩
        case measure => simp [intOf]; omega
      · have hnb : (x == y) = false := by simpa using hxy
        have hrun : RunL W t (k - t) := ⟨by rw [← HV.out.2]; omega, fun s h1 h2 => hall.out s h1 (by omega), fun _ => by rw [show t + (k - t) = k by omega, ← HX.out.1, ← HX.out.2.1]; exact hxy⟩
        have HR := Lib.hid hrun; clear hrun hall hxy
        go_wp2
        go_quiet (fail)
        have hwr := HX.out.2.2
        go_wp2
        go_ret
        exact ⟨_, rfl, grown_trans hg (grown_drewN _ _ _), _, rfl, by omega, HR.out⟩
    · have hnl : ¬ (k : Int) < (N : Int) := by omega
      have hd1 : decide ((k : Int) < (N : Int)) = false := decide_eq_false hnl
      have hrun : RunL W t (k - t) := ⟨by rw [← HV.out.2]; omega, fun s h1 h2 => hall.out s h1 (by omega), fun h => by rw [← HV.out.2] at h; omega⟩
      have HR := Lib.hid (And.intro hrun hwr); clear hrun hall hwr
      go_wp2
      go_quiet (fail)
      have hwr := HR.out.2
      go_wp2
      go_ret
      exact ⟨_, rfl, grown_trans hg (grown_drewN _ _ _), _, rfl, by omega, HR.out.1⟩

theorem RunL.red {W : List Int} {t m : Nat} (h : RunL W t m) (o : Nat) : (o ≤ m) ↔ (t + o ≤ W.length ∧ ∀ s, t ≤ s → s < t + o → gt W s = gt W t) := by
  refine ⟨fun ho => ⟨by have := h.1; omega, fun s h1 h2 => h.2.1 s h1 (by omega)⟩, fun ⟨h1, h2⟩ => ?_⟩
  rcases Nat.lt_or_ge m o with hm | hm
  · exact absurd (h2 (t + m) (by omega) (by omega)) (h.2.2 (by omega))
  · exact hm

set_option maxRecDepth 100000 in
set_option maxHeartbeats 4000000 in
theorem l09Reducible_ok (P : Pr) (hP : Valid P) (w : World) (pv v : Value) (W : List Int) (t : Nat) (Sp S : Nat → Prop) (hpv : PresV Sp w pv P) (hv : Ints S w v W) (hW : PosW P.orders.length W) (ht : t < W.length) (hl : W.length ≤ 100000) :
    Calls Tryz.prog 190 #[pv, v, .int .i64 (t : Int)] w (Ret w fun _ r => IsB r (RedB P W t)) := by
  obtain ⟨vo, vp, vc, rfl, h3⟩ := hpv
  have hp0 := PresP.box h3 28
  have hg0 : Ext w (w.alloc (.cells #[vo, vp, vc] 28)) := World.grownBy_alloc _ _ _
  have hv0 := Ints.ext hv hg0
  obtain ⟨av, cap, rfl, hcap, _⟩ := hv.shape
  obtain ⟨a, m, hx, han, hm, hm2, hm7, hom⟩ := hW.letter hP ht
  generalize hwz : (w.alloc (.cells #[vo, vp, vc] 28)) = wz at *
  have hrun := fun w' (hg : Ext wz w') => l09Run_ok w' _ W t S (Ints.ext hv0 hg) ht hl
  obtain ⟨N, hN⟩ : ∃ N, N = W.length := ⟨_, rfl⟩
  rw [← hN] at hv0 hl hcap ht hrun ⊢
  have hred : RedB P W t ↔ (t + 1 < N ∧ gt W (t + 1) < gt W t) ∨ (t + m ≤ N ∧ ∀ s, t ≤ s → s < t + m → gt W s = gt W t) := by unfold RedB; rw [← hN, hom]
  have HV := Lib.hid (And.intro hv0 (And.intro hN (And.intro hred (And.intro hx (And.intro hm (And.intro han (And.intro hp0 (And.intro hrun hg0)))))))); clear hv hv0 hN hred hx hm han hp0 hW hom h3 hrun hg0
  have ht' : (t : Int) < N := by omega
  go_enter Tryz.func190, Tryz.ntmps190
  go_upto_region 1 with fail
  try rw [hwz]
  clear hwz
  go_cut [23] (fun b wx => ∃ r : Bool, b = .bool r ∧ Hid (r = true ↔ (t + 1 < N ∧ gt W (t + 1) < gt W t)) ∧ Ext wz wx)
  case' rest =>
    obtain ⟨r, rfl, hr, hg⟩ := hcut
    cases r with
    | true =>
      have hyes := HV.out.2.2.1.2 (.inl (hr.out.1 rfl))
      have HY := Lib.hid hyes; clear hyes hr
      go_wp2
      go_ret
      exact ⟨_, rfl, grown_trans HV.out.2.2.2.2.2.2.2.2 hg, IsB.yes HY.out⟩
    | false =>
      have hno : ¬ (t + 1 < N ∧ gt W (t + 1) < gt W t) := fun h => by have := hr.out.2 h; cases this
      have HNO := Lib.hid hno; clear hno hr
      obtain ⟨ao, capo, hco, hoi⟩ := (HV.out.2.2.2.2.2.2.1.ext hg).ordAt
      obtain ⟨ob, oo, hoe, _, _, hcm⟩ := Ints.at hoi a HV.out.2.2.2.2.2.1
      subst hoe
      rw [HV.out.2.2.2.2.1] at hcm
      obtain ⟨vb, vo, hve, _, _, hct⟩ := Ints.at (Ints.ext HV.out.1 hg) t (by rw [← HV.out.2.1]; exact ht)
      subst hve
      rw [HV.out.2.2.2.1] at hct
      obtain ⟨n, hn⟩ : ∃ n, n = P.orders.length := ⟨_, rfl⟩
      rw [← hn] at hco
      have han : (a : Int) < n := by have := HV.out.2.2.2.2.2.1; omega
      have hn6 : n ≤ 6 := by rw [hn]; exact hP.n6
      have HN := Lib.hid hn; clear hn hoi
      have hxa : (a : Int) + 1 - 1 = (a : Int) := by omega
      have hrn := HV.out.2.2.2.2.2.2.2.1
      have f1_ : ∀ w', Ext wc w' → w'.cell? ⟨w.heap.size, 0, none⟩ = some (.slice (some ⟨ob, oo, none⟩) n capo) := fun w' h => h.cell hco (by simp)
      have f2_ : ∀ w', Ext wc w' → w'.cell? ⟨ob, oo + a, none⟩ = some (.int .i64 (m : Int)) := fun w' h => h.cell hcm (by simp)
      have f3_ : ∀ w', Ext wc w' → w'.cell? ⟨vb, vo + t, none⟩ = some (.int .i64 ((a : Int) + 1)) := fun w' h => h.cell hct (by simp)
      have hrr := fun w' (h : Ext wc w') => hrn w' (grown_trans hg h)
      clear hco hcm hct hrn
      go_wp2
      have hw33 : IntKind.i64.wrap (a : Int) = (a : Int) := IntWalk.i64_in _ (by omega)
      go_region_held3 (fun w' => Ext wc w') (first | exact grown_drew _ _ | assumption)
        (first
          | (go_at_call 235; refine Calls.mono (Calls.rel (w0 := wc) (by first | assumption | exact grown_drew _ _) (hrr _ (by first | assumption | exact grown_drew _ _))) ?_; rintro eA wA ⟨vA, rfl, hgA, hgA2, rm, rfl, hrm, hrl⟩))
      all_goals
        have hr2 := hrl.red m
        rw [← HV.out.2.1] at hr2
        have hfin : decide (m ≤ rm) = true ↔ RedB P W t := by
          rw [decide_eq_true_eq, HV.out.2.2.1, ← hr2]
          exact ⟨fun h => .inr h, fun h => h.elim (fun h => absurd h HNO.out) (fun h => h)⟩
        have HFN := Lib.hid hfin; clear hfin hrl hr2 hw33
        go_wp2
        go_ret
        exact ⟨_, rfl, grown_trans HV.out.2.2.2.2.2.2.2.2 (grown_trans hg hgA), _, rfl, HFN.out⟩
  by_cases h1 : t + 1 < N
  · have h1' : (t : Int) + 1 < N := by omega
    obtain ⟨vb, vo, hve, _, _, hct⟩ := Ints.at HV.out.1 t (by rw [← HV.out.2.1]; exact ht)
    subst hve
    obtain ⟨vb', vo', hve, _, _, hcy⟩ := Ints.at HV.out.1 (t + 1) (by rw [← HV.out.2.1]; exact h1)
    obtain ⟨rfl, rfl⟩ : vb = vb' ∧ vo = vo' := by cases hve; exact ⟨rfl, rfl⟩
    clear hve
    obtain ⟨x, hx⟩ : ∃ x, x = gt W t := ⟨_, rfl⟩
    obtain ⟨y, hy⟩ : ∃ y, y = gt W (t + 1) := ⟨_, rfl⟩
    rw [← hx] at hct
    rw [← hy] at hcy
    have hiff : decide (y < x) = true ↔ (t + 1 < N ∧ gt W (t + 1) < gt W t) := by rw [decide_eq_true_eq, hx, hy]; exact ⟨fun h => ⟨h1, h⟩, fun h => h.2⟩
    have HI := Lib.hid hiff; clear hiff hx hy
    go_wp2
    go_quiet (fail)
    go_wp2
    go_meet
    exact ⟨_, rfl, Lib.hid HI.out, grown_drewN _ _ _⟩
  · have h1' : ¬ (t : Int) + 1 < N := by omega
    have hw1 : IntKind.i64.wrap ((t : Int) + 1) = (t : Int) + 1 := IntWalk.i64_in _ (by omega)
    have hd1 : decide ((t : Int) + 1 < N) = false := decide_eq_false h1'
    go_wp2
    go_quiet (fail)
    go_wp2
    go_meet
    exact ⟨false, rfl, Lib.hid ⟨fun h => (by cases h), fun h => absurd h.1 h1⟩, grown_drewN _ _ _⟩

end Go.Proofs.YtoakmefajbbggaaGreat
namespace Go.Proofs.YtoakmefajbbggaaGreat
open Go.RowKit

set_option maxRecDepth 100000 in
set_option maxHeartbeats 4000000 in
theorem l09At_ok (P : Pr) (hP : Valid P) (w : World) (pv v : Value) (W : List Int) (Sp S : Nat → Prop) (hpv : PresV Sp w pv P) (hv : Ints S w v W) (hW : PosW P.orders.length W) (hl : W.length ≤ 100000) :
    Calls Tryz.prog 121 #[pv, v] w (Ret w fun _ r => ∃ x : Int, r = .int .i64 x ∧ FirstR P W x) := by
  obtain ⟨vo, vp, vc, rfl, h3⟩ := hpv
  have hX := Box3.made w 28 vo vp vc
  have hg0 : Ext w (w.alloc (.cells #[vo, vp, vc] 28)) := World.grownBy_alloc _ _ _
  generalize hwz : (w.alloc (.cells #[vo, vp, vc] 28)) = wz at *
  obtain ⟨av, cap, rfl, _, _⟩ := hv.shape
  have hred := fun w' (hg : Ext wz w') t (ht : t < W.length) => l09Reducible_ok P hP w' (.agg #[vo, vp, vc]) _ W t Sp S ⟨vo, vp, vc, rfl, h3.ext (grown_trans hg0 hg)⟩ (Ints.ext hv (grown_trans hg0 hg)) hW ht hl
  obtain ⟨N, hN⟩ : ∃ N, N = W.length := ⟨_, rfl⟩
  rw [← hN] at hred hl ⊢
  have HV := Lib.hid (And.intro hred (And.intro hN (And.intro hX hg0))); clear hred hN hv hW hX hg0 h3
  go_enter Tryz.func121, Tryz.ntmps121
  go_wp2
  go_loopw [5] (fun iv wr => ∃ k : Nat, iv = .int .i64 (k : Int) ∧ k ≤ N ∧ Hid (∀ j, j < k → ¬ RedB P W j) ∧ Ext wz wr) (fun iv _ => N - (intOf iv).toNat)
  case atStart => exact ⟨0, rfl, by omega, Lib.hid (fun j hj => by omega), Ext.refl _⟩
  case round =>
    clear hwz
    obtain ⟨k, rfl, hk, hall, hg⟩ := hrel
    by_cases hlt : k < N
    · have hlt' : (k : Int) < N := by omega
      have c0 := (HV.out.2.2.1.ext hg).2.1
      have c1 := (HV.out.2.2.1.ext hg).2.2.1
      have c2 := (HV.out.2.2.1.ext hg).2.2.2.1
      go_wp2_with fail
      clear c0 c1 c2
      refine Calls.mono (HV.out.1 wr hg k hlt) ?_
      rintro e1 w1 ⟨v1, rfl, hg1, b, rfl, hb⟩
      cases b with
      | true =>
        have hf : FirstR P W (k : Int) := .inr ⟨k, rfl, by rw [← HV.out.2.1]; exact hlt, hb.1 rfl, hall.out⟩
        have HF := Lib.hid hf; clear hf hb hall
        go_wp2
        go_ret
        exact ⟨_, rfl, grown_trans HV.out.2.2.2 (grown_trans hg hg1), _, rfl, HF.out⟩
      | false =>
        have hnot : ¬ RedB P W k := fun h => by have := hb.2 h; cases this
        have hnext : Hid (∀ j, j < k + 1 → ¬ RedB P W j) := Lib.hid (fun j hj => by
          rcases Nat.lt_succ_iff_lt_or_eq.1 hj with h | h
          · exact hall.out j h
          · rw [h]; exact hnot)
        clear hnot hb hall
        go_wp2
        go_roundw
        case rel => exact ⟨k + 1, by go_num, by omega, hnext, grown_trans hg hg1⟩
        case measure => simp [intOf]; omega
    · have hf : FirstR P W (-1) := .inl ⟨rfl, fun j hj => hall.out j (by rw [← HV.out.2.1] at hj; omega)⟩
      have HF := Lib.hid hf; clear hf hall
      have hnl : ¬ (k : Int) < (N : Int) := by omega
      go_wp2
      go_ret
      exact ⟨_, rfl, grown_trans HV.out.2.2.2 hg, _, rfl, HF.out⟩

set_option maxRecDepth 100000 in
set_option maxHeartbeats 8000000 in
theorem l09Step_ok (P : Pr) (hP : Valid P) (w : World) (pv v : Value) (W : List Int) (t : Nat) (Sp S : Nat → Prop) (hpv : PresV Sp w pv P) (hv : Ints S w v W) (hW : PosW P.orders.length W) (ht : t < W.length) (hrd : RedB P W t) (hl : W.length ≤ 600) :
    Calls Tryz.prog 123 #[pv, v, .int .i64 (t : Int)] w (Ret w fun w' r => Own w.heap.size w' r (stepW P W t)) := by
  have hn6 := hP.n6
  obtain ⟨vo, vp, vc, rfl, h3w⟩ := hpv
  have hg0 : Ext w (w.alloc (.cells #[vo, vp, vc] 28)) := World.grownBy_alloc _ _ _
  have h3 := h3w.ext hg0
  have hX := Box3.made w 28 vo vp vc
  have hv0 := Ints.ext hv hg0
  have hs0 : (w.alloc (.cells #[vo, vp, vc] 28)).heap.size = w.heap.size + 1 := by simp
  generalize hwz : (w.alloc (.cells #[vo, vp, vc] 28)) = wz at *
  obtain ⟨av, cap, rfl, hcap, _⟩ := hv.shape
  obtain ⟨j, m, hx, hjn, hm, hm2, hm7, hom⟩ := hW.letter hP ht
  have hco := hX.2.1
  have hcp := hX.2.2.1
  have hcc := hX.2.2.2.1
  obtain ⟨ao, co, rfl, _, _⟩ := h3.o.shape
  obtain ⟨ap, cp, rfl, _⟩ := Sl.shape h3.p
  obtain ⟨ac, cc, rfl, _⟩ := Sl.shape h3.c
  obtain ⟨vb, vo, hve, _, _, hct⟩ := Ints.at hv0 t ht
  subst hve
  rw [hx] at hct
  have hhd := head_ints hv0 t (by omega)
  have htk : (W.take t).length = t := by rw [List.length_take]; omega
  have hrh : ∀ w', (Instr.slice 24 (.slice (some ⟨vb, vo, none⟩) W.length cap) none (some (.int .i64 (t : Int))) none).run Tryz.prog w' = .ok (.slice (some ⟨vb, vo, none⟩) t cap) w' := fun w' => by
    have h := run_head w' (some ⟨vb, vo, none⟩) W.length cap (t : Int) (by omega) (by omega)
    rw [Int.toNat_natCast] at h; exact h
  have hown := l01Own_ok wz _ (W.take t) S hhd (by rw [htk]; omega)
  have ht' : (t : Int) < W.length := by omega
  by_cases hc : t + 1 < W.length ∧ gt W (t + 1) < gt W t
  · have hst : stepW P W t = W.take t ++ [gt W (t + 1)] ++ nWord (gt (gt P.conj (gt W (t + 1) - 1).toNat) ((gt W t - 1).toNat - (gt W (t + 1) - 1).toNat - 1)) P.orders.length ++ W.drop (t + 2) := by unfold stepW; rw [if_pos hc]
    obtain ⟨i, mi, hy, hin, _⟩ := hW.letter hP hc.1
    obtain ⟨vb', vo', hve, _, _, hcy⟩ := Ints.at hv0 (t + 1) hc.1
    obtain ⟨rfl, rfl⟩ : vb = vb' ∧ vo = vo' := by cases hve; exact ⟨rfl, rfl⟩
    clear hve
    rw [hy] at hcy
    have hij : i < j := by have := hc.2; omega
    rw [hy, hx, show ((i : Int) + 1 - 1).toNat = i by omega, show ((j : Int) + 1 - 1).toNat = j by omega] at hst
    have h1' : (t : Int) + 1 < W.length := by have := hc.1; omega
    obtain ⟨k, hk⟩ : ∃ k, j = i + k + 1 := ⟨j - i - 1, by omega⟩
    rw [show j - i - 1 = k by omega] at hst
    have hcvi := hP.cv i (by omega)
    have hkl : k < (gt P.conj i).length := by rw [hcvi.1]; omega
    obtain ⟨cb, c_, ca2, cp2, hce, _, _, hcc2, hrc⟩ := Rows3.at h3.c i (by rw [hP.cl]; omega)
    subst hce
    obtain ⟨db, d_, da2, dp2, hde, _, _, hcc3, hrd3⟩ := Rows2.at hrc k hkl
    subst hde
    have hEV : Vec P.orders (gt (gt P.conj i) k) := (hcvi.2 k (by omega)).1
    obtain ⟨E, hE⟩ : ∃ E, E = gt (gt P.conj i) k := ⟨_, rfl⟩
    rw [← hE] at hcc3 hrd3 hEV hst
    have hw := nWord_vec_len hP hEV
    have htl := subSl_ints hv0 (t + 2) W.length (by omega) (Nat.le_refl _)
    rw [List.take_length] at htl
    obtain ⟨sa, sc, hsv, _, _⟩ := htl.shape
    have hrt : ∀ w', (Instr.slice 24 (.slice (some ⟨vb, vo, none⟩) W.length cap) (some (.int .i64 ((t : Int) + 2))) none none).run Tryz.prog w' = .ok (.slice sa (W.drop (t + 2)).length sc) w' := fun w' => by
      have h := run_tail w' (some ⟨vb, vo, none⟩) W.length cap ((t : Int) + 2) (by omega) (by omega)
      rw [show ((t : Int) + 2).toNat = t + 2 by omega, hsv] at h; exact h
    rw [hsv] at htl
    have hdl : (W.drop (t + 2)).length ≤ 600 := by rw [List.length_drop]; omega
    have hwl : (nWord E E.length) = nWord E P.orders.length := by rw [hEV.1]
    obtain ⟨d, hd⟩ : ∃ d, d = k + 1 := ⟨_, rfl⟩
    have hd1 : IntKind.i64.wrap ((j : Int) - (i : Int)) = (d : Int) := by rw [show (j : Int) - (i : Int) = (d : Int) by omega]; exact IntWalk.i64_in _ (by omega)
    have hd2 : IntKind.i64.wrap ((d : Int) - 1) = (k : Int) := by rw [show (d : Int) - 1 = (k : Int) by omega]; exact IntWalk.i64_in _ (by omega)
    have hin6 : i ≤ 6 := by omega
    have hic : (i : Int) < P.conj.length := by rw [hP.cl]; omega
    have hkc : (k : Int) < (gt P.conj i).length := by omega
    have hlt2 : (i : Int) + 1 < (j : Int) + 1 := by omega
    have f1_ : ∀ w', Ext wz w' → w'.cell? ⟨w.heap.size, 2, none⟩ = some (.slice (some ⟨cb, c_, none⟩) P.conj.length cc) := fun w' h => h.cell hcc (by simp)
    have f2_ : ∀ w', Ext wz w' → w'.cell? ⟨cb, c_ + i, none⟩ = some (.slice (some ⟨db, d_, none⟩) (gt P.conj i).length cp2) := fun w' h => h.cell hcc2 (by simp)
    have f3_ : ∀ w', Ext wz w' → w'.cell? ⟨db, d_ + k, none⟩ = some (.slice da2 E.length dp2) := fun w' h => h.cell hcc3 (by simp)
    have f4_ : ∀ w', Ext wz w' → w'.cell? ⟨vb, vo + t, none⟩ = some (.int .i64 ((j : Int) + 1)) := fun w' h => h.cell hct (by simp)
    have f5_ : ∀ w', Ext wz w' → w'.cell? ⟨vb, vo + (t + 1), none⟩ = some (.int .i64 ((i : Int) + 1)) := fun w' h => h.cell hcy (by simp)
    have HD := Lib.hid (And.intro hd1 (And.intro hd2 (And.intro f1_ (And.intro f2_ (And.intro f3_ (And.intro f4_ f5_)))))); clear hd1 hd2 hd hk f1_ f2_ f3_ f4_ f5_
    have HX := Lib.hid (And.intro hst (And.intro hw (And.intro hwl (And.intro hrd3 (And.intro htl (And.intro htk (And.intro hEV (And.intro hg0 hdl))))))))
    clear hw hwl hrd3 htl hhd htk hEV hsv hst hc hrd hx hW hE hm hom h3 h3w hrc hcvi hkl hct hcy hco hcp hcc hcc2 hcc3 hX hv hv0 hg0 hdl
    have HO := Lib.hid hown; clear hown
    obtain ⟨dl, hdl⟩ : ∃ dl, dl = (W.drop (t + 2)).length := ⟨_, rfl⟩
    rw [← hdl] at hrt
    have HL := Lib.hid hdl; clear hdl
    obtain ⟨M, hM⟩ : ∃ M, M = W.length := ⟨_, rfl⟩
    rw [← hM] at ht' h1' hl hcap hrh hrt ht ⊢
    have hMb : (M : Int) ≤ 600 := by omega
    clear hM
    go_enter Tryz.func123, Tryz.ntmps123
    go_wp2_with fail
    clear hwz hrh
    refine Calls.mono HO.out ?_
    rintro e1 w1 ⟨v1, rfl, hg1, hO1⟩
    have hct := HD.out.2.2.2.2.2.1 w1 hg1
    have hcy := HD.out.2.2.2.2.2.2 w1 hg1
    have hi1 := hO1.ints (by rw [HX.out.2.2.2.2.2.1]; omega)
    obtain ⟨a1, c1, hv1, _, _⟩ := hi1.shape
    rw [HX.out.2.2.2.2.2.1] at hv1
    subst hv1
    have HO1 := Lib.hid (And.intro hO1 hg1); clear hO1 hg1 hi1
    go_wp2
    go_quiet (fail)
    rename_i nq _
    obtain ⟨wq, hwq⟩ : ∃ wq, wq = w1.drewN nq := ⟨_, rfl⟩
    have hgq : Ext w1 wq := by rw [hwq]; exact grown_drewN _ _ _
    rw [← hwq]
    clear hwq
    have hctq := hgq.cell hct (by simp)
    have hcyq := hgq.cell hcy (by simp)
    clear hct hcy
    go_wp2
    go_quiet (fail)
    obtain ⟨w2, hw2⟩ : ∃ w2, w2 = wq.drewN nq := ⟨_, rfl⟩
    have hg2 : Ext wq w2 := by rw [hw2]; exact grown_drewN _ _ _
    have hO2 : Own wz.heap.size w2 (.slice a1 t c1) (W.take t) := by rw [hw2]; exact (HO1.out.1.ext0 hgq).ext0 (grown_drewN _ _ _)
    rw [← hw2]
    clear hw2 hctq hcyq
    have hgz2 := grown_trans HO1.out.2 (grown_trans hgq hg2)
    go_wp2_with (first
      | (at_builtin
         refine wp_app_ints rfl _ _ rfl wz.heap.size _ _ rfl (hO2.ext0 (World.grownBy_alloc _ _ _)) _ _ rfl Any (ints_lit w2 _) (by rw [HX.out.2.2.2.2.2.1]; simp; omega) (by have := hgz2.size; simp; omega) ?_
         intro v3 w3 hO3 hg3 _
         have hgz3 : Ext wz w3 := grown_own hgz2 (grown_trans (grown_of_ext _ (World.grownBy_alloc _ _ _)) hg3) (fun b hb hlt => by have := (hO2.lt b hb).1; omega)
         have hi3 := hO3.ints (by simp; omega)
         obtain ⟨a3, n3, c3, hv3⟩ : ∃ a n c, v3 = .slice a n c := by obtain ⟨a, c, e, _⟩ := hi3.shape; exact ⟨_, _, _, e⟩
         subst hv3
         have k3 := HD.out.2.2.1 w3 hgz3
         have k4 := HD.out.2.2.2.1 w3 hgz3
         have k5 := HD.out.2.2.2.2.1 w3 hgz3
         have kd1 := HD.out.1
         have kd2 := HD.out.2.1
         have HO3 := Lib.hid (And.intro hO3 hgz3); clear hO3 hi3 hg3 hO2 hg2)
      | fail)
    clear k3 k4 k5 kd1 kd2
    refine Calls.mono (l07Word_ok w3 _ E Any (Ints.sub (Ints.ext HX.out.2.2.2.1 HO3.out.2) (fun _ _ _ => trivial)) (by rw [HX.out.2.2.2.2.2.2.1.1]; exact hn6) HX.out.2.1.2) ?_
    rintro e4 w4 ⟨v4, rfl, hg4, hO4⟩
    rw [HX.out.2.2.1] at hO4
    have hi4 := hO4.ints (by have := HX.out.2.1.1; omega)
    obtain ⟨a4, n4, c4, hv4⟩ : ∃ a n c, v4 = .slice a n c := by obtain ⟨a, c, e, _⟩ := hi4.shape; exact ⟨_, _, _, e⟩
    subst hv4
    have hO3' := HO3.out.1.ext0 hg4
    have hgz4 := grown_trans HO3.out.2 hg4
    have H4 := Lib.hid (And.intro hO3' (And.intro hi4 hgz4)); clear hO3' hi4 hO4
    go_wp2_with (first
      | (at_builtin
         refine wp_app_ints rfl _ _ rfl wz.heap.size _ _ rfl H4.out.1 _ _ rfl Any (Ints.sub H4.out.2.1 (fun _ _ _ => trivial)) (by have := HX.out.2.1.1; have := HX.out.2.2.2.2.2.1; simp only [List.length_append, List.length_singleton]; omega) H4.out.2.2.size ?_
         intro v5 w5 hO5 hg5 _
         have hgz5 : Ext wz w5 := grown_own H4.out.2.2 hg5 (fun b hb hlt => by have := (H4.out.1.lt b hb).1; omega)
         have hi5 := hO5.ints (by have := HX.out.2.1.1; have := HX.out.2.2.2.2.2.1; simp only [List.length_append, List.length_singleton]; omega)
         obtain ⟨a5, n5, c5, hv5⟩ : ∃ a n c, v5 = .slice a n c := by obtain ⟨a, c, e, _⟩ := hi5.shape; exact ⟨_, _, _, e⟩
         subst hv5
         have H5 := Lib.hid (And.intro hO5 hgz5); clear hO5 hi5 hg5)
      | (at_builtin
         have htl := Ints.ext HX.out.2.2.2.2.1 H5.out.2
         rw [← HL.out] at htl
         refine wp_app_ints rfl _ _ rfl wz.heap.size _ _ rfl H5.out.1 _ _ rfl S htl (by have := HX.out.2.1.1; have := HX.out.2.2.2.2.2.1; have := HX.out.2.2.2.2.2.2.2.2; simp only [List.length_append, List.length_singleton]; omega) H5.out.2.size ?_
         intro v6 w6 hO6 hg6 _
         have hgz6 : Ext wz w6 := grown_own H5.out.2 hg6 (fun b hb hlt => by have := (H5.out.1.lt b hb).1; omega)
         rw [← HX.out.1] at hO6
         have hfin := hO6.weak (show w.heap.size ≤ wz.heap.size by omega)
         have H6 := Lib.hid (And.intro hfin hgz6); clear hO6 hg6 hfin htl)
      | fail)
    clear hrt
    go_wp2
    go_ret
    exact ⟨_, rfl, grown_trans HX.out.2.2.2.2.2.2.2.1 H6.out.2, H6.out.1⟩
  · have hst : stepW P W t = W.take t ++ nWord (gt P.powers (gt W t - 1).toNat) P.orders.length ++ W.drop (t + ordL P (gt W t)) := by unfold stepW; rw [if_neg hc]
    have hfit : t + m ≤ W.length := by
      rcases hrd with h | h
      · exact absurd h hc
      · rw [hom] at h; exact h.1
    rw [hom, hx, show ((j : Int) + 1 - 1).toNat = j by omega] at hst
    obtain ⟨db, d_, da2, dp2, hde, _, _, hcc3, hrd3⟩ := Rows2.at h3.p j (by rw [hP.pl]; omega)
    subst hde
    obtain ⟨ob, oo, hoe, _, _, hcm⟩ := Ints.at h3.o j hjn
    subst hoe
    rw [hm] at hcm
    have hEV : Vec P.orders (gt P.powers j) := (hP.pv j hjn).1
    obtain ⟨E, hE⟩ : ∃ E, E = gt P.powers j := ⟨_, rfl⟩
    rw [← hE] at hcc3 hrd3 hEV hst
    have hw := nWord_vec_len hP hEV
    have htl := subSl_ints hv0 (t + m) W.length (by omega) (Nat.le_refl _)
    rw [List.take_length] at htl
    obtain ⟨sa, sc, hsv, _, _⟩ := htl.shape
    have hrt : ∀ w', (Instr.slice 24 (.slice (some ⟨vb, vo, none⟩) W.length cap) (some (.int .i64 ((t : Int) + (m : Int)))) none none).run Tryz.prog w' = .ok (.slice sa (W.drop (t + m)).length sc) w' := fun w' => by
      have h := run_tail w' (some ⟨vb, vo, none⟩) W.length cap ((t : Int) + (m : Int)) (by omega) (by omega)
      rw [show ((t : Int) + (m : Int)).toNat = t + m by omega, hsv] at h; exact h
    rw [hsv] at htl
    have hdl : (W.drop (t + m)).length ≤ 600 := by rw [List.length_drop]; omega
    have hwl : (nWord E E.length) = nWord E P.orders.length := by rw [hEV.1]
    have hcmp : ∀ (h1 : t + 1 < W.length), ¬ gt W (t + 1) < (j : Int) + 1 := fun h1 h2 => hc ⟨h1, by rw [hx]; exact h2⟩
    have hjP : (j : Int) < P.powers.length := by rw [hP.pl]; omega
    have hjO : (j : Int) < P.orders.length := by omega
    have f1_ : ∀ w', Ext wz w' → w'.cell? ⟨w.heap.size, 1, none⟩ = some (.slice (some ⟨db, d_, none⟩) P.powers.length cp) := fun w' h => h.cell hcp (by simp)
    have f2_ : ∀ w', Ext wz w' → w'.cell? ⟨db, d_ + j, none⟩ = some (.slice da2 E.length dp2) := fun w' h => h.cell hcc3 (by simp)
    have f3_ : ∀ w', Ext wz w' → w'.cell? ⟨w.heap.size, 0, none⟩ = some (.slice (some ⟨ob, oo, none⟩) P.orders.length co) := fun w' h => h.cell hco (by simp)
    have f4_ : ∀ w', Ext wz w' → w'.cell? ⟨vb, vo + t, none⟩ = some (.int .i64 ((j : Int) + 1)) := fun w' h => h.cell hct (by simp)
    have f5_ : ∀ w', Ext wz w' → w'.cell? ⟨ob, oo + j, none⟩ = some (.int .i64 (m : Int)) := fun w' h => h.cell hcm (by simp)
    have HD := Lib.hid (And.intro f1_ (And.intro f2_ (And.intro f3_ (And.intro f4_ f5_)))); clear f1_ f2_ f3_ f4_ f5_
    have HX := Lib.hid (And.intro hst (And.intro hw (And.intro hwl (And.intro hrd3 (And.intro htl (And.intro htk (And.intro hEV (And.intro hg0 (And.intro hdl (And.intro hv0 hcmp))))))))))
    clear hw hwl hrd3 htl hhd htk hEV hsv hst hc hrd hx hW hE hm hom h3 h3w hct hco hcp hcc hcc3 hcm hX hv hv0 hg0 hdl hcmp
    have HO := Lib.hid hown; clear hown
    obtain ⟨dl, hdl⟩ : ∃ dl, dl = (W.drop (t + m)).length := ⟨_, rfl⟩
    rw [← hdl] at hrt
    have HL := Lib.hid hdl; clear hdl
    obtain ⟨M, hM⟩ : ∃ M, M = W.length := ⟨_, rfl⟩
    rw [← hM] at ht' hl hcap hrh hrt ht hfit ⊢
    have hMb : (M : Int) ≤ 600 := by omega
    have HM := Lib.hid hM; clear hM
    go_enter Tryz.func123, Tryz.ntmps123
    go_wp2_with fail
    clear hwz hrh
    refine Calls.mono HO.out ?_
    rintro e1 w1 ⟨v1, rfl, hg1, hO1⟩
    have hi1 := hO1.ints (by rw [HX.out.2.2.2.2.2.1]; omega)
    obtain ⟨a1, c1, hv1, _, _⟩ := hi1.shape
    rw [HX.out.2.2.2.2.2.1] at hv1
    subst hv1
    have HO1 := Lib.hid (And.intro hO1 hg1); clear hO1 hg1 hi1
    go_upto_region 2 with fail
    go_cut [31] (fun b wx => b = .bool false ∧ Ext w1 wx ∧ Own wz.heap.size wx (.slice a1 t c1) (W.take t))
    case' rest =>
      obtain ⟨rfl, hgc, hOc⟩ := hcut
      have hgzc := grown_trans HO1.out.2 hgc
      have k1 := HD.out.1 wc hgzc
      have k2 := HD.out.2.1 wc hgzc
      have k4 := HD.out.2.2.2.1 wc hgzc
      have kx : (j : Int) + 1 - 1 = (j : Int) := by omega
      have HOc := Lib.hid (And.intro hOc hgzc); clear hOc
      go_wp2_with fail
      clear k1 k2 k4
      refine Calls.mono (l07Word_ok wc _ E Any (Ints.sub (Ints.ext HX.out.2.2.2.1 HOc.out.2) (fun _ _ _ => trivial)) (by rw [HX.out.2.2.2.2.2.2.1.1]; exact hn6) HX.out.2.1.2) ?_
      rintro e4 w4 ⟨v4, rfl, hg4, hO4⟩
      rw [HX.out.2.2.1] at hO4
      have hi4 := hO4.ints (by have := HX.out.2.1.1; omega)
      obtain ⟨a4, n4, c4, hv4⟩ : ∃ a n c, v4 = .slice a n c := by obtain ⟨a, c, e, _⟩ := hi4.shape; exact ⟨_, _, _, e⟩
      subst hv4
      have hO3' := HOc.out.1.ext0 hg4
      have hgz4 := grown_trans HOc.out.2 hg4
      have H4 := Lib.hid (And.intro hO3' (And.intro hi4 hgz4)); clear hO3' hi4 hO4
      go_wp2_with (first
        | (at_builtin
           refine wp_app_ints rfl _ _ rfl wz.heap.size _ _ rfl H4.out.1 _ _ rfl Any (Ints.sub H4.out.2.1 (fun _ _ _ => trivial)) (by have := HX.out.2.1.1; have := HX.out.2.2.2.2.2.1; omega) H4.out.2.2.size ?_
           intro v5 w5 hO5 hg5 _
           have hgz5 : Ext wz w5 := grown_own H4.out.2.2 hg5 (fun b hb hlt => by have := (H4.out.1.lt b hb).1; omega)
           have hi5 := hO5.ints (by have := HX.out.2.1.1; have := HX.out.2.2.2.2.2.1; simp only [List.length_append]; omega)
           obtain ⟨a5, n5, c5, hv5⟩ : ∃ a n c, v5 = .slice a n c := by obtain ⟨a, c, e, _⟩ := hi5.shape; exact ⟨_, _, _, e⟩
           subst hv5
           have H5 := Lib.hid (And.intro hO5 hgz5); clear hO5 hi5 hg5
           have k3 := HD.out.2.2.1 w5 H5.out.2
           have k5 := HD.out.2.2.2.2 w5 H5.out.2
           have kw : IntKind.i64.wrap ((t : Int) + (m : Int)) = (t : Int) + (m : Int) := IntWalk.i64_in _ (by omega))
        | (at_builtin
           have htl := Ints.ext HX.out.2.2.2.2.1 H5.out.2
           rw [← HL.out] at htl
           refine wp_app_ints rfl _ _ rfl wz.heap.size _ _ rfl H5.out.1 _ _ rfl S htl (by have := HX.out.2.1.1; have := HX.out.2.2.2.2.2.1; have := HX.out.2.2.2.2.2.2.2.2.1; simp only [List.length_append]; omega) H5.out.2.size ?_
           intro v6 w6 hO6 hg6 _
           have hgz6 : Ext wz w6 := grown_own H5.out.2 hg6 (fun b hb hlt => by have := (H5.out.1.lt b hb).1; omega)
           rw [← HX.out.1] at hO6
           have hfin := hO6.weak (show w.heap.size ≤ wz.heap.size by omega)
           have H6 := Lib.hid (And.intro hfin hgz6); clear hO6 hg6 hfin htl k3 k5)
        | fail)
      clear hrt
      go_wp2
      go_ret
      exact ⟨_, rfl, grown_trans HX.out.2.2.2.2.2.2.2.1 H6.out.2, H6.out.1⟩
    by_cases h1 : t + 1 < M
    · have h1' : (t : Int) + 1 < M := by omega
      have hct := HD.out.2.2.2.1 w1 HO1.out.2
      obtain ⟨vb', vo', hve, _, _, hcy⟩ := Ints.at (Ints.ext HX.out.2.2.2.2.2.2.2.2.2.1 HO1.out.2) (t + 1) (by rw [← HM.out]; exact h1)
      obtain ⟨rfl, rfl⟩ : vb = vb' ∧ vo = vo' := by cases hve; exact ⟨rfl, rfl⟩
      clear hve
      have hcm2 := HX.out.2.2.2.2.2.2.2.2.2.2 (by rw [← HM.out]; exact h1)
      obtain ⟨y, hy⟩ : ∃ y, y = gt W (t + 1) := ⟨_, rfl⟩
      rw [← hy] at hcy hcm2
      have hdd : decide (y < (j : Int) + 1) = false := decide_eq_false (by omega)
      clear hy
      go_wp2
      go_quiet (fail)
      go_wp2
      go_meet
      exact ⟨rfl, grown_drewN _ _ _, HO1.out.1.ext0 (grown_drewN _ _ _)⟩
    · have h1' : ¬ (t : Int) + 1 < M := by omega
      have hw1 : IntKind.i64.wrap ((t : Int) + 1) = (t : Int) + 1 := IntWalk.i64_in _ (by omega)
      have hd1 : decide ((t : Int) + 1 < M) = false := decide_eq_false h1'
      go_wp2
      go_quiet (fail)
      go_wp2
      go_meet
      exact ⟨rfl, grown_drewN _ _ _, HO1.out.1.ext0 (grown_drewN _ _ _)⟩

end Go.Proofs.YtoakmefajbbggaaGreat
namespace Go.Proofs.YtoakmefajbbggaaGreat
open Go.RowKit

set_option maxRecDepth 100000 in
set_option maxHeartbeats 4000000 in
theorem l07VectorP_ok (w : World) (n : Nat) (lv : Value) (L : List Int) (S : Nat → Prop) (hL : Ints S w lv L) (hw : PosW n L) (hn : n ≤ 100) (hl : L.length ≤ 1000) :
    Calls Tryz.prog 122 #[.int .i64 n, lv] w (Ret w fun w' v => v = .tuple #[.slice (some ⟨w.heap.size, 0, none⟩) n n, .bool true] ∧ Own w.heap.size w' (.slice (some ⟨w.heap.size, 0, none⟩) n n) (vecW n L)) := by
  obtain ⟨al, capl, rfl, _, _⟩ := hL.shape
  have HW := Lib.hid hw; clear hw
  go_enter Tryz.func122, Tryz.ntmps122
  go_wp2_with (at_make; refine wp_make_ints rfl _ _ rfl w.heap.size n w.heap.size rfl _ rfl rfl rfl (by omega) (Nat.le_refl _) ?_; intro w1 ho1 hg1 hlt1)
  rw [← vecW_nil] at ho1
  go_loopw [7] (fun iv wr => ∃ i : Nat, iv = .int .i64 i ∧ i ≤ L.length ∧ Ext w wr ∧ Own w.heap.size wr (.slice (some ⟨w.heap.size, 0, none⟩) n n) (vecW n (L.take i))) (fun iv _ => L.length - (intOf iv).toNat)
  case atStart => exact ⟨0, rfl, by omega, hg1, by rw [List.take_zero]; exact ho1⟩
  case round =>
    clear ho1 hg1
    obtain ⟨i, rfl, hi, hg, hO⟩ := hrel
    by_cases hlt : i < L.length
    · have hlt' : (i : Int) < L.length := by omega
      obtain ⟨b, off, rfl, _, _, hc⟩ := Ints.at (Ints.ext hL hg) i hlt
      have hx := HW.out _ (gtMem hlt)
      obtain ⟨J, hJx⟩ := Int.eq_ofNat_of_zero_le (show 0 ≤ gt L i - 1 by omega)
      have hxe : gt L i = (J : Int) + 1 := by omega
      rw [hxe] at hc hx
      have hJ : J < n := by omega
      have hJn : (J : Int) < n := by omega
      have hst := vecW_step (n := n) hlt hJ hxe
      have hcb := count_le (n := n) L J i hJ
      have hco := hO.cell J (by rw [vecW_len]; exact hJ)
      have hfo := hO.frozen J
      obtain ⟨y, hye⟩ : ∃ y, y = gt (vecW n (L.take i)) J := ⟨_, rfl⟩
      rw [← hye] at hco hst hcb
      obtain ⟨hO3, hgs⟩ := hO.store J (y + 1)
      rw [← hst] at hO3
      have hgn := grown_own hg hgs (fun k hk hlt => by cases hk; omega)
      have hOd := hO3.ext0 (grown_drew (wr.setCell ⟨w.heap.size, J, none⟩ (.int .i64 (y + 1))) none)
      have hgd := grown_trans hgn (grown_drew (wr.setCell ⟨w.heap.size, J, none⟩ (.int .i64 (y + 1))) none)
      have hw1 := i64_1000 (J : Int) (by omega)
      have hw2 := i64_1000 (y + 1) (by clear hw1; omega)
      have hw3 := w64_1000 (J : Int) (by clear hw1 hw2; omega)
      have hw4 := w64_1000 (y + 1) (by clear hw1 hw2 hw3; omega)
      have HQ := Lib.hid (And.intro hOd (And.intro hgd (And.intro hw1 (And.intro hw2 (And.intro hw3 hw4))))); clear hOd hgd hw1 hw2 hw3 hw4 hgs hgn hO3 hye hst hcb hx hxe hJx
      have c1 : wr.drew.cell? ⟨w.heap.size, J, none⟩ = some (.int .i64 y) := hco
      have c2 : wr.drew.cell? ⟨b, off + i, none⟩ = some (.int .i64 ((J : Int) + 1)) := hc
      have c3 : wr.drew.frozen? ⟨w.heap.size, J, none⟩ = false := hfo
      clear hco hfo hO
      have hneg : ¬ ((J : Int) + 1 < 0) := by omega
      go_wp2
      clear hc
      have hw1 := HQ.out.2.2.1
      have hw2 := HQ.out.2.2.2.1
      have hw3 := HQ.out.2.2.2.2.1
      have hw4 := HQ.out.2.2.2.2.2
      go_still_tail 16, (by kernel_rfl)
      change wpList _ _ _ _ _ wr.drew
      go_wp2
      clear hw1 hw2 hw3 hw4
      go_roundw
      case rel => exact ⟨i + 1, by go_num, by omega, HQ.out.2.1, HQ.out.1⟩
      case measure => simp [intOf]; omega
    · have hie : i = L.length := by omega
      subst hie
      rw [List.take_length] at hO
      have HO := Lib.hid hO; clear hO
      go_wp2
      exact bodyPost_ret (v := .tuple #[.slice (some ⟨w.heap.size, 0, none⟩) n n, .bool true]) (by simp [results, Tryz.results122, go_sem]) rfl ⟨_, rfl, hg, rfl, HO.out⟩

/-- what the specification's collecting hands back -/
def SColR (P : Pr) (lim : Nat) (W : List Int) (w' : World) (v : Value) : Prop :=
  (∃ (x : List Int) (k : Nat), colW P lim W = some (x, k) ∧ ∃ (a : Option Addr) (n c : Nat), v = .tuple #[.slice a n c, .int .i64 (k : Int), .bool true] ∧ Ints Any w' (.slice a n c) x) ∨ (colW P lim W = none ∧ v = .tuple #[.slice none 0 0, .int .i64 0, .bool false])

set_option maxRecDepth 100000 in
set_option maxHeartbeats 8000000 in
theorem l09Collect_ok (P : Pr) (hP : Valid P) (w : World) (pv v : Value) (W : List Int) (lim : Nat) (hlim : lim ≤ 2000) (Sp S : Nat → Prop) (hpv : PresV Sp w pv P) (hv : Ints S w v W) (hW : PosW P.orders.length W) (hl : W.length ≤ 256) :
    Calls Tryz.prog 60 #[pv, v, .int .i64 (lim : Int)] w (Ret w (SColR P lim W)) := by
  have hn6 := hP.n6
  obtain ⟨vo, vp, vc, rfl, h3w⟩ := hpv
  have hg0 : Ext w (w.alloc (.cells #[vo, vp, vc] 28)) := World.grownBy_alloc _ _ _
  have hX := Box3.made w 28 vo vp vc
  have hs0 : (w.alloc (.cells #[vo, vp, vc] 28)).heap.size = w.heap.size + 1 := by simp
  generalize hwz : (w.alloc (.cells #[vo, vp, vc] 28)) = wz at *
  obtain ⟨ao, co, rfl, _, _⟩ := h3w.o.shape
  have hown := l01Own_ok wz _ W S (Ints.ext hv hg0) (by omega)
  obtain ⟨av, cap, rfl, _, _⟩ := hv.shape
  obtain ⟨n, hn⟩ : ∃ n, n = P.orders.length := ⟨_, rfl⟩
  have h3 : ∀ w', Ext wz w' → PresV Sp w' (.agg #[.slice ao P.orders.length co, vp, vc]) P ∧ Box3 w' w.heap.size (.slice ao P.orders.length co) vp vc := fun w' hg => ⟨⟨_, _, _, rfl, h3w.ext (grown_trans hg0 hg)⟩, hX.ext hg⟩
  rw [← hn] at h3 hwz hn6
  have HP := Lib.hid (And.intro hn (And.intro h3 (And.intro hg0 (And.intro hW hl)))); clear hn h3 h3w hg0 hX hv hW
  have HO := Lib.hid hown; clear hown
  go_enter Tryz.func60, Tryz.ntmps60
  try rw [← HP.out.1]
  go_wp2_with fail
  refine Calls.mono HO.out ?_
  rintro e1 w1 ⟨v1, rfl, hg1, hO1⟩
  have hi1 := hO1.ints (by omega)
  obtain ⟨a1, n1, c1, hv1⟩ : ∃ a n c, v1 = .slice a n c := by obtain ⟨a, c, e, _⟩ := hi1.shape; exact ⟨_, _, _, e⟩
  subst hv1
  have H1 := Lib.hid (Ints.sub hi1 (fun _ _ _ => trivial) : Ints Any w1 _ W); clear hO1 hi1
  go_wp2
  go_loopw [9, 10] (fun wv nv wr => ∃ (k : Nat) (U : List Int) (v1 : Value), v1 = wv ∧ nv = .int .i64 (k : Int) ∧ k ≤ lim + 1 ∧ Ext wz wr ∧ Hid (Ints Any wr v1 U ∧ PosW P.orders.length U ∧ U.length ≤ 300 ∧ ((k ≤ lim ∧ colW P lim W = if 256 < U.length then none else (colW P (lim - k) U).map (fun x => (x.1, x.2 + k))) ∨ (k = lim + 1 ∧ colW P lim W = none)))) (fun _ nv _ => lim + 1 - (intOf nv).toNat)
  case atStart =>
    refine ⟨0, W, _, rfl, rfl, by omega, hg1, Lib.hid ⟨H1.out, HP.out.2.2.2.1, by have := HP.out.2.2.2.2; omega, .inl ⟨by omega, ?_⟩⟩⟩
    rw [if_neg (by have := HP.out.2.2.2.2; omega), Nat.sub_zero]; cases colW P lim W <;> rfl
  case round =>
    clear hwz hg1
    obtain ⟨k, U, v1, rfl, rfl, hk, hg, hU⟩ := hrel
    by_cases hkl : k ≤ lim
    · have hkl' : (k : Int) ≤ lim := by omega
      have hcU : colW P lim W = if 256 < U.length then none else (colW P (lim - k) U).map (fun x => (x.1, x.2 + k)) := by
        rcases hU.out.2.2.2 with h | h
        · exact h.2
        · omega
      obtain ⟨ua, uc, rfl, _, _⟩ := hU.out.1.shape
      obtain ⟨M, hM⟩ : ∃ M, M = U.length := ⟨_, rfl⟩
      have hMb : M ≤ 300 := by rw [hM]; exact hU.out.2.2.1
      have hat := l09At_ok P hP wr _ _ U Sp Any (HP.out.2.1 wr hg).1 hU.out.1 hU.out.2.1 (by omega)
      rw [← hM] at hat ⊢
      have HM := Lib.hid (And.intro hM (And.intro hat hcU)); clear hM hat hcU
      by_cases hbig : 256 < M
      · have hbig' : (256 : Int) < M := by omega
        have hno : colW P lim W = none := by rw [HM.out.2.2, if_pos (by rw [← HM.out.1]; exact hbig)]
        have HN := Lib.hid hno; clear hno hbig
        go_wp2
        go_ret3
        exact ⟨_, rfl, grown_trans HP.out.2.2.1 hg, .inr ⟨HN.out, rfl⟩⟩
      · have hbig' : ¬ (256 : Int) < M := by omega
        have hcU : colW P lim W = (colW P (lim - k) U).map (fun x => (x.1, x.2 + k)) := by rw [HM.out.2.2, if_neg (by rw [← HM.out.1]; exact hbig)]
        have HC := Lib.hid hcU; clear hcU
        have c0 := (HP.out.2.1 wr hg).2.2.1
        have c1 := (HP.out.2.1 wr hg).2.2.2.1
        have c2 := (HP.out.2.1 wr hg).2.2.2.2.1
        go_wp2_with fail
        clear c0 c1 c2
        refine Calls.mono HM.out.2.1 ?_
        rintro e2 w2 ⟨v2, rfl, hg2, r, rfl, hF⟩
        have hgw2 := grown_trans hg hg2
        rcases hF with ⟨rfl, hno⟩ | ⟨t, rfl, htU, hrd, hmin⟩
        · have hcol : colW P lim W = some (vecW P.orders.length U, k) := by rw [HC.out, colW_end (.inl ⟨rfl, hno⟩)]; simp
          have hvec := l07VectorP_ok w2 n _ U Any (Ints.ext hU.out.1 hg2) (by rw [HP.out.1]; exact hU.out.2.1) (by omega) (by have := HM.out.1; omega)
          rw [← HM.out.1] at hvec
          have c0 := (HP.out.2.1 w2 hgw2).2.2.1
          have HE := Lib.hid (And.intro hcol hvec); clear hcol hvec hno
          go_wp2_with fail
          clear c0
          refine Calls.mono HE.out.2 ?_
          rintro e3 w3 ⟨v3, rfl, hg3, rfl, hO⟩
          have hfi := hO.ints (by rw [vecW_len]; omega)
          have HF := Lib.hid hfi; clear hfi hO
          go_wp2
          go_ret3
          exact ⟨_, rfl, grown_trans HP.out.2.2.1 (grown_trans hgw2 hg3), .inl ⟨_, k, HE.out.1, _, _, _, rfl, by rw [← HP.out.1]; exact Ints.sub HF.out (fun _ _ _ => trivial)⟩⟩
        · have hsp := l09Step_ok P hP w2 _ _ U t Sp Any (HP.out.2.1 w2 hgw2).1 (Ints.ext hU.out.1 hg2) hU.out.2.1 htU hrd (by have := HM.out.1; omega)
          rw [← HM.out.1] at hsp
          have hsl := stepW_len hP hU.out.2.1 htU
          have hnext : (k + 1 ≤ lim ∧ colW P lim W = if 256 < (stepW P U t).length then none else (colW P (lim - (k + 1)) (stepW P U t)).map (fun x => (x.1, x.2 + (k + 1)))) ∨ (k + 1 = lim + 1 ∧ colW P lim W = none) := by
            by_cases hke : k = lim
            · refine .inr ⟨by omega, ?_⟩
              rw [HC.out, hke, Nat.sub_self, colW_no (t := t) (.inr ⟨t, rfl, htU, hrd, hmin⟩)]; rfl
            · refine .inl ⟨by omega, ?_⟩
              have hst := colW_step (P := P) (w := U) (t := t) (.inr ⟨t, rfl, htU, hrd, hmin⟩) (lim - k - 1)
              rw [show lim - k - 1 + 1 = lim - k by omega] at hst
              rw [HC.out, hst, show lim - (k + 1) = lim - k - 1 by omega]
              by_cases hb : 256 < (stepW P U t).length
              · rw [if_pos hb, if_pos hb]; rfl
              · rw [if_neg hb, if_neg hb]
                cases colW P (lim - k - 1) (stepW P U t) with
                | none => rfl
                | some y => simp [Nat.add_comm, Nat.add_left_comm]
          have hpos := hU.out.2.1.step (P := P) t
          have HST := Lib.hid (And.intro hnext (And.intro hsp (And.intro hpos (show (stepW P U t).length ≤ 300 by have := HM.out.1; omega)))); clear hnext hsp hpos hsl hmin hrd htU
          have c0 := (HP.out.2.1 w2 hgw2).2.2.1
          have c1 := (HP.out.2.1 w2 hgw2).2.2.2.1
          have c2 := (HP.out.2.1 w2 hgw2).2.2.2.2.1
          have htn : ¬ (t : Int) < 0 := by omega
          go_wp2_with fail
          clear c0 c1 c2
          refine Calls.mono HST.out.2.1 ?_
          rintro e3 w3 ⟨v3, rfl, hg3, hO⟩
          have hOi := hO.ints (by have := HST.out.2.2.2; omega)
          obtain ⟨sa, sn, sc, hsv⟩ : ∃ a n c, v3 = .slice a n c := by obtain ⟨a, c, e, _⟩ := hOi.shape; exact ⟨_, _, _, e⟩
          subst hsv
          have hrel : Hid (Ints Any w3 (.slice sa sn sc) (stepW P U t) ∧ PosW P.orders.length (stepW P U t) ∧ (stepW P U t).length ≤ 300 ∧ ((k + 1 ≤ lim ∧ colW P lim W = if 256 < (stepW P U t).length then none else (colW P (lim - (k + 1)) (stepW P U t)).map (fun x => (x.1, x.2 + (k + 1)))) ∨ (k + 1 = lim + 1 ∧ colW P lim W = none))) := Lib.hid ⟨Ints.sub hOi (fun _ _ _ => trivial), HST.out.2.2.1, HST.out.2.2.2, HST.out.1⟩
          clear hO hOi
          go_wp2
          go_roundw
          case rel => exact ⟨k + 1, stepW P U t, _, rfl, by go_num, by omega, grown_trans hgw2 hg3, hrel⟩
          case measure => simp [intOf]; omega
    · have hno : colW P lim W = none := by
        rcases hU.out.2.2.2 with h | h
        · omega
        · exact h.2
      have hkl' : ¬ (k : Int) ≤ lim := by omega
      have HN := Lib.hid hno; clear hno
      obtain ⟨ua, un, uc, rfl⟩ : ∃ a n c, v1 = .slice a n c := by obtain ⟨a, c, e, _⟩ := hU.out.1.shape; exact ⟨_, _, _, e⟩
      go_wp2
      go_ret3
      exact ⟨_, rfl, grown_trans HP.out.2.2.1 hg, .inr ⟨HN.out, rfl⟩⟩

set_option maxRecDepth 100000 in
set_option maxHeartbeats 4000000 in
theorem sCollectWord_ok (w : World) (pv v : Value) (P : Pr) (W : List Int) (Sp S : Nat → Prop) (hpv : PresV Sp w pv P) (hv : Ints S w v W) (hl : W.length ≤ 100000) :
    Calls Tryz.prog 10 #[pv, v, .int .i64 2000] w (Ret w (CwR P W)) := by
  obtain ⟨vo, vp, vc, rfl, h3⟩ := hpv
  have hg0 : Ext w (w.alloc (.cells #[vo, vp, vc] 28)) := World.grownBy_alloc _ _ _
  have hX := Box3.made w 28 vo vp vc
  obtain ⟨ao, co, rfl, _, _⟩ := h3.o.shape
  obtain ⟨av, cap, rfl, _, _⟩ := hv.shape
  have hcon := sIsPresentation_ok (w.alloc (.cells #[.slice ao P.orders.length co, vp, vc] 28)) _ P Sp ⟨_, vp, vc, rfl, h3.ext hg0⟩
  generalize hwz : (w.alloc (.cells #[.slice ao P.orders.length co, vp, vc] 28)) = wz at *
  have hall : ∀ w', Ext wz w' → PresV Sp w' (.agg #[.slice ao P.orders.length co, vp, vc]) P ∧ Box3 w' w.heap.size (.slice ao P.orders.length co) vp vc ∧ Ints S w' (.slice av W.length cap) W := fun w' hg => ⟨⟨_, _, _, rfl, h3.ext (grown_trans hg0 hg)⟩, hX.ext hg, Ints.ext hv (grown_trans hg0 hg)⟩
  have c0 := hX.2.1
  have c1 := hX.2.2.1
  have c2 := hX.2.2.2.1
  have HC := Lib.hid (And.intro hall hg0); clear hall hg0 hv h3 hX
  go_enter Tryz.func10, Tryz.ntmps10
  go_wp2_with fail
  clear hwz c0 c1 c2
  refine Calls.mono hcon ?_
  rintro e1 w1 ⟨v1, rfl, hg1, rfl⟩
  clear hcon
  cases hvb : validB P with
  | false =>
    have HB := Lib.hid hvb; clear hvb
    go_wp2
    go_ret3
    exact ⟨_, rfl, grown_trans HC.out.2 hg1, .inl ⟨(fun h => by have := h.1; rw [HB.out] at this; cases this), rfl⟩⟩
  | true =>
    have hP := valid_of hvb
    have HB := Lib.hid (And.intro hvb hP); clear hvb hP
    have c0 := (HC.out.1 w1 hg1).2.1.2.1
    have hpw := fun w' (hg : Ext wz w') => l09Positive_ok P.orders.length (by have := HB.out.2.n6; omega) w' _ W _ (HC.out.1 w' hg).2.2 (by omega)
    have HM := Lib.hid hpw; clear hpw
    obtain ⟨n, hn⟩ : ∃ n, n = P.orders.length := ⟨_, rfl⟩
    rw [← hn] at c0 HM HC ⊢
    have HN := Lib.hid hn; clear hn
    go_wp2_with fail
    clear c0
    refine Calls.mono (HM.out w1 hg1) ?_
    rintro e2 w2 ⟨v2, rfl, hg2, r2, rfl, hr2⟩
    have hgw := grown_trans HC.out.2 (grown_trans hg1 hg2)
    cases r2 with
    | false =>
      have HN2 := Lib.hid hr2; clear hr2
      go_wp2
      go_ret3
      exact ⟨_, rfl, hgw, .inl ⟨(fun h => by have := HN2.out.2 ⟨by rw [HN.out]; exact h.2.1, h.2.2⟩; cases this), rfl⟩⟩
    | true =>
      have hW := hr2.1 rfl
      rw [HN.out] at hW
      clear hr2
      have hok : CwOk P W := ⟨HB.out.1, hW.1, hW.2⟩
      have HK := Lib.hid hok; clear hok hW
      go_wp2_with fail
      refine Calls.mono (l01In_ok 2000 0 2000 w2) ?_
      rintro _ _ ⟨rfl, rfl⟩
      have hin : inB 2000 0 2000 = true := by decide
      rw [hin]
      clear hin
      have hgz := grown_trans hg1 hg2
      have hcol := l09Collect_ok P HB.out.2 w2 _ _ W 2000 (by omega) _ _ (HC.out.1 w2 hgz).1 (HC.out.1 w2 hgz).2.2 HK.out.2.1 (by have := HK.out.2.2; omega)
      have c0 := (HC.out.1 w2 hgz).2.1.2.1
      have c1 := (HC.out.1 w2 hgz).2.1.2.2.1
      have c2 := (HC.out.1 w2 hgz).2.1.2.2.2.1
      have HCo := Lib.hid hcol; clear hcol
      go_wp2_with fail
      clear c0 c1 c2
      refine Calls.mono HCo.out ?_
      rintro e3 w3 ⟨v3, rfl, hg3, hR⟩
      rcases hR with ⟨x, k, hck, ao, n, c, rfl, hx⟩ | ⟨hno, rfl⟩
      · have HX := Lib.hid (And.intro hck hx); clear hck hx
        go_wp2
        go_ret3
        exact ⟨_, rfl, grown_trans hgw hg3, .inr ⟨HK.out, .inl ⟨x, k, HX.out.1, ao, n, c, rfl, HX.out.2⟩⟩⟩
      · have HX := Lib.hid hno; clear hno
        go_wp2
        go_ret3
        exact ⟨_, rfl, grown_trans hgw hg3, .inr ⟨HK.out, .inr ⟨HX.out, rfl⟩⟩⟩

end Go.Proofs.YtoakmefajbbggaaGreat
namespace Go.Proofs.YtoakmefajbbggaaGreat
open Go.RowKit

theorem expZ_neg (o e : List Int) : expZB o e (-1) = expB o e := by
  unfold expZB expB
  congr 1
  congr 1
  funext i
  have : decide ((i : Int) ≤ -1) = false := by simp; omega
  rw [this]; simp

theorem l10Element_ok (P : Pr) (hP : Valid P) (w : World) (pv xv : Value) (X : List Int) (Sp Sx : Nat → Prop) (hpv : PresV Sp w pv P) (hx : Ints Sx w xv X) :
    Calls Tryz.prog 130 #[pv, xv] w (Ret w fun _ v => v = .bool (expB P.orders X)) := by
  obtain ⟨vo, vp, vc, rfl, h3⟩ := hpv
  have hp0 := PresP.box h3 28
  have hg0 : Ext w (w.alloc (.cells #[vo, vp, vc] 28)) := World.grownBy_alloc _ _ _
  have hx0 := hx.ext hg0
  obtain ⟨ao, capo, hco, hoi⟩ := hp0.ordAt
  obtain ⟨ax, capx, rfl, _, _⟩ := hx.shape
  have hcon := l07Exponents_ok _ _ _ P.orders X (-1) Any Sx hoi hx0 (fun i hi => by have := hP.ord7 i hi; omega)
  rw [expZ_neg] at hcon
  go_enter Tryz.func130, Tryz.ntmps130
  go_wp2_with fail
  refine Calls.mono hcon ?_
  rintro e1 w1 ⟨rfl, hd⟩
  clear hcon
  go_wp2
  go_ret
  exact ⟨_, rfl, grown_trans hg0 hd.ext, rfl⟩

end Go.Proofs.YtoakmefajbbggaaGreat
namespace Go.Proofs.YtoakmefajbbggaaGreat
open Go.RowKit

set_option maxRecDepth 100000 in
set_option maxHeartbeats 2000000 in
theorem sIsEl_ok (P : Pr) (w : World) (pv xv : Value) (X : List Int) (Sp Sx : Nat → Prop) (hpv : PresV Sp w pv P) (hx : Ints Sx w xv X) :
    Calls Tryz.prog 66 #[pv, xv] w (Ret w fun _ v => ∃ r : Bool, v = .bool r ∧ (r = true ↔ rconsB P = true ∧ Vec P.orders X)) := by
  obtain ⟨vo, vp, vc, rfl, h3⟩ := hpv
  have hp0 := PresP.box h3 28
  have hg0 : Ext w (w.alloc (.cells #[vo, vp, vc] 28)) := World.grownBy_alloc _ _ _
  obtain ⟨vo6, vp6, vc6, _, _, hc0, hc1, hc2, h36⟩ := hp0.at
  simp only [Nat.zero_add] at hc1 hc2
  have hx0 := Ints.ext hx hg0
  obtain ⟨ax, capx, rfl, _, _⟩ := hx.shape
  clear hp0 hx
  have hE := l08Group_ok P (w.alloc (.cells #[vo, vp, vc] 28)) _ Any ⟨_, _, _, rfl, h36⟩
  go_enter Tryz.func66, Tryz.ntmps66
  go_wp2_with fail
  generalize hw0 : w.alloc (.cells #[vo, vp, vc] 28) = w0 at *
  clear hw0
  refine Calls.mono hE ?_
  rintro e1 w1 ⟨v1, rfl, hg1, rfl⟩
  clear hE
  have hb0 := hg1.cell hc0 (by simp)
  have hb1 := hg1.cell hc1 (by simp)
  have hb2 := hg1.cell hc2 (by simp)
  clear hc0 hc1 hc2
  cases hr : rconsB P with
  | false =>
    have HR := Lib.hid hr; clear hr
    go_wp2
    go_ret
    exact ⟨_, rfl, grown_trans hg0 hg1, false, rfl, by simp only [Bool.false_eq_true, false_iff]; rintro ⟨h, _⟩; rw [HR.out] at h; exact Bool.noConfusion h⟩
  | true =>
    have G := grp_of_r hr
    have HR := Lib.hid hr; clear hr
    go_wp2_with fail
    clear hb0 hb1 hb2
    refine Calls.mono (l10Element_ok P G.v w1 _ _ X Any Sx ⟨_, _, _, rfl, Pres3.ext h36 hg1⟩ (Ints.ext hx0 hg1)) ?_
    rintro e2 w2 ⟨v2, rfl, hg2, rfl⟩
    go_wp2
    go_ret
    exact ⟨_, rfl, grown_trans hg0 (grown_trans hg1 hg2), expB P.orders X, rfl, ⟨fun h => ⟨HR.out, expB_vec.1 h⟩, fun h => expB_vec.2 h.2⟩⟩

end Go.Proofs.YtoakmefajbbggaaGreat
namespace Go.Proofs.YtoakmefajbbggaaGreat
open Go.RowKit

set_option maxHeartbeats 2000000 in
theorem sIsConsistent_ok (P : Pr) (w : World) (pv : Value) (Sp : Nat → Prop) (hpv : PresV Sp w pv P) :
    Calls Tryz.prog 12 #[pv] w (Ret w fun _ v => v = .bool (rconsB P)) := by
  obtain ⟨vo, vp, vc, rfl, h3⟩ := hpv
  have hg0 : Ext w (w.alloc (.cells #[vo, vp, vc] 28)) := World.grownBy_alloc _ _ _
  obtain ⟨-, c0, c1, c2, -⟩ := Box3.made w 28 vo vp vc
  have hE := l08Group_ok P (w.alloc (.cells #[vo, vp, vc] 28)) _ Sp ⟨vo, vp, vc, rfl, h3.ext hg0⟩
  go_enter Tryz.func12, Tryz.ntmps12
  generalize hw0 : w.alloc (.cells #[vo, vp, vc] 28) = w0 at *
  go_wp2_with fail
  clear hw0 c0 c1 c2
  refine Calls.mono hE ?_
  rintro e1 w1 ⟨v1, rfl, hg1, rfl⟩
  go_wp2
  go_ret
  exact ⟨_, rfl, grown_trans hg0 hg1, rfl⟩

set_option maxHeartbeats 2000000 in
theorem sRelators_ok (P : Pr) (hP : Valid P) (w : World) (pv : Value) (Sp : Nat → Prop) (hpv : PresV Sp w pv P) :
    Calls Tryz.prog 16 #[pv] w (Ret w fun w' v => ∃ a n c, v = .tuple #[.slice a n c, .int .i64 0] ∧ Rows2 (From w.heap.size) w' (.slice a n c) (relsP P)) := by
  obtain ⟨vo, vp, vc, rfl, h3⟩ := hpv
  have hg0 : Ext w (w.alloc (.cells #[vo, vp, vc] 28)) := World.grownBy_alloc _ _ _
  obtain ⟨-, c0, c1, c2, -⟩ := Box3.made w 28 vo vp vc
  have hs0 : (w.alloc (.cells #[vo, vp, vc] 28)).heap.size = w.heap.size + 1 := by simp
  have hE := sIsPresentation_ok (w.alloc (.cells #[vo, vp, vc] 28)) _ P Sp ⟨vo, vp, vc, rfl, h3.ext hg0⟩
  go_enter Tryz.func16, Tryz.ntmps16
  generalize hw0 : w.alloc (.cells #[vo, vp, vc] 28) = w0 at *
  go_wp2_with fail
  clear hw0
  refine Calls.mono hE ?_
  rintro e1 w1 ⟨v1, rfl, hg1, rfl⟩
  have d0 := hg1.cell c0 (by simp)
  have d1 := hg1.cell c1 (by simp)
  have d2 := hg1.cell c2 (by simp)
  clear c0 c1 c2
  have hv := validB_true hP
  rw [hv]
  clear hv hE
  go_wp2_with fail
  clear d0 d1 d2
  refine Calls.mono (l07Relators_ok P hP w1 _ Sp ⟨vo, vp, vc, rfl, h3.ext (grown_trans hg0 hg1)⟩) ?_
  rintro e2 w2 ⟨v2, rfl, hg2, hR⟩
  have hR' : Rows2 (From w.heap.size) w2 v2 (relsP P) := Rows2.sub (RowsD.rows (SlO.toD hR (by have := relTo_len hP P.orders.length (Nat.le_refl _); have := hP.n6; have e : relsP P = relTo P P.orders.length := rfl; rw [e]; omega))) (fun k hk _ => by have hk : w1.heap.size ≤ k := hk; have := hg1.size; show w.heap.size ≤ k; omega)
  obtain ⟨ra, rn, rc, hrv⟩ : ∃ a n c, v2 = Value.slice a n c := by obtain ⟨a, c, e, _⟩ := Sl.shape hR'; exact ⟨_, _, _, e⟩
  subst hrv
  go_wp2
  go_ret2
  exact ⟨_, rfl, grown_trans hg0 (grown_trans hg1 hg2), _, _, _, rfl, hR'⟩

set_option maxHeartbeats 2000000 in
theorem sInverse_ok (P : Pr) (hr : rconsB P = true) (w : World) (pv xv : Value) (X : List Int) (Sp Sx : Nat → Prop) (hpv : PresV Sp w pv P) (hx : Ints Sx w xv X) (hX : Vec P.orders X) :
    Calls Tryz.prog 18 #[pv, xv] w (Ret w fun w' v => ∃ a n c, v = .tuple #[.slice a n c, .int .i64 0] ∧ Own w.heap.size w' (.slice a n c) (rInv P X)) := by
  have G := grp_of_r hr
  obtain ⟨vo, vp, vc, rfl, h3⟩ := hpv
  have hg0 : Ext w (w.alloc (.cells #[vo, vp, vc] 28)) := World.grownBy_alloc _ _ _
  obtain ⟨-, c0, c1, c2, -⟩ := Box3.made w 28 vo vp vc
  have hs0 : (w.alloc (.cells #[vo, vp, vc] 28)).heap.size = w.heap.size + 1 := by simp
  have hE := sIsEl_ok P (w.alloc (.cells #[vo, vp, vc] 28)) _ _ X Sp Sx ⟨vo, vp, vc, rfl, h3.ext hg0⟩ (Ints.ext hx hg0)
  obtain ⟨ax, capx, rfl, _, _⟩ := hx.shape
  have HH := Lib.hid (And.intro hr hX); clear hr hX
  go_enter Tryz.func18, Tryz.ntmps18
  generalize hw0 : w.alloc (.cells #[vo, vp, vc] 28) = w0 at *
  go_wp2_with fail
  clear hw0
  refine Calls.mono hE ?_
  rintro e1 w1 ⟨v1, rfl, hg1, r1, rfl, hr1⟩
  obtain rfl : r1 = true := hr1.2 HH.out
  have d0 := hg1.cell c0 (by simp)
  have d1 := hg1.cell c1 (by simp)
  have d2 := hg1.cell c2 (by simp)
  clear c0 c1 c2 hE hr1
  go_wp2_with fail
  clear d0 d1 d2
  refine Calls.mono (l10Inv_ok P G.v w1 _ _ X Sp Sx ⟨vo, vp, vc, rfl, h3.ext (grown_trans hg0 hg1)⟩ (Ints.ext hx (grown_trans hg0 hg1)) HH.out.2) ?_
  rintro e2 w2 ⟨v2, rfl, hg2, hO⟩
  have hO' := hO.weak (show w.heap.size ≤ w1.heap.size by have := hg1.size; omega)
  have hi := hO.ints (by rw [(G.invV HH.out.2).1]; have := G.v.n6; omega)
  obtain ⟨ra, rn, rc, hrv⟩ : ∃ a n c, v2 = Value.slice a n c := by obtain ⟨a, c, e, _⟩ := hi.shape; exact ⟨_, _, _, e⟩
  subst hrv
  clear hi hO
  go_wp2
  go_ret2
  exact ⟨_, rfl, grown_trans hg0 (grown_trans hg1 hg2), _, _, _, rfl, hO'⟩

set_option maxHeartbeats 2000000 in
theorem sIsExp_ok (P : Pr) (hP : Valid P) (w : World) (pv xv : Value) (X : List Int) (Sp Sx : Nat → Prop) (hpv : PresV Sp w pv P) (hx : Ints Sx w xv X) (hX : Vec P.orders X) :
    Calls Tryz.prog 68 #[pv, xv] w (Ret w fun _ v => v = .bool true) := by
  have hex : expZB P.orders X (-1) = true := by rw [expZ_neg]; exact expB_vec.2 hX
  have h7 := fun i hi => (show 0 ≤ gt P.orders i ∧ gt P.orders i ≤ 7 by have := hP.ord7 i hi; omega)
  obtain ⟨vo, vp, vc, rfl, h3⟩ := hpv
  have hg0 : Ext w (w.alloc (.cells #[vo, vp, vc] 28)) := World.grownBy_alloc _ _ _
  obtain ⟨-, c0, c1, c2, -⟩ := Box3.made w 28 vo vp vc
  have hE := sIsPresentation_ok (w.alloc (.cells #[vo, vp, vc] 28)) _ P Sp ⟨vo, vp, vc, rfl, h3.ext hg0⟩
  obtain ⟨ax, capx, rfl, _, _⟩ := hx.shape
  obtain ⟨ao, co, rfl, _, _⟩ := h3.o.shape
  have HH := Lib.hid (And.intro hex (And.intro h7 hX)); clear hex h7 hX
  go_enter Tryz.func68, Tryz.ntmps68
  generalize hw0 : w.alloc (.cells #[.slice ao P.orders.length co, vp, vc] 28) = w0 at *
  go_wp2_with fail
  clear hw0
  refine Calls.mono hE ?_
  rintro e1 w1 ⟨v1, rfl, hg1, rfl⟩
  have d0 := hg1.cell c0 (by simp)
  clear c0 c1 c2
  have hv := validB_true hP
  rw [hv]
  clear hv hE
  go_wp2_with fail
  clear d0
  refine Calls.mono (l07Exponents_ok w1 _ _ P.orders X (-1) Sp Sx (Ints.ext h3.o (grown_trans hg0 hg1)) (Ints.ext hx (grown_trans hg0 hg1)) HH.out.2.1) ?_
  rintro e2 w2 ⟨rfl, hd2⟩
  rw [HH.out.1]
  go_wp2
  go_ret
  exact ⟨_, rfl, grown_trans hg0 (grown_trans hg1 hd2.ext), rfl⟩

set_option maxHeartbeats 2000000 in
theorem sNormalWord_ok (P : Pr) (hP : Valid P) (w : World) (pv xv : Value) (X : List Int) (Sp Sx : Nat → Prop) (hpv : PresV Sp w pv P) (hx : Ints Sx w xv X) (hX : Vec P.orders X) :
    Calls Tryz.prog 20 #[pv, xv] w (Ret w fun w' v => ∃ a n c, v = .tuple #[.slice a n c, .int .i64 0] ∧ Own w.heap.size w' (.slice a n c) (nWord X P.orders.length)) := by
  have hw := nWord_vec_len hP hX
  have hXe : nWord X X.length = nWord X P.orders.length := by rw [hX.1]
  have hXl : X.length ≤ 6 := by rw [hX.1]; exact hP.n6
  obtain ⟨vo, vp, vc, rfl, h3⟩ := hpv
  have hg0 : Ext w (w.alloc (.cells #[vo, vp, vc] 28)) := World.grownBy_alloc _ _ _
  obtain ⟨-, c0, c1, c2, -⟩ := Box3.made w 28 vo vp vc
  have hs0 : (w.alloc (.cells #[vo, vp, vc] 28)).heap.size = w.heap.size + 1 := by simp
  have hE := sIsExp_ok P hP (w.alloc (.cells #[vo, vp, vc] 28)) _ _ X Sp Sx ⟨vo, vp, vc, rfl, h3.ext hg0⟩ (Ints.ext hx hg0) hX
  obtain ⟨ax, capx, rfl, _, _⟩ := hx.shape
  have HH := Lib.hid (And.intro hw (And.intro hXe hXl)); clear hw hXe hXl hX
  go_enter Tryz.func20, Tryz.ntmps20
  generalize hw0 : w.alloc (.cells #[vo, vp, vc] 28) = w0 at *
  go_wp2_with fail
  clear hw0 c0 c1 c2
  refine Calls.mono hE ?_
  rintro e1 w1 ⟨v1, rfl, hg1, rfl⟩
  clear hE
  go_wp2_with fail
  refine Calls.mono (l07Word_ok w1 _ X Sx (Ints.ext hx (grown_trans hg0 hg1)) HH.out.2.2 HH.out.1.2) ?_
  rintro e2 w2 ⟨v2, rfl, hg2, hO⟩
  rw [HH.out.2.1] at hO
  have hO' := hO.weak (show w.heap.size ≤ w1.heap.size by have := hg1.size; omega)
  have hi := hO.ints (by have := HH.out.1.1; omega)
  obtain ⟨ra, rn, rc, hrv⟩ : ∃ a n c, v2 = Value.slice a n c := by obtain ⟨a, c, e, _⟩ := hi.shape; exact ⟨_, _, _, e⟩
  subst hrv
  clear hi hO
  go_wp2
  go_ret2
  exact ⟨_, rfl, grown_trans hg0 (grown_trans hg1 hg2), _, _, _, rfl, hO'⟩

end Go.Proofs.YtoakmefajbbggaaGreat
namespace Go.Proofs.YtoakmefajbbggaaGreat
open Go.RowKit
attribute [local go_sem ↓] Go.wp_at_zero Go.wp_at_succ

theorem a_ret0 {w wX : World} {sb B0 M br : Nat} {x y z : Value} {Q : Pr} {F : Nat → Prop} (hgw : w.grownBy wX (some sb)) (hbr : w.heap.size ≤ br) (hF : ∀ k, F k → k < wX.heap.size → w.heap.size ≤ k ∧ k ≠ br) (hsrc : Src B0 wX sb) (hB0 : B0 ≤ w.heap.size) (hM : Q.orders.length ≤ M) (hP : Pres3 F wX x y z Q) :
    Mut w (some sb) (DrawR B0 sb (PresA M w.heap.size)) (.returned (.agg #[x, y, z])) (((wX.setCell ⟨br, 0, none⟩ x).setCell ⟨br, 1, none⟩ y).setCell ⟨br, 2, none⟩ z) := by
  obtain ⟨v, h1, h2, ⟨vo, vp, vc, Q', h3, h4, h5, _⟩, h6⟩ := a_ret (C := fun _ => True) hgw hbr hF hsrc hB0 hM hP trivial
  exact ⟨v, h1, h2, ⟨vo, vp, vc, Q', h3, h4, h5⟩, h6⟩

set_option maxRecDepth 100000 in
set_option maxHeartbeats 8000000 in
theorem l08Draw_ok (B0 : Nat) (w : World) (sb : Nat) (hB0 : B0 ≤ w.heap.size) (hs : Src B0 w sb) :
    Calls Tryz.prog 50 #[.pointer (some ⟨sb, 0, none⟩)] w (Mut w (some sb) (DrawR B0 sb (PresA 7 w.heap.size))) := by
  have hsb := hs.lt
  have hbB := Box3.made w 28 (.slice none 0 0) (.slice none 0 0) (.slice none 0 0)
  have hg0 : Ext w (w.alloc (.cells #[.slice none 0 0, .slice none 0 0, .slice none 0 0] 28)) := World.grownBy_alloc _ _ _
  have hs0 : (w.alloc (.cells #[.slice none 0 0, .slice none 0 0, .slice none 0 0] 28)).heap.size = w.heap.size + 1 := by simp
  have hsW := Lib.hid (hs.ext hg0); clear hs
  go_enter Tryz.func50, Tryz.ntmps50
  go_wp2_with fail
  generalize w.alloc (.cells #[.slice none 0 0, .slice none 0 0, .slice none 0 0] 28) = w0 at *
  have hs00 : w.heap.size + 1 ≤ w0.heap.size := by omega
  clear hs0
  refine Calls.mono (l07Draw_ok B0 w0 sb 96 (by omega) hsW.out) ?_
  rintro e1 w1 ⟨v1, rfl, hg1, ⟨vo, vp, vc, Q, rfl, hQl, hQ⟩, hs1⟩
  obtain ⟨a1, n1, c1, hy1⟩ : ∃ a n c, vo = .slice a n c := by obtain ⟨a, c, e, _⟩ := hQ.o.shape; exact ⟨_, _, _, e⟩
  obtain ⟨a2, n2, c2, hy2⟩ : ∃ a n c, vp = .slice a n c := by obtain ⟨a, c, e, _⟩ := Sl.shape hQ.p; exact ⟨_, _, _, e⟩
  obtain ⟨a3, n3, c3, hy3⟩ : ∃ a n c, vc = .slice a n c := by obtain ⟨a, c, e, _⟩ := Sl.shape hQ.c; exact ⟨_, _, _, e⟩
  subst hy1 hy2 hy3
  have hgq : Ext w1 (w1.alloc (.cells #[.slice a1 n1 c1, .slice a2 n2 c2, .slice a3 n3 c3] 28)) := World.grownBy_alloc _ _ _
  have hbQ := Box3.made w1 28 (.slice a1 n1 c1) (.slice a2 n2 c2) (.slice a3 n3 c3)
  obtain ⟨pb, hpb⟩ : ∃ pb, pb = w1.heap.size := ⟨_, rfl⟩
  rw [← hpb] at hbQ
  have hs1' := hg1.size
  have hQ2 := hQ.ext hgq
  have hb1 := hbB.moved hg1 (by omega)
  have hb2 := hb1.ext hgq
  have hs2 := hs1.ext hgq
  have hgw2 := grown_trans (grown_of_ext (some sb) hg0) (grown_trans hg1 (grown_of_ext (some sb) hgq))
  have hzq : w1.heap.size ≤ (w1.alloc (.cells #[.slice a1 n1 c1, .slice a2 n2 c2, .slice a3 n3 c3] 28)).heap.size := hgq.size
  have HP := Lib.hid hpb
  have HQ := Lib.hid (And.intro hQ2 (And.intro hs2 (And.intro hgw2 (And.intro hQl (And.intro hb2 hbQ))))); clear hQ hQ2 hs2 hs1 hg1 hbB hg0 hsW hb1 hgq hgw2 hQl hb2 hbQ
  go_wp2_with fail
  rw [← HP.out]
  generalize w1.alloc (.cells #[.slice a1 n1 c1, .slice a2 n2 c2, .slice a3 n3 c3] 28) = w2 at *
  have hpw : w0.heap.size ≤ pb := by omega
  clear hpb HP
  refine Calls.mono (l01Next_ok B0 w2 sb 2 HQ.out.2.1) ?_
  rintro e3 w3 ⟨v3, rfl, hg3, x, rfl, _, hx1, hs3⟩
  have hsz3 := hg3.size
  have hb3 := HQ.out.2.2.2.2.1.moved hg3 (by omega)
  have hbP3 := HQ.out.2.2.2.2.2.moved hg3 (by omega)
  have hQ3 := HQ.out.1.keptB hg3 (fun k hk => by have := Option.some.inj hk; omega)
  have hgw3 := grown_trans HQ.out.2.2.1 hg3
  have H3 := Lib.hid (And.intro hs3 (And.intro hb3 (And.intro hbP3 (And.intro hQ3 hgw3)))); clear hs3 hb3 hbP3 hQ3 hgw3 hx1
  have hback : ∀ w4, Ext w3 w4 → Hid (Box3 w4 pb (.slice a1 n1 c1) (.slice a2 n2 c2) (.slice a3 n3 c3) ∧ Mut w (some sb) (DrawR B0 sb (PresA 7 w.heap.size)) (.returned (.agg #[.slice a1 n1 c1, .slice a2 n2 c2, .slice a3 n3 c3])) (((w4.setCell ⟨w.heap.size, 0, none⟩ (.slice a1 n1 c1)).setCell ⟨w.heap.size, 1, none⟩ (.slice a2 n2 c2)).setCell ⟨w.heap.size, 2, none⟩ (.slice a3 n3 c3)) ∧ Box3 w4 w.heap.size (.slice none 0 0) (.slice none 0 0) (.slice none 0 0)) := fun w4 hg4 => Lib.hid ⟨H3.out.2.2.1.ext hg4, a_ret0 (grown_trans H3.out.2.2.2.2 (grown_of_ext (some sb) hg4)) (Nat.le_refl _) (fun k hk _ => by have hk : w0.heap.size ≤ k := hk; omega) (H3.out.1.ext hg4) hB0 HQ.out.2.2.2.1 (H3.out.2.2.2.1.ext hg4), H3.out.2.1.ext hg4⟩
  by_cases hx0 : x = 0
  · subst hx0
    obtain ⟨-, q0, q1, q2, -⟩ := id H3.out.2.2.1
    go_wp2_with fail
    clear q0 q1 q2
    refine Calls.mono (sIsPresentation_ok w3 _ Q _ ⟨_, _, _, rfl, H3.out.2.2.2.1⟩) ?_
    rintro e4 w4 ⟨v4, rfl, hg4, rfl⟩
    have hsz4 := hg4.size
    cases hvb : validB Q with
    | true =>
      obtain ⟨-, q0, q1, q2, -⟩ := id (H3.out.2.2.1.ext hg4)
      have HV := Lib.hid (valid_of hvb); clear hvb
      go_wp2_with fail
      clear q0 q1 q2
      refine Calls.mono (l07Turn_ok B0 w4 sb _ Q _ (by omega) (H3.out.1.ext hg4) ⟨_, _, _, rfl, H3.out.2.2.2.1.ext hg4⟩ HV.out) ?_
      rintro e5 w5 ⟨v5, rfl, hg5, ⟨uo, up, uc, R, rfl, hRl, hR⟩, hs5⟩
      obtain ⟨b1, m1, d1, hy1⟩ : ∃ a n c, uo = .slice a n c := by obtain ⟨a, c, e, _⟩ := hR.o.shape; exact ⟨_, _, _, e⟩
      obtain ⟨b2, m2, d2, hy2⟩ : ∃ a n c, up = .slice a n c := by obtain ⟨a, c, e, _⟩ := Sl.shape hR.p; exact ⟨_, _, _, e⟩
      obtain ⟨b3, m3, d3, hy3⟩ : ∃ a n c, uc = .slice a n c := by obtain ⟨a, c, e, _⟩ := Sl.shape hR.c; exact ⟨_, _, _, e⟩
      subst hy1 hy2 hy3
      have hb5 := (H3.out.2.1.ext hg4).moved hg5 (by omega)
      have hret := a_ret0 (grown_trans H3.out.2.2.2.2 (grown_trans (grown_of_ext (some sb) hg4) hg5)) (Nat.le_refl _) (fun k hk _ => by have hk : w4.heap.size ≤ k := hk; omega) hs5 hB0 hRl hR
      have hZ := hb5.all (.slice b1 m1 d1) (.slice b2 m2 d2) (.slice b3 m3 d3)
      obtain ⟨-, z0, z1, z2, -⟩ := id hZ
      obtain ⟨y0, y1, y2, y3, y4⟩ := id hb5
      have HR := Lib.hid hret; clear hret hs5 hR hRl hg5 hb5 hZ
      go_wp2_with fail
      refine bodyPost_ret (v := .agg #[.slice b1 m1 d1, .slice b2 m2 d2, .slice b3 m3 d3]) (by simp [results, Tryz.results50, go_sem, z0, z1, z2]) rfl ?_
      exact HR.out
    | false =>
      have hk := hback w4 hg4
      obtain ⟨-, q0, q1, q2, -⟩ := id hk.out.1
      have hZ := hk.out.2.2.all (.slice a1 n1 c1) (.slice a2 n2 c2) (.slice a3 n3 c3)
      obtain ⟨-, z0, z1, z2, -⟩ := id hZ
      obtain ⟨y0, y1, y2, y3, y4⟩ := id hk.out.2.2
      clear hvb hZ
      go_wp2_with fail
      refine bodyPost_ret (v := .agg #[.slice a1 n1 c1, .slice a2 n2 c2, .slice a3 n3 c3]) (by simp [results, Tryz.results50, go_sem, z0, z1, z2]) rfl ?_
      exact hk.out.2.1
  · have hxb0 : (x == 0) = false := by simp [hx0]
    have hk := hback w3 (Ext.refl _)
    obtain ⟨-, q0, q1, q2, -⟩ := id hk.out.1
    have hZ := hk.out.2.2.all (.slice a1 n1 c1) (.slice a2 n2 c2) (.slice a3 n3 c3)
    obtain ⟨-, z0, z1, z2, -⟩ := id hZ
    obtain ⟨y0, y1, y2, y3, y4⟩ := id hk.out.2.2
    clear hx0 hZ
    go_wp2_with fail
    refine bodyPost_ret (v := .agg #[.slice a1 n1 c1, .slice a2 n2 c2, .slice a3 n3 c3]) (by simp [results, Tryz.results50, go_sem, z0, z1, z2]) rfl ?_
    exact hk.out.2.1

/-- a row of the call's own of at most M integers -/
def IntsDr (M B : Nat) (w' : World) (v : Value) : Prop := ∃ L : List Int, L.length ≤ M ∧ Own B w' v L
/-- the length that a row tells -/
def lenV : Value → Nat
  | .slice _ n _ => n
  | _ => 0
theorem Own.lenV {B : Nat} {w : World} {v : Value} {l : List Int} (h : Own B w v l) (hl : l.length ≤ 1000000) : lenV v = l.length := by
  obtain ⟨a, c, rfl, _⟩ := (h.ints (by omega)).shape
  rfl

set_option maxRecDepth 100000 in
set_option maxHeartbeats 8000000 in
theorem l09Letters_ok (B0 : Nat) (w : World) (sb : Nat) (pv : Value) (Q : Pr) (F : Nat → Prop) (m : Nat) (hm : m ≤ 100) (hB0 : B0 ≤ w.heap.size) (hs : Src B0 w sb) (hp : PresV F w pv Q) (hQl : Q.orders.length ≤ 7) :
    Calls Tryz.prog 112 #[.pointer (some ⟨sb, 0, none⟩), pv, .int .i64 (m : Int)] w (Mut w (some sb) (DrawR B0 sb (IntsDr 300 w.heap.size))) := by
  have hsb := hs.lt
  obtain ⟨vo, vp, vc, rfl, h3⟩ := hp
  obtain ⟨ao, co, hvo, _, _⟩ := h3.o.shape
  obtain ⟨ap, cp, hvp, _, _⟩ := Sl.shape h3.p
  obtain ⟨ac, cc, hvc, _, _⟩ := Sl.shape h3.c
  subst hvo hvp hvc
  obtain ⟨n, hn⟩ : ∃ n, n = Q.orders.length := ⟨_, rfl⟩
  rw [← hn] at hQl ⊢
  have hbA := Box3.made w 28 (.slice ao n co) (.slice ap Q.powers.length cp) (.slice ac Q.conj.length cc)
  have hgA : Ext w (w.alloc (.cells #[.slice ao n co, .slice ap Q.powers.length cp, .slice ac Q.conj.length cc] 28)) := World.grownBy_alloc _ _ _
  have hsA := hs.ext hgA
  have hzA : (w.alloc (.cells #[.slice ao n co, .slice ap Q.powers.length cp, .slice ac Q.conj.length cc] 28)).heap.size = w.heap.size + 1 := by simp
  have HZ := Lib.hid (And.intro hzA hsA); clear hzA hsA hs h3 hn
  go_enter Tryz.func112, Tryz.ntmps112
  have hb0 := hbA.2.1
  go_wp2_with fail
  clear hb0
  generalize w.alloc (.cells #[.slice ao n co, .slice ap Q.powers.length cp, .slice ac Q.conj.length cc] 28) = w0 at *
  have hzA : w0.heap.size = w.heap.size + 1 := HZ.out.1
  have hgE := World.grownBy_alloc w0 (.cells #[] 2) none
  have hOE : Own w0.heap.size (w0.alloc (.cells #[] 2)) (.slice (some ⟨w0.heap.size, 0, none⟩) 0 0) [] := World.ownsRow_lit w0 #[] 0 (Nat.le_refl _) (by decide) rfl
  have HS := Lib.hid (HZ.out.2.ext hgE)
  have hg0 := grown_of_ext (some sb) hgE
  clear hgE
  have HW := Lib.hid hzA
  rw [hzA] at hOE
  have hz1 : w.heap.size + 1 ≤ w0.heap.size := by omega
  clear hzA HZ
  generalize w0.alloc (.cells #[] 2) = w1 at *
  rw [← HW.out] at hOE
  try rw [← HW.out]
  go_loopw [7, 9] (fun ov iv wr => ∃ (i : Nat) (l : List Int) (v4 : Value), v4 = ov ∧ iv = .int .i64 i ∧ i ≤ m ∧ Hid (l.length ≤ m + i) ∧ w0.grownBy wr (some sb) ∧ Own w0.heap.size wr v4 l ∧ Hid (Src B0 wr sb)) (fun _ iv _ => m - (intOf iv).toNat)
  case atStart => exact ⟨0, [], _, rfl, rfl, by omega, Lib.hid (by simp), hg0, hOE, HS⟩
  case round =>
    clear hg0 hOE HS
    obtain ⟨i, l, v4, rfl, rfl, hi, hli, hg, hO, hsr⟩ := hrel
    have hob : ∀ j, v4.ownBlock = some j → w0.heap.size ≤ j := fun j hj => (hO.lt j hj).1
    have HO := Lib.hid hob; clear hob
    by_cases hgo : i < m ∧ 0 < n
    · obtain ⟨hlt, hn0⟩ := hgo
      have hlt' : (i : Int) < m := by omega
      have hn0' : (0 : Int) < n := by omega
      go_wp2_with fail
      refine Calls.mono (l01Next_ok B0 wr sb n hsr.out) ?_
      rintro e3 w3 ⟨v3, rfl, hg3, y, rfl, hy0, hy1, hs3⟩
      have hg03 := grown_trans hg hg3
      have hO3 : Own w0.heap.size w3 _ l := hO.kept hg3 (.inr (fun e => by have := HO.out sb e; omega))
      have hll : l.length ≤ 1000000 := by have := hli.out; omega
      have HS3 := Lib.hid (And.intro hs3 hll); clear hs3 hll hO
      obtain ⟨x, hx⟩ : ∃ x, x = 1 + y := ⟨_, rfl⟩
      have hwx : IntKind.i64.wrap (1 + y) = x := by rw [hx]; exact IntWalk.i64_in _ (by omega)
      clear hx hy1
      go_wp2_with (first | (at_builtin; refine wp_app_int rfl _ _ rfl w0.heap.size v4 l x rfl w3 hO3 rfl rfl HS3.out.2 hg03.size ?_; intro v5 w5 hO5 hg5) | fail)
      have hs5 := HS3.out.1.own hg5 (fun j hj => by have := HO.out j hj; omega)
      have hg05 : w0.grownBy w5 (some sb) := grown_own hg03 hg5 (fun j hj hlt => by have := HO.out j hj; omega)
      have hl5 : Hid ((l ++ [x]).length ≤ m + i + 1) := Lib.hid (by have := hli.out; simp; omega)
      have HS5 := Lib.hid hs5
      clear hs5 hO3 hg3 hg5 HS3 hwx hy0 hg03 hsr hg hli HO
      go_loopw [7] (fun ov wr2 => ∃ (l2 : List Int) (v6 : Value), v6 = ov ∧ Hid (l2.length ≤ m + i + 1) ∧ w0.grownBy wr2 (some sb) ∧ Own w0.heap.size wr2 v6 l2 ∧ Hid (Src B0 wr2 sb)) (fun ov _ => m - lenV ov)
      case atStart => exact ⟨_, _, rfl, hl5, hg05, hO5, HS5⟩
      case round =>
        clear hl5 hg05 hO5 HS5
        obtain ⟨l2, v6, rfl, hl6, hg6, hO6, hs6⟩ := hrel
        have hll : l2.length ≤ 1000000 := by have := hl6.out; omega
        obtain ⟨a6, c6, rfl, _⟩ := (hO6.ints (by omega)).shape
        have hob : ∀ j, (Value.slice a6 l2.length c6).ownBlock = some j → w0.heap.size ≤ j := fun j hj => (hO6.lt j hj).1
        have HO := Lib.hid (And.intro hob hll); clear hob hll
        go_wp2_with fail
        refine Calls.mono (l01Next_ok B0 _ sb 3 hs6.out) ?_
        rintro e7 w7 ⟨v7, rfl, hg7, z, rfl, _, _, hs7⟩
        have hg07 := grown_trans hg6 hg7
        have hO7 : Own w0.heap.size w7 _ l2 := hO6.kept hg7 (.inr (fun e => by have := HO.out.1 sb e; omega))
        have HS7 := Lib.hid hs7; clear hs7 hO6 hs6 hg6 hg7
        by_cases hz : z = 0 ∧ l2.length < m
        · obtain ⟨rfl, hlm⟩ := hz
          have hlm' : (l2.length : Int) < m := by omega
          go_wp2_with (first | (at_builtin; refine wp_app_int rfl _ _ rfl w0.heap.size _ l2 x rfl w7 hO7 rfl rfl HO.out.2 hg07.size ?_; intro v8 w8 hO8 hg8) | fail)
          have hs8 := HS7.out.own hg8 (fun j hj => by have := HO.out.1 j hj; omega)
          have hg08 : w0.grownBy w8 (some sb) := grown_own hg07 hg8 (fun j hj hlt => by have := HO.out.1 j hj; omega)
          have hl8 : (l2 ++ [x]).length = l2.length + 1 := by simp
          have hv8 := hO8.lenV (by have := HO.out.2; omega)
          go_roundw
          case rel => exact ⟨_, v8, rfl, Lib.hid (by omega), hg08, hO8, Lib.hid hs8⟩
          case measure =>
            show m - lenV v8 < m - lenV (.slice a6 l2.length c6)
            rw [hv8, hl8]; show m - (l2.length + 1) < m - l2.length; omega
        · by_cases hz0 : z = 0
          · subst hz0
            have hlm : ¬ (l2.length : Int) < m := fun h => hz ⟨rfl, by omega⟩
            clear hz
            go_wp2_with fail
            go_roundw
            case rel => exact ⟨i + 1, l2, _, rfl, by go_num, by omega, Lib.hid (by have := hl6.out; omega), hg07, hO7, HS7⟩
            case measure => simp [intOf]; omega
          · have hzb : (z == 0) = false := by simp [hz0]
            clear hz hz0
            go_wp2_with fail
            go_roundw
            case rel => exact ⟨i + 1, l2, _, rfl, by go_num, by omega, Lib.hid (by have := hl6.out; omega), hg07, hO7, HS7⟩
            case measure => simp [intOf]; omega
    · have hend : Mut w (some sb) (DrawR B0 sb (IntsDr 300 w.heap.size)) (.returned v4) wr := ⟨_, rfl, grown_trans (grown_of_ext (some sb) hgA) hg, ⟨l, by have := hli.out; omega, hO.weak (by omega)⟩, hsr.out⟩
      have HE := Lib.hid hend; clear hend hO hsr
      by_cases hlt : i < m
      · have hlt' : (i : Int) < m := by omega
        have hn0 : ¬ (0 : Int) < n := fun h => hgo ⟨hlt, by omega⟩
        clear hgo
        go_wp2_with fail
        go_ret
        exact HE.out
      · have hlt' : ¬ (i : Int) < m := by omega
        clear hgo
        go_wp2_with fail
        go_ret
        exact HE.out

set_option maxRecDepth 100000 in
set_option maxHeartbeats 8000000 in
theorem l09Limit_ok (B0 : Nat) (w : World) (sb : Nat) (hs : Src B0 w sb) :
    Calls Tryz.prog 52 #[.pointer (some ⟨sb, 0, none⟩)] w (Mut w (some sb) (DrawR B0 sb (fun _ v => ∃ x : Int, v = .int .i64 x))) := by
  have hsb := hs.lt
  have HS := Lib.hid hs; clear hs
  go_enter Tryz.func52, Tryz.ntmps52
  go_wp2_with fail
  refine Calls.mono (l01Next_ok B0 w sb 15 HS.out) ?_
  rintro e1 w1 ⟨v1, rfl, hg1, x, rfl, _, _, hs1⟩
  have hsz := hg1.size
  have H1 := Lib.hid hs1; clear hs1
  by_cases hx : x = 0
  · subst hx
    go_wp2_with fail
    refine Calls.mono (l01Pick_ok B0 _ sb _ [-1, 0, 1, 2, 2001] _ (H1.out.ext (World.grownBy_alloc _ _ _)) (ints_litL w1 [-1, 0, 1, 2, 2001] (by simp)) (fun k hk => by have hk : k = w1.heap.size := hk; omega) (by simp) (by simp)) ?_
    rintro e2 w2 ⟨v2, rfl, hg2, i, _, rfl, hs2⟩
    have H2 := Lib.hid hs2; clear hs2
    go_wp2
    go_ret
    exact ⟨_, rfl, grown_trans hg1 (grown_trans (grown_of_ext (some sb) (World.grownBy_alloc _ _ _)) hg2), ⟨_, rfl⟩, H2.out⟩
  · have hxb : (x == 0) = false := by simp [hx]
    clear hx
    go_wp2_with fail
    refine Calls.mono (l01Pick_ok B0 _ sb _ [5, 20, 2000, 2000, 2000] _ (H1.out.ext (World.grownBy_alloc _ _ _)) (ints_litL w1 [5, 20, 2000, 2000, 2000] (by simp)) (fun k hk => by have hk : k = w1.heap.size := hk; omega) (by simp) (by simp)) ?_
    rintro e2 w2 ⟨v2, rfl, hg2, i, _, rfl, hs2⟩
    have H2 := Lib.hid hs2; clear hs2
    go_wp2
    go_ret
    exact ⟨_, rfl, grown_trans hg1 (grown_trans (grown_of_ext (some sb) (World.grownBy_alloc _ _ _)) hg2), ⟨_, rfl⟩, H2.out⟩

theorem lit_moved {w w' : World} {sb : Nat} {L : List Int} {v : Value} {S : Nat → Prop} (h : Ints S w v L) (hS : ∀ k, S k → k ≠ sb) (hg : w.grownBy w' (some sb)) : Ints (fun k => k ≠ sb) w' v L :=
  Ints.mono h (frame_of hg (fun k hk _ => ⟨hS k hk, fun e => hS k hk (Option.some.inj e).symm⟩))

set_option maxRecDepth 100000 in
set_option maxHeartbeats 8000000 in
theorem l09Draw_ok (B0 : Nat) (w : World) (sb : Nat) (pv : Value) (Q : Pr) (F : Nat → Prop) (hB0 : B0 ≤ w.heap.size) (hs : Src B0 w sb) (hp : PresV F w pv Q) (hF : ∀ k, F k → k ≠ sb) (hQl : Q.orders.length ≤ 7) :
    Calls Tryz.prog 51 #[.pointer (some ⟨sb, 0, none⟩), pv] w (Mut w (some sb) (DrawR B0 sb (IntsDr 301 w.heap.size))) := by
  have hsb := hs.lt
  obtain ⟨vo, vp, vc, rfl, h3⟩ := hp
  obtain ⟨ao, co, hvo, _, _⟩ := h3.o.shape
  obtain ⟨ap, cp, hvp, _, _⟩ := Sl.shape h3.p
  obtain ⟨ac, cc, hvc, _, _⟩ := Sl.shape h3.c
  subst hvo hvp hvc
  have hbA := Box3.made w 28 (.slice ao Q.orders.length co) (.slice ap Q.powers.length cp) (.slice ac Q.conj.length cc)
  have hgA : Ext w (w.alloc (.cells #[.slice ao Q.orders.length co, .slice ap Q.powers.length cp, .slice ac Q.conj.length cc] 28)) := World.grownBy_alloc _ _ _
  have hsA := hs.ext hgA
  have hpA : ∀ w', (w.alloc (.cells #[.slice ao Q.orders.length co, .slice ap Q.powers.length cp, .slice ac Q.conj.length cc] 28)).grownBy w' (some sb) → PresV F w' (.agg #[.slice ao Q.orders.length co, .slice ap Q.powers.length cp, .slice ac Q.conj.length cc]) Q := fun w' h => ⟨_, _, _, rfl, (h3.ext hgA).mono (frame_of h (fun k hk _ => ⟨hk, fun e => hF k hk (Option.some.inj e).symm⟩))⟩
  have hzA : (w.alloc (.cells #[.slice ao Q.orders.length co, .slice ap Q.powers.length cp, .slice ac Q.conj.length cc] 28)).heap.size = w.heap.size + 1 := by simp
  have HZ := Lib.hid (And.intro hzA (And.intro hsA hpA)); clear hzA hsA hs h3 hpA
  go_enter Tryz.func51, Tryz.ntmps51
  go_wp2_with fail
  generalize w.alloc (.cells #[.slice ao Q.orders.length co, .slice ap Q.powers.length cp, .slice ac Q.conj.length cc] 28) = w0 at *
  have hz1 : w.heap.size + 1 ≤ w0.heap.size := by have := HZ.out.1; omega
  refine Calls.mono (l01Next_ok B0 w0 sb 30 HZ.out.2.1) ?_
  rintro e3 w3 ⟨v3, rfl, hg3, x, rfl, _, _, hs3⟩
  have hsz3 := hg3.size
  have hbP := hbA.moved hg3 (by omega)
  obtain ⟨n, hn⟩ : ∃ n, n = Q.orders.length := ⟨_, rfl⟩
  have hfin : ∀ (w' : World) (v : Value) (L : List Int), w3.grownBy w' (some sb) → L.length ≤ 301 → Own w0.heap.size w' v L → Src B0 w' sb → Mut w (some sb) (DrawR B0 sb (IntsDr 301 w.heap.size)) (.returned v) w' := fun w' v L h1 h2 h3 h4 => ⟨_, rfl, grown_trans (grown_of_ext (some sb) hgA) (grown_trans hg3 h1), ⟨L, h2, h3.weak (by omega)⟩, h4⟩
  have HX := Lib.hid (And.intro hs3 (And.intro hfin (And.intro hQl (fun w' (h : w3.grownBy w' (some sb)) => HZ.out.2.2 w' (grown_trans hg3 h))))); clear hs3 hfin HZ
  obtain ⟨D, hD⟩ : ∃ D, D = Q.orders.length := ⟨_, rfl⟩
  rw [← hn] at hbP hQl ⊢
  have HX3 : Hid (∀ w', w3.grownBy w' (some sb) → PresV F w' (.agg #[.slice ao n co, .slice ap Q.powers.length cp, .slice ac Q.conj.length cc]) Q) := Lib.hid (by rw [hn]; exact HX.out.2.2.2)
  clear hn hD
  obtain ⟨-, q0, q1, q2, -⟩ := id hbP
  have e0 : ∀ w', w3.grownBy w' (some sb) → w'.cell? ⟨w.heap.size, 0, none⟩ = some (.slice ao n co) := fun w' h => h.cell q0 (by simp; omega)
  have e1 : ∀ w', w3.grownBy w' (some sb) → w'.cell? ⟨w.heap.size, 1, none⟩ = some (.slice ap Q.powers.length cp) := fun w' h => h.cell q1 (by simp; omega)
  have e2 : ∀ w', w3.grownBy w' (some sb) → w'.cell? ⟨w.heap.size, 2, none⟩ = some (.slice ac Q.conj.length cc) := fun w' h => h.cell q2 (by simp; omega)
  clear q0 q1 q2 hbP hbA hg3 hgA
  by_cases hx0 : x = 0
  · subst hx0
    have hn1 : IntKind.i64.wrap ((n : Int) + 1) = (n : Int) + 1 := IntWalk.i64_in _ (by omega)
    go_wp2_with fail
    go_region_held3 (fun w' => w3.grownBy w' (some sb)) (first | exact grown_of_ext (some sb) (grown_drew _ _) | exact grown_of_ext (some sb) (grown_trans (grown_drew _ _) (World.grownBy_alloc _ _ _)) | assumption | exact grown_trans hg5 (grown_of_ext (some sb) (World.grownBy_alloc _ _ _)) | exact grown_trans hg06 (grown_of_ext (some sb) (World.grownBy_alloc _ _ _)) | exact grown_trans hg07 (grown_of_ext (some sb) (World.grownBy_alloc _ _ _)))
      (first
        | (go_at_call 84; refine Calls.mono (l01Next_ok B0 _ sb 4 (by first | exact HX.out.1.ext (grown_drew _ _) | exact HX.out.1.ext (grown_trans (grown_drew _ _) (World.grownBy_alloc _ _ _)))) ?_; rintro e5 w5 ⟨v5, rfl, hg5a, y0, rfl, hy0, hy1, hs5⟩; have hg5 : w3.grownBy w5 (some sb) := (by first | exact grown_trans (grown_of_ext (some sb) (grown_drew _ _)) hg5a | exact grown_trans (grown_of_ext (some sb) (grown_trans (grown_drew _ _) (World.grownBy_alloc _ _ _))) hg5a); have hsz5 := hg5.size; obtain ⟨y, rfl⟩ := Int.eq_ofNat_of_zero_le (show 0 ≤ y0 by omega); have hyb : y ≤ 100 := by omega)
        | (go_at_call 112; refine Calls.mono (l09Letters_ok B0 _ sb _ Q F y hyb (by first | omega | (have := hg5.size; simp; omega)) (by first | exact hs5 | exact hs5.ext (World.grownBy_alloc _ _ _)) (by first | exact HX3.out w5 hg5 | exact HX3.out _ (grown_trans hg5 (grown_of_ext (some sb) (World.grownBy_alloc _ _ _)))) HX.out.2.2.1) ?_; rintro e6 w6 ⟨v6, rfl, hg6a, ⟨L, hLl, hO6⟩, hs6⟩; have hg06 : w3.grownBy w6 (some sb) := (by first | exact grown_trans hg5 hg6a | exact grown_trans hg5 (grown_trans (grown_of_ext (some sb) (World.grownBy_alloc _ _ _)) hg6a)); have hsz6 := hg06.size; have hO6w : Own w3.heap.size w6 v6 L := hO6.weak (by first | omega | (simp; omega)))
        | (go_at_call 113; refine Calls.mono (l01Pick_ok B0 _ sb _ [0, -1, (n : Int) + 1] (fun k => k ≠ sb) (by first | exact hs6 | exact hs6.ext (World.grownBy_alloc _ _ _)) (by first | exact Ints.sub (ints_litL w6 [0, -1, (n : Int) + 1] (by simp)) (fun k hk _ => by have hk : k = w6.heap.size := hk; omega) | exact lit_moved (ints_litL w5 [0, -1, (n : Int) + 1] (by simp)) (fun k hk => by have hk : k = w5.heap.size := hk; omega) hg6a | exact lit_moved (lit_moved (ints_litL w3.drew [0, -1, (n : Int) + 1] (by simp)) (fun k hk => by have hk : k = w3.heap.size := hk; omega) hg5a) (fun k hk => hk) hg6a) (fun k hk => hk) (by simp) (by simp)) ?_; rintro e7 w7 ⟨v7, rfl, hg7a, i7, _, rfl, hs7⟩; have hg07 : w3.grownBy w7 (some sb) := (by first | exact grown_trans hg06 hg7a | exact grown_trans hg06 (grown_trans (grown_of_ext (some sb) (World.grownBy_alloc _ _ _)) hg7a)); have hO7 : Own w3.heap.size w7 v6 L := (by first | exact hO6w.kept hg7a (.inr (fun e => by have := (hO6w.lt sb e).1; omega)) | exact (hO6w.ext0 (World.grownBy_alloc _ _ _)).kept hg7a (.inr (fun e => by have := (hO6w.lt sb e).1; omega))); have hsz7 := hg07.size; generalize gt [0, -1, (n : Int) + 1] i7 = y7)
        | (refine step_app_int rfl _ _ rfl w3.heap.size _ L y7 rfl w7 hO7 rfl rfl (by omega) (by omega) ?_; intro v8 w8 hO8 hg8; have hg08 : w3.grownBy w8 (some sb) := grown_own hg07 hg8 (fun j hj hlt => by have := (hO7.lt j hj).1; omega)))
    all_goals
      have hs8 := hs7.own hg8 (fun j hj => by have := (hO7.lt j hj).1; omega)
      have HE := Lib.hid (HX.out.2.1 w8 v8 (L ++ [y7]) hg08 (by simp; omega) (hO8.weak (by omega)) hs8)
      go_wp2
      go_ret
      exact HE.out
  have hxb0 : (x == 0) = false := by simp [hx0]
  clear hx0
  by_cases hx1 : x = 1
  · subst hx1
    have hL := ints_litL w3.drew [64, 65] (by simp)
    have HL := Lib.hid hL; clear hL
    go_wp2_with fail
    go_region_held3 (fun w' => w3.grownBy w' (some sb)) (first | exact grown_of_ext (some sb) (grown_drew _ _) | exact grown_of_ext (some sb) (grown_trans (grown_drew _ _) (World.grownBy_alloc _ _ _)) | assumption)
      (first
        | (go_at_call 113; refine Calls.mono (l01Pick_ok B0 _ sb _ [64, 65] _ (HX.out.1.ext (grown_trans (grown_drew _ _) (World.grownBy_alloc _ _ _))) HL.out (fun k hk => by have hk : k = w3.heap.size := hk; omega) (by simp) (by simp)) ?_; rintro e5 w5 ⟨v5, rfl, hg5a, i, hi, rfl, hs5⟩; have hg5 : w3.grownBy w5 (some sb) := grown_trans (grown_of_ext (some sb) (grown_trans (grown_drew _ _) (World.grownBy_alloc _ _ _))) hg5a; have hsz5 := hg5.size; obtain ⟨y, hye, hyb⟩ : ∃ y : Nat, gt [64, 65] i = (y : Int) ∧ y ≤ 100 := (by have hi : i < 2 := hi; obtain rfl | rfl : i = 0 ∨ i = 1 := (by omega); exact ⟨64, rfl, by omega⟩; exact ⟨65, rfl, by omega⟩); rw [hye])
        | (go_at_call 112; refine Calls.mono (l09Letters_ok B0 w5 sb _ Q F y hyb (by omega) hs5 (HX3.out w5 hg5) HX.out.2.2.1) ?_; rintro e6 w6 ⟨v6, rfl, hg6, ⟨L, hLl, hO6⟩, hs6⟩; have hg06 : w3.grownBy w6 (some sb) := grown_trans hg5 hg6))
    have HE := Lib.hid (HX.out.2.1 w6 v6 L hg06 (by omega) (hO6.weak (by omega)) hs6)
    go_wp2
    go_ret
    exact HE.out
  · have hxb1 : (x == 1) = false := by simp [hx1]
    clear hx1
    go_wp2_with fail
    go_region_held3 (fun w' => w3.grownBy w' (some sb)) (first | exact grown_of_ext (some sb) (grown_drew _ _) | assumption)
      (first
        | (go_at_call 84; refine Calls.mono (l01Next_ok B0 _ sb 9 (HX.out.1.ext (grown_drew _ _))) ?_; rintro e5 w5 ⟨v5, rfl, hg5a, y0, rfl, hy0, hy1, hs5⟩; have hg5 : w3.grownBy w5 (some sb) := grown_trans (grown_of_ext (some sb) (grown_drew _ _)) hg5a; have hsz5 := hg5.size; obtain ⟨y, rfl⟩ := Int.eq_ofNat_of_zero_le (show 0 ≤ y0 by omega); have hyb : y ≤ 100 := by omega)
        | (go_at_call 112; refine Calls.mono (l09Letters_ok B0 w5 sb _ Q F y hyb (by omega) hs5 (HX3.out w5 hg5) HX.out.2.2.1) ?_; rintro e6 w6 ⟨v6, rfl, hg6, ⟨L, hLl, hO6⟩, hs6⟩; have hg06 : w3.grownBy w6 (some sb) := grown_trans hg5 hg6))
    have HE := Lib.hid (HX.out.2.1 w6 v6 L hg06 (by omega) (hO6.weak (by omega)) hs6)
    go_wp2
    go_ret
    exact HE.out

/-- a presentation and a list of integers -/
def PairW (M N B : Nat) (w' : World) (v : Value) : Prop := ∃ vo vp vc lv P L, ∃ x : Int, v = .tuple #[.agg #[vo, vp, vc], lv, .int .i64 x] ∧ P.orders.length ≤ M ∧ L.length ≤ N ∧ Pres3 (From B) w' vo vp vc P ∧ Ints (From B) w' lv L

set_option maxRecDepth 100000 in
set_option maxHeartbeats 8000000 in
theorem DrawCollectWord_ok (w : World) (cv : Value) (bs : List Int) (S : Nat → Prop) (hb : Bytes S w cv bs) :
    Calls Tryz.prog 8 #[cv] w (Ret w (PairW 7 301 w.heap.size)) := by
  obtain ⟨a, cap, rfl, _, _⟩ := Sl.shape hb
  have hbB := Box3.made w 28 (.slice none 0 0) (.slice none 0 0) (.slice none 0 0)
  have hg0 : Ext w (w.alloc (.cells #[.slice none 0 0, .slice none 0 0, .slice none 0 0] 28)) := World.grownBy_alloc _ _ _
  have hs0 : (w.alloc (.cells #[.slice none 0 0, .slice none 0 0, .slice none 0 0] 28)).heap.size = w.heap.size + 1 := by simp
  have hb0 := Bytes.ext hb hg0
  go_enter Tryz.func8, Tryz.ntmps8
  go_wp2_with fail
  generalize w.alloc (.cells #[.slice none 0 0, .slice none 0 0, .slice none 0 0] 28) = w0 at *
  have hs00 : w.heap.size + 1 ≤ w0.heap.size := by omega
  clear hs0
  refine Calls.mono (l01From_ok w0 _ bs S hb0) ?_
  rintro e0 wS ⟨v0, rfl, hgS, rfl, hsS⟩
  have hzS : w0.heap.size + 1 ≤ wS.heap.size := by have := hsS.lt; omega
  have hbS := hbB.ext hgS
  obtain ⟨sb, hsb⟩ : ∃ sb, sb = w0.heap.size := ⟨_, rfl⟩
  rw [← hsb] at hsS
  have hsb1 : w.heap.size + 1 ≤ sb ∧ sb + 1 ≤ wS.heap.size := by omega
  have hgw0 := grown_trans hg0 hgS
  have HSB := Lib.hid hsb
  clear hbB hb0 hg0 hgS hzS hs00
  go_wp2_with fail
  rw [← HSB.out]
  refine Calls.mono (l08Draw_ok (sb + 1) wS sb (by omega) (by rw [HSB.out]; rw [HSB.out] at hsS; exact hsS)) ?_
  rintro e1 w1 ⟨v1, rfl, hg1, ⟨vo, vp, vc, Q, rfl, hQl, hQ⟩, hs1⟩
  clear hsb
  obtain ⟨a1, n1, c1, hy1⟩ : ∃ a n c, vo = .slice a n c := by obtain ⟨a, c, e, _⟩ := hQ.o.shape; exact ⟨_, _, _, e⟩
  obtain ⟨a2, n2, c2, hy2⟩ : ∃ a n c, vp = .slice a n c := by obtain ⟨a, c, e, _⟩ := Sl.shape hQ.p; exact ⟨_, _, _, e⟩
  obtain ⟨a3, n3, c3, hy3⟩ : ∃ a n c, vc = .slice a n c := by obtain ⟨a, c, e, _⟩ := Sl.shape hQ.c; exact ⟨_, _, _, e⟩
  subst hy1 hy2 hy3
  have hgq : Ext w1 (w1.alloc (.cells #[.slice a1 n1 c1, .slice a2 n2 c2, .slice a3 n3 c3] 28)) := World.grownBy_alloc _ _ _
  have hbQ := Box3.made w1 28 (.slice a1 n1 c1) (.slice a2 n2 c2) (.slice a3 n3 c3)
  obtain ⟨pb, hpb⟩ : ∃ pb, pb = w1.heap.size := ⟨_, rfl⟩
  rw [← hpb] at hbQ
  have hs1' := hg1.size
  have hQ2 := hQ.ext hgq
  have hb1 := hbS.moved hg1 (by omega)
  have hb2 := hb1.ext hgq
  have hs2 := hs1.ext hgq
  have hgw2 : Ext w (w1.alloc (.cells #[.slice a1 n1 c1, .slice a2 n2 c2, .slice a3 n3 c3] 28)) := grown_trans (grown_own hgw0 hg1 (fun j hj hlt => by have := Option.some.inj hj; omega)) hgq
  have hzq : w1.heap.size ≤ (w1.alloc (.cells #[.slice a1 n1 c1, .slice a2 n2 c2, .slice a3 n3 c3] 28)).heap.size := hgq.size
  have HP := Lib.hid hpb
  have HQ := Lib.hid (And.intro hQ2 (And.intro hs2 (And.intro hgw2 hQl))); clear hQ hQ2 hs2 hs1 hg1 hbS hb1 hgq hgw2 hQl
  obtain ⟨q0, q1, q2, q3, q4⟩ := id hbQ
  go_wp2_with fail
  rw [← HP.out]
  clear q1 q2 q3 q4
  generalize w1.alloc (.cells #[.slice a1 n1 c1, .slice a2 n2 c2, .slice a3 n3 c3] 28) = w2 at *
  have hpw : wS.heap.size ≤ pb := by omega
  clear hpb HP
  refine Calls.mono (l09Draw_ok (sb + 1) w2 sb _ Q _ (by omega) HQ.out.2.1 ⟨_, _, _, rfl, HQ.out.1⟩ (fun k hk e => by have hk : wS.heap.size ≤ k := hk; omega) HQ.out.2.2.2) ?_
  rintro e3 w3 ⟨v3, rfl, hg3, ⟨L, hLl, hO3⟩, hs3⟩
  have hsz3 := hg3.size
  obtain ⟨la, lc, rfl, _, _⟩ := (hO3.ints (by omega)).shape
  have hbQ3 := hbQ.moved hg3 (by omega)
  have hb3 := hb2.moved hg3 (by omega)
  have hQ3 := HQ.out.1.keptB hg3 (fun k hk => by have := Option.some.inj hk; omega)
  have hgw3 : Ext w w3 := grown_own HQ.out.2.2.1 hg3 (fun j hj hlt => by have := Option.some.inj hj; omega)
  have H3 := Lib.hid (And.intro hQ3 (And.intro hs3 (And.intro hgw3 (And.intro HQ.out.2.2.2 (And.intro hO3 hLl))))); clear hQ3 hs3 hgw3 HQ hO3 hg3 hbQ hb2
  obtain ⟨q0, q1, q2, q3, q4⟩ := id hbQ3
  have e0 : ∀ w', NearS w3 sb w.heap.size w' → w'.cell? ⟨pb, 0, none⟩ = some (.slice a1 n1 c1) := fun w' h => h.cell q1 (by simp; omega) (by simp; omega)
  have e1 : ∀ w', NearS w3 sb w.heap.size w' → w'.cell? ⟨pb, 1, none⟩ = some (.slice a2 n2 c2) := fun w' h => h.cell q2 (by simp; omega) (by simp; omega)
  have e2 : ∀ w', NearS w3 sb w.heap.size w' → w'.cell? ⟨pb, 2, none⟩ = some (.slice a3 n3 c3) := fun w' h => h.cell q3 (by simp; omega) (by simp; omega)
  clear q0 q1 q2 q3 q4 hbQ3
  go_wp2_with fail
  go_region_held3 (fun w' => NearS w3 sb w.heap.size w') (first | exact NearS.ext (grown_drew _ _) | exact NearS.of (by assumption) | exact NearS.two hg4 (grown_set3 _ _ _ _ _) | assumption)
    (first
      | (go_at_call 52; refine Calls.mono (l09Limit_ok (sb + 1) w3.drew sb (H3.out.2.1.ext (grown_drew _ _))) ?_; rintro e4 w4 ⟨v4, rfl, hg4a, ⟨xl, rfl⟩, hs4⟩; have hg4 : w3.grownBy w4 (some sb) := grown_trans (grown_of_ext (some sb) (grown_drew _ _)) hg4a; have hb4 := hb3.moved hg4 (by omega); obtain ⟨b0, b1, b2, b3, b4⟩ := id hb4))
  have hdz := (grown_drew w3 none).size
  have hZ := hb4.all (.slice a1 n1 c1) (.slice a2 n2 c2) (.slice a3 n3 c3)
  obtain ⟨-, z0, z1, z2, -⟩ := id hZ
  have hP4 := H3.out.1.keptB hg4 (fun k hk => by have := Option.some.inj hk; omega)
  have hT := grown_set3 w4 w.heap.size (.slice a1 n1 c1) (.slice a2 n2 c2) (.slice a3 n3 c3)
  have hin : ∀ k, some w.heap.size = some k → k < wS.heap.size := fun k hk => by have := Option.some.inj hk; omega
  have hXi : Ints (From (sb + 1)) w3 (.slice la L.length lc) L := ints_of_own H3.out.2.2.2.2.1 (by have := H3.out.2.2.2.2.2; omega) (fun k hk => by have := (H3.out.2.2.2.2.1.lt k hk).1; show sb + 1 ≤ k; omega)
  have hX4 : Ints (From (sb + 1)) w4 (.slice la L.length lc) L := Ints.mono hXi (frame_of hg4 (fun k hk _ => ⟨hk, fun e => by have := Option.some.inj e; have hk : sb + 1 ≤ k := hk; omega⟩))
  have hXT : Ints (From w.heap.size) (((w4.setCell ⟨w.heap.size, 0, none⟩ (.slice a1 n1 c1)).setCell ⟨w.heap.size, 1, none⟩ (.slice a2 n2 c2)).setCell ⟨w.heap.size, 2, none⟩ (.slice a3 n3 c3)) (.slice la L.length lc) L := Ints.mono hX4 (frame_of hT (fun k hk _ => ⟨by have hk : sb + 1 ≤ k := hk; show w.heap.size ≤ k; omega, fun e => by have := Option.some.inj e; have hk : sb + 1 ≤ k := hk; omega⟩))
  have hend : Ret w (PairW 7 301 w.heap.size) (.returned (.tuple #[.agg #[.slice a1 n1 c1, .slice a2 n2 c2, .slice a3 n3 c3], .slice la L.length lc, .int .i64 xl])) (((w4.setCell ⟨w.heap.size, 0, none⟩ (.slice a1 n1 c1)).setCell ⟨w.heap.size, 1, none⟩ (.slice a2 n2 c2)).setCell ⟨w.heap.size, 2, none⟩ (.slice a3 n3 c3)) :=
    ⟨_, rfl, grown_own (grown_own H3.out.2.2.1 hg4 (fun j hj hlt => by have := Option.some.inj hj; omega)) hT (fun j hj hlt => by have := Option.some.inj hj; omega), _, _, _, _, Q, L, xl, rfl, H3.out.2.2.2.1, H3.out.2.2.2.2.2, (hP4.keptB hT hin).low (by omega), hXT⟩
  have HE := Lib.hid hend; clear hend hT hZ hP4 hXi hX4 hXT H3 hg4 hg4a hb3 hb4 hs4 e0 e1 e2
  go_wp2_with fail
  refine bodyPost_ret (v := .tuple #[.agg #[.slice a1 n1 c1, .slice a2 n2 c2, .slice a3 n3 c3], .slice la L.length lc, .int .i64 xl]) (by simp [results, Tryz.results8, go_sem, z0, z1, z2]) rfl ?_
  exact HE.out

end Go.Proofs.YtoakmefajbbggaaGreat
