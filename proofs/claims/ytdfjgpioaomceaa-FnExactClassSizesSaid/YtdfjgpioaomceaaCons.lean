/-
  Consistency, on both sides: spec.l08Fault, l08Consistent, l08Group; impl.consistentFrom, IsConsistent.
-/
import Derived.Test.YtdfjgpioaomceaaSLevel
namespace Go.Proofs.Ytdfjgpioaomceaa
open Go.RowKit

/-- what impl.IsConsistent answers, and what spec.l08Group answers -/
def IAll (P : Pr) : Prop := ∀ k, k < P.orders.length → ILevel P k
def RAll (P : Pr) : Prop := ∀ k, k < P.orders.length → RLevel P (P.orders.length - 1 - k) k
open Classical in
noncomputable def iconsB (P : Pr) : Bool := decide (Valid P ∧ IAll P)
open Classical in
noncomputable def rconsB (P : Pr) : Bool := decide (Valid P ∧ RAll P)

set_option maxRecDepth 100000 in
set_option maxHeartbeats 4000000 in
theorem l08Fault_ok (P : Pr) (hP : Valid P) (w : World) (pv : Value) (Sp : Nat → Prop) (hpv : PresV Sp w pv P) :
    Calls Try.prog 55 #[pv] w (Ret w fun _ v => FaultR (RAll P) v) := by
  have hn6 := hP.n6
  obtain ⟨vo, vp, vc, rfl, h3⟩ := hpv
  have hb0 := PresP.box h3 30
  have hg00 : Ext w ((w.alloc (.cells #[vo, vp, vc] 30)).alloc (.cells #[.int .i64 0, .int .i64 0, .int .i64 0, .int .i64 0] 74)) := grown_trans (World.grownBy_alloc _ _ _) (World.grownBy_alloc _ _ _)
  have hp0 := hb0.ext (World.grownBy_alloc (w.alloc (.cells #[vo, vp, vc] 30)) (.cells #[.int .i64 0, .int .i64 0, .int .i64 0, .int .i64 0] 74) none)
  obtain ⟨ao, capo, hco, hoi⟩ := hp0.ordAt
  go_enter Try.func55, Try.ntmps55
  go_wp2
  clear hco hoi
  have rsz : (w.alloc (.cells #[vo, vp, vc] 30)).heap.size = w.heap.size + 1 := by simp
  have r0 : ((w.alloc (.cells #[vo, vp, vc] 30)).alloc (.cells #[.int .i64 0, .int .i64 0, .int .i64 0, .int .i64 0] 74)).cell? ⟨w.heap.size + 1, 0, none⟩ = some (.int .i64 0) := by rw [World.cell?_alloc_at _ _ _ _ rsz.symm]; rfl
  have r1 : ((w.alloc (.cells #[vo, vp, vc] 30)).alloc (.cells #[.int .i64 0, .int .i64 0, .int .i64 0, .int .i64 0] 74)).cell? ⟨w.heap.size + 1, 1, none⟩ = some (.int .i64 0) := by rw [World.cell?_alloc_at _ _ _ _ rsz.symm]; rfl
  have r2 : ((w.alloc (.cells #[vo, vp, vc] 30)).alloc (.cells #[.int .i64 0, .int .i64 0, .int .i64 0, .int .i64 0] 74)).cell? ⟨w.heap.size + 1, 2, none⟩ = some (.int .i64 0) := by rw [World.cell?_alloc_at _ _ _ _ rsz.symm]; rfl
  have r3 : ((w.alloc (.cells #[vo, vp, vc] 30)).alloc (.cells #[.int .i64 0, .int .i64 0, .int .i64 0, .int .i64 0] 74)).cell? ⟨w.heap.size + 1, 3, none⟩ = some (.int .i64 0) := by rw [World.cell?_alloc_at _ _ _ _ rsz.symm]; rfl
  have rf : ∀ k, ((w.alloc (.cells #[vo, vp, vc] 30)).alloc (.cells #[.int .i64 0, .int .i64 0, .int .i64 0, .int .i64 0] 74)).frozen? ⟨w.heap.size + 1, k, none⟩ = false := fun k => World.frozen?_alloc_at _ _ _ _ rsz.symm
  have rs : w.heap.size + 1 < ((w.alloc (.cells #[vo, vp, vc] 30)).alloc (.cells #[.int .i64 0, .int .i64 0, .int .i64 0, .int .i64 0] 74)).heap.size := by simp
  clear rsz hb0
  generalize (w.alloc (.cells #[vo, vp, vc] 30)).alloc (.cells #[.int .i64 0, .int .i64 0, .int .i64 0, .int .i64 0] 74) = w0 at *
  have RR := Lib.hid (And.intro r0 (And.intro r1 (And.intro r2 (And.intro r3 rf)))); clear r0 r1 r2 r3 rf
  go_loopw [3] (fun jv wr => ∃ c : Nat, jv = .int .i64 ((c : Int) - 1) ∧ c ≤ P.orders.length ∧ Ext w0 wr ∧ ∀ m, c ≤ m → m < P.orders.length → RLevel P (P.orders.length - 1 - m) m) (fun jv _ => (intOf jv + 1).toNat)
  case atStart => exact ⟨P.orders.length, by go_num, by omega, Ext.refl _, fun m h1 h2 => by omega⟩
  case round =>
    obtain ⟨c, rfl, hc, hg, hlev⟩ := hrel
    have HLV := Lib.hid hlev; clear hlev
    have rr0 := hg.cell RR.out.1 (by simp)
    have rr1 := hg.cell RR.out.2.1 (by simp)
    have rr2 := hg.cell RR.out.2.2.1 (by simp)
    have rr3 := hg.cell RR.out.2.2.2.1 (by simp)
    have rrf := fun k => frozen_ext hg (RR.out.2.2.2.2 k) rs
    have rrs : w.heap.size + 1 < wr.heap.size := Nat.lt_of_lt_of_le rs hg.size
    have RRr := Lib.hid (And.intro rr0 (And.intro rr1 (And.intro rr2 (And.intro rr3 rrf)))); clear rr0 rr1 rr2 rr3 rrf
    by_cases hpos : 1 ≤ c
    · obtain ⟨c1, rfl⟩ : ∃ c1, c = c1 + 1 := ⟨c - 1, by omega⟩
      have e1 : ((c1 + 1 : Nat) : Int) - 1 = c1 := by omega
      rw [e1]
      obtain ⟨vo5, vp5, vc5, _, _, hb1, hb2, hb3, h3r⟩ := (hp0.ext hg).at
      simp at hb2 hb3
      go_wp2_with fail
      refine Calls.mono (l08Level_ok P hP wr _ c1 (P.orders.length - 1 - c1) _ ⟨_, _, _, rfl, h3r⟩ (by omega)) ?_
      rintro eA wA ⟨vA, rfl, hgA, hFA⟩
      clear hb1 hb2 hb3 e1
      have gA := grown_trans hgA (World.grownBy_alloc wA (.cells #[.int .i64 0, .int .i64 0, .int .i64 0, .int .i64 0] 74) none)
      rcases hFA with ⟨hgood, hv⟩ | ⟨hbad, k0, k1, k2, k3, hk, rfl⟩
      · unfold fault0 at hv
        subst hv
        go_wp2
        go_roundw
        case rel => exact ⟨c1, by go_num, by omega, grown_trans hg (grown_trans hgA (World.grownBy_alloc _ _ _)), fun m h1 h2 => by
          rcases Nat.lt_or_ge c1 m with h3 | h3
          · exact HLV.out m h3 h2
          · have : m = c1 := by omega
            rw [this]; exact hgood⟩
        case measure => simp [intOf]
      · have gB : Ext wr (wA.alloc (.cells #[.int .i64 k0, .int .i64 k1, .int .i64 k2, .int .i64 k3] 74)) := grown_trans hgA (World.grownBy_alloc _ _ _)
        have c0 := gB.cell RRr.out.1 (by simp)
        have c1' := gB.cell RRr.out.2.1 (by simp)
        have c2 := gB.cell RRr.out.2.2.1 (by simp)
        have c3 := gB.cell RRr.out.2.2.2.1 (by simp)
        have cf0 := frozen_ext gB (RRr.out.2.2.2.2 0) rrs
        have cf1 := frozen_ext gB (RRr.out.2.2.2.2 1) rrs
        have cf2 := frozen_ext gB (RRr.out.2.2.2.2 2) rrs
        have cf3 := frozen_ext gB (RRr.out.2.2.2.2 3) rrs
        go_wp2
        refine bodyPost_ret (v := .agg #[.int .i64 k0, .int .i64 k1, .int .i64 k2, .int .i64 k3]) (by simp [results, Try.results55, go_sem, c0, c1', c2, c3]) rfl ⟨_, rfl, ext_set4 (grown_trans hg00 (grown_trans hg gB)) (by omega) _ _ _ _, .inr ⟨fun h => hbad (h c1 (by omega)), _, _, _, _, hk, rfl⟩⟩
    · have hc0 : c = 0 := by omega
      subst hc0
      have c0 := RRr.out.1
      have c1 := RRr.out.2.1
      have c2 := RRr.out.2.2.1
      have c3 := RRr.out.2.2.2.1
      have cf0 := RRr.out.2.2.2.2 0
      have cf1 := RRr.out.2.2.2.2 1
      have cf2 := RRr.out.2.2.2.2 2
      have cf3 := RRr.out.2.2.2.2 3
      go_wp2
      refine bodyPost_ret (v := .agg #[.int .i64 0, .int .i64 0, .int .i64 0, .int .i64 0]) (by simp [results, Try.results55, go_sem, c0, c1, c2, c3]) rfl ⟨_, rfl, ext_set4 (grown_trans hg00 hg) (by omega) _ _ _ _, .inl ⟨fun m h => HLV.out m (by omega) h, rfl⟩⟩

open Classical in
theorem faultR_of {good : Prop} {v : Value} (h : FaultR good v) : ∃ a b c d : Int, v = .agg #[.int .i64 a, .int .i64 b, .int .i64 c, .int .i64 d] ∧ (a == 0) = decide good := by
  rcases h with ⟨hg, rfl⟩ | ⟨hb, a, b, c, d, ha, rfl⟩
  · exact ⟨0, 0, 0, 0, rfl, by simp [hg]⟩
  · exact ⟨a, b, c, d, rfl, by simp [hb, ha]⟩

open Classical in
set_option maxRecDepth 100000 in
set_option maxHeartbeats 4000000 in
theorem l08Consistent_ok (P : Pr) (hP : Valid P) (w : World) (pv : Value) (Sp : Nat → Prop) (hpv : PresV Sp w pv P) :
    Calls Try.prog 36 #[pv] w (Ret w fun _ v => v = .bool (decide (RAll P))) := by
  obtain ⟨vo, vp, vc, rfl, h3⟩ := hpv
  have hp0 := PresP.box h3 30
  have hg0 : Ext w (w.alloc (.cells #[vo, vp, vc] 30)) := World.grownBy_alloc _ _ _
  go_enter Try.func36, Try.ntmps36
  go_wp2_with fail
  refine Calls.mono (l08Fault_ok P hP _ _ _ ⟨_, _, _, rfl, Pres3.ext h3 (World.grownBy_alloc _ _ _)⟩) ?_
  rintro eA wA ⟨vA, rfl, hgA, hFA⟩
  obtain ⟨a, b, c, d, rfl, hab⟩ := faultR_of hFA
  have hfd : ∀ w : World, (Instr.field 74 (.agg #[.int .i64 a, .int .i64 b, .int .i64 c, .int .i64 d]) 0).run Try.prog w = .ok (.int .i64 a) w := fun _ => by kernel_rfl
  go_wp2
  exact bodyPost_ret (v := .bool (decide (RAll P))) (by simp [results, Try.results36, go_sem]) rfl ⟨_, rfl, grown_trans hg0 hgA, rfl⟩

open Classical in
set_option maxRecDepth 100000 in
set_option maxHeartbeats 4000000 in
theorem l08Group_ok (P : Pr) (w : World) (pv : Value) (Sp : Nat → Prop) (hpv : PresV Sp w pv P) :
    Calls Try.prog 26 #[pv] w (Ret w fun _ v => v = .bool (rconsB P)) := by
  obtain ⟨vo, vp, vc, rfl, h3⟩ := hpv
  have hp0 := PresP.box h3 30
  have hg0 : Ext w (w.alloc (.cells #[vo, vp, vc] 30)) := World.grownBy_alloc _ _ _
  go_enter Try.func26, Try.ntmps26
  go_wp2_with fail
  refine Calls.mono (sIsPresentation_ok _ _ P _ ⟨_, _, _, rfl, Pres3.ext h3 (World.grownBy_alloc _ _ _)⟩) ?_
  rintro eA wA ⟨vA, rfl, hgA, rfl⟩
  obtain ⟨vo5, vp5, vc5, _, _, hb1, hb2, hb3, h3r⟩ := (hp0.ext hgA).at
  simp at hb2 hb3
  by_cases hv : Valid P
  · have h1 : validB P = true := by simp [validB, hv]
    rw [h1]
    go_wp2_with fail
    refine Calls.mono (l08Consistent_ok P hv _ _ _ ⟨_, _, _, rfl, h3r⟩) ?_
    rintro eB wB ⟨vB, rfl, hgB, rfl⟩
    go_wp2
    exact bodyPost_ret (v := .bool (rconsB P)) (by simp [results, Try.results26, go_sem, rconsB, hv]) rfl ⟨_, rfl, grown_trans hg0 (grown_trans hgA hgB), rfl⟩
  · have h1 : validB P = false := by simp [validB, hv]
    rw [h1]
    go_wp2
    exact bodyPost_ret (v := .bool (rconsB P)) (by simp [results, Try.results26, go_sem, rconsB, hv]) rfl ⟨_, rfl, grown_trans hg0 hgA, rfl⟩

/-- what impl.consistentFrom answers: the first level from which on no level shows a fault -/
def IFrom (P : Pr) (c : Nat) : Prop := c ≤ P.orders.length ∧ (∀ m, c ≤ m → m < P.orders.length → ILevel P m) ∧ (0 < c → ¬ ILevel P (c - 1))

open Classical in
set_option maxRecDepth 100000 in
set_option maxHeartbeats 4000000 in
theorem consistentFrom_ok (P : Pr) (hP : Valid P) (w : World) (p : Value) (Sp : Nat → Prop) (hp : PresP Sp w p P) :
    Calls Try.prog 41 #[p] w (Ret w fun _ v => ∃ c : Nat, v = .int .i64 c ∧ IFrom P c) := by
  have hn6 := hP.n6
  obtain ⟨pb, po, rfl, _⟩ := hp.shape
  obtain ⟨ao, capo, hco, hoi⟩ := hp.ordAt
  go_enter Try.func41, Try.ntmps41
  go_wp2
  clear hco hoi
  go_loopw [3] (fun jv wr => ∃ c : Nat, jv = .int .i64 (c : Int) ∧ c ≤ P.orders.length ∧ Ext w wr ∧ ∀ m, c ≤ m → m < P.orders.length → ILevel P m) (fun jv _ => (intOf jv).toNat)
  case atStart => exact ⟨P.orders.length, by go_num, by omega, Ext.refl _, fun m h1 h2 => by omega⟩
  case round =>
    obtain ⟨c, rfl, hc, hg, hlev⟩ := hrel
    have HLV := Lib.hid hlev; clear hlev
    by_cases hpos : 1 ≤ c
    · obtain ⟨c1, rfl⟩ : ∃ c1, c = c1 + 1 := ⟨c - 1, by omega⟩
      go_wp2_with fail
      refine Calls.mono (levelFault_ok P hP wr _ c1 _ (hp.ext hg) (by omega)) ?_
      rintro eA wA ⟨vA, rfl, hgA, hFA⟩
      rcases hFA with ⟨hgood, hv⟩ | ⟨hbad, k0, k1, k2, k3, hk, rfl⟩
      · unfold fault0 at hv
        subst hv
        go_wp2
        go_roundw
        case rel => exact ⟨c1, by go_num, by omega, grown_trans hg hgA, fun m h1 h2 => by
          rcases Nat.lt_or_ge c1 m with h3 | h3
          · exact HLV.out m h3 h2
          · have : m = c1 := by omega
            rw [this]; exact hgood⟩
        case measure => simp [intOf]
      · go_wp2
        exact bodyPost_ret (v := .int .i64 ((c1 + 1 : Nat) : Int)) (by simp [results, Try.results41, go_sem]) rfl ⟨_, rfl, grown_trans hg hgA, c1 + 1, rfl, hc, HLV.out, fun _ => by simpa using hbad⟩
    · have hc0 : c = 0 := by omega
      subst hc0
      go_wp2
      exact bodyPost_ret (v := .int .i64 ((0 : Nat) : Int)) (by simp [results, Try.results41, go_sem]) rfl ⟨_, rfl, hg, 0, rfl, by omega, HLV.out, fun h => by omega⟩

open Classical in
set_option maxRecDepth 100000 in
set_option maxHeartbeats 4000000 in
theorem isConsistent_ok (P : Pr) (w : World) (pv : Value) (Sp : Nat → Prop) (hpv : PresV Sp w pv P) :
    Calls Try.prog 30 #[pv] w (Ret w fun _ v => v = .bool (iconsB P)) := by
  obtain ⟨vo, vp, vc, rfl, h3⟩ := hpv
  have hp0 := PresP.box h3 30
  have hg0 : Ext w (w.alloc (.cells #[vo, vp, vc] 30)) := World.grownBy_alloc _ _ _
  go_enter Try.func30, Try.ntmps30
  go_wp2_with fail
  refine Calls.mono (isPresentation_ok _ _ P _ ⟨_, _, _, rfl, Pres3.ext h3 (World.grownBy_alloc _ _ _)⟩) ?_
  rintro eA wA ⟨vA, rfl, hgA, rfl⟩
  by_cases hv : Valid P
  · have h1 : validB P = true := by simp [validB, hv]
    rw [h1]
    go_wp2_with fail
    refine Calls.mono (consistentFrom_ok P hv _ _ _ (hp0.ext hgA)) ?_
    rintro eB wB ⟨vB, rfl, hgB, c, rfl, hc⟩
    have hcb : ((c : Int) == 0) = iconsB P := by
      obtain ⟨hc1, hc2, hc3⟩ := hc
      cases c with
      | zero => simp [iconsB, hv]; exact fun k hk => hc2 k (Nat.zero_le _) hk
      | succ c =>
        have : iconsB P = false := by
          simp only [iconsB, decide_eq_false_iff_not]
          rintro ⟨_, h⟩
          exact hc3 (by omega) (h c (by omega))
        rw [this]
        simp
        omega
    go_wp2
    exact bodyPost_ret (v := .bool (iconsB P)) (by simp [results, Try.results30, go_sem]) rfl ⟨_, rfl, grown_trans hg0 (grown_trans hgA hgB), rfl⟩
  · have h1 : validB P = false := by simp [validB, hv]
    rw [h1]
    go_wp2
    exact bodyPost_ret (v := .bool (iconsB P)) (by simp [results, Try.results30, go_sem, iconsB, hv]) rfl ⟨_, rfl, grown_trans hg0 hgA, rfl⟩

end Go.Proofs.Ytdfjgpioaomceaa
