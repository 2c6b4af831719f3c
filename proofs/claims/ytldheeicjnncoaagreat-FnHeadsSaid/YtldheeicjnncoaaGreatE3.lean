/-
  The reference's look at one level of a presentation: spec.l08Level.
  Consistency, on both sides: spec.l08Fault, l08Consistent, l08Group; impl.consistentFrom, IsConsistent.
  Plain: level by level a consistent presentation's tails are groups; the program's product is the reference's there, and both find the same faults.
  Plain: a level without a fault makes the tail before it a group; so the two sides' words 'consistent' agree, and in a consistent presentation the two products.
  Plain: the two sides' inverses and conjugates in a consistent presentation.
  Plain: subgroups of a consistent presentation; what a table by depths must hold so that its products are a subgroup.
-/
import Derived.Test.YtldheeicjnncoaaGreatE2
namespace Go.Proofs.YtldheeicjnncoaaGreat
open Go.RowKit

def RCond1 (P : Pr) (f i J : Nat) : Prop := rRep (rAt P f (i + 1)) (zeros P.orders.length) (gt (gt P.conj i) (J - i - 1)) (gt P.orders J).toNat = rImage P f i (gt P.powers J)
def RCond2 (P : Pr) (f i J K : Nat) : Prop := rAt P f (i + 1) (gt (gt P.conj i) (K - i - 1)) (gt (gt P.conj i) (J - i - 1)) = rAt P f (i + 1) (gt (gt P.conj i) (J - i - 1)) (rImage P f i (gt (gt P.conj J) (K - J - 1)))
def RCond3 (P : Pr) (f i : Nat) : Prop := rImage P f i (gt P.powers i) = gt P.powers i
def RCond4 (P : Pr) (f i J : Nat) : Prop := rAt P f (i + 1) (gt P.powers i) (iter (gt P.orders i).toNat (fun x => rImage P f i x) (unitV P.orders.length J)) = rAt P f (i + 1) (unitV P.orders.length J) (gt P.powers i)

/-- no fault at level i, as the reference looks -/
structure RLevel (P : Pr) (f i : Nat) : Prop where
  c1 : ∀ J, i < J → J < P.orders.length → RCond1 P f i J
  c2 : ∀ J K, i < J → J < K → K < P.orders.length → RCond2 P f i J K
  c3 : RCond3 P f i
  c4 : ∀ J, i < J → J < P.orders.length → RCond4 P f i J

theorem rImage_vec {P : Pr} (hP : Valid P) (f i : Nat) (hi : i + (f + 1) = P.orders.length) (x : List Int) : Vec P.orders (rImage P f i x) :=
  rImgTo_vec hP f i hi (rAt_vec hP f) _ _ (zeros_vec hP) f (Nat.le_refl _)

theorem rRepF_vec {P : Pr} (hP : Valid P) (f i : Nat) (hi : i + f = P.orders.length) : ∀ (g : Nat) (o b : List Int) (k : Nat), Vec P.orders o → Vec P.orders b → Vec P.orders (rRepF (rAt P f i) g o b k) := by
  intro g
  induction g with
  | zero => intro o b k ho _; exact ho
  | succ g ih =>
    intro o b k ho hb
    simp only [rRepF]
    split
    · exact ho
    · refine ih _ _ _ ?_ (rAt_vec hP f i _ _ hi hb hb)
      split
      · exact rAt_vec hP f i _ _ hi ho hb
      · exact ho

set_option maxRecDepth 100000 in
set_option maxHeartbeats 8000000 in
theorem l08Level_ok (P : Pr) (hP : Valid P) (w : World) (pv : Value) (i f : Nat) (Sp : Nat → Prop) (hpv : PresV Sp w pv P) (hif : i + (f + 1) = P.orders.length) :
    Calls Tryz.prog 352 #[pv, .int .i64 i] w (Ret w fun _ v => FaultR (RLevel P f i) v) := by
  have hi : i < P.orders.length := by omega
  have hn6 := hP.n6
  obtain ⟨vo, vp, vc, rfl, h3⟩ := hpv
  have hb0 := PresP.box h3 28
  have hg00 : Ext w ((w.alloc (.cells #[vo, vp, vc] 28)).alloc (.cells #[.int .i64 0, .int .i64 0, .int .i64 0, .int .i64 0] 174)) := grown_trans (World.grownBy_alloc _ _ _) (World.grownBy_alloc _ _ _)
  have hp0 := hb0.ext (World.grownBy_alloc (w.alloc (.cells #[vo, vp, vc] 28)) (.cells #[.int .i64 0, .int .i64 0, .int .i64 0, .int .i64 0] 174) none)
  obtain ⟨ao, capo, hco, hoi⟩ := hp0.ordAt
  go_enter Tryz.func352, Tryz.ntmps352
  go_wp2
  clear hco hoi
  have rsz : (w.alloc (.cells #[vo, vp, vc] 28)).heap.size = w.heap.size + 1 := by simp
  have r0 : ((w.alloc (.cells #[vo, vp, vc] 28)).alloc (.cells #[.int .i64 0, .int .i64 0, .int .i64 0, .int .i64 0] 174)).cell? ⟨w.heap.size + 1, 0, none⟩ = some (.int .i64 0) := by rw [World.cell?_alloc_at _ _ _ _ rsz.symm]; rfl
  have r1 : ((w.alloc (.cells #[vo, vp, vc] 28)).alloc (.cells #[.int .i64 0, .int .i64 0, .int .i64 0, .int .i64 0] 174)).cell? ⟨w.heap.size + 1, 1, none⟩ = some (.int .i64 0) := by rw [World.cell?_alloc_at _ _ _ _ rsz.symm]; rfl
  have r2 : ((w.alloc (.cells #[vo, vp, vc] 28)).alloc (.cells #[.int .i64 0, .int .i64 0, .int .i64 0, .int .i64 0] 174)).cell? ⟨w.heap.size + 1, 2, none⟩ = some (.int .i64 0) := by rw [World.cell?_alloc_at _ _ _ _ rsz.symm]; rfl
  have r3 : ((w.alloc (.cells #[vo, vp, vc] 28)).alloc (.cells #[.int .i64 0, .int .i64 0, .int .i64 0, .int .i64 0] 174)).cell? ⟨w.heap.size + 1, 3, none⟩ = some (.int .i64 0) := by rw [World.cell?_alloc_at _ _ _ _ rsz.symm]; rfl
  have rf : ∀ k, ((w.alloc (.cells #[vo, vp, vc] 28)).alloc (.cells #[.int .i64 0, .int .i64 0, .int .i64 0, .int .i64 0] 174)).frozen? ⟨w.heap.size + 1, k, none⟩ = false := fun k => World.frozen?_alloc_at _ _ _ _ rsz.symm
  have rs : w.heap.size + 1 < ((w.alloc (.cells #[vo, vp, vc] 28)).alloc (.cells #[.int .i64 0, .int .i64 0, .int .i64 0, .int .i64 0] 174)).heap.size := by simp
  clear rsz hb0
  generalize (w.alloc (.cells #[vo, vp, vc] 28)).alloc (.cells #[.int .i64 0, .int .i64 0, .int .i64 0, .int .i64 0] 174) = w0 at *
  have RR := Lib.hid (And.intro r0 (And.intro r1 (And.intro r2 (And.intro r3 rf)))); clear r0 r1 r2 r3 rf
  have hvw := (hP.pv i hi).1
  have HVW := Lib.hid hvw; clear hvw
  have hcl := hP.cl
  have hpl := hP.pl
  have hic : i < P.conj.length := by omega
  have hip : i < P.powers.length := by omega
  have hcv := hP.cv i hi
  have HCV := Lib.hid hcv; clear hcv
  have HCL := Lib.hid hcl; have HPL := Lib.hid hpl; clear hcl hpl
  go_loopw [7] (fun jv wr => ∃ J : Nat, jv = .int .i64 J ∧ i + 1 ≤ J ∧ J ≤ P.orders.length ∧ Ext w0 wr ∧ ∀ m, i < m → m < J → RCond1 P f i m) (fun jv _ => P.orders.length - (intOf jv).toNat)
  case atStart => exact ⟨i + 1, by go_num, by omega, by omega, Ext.refl _, fun m h1 h2 => by omega⟩
  case round =>
    obtain ⟨J, rfl, hJ1, hJ2, hg, hc1⟩ := hrel
    have HC1 := Lib.hid hc1; clear hc1
    by_cases hlt : J < P.orders.length
    · --<P1
      have hJb : (J : Int) < P.orders.length := by omega
      obtain ⟨vo5, vp5, vc5, _, _, hb1, hb2, hb3, h3r⟩ := (hp0.ext hg).at
      obtain ⟨ao, capo, rfl, _, _⟩ := h3r.o.shape
      obtain ⟨bo, oo, rfl, _, _, hcoi⟩ := Ints.at h3r.o J hlt
      obtain ⟨ap, capp, rfl, _, _⟩ := Sl.shape h3r.p
      obtain ⟨bp, op, ap2, capp2, rfl, _, _, hcpi, hpii⟩ := Rows2.at h3r.p J (by have := HPL.out; omega)
      obtain ⟨ac, capc, rfl, _, _⟩ := Sl.shape h3r.c
      obtain ⟨bc, oc, ac2, capc2, rfl, _, _, hcci, hcii⟩ := Rows3.at h3r.c i hic
      obtain ⟨bd, od, ad2, capd2, rfl, _, _, hcd, hid⟩ := Rows2.at hcii (J - i - 1) (by rw [HCV.out.1]; omega)
      have e1 : ∀ w', Ext wr w' → w'.cell? ⟨w.heap.size, 0, none⟩ = some (.slice (some ⟨bo, oo, none⟩) P.orders.length capo) := fun w' h => h.cell hb1 (by simp)
      have e2 : ∀ w', Ext wr w' → w'.cell? ⟨w.heap.size, 1, none⟩ = some (.slice (some ⟨bp, op, none⟩) P.powers.length capp) := fun w' h => h.cell (by simpa using hb2) (by simp)
      have e3 : ∀ w', Ext wr w' → w'.cell? ⟨w.heap.size, 2, none⟩ = some (.slice (some ⟨bc, oc, none⟩) P.conj.length capc) := fun w' h => h.cell (by simpa using hb3) (by simp)
      have e4 : ∀ w', Ext wr w' → w'.cell? ⟨bo, oo + J, none⟩ = some (.int .i64 (gt P.orders J)) := fun w' h => h.cell hcoi (by simp)
      have e5 : ∀ w', Ext wr w' → w'.cell? ⟨bp, op + J, none⟩ = some (.slice ap2 (gt P.powers J).length capp2) := fun w' h => h.cell hcpi (by simp)
      have e6 : ∀ w', Ext wr w' → w'.cell? ⟨bc, oc + i, none⟩ = some (.slice (some ⟨bd, od, none⟩) (gt P.conj i).length capc2) := fun w' h => h.cell hcci (by simp)
      have e7 : ∀ w', Ext wr w' → w'.cell? ⟨bd, od + (J - i - 1), none⟩ = some (.slice ad2 (gt (gt P.conj i) (J - i - 1)).length capd2) := fun w' h => h.cell hcd (by simp)
      have b1 : (0 : Int) ≤ (J : Int) - i - 1 := by omega
      have b2 : (J : Int) - i - 1 < (gt P.conj i).length := by rw [HCV.out.1]; omega
      have b3 : (i : Int) < P.conj.length := by omega
      have b4 : (J : Int) < P.powers.length := by have := HPL.out; omega
      have b6 : (0 : Int) ≤ J := by omega
      have b7 : ((J : Int) - i - 1).toNat = J - i - 1 := by omega
      have b8 : (1 : Int) ≤ (J : Int) - i := by omega
      have s1 : IntKind.i64.wrap ((J : Int) - i) = (J : Int) - i := IntWalk.i64_in _ (by omega)
      have s2 : IntKind.i64.wrap ((J : Int) - i - 1) = (J : Int) - i - 1 := IntWalk.i64_in _ (by omega)
      have s3 : IntKind.i64.wrap ((i : Int) + 1) = (i : Int) + 1 := IntWalk.i64_in _ (by omega)
      have hcvec := (HCV.out.2 (J - i - 1) (by omega)).1
      have hpvec := (hP.pv J hlt).1
      have hoJ := hP.ord7 J hlt
      have HX := Lib.hid (And.intro hcvec (And.intro hpvec hoJ)); clear hcvec hpvec hoJ
      have hl1 : (rRep (rAt P f (i + 1)) (zeros P.orders.length) (gt (gt P.conj i) (J - i - 1)) (gt P.orders J).toNat).length = P.orders.length := (rRepF_vec hP f (i + 1) (by omega) _ _ _ _ (zeros_vec hP) HX.out.1).1
      have hl2 := (rImage_vec hP f i hif (gt P.powers J)).1
      have HL := Lib.hid (And.intro hl1 hl2); clear hl1 hl2
      clear hb1 hb2 hb3 hcoi hcpi hcci hcd hcii
      have rr0 := hg.cell RR.out.1 (by simp)
      have rr1 := hg.cell RR.out.2.1 (by simp)
      have rr2 := hg.cell RR.out.2.2.1 (by simp)
      have rr3 := hg.cell RR.out.2.2.2.1 (by simp)
      have rrf := fun k => frozen_ext hg (RR.out.2.2.2.2 k) rs
      have rrs : w.heap.size + 1 < wr.heap.size := Nat.lt_of_lt_of_le rs hg.size
      have RRr := Lib.hid (And.intro rr0 (And.intro rr1 (And.intro rr2 (And.intro rr3 rrf)))); clear rr0 rr1 rr2 rr3 rrf
      go_wp2
      go_region_held3 (fun w' => Ext wr w') (first | exact grown_drew _ _ | assumption)
        (first
          | (go_at_call 310; refine Calls.mono (Calls.rel (w0 := wr) (by assumption) (l08Repeat_ok P hP _ _ _ (i + 1) f (by omega) _ _ Any Any ⟨_, _, _, rfl, Pres3.ext h3r (by assumption)⟩ (Ints.ext hid (by assumption)) HX.out.1 (by have := HX.out.2.2; omega) (by have := HX.out.2.2; omega))) ?_; rintro eA wA ⟨vA, rfl, hgA, hsA, hOA⟩))
      clear s1 s2 s3 b1 b2 b7 b8 e6 e7 e4
      have f1 : ∀ w', Ext wA w' → w'.cell? ⟨w.heap.size, 0, none⟩ = some (.slice (some ⟨bo, oo, none⟩) P.orders.length capo) := fun w' h => e1 w' (grown_trans hgA h)
      have f2 : ∀ w', Ext wA w' → w'.cell? ⟨w.heap.size, 1, none⟩ = some (.slice (some ⟨bp, op, none⟩) P.powers.length capp) := fun w' h => e2 w' (grown_trans hgA h)
      have f3 : ∀ w', Ext wA w' → w'.cell? ⟨w.heap.size, 2, none⟩ = some (.slice (some ⟨bc, oc, none⟩) P.conj.length capc) := fun w' h => e3 w' (grown_trans hgA h)
      have f5 : ∀ w', Ext wA w' → w'.cell? ⟨bp, op + J, none⟩ = some (.slice ap2 (gt P.powers J).length capp2) := fun w' h => e5 w' (grown_trans hgA h)
      clear e1 e2 e3 e5
      go_wp2
      cases hq : eqB (rRep (rAt P f (i + 1)) (zeros P.orders.length) (gt (gt P.conj i) (J - i - 1)) (gt P.orders J).toNat) (rImage P f i (gt P.powers J)) with
      | true =>
        have HQ := Lib.hid hq
        go_region_held3 (fun w' => Ext wA w') (first | exact grown_drew _ _ | assumption)
          (first
            | (go_at_call 376; refine Calls.mono (Calls.rel2 (w0 := wA) (by assumption) (l08Image_of P hP f (l08At_ok P hP f) _ _ _ i _ Any Any hif ⟨_, _, _, rfl, Pres3.ext (Pres3.ext h3r hgA) (by assumption)⟩ (Ints.ext (Ints.ext hpii hgA) (by assumption)) HX.out.2.1)) ?_; rintro eF wF ⟨vF, rfl, hgF, hgF2, hsF, hOF⟩; have hOA2 := (hOA.ext0 hgF).ints (by rw [HL.out.1]; omega); have hOF2 := hOF.ints (by rw [HL.out.2]; omega))
            | (go_at_call 250; refine Calls.mono (Calls.rel (w0 := wA) (by assumption) (l01Same_ok _ _ _ _ _ Any Any hOA2 hOF2)) ?_; rintro eB wB ⟨vB, rfl, hgAB, hsB, rfl⟩))
        clear f1 f2 f3 f5
        have hgB : Ext wr wB := grown_trans hgA hgAB
        go_wp2
        go_roundw
        case rel => exact ⟨J + 1, by go_num, by omega, by omega, grown_trans hg hgB, fun m h1 h2 => by
          rcases Nat.lt_or_ge m J with h3 | h3
          · exact HC1.out m h1 h3
          · have : m = J := by omega
            rw [this]; exact eqB_true.1 HQ.out⟩
        case measure => simp [intOf]; omega
      | false =>
        have HQ := Lib.hid hq
        go_region_held3 (fun w' => Ext wA w') (first | exact grown_drew _ _ | assumption)
          (first
            | (go_at_call 376; refine Calls.mono (Calls.rel2 (w0 := wA) (by assumption) (l08Image_of P hP f (l08At_ok P hP f) _ _ _ i _ Any Any hif ⟨_, _, _, rfl, Pres3.ext (Pres3.ext h3r hgA) (by assumption)⟩ (Ints.ext (Ints.ext hpii hgA) (by assumption)) HX.out.2.1)) ?_; rintro eF wF ⟨vF, rfl, hgF, hgF2, hsF, hOF⟩; have hOA2 := (hOA.ext0 hgF).ints (by rw [HL.out.1]; omega); have hOF2 := hOF.ints (by rw [HL.out.2]; omega))
            | (go_at_call 250; refine Calls.mono (Calls.rel (w0 := wA) (by assumption) (l01Same_ok _ _ _ _ _ Any Any hOA2 hOF2)) ?_; rintro eB wB ⟨vB, rfl, hgAB, hsB, rfl⟩))
        clear f1 f2 f3 f5
        have hgB : Ext wr wB := grown_trans hgA hgAB
        have c0 := hgB.cell RRr.out.1 (by simp)
        have c1 := hgB.cell RRr.out.2.1 (by simp)
        have c2 := hgB.cell RRr.out.2.2.1 (by simp)
        have c3 := hgB.cell RRr.out.2.2.2.1 (by simp)
        have cf0 := frozen_ext hgB (RRr.out.2.2.2.2 0) rrs
        have cf1 := frozen_ext hgB (RRr.out.2.2.2.2 1) rrs
        have cf2 := frozen_ext hgB (RRr.out.2.2.2.2 2) rrs
        have cf3 := frozen_ext hgB (RRr.out.2.2.2.2 3) rrs
        go_wp2
        refine bodyPost_ret (v := .agg #[.int .i64 1, .int .i64 i, .int .i64 J, .int .i64 0]) (by simp [results, Tryz.results352, go_sem, c0, c1, c2, c3]) rfl ⟨_, rfl, ext_set4 (grown_trans hg00 (grown_trans hg hgB)) (by omega) _ _ _ _, .inr ⟨fun h => eqB_false.1 HQ.out (h.c1 J (by omega) hlt), _, _, _, _, by decide, rfl⟩⟩
    -->P1
    · have hall : ∀ m, i < m → m < P.orders.length → RCond1 P f i m := fun m h1 h2 => HC1.out m h1 (by omega)
      have HA1 := Lib.hid hall; clear hall HC1
      go_wp2
      clear hlt
      go_loopw [9] (fun jv wr => ∃ J : Nat, jv = .int .i64 J ∧ i + 1 ≤ J ∧ J ≤ P.orders.length ∧ Ext w0 wr ∧ ∀ m n, i < m → m < J → m < n → n < P.orders.length → RCond2 P f i m n) (fun jv _ => P.orders.length - (intOf jv).toNat)
      case atStart => exact ⟨i + 1, by go_num, by omega, by omega, hg, fun m n h1 h2 => by omega⟩
      case round =>
        clear hg hJ1 hJ2
        obtain ⟨J, rfl, hJ1, hJ2, hg, hc2⟩ := hrel
        have HC2 := Lib.hid hc2; clear hc2
        by_cases hlt : J < P.orders.length
        · --<P2
          have hJb : (J : Int) < P.orders.length := by omega
          go_wp2
          go_loopw [10] (fun kv wr => ∃ K : Nat, kv = .int .i64 K ∧ J + 1 ≤ K ∧ K ≤ P.orders.length ∧ Ext w0 wr ∧ ∀ n, J < n → n < K → RCond2 P f i J n) (fun kv _ => P.orders.length - (intOf kv).toNat)
          case atStart => exact ⟨J + 1, by go_num, by omega, by omega, hg, fun n h1 h2 => by omega⟩
          case round =>
            clear hg
            obtain ⟨K, rfl, hK1, hK2, hg, hc3⟩ := hrel
            have HC3 := Lib.hid hc3; clear hc3
            by_cases hltK : K < P.orders.length
            · obtain ⟨vo5, vp5, vc5, _, _, hb1, hb2, hb3, h3r⟩ := (hp0.ext hg).at
              obtain ⟨ac, capc, rfl, _, _⟩ := Sl.shape h3r.c
              obtain ⟨bc, oc, ac2, capc2, rfl, _, _, hcci, hcii⟩ := Rows3.at h3r.c i hic
              obtain ⟨bd, od, ad2, capd2, rfl, _, _, hcd, hid⟩ := Rows2.at hcii (J - i - 1) (by rw [HCV.out.1]; omega)
              obtain ⟨bd2, od2, ad3, capd3, hbd2, _, _, hcdK, hidK⟩ := Rows2.at hcii (K - i - 1) (by rw [HCV.out.1]; omega)
              obtain ⟨rfl, rfl⟩ : bd2 = bd ∧ od2 = od := by cases hbd2; exact ⟨rfl, rfl⟩
              have hcvJ := (hP.cv J hlt)
              obtain ⟨bc5, oc5, ac5, capc5, hbc5, _, _, hccJ, hciJ⟩ := Rows3.at h3r.c J (by have := HCL.out; omega)
              obtain ⟨rfl, rfl⟩ : bc5 = bc ∧ oc5 = oc := by cases hbc5; exact ⟨rfl, rfl⟩
              obtain ⟨bd6, od6, ad6, capd6, rfl, _, _, hcdJ, hidJ⟩ := Rows2.at hciJ (K - J - 1) (by rw [hcvJ.1]; omega)
              clear hbd2 hbc5
              have e1 : ∀ w', Ext wr w' → w'.cell? ⟨w.heap.size, 0, none⟩ = some vo5 := fun w' h => h.cell hb1 (by simp)
              have e2 : ∀ w', Ext wr w' → w'.cell? ⟨w.heap.size, 1, none⟩ = some vp5 := fun w' h => h.cell (by simpa using hb2) (by simp)
              have e3 : ∀ w', Ext wr w' → w'.cell? ⟨w.heap.size, 2, none⟩ = some (.slice (some ⟨bc5, oc5, none⟩) P.conj.length capc) := fun w' h => h.cell (by simpa using hb3) (by simp)
              have hb3' := e3 wr (Ext.refl _)
              have e9 : ∀ w', Ext wr w' → w'.cell? ⟨bc5, oc5 + J, none⟩ = some (.slice (some ⟨bd6, od6, none⟩) (gt P.conj J).length capc5) := fun w' h => h.cell hccJ (by simp)
              have e10 : ∀ w', Ext wr w' → w'.cell? ⟨bd6, od6 + (K - J - 1), none⟩ = some (.slice ad6 (gt (gt P.conj J) (K - J - 1)).length capd6) := fun w' h => h.cell hcdJ (by simp)
              have b1 : (0 : Int) ≤ (J : Int) - i - 1 := by omega
              have b2 : (J : Int) - i - 1 < (gt P.conj i).length := by rw [HCV.out.1]; omega
              have b3 : (i : Int) < P.conj.length := by omega
              have b4 : (J : Int) < P.conj.length := by have := HCL.out; omega
              have b7 : ((J : Int) - i - 1).toNat = J - i - 1 := by omega
              have b8 : (1 : Int) ≤ (J : Int) - i := by omega
              have k1 : (0 : Int) ≤ (K : Int) - i - 1 := by omega
              have k2 : (K : Int) - i - 1 < (gt P.conj i).length := by rw [HCV.out.1]; omega
              have k7 : ((K : Int) - i - 1).toNat = K - i - 1 := by omega
              have k8 : (1 : Int) ≤ (K : Int) - i := by omega
              have m1 : (0 : Int) ≤ (K : Int) - J - 1 := by omega
              have m2 : (K : Int) - J - 1 < (gt P.conj J).length := by rw [hcvJ.1]; omega
              have m7 : ((K : Int) - J - 1).toNat = K - J - 1 := by omega
              have m8 : (1 : Int) ≤ (K : Int) - J := by omega
              have b5 : (K : Int) < P.orders.length := by omega
              have s1 : IntKind.i64.wrap ((J : Int) - i) = (J : Int) - i := IntWalk.i64_in _ (by omega)
              have s2 : IntKind.i64.wrap ((J : Int) - i - 1) = (J : Int) - i - 1 := IntWalk.i64_in _ (by omega)
              have s3 : IntKind.i64.wrap ((K : Int) - i) = (K : Int) - i := IntWalk.i64_in _ (by omega)
              have s4 : IntKind.i64.wrap ((K : Int) - i - 1) = (K : Int) - i - 1 := IntWalk.i64_in _ (by omega)
              have s5 : IntKind.i64.wrap ((K : Int) - J) = (K : Int) - J := IntWalk.i64_in _ (by omega)
              have s6 : IntKind.i64.wrap ((K : Int) - J - 1) = (K : Int) - J - 1 := IntWalk.i64_in _ (by omega)
              have s7 : IntKind.i64.wrap ((i : Int) + 1) = (i : Int) + 1 := IntWalk.i64_in _ (by omega)
              have hvJ := (HCV.out.2 (J - i - 1) (by omega)).1
              have hvK := (HCV.out.2 (K - i - 1) (by omega)).1
              have hvJK := (hcvJ.2 (K - J - 1) (by omega)).1
              have HX := Lib.hid (And.intro hvK (And.intro hvJ hvJK)); clear hvJ hvK hvJK hcvJ
              have hvF := rImage_vec hP f i hif (gt (gt P.conj J) (K - J - 1))
              have hl1 := (rAt_vec hP f (i + 1) _ _ (by omega) HX.out.1 HX.out.2.1).1
              have hl2 := (rAt_vec hP f (i + 1) _ _ (by omega) HX.out.2.1 hvF).1
              have HL := Lib.hid (And.intro hl1 (And.intro hl2 hvF)); clear hl1 hl2 hvF
              have rr0 := hg.cell RR.out.1 (by simp)
              have rr1 := hg.cell RR.out.2.1 (by simp)
              have rr2 := hg.cell RR.out.2.2.1 (by simp)
              have rr3 := hg.cell RR.out.2.2.2.1 (by simp)
              have rrf := fun k => frozen_ext hg (RR.out.2.2.2.2 k) rs
              have rrs : w.heap.size + 1 < wr.heap.size := Nat.lt_of_lt_of_le rs hg.size
              have RRr := Lib.hid (And.intro rr0 (And.intro rr1 (And.intro rr2 (And.intro rr3 rrf)))); clear rr0 rr1 rr2 rr3 rrf
              have E := Lib.hid (And.intro e1 (And.intro e2 (And.intro e3 (And.intro e9 e10)))); clear e1 e2 e3 e9 e10
              clear hb1 hb2 hb3
              go_wp2
              go_quiet (fail)
              rename_i nq _
              have hgq : Ext wr (wr.drewN nq) := grown_drewN _ _ _
              clear hcci hcd hcdK hccJ hcdJ hcii hciJ hb3'
              obtain ⟨wq, hwq⟩ : ∃ wq : World, wq = wr.drewN nq := ⟨_, rfl⟩
              rw [← hwq] at hgq
              rw [← hwq]
              clear hwq
              obtain ⟨e1, e2, e3, e9, e10⟩ := E.out
              go_wp2
              go_region_held3 (fun w' => Ext wr w') (first | exact grown_trans hgq (grown_drew _ _) | exact hgq | exact grown_drew _ _ | assumption)
                (first
                  | (go_at_call 376; refine Calls.mono (Calls.rel (w0 := wr) (by assumption) (l08Image_of P hP f (l08At_ok P hP f) _ _ _ i _ Any Any hif ⟨_, _, _, rfl, Pres3.ext h3r (by assumption)⟩ (Ints.ext hidJ (by assumption)) HX.out.2.2)) ?_; rintro eF wF ⟨vF, rfl, hgF, hgF2, hOF⟩))
              have hFF := hOF.ints (by rw [HL.out.2.2.1]; omega)
              have hKF : Ints Any wF (.slice ad3 (gt (gt P.conj i) (K - i - 1)).length capd3) _ := Ints.ext hidK hgF
              have hJF : Ints Any wF (.slice ad2 (gt (gt P.conj i) (J - i - 1)).length capd2) _ := Ints.ext hid hgF
              have h3F := Pres3.ext h3r hgF
              have f1 : ∀ w', Ext wF w' → w'.cell? ⟨w.heap.size, 0, none⟩ = some vo5 := fun w' h => e1 w' (grown_trans hgF h)
              have f2 : ∀ w', Ext wF w' → w'.cell? ⟨w.heap.size, 1, none⟩ = some vp5 := fun w' h => e2 w' (grown_trans hgF h)
              have f3 : ∀ w', Ext wF w' → w'.cell? ⟨w.heap.size, 2, none⟩ = some (.slice (some ⟨bc5, oc5, none⟩) P.conj.length capc) := fun w' h => e3 w' (grown_trans hgF h)
              clear e1 e2 e3 e9 e10 E s1 s2 s3 s4 s5 s6 b1 b2 b7 b8 k1 k2 k7 k8 m1 m2 m7 m8 hidJ hidK hid h3r hOF
              go_wp2
              cases hq : eqB (rAt P f (i + 1) (gt (gt P.conj i) (K - i - 1)) (gt (gt P.conj i) (J - i - 1))) (rAt P f (i + 1) (gt (gt P.conj i) (J - i - 1)) (rImage P f i (gt (gt P.conj J) (K - J - 1)))) with
              | true =>
                have HQ := Lib.hid hq
                go_region_held3 (fun w' => Ext wF w') (first | exact grown_drew _ _ | assumption)
                  (first
                    | (go_at_call_of 346 (vF); refine Calls.mono (Calls.rel2 (w0 := wF) (by assumption) (l08At_ok P hP f _ _ _ _ (i + 1) _ _ Any Any Any (by omega) ⟨_, _, _, rfl, Pres3.ext h3F (by assumption)⟩ (Ints.ext hJF (by assumption)) (Ints.ext hFF (by assumption)) HX.out.2.1 HL.out.2.2)) ?_; rintro eG wG ⟨vG, rfl, hgG, hgG2, hsG, hOG⟩; have hOA2 := (hOA.ext0 hgG2).ints (by rw [HL.out.1]; omega); have hOG2 := hOG.ints (by rw [HL.out.2.1]; omega))
                    | (go_at_call 346; refine Calls.mono (Calls.rel (w0 := wF) (by assumption) (l08At_ok P hP f _ _ _ _ (i + 1) _ _ Any Any Any (by omega) ⟨_, _, _, rfl, Pres3.ext h3F (by assumption)⟩ (Ints.ext hKF (by assumption)) (Ints.ext hJF (by assumption)) HX.out.1 HX.out.2.1)) ?_; rintro eA wA ⟨vA, rfl, hgA, hsA, hOA⟩)
                    | (go_at_call 250; refine Calls.mono (Calls.rel (w0 := wF) (by assumption) (l01Same_ok _ _ _ _ _ Any Any hOA2 hOG2)) ?_; rintro eB wB ⟨vB, rfl, hgFB, hsB, rfl⟩))
                clear f1 f2 f3
                have hgB : Ext wr wB := grown_trans hgF hgFB
                go_wp2
                go_roundw
                case rel => exact ⟨K + 1, by go_num, by omega, by omega, grown_trans hg hgB, fun n h1 h2 => by
                  rcases Nat.lt_or_ge n K with h3 | h3
                  · exact HC3.out n h1 h3
                  · have : n = K := by omega
                    rw [this]; exact eqB_true.1 HQ.out⟩
                case measure => simp [intOf]; omega
              | false =>
                have HQ := Lib.hid hq
                go_region_held3 (fun w' => Ext wF w') (first | exact grown_drew _ _ | assumption)
                  (first
                    | (go_at_call_of 346 (vF); refine Calls.mono (Calls.rel2 (w0 := wF) (by assumption) (l08At_ok P hP f _ _ _ _ (i + 1) _ _ Any Any Any (by omega) ⟨_, _, _, rfl, Pres3.ext h3F (by assumption)⟩ (Ints.ext hJF (by assumption)) (Ints.ext hFF (by assumption)) HX.out.2.1 HL.out.2.2)) ?_; rintro eG wG ⟨vG, rfl, hgG, hgG2, hsG, hOG⟩; have hOA2 := (hOA.ext0 hgG2).ints (by rw [HL.out.1]; omega); have hOG2 := hOG.ints (by rw [HL.out.2.1]; omega))
                    | (go_at_call 346; refine Calls.mono (Calls.rel (w0 := wF) (by assumption) (l08At_ok P hP f _ _ _ _ (i + 1) _ _ Any Any Any (by omega) ⟨_, _, _, rfl, Pres3.ext h3F (by assumption)⟩ (Ints.ext hKF (by assumption)) (Ints.ext hJF (by assumption)) HX.out.1 HX.out.2.1)) ?_; rintro eA wA ⟨vA, rfl, hgA, hsA, hOA⟩)
                    | (go_at_call 250; refine Calls.mono (Calls.rel (w0 := wF) (by assumption) (l01Same_ok _ _ _ _ _ Any Any hOA2 hOG2)) ?_; rintro eB wB ⟨vB, rfl, hgFB, hsB, rfl⟩))
                clear f1 f2 f3
                have hgB : Ext wr wB := grown_trans hgF hgFB
                have c0 := hgB.cell RRr.out.1 (by simp)
                have c1 := hgB.cell RRr.out.2.1 (by simp)
                have c2 := hgB.cell RRr.out.2.2.1 (by simp)
                have c3 := hgB.cell RRr.out.2.2.2.1 (by simp)
                have cf0 := frozen_ext hgB (RRr.out.2.2.2.2 0) rrs
                have cf1 := frozen_ext hgB (RRr.out.2.2.2.2 1) rrs
                have cf2 := frozen_ext hgB (RRr.out.2.2.2.2 2) rrs
                have cf3 := frozen_ext hgB (RRr.out.2.2.2.2 3) rrs
                go_wp2
                refine bodyPost_ret (v := .agg #[.int .i64 2, .int .i64 i, .int .i64 J, .int .i64 K]) (by simp [results, Tryz.results352, go_sem, c0, c1, c2, c3]) rfl ⟨_, rfl, ext_set4 (grown_trans hg00 (grown_trans hg hgB)) (by omega) _ _ _ _, .inr ⟨fun h => eqB_false.1 HQ.out (h.c2 J K (by omega) (by omega) hltK), _, _, _, _, by decide, rfl⟩⟩
            · have hKe : K = P.orders.length := by omega
              go_wp2
              go_roundw
              case rel => exact ⟨J + 1, by go_num, by omega, by omega, hg, fun m n h1 h2 h3 h4 => by
                  rcases Nat.lt_or_ge m J with h5 | h5
                  · exact HC2.out m n h1 h5 h3 h4
                  · have : m = J := by omega
                    subst this; exact HC3.out n h3 (by omega)⟩
              case measure => simp [intOf]; omega
        -->P2
        · have hall2 : ∀ m n, i < m → m < n → n < P.orders.length → RCond2 P f i m n := fun m n h1 h2 h3 => HC2.out m n h1 (by omega) h2 h3
          have HA2 := Lib.hid hall2; clear hall2 HC2
          obtain ⟨vo5, vp5, vc5, _, _, hb1, hb2, hb3, h3r⟩ := (hp0.ext hg).at
          obtain ⟨ap, capp, rfl, _, _⟩ := Sl.shape h3r.p
          obtain ⟨bp, op, ap2, capp2, rfl, _, _, hcpi, hpii⟩ := Rows2.at h3r.p i hip
          have hlw := (rImage_vec hP f i hif (gt P.powers i)).1
          have HLW := Lib.hid hlw; clear hlw
          have rr0 := hg.cell RR.out.1 (by simp)
          have rr1 := hg.cell RR.out.2.1 (by simp)
          have rr2 := hg.cell RR.out.2.2.1 (by simp)
          have rr3 := hg.cell RR.out.2.2.2.1 (by simp)
          have rrf := fun k => frozen_ext hg (RR.out.2.2.2.2 k) rs
          have rrs : w.heap.size + 1 < wr.heap.size := Nat.lt_of_lt_of_le rs hg.size
          have RRr := Lib.hid (And.intro rr0 (And.intro rr1 (And.intro rr2 (And.intro rr3 rrf)))); clear rr0 rr1 rr2 rr3 rrf
          go_wp2_with fail
          refine Calls.mono (l08Image_of P hP f (l08At_ok P hP f) wr _ _ i _ Any Any hif ⟨_, _, _, rfl, h3r⟩ hpii HVW.out) ?_
          rintro eA wA ⟨vA, rfl, hgA, hOA⟩
          go_wp2_with fail
          refine Calls.mono (l01Same_ok _ _ _ _ wA Any Any (hOA.ints (by rw [HLW.out]; omega)) (Ints.ext hpii hgA)) ?_
          rintro eB wB ⟨vB, rfl, hgAB, rfl⟩
          have hgB : Ext wr wB := grown_trans hgA hgAB
          have hpii0 : Ints Any wB (.slice ap2 (gt P.powers i).length capp2) (gt P.powers i) := Ints.ext hpii hgB
          cases hq : eqB (rImage P f i (gt P.powers i)) (gt P.powers i) with
          | false =>
            have HQ := Lib.hid hq
            have c0 := hgB.cell RRr.out.1 (by simp)
            have c1 := hgB.cell RRr.out.2.1 (by simp)
            have c2 := hgB.cell RRr.out.2.2.1 (by simp)
            have c3 := hgB.cell RRr.out.2.2.2.1 (by simp)
            have cf0 := frozen_ext hgB (RRr.out.2.2.2.2 0) rrs
            have cf1 := frozen_ext hgB (RRr.out.2.2.2.2 1) rrs
            have cf2 := frozen_ext hgB (RRr.out.2.2.2.2 2) rrs
            have cf3 := frozen_ext hgB (RRr.out.2.2.2.2 3) rrs
            go_wp2
            refine bodyPost_ret (v := .agg #[.int .i64 3, .int .i64 i, .int .i64 0, .int .i64 0]) (by simp [results, Tryz.results352, go_sem, c0, c1, c2, c3]) rfl ⟨_, rfl, ext_set4 (grown_trans hg00 (grown_trans hg hgB)) (by omega) _ _ _ _, .inr ⟨fun h => eqB_false.1 HQ.out h.c3, _, _, _, _, by decide, rfl⟩⟩
          | true =>
            --<P4
            have HQ := Lib.hid (eqB_true.1 hq)
            have hgw := grown_trans hg hgB
            clear hcpi hb1 hb2 hb3 h3r
            go_wp2
            clear hq
            obtain ⟨wz, rfl⟩ : ∃ wz : World, wz = wB := ⟨_, rfl⟩
            go_loopw [15] (fun jv wr => ∃ J : Nat, jv = .int .i64 J ∧ i + 1 ≤ J ∧ J ≤ P.orders.length ∧ Ext w0 wr ∧ Ext wz wr ∧ ∀ m, i < m → m < J → RCond4 P f i m) (fun jv _ => P.orders.length - (intOf jv).toNat)
            case atStart => exact ⟨i + 1, by go_num, by omega, by omega, hgw, Ext.refl _, fun m h1 h2 => by omega⟩
            case round =>
              clear hg hgA hgB hgw hOA hJ1 hJ2 RRr rrs hgAB hlt
              obtain ⟨J, rfl, hJ1, hJ2, hg, hgz, hc4⟩ := hrel
              have HC4 := Lib.hid hc4; clear hc4
              have rr0 := hg.cell RR.out.1 (by simp)
              have rr1 := hg.cell RR.out.2.1 (by simp)
              have rr2 := hg.cell RR.out.2.2.1 (by simp)
              have rr3 := hg.cell RR.out.2.2.2.1 (by simp)
              have rrf := fun k => frozen_ext hg (RR.out.2.2.2.2 k) rs
              have rrs : w.heap.size + 1 < wr.heap.size := Nat.lt_of_lt_of_le rs hg.size
              have RRr := Lib.hid (And.intro rr0 (And.intro rr1 (And.intro rr2 (And.intro rr3 rrf)))); clear rr0 rr1 rr2 rr3 rrf
              by_cases hlt : J < P.orders.length
              · have hJb : (J : Int) < P.orders.length := by omega
                go_wp2_with fail
                refine Calls.mono (l07Unit_ok P.orders.length J wr hlt (by omega)) ?_
                rintro eU wU ⟨vU, rfl, hgU, hOU⟩
                have hUi := hOU.ints (by rw [(unitV_vec hP J).1]; omega)
                have hoi7 := hP.ord7 i hi
                have ho0 : 0 ≤ gt P.orders i := by omega
                have ho1 : gt P.orders i ≤ 7 := hoi7.2
                clear hoi7
                go_wp2
                obtain ⟨wo, rfl⟩ : ∃ wo : World, wo = wr := ⟨_, rfl⟩
                go_loopw [17, 18] (fun xv mv w2 => ∃ m : Nat, mv = .int .i64 m ∧ m ≤ (gt P.orders i).toNat ∧ Ext wU w2 ∧ Ints Any w2 xv (iter m (fun x => rImage P f i x) (unitV P.orders.length J))) (fun _ mv _ => (gt P.orders i).toNat - (intOf mv).toNat)
                case atStart => exact ⟨0, rfl, by omega, Ext.refl _, hUi⟩
                case round =>
                  obtain ⟨m, rfl, hm, hg2, hX⟩ := hrel
                  have hgo := grown_trans hgU hg2
                  have hg3 := grown_trans hg hgo
                  have hvX : Vec P.orders (iter m (fun x => rImage P f i x) (unitV P.orders.length J)) := iter_inv (Vec P.orders) _ (fun y hy => rImage_vec hP f i hif y) _ _ (unitV_vec hP J)
                  have HVX := Lib.hid hvX; clear hvX
                  obtain ⟨vo5, vp5, vc5, _, _, hb1, hb2, hb3, h3r⟩ := (hp0.ext hg3).at
                  obtain ⟨ao5, capo5, rfl, _, _⟩ := h3r.o.shape
                  obtain ⟨bo, oo, rfl, _, _, hcoi⟩ := Ints.at h3r.o i hi
                  by_cases hlt2 : (m : Int) < gt P.orders i
                  · go_wp2_with fail
                    refine Calls.mono (l08Image_of P hP f (l08At_ok P hP f) wr _ _ i _ Any Any hif ⟨_, _, _, rfl, h3r⟩ hX HVX.out) ?_
                    rintro eA wA ⟨vA, rfl, hgA, hOA⟩
                    have hvn := rImage_vec hP f i hif (iter m (fun x => rImage P f i x) (unitV P.orders.length J))
                    have hOAi := hOA.ints (by rw [hvn.1]; omega)
                    clear hvn hb1 hb2 hb3 hcoi
                    go_wp2
                    go_roundw
                    case rel => exact ⟨m + 1, by go_num, by omega, grown_trans hg2 hgA, hOAi⟩
                    case measure => simp [intOf]; omega
                  · have hme : m = (gt P.orders i).toNat := by omega
                    have hlX := HVX.out
                    have hX2 : Ints Any wr u17 (iter (gt P.orders i).toNat (fun x => rImage P f i x) (unitV P.orders.length J)) := by rw [← hme]; exact hX
                    rw [hme] at hlX
                    have HLX := Lib.hid hlX; clear hlX hX HVX
                    have hl1 := (rAt_vec hP f (i + 1) _ _ (by omega) HVW.out HLX.out).1
                    have hl2 := (rAt_vec hP f (i + 1) _ _ (by omega) (unitV_vec hP J) HVW.out).1
                    have HL := Lib.hid (And.intro hl1 hl2); clear hl1 hl2
                    have s3 : IntKind.i64.wrap ((i : Int) + 1) = (i : Int) + 1 := IntWalk.i64_in _ (by omega)
                    have hw5 : Ints Any wr (.slice ap2 (gt P.powers i).length capp2) (gt P.powers i) := Ints.ext hpii0 (grown_trans hgz hgo)
                    have hU5 : Ints Any wr vU (unitV P.orders.length J) := hUi.ext hg2
                    have f1 : ∀ w', Ext wr w' → w'.cell? ⟨w.heap.size, 0, none⟩ = some (.slice (some ⟨bo, oo, none⟩) P.orders.length capo5) := fun w' h => h.cell hb1 (by simp)
                    have f2 : ∀ w', Ext wr w' → w'.cell? ⟨w.heap.size, 1, none⟩ = some vp5 := fun w' h => h.cell (by simpa using hb2) (by simp)
                    have f3 : ∀ w', Ext wr w' → w'.cell? ⟨w.heap.size, 2, none⟩ = some vc5 := fun w' h => h.cell (by simpa using hb3) (by simp)
                    clear hpii0 hUi hOU
                    go_wp2
                    clear hb1 hb2 hb3 hcoi
                    cases hq : eqB (rAt P f (i + 1) (gt P.powers i) (iter (gt P.orders i).toNat (fun x => rImage P f i x) (unitV P.orders.length J))) (rAt P f (i + 1) (unitV P.orders.length J) (gt P.powers i)) with
                    | true =>
                      have HQ4 := Lib.hid hq
                      go_region_held3 (fun w' => Ext wr w') (first | exact grown_drew _ _ | assumption)
                        (first
                          | (go_at_call_of 346 (vU); refine Calls.mono (Calls.rel2 (w0 := wr) (by assumption) (l08At_ok P hP f _ _ _ _ (i + 1) _ _ Any Any Any (by omega) ⟨_, _, _, rfl, Pres3.ext h3r (by assumption)⟩ (Ints.ext hU5 (by assumption)) (Ints.ext hw5 (by assumption)) (unitV_vec hP J) HVW.out)) ?_; rintro eG wG ⟨vG, rfl, hgG, hgG2, hsG, hOG⟩; have hOA2 := (hOA.ext0 hgG2).ints (by rw [HL.out.1]; omega); have hOG2 := hOG.ints (by rw [HL.out.2]; omega))
                          | (go_at_call 346; refine Calls.mono (Calls.rel (w0 := wr) (by assumption) (l08At_ok P hP f _ _ _ _ (i + 1) _ _ Any Any Any (by omega) ⟨_, _, _, rfl, Pres3.ext h3r (by assumption)⟩ (Ints.ext hw5 (by assumption)) (Ints.ext hX2 (by assumption)) HVW.out HLX.out)) ?_; rintro eA wA ⟨vA, rfl, hgA, hsA, hOA⟩)
                          | (go_at_call 250; refine Calls.mono (Calls.rel (w0 := wr) (by assumption) (l01Same_ok _ _ _ _ _ Any Any hOA2 hOG2)) ?_; rintro eB wB ⟨vB, rfl, hgFB, hsB, rfl⟩))
                      clear f1 f2 f3
                      have hgB : Ext wo wB := grown_trans hgo hgFB
                      go_wp2
                      go_roundw
                      case rel => exact ⟨J + 1, by go_num, by omega, by omega, grown_trans hg hgB, grown_trans hgz hgB, fun m h1 h2 => by
                        rcases Nat.lt_or_ge m J with h3 | h3
                        · exact HC4.out m h1 h3
                        · have : m = J := by omega
                          rw [this]; exact eqB_true.1 HQ4.out⟩
                      case measure => simp [intOf]; omega
                    | false =>
                      have HQ4 := Lib.hid hq
                      go_region_held3 (fun w' => Ext wr w') (first | exact grown_drew _ _ | assumption)
                        (first
                          | (go_at_call_of 346 (vU); refine Calls.mono (Calls.rel2 (w0 := wr) (by assumption) (l08At_ok P hP f _ _ _ _ (i + 1) _ _ Any Any Any (by omega) ⟨_, _, _, rfl, Pres3.ext h3r (by assumption)⟩ (Ints.ext hU5 (by assumption)) (Ints.ext hw5 (by assumption)) (unitV_vec hP J) HVW.out)) ?_; rintro eG wG ⟨vG, rfl, hgG, hgG2, hsG, hOG⟩; have hOA2 := (hOA.ext0 hgG2).ints (by rw [HL.out.1]; omega); have hOG2 := hOG.ints (by rw [HL.out.2]; omega))
                          | (go_at_call 346; refine Calls.mono (Calls.rel (w0 := wr) (by assumption) (l08At_ok P hP f _ _ _ _ (i + 1) _ _ Any Any Any (by omega) ⟨_, _, _, rfl, Pres3.ext h3r (by assumption)⟩ (Ints.ext hw5 (by assumption)) (Ints.ext hX2 (by assumption)) HVW.out HLX.out)) ?_; rintro eA wA ⟨vA, rfl, hgA, hsA, hOA⟩)
                          | (go_at_call 250; refine Calls.mono (Calls.rel (w0 := wr) (by assumption) (l01Same_ok _ _ _ _ _ Any Any hOA2 hOG2)) ?_; rintro eB wB ⟨vB, rfl, hgFB, hsB, rfl⟩))
                      clear f1 f2 f3
                      have hgB : Ext wo wB := grown_trans hgo hgFB
                      have c0 := hgB.cell RRr.out.1 (by simp)
                      have c1 := hgB.cell RRr.out.2.1 (by simp)
                      have c2 := hgB.cell RRr.out.2.2.1 (by simp)
                      have c3 := hgB.cell RRr.out.2.2.2.1 (by simp)
                      have cf0 := frozen_ext hgB (RRr.out.2.2.2.2 0) rrs
                      have cf1 := frozen_ext hgB (RRr.out.2.2.2.2 1) rrs
                      have cf2 := frozen_ext hgB (RRr.out.2.2.2.2 2) rrs
                      have cf3 := frozen_ext hgB (RRr.out.2.2.2.2 3) rrs
                      go_wp2
                      refine bodyPost_ret (v := .agg #[.int .i64 4, .int .i64 i, .int .i64 J, .int .i64 0]) (by simp [results, Tryz.results352, go_sem, c0, c1, c2, c3]) rfl ⟨_, rfl, ext_set4 (grown_trans hg00 (grown_trans hg hgB)) (by omega) _ _ _ _, .inr ⟨fun h => eqB_false.1 HQ4.out (h.c4 J (by omega) hlt), _, _, _, _, by decide, rfl⟩⟩
              · have hJe : J = P.orders.length := by omega
                subst hJe
                have c0 := RRr.out.1
                have c1 := RRr.out.2.1
                have c2 := RRr.out.2.2.1
                have c3 := RRr.out.2.2.2.1
                have cf0 := RRr.out.2.2.2.2 0
                have cf1 := RRr.out.2.2.2.2 1
                have cf2 := RRr.out.2.2.2.2 2
                have cf3 := RRr.out.2.2.2.2 3
                go_wp2
                refine bodyPost_ret (v := .agg #[.int .i64 0, .int .i64 0, .int .i64 0, .int .i64 0]) (by simp [results, Tryz.results352, go_sem, c0, c1, c2, c3]) rfl ⟨_, rfl, ext_set4 (grown_trans hg00 hg) (by omega) _ _ _ _, .inl ⟨⟨HA1.out, HA2.out, HQ.out, HC4.out⟩, rfl⟩⟩
            -->P4

end Go.Proofs.YtldheeicjnncoaaGreat
namespace Go.Proofs.YtldheeicjnncoaaGreat
open Go.RowKit

/-- what impl.IsConsistent answers, and what spec.l08Group answers -/
def IAll (P : Pr) : Prop := ∀ k, k < P.orders.length → ILevel P k
def RAll (P : Pr) : Prop := ∀ k, k < P.orders.length → RLevel P (P.orders.length - 1 - k) k
open Classical in
noncomputable def iconsB (P : Pr) : Bool := decide (Valid P ∧ IAll P)
open Classical in
noncomputable def rconsB (P : Pr) : Bool := decide (Valid P ∧ RAll P)

set_option maxRecDepth 100000 in
set_option maxHeartbeats 4000000 in
theorem l08Fault_ok (P : Pr) (hP : Valid P) (w : World) (pv : Value) (Sp : Nat → Prop) (hpv : PresV Sp w pv P) :
    Calls Tryz.prog 306 #[pv] w (Ret w fun _ v => FaultR (RAll P) v) := by
  have hn6 := hP.n6
  obtain ⟨vo, vp, vc, rfl, h3⟩ := hpv
  have hb0 := PresP.box h3 28
  have hg00 : Ext w ((w.alloc (.cells #[vo, vp, vc] 28)).alloc (.cells #[.int .i64 0, .int .i64 0, .int .i64 0, .int .i64 0] 174)) := grown_trans (World.grownBy_alloc _ _ _) (World.grownBy_alloc _ _ _)
  have hp0 := hb0.ext (World.grownBy_alloc (w.alloc (.cells #[vo, vp, vc] 28)) (.cells #[.int .i64 0, .int .i64 0, .int .i64 0, .int .i64 0] 174) none)
  obtain ⟨ao, capo, hco, hoi⟩ := hp0.ordAt
  go_enter Tryz.func306, Tryz.ntmps306
  go_wp2
  clear hco hoi
  have rsz : (w.alloc (.cells #[vo, vp, vc] 28)).heap.size = w.heap.size + 1 := by simp
  have r0 : ((w.alloc (.cells #[vo, vp, vc] 28)).alloc (.cells #[.int .i64 0, .int .i64 0, .int .i64 0, .int .i64 0] 174)).cell? ⟨w.heap.size + 1, 0, none⟩ = some (.int .i64 0) := by rw [World.cell?_alloc_at _ _ _ _ rsz.symm]; rfl
  have r1 : ((w.alloc (.cells #[vo, vp, vc] 28)).alloc (.cells #[.int .i64 0, .int .i64 0, .int .i64 0, .int .i64 0] 174)).cell? ⟨w.heap.size + 1, 1, none⟩ = some (.int .i64 0) := by rw [World.cell?_alloc_at _ _ _ _ rsz.symm]; rfl
  have r2 : ((w.alloc (.cells #[vo, vp, vc] 28)).alloc (.cells #[.int .i64 0, .int .i64 0, .int .i64 0, .int .i64 0] 174)).cell? ⟨w.heap.size + 1, 2, none⟩ = some (.int .i64 0) := by rw [World.cell?_alloc_at _ _ _ _ rsz.symm]; rfl
  have r3 : ((w.alloc (.cells #[vo, vp, vc] 28)).alloc (.cells #[.int .i64 0, .int .i64 0, .int .i64 0, .int .i64 0] 174)).cell? ⟨w.heap.size + 1, 3, none⟩ = some (.int .i64 0) := by rw [World.cell?_alloc_at _ _ _ _ rsz.symm]; rfl
  have rf : ∀ k, ((w.alloc (.cells #[vo, vp, vc] 28)).alloc (.cells #[.int .i64 0, .int .i64 0, .int .i64 0, .int .i64 0] 174)).frozen? ⟨w.heap.size + 1, k, none⟩ = false := fun k => World.frozen?_alloc_at _ _ _ _ rsz.symm
  have rs : w.heap.size + 1 < ((w.alloc (.cells #[vo, vp, vc] 28)).alloc (.cells #[.int .i64 0, .int .i64 0, .int .i64 0, .int .i64 0] 174)).heap.size := by simp
  clear rsz hb0
  generalize (w.alloc (.cells #[vo, vp, vc] 28)).alloc (.cells #[.int .i64 0, .int .i64 0, .int .i64 0, .int .i64 0] 174) = w0 at *
  have RR := Lib.hid (And.intro r0 (And.intro r1 (And.intro r2 (And.intro r3 rf)))); clear r0 r1 r2 r3 rf
  go_loopw [3] (fun jv wr => ∃ c : Nat, jv = .int .i64 ((c : Int) - 1) ∧ c ≤ P.orders.length ∧ Ext w0 wr ∧ ∀ m, c ≤ m → m < P.orders.length → RLevel P (P.orders.length - 1 - m) m) (fun jv _ => (intOf jv + 1).toNat)
  case atStart => exact ⟨P.orders.length, by go_num, by omega, Ext.refl _, fun m h1 h2 => by omega⟩
  case round =>
    obtain ⟨c, rfl, hc, hg, hlev⟩ := hrel
    have HLV := Lib.hid hlev; clear hlev
    have rr0 := hg.cell RR.out.1 (by simp)
    have rr1 := hg.cell RR.out.2.1 (by simp)
    have rr2 := hg.cell RR.out.2.2.1 (by simp)
    have rr3 := hg.cell RR.out.2.2.2.1 (by simp)
    have rrf := fun k => frozen_ext hg (RR.out.2.2.2.2 k) rs
    have rrs : w.heap.size + 1 < wr.heap.size := Nat.lt_of_lt_of_le rs hg.size
    have RRr := Lib.hid (And.intro rr0 (And.intro rr1 (And.intro rr2 (And.intro rr3 rrf)))); clear rr0 rr1 rr2 rr3 rrf
    by_cases hpos : 1 ≤ c
    · obtain ⟨c1, rfl⟩ : ∃ c1, c = c1 + 1 := ⟨c - 1, by omega⟩
      have e1 : ((c1 + 1 : Nat) : Int) - 1 = c1 := by omega
      rw [e1]
      obtain ⟨vo5, vp5, vc5, _, _, hb1, hb2, hb3, h3r⟩ := (hp0.ext hg).at
      simp at hb2 hb3
      go_wp2_with fail
      refine Calls.mono (l08Level_ok P hP wr _ c1 (P.orders.length - 1 - c1) _ ⟨_, _, _, rfl, h3r⟩ (by omega)) ?_
      rintro eA wA ⟨vA, rfl, hgA, hFA⟩
      clear hb1 hb2 hb3 e1
      have gA := grown_trans hgA (World.grownBy_alloc wA (.cells #[.int .i64 0, .int .i64 0, .int .i64 0, .int .i64 0] 174) none)
      rcases hFA with ⟨hgood, hv⟩ | ⟨hbad, k0, k1, k2, k3, hk, rfl⟩
      · unfold fault0 at hv
        subst hv
        go_wp2
        go_roundw
        case rel => exact ⟨c1, by go_num, by omega, grown_trans hg (grown_trans hgA (World.grownBy_alloc _ _ _)), fun m h1 h2 => by
          rcases Nat.lt_or_ge c1 m with h3 | h3
          · exact HLV.out m h3 h2
          · have : m = c1 := by omega
            rw [this]; exact hgood⟩
        case measure => simp [intOf]
      · have gB : Ext wr (wA.alloc (.cells #[.int .i64 k0, .int .i64 k1, .int .i64 k2, .int .i64 k3] 174)) := grown_trans hgA (World.grownBy_alloc _ _ _)
        have c0 := gB.cell RRr.out.1 (by simp)
        have c1' := gB.cell RRr.out.2.1 (by simp)
        have c2 := gB.cell RRr.out.2.2.1 (by simp)
        have c3 := gB.cell RRr.out.2.2.2.1 (by simp)
        have cf0 := frozen_ext gB (RRr.out.2.2.2.2 0) rrs
        have cf1 := frozen_ext gB (RRr.out.2.2.2.2 1) rrs
        have cf2 := frozen_ext gB (RRr.out.2.2.2.2 2) rrs
        have cf3 := frozen_ext gB (RRr.out.2.2.2.2 3) rrs
        go_wp2
        refine bodyPost_ret (v := .agg #[.int .i64 k0, .int .i64 k1, .int .i64 k2, .int .i64 k3]) (by simp [results, Tryz.results306, go_sem, c0, c1', c2, c3]) rfl ⟨_, rfl, ext_set4 (grown_trans hg00 (grown_trans hg gB)) (by omega) _ _ _ _, .inr ⟨fun h => hbad (h c1 (by omega)), _, _, _, _, hk, rfl⟩⟩
    · have hc0 : c = 0 := by omega
      subst hc0
      have c0 := RRr.out.1
      have c1 := RRr.out.2.1
      have c2 := RRr.out.2.2.1
      have c3 := RRr.out.2.2.2.1
      have cf0 := RRr.out.2.2.2.2 0
      have cf1 := RRr.out.2.2.2.2 1
      have cf2 := RRr.out.2.2.2.2 2
      have cf3 := RRr.out.2.2.2.2 3
      go_wp2
      refine bodyPost_ret (v := .agg #[.int .i64 0, .int .i64 0, .int .i64 0, .int .i64 0]) (by simp [results, Tryz.results306, go_sem, c0, c1, c2, c3]) rfl ⟨_, rfl, ext_set4 (grown_trans hg00 hg) (by omega) _ _ _ _, .inl ⟨fun m h => HLV.out m (by omega) h, rfl⟩⟩

open Classical in
theorem faultR_of {good : Prop} {v : Value} (h : FaultR good v) : ∃ a b c d : Int, v = .agg #[.int .i64 a, .int .i64 b, .int .i64 c, .int .i64 d] ∧ (a == 0) = decide good := by
  rcases h with ⟨hg, rfl⟩ | ⟨hb, a, b, c, d, ha, rfl⟩
  · exact ⟨0, 0, 0, 0, rfl, by simp [hg]⟩
  · exact ⟨a, b, c, d, rfl, by simp [hb, ha]⟩

open Classical in
set_option maxRecDepth 100000 in
set_option maxHeartbeats 4000000 in
theorem l08Consistent_ok (P : Pr) (hP : Valid P) (w : World) (pv : Value) (Sp : Nat → Prop) (hpv : PresV Sp w pv P) :
    Calls Tryz.prog 232 #[pv] w (Ret w fun _ v => v = .bool (decide (RAll P))) := by
  obtain ⟨vo, vp, vc, rfl, h3⟩ := hpv
  have hp0 := PresP.box h3 28
  have hg0 : Ext w (w.alloc (.cells #[vo, vp, vc] 28)) := World.grownBy_alloc _ _ _
  go_enter Tryz.func232, Tryz.ntmps232
  go_wp2_with fail
  refine Calls.mono (l08Fault_ok P hP _ _ _ ⟨_, _, _, rfl, Pres3.ext h3 (World.grownBy_alloc _ _ _)⟩) ?_
  rintro eA wA ⟨vA, rfl, hgA, hFA⟩
  obtain ⟨a, b, c, d, rfl, hab⟩ := faultR_of hFA
  have hfd : ∀ w : World, (Instr.field 174 (.agg #[.int .i64 a, .int .i64 b, .int .i64 c, .int .i64 d]) 0).run Tryz.prog w = .ok (.int .i64 a) w := fun _ => by kernel_rfl
  go_wp2
  exact bodyPost_ret (v := .bool (decide (RAll P))) (by simp [results, Tryz.results232, go_sem]) rfl ⟨_, rfl, grown_trans hg0 hgA, rfl⟩

open Classical in
set_option maxRecDepth 100000 in
set_option maxHeartbeats 4000000 in
theorem l08Group_ok (P : Pr) (w : World) (pv : Value) (Sp : Nat → Prop) (hpv : PresV Sp w pv P) :
    Calls Tryz.prog 140 #[pv] w (Ret w fun _ v => v = .bool (rconsB P)) := by
  obtain ⟨vo, vp, vc, rfl, h3⟩ := hpv
  have hp0 := PresP.box h3 28
  have hg0 : Ext w (w.alloc (.cells #[vo, vp, vc] 28)) := World.grownBy_alloc _ _ _
  go_enter Tryz.func140, Tryz.ntmps140
  go_wp2_with fail
  refine Calls.mono (sIsPresentation_ok _ _ P _ ⟨_, _, _, rfl, Pres3.ext h3 (World.grownBy_alloc _ _ _)⟩) ?_
  rintro eA wA ⟨vA, rfl, hgA, rfl⟩
  obtain ⟨vo5, vp5, vc5, _, _, hb1, hb2, hb3, h3r⟩ := (hp0.ext hgA).at
  simp at hb2 hb3
  by_cases hv : Valid P
  · have h1 : validB P = true := by simp [validB, hv]
    rw [h1]
    go_wp2_with fail
    refine Calls.mono (l08Consistent_ok P hv _ _ _ ⟨_, _, _, rfl, h3r⟩) ?_
    rintro eB wB ⟨vB, rfl, hgB, rfl⟩
    go_wp2
    exact bodyPost_ret (v := .bool (rconsB P)) (by simp [results, Tryz.results140, go_sem, rconsB, hv]) rfl ⟨_, rfl, grown_trans hg0 (grown_trans hgA hgB), rfl⟩
  · have h1 : validB P = false := by simp [validB, hv]
    rw [h1]
    go_wp2
    exact bodyPost_ret (v := .bool (rconsB P)) (by simp [results, Tryz.results140, go_sem, rconsB, hv]) rfl ⟨_, rfl, grown_trans hg0 hgA, rfl⟩

/-- what impl.consistentFrom answers: the first level from which on no level shows a fault -/
def IFrom (P : Pr) (c : Nat) : Prop := c ≤ P.orders.length ∧ (∀ m, c ≤ m → m < P.orders.length → ILevel P m) ∧ (0 < c → ¬ ILevel P (c - 1))

open Classical in
set_option maxRecDepth 100000 in
set_option maxHeartbeats 4000000 in
theorem consistentFrom_ok (P : Pr) (hP : Valid P) (w : World) (p : Value) (Sp : Nat → Prop) (hp : PresP Sp w p P) :
    Calls Tryz.prog 94 #[p] w (Ret w fun _ v => ∃ c : Nat, v = .int .i64 c ∧ IFrom P c) := by
  have hn6 := hP.n6
  obtain ⟨pb, po, rfl, _⟩ := hp.shape
  obtain ⟨ao, capo, hco, hoi⟩ := hp.ordAt
  go_enter Tryz.func94, Tryz.ntmps94
  go_wp2
  clear hco hoi
  go_loopw [3] (fun jv wr => ∃ c : Nat, jv = .int .i64 (c : Int) ∧ c ≤ P.orders.length ∧ Ext w wr ∧ ∀ m, c ≤ m → m < P.orders.length → ILevel P m) (fun jv _ => (intOf jv).toNat)
  case atStart => exact ⟨P.orders.length, by go_num, by omega, Ext.refl _, fun m h1 h2 => by omega⟩
  case round =>
    obtain ⟨c, rfl, hc, hg, hlev⟩ := hrel
    have HLV := Lib.hid hlev; clear hlev
    by_cases hpos : 1 ≤ c
    · obtain ⟨c1, rfl⟩ : ∃ c1, c = c1 + 1 := ⟨c - 1, by omega⟩
      go_wp2_with fail
      refine Calls.mono (levelFault_ok P hP wr _ c1 _ (hp.ext hg) (by omega)) ?_
      rintro eA wA ⟨vA, rfl, hgA, hFA⟩
      rcases hFA with ⟨hgood, hv⟩ | ⟨hbad, k0, k1, k2, k3, hk, rfl⟩
      · unfold fault0 at hv
        subst hv
        go_wp2
        go_roundw
        case rel => exact ⟨c1, by go_num, by omega, grown_trans hg hgA, fun m h1 h2 => by
          rcases Nat.lt_or_ge c1 m with h3 | h3
          · exact HLV.out m h3 h2
          · have : m = c1 := by omega
            rw [this]; exact hgood⟩
        case measure => simp [intOf]
      · go_wp2
        exact bodyPost_ret (v := .int .i64 ((c1 + 1 : Nat) : Int)) (by simp [results, Tryz.results94, go_sem]) rfl ⟨_, rfl, grown_trans hg hgA, c1 + 1, rfl, hc, HLV.out, fun _ => by simpa using hbad⟩
    · have hc0 : c = 0 := by omega
      subst hc0
      go_wp2
      exact bodyPost_ret (v := .int .i64 ((0 : Nat) : Int)) (by simp [results, Tryz.results94, go_sem]) rfl ⟨_, rfl, hg, 0, rfl, by omega, HLV.out, fun h => by omega⟩

open Classical in
set_option maxRecDepth 100000 in
set_option maxHeartbeats 4000000 in
theorem isConsistent_ok (P : Pr) (w : World) (pv : Value) (Sp : Nat → Prop) (hpv : PresV Sp w pv P) :
    Calls Tryz.prog 21 #[pv] w (Ret w fun _ v => v = .bool (iconsB P)) := by
  obtain ⟨vo, vp, vc, rfl, h3⟩ := hpv
  have hp0 := PresP.box h3 28
  have hg0 : Ext w (w.alloc (.cells #[vo, vp, vc] 28)) := World.grownBy_alloc _ _ _
  go_enter Tryz.func21, Tryz.ntmps21
  go_wp2_with fail
  refine Calls.mono (isPresentation_ok _ _ P _ ⟨_, _, _, rfl, Pres3.ext h3 (World.grownBy_alloc _ _ _)⟩) ?_
  rintro eA wA ⟨vA, rfl, hgA, rfl⟩
  by_cases hv : Valid P
  · have h1 : validB P = true := by simp [validB, hv]
    rw [h1]
    go_wp2_with fail
    refine Calls.mono (consistentFrom_ok P hv _ _ _ (hp0.ext hgA)) ?_
    rintro eB wB ⟨vB, rfl, hgB, c, rfl, hc⟩
    have hcb : ((c : Int) == 0) = iconsB P := by
      obtain ⟨hc1, hc2, hc3⟩ := hc
      cases c with
      | zero => simp [iconsB, hv]; exact fun k hk => hc2 k (Nat.zero_le _) hk
      | succ c =>
        have : iconsB P = false := by
          simp only [iconsB, decide_eq_false_iff_not]
          rintro ⟨_, h⟩
          exact hc3 (by omega) (h c (by omega))
        rw [this]
        simp
        omega
    go_wp2
    exact bodyPost_ret (v := .bool (iconsB P)) (by simp [results, Tryz.results21, go_sem]) rfl ⟨_, rfl, grown_trans hg0 (grown_trans hgA hgB), rfl⟩
  · have h1 : validB P = false := by simp [validB, hv]
    rw [h1]
    go_wp2
    exact bodyPost_ret (v := .bool (iconsB P)) (by simp [results, Tryz.results21, go_sem, iconsB, hv]) rfl ⟨_, rfl, grown_trans hg0 hgA, rfl⟩

end Go.Proofs.YtldheeicjnncoaaGreat
namespace Go.Proofs.YtldheeicjnncoaaGreat

/-- vectors with zeros ahead of index i -/
def T (P : Pr) (i : Nat) (x : List Int) : Prop := Vec P.orders x ∧ ∀ k, k < i → gt x k = 0

theorem T.up {P : Pr} {i : Nat} {x : List Int} (h : T P i x) (h0 : gt x i = 0) : T P (i + 1) x := ⟨h.1, fun k hk => by
  rcases Nat.lt_succ_iff_lt_or_eq.1 hk with h1 | h1
  · exact h.2 k h1
  · rw [h1]; exact h0⟩
theorem T.down {P : Pr} {i j : Nat} {x : List Int} (h : T P j x) (hij : i ≤ j) : T P i x := ⟨h.1, fun k hk => h.2 k (by omega)⟩
theorem T.of_zeroTo {P : Pr} {i : Nat} {x : List Int} (h : Vec P.orders x) (hz : ZeroTo i x) : T P (i + 1) x := ⟨h, fun k hk => hz k (by omega)⟩
theorem T.zeros {P : Pr} (hP : Valid P) (i : Nat) : T P i (zeros P.orders.length) := ⟨zeros_vec hP, fun _ _ => gt_replicate _ _⟩
theorem T.drop {P : Pr} (hP : Valid P) {i : Nat} (hi : i < P.orders.length) {x : List Int} (h : T P i x) : T P (i + 1) (x.set i 0) := by
  have ho := hP.ord7 i hi
  refine ⟨h.1.set i 0 ⟨by omega, fun _ => by omega⟩, fun k hk => ?_⟩
  by_cases e : i = k
  · subst e; rw [gt_set_eq _ _ _ (by rw [h.1.1]; exact hi)]
  · rw [gt_set_ne _ _ _ _ e]; exact h.2 k (by omega)
theorem T.put {P : Pr} {i : Nat} {x : List Int} (h : T P (i + 1) x) {a : Int} (ha : 0 ≤ a ∧ (i < P.orders.length → a < gt P.orders i)) : T P i (x.set i a) :=
  ⟨h.1.set i a ha, fun k hk => by rw [gt_set_ne _ _ _ _ (by omega)]; exact h.2 k (by omega)⟩
theorem gt_set_if {α : Type} [Inhabited α] (l : List α) (i j : Nat) (x : α) (hj : j < l.length) : gt (l.set i x) j = if i = j then x else gt l j := by
  by_cases h : i = j
  · subst h; rw [gt_set_eq _ _ _ hj, if_pos rfl]
  · rw [gt_set_ne _ _ _ _ h, if_neg h]
theorem gt_unit (n j k : Nat) (hk : k < n) : gt (unitV n j) k = if j = k then 1 else 0 := by
  unfold unitV
  rw [gt_set_if _ _ _ _ (by simpa using hk), gt_replicate]
theorem T.unit {P : Pr} (hP : Valid P) {i j : Nat} (hij : i ≤ j) (hj : j < P.orders.length) : T P i (unitV P.orders.length j) :=
  ⟨unitV_vec hP j, fun k hk => by rw [gt_unit _ _ _ (by omega), if_neg (by omega)]⟩
theorem Vec.ext {o x y : List Int} (hx : Vec o x) (hy : Vec o y) (h : ∀ k, k < o.length → gt x k = gt y k) : x = y :=
  ext_gt (by rw [hx.1, hy.1]) (fun k hk => h k (by rw [← hx.1]; exact hk))
theorem T.top {P : Pr} (hP : Valid P) {x : List Int} (h : T P P.orders.length x) : x = Go.Proofs.YtldheeicjnncoaaGreat.zeros P.orders.length :=
  Vec.ext h.1 (zeros_vec hP) (fun k hk => by rw [h.2 k hk]; exact (gt_replicate _ _).symm)

theorem rAt_T {P : Pr} (hP : Valid P) (f : Nat) : ∀ i A B, i + f = P.orders.length → Vec P.orders A → Vec P.orders B → T P i (rAt P f i A B) := by
  induction f with
  | zero => intro i A B _ _ _; exact T.zeros hP i
  | succ f ih =>
    intro i A B hi hA hB
    refine ⟨rAt_vec hP _ i A B hi hA hB, fun k hk => ?_⟩
    have ho := hP.ord7 i (by omega)
    have hAi := hA.2 i (by omega)
    have hBi := hB.2 i (by omega)
    have hl : Vec P.orders (iter (gt B i).toNat (fun l => rImgTo (rAt P f (i + 1)) (gt P.conj i) i l (zeros P.orders.length) f) (A.set i 0)) :=
      iter_inv (Vec P.orders) _ (fun y hy => rImgTo_vec hP f i hi (rAt_vec hP f) _ _ (zeros_vec hP) f (Nat.le_refl _)) _ _ (hA.set i 0 ⟨by omega, fun _ => by omega⟩)
    have vB : Vec P.orders (B.set i 0) := hB.set i 0 ⟨by omega, fun _ => by omega⟩
    have hr := ih (i + 1) _ _ (by omega) hl vB
    simp only [rAt]
    split
    · rw [gt_set_ne _ _ _ _ (by omega)]
      exact (ih (i + 1) _ _ (by omega) (hP.pv i (by omega)).1 hr.1).2 k (by omega)
    · rw [gt_set_ne _ _ _ _ (by omega)]
      exact hr.2 k (by omega)

theorem tg_T {P : Pr} (hP : Valid P) {i : Nat} {E : List Int} (hE : T P i E) {j : Nat} (hij : i ≤ j) (hj : j < P.orders.length) : T P i (tg P E j) :=
  ⟨tg_vec hP E j hE.1 hj, fun k hk => by
    have := (tgen_entries hP P.orders.length E j hE.1 hj (by omega)).1 k (by omega)
    have h2 : gt (tg P E j) k = gt E k := this
    rw [h2]; exact hE.2 k hk⟩
theorem tv_T {P : Pr} (hP : Valid P) {i : Nat} {E F : List Int} (hE : T P i E) (hF : T P i F) : T P i (tv P E F) := by
  unfold tv tvec
  rw [tvecTo_acc, hF.1.1]
  refine acc_inv (T P i) _ _ _ _ _ hE (fun y j hy _ hj h0 => tg_T hP hy ?_ (by omega))
  have : ¬ j < i := fun h => h0 (hF.2 j h)
  omega

/-- the tail at i is a group in which the relations hold, and each member is the product of its entries' powers -/
structure Lvl (P : Pr) (f i : Nat) : Prop where
  grp : GrpOn (T P i) (rAt P f i) (zeros P.orders.length)
  nf : ∀ x, T P i x → npr (rAt P f i) (unitV P.orders.length) x i (zeros P.orders.length) f = x
  rel : Holds P (T P i) (rAt P f i) (zeros P.orders.length) (unitV P.orders.length) i

theorem Lvl.top {P : Pr} (hP : Valid P) : Lvl P 0 P.orders.length := by
  have hz := T.zeros hP P.orders.length
  refine ⟨⟨⟨fun _ _ _ _ => hz, hz, fun _ _ _ _ _ _ => rfl, fun x hx => (hx.top hP).symm, fun x hx => (hx.top hP).symm⟩, fun x _ => ⟨_, hz, rfl, rfl⟩⟩, fun x hx => ?_, ⟨fun j a b => by omega, fun j a b => by omega, fun j k a b c => by omega⟩⟩
  exact (hx.top hP).symm

section
variable {P : Pr} {f i : Nat}

theorem Lvl.tv_eq (hP : Valid P) (hi : i + f = P.orders.length) (L : Lvl P f i) {E F : List Int} (hE : T P i E) (hF : T P i F) : tv P E F = rAt P f i E F := by
  have h := vd_tv hP L.grp.toMonOn (by omega) L.rel E F hE.1 hF.1 hF.2
  rw [show P.orders.length - i = f by omega, L.nf _ hE, L.nf _ hF, L.nf _ (tv_T hP hE hF)] at h
  exact h
theorem Lvl.tg_eq (hP : Valid P) (hi : i + f = P.orders.length) (L : Lvl P f i) {E : List Int} (hE : T P i E) {j : Nat} (hij : i ≤ j) (hj : j < P.orders.length) : tg P E j = rAt P f i E (unitV P.orders.length j) := by
  have h := vd_tg hP L.grp.toMonOn L.rel E j hE.1 hij hj
  rw [show P.orders.length - i = f by omega, L.nf _ hE, L.nf _ (tg_T hP hE hij hj)] at h
  exact h

theorem Lvl.iPow_eq (hP : Valid P) (hi : i + f = P.orders.length) (L : Lvl P f i) {a : List Int} (ha : T P i a) (k : Int) : iPow P a k = iter k.toNat (fun y => rAt P f i y a) (zeros P.orders.length) := by
  unfold iPow
  rw [ha.1.1]
  exact iter_congr (T P i) _ _ (fun x hx => tv_T hP hx ha) (fun x hx => L.tv_eq hP hi hx ha) _ _ (T.zeros hP i)

/-- square and multiply is the power -/
theorem rRepF_pow {S : List Int → Prop} {m : List Int → List Int → List Int} {e : List Int} (M : MonOn S m e) : ∀ (f : Nat) (out base : List Int) (k : Nat), S out → S base → k ≤ f →
    rRepF m f out base k = m out (iter k (fun y => m y base) e) := by
  intro f
  induction f with
  | zero =>
    intro out base k ho hb hk
    have : k = 0 := by omega
    subst this
    exact (M.er out ho).symm
  | succ f ih =>
    intro out base k ho hb hk
    simp only [rRepF]
    split
    · rename_i h; subst h; exact (M.er out ho).symm
    · rename_i h
      have hbb := M.cl _ _ hb hb
      have hsq : ∀ q, iter q (fun y => m y (m base base)) e = iter (2 * q) (fun y => m y base) e := by
        intro q
        induction q with
        | zero => rfl
        | succ q ihq =>
          show m (iter q (fun y => m y (m base base)) e) (m base base) = m (m (iter (2 * q) (fun y => m y base) e) base) base
          rw [ihq, M.ass _ _ _ (M.pow_cl hb M.one _) hb hb]
      by_cases hodd : k % 2 = 1
      · rw [if_pos hodd, ih _ _ _ (M.cl _ _ ho hb) hbb (by omega), hsq, M.ass _ _ _ ho hb (M.pow_cl hb M.one _)]
        congr 1
        have h1 := M.pow_add hb 1 (2 * (k / 2))
        rw [show 1 + 2 * (k / 2) = k by omega] at h1
        rw [h1]
        show m base _ = m (m e base) _
        rw [M.el base hb]
      · rw [if_neg hodd, ih _ _ _ ho hbb (by omega), hsq, show 2 * (k / 2) = k by omega]

theorem Lvl.rRep_eq (L : Lvl P f i) {a : List Int} (ha : T P i a) (k : Nat) : rRep (rAt P f i) (zeros P.orders.length) a k = iter k (fun y => rAt P f i y a) (zeros P.orders.length) := by
  unfold rRep
  rw [rRepF_pow L.grp.toMonOn k _ _ k L.grp.one ha (Nat.le_refl _)]
  exact L.grp.el _ (L.grp.toMonOn.pow_cl ha L.grp.one k)

/-- the program's inverse -/
theorem Lvl.iInv_eq (hP : Valid P) (hi : i + f = P.orders.length) (L : Lvl P f i) {a : List Int} (ha : T P i a) : T P i (iInv P a) ∧ rAt P f i a (iInv P a) = zeros P.orders.length := by
  have key : ∀ k, k ≤ P.orders.length → T P i (invTo P a k).1 ∧ T P i (invTo P a k).2 ∧ (invTo P a k).1 = rAt P f i a (invTo P a k).2 ∧ ∀ l, l < k → gt (invTo P a k).1 l = 0 := by
    intro k
    induction k with
    | zero =>
      intro _
      refine ⟨ha, by simp only [invTo]; rw [ha.1.1]; exact T.zeros hP i, ?_, fun l hl => by omega⟩
      simp only [invTo]
      rw [ha.1.1]
      exact (L.grp.er a ha).symm
    | succ k ih =>
      intro hk
      obtain ⟨h1, h2, h3, h4⟩ := ih (by omega)
      simp only [invTo]
      by_cases h0 : gt (invTo P a k).1 k = 0
      · have hm : left_ (gt P.orders k) (gt (invTo P a k).1 k) = 0 := by unfold left_; rw [if_pos h0]
        rw [hm]
        refine ⟨h1, h2, h3, fun l hl => ?_⟩
        rcases Nat.lt_succ_iff_lt_or_eq.1 hl with h | h
        · exact h4 l h
        · rw [h]; exact h0
      · have hik : i ≤ k := by
          have : ¬ k < i := fun h => h0 (h1.2 k h)
          omega
        have hR := iter_rel (fun (x y : List Int) => T P i x ∧ T P i y ∧ x = rAt P f i a y ∧ ∀ l, l < k → gt x l = 0) (fun e => tg P e k) (fun e => tg P e k) (by
          rintro x y ⟨g1, g2, g3, g4⟩
          refine ⟨tg_T hP g1 hik (by omega), tg_T hP g2 hik (by omega), ?_, fun l hl => ?_⟩
          · show tg P x k = rAt P f i a (tg P y k)
            rw [L.tg_eq hP hi g1 hik (by omega), L.tg_eq hP hi g2 hik (by omega), g3, L.grp.ass _ _ _ ha g2 (T.unit hP hik (by omega))]
          · have h5 := (tgen_entries hP P.orders.length x k g1.1 (by omega) (by omega)).1 l hl
            have h6 : gt (tg P x k) l = gt x l := h5
            show gt (tg P x k) l = 0
            rw [h6]; exact g4 l hl) (left_ (gt P.orders k) (gt (invTo P a k).1 k)) _ _ ⟨h1, h2, h3, h4⟩
        obtain ⟨g1, g2, g3, g4⟩ := hR
        refine ⟨g1, g2, g3, fun l hl => ?_⟩
        rcases Nat.lt_succ_iff_lt_or_eq.1 hl with h | h
        · exact g4 l h
        · have h7 := (iter_tg hP (invTo P a k).1 k (by omega) h1.1 h0 _ (Nat.le_refl _)).2
          rw [if_pos rfl] at h7
          rw [h]; exact h7
  obtain ⟨h1, h2, h3, h4⟩ := key P.orders.length (Nat.le_refl _)
  have he : iInv P a = (invTo P a P.orders.length).2 := by unfold iInv; rw [ha.1.1]
  rw [he]
  refine ⟨h2, ?_⟩
  rw [← h3]
  exact T.top hP ⟨h1.1, h4⟩

theorem Lvl.iConj_iff (hP : Valid P) (hi : i + f = P.orders.length) (L : Lvl P f i) {a b z : List Int} (ha : T P i a) (hb : T P i b) (hz : T P i z) : iConj P a b = z ↔ rAt P f i a b = rAt P f i b z := by
  obtain ⟨h1, h2⟩ := L.iInv_eq hP hi hb
  have hab := tv_T hP ha hb
  unfold iConj
  rw [L.tv_eq hP hi h1 hab, L.tv_eq hP hi ha hb]
  exact L.grp.solve hb h1 (L.grp.cl _ _ ha hb) hz h2

end

section
variable {P : Pr} {f i : Nat}

theorem rImage_T (hP : Valid P) (hi : i + (f + 1) = P.orders.length) (x : List Int) : T P (i + 1) (rImage P f i x) := by
  unfold rImage
  rw [rImgTo_acc]
  refine acc_inv (T P (i + 1)) _ _ _ _ _ (T.zeros hP _) (fun y j hy a b _ => ?_)
  exact rAt_T hP f (i + 1) _ _ (by omega) hy.1 ((hP.cv i (by omega)).2 (j - i - 1) (by omega)).1

theorem cj_T (hP : Valid P) {j : Nat} (hi : i < j) (hj : j < P.orders.length) : T P (i + 1) (gt (gt P.conj i) (j - i - 1)) :=
  T.of_zeroTo ((hP.cv i (by omega)).2 (j - i - 1) (by omega)).1 ((hP.cv i (by omega)).2 (j - i - 1) (by omega)).2
theorem pw_T (hP : Valid P) (hi : i < P.orders.length) : T P (i + 1) (gt P.powers i) := T.of_zeroTo (hP.pv i hi).1 (hP.pv i hi).2

theorem Lvl.iImg_eq (hP : Valid P) (hi : i + (f + 1) = P.orders.length) (L : Lvl P f (i + 1)) {x : List Int} (hx : x.length = P.orders.length) : iImg P i x = rImage P f i x := by
  unfold iImg rImage
  rw [(hP.cv i (by omega)).1, show P.orders.length - 1 - i = f by omega, hx, rImgTo_acc, rImgTo_acc]
  exact (acc_rel (fun y z : List Int => y = z ∧ T P (i + 1) y) _ _ x (i + 1) _ _ f ⟨rfl, T.zeros hP _⟩ (by
    rintro y z j ⟨rfl, hy⟩ a b _
    have hc := cj_T (i := i) hP (j := j) (by omega) (by omega)
    exact ⟨L.tv_eq hP (by omega) hy hc, tv_T hP hy hc⟩)).1

/-- both sides see the same faults at a level behind which all is well -/
theorem Lvl.iff (hP : Valid P) (hi : i + (f + 1) = P.orders.length) (L : Lvl P f (i + 1)) : ILevel P i ↔ RLevel P f i := by
  have hi1 : i + 1 + f = P.orders.length := by omega
  have e1 : ∀ J, i < J → J < P.orders.length → (ICond1 P i J ↔ RCond1 P f i J) := fun J a b => by
    unfold ICond1 RCond1
    have hc := cj_T (i := i) hP a b
    rw [L.iPow_eq hP hi1 hc, L.rRep_eq hc, L.iImg_eq hP hi (hP.pv J b).1.1]
  have e2 : ∀ J K, i < J → J < K → K < P.orders.length → (ICond2 P i J K ↔ RCond2 P f i J K) := fun J K a b c => by
    unfold ICond2 RCond2
    have h1 := cj_T (i := i) hP (j := K) (by omega) c
    have h2 := cj_T (i := i) hP (j := J) a (by omega)
    rw [L.iImg_eq hP hi (((hP.cv J (by omega)).2 (K - J - 1) (by omega)).1.1)]
    exact L.iConj_iff hP hi1 h1 h2 (rImage_T hP hi _)
  have e3 : ICond3 P i ↔ RCond3 P f i := by
    unfold ICond3 RCond3
    rw [L.iImg_eq hP hi (hP.pv i (by omega)).1.1]
  have e4 : ∀ J, i < J → J < P.orders.length → (ICond4 P i J ↔ RCond4 P f i J) := fun J a b => by
    unfold ICond4 RCond4
    have hu : T P (i + 1) (unitV P.orders.length J) := T.unit hP (by omega) b
    have h1 : iter (gt P.orders i).toNat (fun x => iImg P i x) (unitV P.orders.length J) = iter (gt P.orders i).toNat (fun x => rImage P f i x) (unitV P.orders.length J) :=
      iter_congr (Vec P.orders) _ _ (fun x hx => iImg_vec hP i (by omega) x hx) (fun x hx => L.iImg_eq hP hi hx.1) _ _ hu.1
    have h2 : T P (i + 1) (iter (gt P.orders i).toNat (fun x => rImage P f i x) (unitV P.orders.length J)) := iter_inv (T P (i + 1)) _ (fun x _ => rImage_T hP hi x) _ _ hu
    rw [h1, eq_comm, L.iConj_iff hP hi1 hu (pw_T hP (by omega)) h2, eq_comm]
  constructor
  · intro h
    exact ⟨fun J a b => (e1 J a b).1 (h.c1 J a b), fun J K a b c => (e2 J K a b c).1 (h.c2 J K a b c), e3.1 h.c3, fun J a b => (e4 J a b).1 (h.c4 J a b)⟩
  · intro h
    exact ⟨fun J a b => (e1 J a b).2 (h.c1 J a b), fun J K a b c => (e2 J K a b c).2 (h.c2 J K a b c), e3.2 h.c3, fun J a b => (e4 J a b).2 (h.c4 J a b)⟩

end
end Go.Proofs.YtldheeicjnncoaaGreat
namespace Go.Proofs.YtldheeicjnncoaaGreat

section
variable {P : Pr} {f i : Nat}

/-- a pair as a vector -/
def prV (i : Nat) (p : Nat × List Int) : List Int := p.2.set i (p.1 : Int)

theorem prV_T (hP : Valid P) (hi : i < P.orders.length) {p : Nat × List Int} (hp : ExS (T P (i + 1)) (gt P.orders i).toNat p) : T P i (prV i p) := by
  have ho := hP.ord7 i hi
  have h1 := hp.1
  exact hp.2.put ⟨by omega, fun _ => by omega⟩

theorem prV_sur (hP : Valid P) (hi : i < P.orders.length) {x : List Int} (hx : T P i x) : ∃ p, ExS (T P (i + 1)) (gt P.orders i).toNat p ∧ prV i p = x := by
  have ho := hP.ord7 i hi
  have hxi := hx.1.2 i hi
  refine ⟨((gt x i).toNat, x.set i 0), ⟨by show (gt x i).toNat < _; omega, hx.drop hP hi⟩, ?_⟩
  unfold prV
  simp only [List.set_set]
  refine ext_gt (by simp) (fun k hk => ?_)
  rw [List.length_set] at hk
  rw [gt_set_if _ _ _ _ hk]
  split
  · rename_i h; subst h; omega
  · rfl

theorem set_zero_of {x : List Int} (h : T P (i + 1) x) : x.set i 0 = x := by
  refine ext_gt (by simp) (fun k hk => ?_)
  rw [List.length_set] at hk
  rw [gt_set_if _ _ _ _ hk]
  split
  · rename_i e; subst e; exact (h.2 i (by omega)).symm
  · rfl

theorem prV_mul (hP : Valid P) (hi : i + (f + 1) = P.orders.length) (p q : Nat × List Int) (hp : ExS (T P (i + 1)) (gt P.orders i).toNat p) (hq : ExS (T P (i + 1)) (gt P.orders i).toNat q) :
    rAt P (f + 1) i (prV i p) (prV i q) = prV i (exm (rAt P f (i + 1)) (rImage P f i) (gt P.powers i) (gt P.orders i).toNat p q) := by
  obtain ⟨a, x⟩ := p
  obtain ⟨b, y⟩ := q
  obtain ⟨ha, hx⟩ := hp
  obtain ⟨hb, hy⟩ := hq
  simp only at ha hb hx hy
  have ho := hP.ord7 i (by omega)
  have ga : gt (prV i (a, x)) i = (a : Int) := gt_set_eq _ _ _ (by show i < x.length; rw [hx.1.1]; omega)
  have gb : gt (prV i (b, y)) i = (b : Int) := gt_set_eq _ _ _ (by show i < y.length; rw [hy.1.1]; omega)
  have sa : (prV i (a, x)).set i 0 = x := by unfold prV; rw [List.set_set]; exact set_zero_of hx
  have sb : (prV i (b, y)).set i 0 = y := by unfold prV; rw [List.set_set]; exact set_zero_of hy
  simp only [rAt, ga, gb, sa, sb]
  unfold exm
  simp only
  have him : (fun l => rImgTo (rAt P f (i + 1)) (gt P.conj i) i l (zeros P.orders.length) f) = rImage P f i := rfl
  rw [him, show ((b : Int)).toNat = b by omega]
  by_cases hc : (gt P.orders i).toNat ≤ a + b
  · rw [if_pos (by omega), if_pos hc]
    unfold prV
    simp only
    congr 1
    omega
  · rw [if_neg (by omega), if_neg hc]
    unfold prV
    simp only
    congr 1

/-- what a faultless level gives -/
theorem Lvl.ext (hP : Valid P) (hi : i + (f + 1) = P.orders.length) (L : Lvl P f (i + 1)) (R : RLevel P f i) :
    ExtOk (T P (i + 1)) (rAt P f (i + 1)) (zeros P.orders.length) (rImage P f i) (gt P.powers i) (gt P.orders i).toNat ∧
      ∀ j, i < j → j < P.orders.length → rImage P f i (unitV P.orders.length j) = gt (gt P.conj i) (j - i - 1) := by
  have M := L.grp.toMonOn
  have ho := hP.ord7 i (by omega)
  have hf : P.orders.length - (i + 1) = f := by omega
  have hmem : ∀ j, i + 1 ≤ j → j < P.orders.length → T P (i + 1) (gt (gt P.conj i) (j - i - 1)) := fun j a b => cj_T hP (by omega) b
  have hImg : ∀ x, rImage P f i x = npr (rAt P f (i + 1)) (fun j => gt (gt P.conj i) (j - i - 1)) x (i + 1) (zeros P.orders.length) f := fun x => by
    unfold rImage npr; rw [rImgTo_acc]
  have hImgAt : ∀ (j : Nat) (x : List Int), i < j → j < P.orders.length → ZeroTo j x → rImage P f i x = npr (rAt P f (i + 1)) (fun j => gt (gt P.conj i) (j - i - 1)) x (j + 1) (zeros P.orders.length) (P.orders.length - (j + 1)) := fun j x a b hz => by
    rw [hImg]
    unfold npr
    rw [show f = (j - i) + (P.orders.length - (j + 1)) by omega, acc_split, acc_zero _ _ _ _ (j - i) (fun k _ c => hz k (by omega)), show i + 1 + (j - i) = j + 1 by omega]
  have H : Holds P (T P (i + 1)) (rAt P f (i + 1)) (zeros P.orders.length) (fun j => gt (gt P.conj i) (j - i - 1)) (i + 1) := by
    refine ⟨hmem, fun j a b => ?_, fun j k a b c => ?_⟩
    · have h := R.c1 j (by omega) b
      unfold RCond1 at h
      rw [L.rRep_eq (hmem j a b), hImgAt j _ (by omega) b (hP.pv j b).2] at h
      exact h
    · have h := R.c2 j k (by omega) b c
      unfold RCond2 at h
      rw [hImgAt j _ (by omega) (by omega) ((hP.cv j (by omega)).2 (k - j - 1) (by omega)).2] at h
      exact h
  have hom : ∀ A B, Vec P.orders A → Vec P.orders B → rImage P f i (rAt P f (i + 1) A B) = rAt P f (i + 1) (rImage P f i A) (rImage P f i B) := fun A B hA hB => by
    rw [hImg, hImg, hImg]
    exact vd_at hP M f (i + 1) (by omega) H A B hA hB
  have hunit : ∀ j, i < j → j < P.orders.length → rImage P f i (unitV P.orders.length j) = gt (gt P.conj i) (j - i - 1) := fun j a b => by
    rw [hImg]
    unfold npr
    rw [show f = (j - (i + 1)) + ((P.orders.length - (j + 1)) + 1) by omega, acc_split, acc_zero _ _ _ _ (j - (i + 1)) (fun k _ c => by rw [gt_unit _ _ _ (by omega), if_neg (by omega)]), acc_front, show i + 1 + (j - (i + 1)) = j by omega,
      acc_zero _ _ (j + 1) _ _ (fun k c d => by rw [gt_unit _ _ _ (by omega), if_neg (by omega)]), gt_unit _ _ _ b, if_pos rfl]
    show rAt P _ (i + 1) (zeros P.orders.length) _ = _
    rw [show j - (i + 1) + (P.orders.length - (j + 1) + 1) = f by omega]
    exact M.el _ (hmem j (by omega) b)
  refine ⟨?_, hunit⟩
  have hw := pw_T (i := i) hP (by omega)
  have ihom : ∀ (k : Nat) (x y : List Int), T P (i + 1) x → T P (i + 1) y → iter k (rImage P f i) (rAt P f (i + 1) x y) = rAt P f (i + 1) (iter k (rImage P f i) x) (iter k (rImage P f i) y) := by
    intro k x y hx hy
    have := (iter_rel (fun (u : List Int) (v : List Int × List Int) => T P (i + 1) v.1 ∧ T P (i + 1) v.2 ∧ u = rAt P f (i + 1) v.1 v.2) (rImage P f i) (fun v => (rImage P f i v.1, rImage P f i v.2)) (by
      rintro u ⟨v1, v2⟩ ⟨h1, h2, rfl⟩
      exact ⟨rImage_T hP hi _, rImage_T hP hi _, hom _ _ h1.1 h2.1⟩) k (rAt P f (i + 1) x y) (x, y) ⟨hx, hy, rfl⟩).2.2
    rw [this]
    have e : ∀ k, iter k (fun v : List Int × List Int => (rImage P f i v.1, rImage P f i v.2)) (x, y) = (iter k (rImage P f i) x, iter k (rImage P f i) y) := by
      intro k
      induction k with
      | zero => rfl
      | succ k ih => show (fun v : List Int × List Int => (rImage P f i v.1, rImage P f i v.2)) (iter k _ (x, y)) = _; rw [ih]; rfl
    rw [e]
  have icl : ∀ (k : Nat) (x : List Int), T P (i + 1) x → T P (i + 1) (iter k (rImage P f i) x) := fun k x hx => iter_inv (T P (i + 1)) _ (fun y _ => rImage_T hP hi y) k x hx
  refine ⟨by omega, L.grp, fun x _ => rImage_T hP hi x, fun x y hx hy => hom x y hx.1 hy.1, hw, R.c3, ?_⟩
  intro x hx
  have hone : rImage P f i (zeros P.orders.length) = zeros P.orders.length := by
    rw [hImg]; exact acc_zero _ _ _ _ _ (fun j _ _ => gt_replicate _ _)
  have hione : ∀ k, iter k (rImage P f i) (zeros P.orders.length) = zeros P.orders.length := by
    intro k
    induction k with
    | zero => rfl
    | succ k ih => show rImage P f i (iter k _ _) = _; rw [ih, hone]
  have key : (fun y => T P (i + 1) y ∧ rAt P f (i + 1) (gt P.powers i) (iter (gt P.orders i).toNat (rImage P f i) y) = rAt P f (i + 1) y (gt P.powers i)) (npr (rAt P f (i + 1)) (unitV P.orders.length) x (i + 1) (zeros P.orders.length) f) := by
    unfold npr
    refine acc_inv (fun y => T P (i + 1) y ∧ rAt P f (i + 1) (gt P.powers i) (iter (gt P.orders i).toNat (rImage P f i) y) = rAt P f (i + 1) y (gt P.powers i)) _ _ _ _ _ ⟨L.grp.one, by rw [hione, M.er _ hw, M.el _ hw]⟩ (fun y j hy a b _ => ?_)
    obtain ⟨h1, h2⟩ := hy
    have hu : T P (i + 1) (unitV P.orders.length j) := T.unit hP a (by omega)
    have h4 := R.c4 j (by omega) (by omega)
    unfold RCond4 at h4
    refine ⟨M.cl _ _ h1 hu, ?_⟩
    rw [ihom _ _ _ h1 hu, ← M.ass _ _ _ hw (icl _ _ h1) (icl _ _ hu), h2, M.ass _ _ _ h1 hw (icl _ _ hu)]
    have h5 : rAt P f (i + 1) (gt P.powers i) (iter (gt P.orders i).toNat (rImage P f i) (unitV P.orders.length j)) = rAt P f (i + 1) (unitV P.orders.length j) (gt P.powers i) := h4
    rw [h5, M.ass _ _ _ h1 hu hw]
  rw [L.nf x hx] at key
  exact key.2

theorem Lvl.step (hP : Valid P) (hi : i + (f + 1) = P.orders.length) (L : Lvl P f (i + 1)) (R : RLevel P f i) : Lvl P (f + 1) i := by
  obtain ⟨E, hunit⟩ := L.ext hP hi R
  have hin : i < P.orders.length := by omega
  have ho := hP.ord7 i hin
  have M' := L.grp.toMonOn
  have hz0 : prV i (0, zeros P.orders.length) = zeros P.orders.length := set_zero_of (P := P) (T.zeros hP (i + 1))
  have G : GrpOn (T P i) (rAt P (f + 1) i) (zeros P.orders.length) :=
    E.group.carry (prV i) (fun p hp => prV_T hP hin hp) (fun y hy => prV_sur hP hin hy) hz0 (fun p q hp hq => prV_mul hP hi p q hp hq)
  have M := G.toMonOn
  have e0 : ∀ x, T P (i + 1) x → prV i (0, x) = x := fun x hx => set_zero_of hx
  have s0 : ∀ x, T P (i + 1) x → ExS (T P (i + 1)) (gt P.orders i).toNat (0, x) := fun x hx => ⟨by show 0 < _; omega, hx⟩
  -- the product restricted
  have res : ∀ x y, T P (i + 1) x → T P (i + 1) y → rAt P (f + 1) i x y = rAt P f (i + 1) x y := fun x y hx hy => by
    have h := prV_mul hP hi (0, x) (0, y) (s0 x hx) (s0 y hy)
    rw [e0 x hx, e0 y hy] at h
    rw [h]
    unfold exm
    simp only [Nat.add_zero, if_neg (by omega : ¬ (gt P.orders i).toNat ≤ 0)]
    exact e0 _ (M'.cl _ _ hx hy)
  have resN : ∀ (x : List Int) (j k : Nat), i + 1 ≤ j → j + k = P.orders.length → npr (rAt P (f + 1) i) (unitV P.orders.length) x j (zeros P.orders.length) k = npr (rAt P f (i + 1)) (unitV P.orders.length) x j (zeros P.orders.length) k ∧
      T P (i + 1) (npr (rAt P f (i + 1)) (unitV P.orders.length) x j (zeros P.orders.length) k) := fun x j k hj hk => by
    have := acc_rel (fun (y z : List Int) => T P (i + 1) z ∧ y = z) (fun y j => rAt P (f + 1) i y (unitV P.orders.length j)) (fun y j => rAt P f (i + 1) y (unitV P.orders.length j)) x j (zeros P.orders.length) (zeros P.orders.length) k ⟨L.grp.one, rfl⟩ (by
      rintro y z l ⟨h1, rfl⟩ a b _
      have hu : T P (i + 1) (unitV P.orders.length l) := T.unit hP (by omega) (by omega)
      exact ⟨M'.cl _ _ h1 hu, res _ _ h1 hu⟩)
    exact ⟨this.2, this.1⟩
  have u1 : unitV P.orders.length i = prV i (1, zeros P.orders.length) := by
    unfold prV unitV zeros; rfl
  have s1 : ∀ a x, a < (gt P.orders i).toNat → T P (i + 1) x → ExS (T P (i + 1)) (gt P.orders i).toNat (a, x) := fun a x ha hx => ⟨ha, hx⟩
  have hz : T P (i + 1) (zeros P.orders.length) := T.zeros hP _
  have hupT : T P i (unitV P.orders.length i) := T.unit hP (Nat.le_refl _) hin
  have hmem : ∀ j, i ≤ j → j < P.orders.length → T P i (unitV P.orders.length j) := fun j a b => T.unit hP a b
  -- powers of the generator
  have hpw : ∀ k, k < (gt P.orders i).toNat → iter k (fun y => rAt P (f + 1) i y (unitV P.orders.length i)) (zeros P.orders.length) = prV i (k, zeros P.orders.length) := by
    intro k
    induction k with
    | zero => intro _; exact hz0.symm
    | succ k ih =>
      intro hk
      show rAt P (f + 1) i (iter k _ _) (unitV P.orders.length i) = _
      rw [ih (by omega), u1, prV_mul hP hi _ _ (s1 k _ (by omega) hz) (s1 1 _ (by omega) hz)]
      unfold exm
      simp only [if_neg (by omega : ¬ (gt P.orders i).toNat ≤ k + 1), E.ione, M'.el _ hz]
  have hw := pw_T (i := i) hP hin
  have nfr : ∀ x, T P (i + 1) x → npr (rAt P (f + 1) i) (unitV P.orders.length) x (i + 1) (zeros P.orders.length) f = x := fun x hx => by
    rw [(resN x (i + 1) f (by omega) (by omega)).1, L.nf x hx]
  refine ⟨G, fun x hx => ?_, ⟨hmem, fun j a b => ?_, fun j k a b c => ?_⟩⟩
  · -- normal form
    rw [npr_front M (fun j a b => hmem j a (by omega))]
    have hxi := hx.1.2 i hin
    have hd := hx.drop hP hin
    have h1 : npr (rAt P (f + 1) i) (unitV P.orders.length) x (i + 1) (zeros P.orders.length) f = x.set i 0 := by
      have h2 : npr (rAt P (f + 1) i) (unitV P.orders.length) x (i + 1) (zeros P.orders.length) f = npr (rAt P (f + 1) i) (unitV P.orders.length) (x.set i 0) (i + 1) (zeros P.orders.length) f :=
        acc_congr _ _ _ _ _ _ (fun j a b => by rw [gt_set_ne _ _ _ _ (by omega)])
      rw [h2, nfr _ hd]
    rw [hpw _ (by omega), h1]
    obtain ⟨p, hp, hpx⟩ := prV_sur hP hin hx
    have h3 := prV_mul hP hi ((gt x i).toNat, zeros P.orders.length) (0, x.set i 0) (s1 _ _ (by omega) hz) (s0 _ hd)
    rw [e0 _ hd] at h3
    rw [h3]
    unfold exm
    simp only [Nat.add_zero, if_neg (by omega : ¬ (gt P.orders i).toNat ≤ (gt x i).toNat)]
    show prV i ((gt x i).toNat, rAt P f (i + 1) (zeros P.orders.length) (x.set i 0)) = x
    rw [M'.el _ hd]
    unfold prV
    simp only [List.set_set]
    refine ext_gt (by simp) (fun k hk => ?_)
    rw [List.length_set] at hk
    rw [gt_set_if _ _ _ _ hk]
    split
    · rename_i h; subst h; omega
    · rfl
  · -- power relations
    by_cases hji : j = i
    · subst hji
      rw [show P.orders.length - (j + 1) = f by omega, nfr _ hw]
      obtain ⟨o', ho'⟩ : ∃ o', (gt P.orders j).toNat = o' + 1 := ⟨(gt P.orders j).toNat - 1, by omega⟩
      rw [ho']
      show rAt P (f + 1) j (iter o' _ _) (unitV P.orders.length j) = _
      rw [hpw o' (by omega), u1, prV_mul hP hi _ _ (s1 o' _ (by omega) hz) (s1 1 _ (by omega) hz)]
      unfold exm
      simp only [if_pos (by omega : (gt P.orders j).toNat ≤ o' + 1), E.ione, M'.el _ hz, M'.er _ hw]
      rw [show o' + 1 - (gt P.orders j).toNat = 0 by omega]
      exact e0 _ hw
    · have hu : T P (i + 1) (unitV P.orders.length j) := T.unit hP (by omega) b
      rw [(resN _ (j + 1) _ (by omega) (by omega)).1, ← L.rel.pw j (by omega) b]
      have := iter_rel (fun (y z : List Int) => T P (i + 1) z ∧ y = z) (fun y => rAt P (f + 1) i y (unitV P.orders.length j)) (fun y => rAt P f (i + 1) y (unitV P.orders.length j)) (by
        rintro y z ⟨h1, rfl⟩
        exact ⟨M'.cl _ _ h1 hu, res _ _ h1 hu⟩) (gt P.orders j).toNat _ _ ⟨L.grp.one, rfl⟩
      exact this.2
  · -- conjugate relations
    by_cases hji : j = i
    · subst hji
      have hc := cj_T (i := j) hP b c
      have hu : T P (j + 1) (unitV P.orders.length k) := T.unit hP (by omega) c
      rw [show P.orders.length - (j + 1) = f by omega, nfr _ hc]
      have h1 := prV_mul hP hi (0, unitV P.orders.length k) (1, zeros P.orders.length) (s0 _ hu) (s1 1 _ (by omega) hz)
      have h2 := prV_mul hP hi (1, zeros P.orders.length) (0, gt (gt P.conj j) (k - j - 1)) (s1 1 _ (by omega) hz) (s0 _ hc)
      rw [e0 _ hu, ← u1] at h1
      rw [e0 _ hc, ← u1] at h2
      rw [h1, h2]
      unfold exm
      simp only [Nat.zero_add, Nat.add_zero, if_neg (by omega : ¬ (gt P.orders j).toNat ≤ 1)]
      show prV j (1, rAt P f (j + 1) (rImage P f j (unitV P.orders.length k)) (zeros P.orders.length)) = prV j (1, rAt P f (j + 1) (zeros P.orders.length) (gt (gt P.conj j) (k - j - 1)))
      rw [hunit k b c, M'.er _ hc, M'.el _ hc]
    · have hu : T P (i + 1) (unitV P.orders.length j) := T.unit hP (by omega) (by omega)
      have hv : T P (i + 1) (unitV P.orders.length k) := T.unit hP (by omega) c
      have hr := resN (gt (gt P.conj j) (k - j - 1)) (j + 1) (P.orders.length - (j + 1)) (by omega) (by omega)
      rw [hr.1, res _ _ hv hu, res _ _ hu hr.2]
      exact L.rel.cj j k (by omega) b c

end

/-- the tails behind which no fault is seen -/
theorem lvl_of_R {P : Pr} (hP : Valid P) (f : Nat) : ∀ i, i + f = P.orders.length → (∀ k, i ≤ k → k < P.orders.length → RLevel P (P.orders.length - 1 - k) k) → Lvl P f i := by
  induction f with
  | zero =>
    intro i hi _
    have : i = P.orders.length := by omega
    subst this
    exact Lvl.top hP
  | succ f ih =>
    intro i hi h
    have L := ih (i + 1) (by omega) (fun k a b => h k (by omega) b)
    have R := h i (by omega) (by omega)
    rw [show P.orders.length - 1 - i = f by omega] at R
    exact L.step hP hi R
theorem lvl_of_I {P : Pr} (hP : Valid P) (f : Nat) : ∀ i, i + f = P.orders.length → (∀ k, i ≤ k → k < P.orders.length → ILevel P k) → Lvl P f i := by
  induction f with
  | zero =>
    intro i hi _
    have : i = P.orders.length := by omega
    subst this
    exact Lvl.top hP
  | succ f ih =>
    intro i hi h
    have L := ih (i + 1) (by omega) (fun k a b => h k (by omega) b)
    exact L.step hP hi ((L.iff hP hi).1 (h i (by omega) (by omega)))

theorem all_iff {P : Pr} (hP : Valid P) : IAll P ↔ RAll P := by
  constructor
  · intro h k hk
    have L := lvl_of_I hP (P.orders.length - 1 - k) (k + 1) (by omega) (fun l _ b => h l b)
    exact (L.iff hP (by omega)).1 (h k hk)
  · intro h k hk
    have L := lvl_of_R hP (P.orders.length - 1 - k) (k + 1) (by omega) (fun l _ b => h l b)
    exact (L.iff hP (by omega)).2 (h k hk)

/-- both sides call the same presentations consistent -/
theorem icons_eq (P : Pr) : iconsB P = rconsB P := by
  unfold iconsB rconsB
  exact decide_eq_decide.2 (and_congr_right (fun hP => all_iff hP))

/-- a valid and consistent presentation -/
structure Grp (P : Pr) : Prop where
  v : Valid P
  all : RAll P

theorem Grp.tail {P : Pr} (G : Grp P) {f i : Nat} (hi : i + f = P.orders.length) : Lvl P f i := lvl_of_R G.v f i hi (fun k _ b => G.all k b)
theorem Grp.lvl {P : Pr} (G : Grp P) : Lvl P P.orders.length 0 := G.tail (by omega)

theorem grp_of_r {P : Pr} (h : rconsB P = true) : Grp P := by
  unfold rconsB at h
  have h2 := @of_decide_eq_true _ (_) h
  exact ⟨h2.1, h2.2⟩

theorem T_zero {P : Pr} {x : List Int} : T P 0 x ↔ Vec P.orders x := ⟨fun h => h.1, fun h => ⟨h, fun k hk => by omega⟩⟩

section
variable {P : Pr} (G : Grp P)
include G

/-- the group of a consistent presentation -/
theorem Grp.grp : GrpOn (Vec P.orders) (rMul P) (zeros P.orders.length) := by
  have h := G.lvl.grp
  have e : T P 0 = Vec P.orders := by funext x; exact propext T_zero
  rw [e] at h
  exact h
theorem Grp.tv_eq {E F : List Int} (hE : Vec P.orders E) (hF : Vec P.orders F) : tv P E F = rMul P E F := G.lvl.tv_eq G.v (by omega) (T_zero.2 hE) (T_zero.2 hF)
theorem Grp.nf {x : List Int} (hx : Vec P.orders x) : npr (rMul P) (unitV P.orders.length) x 0 (zeros P.orders.length) P.orders.length = x := G.lvl.nf x (T_zero.2 hx)
theorem Grp.iInv_mul {a : List Int} (ha : Vec P.orders a) : rMul P a (iInv P a) = zeros P.orders.length := (G.lvl.iInv_eq G.v (by omega) (T_zero.2 ha)).2
theorem Grp.rel : Holds P (Vec P.orders) (rMul P) (zeros P.orders.length) (unitV P.orders.length) 0 := by
  have h := G.lvl.rel
  have e : T P 0 = Vec P.orders := by funext x; exact propext T_zero
  rw [e] at h
  exact h
theorem Grp.iPow_eq {a : List Int} (ha : Vec P.orders a) (k : Int) : iPow P a k = iter k.toNat (fun y => rMul P y a) (zeros P.orders.length) := G.lvl.iPow_eq G.v (by omega) (T_zero.2 ha) k
end

end Go.Proofs.YtldheeicjnncoaaGreat
namespace Go.Proofs.YtldheeicjnncoaaGreat

section
variable {P : Pr} {f i : Nat}

theorem rImage_zeros : rImage P f i (zeros P.orders.length) = zeros P.orders.length := by
  unfold rImage
  rw [rImgTo_acc]
  exact acc_zero _ _ _ _ _ (fun j _ _ => gt_replicate _ _)

theorem rAt_res (hP : Valid P) (hi : i + (f + 1) = P.orders.length) {x y : List Int} (hx : T P (i + 1) x) (hy : T P (i + 1) y) : rAt P (f + 1) i x y = rAt P f (i + 1) x y := by
  have ho := hP.ord7 i (by omega)
  have h := prV_mul hP hi (0, x) (0, y) ⟨by show 0 < _; omega, hx⟩ ⟨by show 0 < _; omega, hy⟩
  have e0 : ∀ x, T P (i + 1) x → prV i (0, x) = x := fun x hx => set_zero_of hx
  rw [e0 x hx, e0 y hy] at h
  rw [h]
  unfold exm
  simp only [Nat.add_zero, if_neg (by omega : ¬ (gt P.orders i).toNat ≤ 0)]
  exact e0 _ (rAt_T hP f (i + 1) x y (by omega) hx.1 hy.1)

/-- powers of a generator -/
theorem gen_pow (hP : Valid P) (hi : i + (f + 1) = P.orders.length) (L' : Lvl P f (i + 1)) (k : Nat) (hk : k < (gt P.orders i).toNat) :
    iter k (fun y => rAt P (f + 1) i y (unitV P.orders.length i)) (zeros P.orders.length) = prV i (k, zeros P.orders.length) := by
  have hz : T P (i + 1) (zeros P.orders.length) := T.zeros hP _
  induction k with
  | zero => exact (set_zero_of hz).symm
  | succ k ih =>
    show rAt P (f + 1) i (iter k _ _) (unitV P.orders.length i) = _
    have u1 : unitV P.orders.length i = prV i (1, zeros P.orders.length) := by unfold prV unitV zeros; rfl
    rw [ih (by omega), u1, prV_mul hP hi _ _ ⟨by show k < _; omega, hz⟩ ⟨by show 1 < _; omega, hz⟩]
    unfold exm
    simp only [if_neg (by omega : ¬ (gt P.orders i).toNat ≤ k + 1)]
    show prV i (k + 1, rAt P f (i + 1) (rImage P f i (zeros P.orders.length)) (zeros P.orders.length)) = _
    rw [rImage_zeros, L'.grp.el _ hz]

/-- a vector is the generator's power times what stands behind it -/
theorem vec_head (hP : Valid P) (hi : i + (f + 1) = P.orders.length) (L' : Lvl P f (i + 1)) {x : List Int} (hx : T P i x) :
    rAt P (f + 1) i (prV i ((gt x i).toNat, zeros P.orders.length)) (x.set i 0) = x := by
  have hin : i < P.orders.length := by omega
  have hxi := hx.1.2 i hin
  have hd := hx.drop hP hin
  have hz : T P (i + 1) (zeros P.orders.length) := T.zeros hP _
  have h3 := prV_mul hP hi ((gt x i).toNat, zeros P.orders.length) (0, x.set i 0) ⟨by show (gt x i).toNat < _; omega, hz⟩ ⟨by show 0 < _; omega, hd⟩
  have e0 : prV i (0, x.set i 0) = x.set i 0 := set_zero_of hd
  rw [e0] at h3
  rw [h3]
  unfold exm
  simp only [Nat.add_zero, if_neg (by omega : ¬ (gt P.orders i).toNat ≤ (gt x i).toNat)]
  show prV i ((gt x i).toNat, rAt P f (i + 1) (zeros P.orders.length) (x.set i 0)) = x
  rw [L'.grp.el _ hd]
  unfold prV
  simp only [List.set_set]
  refine ext_gt (by simp) (fun k hk => ?_)
  rw [List.length_set] at hk
  rw [gt_set_if _ _ _ _ hk]
  split
  · rename_i h; subst h; omega
  · rfl

theorem rFrom_inv (G : Grp P) (f : Nat) : ∀ (i : Nat) (x : List Int), i + f = P.orders.length → T P i x → T P i (rFrom P f i x) ∧ rAt P f i x (rFrom P f i x) = zeros P.orders.length := by
  have hP := G.v
  induction f with
  | zero => intro i x _ _; exact ⟨T.zeros hP i, rfl⟩
  | succ f ih =>
    intro i x hi hx
    have hin : i < P.orders.length := by omega
    have L := G.tail hi
    have L' := G.tail (f := f) (i := i + 1) (by omega)
    have ho := hP.ord7 i hin
    have hxi := hx.1.2 i hin
    have hd := hx.drop hP hin
    obtain ⟨h1, h2⟩ := ih (i + 1) _ (by omega) hd
    have h1i : T P i (rFrom P f (i + 1) (x.set i 0)) := h1.down (by omega)
    simp only [rFrom]
    by_cases h0 : gt x i = 0
    · rw [if_pos h0]
      have ex : x.set i 0 = x := set_zero_of (hx.up h0)
      rw [ex] at h1i h2 ⊢
      rw [ex] at h1
      exact ⟨h1i, by rw [rAt_res hP hi (hx.up h0) h1]; exact h2⟩
    · rw [if_neg h0]
      have hw := pw_T (i := i) hP hin
      obtain ⟨h3, h4⟩ := ih (i + 1) _ (by omega) hw
      have hg : T P i (prV i ((gt P.orders i - gt x i).toNat, zeros P.orders.length)) := prV_T hP hin ⟨by show (gt P.orders i - gt x i).toNat < _; omega, T.zeros hP _⟩
      have hg2 : T P i (prV i ((gt x i).toNat, zeros P.orders.length)) := prV_T hP hin ⟨by show (gt x i).toNat < _; omega, T.zeros hP _⟩
      have eg : (zeros P.orders.length).set i (gt P.orders i - gt x i) = prV i ((gt P.orders i - gt x i).toNat, zeros P.orders.length) := by
        unfold prV
        simp only
        rw [show (((gt P.orders i - gt x i).toNat : Nat) : Int) = gt P.orders i - gt x i by omega]
      rw [eg]
      have M := L.grp.toMonOn
      have h3i : T P i (rFrom P f (i + 1) (gt P.powers i)) := h3.down (by omega)
      have hdi : T P i (x.set i 0) := hd.down (by omega)
      have hwi : T P i (gt P.powers i) := hw.down (by omega)
      refine ⟨M.cl _ _ (M.cl _ _ h1i hg) h3i, ?_⟩
      have hu := T.unit hP (Nat.le_refl i) hin
      have e1 : rAt P (f + 1) i (x.set i 0) (rFrom P f (i + 1) (x.set i 0)) = zeros P.orders.length := by rw [rAt_res hP hi hd h1]; exact h2
      have e2 : rAt P (f + 1) i (gt P.powers i) (rFrom P f (i + 1) (gt P.powers i)) = zeros P.orders.length := by rw [rAt_res hP hi hw h3]; exact h4
      have e3 : rAt P (f + 1) i (prV i ((gt x i).toNat, zeros P.orders.length)) (prV i ((gt P.orders i - gt x i).toNat, zeros P.orders.length)) = gt P.powers i := by
        rw [← gen_pow hP hi L' _ (by omega), ← gen_pow hP hi L' _ (by omega), ← M.pow_add hu, show (gt x i).toNat + (gt P.orders i - gt x i).toNat = (gt P.orders i).toNat by omega, L.rel.pw i (Nat.le_refl _) hin]
        rw [show P.orders.length - (i + 1) = f by omega]
        have := L'.nf _ hw
        have hr := (acc_rel (fun (y z : List Int) => T P (i + 1) z ∧ y = z) (fun y j => rAt P (f + 1) i y (unitV P.orders.length j)) (fun y j => rAt P f (i + 1) y (unitV P.orders.length j)) (gt P.powers i) (i + 1) (zeros P.orders.length) (zeros P.orders.length) f ⟨L'.grp.one, rfl⟩ (by
          rintro y z l ⟨g1, rfl⟩ a b _
          have hul : T P (i + 1) (unitV P.orders.length l) := T.unit hP (by omega) (by omega)
          exact ⟨L'.grp.cl _ _ g1 hul, rAt_res hP hi g1 hul⟩)).2
        exact hr.trans this
      have hx2 := vec_head hP hi L' hx
      have assoc : rAt P (f + 1) i x (rAt P (f + 1) i (rAt P (f + 1) i (rFrom P f (i + 1) (x.set i 0)) (prV i ((gt P.orders i - gt x i).toNat, zeros P.orders.length))) (rFrom P f (i + 1) (gt P.powers i))) = zeros P.orders.length := by
        have hc := M.cl _ _ h1i hg
        rw [← M.ass _ _ _ hx hc h3i, ← M.ass _ _ _ hx h1i hg]
        have e4 : rAt P (f + 1) i x (rFrom P f (i + 1) (x.set i 0)) = prV i ((gt x i).toNat, zeros P.orders.length) := by
          have e5 : rAt P (f + 1) i x (rFrom P f (i + 1) (x.set i 0)) = rAt P (f + 1) i (rAt P (f + 1) i (prV i ((gt x i).toNat, zeros P.orders.length)) (x.set i 0)) (rFrom P f (i + 1) (x.set i 0)) := by rw [hx2]
          rw [e5, M.ass _ _ _ hg2 hdi h1i, e1, M.er _ hg2]
        rw [e4, e3, e2]
      exact assoc
end

section
variable {P : Pr} (G : Grp P)
include G

theorem Grp.mul_inv {x : List Int} (hx : Vec P.orders x) : rMul P x (rInv P x) = zeros P.orders.length := (rFrom_inv G P.orders.length 0 x (by omega) (T_zero.2 hx)).2
theorem Grp.inv_mul {x : List Int} (hx : Vec P.orders x) : rMul P (rInv P x) x = zeros P.orders.length := G.grp.right_left hx (rInv_vec G.v x hx) (G.mul_inv hx)
theorem Grp.mulV {x y : List Int} (hx : Vec P.orders x) (hy : Vec P.orders y) : Vec P.orders (rMul P x y) := G.grp.cl _ _ hx hy
theorem Grp.invV {x : List Int} (hx : Vec P.orders x) : Vec P.orders (rInv P x) := rInv_vec G.v x hx
theorem Grp.ass {x y z : List Int} (hx : Vec P.orders x) (hy : Vec P.orders y) (hz : Vec P.orders z) : rMul P (rMul P x y) z = rMul P x (rMul P y z) := G.grp.ass x y z hx hy hz
theorem Grp.oneV : Vec P.orders (zeros P.orders.length) := zeros_vec G.v
theorem Grp.conjV {x y : List Int} (hx : Vec P.orders x) (hy : Vec P.orders y) : Vec P.orders (rConj P x y) := G.mulV (G.invV hy) (G.mulV hx hy)
theorem Grp.iInv_eq {x : List Int} (hx : Vec P.orders x) : iInv P x = rInv P x :=
  G.grp.cancel hx (iInv_vec G.v x hx) (G.invV hx) (by rw [G.iInv_mul hx, G.mul_inv hx])
theorem Grp.iConj_eq {x y : List Int} (hx : Vec P.orders x) (hy : Vec P.orders y) : iConj P x y = rConj P x y := by
  unfold iConj rConj
  rw [G.iInv_eq hy, G.tv_eq hx hy, G.tv_eq (G.invV hy) (G.mulV hx hy)]
theorem Grp.conj_one {x : List Int} (hx : Vec P.orders x) : rConj P x (zeros P.orders.length) = x := by
  unfold rConj
  have h1 : rInv P (zeros P.orders.length) = zeros P.orders.length := by
    have := G.mul_inv G.oneV
    rw [G.grp.el _ (G.invV G.oneV)] at this
    exact this
  rw [h1, G.grp.er _ hx, G.grp.el _ hx]
theorem Grp.inv_of {x y : List Int} (hx : Vec P.orders x) (hy : Vec P.orders y) (h : rMul P x y = zeros P.orders.length) : y = rInv P x :=
  G.grp.cancel hx hy (G.invV hx) (by rw [h, G.mul_inv hx])
theorem Grp.inv_mulR {x y : List Int} (hx : Vec P.orders x) (hy : Vec P.orders y) : rInv P (rMul P x y) = rMul P (rInv P y) (rInv P x) := by
  symm
  refine G.inv_of (G.mulV hx hy) (G.mulV (G.invV hy) (G.invV hx)) ?_
  rw [G.ass hx hy (G.mulV (G.invV hy) (G.invV hx)), ← G.ass hy (G.invV hy) (G.invV hx), G.mul_inv hy, G.grp.el _ (G.invV hx), G.mul_inv hx]
theorem Grp.inv_inv {x : List Int} (hx : Vec P.orders x) : rInv P (rInv P x) = x := (G.inv_of (G.invV hx) hx (G.inv_mul hx)).symm
theorem Grp.conj_mul {x y z : List Int} (hx : Vec P.orders x) (hy : Vec P.orders y) (hz : Vec P.orders z) : rConj P (rConj P x y) z = rConj P x (rMul P y z) := by
  unfold rConj
  have c1 := G.mulV hx hy
  rw [G.inv_mulR hy hz, G.ass (G.invV hz) (G.invV hy) (G.mulV hx (G.mulV hy hz)), G.ass (G.invV hy) c1 hz, G.ass hx hy hz]
/-- a set that generators keep is kept by all -/
theorem Grp.gen_ind (Q : List Int → Prop) (h1 : Q (zeros P.orders.length)) (hm : ∀ y j, Vec P.orders y → Q y → j < P.orders.length → Q (rMul P y (unitV P.orders.length j))) {x : List Int} (hx : Vec P.orders x) : Q x := by
  have := acc_inv (fun y => Vec P.orders y ∧ Q y) (fun y j => rMul P y (unitV P.orders.length j)) x 0 (zeros P.orders.length) P.orders.length ⟨G.oneV, h1⟩ (fun y j hy _ b _ => ⟨G.mulV hy.1 (unitV_vec G.v j), hm y j hy.1 hy.2 (by omega)⟩)
  have h2 := G.nf hx
  unfold npr at h2
  rw [h2] at this
  exact this.2

end

end Go.Proofs.YtldheeicjnncoaaGreat
namespace Go.Proofs.YtldheeicjnncoaaGreat

theorem rAt_right {P : Pr} (hP : Valid P) (f : Nat) : ∀ (i e : Nat) (x z : List Int), i + f = P.orders.length → i ≤ e → e ≤ P.orders.length → Vec P.orders x → T P e z →
    (∀ k, i ≤ k → k < e → gt (rAt P f i x z) k = gt x k) ∧ (e < P.orders.length → gt (rAt P f i x z) e = (gt x e + gt z e) % gt P.orders e) := by
  induction f with
  | zero => intro i e x z hi he hen _ _; exact ⟨fun k a b => by omega, fun h => by omega⟩
  | succ f ih =>
    intro i e x z hi he hen hx hz
    have hin : i < P.orders.length := by omega
    have ho := hP.ord7 i hin
    have hxi := hx.2 i hin
    have hzi := hz.1.2 i hin
    have hr := rAt_T hP (f + 1) i x z hi hx hz.1
    by_cases hie : i = e
    · subst hie
      refine ⟨fun k a b => by omega, fun _ => ?_⟩
      simp only [rAt]
      have hl : ∀ l : List Int, Vec P.orders l → Vec P.orders (iter (gt z i).toNat (fun l => rImgTo (rAt P f (i + 1)) (gt P.conj i) i l (zeros P.orders.length) f) l) := fun l hl =>
        iter_inv (Vec P.orders) _ (fun y hy => rImgTo_vec hP f i hi (rAt_vec hP f) _ _ (zeros_vec hP) f (Nat.le_refl _)) _ _ hl
      have v1 := hl _ (hx.set i 0 ⟨by omega, fun _ => by omega⟩)
      have v2 : Vec P.orders (z.set i 0) := hz.1.set i 0 ⟨by omega, fun _ => by omega⟩
      have v3 := rAt_vec hP f (i + 1) _ _ (by omega) v1 v2
      split
      · rename_i hc
        have v4 := rAt_vec hP f (i + 1) _ _ (by omega) (hP.pv i hin).1 v3
        rw [gt_set_eq _ _ _ (by rw [v4.1]; exact hin)]
        have e1 : gt x i + gt z i = (gt x i + gt z i - gt P.orders i) + gt P.orders i := by omega
        rw [e1, Int.add_emod_right, Int.emod_eq_of_lt (by omega) (by omega)]
        omega
      · rename_i hc
        rw [gt_set_eq _ _ _ (by rw [v3.1]; exact hin), Int.emod_eq_of_lt (by omega) (by omega)]
    · have hz0 : gt z i = 0 := hz.2 i (by omega)
      have hzs : z.set i 0 = z := set_zero_of (P := P) (hz.down (by omega))
      have hxs : Vec P.orders (x.set i 0) := hx.set i 0 ⟨by omega, fun _ => by omega⟩
      have hrec := ih (i + 1) e (x.set i 0) z (by omega) (by omega) hen hxs hz
      have v3 := rAt_vec hP f (i + 1) (x.set i 0) z (by omega) hxs hz.1
      have hdef : rAt P (f + 1) i x z = (rAt P f (i + 1) (x.set i 0) z).set i (gt x i) := by
        simp only [rAt, hz0, hzs]
        rw [if_neg (by omega), Int.add_zero]
        rfl
      rw [hdef]
      refine ⟨fun k a b => ?_, fun h => ?_⟩
      · by_cases ek : i = k
        · subst ek; rw [gt_set_eq _ _ _ (by rw [v3.1]; exact hin)]
        · rw [gt_set_ne _ _ _ _ ek, hrec.1 k (by omega) b, gt_set_ne _ _ _ _ ek]
      · rw [gt_set_ne _ _ _ _ (by omega), hrec.2 h, gt_set_ne _ _ _ _ (by omega)]

/-- powers in the group -/
def pw (P : Pr) (x : List Int) (k : Nat) : List Int := iter k (fun y => rMul P y x) (zeros P.orders.length)

section
variable {P : Pr} (G : Grp P)
include G

theorem Grp.right {x z : List Int} {e : Nat} (he : e ≤ P.orders.length) (hx : Vec P.orders x) (hz : T P e z) :
    (∀ k, k < e → gt (rMul P x z) k = gt x k) ∧ (e < P.orders.length → gt (rMul P x z) e = (gt x e + gt z e) % gt P.orders e) := by
  have h := rAt_right G.v P.orders.length 0 e x z (by omega) (by omega) he hx hz
  exact ⟨fun k hk => h.1 k (by omega) hk, h.2⟩

theorem Grp.T_mul {x y : List Int} {d : Nat} (hd : d ≤ P.orders.length) (hx : T P d x) (hy : T P d y) : T P d (rMul P x y) :=
  ⟨G.mulV hx.1 hy.1, fun k hk => by rw [(G.right hd hx.1 hy).1 k hk]; exact hx.2 k hk⟩

theorem Grp.pw_vec {x : List Int} (hx : Vec P.orders x) (k : Nat) : Vec P.orders (pw P x k) := G.grp.toMonOn.pow_cl hx G.oneV k
theorem Grp.pw_add {x : List Int} (hx : Vec P.orders x) (a b : Nat) : pw P x (a + b) = rMul P (pw P x a) (pw P x b) := G.grp.toMonOn.pow_add hx a b
omit G in
theorem pw_zero (P : Pr) (x : List Int) : pw P x 0 = zeros P.orders.length := rfl
omit G in
theorem pw_succ (P : Pr) (x : List Int) (k : Nat) : pw P x (k + 1) = rMul P (pw P x k) x := rfl
theorem Grp.pw_one {x : List Int} (hx : Vec P.orders x) : pw P x 1 = x := G.grp.el x hx
theorem Grp.pw_succ' {x : List Int} (hx : Vec P.orders x) (k : Nat) : pw P x (k + 1) = rMul P x (pw P x k) := by
  rw [Nat.add_comm, G.pw_add hx, G.pw_one hx]
theorem Grp.pw_mul {x : List Int} (hx : Vec P.orders x) (a b : Nat) : pw P x (a * b) = pw P (pw P x a) b := by
  induction b with
  | zero => rfl
  | succ b ih => rw [Nat.mul_succ, G.pw_add hx, ih]; rfl
theorem Grp.pw_T {x : List Int} {d : Nat} (hd : d ≤ P.orders.length) (hx : T P d x) (k : Nat) : T P d (pw P x k) := by
  induction k with
  | zero => exact T.zeros G.v d
  | succ k ih => exact G.T_mul hd ih hx
theorem Grp.pw_at {x : List Int} {d : Nat} (hd : d < P.orders.length) (hx : T P d x) (k : Nat) : gt (pw P x k) d = ((k : Int) * gt x d) % gt P.orders d := by
  induction k with
  | zero => rw [pw_zero]; show gt (List.replicate _ (0 : Int)) d = _; rw [gt_replicate]; simp
  | succ k ih =>
    rw [pw_succ, (G.right (Nat.le_of_lt hd) (G.pw_vec hx.1 k) hx).2 hd, ih, Int.emod_add_emod]
    congr 1
    rw [Int.natCast_add, Int.add_mul]; simp
theorem Grp.pw_order {x : List Int} {d : Nat} (hd : d < P.orders.length) (hx : T P d x) : T P (d + 1) (pw P x (gt P.orders d).toNat) := by
  have ho := G.v.ord7 d hd
  refine (G.pw_T (Nat.le_of_lt hd) hx _).up ?_
  rw [G.pw_at hd hx, show (((gt P.orders d).toNat : Nat) : Int) = gt P.orders d by omega, Int.mul_emod_right]

/-- every element has finite order -/
theorem Grp.fin (f : Nat) : ∀ (d : Nat) (x : List Int), d + f = P.orders.length → T P d x → ∃ M, 1 ≤ M ∧ pw P x M = zeros P.orders.length := by
  induction f with
  | zero =>
    intro d x hd hx
    have : d = P.orders.length := by omega
    subst this
    refine ⟨1, Nat.le_refl _, ?_⟩
    rw [G.pw_one hx.1]; exact hx.top G.v
  | succ f ih =>
    intro d x hd hx
    have ho := G.v.ord7 d (by omega)
    obtain ⟨M, h1, h2⟩ := ih (d + 1) _ (by omega) (G.pw_order (by omega) hx)
    refine ⟨(gt P.orders d).toNat * M, Nat.mul_pos (by omega) h1, ?_⟩
    rw [G.pw_mul hx.1, h2]

theorem Grp.inv_pw {x : List Int} (hx : Vec P.orders x) : ∃ k, rInv P x = pw P x k := by
  obtain ⟨M, h1, h2⟩ := G.fin P.orders.length 0 x (by omega) (T_zero.2 hx)
  refine ⟨M - 1, ?_⟩
  refine (G.inv_of hx (G.pw_vec hx _) ?_).symm
  rw [← G.pw_succ' hx, show M - 1 + 1 = M by omega, h2]

theorem Grp.T_inv {x : List Int} {d : Nat} (hd : d ≤ P.orders.length) (hx : T P d x) : T P d (rInv P x) := by
  obtain ⟨k, hk⟩ := G.inv_pw hx.1
  rw [hk]; exact G.pw_T hd hx k

/-- two elements alike at their depth differ by a deeper one -/
theorem Grp.diff {u v : List Int} {d : Nat} (hd : d < P.orders.length) (hu : T P d u) (hv : T P d v) (h : gt u d = gt v d) : T P (d + 1) (rMul P (rInv P u) v) := by
  have hi := G.T_inv (Nat.le_of_lt hd) hu
  have hc := G.T_mul (Nat.le_of_lt hd) hi hv
  refine hc.up ?_
  have e1 : rMul P u (rMul P (rInv P u) v) = v := by rw [← G.ass hu.1 hi.1 hv.1, G.mul_inv hu.1, G.grp.el _ hv.1]
  have e2 := (G.right (Nat.le_of_lt hd) hu.1 hc).2 hd
  rw [e1] at e2
  have b1 := hu.1.2 d hd
  have b2 := hc.1.2 d hd
  by_cases hlt : gt u d + gt (rMul P (rInv P u) v) d < gt P.orders d
  · rw [Int.emod_eq_of_lt (by omega) hlt] at e2; omega
  · have e3 : gt u d + gt (rMul P (rInv P u) v) d = (gt u d + gt (rMul P (rInv P u) v) d - gt P.orders d) + gt P.orders d := by omega
    rw [e3, Int.add_emod_right, Int.emod_eq_of_lt (by omega) (by omega)] at e2; omega
end

/-- a subgroup -/
structure Sub (P : Pr) (H : List Int → Prop) : Prop where
  vec : ∀ x, H x → Vec P.orders x
  one : H (zeros P.orders.length)
  mul : ∀ x y, H x → H y → H (rMul P x y)
  inv : ∀ x, H x → H (rInv P x)

section
variable {P : Pr} (G : Grp P)
include G

theorem Grp.sub_all : Sub P (Vec P.orders) := ⟨fun _ h => h, G.oneV, fun _ _ h k => G.mulV h k, fun _ h => G.invV h⟩
theorem Grp.sub_of_mul {H : List Int → Prop} (hv : ∀ x, H x → Vec P.orders x) (h1 : H (zeros P.orders.length)) (hm : ∀ x y, H x → H y → H (rMul P x y)) : Sub P H := by
  refine ⟨hv, h1, hm, fun x hx => ?_⟩
  obtain ⟨k, hk⟩ := G.inv_pw (hv x hx)
  rw [hk]
  induction k generalizing x with
  | zero => exact h1
  | succ k _ =>
    have : ∀ j, H (pw P x j) := by
      intro j
      induction j with
      | zero => exact h1
      | succ j ihj => exact hm _ _ ihj hx
    exact this _
omit G in
theorem Sub.pw {H : List Int → Prop} (S : Sub P H) {x : List Int} (hx : H x) (k : Nat) : H (Go.Proofs.YtldheeicjnncoaaGreat.pw P x k) := by
  induction k with
  | zero => exact S.one
  | succ k ih => exact S.mul _ _ ih hx
/-- commutators as both sides take them -/
theorem Grp.comm_deep {x y : List Int} {d : Nat} (hd : d < P.orders.length) (hx : T P d x) (hy : T P (d + 1) y) :
    T P (d + 1) (rMul P (rInv P (rMul P y x)) (rMul P x y)) ∧ T P (d + 1) (rMul P (rInv P (rMul P x y)) (rMul P y x)) := by
  have hd' := Nat.le_of_lt hd
  have hyd := hy.down (Nat.le_succ d)
  have h1 := G.T_mul hd' hx hyd
  have h2 := G.T_mul hd' hyd hx
  have e1 : gt (rMul P x y) d = gt x d := (G.right (Nat.succ_le_of_lt hd) hx.1 hy).1 d (by omega)
  have e2 : gt (rMul P y x) d = gt x d := by
    rw [(G.right hd' hyd.1 hx).2 hd, hy.2 d (by omega), Int.zero_add]
    have := hx.1.2 d hd
    exact Int.emod_eq_of_lt this.1 this.2
  exact ⟨G.diff hd h2 h1 (by rw [e1, e2]), G.diff hd h1 h2 (by rw [e1, e2])⟩

/-- x^y out of the commutator -/
theorem Grp.conj_of_comm {x y : List Int} (hx : Vec P.orders x) (hy : Vec P.orders y) : rConj P x y = rMul P x (rMul P (rInv P (rMul P y x)) (rMul P x y)) := by
  unfold rConj
  have c1 := G.mulV hx hy
  rw [G.inv_mulR hy hx, G.ass (G.invV hx) (G.invV hy) c1, ← G.ass hx (G.invV hx) (G.mulV (G.invV hy) c1), G.mul_inv hx, G.grp.el _ (G.mulV (G.invV hy) c1)]
theorem Grp.comm_inv {x y : List Int} (hx : Vec P.orders x) (hy : Vec P.orders y) : rInv P (rMul P (rInv P (rMul P x y)) (rMul P y x)) = rMul P (rInv P (rMul P y x)) (rMul P x y) := by
  have c1 := G.mulV hx hy
  have c2 := G.mulV hy hx
  rw [G.inv_mulR (G.invV c1) c2, G.inv_inv c1]

/-- what the tables of both sides come to: R, the elements that were looked at -/
structure Closed (P : Pr) (b : Nat → List Int) (R : List Int → Prop) : Prop where
  tab : ∀ d, d < P.orders.length → b d ≠ [] → T P d (b d) ∧ gt (b d) d = 1
  vec : ∀ q, R q → Vec P.orders q
  step : ∀ q, R q → q = zeros P.orders.length ∨ ∃ d, d < P.orders.length ∧ T P d q ∧ gt q d ≠ 0 ∧ b d ≠ [] ∧ ∃ q', R q' ∧ T P (d + 1) q' ∧ ∀ K, Sub P K → K (b d) → K q' → K q
  pow : ∀ d, d < P.orders.length → b d ≠ [] → R (pw P (b d) (gt P.orders d).toNat)
  com : ∀ d e, d < e → e < P.orders.length → b d ≠ [] → b e ≠ [] → ∃ c, R c ∧ T P (d + 1) c ∧ ∀ K, Sub P K → K (b e) → K c → K (rConj P (b e) (b d))

/-- the subgroup of the entries from depth d on -/
structure TailSub (P : Pr) (b : Nat → List Int) (R : List Int → Prop) (d : Nat) (K : List Int → Prop) : Prop where
  sub : Sub P K
  deep : ∀ x, K x → T P d x
  mem : ∀ e, d ≤ e → e < P.orders.length → b e ≠ [] → K (b e)
  res : ∀ q, R q → T P d q → K q
  piv : ∀ x, K x → ∀ e, d ≤ e → e < P.orders.length → T P e x → gt x e ≠ 0 → b e ≠ []
  min : ∀ K', Sub P K' → (∀ e, d ≤ e → e < P.orders.length → b e ≠ [] → K' (b e)) → ∀ x, K x → K' x

theorem Grp.conj_hom {x y z : List Int} (hx : Vec P.orders x) (hy : Vec P.orders y) (hz : Vec P.orders z) : rConj P (rMul P x y) z = rMul P (rConj P x z) (rConj P y z) := by
  unfold rConj
  have hi := G.invV hz
  have c1 := G.mulV hx hz
  have c2 := G.mulV hy hz
  rw [G.ass hi c1 (G.mulV hi c2), G.ass hx hz (G.mulV hi c2), ← G.ass hz hi c2, G.mul_inv hz, G.grp.el _ c2, G.ass hx hy hz]

theorem Grp.tailSub {b : Nat → List Int} {R : List Int → Prop} (C : Closed P b R) (f : Nat) : ∀ d, d + f = P.orders.length → ∃ K, TailSub P b R d K := by
  induction f with
  | zero =>
    intro d hd
    have : d = P.orders.length := by omega
    subst this
    have hone : Sub P (fun x => x = zeros P.orders.length) := by
      refine G.sub_of_mul (fun x h => by rw [h]; exact G.oneV) rfl (fun x y hx hy => ?_)
      rw [hx, hy]; exact G.grp.el _ G.oneV
    exact ⟨_, hone, fun x h => by rw [h]; exact T.zeros G.v _, fun e a b' => by omega, fun q _ hq => hq.top G.v, fun x _ e a b' => by omega, fun K' S _ x hx => by rw [hx]; exact S.one⟩
  | succ f ih =>
    intro d hd
    obtain ⟨K', t⟩ := ih (d + 1) (by omega)
    have hdn : d < P.orders.length := by omega
    have hd' := Nat.le_of_lt hdn
    by_cases hb : b d = []
    · refine ⟨K', t.sub, fun x hx => (t.deep x hx).down (Nat.le_succ d), fun e a b' hbe => ?_, fun q hq hT => ?_, fun x hx e a b' hT h0 => ?_, fun K2 S h x hx => t.min K2 S (fun e a b' hbe => h e (by omega) b' hbe) x hx⟩
      · by_cases ed : e = d
        · subst ed; exact absurd hb hbe
        · exact t.mem e (by omega) b' hbe
      · rcases C.step q hq with h | ⟨d', h1, h2, h3, h4, _⟩
        · rw [h]; exact t.sub.one
        · have hdd : d ≤ d' := by
            have : ¬ d' < d := fun h => h3 (hT.2 d' h)
            omega
          have hne : d' ≠ d := fun e => h4 (by rw [e]; exact hb)
          exact t.res q hq (h2.down (by omega))
      · by_cases ed : e = d
        · subst ed
          exact absurd ((t.deep x hx).2 e (by omega)) h0
        · exact t.piv x hx e (by omega) b' hT h0
    · obtain ⟨hbT, hb1⟩ := C.tab d hdn hb
      have ho := G.v.ord7 d hdn
      have hbV := hbT.1
      -- conjugation by the new entry keeps K'
      have hN : Sub P (fun y => K' y ∧ K' (rConj P y (b d))) := by
        refine G.sub_of_mul (fun x h => t.sub.vec x h.1) ⟨t.sub.one, ?_⟩ (fun x y hx hy => ⟨t.sub.mul _ _ hx.1 hy.1, ?_⟩)
        · have : rConj P (zeros P.orders.length) (b d) = zeros P.orders.length := by
            unfold rConj; rw [G.grp.el _ hbV, G.inv_mul hbV]
          rw [this]; exact t.sub.one
        · rw [G.conj_hom (t.sub.vec x hx.1) (t.sub.vec y hy.1) hbV]; exact t.sub.mul _ _ hx.2 hy.2
      have hcj : ∀ y, K' y → K' (rConj P y (b d)) := fun y hy => (t.min _ hN (fun e a b' hbe => by
        have hm := t.mem e a b' hbe
        obtain ⟨c, hc1, hc2, hc3⟩ := C.com d e (by omega) b' hb hbe
        exact ⟨hm, hc3 K' t.sub hm (t.res c hc1 hc2)⟩) y hy).2
      have hcjk : ∀ (k : Nat) y, K' y → K' (rMul P (rInv P (pw P (b d) k)) (rMul P y (pw P (b d) k))) := by
        intro k
        induction k with
        | zero =>
          intro y hy
          have h0 : rConj P y (zeros P.orders.length) = y := G.conj_one (t.sub.vec y hy)
          show K' (rConj P y (zeros P.orders.length))
          rw [h0]; exact hy
        | succ k ihk =>
          intro y hy
          have h1 := hcj _ (ihk y hy)
          have h2 : rConj P (rConj P y (pw P (b d) k)) (b d) = rConj P y (pw P (b d) (k + 1)) := G.conj_mul (t.sub.vec y hy) (G.pw_vec hbV k) hbV
          show K' (rConj P y (pw P (b d) (k + 1)))
          rw [← h2]; exact h1
      have hw : K' (pw P (b d) (gt P.orders d).toNat) := t.res _ (C.pow d hdn hb) (G.pw_order hdn hbT)
      have hK : Sub P (fun x => ∃ k y, K' y ∧ x = rMul P (pw P (b d) k) y) := by
        refine G.sub_of_mul ?_ ⟨0, _, t.sub.one, (G.grp.el _ G.oneV).symm⟩ ?_
        · rintro x ⟨k, y, hy, rfl⟩; exact G.mulV (G.pw_vec hbV k) (t.sub.vec y hy)
        · rintro x x' ⟨k, y, hy, rfl⟩ ⟨l, z, hz, rfl⟩
          have vy := t.sub.vec y hy
          have vz := t.sub.vec z hz
          have pk := G.pw_vec hbV k
          have pl := G.pw_vec hbV l
          refine ⟨k + l, _, t.sub.mul _ _ (hcjk l y hy) hz, ?_⟩
          rw [G.pw_add hbV, G.ass pk vy (G.mulV pl vz), ← G.ass vy pl vz, G.ass (G.invV pl) (G.mulV vy pl) vz, G.ass pk pl (G.mulV (G.invV pl) (G.mulV (G.mulV vy pl) vz)), ← G.ass pl (G.invV pl) (G.mulV (G.mulV vy pl) vz), G.mul_inv pl, G.grp.el _ (G.mulV (G.mulV vy pl) vz)]
      have hsub : ∀ y, K' y → ∃ k z, K' z ∧ y = rMul P (pw P (b d) k) z := fun y hy => ⟨0, y, hy, (G.grp.el y (t.sub.vec y hy)).symm⟩
      have hbK : ∃ k z, K' z ∧ b d = rMul P (pw P (b d) k) z := ⟨1, _, t.sub.one, by rw [G.pw_one hbV, G.grp.er _ hbV]⟩
      refine ⟨_, hK, ?_, fun e a b' hbe => ?_, fun q hq hT => ?_, ?_, ?_⟩
      · rintro x ⟨k, y, hy, rfl⟩
        exact G.T_mul hd' (G.pw_T hd' hbT k) ((t.deep y hy).down (Nat.le_succ d))
      · by_cases ed : e = d
        · subst ed; exact hbK
        · exact hsub _ (t.mem e (by omega) b' hbe)
      · rcases C.step q hq with h | ⟨d', h1, h2, h3, h4, q', h5, h6, h7⟩
        · rw [h]; exact hK.one
        · have hdd : d ≤ d' := by
            have : ¬ d' < d := fun h => h3 (hT.2 d' h)
            omega
          by_cases ed : d' = d
          · subst ed
            exact h7 _ hK hbK (hsub q' (t.res q' h5 h6))
          · exact hsub q (t.res q hq (h2.down (by omega)))
      · rintro x ⟨k, y, hy, rfl⟩ e a b' hT h0
        by_cases ed : e = d
        · rw [ed]; exact hb
        · have hyT := t.deep y hy
          have hx0 : gt (rMul P (pw P (b d) k) y) d = 0 := hT.2 d (by omega)
          rw [(G.right (Nat.succ_le_of_lt hdn) (G.pw_vec hbV k) hyT).1 d (by omega), G.pw_at hdn hbT, hb1, Int.mul_one] at hx0
          -- the order divides k
          obtain ⟨j, hj⟩ : ∃ j : Nat, k = (gt P.orders d).toNat * j := by
            refine ⟨k / (gt P.orders d).toNat, ?_⟩
            have h1 : ((k % (gt P.orders d).toNat : Nat) : Int) = 0 := by
              rw [Int.natCast_emod, show (((gt P.orders d).toNat : Nat) : Int) = gt P.orders d by omega]; exact hx0
            have h2 := Nat.div_add_mod k (gt P.orders d).toNat
            omega
          have hpk : K' (pw P (b d) k) := by rw [hj, G.pw_mul hbV]; exact t.sub.pw hw j
          exact t.piv _ (t.sub.mul _ _ hpk hy) e (by omega) b' hT h0
      · rintro K2 S h x ⟨k, y, hy, rfl⟩
        exact S.mul _ _ (S.pw (h d (Nat.le_refl d) hdn hb) k) (t.min K2 S (fun e a b' hbe => h e (by omega) b' hbe) y hy)

/-- a table that induces a subgroup -/
structure Ind (P : Pr) (H : List Int → Prop) (b : Nat → List Int) : Prop where
  sub : Sub P H
  mem : ∀ d, d < P.orders.length → b d ≠ [] → H (b d) ∧ T P d (b d) ∧ gt (b d) d = 1
  piv : ∀ x, H x → ∀ d, d < P.orders.length → T P d x → gt x d ≠ 0 → b d ≠ []

end

end Go.Proofs.YtldheeicjnncoaaGreat
