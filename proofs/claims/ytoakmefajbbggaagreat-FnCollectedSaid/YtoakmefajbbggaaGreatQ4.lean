/-
  The reference's look at one level of a presentation: spec.l08Level.
  Consistency, on both sides: spec.l08Fault, l08Consistent, l08Group; impl.consistentFrom, IsConsistent.
  Plain: level by level a consistent presentation's tails are groups; the program's product is the reference's there, and both find the same faults.
  Plain: a level without a fault makes the tail before it a group; so the two sides' words 'consistent' agree, and in a consistent presentation the two products.
  Plain: the two sides' inverses and conjugates in a consistent presentation.
-/
import Derived.Test.YtoakmefajbbggaaGreatQ2
import Derived.Test.YtoakmefajbbggaaGreatQ3
namespace Go.Proofs.YtoakmefajbbggaaGreat
open Go.RowKit

def RCond1 (P : Pr) (f i J : Nat) : Prop := rRep (rAt P f (i + 1)) (zeros P.orders.length) (gt (gt P.conj i) (J - i - 1)) (gt P.orders J).toNat = rImage P f i (gt P.powers J)
def RCond2 (P : Pr) (f i J K : Nat) : Prop := rAt P f (i + 1) (gt (gt P.conj i) (K - i - 1)) (gt (gt P.conj i) (J - i - 1)) = rAt P f (i + 1) (gt (gt P.conj i) (J - i - 1)) (rImage P f i (gt (gt P.conj J) (K - J - 1)))
def RCond3 (P : Pr) (f i : Nat) : Prop := rImage P f i (gt P.powers i) = gt P.powers i
def RCond4 (P : Pr) (f i J : Nat) : Prop := rAt P f (i + 1) (gt P.powers i) (iter (gt P.orders i).toNat (fun x => rImage P f i x) (unitV P.orders.length J)) = rAt P f (i + 1) (unitV P.orders.length J) (gt P.powers i)

/-- no fault at level i, as the reference looks -/
structure RLevel (P : Pr) (f i : Nat) : Prop where
  c1 : ∀ J, i < J → J < P.orders.length → RCond1 P f i J
  c2 : ∀ J K, i < J → J < K → K < P.orders.length → RCond2 P f i J K
  c3 : RCond3 P f i
  c4 : ∀ J, i < J → J < P.orders.length → RCond4 P f i J

theorem rImage_vec {P : Pr} (hP : Valid P) (f i : Nat) (hi : i + (f + 1) = P.orders.length) (x : List Int) : Vec P.orders (rImage P f i x) :=
  rImgTo_vec hP f i hi (rAt_vec hP f) _ _ (zeros_vec hP) f (Nat.le_refl _)

theorem rRepF_vec {P : Pr} (hP : Valid P) (f i : Nat) (hi : i + f = P.orders.length) : ∀ (g : Nat) (o b : List Int) (k : Nat), Vec P.orders o → Vec P.orders b → Vec P.orders (rRepF (rAt P f i) g o b k) := by
  intro g
  induction g with
  | zero => intro o b k ho _; exact ho
  | succ g ih =>
    intro o b k ho hb
    simp only [rRepF]
    split
    · exact ho
    · refine ih _ _ _ ?_ (rAt_vec hP f i _ _ hi hb hb)
      split
      · exact rAt_vec hP f i _ _ hi ho hb
      · exact ho

set_option maxRecDepth 100000 in
set_option maxHeartbeats 8000000 in
theorem l08Level_ok (P : Pr) (hP : Valid P) (w : World) (pv : Value) (i f : Nat) (Sp : Nat → Prop) (hpv : PresV Sp w pv P) (hif : i + (f + 1) = P.orders.length) :
    Calls Tryz.prog 236 #[pv, .int .i64 i] w (Ret w fun _ v => FaultR (RLevel P f i) v) := by
  have hi : i < P.orders.length := by omega
  have hn6 := hP.n6
  obtain ⟨vo, vp, vc, rfl, h3⟩ := hpv
  have hb0 := PresP.box h3 28
  have hg00 : Ext w ((w.alloc (.cells #[vo, vp, vc] 28)).alloc (.cells #[.int .i64 0, .int .i64 0, .int .i64 0, .int .i64 0] 190)) := grown_trans (World.grownBy_alloc _ _ _) (World.grownBy_alloc _ _ _)
  have hp0 := hb0.ext (World.grownBy_alloc (w.alloc (.cells #[vo, vp, vc] 28)) (.cells #[.int .i64 0, .int .i64 0, .int .i64 0, .int .i64 0] 190) none)
  obtain ⟨ao, capo, hco, hoi⟩ := hp0.ordAt
  go_enter Tryz.func236, Tryz.ntmps236
  go_wp2
  clear hco hoi
  have rsz : (w.alloc (.cells #[vo, vp, vc] 28)).heap.size = w.heap.size + 1 := by simp
  have r0 : ((w.alloc (.cells #[vo, vp, vc] 28)).alloc (.cells #[.int .i64 0, .int .i64 0, .int .i64 0, .int .i64 0] 190)).cell? ⟨w.heap.size + 1, 0, none⟩ = some (.int .i64 0) := by rw [World.cell?_alloc_at _ _ _ _ rsz.symm]; rfl
  have r1 : ((w.alloc (.cells #[vo, vp, vc] 28)).alloc (.cells #[.int .i64 0, .int .i64 0, .int .i64 0, .int .i64 0] 190)).cell? ⟨w.heap.size + 1, 1, none⟩ = some (.int .i64 0) := by rw [World.cell?_alloc_at _ _ _ _ rsz.symm]; rfl
  have r2 : ((w.alloc (.cells #[vo, vp, vc] 28)).alloc (.cells #[.int .i64 0, .int .i64 0, .int .i64 0, .int .i64 0] 190)).cell? ⟨w.heap.size + 1, 2, none⟩ = some (.int .i64 0) := by rw [World.cell?_alloc_at _ _ _ _ rsz.symm]; rfl
  have r3 : ((w.alloc (.cells #[vo, vp, vc] 28)).alloc (.cells #[.int .i64 0, .int .i64 0, .int .i64 0, .int .i64 0] 190)).cell? ⟨w.heap.size + 1, 3, none⟩ = some (.int .i64 0) := by rw [World.cell?_alloc_at _ _ _ _ rsz.symm]; rfl
  have rf : ∀ k, ((w.alloc (.cells #[vo, vp, vc] 28)).alloc (.cells #[.int .i64 0, .int .i64 0, .int .i64 0, .int .i64 0] 190)).frozen? ⟨w.heap.size + 1, k, none⟩ = false := fun k => World.frozen?_alloc_at _ _ _ _ rsz.symm
  have rs : w.heap.size + 1 < ((w.alloc (.cells #[vo, vp, vc] 28)).alloc (.cells #[.int .i64 0, .int .i64 0, .int .i64 0, .int .i64 0] 190)).heap.size := by simp
  clear rsz hb0
  generalize (w.alloc (.cells #[vo, vp, vc] 28)).alloc (.cells #[.int .i64 0, .int .i64 0, .int .i64 0, .int .i64 0] 190) = w0 at *
  have RR := Lib.hid (And.intro r0 (And.intro r1 (And.intro r2 (And.intro r3 rf)))); clear r0 r1 r2 r3 rf
  have hvw := (hP.pv i hi).1
  have HVW := Lib.hid hvw; clear hvw
  have hcl := hP.cl
  have hpl := hP.pl
  have hic : i < P.conj.length := by omega
  have hip : i < P.powers.length := by omega
  have hcv := hP.cv i hi
  have HCV := Lib.hid hcv; clear hcv
  have HCL := Lib.hid hcl; have HPL := Lib.hid hpl; clear hcl hpl
  go_loopw [7] (fun jv wr => ∃ J : Nat, jv = .int .i64 J ∧ i + 1 ≤ J ∧ J ≤ P.orders.length ∧ Ext w0 wr ∧ ∀ m, i < m → m < J → RCond1 P f i m) (fun jv _ => P.orders.length - (intOf jv).toNat)
  case atStart => exact ⟨i + 1, by go_num, by omega, by omega, Ext.refl _, fun m h1 h2 => by omega⟩
  case round =>
    obtain ⟨J, rfl, hJ1, hJ2, hg, hc1⟩ := hrel
    have HC1 := Lib.hid hc1; clear hc1
    by_cases hlt : J < P.orders.length
    · --<P1
      have hJb : (J : Int) < P.orders.length := by omega
      obtain ⟨vo5, vp5, vc5, _, _, hb1, hb2, hb3, h3r⟩ := (hp0.ext hg).at
      obtain ⟨ao, capo, rfl, _, _⟩ := h3r.o.shape
      obtain ⟨bo, oo, rfl, _, _, hcoi⟩ := Ints.at h3r.o J hlt
      obtain ⟨ap, capp, rfl, _, _⟩ := Sl.shape h3r.p
      obtain ⟨bp, op, ap2, capp2, rfl, _, _, hcpi, hpii⟩ := Rows2.at h3r.p J (by have := HPL.out; omega)
      obtain ⟨ac, capc, rfl, _, _⟩ := Sl.shape h3r.c
      obtain ⟨bc, oc, ac2, capc2, rfl, _, _, hcci, hcii⟩ := Rows3.at h3r.c i hic
      obtain ⟨bd, od, ad2, capd2, rfl, _, _, hcd, hid⟩ := Rows2.at hcii (J - i - 1) (by rw [HCV.out.1]; omega)
      have e1 : ∀ w', Ext wr w' → w'.cell? ⟨w.heap.size, 0, none⟩ = some (.slice (some ⟨bo, oo, none⟩) P.orders.length capo) := fun w' h => h.cell hb1 (by simp)
      have e2 : ∀ w', Ext wr w' → w'.cell? ⟨w.heap.size, 1, none⟩ = some (.slice (some ⟨bp, op, none⟩) P.powers.length capp) := fun w' h => h.cell (by simpa using hb2) (by simp)
      have e3 : ∀ w', Ext wr w' → w'.cell? ⟨w.heap.size, 2, none⟩ = some (.slice (some ⟨bc, oc, none⟩) P.conj.length capc) := fun w' h => h.cell (by simpa using hb3) (by simp)
      have e4 : ∀ w', Ext wr w' → w'.cell? ⟨bo, oo + J, none⟩ = some (.int .i64 (gt P.orders J)) := fun w' h => h.cell hcoi (by simp)
      have e5 : ∀ w', Ext wr w' → w'.cell? ⟨bp, op + J, none⟩ = some (.slice ap2 (gt P.powers J).length capp2) := fun w' h => h.cell hcpi (by simp)
      have e6 : ∀ w', Ext wr w' → w'.cell? ⟨bc, oc + i, none⟩ = some (.slice (some ⟨bd, od, none⟩) (gt P.conj i).length capc2) := fun w' h => h.cell hcci (by simp)
      have e7 : ∀ w', Ext wr w' → w'.cell? ⟨bd, od + (J - i - 1), none⟩ = some (.slice ad2 (gt (gt P.conj i) (J - i - 1)).length capd2) := fun w' h => h.cell hcd (by simp)
      have b1 : (0 : Int) ≤ (J : Int) - i - 1 := by omega
      have b2 : (J : Int) - i - 1 < (gt P.conj i).length := by rw [HCV.out.1]; omega
      have b3 : (i : Int) < P.conj.length := by omega
      have b4 : (J : Int) < P.powers.length := by have := HPL.out; omega
      have b6 : (0 : Int) ≤ J := by omega
      have b7 : ((J : Int) - i - 1).toNat = J - i - 1 := by omega
      have b8 : (1 : Int) ≤ (J : Int) - i := by omega
      have s1 : IntKind.i64.wrap ((J : Int) - i) = (J : Int) - i := IntWalk.i64_in _ (by omega)
      have s2 : IntKind.i64.wrap ((J : Int) - i - 1) = (J : Int) - i - 1 := IntWalk.i64_in _ (by omega)
      have s3 : IntKind.i64.wrap ((i : Int) + 1) = (i : Int) + 1 := IntWalk.i64_in _ (by omega)
      have hcvec := (HCV.out.2 (J - i - 1) (by omega)).1
      have hpvec := (hP.pv J hlt).1
      have hoJ := hP.ord7 J hlt
      have HX := Lib.hid (And.intro hcvec (And.intro hpvec hoJ)); clear hcvec hpvec hoJ
      have hl1 : (rRep (rAt P f (i + 1)) (zeros P.orders.length) (gt (gt P.conj i) (J - i - 1)) (gt P.orders J).toNat).length = P.orders.length := (rRepF_vec hP f (i + 1) (by omega) _ _ _ _ (zeros_vec hP) HX.out.1).1
      have hl2 := (rImage_vec hP f i hif (gt P.powers J)).1
      have HL := Lib.hid (And.intro hl1 hl2); clear hl1 hl2
      clear hb1 hb2 hb3 hcoi hcpi hcci hcd hcii
      have rr0 := hg.cell RR.out.1 (by simp)
      have rr1 := hg.cell RR.out.2.1 (by simp)
      have rr2 := hg.cell RR.out.2.2.1 (by simp)
      have rr3 := hg.cell RR.out.2.2.2.1 (by simp)
      have rrf := fun k => frozen_ext hg (RR.out.2.2.2.2 k) rs
      have rrs : w.heap.size + 1 < wr.heap.size := Nat.lt_of_lt_of_le rs hg.size
      have RRr := Lib.hid (And.intro rr0 (And.intro rr1 (And.intro rr2 (And.intro rr3 rrf)))); clear rr0 rr1 rr2 rr3 rrf
      go_wp2
      go_region_held3 (fun w' => Ext wr w') (first | exact grown_drew _ _ | assumption)
        (first
          | (go_at_call 278; refine Calls.mono (Calls.rel (w0 := wr) (by assumption) (l08Repeat_ok P hP _ _ _ (i + 1) f (by omega) _ _ Any Any ⟨_, _, _, rfl, Pres3.ext h3r (by assumption)⟩ (Ints.ext hid (by assumption)) HX.out.1 (by have := HX.out.2.2; omega) (by have := HX.out.2.2; omega))) ?_; rintro eA wA ⟨vA, rfl, hgA, hsA, hOA⟩))
      clear s1 s2 s3 b1 b2 b7 b8 e6 e7 e4
      have f1 : ∀ w', Ext wA w' → w'.cell? ⟨w.heap.size, 0, none⟩ = some (.slice (some ⟨bo, oo, none⟩) P.orders.length capo) := fun w' h => e1 w' (grown_trans hgA h)
      have f2 : ∀ w', Ext wA w' → w'.cell? ⟨w.heap.size, 1, none⟩ = some (.slice (some ⟨bp, op, none⟩) P.powers.length capp) := fun w' h => e2 w' (grown_trans hgA h)
      have f3 : ∀ w', Ext wA w' → w'.cell? ⟨w.heap.size, 2, none⟩ = some (.slice (some ⟨bc, oc, none⟩) P.conj.length capc) := fun w' h => e3 w' (grown_trans hgA h)
      have f5 : ∀ w', Ext wA w' → w'.cell? ⟨bp, op + J, none⟩ = some (.slice ap2 (gt P.powers J).length capp2) := fun w' h => e5 w' (grown_trans hgA h)
      clear e1 e2 e3 e5
      go_wp2
      cases hq : eqB (rRep (rAt P f (i + 1)) (zeros P.orders.length) (gt (gt P.conj i) (J - i - 1)) (gt P.orders J).toNat) (rImage P f i (gt P.powers J)) with
      | true =>
        have HQ := Lib.hid hq
        go_region_held3 (fun w' => Ext wA w') (first | exact grown_drew _ _ | assumption)
          (first
            | (go_at_call 237; refine Calls.mono (Calls.rel2 (w0 := wA) (by assumption) (l08Image_of P hP f (l08At_ok P hP f) _ _ _ i _ Any Any hif ⟨_, _, _, rfl, Pres3.ext (Pres3.ext h3r hgA) (by assumption)⟩ (Ints.ext (Ints.ext hpii hgA) (by assumption)) HX.out.2.1)) ?_; rintro eF wF ⟨vF, rfl, hgF, hgF2, hsF, hOF⟩; have hOA2 := (hOA.ext0 hgF).ints (by rw [HL.out.1]; omega); have hOF2 := hOF.ints (by rw [HL.out.2]; omega))
            | (go_at_call 275; refine Calls.mono (Calls.rel (w0 := wA) (by assumption) (l01Same_ok _ _ _ _ _ Any Any hOA2 hOF2)) ?_; rintro eB wB ⟨vB, rfl, hgAB, hsB, rfl⟩))
        clear f1 f2 f3 f5
        have hgB : Ext wr wB := grown_trans hgA hgAB
        go_wp2
        go_roundw
        case rel => exact ⟨J + 1, by go_num, by omega, by omega, grown_trans hg hgB, fun m h1 h2 => by
          rcases Nat.lt_or_ge m J with h3 | h3
          · exact HC1.out m h1 h3
          · have : m = J := by omega
            rw [this]; exact eqB_true.1 HQ.out⟩
        case measure => simp [intOf]; omega
      | false =>
        have HQ := Lib.hid hq
        go_region_held3 (fun w' => Ext wA w') (first | exact grown_drew _ _ | assumption)
          (first
            | (go_at_call 237; refine Calls.mono (Calls.rel2 (w0 := wA) (by assumption) (l08Image_of P hP f (l08At_ok P hP f) _ _ _ i _ Any Any hif ⟨_, _, _, rfl, Pres3.ext (Pres3.ext h3r hgA) (by assumption)⟩ (Ints.ext (Ints.ext hpii hgA) (by assumption)) HX.out.2.1)) ?_; rintro eF wF ⟨vF, rfl, hgF, hgF2, hsF, hOF⟩; have hOA2 := (hOA.ext0 hgF).ints (by rw [HL.out.1]; omega); have hOF2 := hOF.ints (by rw [HL.out.2]; omega))
            | (go_at_call 275; refine Calls.mono (Calls.rel (w0 := wA) (by assumption) (l01Same_ok _ _ _ _ _ Any Any hOA2 hOF2)) ?_; rintro eB wB ⟨vB, rfl, hgAB, hsB, rfl⟩))
        clear f1 f2 f3 f5
        have hgB : Ext wr wB := grown_trans hgA hgAB
        have c0 := hgB.cell RRr.out.1 (by simp)
        have c1 := hgB.cell RRr.out.2.1 (by simp)
        have c2 := hgB.cell RRr.out.2.2.1 (by simp)
        have c3 := hgB.cell RRr.out.2.2.2.1 (by simp)
        have cf0 := frozen_ext hgB (RRr.out.2.2.2.2 0) rrs
        have cf1 := frozen_ext hgB (RRr.out.2.2.2.2 1) rrs
        have cf2 := frozen_ext hgB (RRr.out.2.2.2.2 2) rrs
        have cf3 := frozen_ext hgB (RRr.out.2.2.2.2 3) rrs
        go_wp2
        refine bodyPost_ret (v := .agg #[.int .i64 1, .int .i64 i, .int .i64 J, .int .i64 0]) (by simp [results, Tryz.results236, go_sem, c0, c1, c2, c3]) rfl ⟨_, rfl, ext_set4 (grown_trans hg00 (grown_trans hg hgB)) (by omega) _ _ _ _, .inr ⟨fun h => eqB_false.1 HQ.out (h.c1 J (by omega) hlt), _, _, _, _, by decide, rfl⟩⟩
    -->P1
    · have hall : ∀ m, i < m → m < P.orders.length → RCond1 P f i m := fun m h1 h2 => HC1.out m h1 (by omega)
      have HA1 := Lib.hid hall; clear hall HC1
      go_wp2
      clear hlt
      go_loopw [9] (fun jv wr => ∃ J : Nat, jv = .int .i64 J ∧ i + 1 ≤ J ∧ J ≤ P.orders.length ∧ Ext w0 wr ∧ ∀ m n, i < m → m < J → m < n → n < P.orders.length → RCond2 P f i m n) (fun jv _ => P.orders.length - (intOf jv).toNat)
      case atStart => exact ⟨i + 1, by go_num, by omega, by omega, hg, fun m n h1 h2 => by omega⟩
      case round =>
        clear hg hJ1 hJ2
        obtain ⟨J, rfl, hJ1, hJ2, hg, hc2⟩ := hrel
        have HC2 := Lib.hid hc2; clear hc2
        by_cases hlt : J < P.orders.length
        · --<P2
          have hJb : (J : Int) < P.orders.length := by omega
          go_wp2
          go_loopw [10] (fun kv wr => ∃ K : Nat, kv = .int .i64 K ∧ J + 1 ≤ K ∧ K ≤ P.orders.length ∧ Ext w0 wr ∧ ∀ n, J < n → n < K → RCond2 P f i J n) (fun kv _ => P.orders.length - (intOf kv).toNat)
          case atStart => exact ⟨J + 1, by go_num, by omega, by omega, hg, fun n h1 h2 => by omega⟩
          case round =>
            clear hg
            obtain ⟨K, rfl, hK1, hK2, hg, hc3⟩ := hrel
            have HC3 := Lib.hid hc3; clear hc3
            by_cases hltK : K < P.orders.length
            · obtain ⟨vo5, vp5, vc5, _, _, hb1, hb2, hb3, h3r⟩ := (hp0.ext hg).at
              obtain ⟨ac, capc, rfl, _, _⟩ := Sl.shape h3r.c
              obtain ⟨bc, oc, ac2, capc2, rfl, _, _, hcci, hcii⟩ := Rows3.at h3r.c i hic
              obtain ⟨bd, od, ad2, capd2, rfl, _, _, hcd, hid⟩ := Rows2.at hcii (J - i - 1) (by rw [HCV.out.1]; omega)
              obtain ⟨bd2, od2, ad3, capd3, hbd2, _, _, hcdK, hidK⟩ := Rows2.at hcii (K - i - 1) (by rw [HCV.out.1]; omega)
              obtain ⟨rfl, rfl⟩ : bd2 = bd ∧ od2 = od := by cases hbd2; exact ⟨rfl, rfl⟩
              have hcvJ := (hP.cv J hlt)
              obtain ⟨bc5, oc5, ac5, capc5, hbc5, _, _, hccJ, hciJ⟩ := Rows3.at h3r.c J (by have := HCL.out; omega)
              obtain ⟨rfl, rfl⟩ : bc5 = bc ∧ oc5 = oc := by cases hbc5; exact ⟨rfl, rfl⟩
              obtain ⟨bd6, od6, ad6, capd6, rfl, _, _, hcdJ, hidJ⟩ := Rows2.at hciJ (K - J - 1) (by rw [hcvJ.1]; omega)
              clear hbd2 hbc5
              have e1 : ∀ w', Ext wr w' → w'.cell? ⟨w.heap.size, 0, none⟩ = some vo5 := fun w' h => h.cell hb1 (by simp)
              have e2 : ∀ w', Ext wr w' → w'.cell? ⟨w.heap.size, 1, none⟩ = some vp5 := fun w' h => h.cell (by simpa using hb2) (by simp)
              have e3 : ∀ w', Ext wr w' → w'.cell? ⟨w.heap.size, 2, none⟩ = some (.slice (some ⟨bc5, oc5, none⟩) P.conj.length capc) := fun w' h => h.cell (by simpa using hb3) (by simp)
              have hb3' := e3 wr (Ext.refl _)
              have e9 : ∀ w', Ext wr w' → w'.cell? ⟨bc5, oc5 + J, none⟩ = some (.slice (some ⟨bd6, od6, none⟩) (gt P.conj J).length capc5) := fun w' h => h.cell hccJ (by simp)
              have e10 : ∀ w', Ext wr w' → w'.cell? ⟨bd6, od6 + (K - J - 1), none⟩ = some (.slice ad6 (gt (gt P.conj J) (K - J - 1)).length capd6) := fun w' h => h.cell hcdJ (by simp)
              have b1 : (0 : Int) ≤ (J : Int) - i - 1 := by omega
              have b2 : (J : Int) - i - 1 < (gt P.conj i).length := by rw [HCV.out.1]; omega
              have b3 : (i : Int) < P.conj.length := by omega
              have b4 : (J : Int) < P.conj.length := by have := HCL.out; omega
              have b7 : ((J : Int) - i - 1).toNat = J - i - 1 := by omega
              have b8 : (1 : Int) ≤ (J : Int) - i := by omega
              have k1 : (0 : Int) ≤ (K : Int) - i - 1 := by omega
              have k2 : (K : Int) - i - 1 < (gt P.conj i).length := by rw [HCV.out.1]; omega
              have k7 : ((K : Int) - i - 1).toNat = K - i - 1 := by omega
              have k8 : (1 : Int) ≤ (K : Int) - i := by omega
              have m1 : (0 : Int) ≤ (K : Int) - J - 1 := by omega
              have m2 : (K : Int) - J - 1 < (gt P.conj J).length := by rw [hcvJ.1]; omega
              have m7 : ((K : Int) - J - 1).toNat = K - J - 1 := by omega
              have m8 : (1 : Int) ≤ (K : Int) - J := by omega
              have b5 : (K : Int) < P.orders.length := by omega
              have s1 : IntKind.i64.wrap ((J : Int) - i) = (J : Int) - i := IntWalk.i64_in _ (by omega)
              have s2 : IntKind.i64.wrap ((J : Int) - i - 1) = (J : Int) - i - 1 := IntWalk.i64_in _ (by omega)
              have s3 : IntKind.i64.wrap ((K : Int) - i) = (K : Int) - i := IntWalk.i64_in _ (by omega)
              have s4 : IntKind.i64.wrap ((K : Int) - i - 1) = (K : Int) - i - 1 := IntWalk.i64_in _ (by omega)
              have s5 : IntKind.i64.wrap ((K : Int) - J) = (K : Int) - J := IntWalk.i64_in _ (by omega)
              have s6 : IntKind.i64.wrap ((K : Int) - J - 1) = (K : Int) - J - 1 := IntWalk.i64_in _ (by omega)
              have s7 : IntKind.i64.wrap ((i : Int) + 1) = (i : Int) + 1 := IntWalk.i64_in _ (by omega)
              have hvJ := (HCV.out.2 (J - i - 1) (by omega)).1
              have hvK := (HCV.out.2 (K - i - 1) (by omega)).1
              have hvJK := (hcvJ.2 (K - J - 1) (by omega)).1
              have HX := Lib.hid (And.intro hvK (And.intro hvJ hvJK)); clear hvJ hvK hvJK hcvJ
              have hvF := rImage_vec hP f i hif (gt (gt P.conj J) (K - J - 1))
              have hl1 := (rAt_vec hP f (i + 1) _ _ (by omega) HX.out.1 HX.out.2.1).1
              have hl2 := (rAt_vec hP f (i + 1) _ _ (by omega) HX.out.2.1 hvF).1
              have HL := Lib.hid (And.intro hl1 (And.intro hl2 hvF)); clear hl1 hl2 hvF
              have rr0 := hg.cell RR.out.1 (by simp)
              have rr1 := hg.cell RR.out.2.1 (by simp)
              have rr2 := hg.cell RR.out.2.2.1 (by simp)
              have rr3 := hg.cell RR.out.2.2.2.1 (by simp)
              have rrf := fun k => frozen_ext hg (RR.out.2.2.2.2 k) rs
              have rrs : w.heap.size + 1 < wr.heap.size := Nat.lt_of_lt_of_le rs hg.size
              have RRr := Lib.hid (And.intro rr0 (And.intro rr1 (And.intro rr2 (And.intro rr3 rrf)))); clear rr0 rr1 rr2 rr3 rrf
              have E := Lib.hid (And.intro e1 (And.intro e2 (And.intro e3 (And.intro e9 e10)))); clear e1 e2 e3 e9 e10
              clear hb1 hb2 hb3
              go_wp2
              go_quiet (fail)
              rename_i nq _
              have hgq : Ext wr (wr.drewN nq) := grown_drewN _ _ _
              clear hcci hcd hcdK hccJ hcdJ hcii hciJ hb3'
              obtain ⟨wq, hwq⟩ : ∃ wq : World, wq = wr.drewN nq := ⟨_, rfl⟩
              rw [← hwq] at hgq
              rw [← hwq]
              clear hwq
              obtain ⟨e1, e2, e3, e9, e10⟩ := E.out
              go_wp2
              go_region_held3 (fun w' => Ext wr w') (first | exact grown_trans hgq (grown_drew _ _) | exact hgq | exact grown_drew _ _ | assumption)
                (first
                  | (go_at_call 237; refine Calls.mono (Calls.rel (w0 := wr) (by assumption) (l08Image_of P hP f (l08At_ok P hP f) _ _ _ i _ Any Any hif ⟨_, _, _, rfl, Pres3.ext h3r (by assumption)⟩ (Ints.ext hidJ (by assumption)) HX.out.2.2)) ?_; rintro eF wF ⟨vF, rfl, hgF, hgF2, hOF⟩))
              have hFF := hOF.ints (by rw [HL.out.2.2.1]; omega)
              have hKF : Ints Any wF (.slice ad3 (gt (gt P.conj i) (K - i - 1)).length capd3) _ := Ints.ext hidK hgF
              have hJF : Ints Any wF (.slice ad2 (gt (gt P.conj i) (J - i - 1)).length capd2) _ := Ints.ext hid hgF
              have h3F := Pres3.ext h3r hgF
              have f1 : ∀ w', Ext wF w' → w'.cell? ⟨w.heap.size, 0, none⟩ = some vo5 := fun w' h => e1 w' (grown_trans hgF h)
              have f2 : ∀ w', Ext wF w' → w'.cell? ⟨w.heap.size, 1, none⟩ = some vp5 := fun w' h => e2 w' (grown_trans hgF h)
              have f3 : ∀ w', Ext wF w' → w'.cell? ⟨w.heap.size, 2, none⟩ = some (.slice (some ⟨bc5, oc5, none⟩) P.conj.length capc) := fun w' h => e3 w' (grown_trans hgF h)
              clear e1 e2 e3 e9 e10 E s1 s2 s3 s4 s5 s6 b1 b2 b7 b8 k1 k2 k7 k8 m1 m2 m7 m8 hidJ hidK hid h3r hOF
              go_wp2
              cases hq : eqB (rAt P f (i + 1) (gt (gt P.conj i) (K - i - 1)) (gt (gt P.conj i) (J - i - 1))) (rAt P f (i + 1) (gt (gt P.conj i) (J - i - 1)) (rImage P f i (gt (gt P.conj J) (K - J - 1)))) with
              | true =>
                have HQ := Lib.hid hq
                go_region_held3 (fun w' => Ext wF w') (first | exact grown_drew _ _ | assumption)
                  (first
                    | (go_at_call_of 192 (vF); refine Calls.mono (Calls.rel2 (w0 := wF) (by assumption) (l08At_ok P hP f _ _ _ _ (i + 1) _ _ Any Any Any (by omega) ⟨_, _, _, rfl, Pres3.ext h3F (by assumption)⟩ (Ints.ext hJF (by assumption)) (Ints.ext hFF (by assumption)) HX.out.2.1 HL.out.2.2)) ?_; rintro eG wG ⟨vG, rfl, hgG, hgG2, hsG, hOG⟩; have hOA2 := (hOA.ext0 hgG2).ints (by rw [HL.out.1]; omega); have hOG2 := hOG.ints (by rw [HL.out.2.1]; omega))
                    | (go_at_call 192; refine Calls.mono (Calls.rel (w0 := wF) (by assumption) (l08At_ok P hP f _ _ _ _ (i + 1) _ _ Any Any Any (by omega) ⟨_, _, _, rfl, Pres3.ext h3F (by assumption)⟩ (Ints.ext hKF (by assumption)) (Ints.ext hJF (by assumption)) HX.out.1 HX.out.2.1)) ?_; rintro eA wA ⟨vA, rfl, hgA, hsA, hOA⟩)
                    | (go_at_call 275; refine Calls.mono (Calls.rel (w0 := wF) (by assumption) (l01Same_ok _ _ _ _ _ Any Any hOA2 hOG2)) ?_; rintro eB wB ⟨vB, rfl, hgFB, hsB, rfl⟩))
                clear f1 f2 f3
                have hgB : Ext wr wB := grown_trans hgF hgFB
                go_wp2
                go_roundw
                case rel => exact ⟨K + 1, by go_num, by omega, by omega, grown_trans hg hgB, fun n h1 h2 => by
                  rcases Nat.lt_or_ge n K with h3 | h3
                  · exact HC3.out n h1 h3
                  · have : n = K := by omega
                    rw [this]; exact eqB_true.1 HQ.out⟩
                case measure => simp [intOf]; omega
              | false =>
                have HQ := Lib.hid hq
                go_region_held3 (fun w' => Ext wF w') (first | exact grown_drew _ _ | assumption)
                  (first
                    | (go_at_call_of 192 (vF); refine Calls.mono (Calls.rel2 (w0 := wF) (by assumption) (l08At_ok P hP f _ _ _ _ (i + 1) _ _ Any Any Any (by omega) ⟨_, _, _, rfl, Pres3.ext h3F (by assumption)⟩ (Ints.ext hJF (by assumption)) (Ints.ext hFF (by assumption)) HX.out.2.1 HL.out.2.2)) ?_; rintro eG wG ⟨vG, rfl, hgG, hgG2, hsG, hOG⟩; have hOA2 := (hOA.ext0 hgG2).ints (by rw [HL.out.1]; omega); have hOG2 := hOG.ints (by rw [HL.out.2.1]; omega))
                    | (go_at_call 192; refine Calls.mono (Calls.rel (w0 := wF) (by assumption) (l08At_ok P hP f _ _ _ _ (i + 1) _ _ Any Any Any (by omega) ⟨_, _, _, rfl, Pres3.ext h3F (by assumption)⟩ (Ints.ext hKF (by assumption)) (Ints.ext hJF (by assumption)) HX.out.1 HX.out.2.1)) ?_; rintro eA wA ⟨vA, rfl, hgA, hsA, hOA⟩)
                    | (go_at_call 275; refine Calls.mono (Calls.rel (w0 := wF) (by assumption) (l01Same_ok _ _ _ _ _ Any Any hOA2 hOG2)) ?_; rintro eB wB ⟨vB, rfl, hgFB, hsB, rfl⟩))
                clear f1 f2 f3
                have hgB : Ext wr wB := grown_trans hgF hgFB
                have c0 := hgB.cell RRr.out.1 (by simp)
                have c1 := hgB.cell RRr.out.2.1 (by simp)
                have c2 := hgB.cell RRr.out.2.2.1 (by simp)
                have c3 := hgB.cell RRr.out.2.2.2.1 (by simp)
                have cf0 := frozen_ext hgB (RRr.out.2.2.2.2 0) rrs
                have cf1 := frozen_ext hgB (RRr.out.2.2.2.2 1) rrs
                have cf2 := frozen_ext hgB (RRr.out.2.2.2.2 2) rrs
                have cf3 := frozen_ext hgB (RRr.out.2.2.2.2 3) rrs
                go_wp2
                refine bodyPost_ret (v := .agg #[.int .i64 2, .int .i64 i, .int .i64 J, .int .i64 K]) (by simp [results, Tryz.results236, go_sem, c0, c1, c2, c3]) rfl ⟨_, rfl, ext_set4 (grown_trans hg00 (grown_trans hg hgB)) (by omega) _ _ _ _, .inr ⟨fun h => eqB_false.1 HQ.out (h.c2 J K (by omega) (by omega) hltK), _, _, _, _, by decide, rfl⟩⟩
            · have hKe : K = P.orders.length := by omega
              go_wp2
              go_roundw
              case rel => exact ⟨J + 1, by go_num, by omega, by omega, hg, fun m n h1 h2 h3 h4 => by
                  rcases Nat.lt_or_ge m J with h5 | h5
                  · exact HC2.out m n h1 h5 h3 h4
                  · have : m = J := by omega
                    subst this; exact HC3.out n h3 (by omega)⟩
              case measure => simp [intOf]; omega
        -->P2
        · have hall2 : ∀ m n, i < m → m < n → n < P.orders.length → RCond2 P f i m n := fun m n h1 h2 h3 => HC2.out m n h1 (by omega) h2 h3
          have HA2 := Lib.hid hall2; clear hall2 HC2
          obtain ⟨vo5, vp5, vc5, _, _, hb1, hb2, hb3, h3r⟩ := (hp0.ext hg).at
          obtain ⟨ap, capp, rfl, _, _⟩ := Sl.shape h3r.p
          obtain ⟨bp, op, ap2, capp2, rfl, _, _, hcpi, hpii⟩ := Rows2.at h3r.p i hip
          have hlw := (rImage_vec hP f i hif (gt P.powers i)).1
          have HLW := Lib.hid hlw; clear hlw
          have rr0 := hg.cell RR.out.1 (by simp)
          have rr1 := hg.cell RR.out.2.1 (by simp)
          have rr2 := hg.cell RR.out.2.2.1 (by simp)
          have rr3 := hg.cell RR.out.2.2.2.1 (by simp)
          have rrf := fun k => frozen_ext hg (RR.out.2.2.2.2 k) rs
          have rrs : w.heap.size + 1 < wr.heap.size := Nat.lt_of_lt_of_le rs hg.size
          have RRr := Lib.hid (And.intro rr0 (And.intro rr1 (And.intro rr2 (And.intro rr3 rrf)))); clear rr0 rr1 rr2 rr3 rrf
          go_wp2_with fail
          refine Calls.mono (l08Image_of P hP f (l08At_ok P hP f) wr _ _ i _ Any Any hif ⟨_, _, _, rfl, h3r⟩ hpii HVW.out) ?_
          rintro eA wA ⟨vA, rfl, hgA, hOA⟩
          go_wp2_with fail
          refine Calls.mono (l01Same_ok _ _ _ _ wA Any Any (hOA.ints (by rw [HLW.out]; omega)) (Ints.ext hpii hgA)) ?_
          rintro eB wB ⟨vB, rfl, hgAB, rfl⟩
          have hgB : Ext wr wB := grown_trans hgA hgAB
          have hpii0 : Ints Any wB (.slice ap2 (gt P.powers i).length capp2) (gt P.powers i) := Ints.ext hpii hgB
          cases hq : eqB (rImage P f i (gt P.powers i)) (gt P.powers i) with
          | false =>
            have HQ := Lib.hid hq
            have c0 := hgB.cell RRr.out.1 (by simp)
            have c1 := hgB.cell RRr.out.2.1 (by simp)
            have c2 := hgB.cell RRr.out.2.2.1 (by simp)
            have c3 := hgB.cell RRr.out.2.2.2.1 (by simp)
            have cf0 := frozen_ext hgB (RRr.out.2.2.2.2 0) rrs
            have cf1 := frozen_ext hgB (RRr.out.2.2.2.2 1) rrs
            have cf2 := frozen_ext hgB (RRr.out.2.2.2.2 2) rrs
            have cf3 := frozen_ext hgB (RRr.out.2.2.2.2 3) rrs
            go_wp2
            refine bodyPost_ret (v := .agg #[.int .i64 3, .int .i64 i, .int .i64 0, .int .i64 0]) (by simp [results, Tryz.results236, go_sem, c0, c1, c2, c3]) rfl ⟨_, rfl, ext_set4 (grown_trans hg00 (grown_trans hg hgB)) (by omega) _ _ _ _, .inr ⟨fun h => eqB_false.1 HQ.out h.c3, _, _, _, _, by decide, rfl⟩⟩
          | true =>
            --<P4
            have HQ := Lib.hid (eqB_true.1 hq)
            have hgw := grown_trans hg hgB
            clear hcpi hb1 hb2 hb3 h3r
            go_wp2
            clear hq
            obtain ⟨wz, rfl⟩ : ∃ wz : World, wz = wB := ⟨_, rfl⟩
            go_loopw [15] (fun jv wr => ∃ J : Nat, jv = .int .i64 J ∧ i + 1 ≤ J ∧ J ≤ P.orders.length ∧ Ext w0 wr ∧ Ext wz wr ∧ ∀ m, i < m → m < J → RCond4 P f i m) (fun jv _ => P.orders.length - (intOf jv).toNat)
            case atStart => exact ⟨i + 1, by go_num, by omega, by omega, hgw, Ext.refl _, fun m h1 h2 => by omega⟩
            case round =>
              clear hg hgA hgB hgw hOA hJ1 hJ2 RRr rrs hgAB hlt
              obtain ⟨J, rfl, hJ1, hJ2, hg, hgz, hc4⟩ := hrel
              have HC4 := Lib.hid hc4; clear hc4
              have rr0 := hg.cell RR.out.1 (by simp)
              have rr1 := hg.cell RR.out.2.1 (by simp)
              have rr2 := hg.cell RR.out.2.2.1 (by simp)
              have rr3 := hg.cell RR.out.2.2.2.1 (by simp)
              have rrf := fun k => frozen_ext hg (RR.out.2.2.2.2 k) rs
              have rrs : w.heap.size + 1 < wr.heap.size := Nat.lt_of_lt_of_le rs hg.size
              have RRr := Lib.hid (And.intro rr0 (And.intro rr1 (And.intro rr2 (And.intro rr3 rrf)))); clear rr0 rr1 rr2 rr3 rrf
              by_cases hlt : J < P.orders.length
              · have hJb : (J : Int) < P.orders.length := by omega
                go_wp2_with fail
                refine Calls.mono (l07Unit_ok P.orders.length J wr hlt (by omega)) ?_
                rintro eU wU ⟨vU, rfl, hgU, hOU⟩
                have hUi := hOU.ints (by rw [(unitV_vec hP J).1]; omega)
                have hoi7 := hP.ord7 i hi
                have ho0 : 0 ≤ gt P.orders i := by omega
                have ho1 : gt P.orders i ≤ 7 := hoi7.2
                clear hoi7
                go_wp2
                obtain ⟨wo, rfl⟩ : ∃ wo : World, wo = wr := ⟨_, rfl⟩
                go_loopw [17, 18] (fun xv mv w2 => ∃ m : Nat, mv = .int .i64 m ∧ m ≤ (gt P.orders i).toNat ∧ Ext wU w2 ∧ Ints Any w2 xv (iter m (fun x => rImage P f i x) (unitV P.orders.length J))) (fun _ mv _ => (gt P.orders i).toNat - (intOf mv).toNat)
                case atStart => exact ⟨0, rfl, by omega, Ext.refl _, hUi⟩
                case round =>
                  obtain ⟨m, rfl, hm, hg2, hX⟩ := hrel
                  have hgo := grown_trans hgU hg2
                  have hg3 := grown_trans hg hgo
                  have hvX : Vec P.orders (iter m (fun x => rImage P f i x) (unitV P.orders.length J)) := iter_inv (Vec P.orders) _ (fun y hy => rImage_vec hP f i hif y) _ _ (unitV_vec hP J)
                  have HVX := Lib.hid hvX; clear hvX
                  obtain ⟨vo5, vp5, vc5, _, _, hb1, hb2, hb3, h3r⟩ := (hp0.ext hg3).at
                  obtain ⟨ao5, capo5, rfl, _, _⟩ := h3r.o.shape
                  obtain ⟨bo, oo, rfl, _, _, hcoi⟩ := Ints.at h3r.o i hi
                  by_cases hlt2 : (m : Int) < gt P.orders i
                  · go_wp2_with fail
                    refine Calls.mono (l08Image_of P hP f (l08At_ok P hP f) wr _ _ i _ Any Any hif ⟨_, _, _, rfl, h3r⟩ hX HVX.out) ?_
                    rintro eA wA ⟨vA, rfl, hgA, hOA⟩
                    have hvn := rImage_vec hP f i hif (iter m (fun x => rImage P f i x) (unitV P.orders.length J))
                    have hOAi := hOA.ints (by rw [hvn.1]; omega)
                    clear hvn hb1 hb2 hb3 hcoi
                    go_wp2
                    go_roundw
                    case rel => exact ⟨m + 1, by go_num, by omega, grown_trans hg2 hgA, hOAi⟩
                    case measure => simp [intOf]; omega
                  · have hme : m = (gt P.orders i).toNat := by omega
                    have hlX := HVX.out
                    have hX2 : Ints Any wr u17 (iter (gt P.orders i).toNat (fun x => rImage P f i x) (unitV P.orders.length J)) := by rw [← hme]; exact hX
                    rw [hme] at hlX
                    have HLX := Lib.hid hlX; clear hlX hX HVX
                    have hl1 := (rAt_vec hP f (i + 1) _ _ (by omega) HVW.out HLX.out).1
                    have hl2 := (rAt_vec hP f (i + 1) _ _ (by omega) (unitV_vec hP J) HVW.out).1
                    have HL := Lib.hid (And.intro hl1 hl2); clear hl1 hl2
                    have s3 : IntKind.i64.wrap ((i : Int) + 1) = (i : Int) + 1 := IntWalk.i64_in _ (by omega)
                    have hw5 : Ints Any wr (.slice ap2 (gt P.powers i).length capp2) (gt P.powers i) := Ints.ext hpii0 (grown_trans hgz hgo)
                    have hU5 : Ints Any wr vU (unitV P.orders.length J) := hUi.ext hg2
                    have f1 : ∀ w', Ext wr w' → w'.cell? ⟨w.heap.size, 0, none⟩ = some (.slice (some ⟨bo, oo, none⟩) P.orders.length capo5) := fun w' h => h.cell hb1 (by simp)
                    have f2 : ∀ w', Ext wr w' → w'.cell? ⟨w.heap.size, 1, none⟩ = some vp5 := fun w' h => h.cell (by simpa using hb2) (by simp)
                    have f3 : ∀ w', Ext wr w' → w'.cell? ⟨w.heap.size, 2, none⟩ = some vc5 := fun w' h => h.cell (by simpa using hb3) (by simp)
                    clear hpii0 hUi hOU
                    go_wp2
                    clear hb1 hb2 hb3 hcoi
                    cases hq : eqB (rAt P f (i + 1) (gt P.powers i) (iter (gt P.orders i).toNat (fun x => rImage P f i x) (unitV P.orders.length J))) (rAt P f (i + 1) (unitV P.orders.length J) (gt P.powers i)) with
                    | true =>
                      have HQ4 := Lib.hid hq
                      go_region_held3 (fun w' => Ext wr w') (first | exact grown_drew _ _ | assumption)
                        (first
                          | (go_at_call_of 192 (vU); refine Calls.mono (Calls.rel2 (w0 := wr) (by assumption) (l08At_ok P hP f _ _ _ _ (i + 1) _ _ Any Any Any (by omega) ⟨_, _, _, rfl, Pres3.ext h3r (by assumption)⟩ (Ints.ext hU5 (by assumption)) (Ints.ext hw5 (by assumption)) (unitV_vec hP J) HVW.out)) ?_; rintro eG wG ⟨vG, rfl, hgG, hgG2, hsG, hOG⟩; have hOA2 := (hOA.ext0 hgG2).ints (by rw [HL.out.1]; omega); have hOG2 := hOG.ints (by rw [HL.out.2]; omega))
                          | (go_at_call 192; refine Calls.mono (Calls.rel (w0 := wr) (by assumption) (l08At_ok P hP f _ _ _ _ (i + 1) _ _ Any Any Any (by omega) ⟨_, _, _, rfl, Pres3.ext h3r (by assumption)⟩ (Ints.ext hw5 (by assumption)) (Ints.ext hX2 (by assumption)) HVW.out HLX.out)) ?_; rintro eA wA ⟨vA, rfl, hgA, hsA, hOA⟩)
                          | (go_at_call 275; refine Calls.mono (Calls.rel (w0 := wr) (by assumption) (l01Same_ok _ _ _ _ _ Any Any hOA2 hOG2)) ?_; rintro eB wB ⟨vB, rfl, hgFB, hsB, rfl⟩))
                      clear f1 f2 f3
                      have hgB : Ext wo wB := grown_trans hgo hgFB
                      go_wp2
                      go_roundw
                      case rel => exact ⟨J + 1, by go_num, by omega, by omega, grown_trans hg hgB, grown_trans hgz hgB, fun m h1 h2 => by
                        rcases Nat.lt_or_ge m J with h3 | h3
                        · exact HC4.out m h1 h3
                        · have : m = J := by omega
                          rw [this]; exact eqB_true.1 HQ4.out⟩
                      case measure => simp [intOf]; omega
                    | false =>
                      have HQ4 := Lib.hid hq
                      go_region_held3 (fun w' => Ext wr w') (first | exact grown_drew _ _ | assumption)
                        (first
                          | (go_at_call_of 192 (vU); refine Calls.mono (Calls.rel2 (w0 := wr) (by assumption) (l08At_ok P hP f _ _ _ _ (i + 1) _ _ Any Any Any (by omega) ⟨_, _, _, rfl, Pres3.ext h3r (by assumption)⟩ (Ints.ext hU5 (by assumption)) (Ints.ext hw5 (by assumption)) (unitV_vec hP J) HVW.out)) ?_; rintro eG wG ⟨vG, rfl, hgG, hgG2, hsG, hOG⟩; have hOA2 := (hOA.ext0 hgG2).ints (by rw [HL.out.1]; omega); have hOG2 := hOG.ints (by rw [HL.out.2]; omega))
                          | (go_at_call 192; refine Calls.mono (Calls.rel (w0 := wr) (by assumption) (l08At_ok P hP f _ _ _ _ (i + 1) _ _ Any Any Any (by omega) ⟨_, _, _, rfl, Pres3.ext h3r (by assumption)⟩ (Ints.ext hw5 (by assumption)) (Ints.ext hX2 (by assumption)) HVW.out HLX.out)) ?_; rintro eA wA ⟨vA, rfl, hgA, hsA, hOA⟩)
                          | (go_at_call 275; refine Calls.mono (Calls.rel (w0 := wr) (by assumption) (l01Same_ok _ _ _ _ _ Any Any hOA2 hOG2)) ?_; rintro eB wB ⟨vB, rfl, hgFB, hsB, rfl⟩))
                      clear f1 f2 f3
                      have hgB : Ext wo wB := grown_trans hgo hgFB
                      have c0 := hgB.cell RRr.out.1 (by simp)
                      have c1 := hgB.cell RRr.out.2.1 (by simp)
                      have c2 := hgB.cell RRr.out.2.2.1 (by simp)
                      have c3 := hgB.cell RRr.out.2.2.2.1 (by simp)
                      have cf0 := frozen_ext hgB (RRr.out.2.2.2.2 0) rrs
                      have cf1 := frozen_ext hgB (RRr.out.2.2.2.2 1) rrs
                      have cf2 := frozen_ext hgB (RRr.out.2.2.2.2 2) rrs
                      have cf3 := frozen_ext hgB (RRr.out.2.2.2.2 3) rrs
                      go_wp2
                      refine bodyPost_ret (v := .agg #[.int .i64 4, .int .i64 i, .int .i64 J, .int .i64 0]) (by simp [results, Tryz.results236, go_sem, c0, c1, c2, c3]) rfl ⟨_, rfl, ext_set4 (grown_trans hg00 (grown_trans hg hgB)) (by omega) _ _ _ _, .inr ⟨fun h => eqB_false.1 HQ4.out (h.c4 J (by omega) hlt), _, _, _, _, by decide, rfl⟩⟩
              · have hJe : J = P.orders.length := by omega
                subst hJe
                have c0 := RRr.out.1
                have c1 := RRr.out.2.1
                have c2 := RRr.out.2.2.1
                have c3 := RRr.out.2.2.2.1
                have cf0 := RRr.out.2.2.2.2 0
                have cf1 := RRr.out.2.2.2.2 1
                have cf2 := RRr.out.2.2.2.2 2
                have cf3 := RRr.out.2.2.2.2 3
                go_wp2
                refine bodyPost_ret (v := .agg #[.int .i64 0, .int .i64 0, .int .i64 0, .int .i64 0]) (by simp [results, Tryz.results236, go_sem, c0, c1, c2, c3]) rfl ⟨_, rfl, ext_set4 (grown_trans hg00 hg) (by omega) _ _ _ _, .inl ⟨⟨HA1.out, HA2.out, HQ.out, HC4.out⟩, rfl⟩⟩
            -->P4

end Go.Proofs.YtoakmefajbbggaaGreat
namespace Go.Proofs.YtoakmefajbbggaaGreat
open Go.RowKit

/-- what impl.IsConsistent answers, and what spec.l08Group answers -/
def IAll (P : Pr) : Prop := ∀ k, k < P.orders.length → ILevel P k
def RAll (P : Pr) : Prop := ∀ k, k < P.orders.length → RLevel P (P.orders.length - 1 - k) k
open Classical in
noncomputable def iconsB (P : Pr) : Bool := decide (Valid P ∧ IAll P)
open Classical in
noncomputable def rconsB (P : Pr) : Bool := decide (Valid P ∧ RAll P)

set_option maxRecDepth 100000 in
set_option maxHeartbeats 4000000 in
theorem l08Fault_ok (P : Pr) (hP : Valid P) (w : World) (pv : Value) (Sp : Nat → Prop) (hpv : PresV Sp w pv P) :
    Calls Tryz.prog 191 #[pv] w (Ret w fun _ v => FaultR (RAll P) v) := by
  have hn6 := hP.n6
  obtain ⟨vo, vp, vc, rfl, h3⟩ := hpv
  have hb0 := PresP.box h3 28
  have hg00 : Ext w ((w.alloc (.cells #[vo, vp, vc] 28)).alloc (.cells #[.int .i64 0, .int .i64 0, .int .i64 0, .int .i64 0] 190)) := grown_trans (World.grownBy_alloc _ _ _) (World.grownBy_alloc _ _ _)
  have hp0 := hb0.ext (World.grownBy_alloc (w.alloc (.cells #[vo, vp, vc] 28)) (.cells #[.int .i64 0, .int .i64 0, .int .i64 0, .int .i64 0] 190) none)
  obtain ⟨ao, capo, hco, hoi⟩ := hp0.ordAt
  go_enter Tryz.func191, Tryz.ntmps191
  go_wp2
  clear hco hoi
  have rsz : (w.alloc (.cells #[vo, vp, vc] 28)).heap.size = w.heap.size + 1 := by simp
  have r0 : ((w.alloc (.cells #[vo, vp, vc] 28)).alloc (.cells #[.int .i64 0, .int .i64 0, .int .i64 0, .int .i64 0] 190)).cell? ⟨w.heap.size + 1, 0, none⟩ = some (.int .i64 0) := by rw [World.cell?_alloc_at _ _ _ _ rsz.symm]; rfl
  have r1 : ((w.alloc (.cells #[vo, vp, vc] 28)).alloc (.cells #[.int .i64 0, .int .i64 0, .int .i64 0, .int .i64 0] 190)).cell? ⟨w.heap.size + 1, 1, none⟩ = some (.int .i64 0) := by rw [World.cell?_alloc_at _ _ _ _ rsz.symm]; rfl
  have r2 : ((w.alloc (.cells #[vo, vp, vc] 28)).alloc (.cells #[.int .i64 0, .int .i64 0, .int .i64 0, .int .i64 0] 190)).cell? ⟨w.heap.size + 1, 2, none⟩ = some (.int .i64 0) := by rw [World.cell?_alloc_at _ _ _ _ rsz.symm]; rfl
  have r3 : ((w.alloc (.cells #[vo, vp, vc] 28)).alloc (.cells #[.int .i64 0, .int .i64 0, .int .i64 0, .int .i64 0] 190)).cell? ⟨w.heap.size + 1, 3, none⟩ = some (.int .i64 0) := by rw [World.cell?_alloc_at _ _ _ _ rsz.symm]; rfl
  have rf : ∀ k, ((w.alloc (.cells #[vo, vp, vc] 28)).alloc (.cells #[.int .i64 0, .int .i64 0, .int .i64 0, .int .i64 0] 190)).frozen? ⟨w.heap.size + 1, k, none⟩ = false := fun k => World.frozen?_alloc_at _ _ _ _ rsz.symm
  have rs : w.heap.size + 1 < ((w.alloc (.cells #[vo, vp, vc] 28)).alloc (.cells #[.int .i64 0, .int .i64 0, .int .i64 0, .int .i64 0] 190)).heap.size := by simp
  clear rsz hb0
  generalize (w.alloc (.cells #[vo, vp, vc] 28)).alloc (.cells #[.int .i64 0, .int .i64 0, .int .i64 0, .int .i64 0] 190) = w0 at *
  have RR := Lib.hid (And.intro r0 (And.intro r1 (And.intro r2 (And.intro r3 rf)))); clear r0 r1 r2 r3 rf
  go_loopw [3] (fun jv wr => ∃ c : Nat, jv = .int .i64 ((c : Int) - 1) ∧ c ≤ P.orders.length ∧ Ext w0 wr ∧ ∀ m, c ≤ m → m < P.orders.length → RLevel P (P.orders.length - 1 - m) m) (fun jv _ => (intOf jv + 1).toNat)
  case atStart => exact ⟨P.orders.length, by go_num, by omega, Ext.refl _, fun m h1 h2 => by omega⟩
  case round =>
    obtain ⟨c, rfl, hc, hg, hlev⟩ := hrel
    have HLV := Lib.hid hlev; clear hlev
    have rr0 := hg.cell RR.out.1 (by simp)
    have rr1 := hg.cell RR.out.2.1 (by simp)
    have rr2 := hg.cell RR.out.2.2.1 (by simp)
    have rr3 := hg.cell RR.out.2.2.2.1 (by simp)
    have rrf := fun k => frozen_ext hg (RR.out.2.2.2.2 k) rs
    have rrs : w.heap.size + 1 < wr.heap.size := Nat.lt_of_lt_of_le rs hg.size
    have RRr := Lib.hid (And.intro rr0 (And.intro rr1 (And.intro rr2 (And.intro rr3 rrf)))); clear rr0 rr1 rr2 rr3 rrf
    by_cases hpos : 1 ≤ c
    · obtain ⟨c1, rfl⟩ : ∃ c1, c = c1 + 1 := ⟨c - 1, by omega⟩
      have e1 : ((c1 + 1 : Nat) : Int) - 1 = c1 := by omega
      rw [e1]
      obtain ⟨vo5, vp5, vc5, _, _, hb1, hb2, hb3, h3r⟩ := (hp0.ext hg).at
      simp at hb2 hb3
      go_wp2_with fail
      refine Calls.mono (l08Level_ok P hP wr _ c1 (P.orders.length - 1 - c1) _ ⟨_, _, _, rfl, h3r⟩ (by omega)) ?_
      rintro eA wA ⟨vA, rfl, hgA, hFA⟩
      clear hb1 hb2 hb3 e1
      have gA := grown_trans hgA (World.grownBy_alloc wA (.cells #[.int .i64 0, .int .i64 0, .int .i64 0, .int .i64 0] 190) none)
      rcases hFA with ⟨hgood, hv⟩ | ⟨hbad, k0, k1, k2, k3, hk, rfl⟩
      · unfold fault0 at hv
        subst hv
        go_wp2
        go_roundw
        case rel => exact ⟨c1, by go_num, by omega, grown_trans hg (grown_trans hgA (World.grownBy_alloc _ _ _)), fun m h1 h2 => by
          rcases Nat.lt_or_ge c1 m with h3 | h3
          · exact HLV.out m h3 h2
          · have : m = c1 := by omega
            rw [this]; exact hgood⟩
        case measure => simp [intOf]
      · have gB : Ext wr (wA.alloc (.cells #[.int .i64 k0, .int .i64 k1, .int .i64 k2, .int .i64 k3] 190)) := grown_trans hgA (World.grownBy_alloc _ _ _)
        have c0 := gB.cell RRr.out.1 (by simp)
        have c1' := gB.cell RRr.out.2.1 (by simp)
        have c2 := gB.cell RRr.out.2.2.1 (by simp)
        have c3 := gB.cell RRr.out.2.2.2.1 (by simp)
        have cf0 := frozen_ext gB (RRr.out.2.2.2.2 0) rrs
        have cf1 := frozen_ext gB (RRr.out.2.2.2.2 1) rrs
        have cf2 := frozen_ext gB (RRr.out.2.2.2.2 2) rrs
        have cf3 := frozen_ext gB (RRr.out.2.2.2.2 3) rrs
        go_wp2
        refine bodyPost_ret (v := .agg #[.int .i64 k0, .int .i64 k1, .int .i64 k2, .int .i64 k3]) (by simp [results, Tryz.results191, go_sem, c0, c1', c2, c3]) rfl ⟨_, rfl, ext_set4 (grown_trans hg00 (grown_trans hg gB)) (by omega) _ _ _ _, .inr ⟨fun h => hbad (h c1 (by omega)), _, _, _, _, hk, rfl⟩⟩
    · have hc0 : c = 0 := by omega
      subst hc0
      have c0 := RRr.out.1
      have c1 := RRr.out.2.1
      have c2 := RRr.out.2.2.1
      have c3 := RRr.out.2.2.2.1
      have cf0 := RRr.out.2.2.2.2 0
      have cf1 := RRr.out.2.2.2.2 1
      have cf2 := RRr.out.2.2.2.2 2
      have cf3 := RRr.out.2.2.2.2 3
      go_wp2
      refine bodyPost_ret (v := .agg #[.int .i64 0, .int .i64 0, .int .i64 0, .int .i64 0]) (by simp [results, Tryz.results191, go_sem, c0, c1, c2, c3]) rfl ⟨_, rfl, ext_set4 (grown_trans hg00 hg) (by omega) _ _ _ _, .inl ⟨fun m h => HLV.out m (by omega) h, rfl⟩⟩

open Classical in
theorem faultR_of {good : Prop} {v : Value} (h : FaultR good v) : ∃ a b c d : Int, v = .agg #[.int .i64 a, .int .i64 b, .int .i64 c, .int .i64 d] ∧ (a == 0) = decide good := by
  rcases h with ⟨hg, rfl⟩ | ⟨hb, a, b, c, d, ha, rfl⟩
  · exact ⟨0, 0, 0, 0, rfl, by simp [hg]⟩
  · exact ⟨a, b, c, d, rfl, by simp [hb, ha]⟩

open Classical in
set_option maxRecDepth 100000 in
set_option maxHeartbeats 4000000 in
theorem l08Consistent_ok (P : Pr) (hP : Valid P) (w : World) (pv : Value) (Sp : Nat → Prop) (hpv : PresV Sp w pv P) :
    Calls Tryz.prog 124 #[pv] w (Ret w fun _ v => v = .bool (decide (RAll P))) := by
  obtain ⟨vo, vp, vc, rfl, h3⟩ := hpv
  have hp0 := PresP.box h3 28
  have hg0 : Ext w (w.alloc (.cells #[vo, vp, vc] 28)) := World.grownBy_alloc _ _ _
  go_enter Tryz.func124, Tryz.ntmps124
  go_wp2_with fail
  refine Calls.mono (l08Fault_ok P hP _ _ _ ⟨_, _, _, rfl, Pres3.ext h3 (World.grownBy_alloc _ _ _)⟩) ?_
  rintro eA wA ⟨vA, rfl, hgA, hFA⟩
  obtain ⟨a, b, c, d, rfl, hab⟩ := faultR_of hFA
  have hfd : ∀ w : World, (Instr.field 190 (.agg #[.int .i64 a, .int .i64 b, .int .i64 c, .int .i64 d]) 0).run Tryz.prog w = .ok (.int .i64 a) w := fun _ => by kernel_rfl
  go_wp2
  exact bodyPost_ret (v := .bool (decide (RAll P))) (by simp [results, Tryz.results124, go_sem]) rfl ⟨_, rfl, grown_trans hg0 hgA, rfl⟩

open Classical in
set_option maxRecDepth 100000 in
set_option maxHeartbeats 4000000 in
theorem l08Group_ok (P : Pr) (w : World) (pv : Value) (Sp : Nat → Prop) (hpv : PresV Sp w pv P) :
    Calls Tryz.prog 61 #[pv] w (Ret w fun _ v => v = .bool (rconsB P)) := by
  obtain ⟨vo, vp, vc, rfl, h3⟩ := hpv
  have hp0 := PresP.box h3 28
  have hg0 : Ext w (w.alloc (.cells #[vo, vp, vc] 28)) := World.grownBy_alloc _ _ _
  go_enter Tryz.func61, Tryz.ntmps61
  go_wp2_with fail
  refine Calls.mono (sIsPresentation_ok _ _ P _ ⟨_, _, _, rfl, Pres3.ext h3 (World.grownBy_alloc _ _ _)⟩) ?_
  rintro eA wA ⟨vA, rfl, hgA, rfl⟩
  obtain ⟨vo5, vp5, vc5, _, _, hb1, hb2, hb3, h3r⟩ := (hp0.ext hgA).at
  simp at hb2 hb3
  by_cases hv : Valid P
  · have h1 : validB P = true := by simp [validB, hv]
    rw [h1]
    go_wp2_with fail
    refine Calls.mono (l08Consistent_ok P hv _ _ _ ⟨_, _, _, rfl, h3r⟩) ?_
    rintro eB wB ⟨vB, rfl, hgB, rfl⟩
    go_wp2
    exact bodyPost_ret (v := .bool (rconsB P)) (by simp [results, Tryz.results61, go_sem, rconsB, hv]) rfl ⟨_, rfl, grown_trans hg0 (grown_trans hgA hgB), rfl⟩
  · have h1 : validB P = false := by simp [validB, hv]
    rw [h1]
    go_wp2
    exact bodyPost_ret (v := .bool (rconsB P)) (by simp [results, Tryz.results61, go_sem, rconsB, hv]) rfl ⟨_, rfl, grown_trans hg0 hgA, rfl⟩

/-- what impl.consistentFrom answers: the first level from which on no level shows a fault -/
def IFrom (P : Pr) (c : Nat) : Prop := c ≤ P.orders.length ∧ (∀ m, c ≤ m → m < P.orders.length → ILevel P m) ∧ (0 < c → ¬ ILevel P (c - 1))

open Classical in
set_option maxRecDepth 100000 in
set_option maxHeartbeats 4000000 in
theorem consistentFrom_ok (P : Pr) (hP : Valid P) (w : World) (p : Value) (Sp : Nat → Prop) (hp : PresP Sp w p P) :
    Calls Tryz.prog 165 #[p] w (Ret w fun _ v => ∃ c : Nat, v = .int .i64 c ∧ IFrom P c) := by
  have hn6 := hP.n6
  obtain ⟨pb, po, rfl, _⟩ := hp.shape
  obtain ⟨ao, capo, hco, hoi⟩ := hp.ordAt
  go_enter Tryz.func165, Tryz.ntmps165
  go_wp2
  clear hco hoi
  go_loopw [3] (fun jv wr => ∃ c : Nat, jv = .int .i64 (c : Int) ∧ c ≤ P.orders.length ∧ Ext w wr ∧ ∀ m, c ≤ m → m < P.orders.length → ILevel P m) (fun jv _ => (intOf jv).toNat)
  case atStart => exact ⟨P.orders.length, by go_num, by omega, Ext.refl _, fun m h1 h2 => by omega⟩
  case round =>
    obtain ⟨c, rfl, hc, hg, hlev⟩ := hrel
    have HLV := Lib.hid hlev; clear hlev
    by_cases hpos : 1 ≤ c
    · obtain ⟨c1, rfl⟩ : ∃ c1, c = c1 + 1 := ⟨c - 1, by omega⟩
      go_wp2_with fail
      refine Calls.mono (levelFault_ok P hP wr _ c1 _ (hp.ext hg) (by omega)) ?_
      rintro eA wA ⟨vA, rfl, hgA, hFA⟩
      rcases hFA with ⟨hgood, hv⟩ | ⟨hbad, k0, k1, k2, k3, hk, rfl⟩
      · unfold fault0 at hv
        subst hv
        go_wp2
        go_roundw
        case rel => exact ⟨c1, by go_num, by omega, grown_trans hg hgA, fun m h1 h2 => by
          rcases Nat.lt_or_ge c1 m with h3 | h3
          · exact HLV.out m h3 h2
          · have : m = c1 := by omega
            rw [this]; exact hgood⟩
        case measure => simp [intOf]
      · go_wp2
        exact bodyPost_ret (v := .int .i64 ((c1 + 1 : Nat) : Int)) (by simp [results, Tryz.results165, go_sem]) rfl ⟨_, rfl, grown_trans hg hgA, c1 + 1, rfl, hc, HLV.out, fun _ => by simpa using hbad⟩
    · have hc0 : c = 0 := by omega
      subst hc0
      go_wp2
      exact bodyPost_ret (v := .int .i64 ((0 : Nat) : Int)) (by simp [results, Tryz.results165, go_sem]) rfl ⟨_, rfl, hg, 0, rfl, by omega, HLV.out, fun h => by omega⟩

open Classical in
set_option maxRecDepth 100000 in
set_option maxHeartbeats 4000000 in
theorem isConsistent_ok (P : Pr) (w : World) (pv : Value) (Sp : Nat → Prop) (hpv : PresV Sp w pv P) :
    Calls Tryz.prog 86 #[pv] w (Ret w fun _ v => v = .bool (iconsB P)) := by
  obtain ⟨vo, vp, vc, rfl, h3⟩ := hpv
  have hp0 := PresP.box h3 28
  have hg0 : Ext w (w.alloc (.cells #[vo, vp, vc] 28)) := World.grownBy_alloc _ _ _
  go_enter Tryz.func86, Tryz.ntmps86
  go_wp2_with fail
  refine Calls.mono (isPresentation_ok _ _ P _ ⟨_, _, _, rfl, Pres3.ext h3 (World.grownBy_alloc _ _ _)⟩) ?_
  rintro eA wA ⟨vA, rfl, hgA, rfl⟩
  by_cases hv : Valid P
  · have h1 : validB P = true := by simp [validB, hv]
    rw [h1]
    go_wp2_with fail
    refine Calls.mono (consistentFrom_ok P hv _ _ _ (hp0.ext hgA)) ?_
    rintro eB wB ⟨vB, rfl, hgB, c, rfl, hc⟩
    have hcb : ((c : Int) == 0) = iconsB P := by
      obtain ⟨hc1, hc2, hc3⟩ := hc
      cases c with
      | zero => simp [iconsB, hv]; exact fun k hk => hc2 k (Nat.zero_le _) hk
      | succ c =>
        have : iconsB P = false := by
          simp only [iconsB, decide_eq_false_iff_not]
          rintro ⟨_, h⟩
          exact hc3 (by omega) (h c (by omega))
        rw [this]
        simp
        omega
    go_wp2
    exact bodyPost_ret (v := .bool (iconsB P)) (by simp [results, Tryz.results86, go_sem]) rfl ⟨_, rfl, grown_trans hg0 (grown_trans hgA hgB), rfl⟩
  · have h1 : validB P = false := by simp [validB, hv]
    rw [h1]
    go_wp2
    exact bodyPost_ret (v := .bool (iconsB P)) (by simp [results, Tryz.results86, go_sem, iconsB, hv]) rfl ⟨_, rfl, grown_trans hg0 hgA, rfl⟩

end Go.Proofs.YtoakmefajbbggaaGreat
namespace Go.Proofs.YtoakmefajbbggaaGreat

/-- vectors with zeros ahead of index i -/
def T (P : Pr) (i : Nat) (x : List Int) : Prop := Vec P.orders x ∧ ∀ k, k < i → gt x k = 0

theorem T.up {P : Pr} {i : Nat} {x : List Int} (h : T P i x) (h0 : gt x i = 0) : T P (i + 1) x := ⟨h.1, fun k hk => by
  rcases Nat.lt_succ_iff_lt_or_eq.1 hk with h1 | h1
  · exact h.2 k h1
  · rw [h1]; exact h0⟩
theorem T.down {P : Pr} {i j : Nat} {x : List Int} (h : T P j x) (hij : i ≤ j) : T P i x := ⟨h.1, fun k hk => h.2 k (by omega)⟩
theorem T.of_zeroTo {P : Pr} {i : Nat} {x : List Int} (h : Vec P.orders x) (hz : ZeroTo i x) : T P (i + 1) x := ⟨h, fun k hk => hz k (by omega)⟩
theorem T.zeros {P : Pr} (hP : Valid P) (i : Nat) : T P i (zeros P.orders.length) := ⟨zeros_vec hP, fun _ _ => gt_replicate _ _⟩
theorem T.drop {P : Pr} (hP : Valid P) {i : Nat} (hi : i < P.orders.length) {x : List Int} (h : T P i x) : T P (i + 1) (x.set i 0) := by
  have ho := hP.ord7 i hi
  refine ⟨h.1.set i 0 ⟨by omega, fun _ => by omega⟩, fun k hk => ?_⟩
  by_cases e : i = k
  · subst e; rw [gt_set_eq _ _ _ (by rw [h.1.1]; exact hi)]
  · rw [gt_set_ne _ _ _ _ e]; exact h.2 k (by omega)
theorem T.put {P : Pr} {i : Nat} {x : List Int} (h : T P (i + 1) x) {a : Int} (ha : 0 ≤ a ∧ (i < P.orders.length → a < gt P.orders i)) : T P i (x.set i a) :=
  ⟨h.1.set i a ha, fun k hk => by rw [gt_set_ne _ _ _ _ (by omega)]; exact h.2 k (by omega)⟩
theorem gt_set_if {α : Type} [Inhabited α] (l : List α) (i j : Nat) (x : α) (hj : j < l.length) : gt (l.set i x) j = if i = j then x else gt l j := by
  by_cases h : i = j
  · subst h; rw [gt_set_eq _ _ _ hj, if_pos rfl]
  · rw [gt_set_ne _ _ _ _ h, if_neg h]
theorem gt_unit (n j k : Nat) (hk : k < n) : gt (unitV n j) k = if j = k then 1 else 0 := by
  unfold unitV
  rw [gt_set_if _ _ _ _ (by simpa using hk), gt_replicate]
theorem T.unit {P : Pr} (hP : Valid P) {i j : Nat} (hij : i ≤ j) (hj : j < P.orders.length) : T P i (unitV P.orders.length j) :=
  ⟨unitV_vec hP j, fun k hk => by rw [gt_unit _ _ _ (by omega), if_neg (by omega)]⟩
theorem Vec.ext {o x y : List Int} (hx : Vec o x) (hy : Vec o y) (h : ∀ k, k < o.length → gt x k = gt y k) : x = y :=
  ext_gt (by rw [hx.1, hy.1]) (fun k hk => h k (by rw [← hx.1]; exact hk))
theorem T.top {P : Pr} (hP : Valid P) {x : List Int} (h : T P P.orders.length x) : x = Go.Proofs.YtoakmefajbbggaaGreat.zeros P.orders.length :=
  Vec.ext h.1 (zeros_vec hP) (fun k hk => by rw [h.2 k hk]; exact (gt_replicate _ _).symm)

theorem rAt_T {P : Pr} (hP : Valid P) (f : Nat) : ∀ i A B, i + f = P.orders.length → Vec P.orders A → Vec P.orders B → T P i (rAt P f i A B) := by
  induction f with
  | zero => intro i A B _ _ _; exact T.zeros hP i
  | succ f ih =>
    intro i A B hi hA hB
    refine ⟨rAt_vec hP _ i A B hi hA hB, fun k hk => ?_⟩
    have ho := hP.ord7 i (by omega)
    have hAi := hA.2 i (by omega)
    have hBi := hB.2 i (by omega)
    have hl : Vec P.orders (iter (gt B i).toNat (fun l => rImgTo (rAt P f (i + 1)) (gt P.conj i) i l (zeros P.orders.length) f) (A.set i 0)) :=
      iter_inv (Vec P.orders) _ (fun y hy => rImgTo_vec hP f i hi (rAt_vec hP f) _ _ (zeros_vec hP) f (Nat.le_refl _)) _ _ (hA.set i 0 ⟨by omega, fun _ => by omega⟩)
    have vB : Vec P.orders (B.set i 0) := hB.set i 0 ⟨by omega, fun _ => by omega⟩
    have hr := ih (i + 1) _ _ (by omega) hl vB
    simp only [rAt]
    split
    · rw [gt_set_ne _ _ _ _ (by omega)]
      exact (ih (i + 1) _ _ (by omega) (hP.pv i (by omega)).1 hr.1).2 k (by omega)
    · rw [gt_set_ne _ _ _ _ (by omega)]
      exact hr.2 k (by omega)

theorem tg_T {P : Pr} (hP : Valid P) {i : Nat} {E : List Int} (hE : T P i E) {j : Nat} (hij : i ≤ j) (hj : j < P.orders.length) : T P i (tg P E j) :=
  ⟨tg_vec hP E j hE.1 hj, fun k hk => by
    have := (tgen_entries hP P.orders.length E j hE.1 hj (by omega)).1 k (by omega)
    have h2 : gt (tg P E j) k = gt E k := this
    rw [h2]; exact hE.2 k hk⟩
theorem tv_T {P : Pr} (hP : Valid P) {i : Nat} {E F : List Int} (hE : T P i E) (hF : T P i F) : T P i (tv P E F) := by
  unfold tv tvec
  rw [tvecTo_acc, hF.1.1]
  refine acc_inv (T P i) _ _ _ _ _ hE (fun y j hy _ hj h0 => tg_T hP hy ?_ (by omega))
  have : ¬ j < i := fun h => h0 (hF.2 j h)
  omega

/-- the tail at i is a group in which the relations hold, and each member is the product of its entries' powers -/
structure Lvl (P : Pr) (f i : Nat) : Prop where
  grp : GrpOn (T P i) (rAt P f i) (zeros P.orders.length)
  nf : ∀ x, T P i x → npr (rAt P f i) (unitV P.orders.length) x i (zeros P.orders.length) f = x
  rel : Holds P (T P i) (rAt P f i) (zeros P.orders.length) (unitV P.orders.length) i

theorem Lvl.top {P : Pr} (hP : Valid P) : Lvl P 0 P.orders.length := by
  have hz := T.zeros hP P.orders.length
  refine ⟨⟨⟨fun _ _ _ _ => hz, hz, fun _ _ _ _ _ _ => rfl, fun x hx => (hx.top hP).symm, fun x hx => (hx.top hP).symm⟩, fun x _ => ⟨_, hz, rfl, rfl⟩⟩, fun x hx => ?_, ⟨fun j a b => by omega, fun j a b => by omega, fun j k a b c => by omega⟩⟩
  exact (hx.top hP).symm

section
variable {P : Pr} {f i : Nat}

theorem Lvl.tv_eq (hP : Valid P) (hi : i + f = P.orders.length) (L : Lvl P f i) {E F : List Int} (hE : T P i E) (hF : T P i F) : tv P E F = rAt P f i E F := by
  have h := vd_tv hP L.grp.toMonOn (by omega) L.rel E F hE.1 hF.1 hF.2
  rw [show P.orders.length - i = f by omega, L.nf _ hE, L.nf _ hF, L.nf _ (tv_T hP hE hF)] at h
  exact h
theorem Lvl.tg_eq (hP : Valid P) (hi : i + f = P.orders.length) (L : Lvl P f i) {E : List Int} (hE : T P i E) {j : Nat} (hij : i ≤ j) (hj : j < P.orders.length) : tg P E j = rAt P f i E (unitV P.orders.length j) := by
  have h := vd_tg hP L.grp.toMonOn L.rel E j hE.1 hij hj
  rw [show P.orders.length - i = f by omega, L.nf _ hE, L.nf _ (tg_T hP hE hij hj)] at h
  exact h

theorem Lvl.iPow_eq (hP : Valid P) (hi : i + f = P.orders.length) (L : Lvl P f i) {a : List Int} (ha : T P i a) (k : Int) : iPow P a k = iter k.toNat (fun y => rAt P f i y a) (zeros P.orders.length) := by
  unfold iPow
  rw [ha.1.1]
  exact iter_congr (T P i) _ _ (fun x hx => tv_T hP hx ha) (fun x hx => L.tv_eq hP hi hx ha) _ _ (T.zeros hP i)

/-- square and multiply is the power -/
theorem rRepF_pow {S : List Int → Prop} {m : List Int → List Int → List Int} {e : List Int} (M : MonOn S m e) : ∀ (f : Nat) (out base : List Int) (k : Nat), S out → S base → k ≤ f →
    rRepF m f out base k = m out (iter k (fun y => m y base) e) := by
  intro f
  induction f with
  | zero =>
    intro out base k ho hb hk
    have : k = 0 := by omega
    subst this
    exact (M.er out ho).symm
  | succ f ih =>
    intro out base k ho hb hk
    simp only [rRepF]
    split
    · rename_i h; subst h; exact (M.er out ho).symm
    · rename_i h
      have hbb := M.cl _ _ hb hb
      have hsq : ∀ q, iter q (fun y => m y (m base base)) e = iter (2 * q) (fun y => m y base) e := by
        intro q
        induction q with
        | zero => rfl
        | succ q ihq =>
          show m (iter q (fun y => m y (m base base)) e) (m base base) = m (m (iter (2 * q) (fun y => m y base) e) base) base
          rw [ihq, M.ass _ _ _ (M.pow_cl hb M.one _) hb hb]
      by_cases hodd : k % 2 = 1
      · rw [if_pos hodd, ih _ _ _ (M.cl _ _ ho hb) hbb (by omega), hsq, M.ass _ _ _ ho hb (M.pow_cl hb M.one _)]
        congr 1
        have h1 := M.pow_add hb 1 (2 * (k / 2))
        rw [show 1 + 2 * (k / 2) = k by omega] at h1
        rw [h1]
        show m base _ = m (m e base) _
        rw [M.el base hb]
      · rw [if_neg hodd, ih _ _ _ ho hbb (by omega), hsq, show 2 * (k / 2) = k by omega]

theorem Lvl.rRep_eq (L : Lvl P f i) {a : List Int} (ha : T P i a) (k : Nat) : rRep (rAt P f i) (zeros P.orders.length) a k = iter k (fun y => rAt P f i y a) (zeros P.orders.length) := by
  unfold rRep
  rw [rRepF_pow L.grp.toMonOn k _ _ k L.grp.one ha (Nat.le_refl _)]
  exact L.grp.el _ (L.grp.toMonOn.pow_cl ha L.grp.one k)

/-- the program's inverse -/
theorem Lvl.iInv_eq (hP : Valid P) (hi : i + f = P.orders.length) (L : Lvl P f i) {a : List Int} (ha : T P i a) : T P i (iInv P a) ∧ rAt P f i a (iInv P a) = zeros P.orders.length := by
  have key : ∀ k, k ≤ P.orders.length → T P i (invTo P a k).1 ∧ T P i (invTo P a k).2 ∧ (invTo P a k).1 = rAt P f i a (invTo P a k).2 ∧ ∀ l, l < k → gt (invTo P a k).1 l = 0 := by
    intro k
    induction k with
    | zero =>
      intro _
      refine ⟨ha, by simp only [invTo]; rw [ha.1.1]; exact T.zeros hP i, ?_, fun l hl => by omega⟩
      simp only [invTo]
      rw [ha.1.1]
      exact (L.grp.er a ha).symm
    | succ k ih =>
      intro hk
      obtain ⟨h1, h2, h3, h4⟩ := ih (by omega)
      simp only [invTo]
      by_cases h0 : gt (invTo P a k).1 k = 0
      · have hm : left_ (gt P.orders k) (gt (invTo P a k).1 k) = 0 := by unfold left_; rw [if_pos h0]
        rw [hm]
        refine ⟨h1, h2, h3, fun l hl => ?_⟩
        rcases Nat.lt_succ_iff_lt_or_eq.1 hl with h | h
        · exact h4 l h
        · rw [h]; exact h0
      · have hik : i ≤ k := by
          have : ¬ k < i := fun h => h0 (h1.2 k h)
          omega
        have hR := iter_rel (fun (x y : List Int) => T P i x ∧ T P i y ∧ x = rAt P f i a y ∧ ∀ l, l < k → gt x l = 0) (fun e => tg P e k) (fun e => tg P e k) (by
          rintro x y ⟨g1, g2, g3, g4⟩
          refine ⟨tg_T hP g1 hik (by omega), tg_T hP g2 hik (by omega), ?_, fun l hl => ?_⟩
          · show tg P x k = rAt P f i a (tg P y k)
            rw [L.tg_eq hP hi g1 hik (by omega), L.tg_eq hP hi g2 hik (by omega), g3, L.grp.ass _ _ _ ha g2 (T.unit hP hik (by omega))]
          · have h5 := (tgen_entries hP P.orders.length x k g1.1 (by omega) (by omega)).1 l hl
            have h6 : gt (tg P x k) l = gt x l := h5
            show gt (tg P x k) l = 0
            rw [h6]; exact g4 l hl) (left_ (gt P.orders k) (gt (invTo P a k).1 k)) _ _ ⟨h1, h2, h3, h4⟩
        obtain ⟨g1, g2, g3, g4⟩ := hR
        refine ⟨g1, g2, g3, fun l hl => ?_⟩
        rcases Nat.lt_succ_iff_lt_or_eq.1 hl with h | h
        · exact g4 l h
        · have h7 := (iter_tg hP (invTo P a k).1 k (by omega) h1.1 h0 _ (Nat.le_refl _)).2
          rw [if_pos rfl] at h7
          rw [h]; exact h7
  obtain ⟨h1, h2, h3, h4⟩ := key P.orders.length (Nat.le_refl _)
  have he : iInv P a = (invTo P a P.orders.length).2 := by unfold iInv; rw [ha.1.1]
  rw [he]
  refine ⟨h2, ?_⟩
  rw [← h3]
  exact T.top hP ⟨h1.1, h4⟩

theorem Lvl.iConj_iff (hP : Valid P) (hi : i + f = P.orders.length) (L : Lvl P f i) {a b z : List Int} (ha : T P i a) (hb : T P i b) (hz : T P i z) : iConj P a b = z ↔ rAt P f i a b = rAt P f i b z := by
  obtain ⟨h1, h2⟩ := L.iInv_eq hP hi hb
  have hab := tv_T hP ha hb
  unfold iConj
  rw [L.tv_eq hP hi h1 hab, L.tv_eq hP hi ha hb]
  exact L.grp.solve hb h1 (L.grp.cl _ _ ha hb) hz h2

end

section
variable {P : Pr} {f i : Nat}

theorem rImage_T (hP : Valid P) (hi : i + (f + 1) = P.orders.length) (x : List Int) : T P (i + 1) (rImage P f i x) := by
  unfold rImage
  rw [rImgTo_acc]
  refine acc_inv (T P (i + 1)) _ _ _ _ _ (T.zeros hP _) (fun y j hy a b _ => ?_)
  exact rAt_T hP f (i + 1) _ _ (by omega) hy.1 ((hP.cv i (by omega)).2 (j - i - 1) (by omega)).1

theorem cj_T (hP : Valid P) {j : Nat} (hi : i < j) (hj : j < P.orders.length) : T P (i + 1) (gt (gt P.conj i) (j - i - 1)) :=
  T.of_zeroTo ((hP.cv i (by omega)).2 (j - i - 1) (by omega)).1 ((hP.cv i (by omega)).2 (j - i - 1) (by omega)).2
theorem pw_T (hP : Valid P) (hi : i < P.orders.length) : T P (i + 1) (gt P.powers i) := T.of_zeroTo (hP.pv i hi).1 (hP.pv i hi).2

theorem Lvl.iImg_eq (hP : Valid P) (hi : i + (f + 1) = P.orders.length) (L : Lvl P f (i + 1)) {x : List Int} (hx : x.length = P.orders.length) : iImg P i x = rImage P f i x := by
  unfold iImg rImage
  rw [(hP.cv i (by omega)).1, show P.orders.length - 1 - i = f by omega, hx, rImgTo_acc, rImgTo_acc]
  exact (acc_rel (fun y z : List Int => y = z ∧ T P (i + 1) y) _ _ x (i + 1) _ _ f ⟨rfl, T.zeros hP _⟩ (by
    rintro y z j ⟨rfl, hy⟩ a b _
    have hc := cj_T (i := i) hP (j := j) (by omega) (by omega)
    exact ⟨L.tv_eq hP (by omega) hy hc, tv_T hP hy hc⟩)).1

/-- both sides see the same faults at a level behind which all is well -/
theorem Lvl.iff (hP : Valid P) (hi : i + (f + 1) = P.orders.length) (L : Lvl P f (i + 1)) : ILevel P i ↔ RLevel P f i := by
  have hi1 : i + 1 + f = P.orders.length := by omega
  have e1 : ∀ J, i < J → J < P.orders.length → (ICond1 P i J ↔ RCond1 P f i J) := fun J a b => by
    unfold ICond1 RCond1
    have hc := cj_T (i := i) hP a b
    rw [L.iPow_eq hP hi1 hc, L.rRep_eq hc, L.iImg_eq hP hi (hP.pv J b).1.1]
  have e2 : ∀ J K, i < J → J < K → K < P.orders.length → (ICond2 P i J K ↔ RCond2 P f i J K) := fun J K a b c => by
    unfold ICond2 RCond2
    have h1 := cj_T (i := i) hP (j := K) (by omega) c
    have h2 := cj_T (i := i) hP (j := J) a (by omega)
    rw [L.iImg_eq hP hi (((hP.cv J (by omega)).2 (K - J - 1) (by omega)).1.1)]
    exact L.iConj_iff hP hi1 h1 h2 (rImage_T hP hi _)
  have e3 : ICond3 P i ↔ RCond3 P f i := by
    unfold ICond3 RCond3
    rw [L.iImg_eq hP hi (hP.pv i (by omega)).1.1]
  have e4 : ∀ J, i < J → J < P.orders.length → (ICond4 P i J ↔ RCond4 P f i J) := fun J a b => by
    unfold ICond4 RCond4
    have hu : T P (i + 1) (unitV P.orders.length J) := T.unit hP (by omega) b
    have h1 : iter (gt P.orders i).toNat (fun x => iImg P i x) (unitV P.orders.length J) = iter (gt P.orders i).toNat (fun x => rImage P f i x) (unitV P.orders.length J) :=
      iter_congr (Vec P.orders) _ _ (fun x hx => iImg_vec hP i (by omega) x hx) (fun x hx => L.iImg_eq hP hi hx.1) _ _ hu.1
    have h2 : T P (i + 1) (iter (gt P.orders i).toNat (fun x => rImage P f i x) (unitV P.orders.length J)) := iter_inv (T P (i + 1)) _ (fun x _ => rImage_T hP hi x) _ _ hu
    rw [h1, eq_comm, L.iConj_iff hP hi1 hu (pw_T hP (by omega)) h2, eq_comm]
  constructor
  · intro h
    exact ⟨fun J a b => (e1 J a b).1 (h.c1 J a b), fun J K a b c => (e2 J K a b c).1 (h.c2 J K a b c), e3.1 h.c3, fun J a b => (e4 J a b).1 (h.c4 J a b)⟩
  · intro h
    exact ⟨fun J a b => (e1 J a b).2 (h.c1 J a b), fun J K a b c => (e2 J K a b c).2 (h.c2 J K a b c), e3.2 h.c3, fun J a b => (e4 J a b).2 (h.c4 J a b)⟩

end
end Go.Proofs.YtoakmefajbbggaaGreat
namespace Go.Proofs.YtoakmefajbbggaaGreat

section
variable {P : Pr} {f i : Nat}

/-- a pair as a vector -/
def prV (i : Nat) (p : Nat × List Int) : List Int := p.2.set i (p.1 : Int)

theorem prV_T (hP : Valid P) (hi : i < P.orders.length) {p : Nat × List Int} (hp : ExS (T P (i + 1)) (gt P.orders i).toNat p) : T P i (prV i p) := by
  have ho := hP.ord7 i hi
  have h1 := hp.1
  exact hp.2.put ⟨by omega, fun _ => by omega⟩

theorem prV_sur (hP : Valid P) (hi : i < P.orders.length) {x : List Int} (hx : T P i x) : ∃ p, ExS (T P (i + 1)) (gt P.orders i).toNat p ∧ prV i p = x := by
  have ho := hP.ord7 i hi
  have hxi := hx.1.2 i hi
  refine ⟨((gt x i).toNat, x.set i 0), ⟨by show (gt x i).toNat < _; omega, hx.drop hP hi⟩, ?_⟩
  unfold prV
  simp only [List.set_set]
  refine ext_gt (by simp) (fun k hk => ?_)
  rw [List.length_set] at hk
  rw [gt_set_if _ _ _ _ hk]
  split
  · rename_i h; subst h; omega
  · rfl

theorem set_zero_of {x : List Int} (h : T P (i + 1) x) : x.set i 0 = x := by
  refine ext_gt (by simp) (fun k hk => ?_)
  rw [List.length_set] at hk
  rw [gt_set_if _ _ _ _ hk]
  split
  · rename_i e; subst e; exact (h.2 i (by omega)).symm
  · rfl

theorem prV_mul (hP : Valid P) (hi : i + (f + 1) = P.orders.length) (p q : Nat × List Int) (hp : ExS (T P (i + 1)) (gt P.orders i).toNat p) (hq : ExS (T P (i + 1)) (gt P.orders i).toNat q) :
    rAt P (f + 1) i (prV i p) (prV i q) = prV i (exm (rAt P f (i + 1)) (rImage P f i) (gt P.powers i) (gt P.orders i).toNat p q) := by
  obtain ⟨a, x⟩ := p
  obtain ⟨b, y⟩ := q
  obtain ⟨ha, hx⟩ := hp
  obtain ⟨hb, hy⟩ := hq
  simp only at ha hb hx hy
  have ho := hP.ord7 i (by omega)
  have ga : gt (prV i (a, x)) i = (a : Int) := gt_set_eq _ _ _ (by show i < x.length; rw [hx.1.1]; omega)
  have gb : gt (prV i (b, y)) i = (b : Int) := gt_set_eq _ _ _ (by show i < y.length; rw [hy.1.1]; omega)
  have sa : (prV i (a, x)).set i 0 = x := by unfold prV; rw [List.set_set]; exact set_zero_of hx
  have sb : (prV i (b, y)).set i 0 = y := by unfold prV; rw [List.set_set]; exact set_zero_of hy
  simp only [rAt, ga, gb, sa, sb]
  unfold exm
  simp only
  have him : (fun l => rImgTo (rAt P f (i + 1)) (gt P.conj i) i l (zeros P.orders.length) f) = rImage P f i := rfl
  rw [him, show ((b : Int)).toNat = b by omega]
  by_cases hc : (gt P.orders i).toNat ≤ a + b
  · rw [if_pos (by omega), if_pos hc]
    unfold prV
    simp only
    congr 1
    omega
  · rw [if_neg (by omega), if_neg hc]
    unfold prV
    simp only
    congr 1

/-- what a faultless level gives -/
theorem Lvl.ext (hP : Valid P) (hi : i + (f + 1) = P.orders.length) (L : Lvl P f (i + 1)) (R : RLevel P f i) :
    ExtOk (T P (i + 1)) (rAt P f (i + 1)) (zeros P.orders.length) (rImage P f i) (gt P.powers i) (gt P.orders i).toNat ∧
      ∀ j, i < j → j < P.orders.length → rImage P f i (unitV P.orders.length j) = gt (gt P.conj i) (j - i - 1) := by
  have M := L.grp.toMonOn
  have ho := hP.ord7 i (by omega)
  have hf : P.orders.length - (i + 1) = f := by omega
  have hmem : ∀ j, i + 1 ≤ j → j < P.orders.length → T P (i + 1) (gt (gt P.conj i) (j - i - 1)) := fun j a b => cj_T hP (by omega) b
  have hImg : ∀ x, rImage P f i x = npr (rAt P f (i + 1)) (fun j => gt (gt P.conj i) (j - i - 1)) x (i + 1) (zeros P.orders.length) f := fun x => by
    unfold rImage npr; rw [rImgTo_acc]
  have hImgAt : ∀ (j : Nat) (x : List Int), i < j → j < P.orders.length → ZeroTo j x → rImage P f i x = npr (rAt P f (i + 1)) (fun j => gt (gt P.conj i) (j - i - 1)) x (j + 1) (zeros P.orders.length) (P.orders.length - (j + 1)) := fun j x a b hz => by
    rw [hImg]
    unfold npr
    rw [show f = (j - i) + (P.orders.length - (j + 1)) by omega, acc_split, acc_zero _ _ _ _ (j - i) (fun k _ c => hz k (by omega)), show i + 1 + (j - i) = j + 1 by omega]
  have H : Holds P (T P (i + 1)) (rAt P f (i + 1)) (zeros P.orders.length) (fun j => gt (gt P.conj i) (j - i - 1)) (i + 1) := by
    refine ⟨hmem, fun j a b => ?_, fun j k a b c => ?_⟩
    · have h := R.c1 j (by omega) b
      unfold RCond1 at h
      rw [L.rRep_eq (hmem j a b), hImgAt j _ (by omega) b (hP.pv j b).2] at h
      exact h
    · have h := R.c2 j k (by omega) b c
      unfold RCond2 at h
      rw [hImgAt j _ (by omega) (by omega) ((hP.cv j (by omega)).2 (k - j - 1) (by omega)).2] at h
      exact h
  have hom : ∀ A B, Vec P.orders A → Vec P.orders B → rImage P f i (rAt P f (i + 1) A B) = rAt P f (i + 1) (rImage P f i A) (rImage P f i B) := fun A B hA hB => by
    rw [hImg, hImg, hImg]
    exact vd_at hP M f (i + 1) (by omega) H A B hA hB
  have hunit : ∀ j, i < j → j < P.orders.length → rImage P f i (unitV P.orders.length j) = gt (gt P.conj i) (j - i - 1) := fun j a b => by
    rw [hImg]
    unfold npr
    rw [show f = (j - (i + 1)) + ((P.orders.length - (j + 1)) + 1) by omega, acc_split, acc_zero _ _ _ _ (j - (i + 1)) (fun k _ c => by rw [gt_unit _ _ _ (by omega), if_neg (by omega)]), acc_front, show i + 1 + (j - (i + 1)) = j by omega,
      acc_zero _ _ (j + 1) _ _ (fun k c d => by rw [gt_unit _ _ _ (by omega), if_neg (by omega)]), gt_unit _ _ _ b, if_pos rfl]
    show rAt P _ (i + 1) (zeros P.orders.length) _ = _
    rw [show j - (i + 1) + (P.orders.length - (j + 1) + 1) = f by omega]
    exact M.el _ (hmem j (by omega) b)
  refine ⟨?_, hunit⟩
  have hw := pw_T (i := i) hP (by omega)
  have ihom : ∀ (k : Nat) (x y : List Int), T P (i + 1) x → T P (i + 1) y → iter k (rImage P f i) (rAt P f (i + 1) x y) = rAt P f (i + 1) (iter k (rImage P f i) x) (iter k (rImage P f i) y) := by
    intro k x y hx hy
    have := (iter_rel (fun (u : List Int) (v : List Int × List Int) => T P (i + 1) v.1 ∧ T P (i + 1) v.2 ∧ u = rAt P f (i + 1) v.1 v.2) (rImage P f i) (fun v => (rImage P f i v.1, rImage P f i v.2)) (by
      rintro u ⟨v1, v2⟩ ⟨h1, h2, rfl⟩
      exact ⟨rImage_T hP hi _, rImage_T hP hi _, hom _ _ h1.1 h2.1⟩) k (rAt P f (i + 1) x y) (x, y) ⟨hx, hy, rfl⟩).2.2
    rw [this]
    have e : ∀ k, iter k (fun v : List Int × List Int => (rImage P f i v.1, rImage P f i v.2)) (x, y) = (iter k (rImage P f i) x, iter k (rImage P f i) y) := by
      intro k
      induction k with
      | zero => rfl
      | succ k ih => show (fun v : List Int × List Int => (rImage P f i v.1, rImage P f i v.2)) (iter k _ (x, y)) = _; rw [ih]; rfl
    rw [e]
  have icl : ∀ (k : Nat) (x : List Int), T P (i + 1) x → T P (i + 1) (iter k (rImage P f i) x) := fun k x hx => iter_inv (T P (i + 1)) _ (fun y _ => rImage_T hP hi y) k x hx
  refine ⟨by omega, L.grp, fun x _ => rImage_T hP hi x, fun x y hx hy => hom x y hx.1 hy.1, hw, R.c3, ?_⟩
  intro x hx
  have hone : rImage P f i (zeros P.orders.length) = zeros P.orders.length := by
    rw [hImg]; exact acc_zero _ _ _ _ _ (fun j _ _ => gt_replicate _ _)
  have hione : ∀ k, iter k (rImage P f i) (zeros P.orders.length) = zeros P.orders.length := by
    intro k
    induction k with
    | zero => rfl
    | succ k ih => show rImage P f i (iter k _ _) = _; rw [ih, hone]
  have key : (fun y => T P (i + 1) y ∧ rAt P f (i + 1) (gt P.powers i) (iter (gt P.orders i).toNat (rImage P f i) y) = rAt P f (i + 1) y (gt P.powers i)) (npr (rAt P f (i + 1)) (unitV P.orders.length) x (i + 1) (zeros P.orders.length) f) := by
    unfold npr
    refine acc_inv (fun y => T P (i + 1) y ∧ rAt P f (i + 1) (gt P.powers i) (iter (gt P.orders i).toNat (rImage P f i) y) = rAt P f (i + 1) y (gt P.powers i)) _ _ _ _ _ ⟨L.grp.one, by rw [hione, M.er _ hw, M.el _ hw]⟩ (fun y j hy a b _ => ?_)
    obtain ⟨h1, h2⟩ := hy
    have hu : T P (i + 1) (unitV P.orders.length j) := T.unit hP a (by omega)
    have h4 := R.c4 j (by omega) (by omega)
    unfold RCond4 at h4
    refine ⟨M.cl _ _ h1 hu, ?_⟩
    rw [ihom _ _ _ h1 hu, ← M.ass _ _ _ hw (icl _ _ h1) (icl _ _ hu), h2, M.ass _ _ _ h1 hw (icl _ _ hu)]
    have h5 : rAt P f (i + 1) (gt P.powers i) (iter (gt P.orders i).toNat (rImage P f i) (unitV P.orders.length j)) = rAt P f (i + 1) (unitV P.orders.length j) (gt P.powers i) := h4
    rw [h5, M.ass _ _ _ h1 hu hw]
  rw [L.nf x hx] at key
  exact key.2

theorem Lvl.step (hP : Valid P) (hi : i + (f + 1) = P.orders.length) (L : Lvl P f (i + 1)) (R : RLevel P f i) : Lvl P (f + 1) i := by
  obtain ⟨E, hunit⟩ := L.ext hP hi R
  have hin : i < P.orders.length := by omega
  have ho := hP.ord7 i hin
  have M' := L.grp.toMonOn
  have hz0 : prV i (0, zeros P.orders.length) = zeros P.orders.length := set_zero_of (P := P) (T.zeros hP (i + 1))
  have G : GrpOn (T P i) (rAt P (f + 1) i) (zeros P.orders.length) :=
    E.group.carry (prV i) (fun p hp => prV_T hP hin hp) (fun y hy => prV_sur hP hin hy) hz0 (fun p q hp hq => prV_mul hP hi p q hp hq)
  have M := G.toMonOn
  have e0 : ∀ x, T P (i + 1) x → prV i (0, x) = x := fun x hx => set_zero_of hx
  have s0 : ∀ x, T P (i + 1) x → ExS (T P (i + 1)) (gt P.orders i).toNat (0, x) := fun x hx => ⟨by show 0 < _; omega, hx⟩
  -- the product restricted
  have res : ∀ x y, T P (i + 1) x → T P (i + 1) y → rAt P (f + 1) i x y = rAt P f (i + 1) x y := fun x y hx hy => by
    have h := prV_mul hP hi (0, x) (0, y) (s0 x hx) (s0 y hy)
    rw [e0 x hx, e0 y hy] at h
    rw [h]
    unfold exm
    simp only [Nat.add_zero, if_neg (by omega : ¬ (gt P.orders i).toNat ≤ 0)]
    exact e0 _ (M'.cl _ _ hx hy)
  have resN : ∀ (x : List Int) (j k : Nat), i + 1 ≤ j → j + k = P.orders.length → npr (rAt P (f + 1) i) (unitV P.orders.length) x j (zeros P.orders.length) k = npr (rAt P f (i + 1)) (unitV P.orders.length) x j (zeros P.orders.length) k ∧
      T P (i + 1) (npr (rAt P f (i + 1)) (unitV P.orders.length) x j (zeros P.orders.length) k) := fun x j k hj hk => by
    have := acc_rel (fun (y z : List Int) => T P (i + 1) z ∧ y = z) (fun y j => rAt P (f + 1) i y (unitV P.orders.length j)) (fun y j => rAt P f (i + 1) y (unitV P.orders.length j)) x j (zeros P.orders.length) (zeros P.orders.length) k ⟨L.grp.one, rfl⟩ (by
      rintro y z l ⟨h1, rfl⟩ a b _
      have hu : T P (i + 1) (unitV P.orders.length l) := T.unit hP (by omega) (by omega)
      exact ⟨M'.cl _ _ h1 hu, res _ _ h1 hu⟩)
    exact ⟨this.2, this.1⟩
  have u1 : unitV P.orders.length i = prV i (1, zeros P.orders.length) := by
    unfold prV unitV zeros; rfl
  have s1 : ∀ a x, a < (gt P.orders i).toNat → T P (i + 1) x → ExS (T P (i + 1)) (gt P.orders i).toNat (a, x) := fun a x ha hx => ⟨ha, hx⟩
  have hz : T P (i + 1) (zeros P.orders.length) := T.zeros hP _
  have hupT : T P i (unitV P.orders.length i) := T.unit hP (Nat.le_refl _) hin
  have hmem : ∀ j, i ≤ j → j < P.orders.length → T P i (unitV P.orders.length j) := fun j a b => T.unit hP a b
  -- powers of the generator
  have hpw : ∀ k, k < (gt P.orders i).toNat → iter k (fun y => rAt P (f + 1) i y (unitV P.orders.length i)) (zeros P.orders.length) = prV i (k, zeros P.orders.length) := by
    intro k
    induction k with
    | zero => intro _; exact hz0.symm
    | succ k ih =>
      intro hk
      show rAt P (f + 1) i (iter k _ _) (unitV P.orders.length i) = _
      rw [ih (by omega), u1, prV_mul hP hi _ _ (s1 k _ (by omega) hz) (s1 1 _ (by omega) hz)]
      unfold exm
      simp only [if_neg (by omega : ¬ (gt P.orders i).toNat ≤ k + 1), E.ione, M'.el _ hz]
  have hw := pw_T (i := i) hP hin
  have nfr : ∀ x, T P (i + 1) x → npr (rAt P (f + 1) i) (unitV P.orders.length) x (i + 1) (zeros P.orders.length) f = x := fun x hx => by
    rw [(resN x (i + 1) f (by omega) (by omega)).1, L.nf x hx]
  refine ⟨G, fun x hx => ?_, ⟨hmem, fun j a b => ?_, fun j k a b c => ?_⟩⟩
  · -- normal form
    rw [npr_front M (fun j a b => hmem j a (by omega))]
    have hxi := hx.1.2 i hin
    have hd := hx.drop hP hin
    have h1 : npr (rAt P (f + 1) i) (unitV P.orders.length) x (i + 1) (zeros P.orders.length) f = x.set i 0 := by
      have h2 : npr (rAt P (f + 1) i) (unitV P.orders.length) x (i + 1) (zeros P.orders.length) f = npr (rAt P (f + 1) i) (unitV P.orders.length) (x.set i 0) (i + 1) (zeros P.orders.length) f :=
        acc_congr _ _ _ _ _ _ (fun j a b => by rw [gt_set_ne _ _ _ _ (by omega)])
      rw [h2, nfr _ hd]
    rw [hpw _ (by omega), h1]
    obtain ⟨p, hp, hpx⟩ := prV_sur hP hin hx
    have h3 := prV_mul hP hi ((gt x i).toNat, zeros P.orders.length) (0, x.set i 0) (s1 _ _ (by omega) hz) (s0 _ hd)
    rw [e0 _ hd] at h3
    rw [h3]
    unfold exm
    simp only [Nat.add_zero, if_neg (by omega : ¬ (gt P.orders i).toNat ≤ (gt x i).toNat)]
    show prV i ((gt x i).toNat, rAt P f (i + 1) (zeros P.orders.length) (x.set i 0)) = x
    rw [M'.el _ hd]
    unfold prV
    simp only [List.set_set]
    refine ext_gt (by simp) (fun k hk => ?_)
    rw [List.length_set] at hk
    rw [gt_set_if _ _ _ _ hk]
    split
    · rename_i h; subst h; omega
    · rfl
  · -- power relations
    by_cases hji : j = i
    · subst hji
      rw [show P.orders.length - (j + 1) = f by omega, nfr _ hw]
      obtain ⟨o', ho'⟩ : ∃ o', (gt P.orders j).toNat = o' + 1 := ⟨(gt P.orders j).toNat - 1, by omega⟩
      rw [ho']
      show rAt P (f + 1) j (iter o' _ _) (unitV P.orders.length j) = _
      rw [hpw o' (by omega), u1, prV_mul hP hi _ _ (s1 o' _ (by omega) hz) (s1 1 _ (by omega) hz)]
      unfold exm
      simp only [if_pos (by omega : (gt P.orders j).toNat ≤ o' + 1), E.ione, M'.el _ hz, M'.er _ hw]
      rw [show o' + 1 - (gt P.orders j).toNat = 0 by omega]
      exact e0 _ hw
    · have hu : T P (i + 1) (unitV P.orders.length j) := T.unit hP (by omega) b
      rw [(resN _ (j + 1) _ (by omega) (by omega)).1, ← L.rel.pw j (by omega) b]
      have := iter_rel (fun (y z : List Int) => T P (i + 1) z ∧ y = z) (fun y => rAt P (f + 1) i y (unitV P.orders.length j)) (fun y => rAt P f (i + 1) y (unitV P.orders.length j)) (by
        rintro y z ⟨h1, rfl⟩
        exact ⟨M'.cl _ _ h1 hu, res _ _ h1 hu⟩) (gt P.orders j).toNat _ _ ⟨L.grp.one, rfl⟩
      exact this.2
  · -- conjugate relations
    by_cases hji : j = i
    · subst hji
      have hc := cj_T (i := j) hP b c
      have hu : T P (j + 1) (unitV P.orders.length k) := T.unit hP (by omega) c
      rw [show P.orders.length - (j + 1) = f by omega, nfr _ hc]
      have h1 := prV_mul hP hi (0, unitV P.orders.length k) (1, zeros P.orders.length) (s0 _ hu) (s1 1 _ (by omega) hz)
      have h2 := prV_mul hP hi (1, zeros P.orders.length) (0, gt (gt P.conj j) (k - j - 1)) (s1 1 _ (by omega) hz) (s0 _ hc)
      rw [e0 _ hu, ← u1] at h1
      rw [e0 _ hc, ← u1] at h2
      rw [h1, h2]
      unfold exm
      simp only [Nat.zero_add, Nat.add_zero, if_neg (by omega : ¬ (gt P.orders j).toNat ≤ 1)]
      show prV j (1, rAt P f (j + 1) (rImage P f j (unitV P.orders.length k)) (zeros P.orders.length)) = prV j (1, rAt P f (j + 1) (zeros P.orders.length) (gt (gt P.conj j) (k - j - 1)))
      rw [hunit k b c, M'.er _ hc, M'.el _ hc]
    · have hu : T P (i + 1) (unitV P.orders.length j) := T.unit hP (by omega) (by omega)
      have hv : T P (i + 1) (unitV P.orders.length k) := T.unit hP (by omega) c
      have hr := resN (gt (gt P.conj j) (k - j - 1)) (j + 1) (P.orders.length - (j + 1)) (by omega) (by omega)
      rw [hr.1, res _ _ hv hu, res _ _ hu hr.2]
      exact L.rel.cj j k (by omega) b c

end

/-- the tails behind which no fault is seen -/
theorem lvl_of_R {P : Pr} (hP : Valid P) (f : Nat) : ∀ i, i + f = P.orders.length → (∀ k, i ≤ k → k < P.orders.length → RLevel P (P.orders.length - 1 - k) k) → Lvl P f i := by
  induction f with
  | zero =>
    intro i hi _
    have : i = P.orders.length := by omega
    subst this
    exact Lvl.top hP
  | succ f ih =>
    intro i hi h
    have L := ih (i + 1) (by omega) (fun k a b => h k (by omega) b)
    have R := h i (by omega) (by omega)
    rw [show P.orders.length - 1 - i = f by omega] at R
    exact L.step hP hi R
theorem lvl_of_I {P : Pr} (hP : Valid P) (f : Nat) : ∀ i, i + f = P.orders.length → (∀ k, i ≤ k → k < P.orders.length → ILevel P k) → Lvl P f i := by
  induction f with
  | zero =>
    intro i hi _
    have : i = P.orders.length := by omega
    subst this
    exact Lvl.top hP
  | succ f ih =>
    intro i hi h
    have L := ih (i + 1) (by omega) (fun k a b => h k (by omega) b)
    exact L.step hP hi ((L.iff hP hi).1 (h i (by omega) (by omega)))

theorem all_iff {P : Pr} (hP : Valid P) : IAll P ↔ RAll P := by
  constructor
  · intro h k hk
    have L := lvl_of_I hP (P.orders.length - 1 - k) (k + 1) (by omega) (fun l _ b => h l b)
    exact (L.iff hP (by omega)).1 (h k hk)
  · intro h k hk
    have L := lvl_of_R hP (P.orders.length - 1 - k) (k + 1) (by omega) (fun l _ b => h l b)
    exact (L.iff hP (by omega)).2 (h k hk)

/-- both sides call the same presentations consistent -/
theorem icons_eq (P : Pr) : iconsB P = rconsB P := by
  unfold iconsB rconsB
  exact decide_eq_decide.2 (and_congr_right (fun hP => all_iff hP))

/-- a valid and consistent presentation -/
structure Grp (P : Pr) : Prop where
  v : Valid P
  all : RAll P

theorem Grp.tail {P : Pr} (G : Grp P) {f i : Nat} (hi : i + f = P.orders.length) : Lvl P f i := lvl_of_R G.v f i hi (fun k _ b => G.all k b)
theorem Grp.lvl {P : Pr} (G : Grp P) : Lvl P P.orders.length 0 := G.tail (by omega)

theorem grp_of_r {P : Pr} (h : rconsB P = true) : Grp P := by
  unfold rconsB at h
  have h2 := @of_decide_eq_true _ (_) h
  exact ⟨h2.1, h2.2⟩

theorem T_zero {P : Pr} {x : List Int} : T P 0 x ↔ Vec P.orders x := ⟨fun h => h.1, fun h => ⟨h, fun k hk => by omega⟩⟩

section
variable {P : Pr} (G : Grp P)
include G

/-- the group of a consistent presentation -/
theorem Grp.grp : GrpOn (Vec P.orders) (rMul P) (zeros P.orders.length) := by
  have h := G.lvl.grp
  have e : T P 0 = Vec P.orders := by funext x; exact propext T_zero
  rw [e] at h
  exact h
theorem Grp.tv_eq {E F : List Int} (hE : Vec P.orders E) (hF : Vec P.orders F) : tv P E F = rMul P E F := G.lvl.tv_eq G.v (by omega) (T_zero.2 hE) (T_zero.2 hF)
theorem Grp.nf {x : List Int} (hx : Vec P.orders x) : npr (rMul P) (unitV P.orders.length) x 0 (zeros P.orders.length) P.orders.length = x := G.lvl.nf x (T_zero.2 hx)
theorem Grp.iInv_mul {a : List Int} (ha : Vec P.orders a) : rMul P a (iInv P a) = zeros P.orders.length := (G.lvl.iInv_eq G.v (by omega) (T_zero.2 ha)).2
theorem Grp.rel : Holds P (Vec P.orders) (rMul P) (zeros P.orders.length) (unitV P.orders.length) 0 := by
  have h := G.lvl.rel
  have e : T P 0 = Vec P.orders := by funext x; exact propext T_zero
  rw [e] at h
  exact h
end

end Go.Proofs.YtoakmefajbbggaaGreat
namespace Go.Proofs.YtoakmefajbbggaaGreat

section
variable {P : Pr} {f i : Nat}

theorem rImage_zeros : rImage P f i (zeros P.orders.length) = zeros P.orders.length := by
  unfold rImage
  rw [rImgTo_acc]
  exact acc_zero _ _ _ _ _ (fun j _ _ => gt_replicate _ _)

theorem rAt_res (hP : Valid P) (hi : i + (f + 1) = P.orders.length) {x y : List Int} (hx : T P (i + 1) x) (hy : T P (i + 1) y) : rAt P (f + 1) i x y = rAt P f (i + 1) x y := by
  have ho := hP.ord7 i (by omega)
  have h := prV_mul hP hi (0, x) (0, y) ⟨by show 0 < _; omega, hx⟩ ⟨by show 0 < _; omega, hy⟩
  have e0 : ∀ x, T P (i + 1) x → prV i (0, x) = x := fun x hx => set_zero_of hx
  rw [e0 x hx, e0 y hy] at h
  rw [h]
  unfold exm
  simp only [Nat.add_zero, if_neg (by omega : ¬ (gt P.orders i).toNat ≤ 0)]
  exact e0 _ (rAt_T hP f (i + 1) x y (by omega) hx.1 hy.1)

/-- powers of a generator -/
theorem gen_pow (hP : Valid P) (hi : i + (f + 1) = P.orders.length) (L' : Lvl P f (i + 1)) (k : Nat) (hk : k < (gt P.orders i).toNat) :
    iter k (fun y => rAt P (f + 1) i y (unitV P.orders.length i)) (zeros P.orders.length) = prV i (k, zeros P.orders.length) := by
  have hz : T P (i + 1) (zeros P.orders.length) := T.zeros hP _
  induction k with
  | zero => exact (set_zero_of hz).symm
  | succ k ih =>
    show rAt P (f + 1) i (iter k _ _) (unitV P.orders.length i) = _
    have u1 : unitV P.orders.length i = prV i (1, zeros P.orders.length) := by unfold prV unitV zeros; rfl
    rw [ih (by omega), u1, prV_mul hP hi _ _ ⟨by show k < _; omega, hz⟩ ⟨by show 1 < _; omega, hz⟩]
    unfold exm
    simp only [if_neg (by omega : ¬ (gt P.orders i).toNat ≤ k + 1)]
    show prV i (k + 1, rAt P f (i + 1) (rImage P f i (zeros P.orders.length)) (zeros P.orders.length)) = _
    rw [rImage_zeros, L'.grp.el _ hz]

/-- a vector is the generator's power times what stands behind it -/
theorem vec_head (hP : Valid P) (hi : i + (f + 1) = P.orders.length) (L' : Lvl P f (i + 1)) {x : List Int} (hx : T P i x) :
    rAt P (f + 1) i (prV i ((gt x i).toNat, zeros P.orders.length)) (x.set i 0) = x := by
  have hin : i < P.orders.length := by omega
  have hxi := hx.1.2 i hin
  have hd := hx.drop hP hin
  have hz : T P (i + 1) (zeros P.orders.length) := T.zeros hP _
  have h3 := prV_mul hP hi ((gt x i).toNat, zeros P.orders.length) (0, x.set i 0) ⟨by show (gt x i).toNat < _; omega, hz⟩ ⟨by show 0 < _; omega, hd⟩
  have e0 : prV i (0, x.set i 0) = x.set i 0 := set_zero_of hd
  rw [e0] at h3
  rw [h3]
  unfold exm
  simp only [Nat.add_zero, if_neg (by omega : ¬ (gt P.orders i).toNat ≤ (gt x i).toNat)]
  show prV i ((gt x i).toNat, rAt P f (i + 1) (zeros P.orders.length) (x.set i 0)) = x
  rw [L'.grp.el _ hd]
  unfold prV
  simp only [List.set_set]
  refine ext_gt (by simp) (fun k hk => ?_)
  rw [List.length_set] at hk
  rw [gt_set_if _ _ _ _ hk]
  split
  · rename_i h; subst h; omega
  · rfl

theorem rFrom_inv (G : Grp P) (f : Nat) : ∀ (i : Nat) (x : List Int), i + f = P.orders.length → T P i x → T P i (rFrom P f i x) ∧ rAt P f i x (rFrom P f i x) = zeros P.orders.length := by
  have hP := G.v
  induction f with
  | zero => intro i x _ _; exact ⟨T.zeros hP i, rfl⟩
  | succ f ih =>
    intro i x hi hx
    have hin : i < P.orders.length := by omega
    have L := G.tail hi
    have L' := G.tail (f := f) (i := i + 1) (by omega)
    have ho := hP.ord7 i hin
    have hxi := hx.1.2 i hin
    have hd := hx.drop hP hin
    obtain ⟨h1, h2⟩ := ih (i + 1) _ (by omega) hd
    have h1i : T P i (rFrom P f (i + 1) (x.set i 0)) := h1.down (by omega)
    simp only [rFrom]
    by_cases h0 : gt x i = 0
    · rw [if_pos h0]
      have ex : x.set i 0 = x := set_zero_of (hx.up h0)
      rw [ex] at h1i h2 ⊢
      rw [ex] at h1
      exact ⟨h1i, by rw [rAt_res hP hi (hx.up h0) h1]; exact h2⟩
    · rw [if_neg h0]
      have hw := pw_T (i := i) hP hin
      obtain ⟨h3, h4⟩ := ih (i + 1) _ (by omega) hw
      have hg : T P i (prV i ((gt P.orders i - gt x i).toNat, zeros P.orders.length)) := prV_T hP hin ⟨by show (gt P.orders i - gt x i).toNat < _; omega, T.zeros hP _⟩
      have hg2 : T P i (prV i ((gt x i).toNat, zeros P.orders.length)) := prV_T hP hin ⟨by show (gt x i).toNat < _; omega, T.zeros hP _⟩
      have eg : (zeros P.orders.length).set i (gt P.orders i - gt x i) = prV i ((gt P.orders i - gt x i).toNat, zeros P.orders.length) := by
        unfold prV
        simp only
        rw [show (((gt P.orders i - gt x i).toNat : Nat) : Int) = gt P.orders i - gt x i by omega]
      rw [eg]
      have M := L.grp.toMonOn
      have h3i : T P i (rFrom P f (i + 1) (gt P.powers i)) := h3.down (by omega)
      have hdi : T P i (x.set i 0) := hd.down (by omega)
      have hwi : T P i (gt P.powers i) := hw.down (by omega)
      refine ⟨M.cl _ _ (M.cl _ _ h1i hg) h3i, ?_⟩
      have hu := T.unit hP (Nat.le_refl i) hin
      have e1 : rAt P (f + 1) i (x.set i 0) (rFrom P f (i + 1) (x.set i 0)) = zeros P.orders.length := by rw [rAt_res hP hi hd h1]; exact h2
      have e2 : rAt P (f + 1) i (gt P.powers i) (rFrom P f (i + 1) (gt P.powers i)) = zeros P.orders.length := by rw [rAt_res hP hi hw h3]; exact h4
      have e3 : rAt P (f + 1) i (prV i ((gt x i).toNat, zeros P.orders.length)) (prV i ((gt P.orders i - gt x i).toNat, zeros P.orders.length)) = gt P.powers i := by
        rw [← gen_pow hP hi L' _ (by omega), ← gen_pow hP hi L' _ (by omega), ← M.pow_add hu, show (gt x i).toNat + (gt P.orders i - gt x i).toNat = (gt P.orders i).toNat by omega, L.rel.pw i (Nat.le_refl _) hin]
        rw [show P.orders.length - (i + 1) = f by omega]
        have := L'.nf _ hw
        have hr := (acc_rel (fun (y z : List Int) => T P (i + 1) z ∧ y = z) (fun y j => rAt P (f + 1) i y (unitV P.orders.length j)) (fun y j => rAt P f (i + 1) y (unitV P.orders.length j)) (gt P.powers i) (i + 1) (zeros P.orders.length) (zeros P.orders.length) f ⟨L'.grp.one, rfl⟩ (by
          rintro y z l ⟨g1, rfl⟩ a b _
          have hul : T P (i + 1) (unitV P.orders.length l) := T.unit hP (by omega) (by omega)
          exact ⟨L'.grp.cl _ _ g1 hul, rAt_res hP hi g1 hul⟩)).2
        exact hr.trans this
      have hx2 := vec_head hP hi L' hx
      have assoc : rAt P (f + 1) i x (rAt P (f + 1) i (rAt P (f + 1) i (rFrom P f (i + 1) (x.set i 0)) (prV i ((gt P.orders i - gt x i).toNat, zeros P.orders.length))) (rFrom P f (i + 1) (gt P.powers i))) = zeros P.orders.length := by
        have hc := M.cl _ _ h1i hg
        rw [← M.ass _ _ _ hx hc h3i, ← M.ass _ _ _ hx h1i hg]
        have e4 : rAt P (f + 1) i x (rFrom P f (i + 1) (x.set i 0)) = prV i ((gt x i).toNat, zeros P.orders.length) := by
          have e5 : rAt P (f + 1) i x (rFrom P f (i + 1) (x.set i 0)) = rAt P (f + 1) i (rAt P (f + 1) i (prV i ((gt x i).toNat, zeros P.orders.length)) (x.set i 0)) (rFrom P f (i + 1) (x.set i 0)) := by rw [hx2]
          rw [e5, M.ass _ _ _ hg2 hdi h1i, e1, M.er _ hg2]
        rw [e4, e3, e2]
      exact assoc
end

section
variable {P : Pr} (G : Grp P)
include G

theorem Grp.mul_inv {x : List Int} (hx : Vec P.orders x) : rMul P x (rInv P x) = zeros P.orders.length := (rFrom_inv G P.orders.length 0 x (by omega) (T_zero.2 hx)).2
theorem Grp.inv_mul {x : List Int} (hx : Vec P.orders x) : rMul P (rInv P x) x = zeros P.orders.length := G.grp.right_left hx (rInv_vec G.v x hx) (G.mul_inv hx)
theorem Grp.mulV {x y : List Int} (hx : Vec P.orders x) (hy : Vec P.orders y) : Vec P.orders (rMul P x y) := G.grp.cl _ _ hx hy
theorem Grp.invV {x : List Int} (hx : Vec P.orders x) : Vec P.orders (rInv P x) := rInv_vec G.v x hx
theorem Grp.ass {x y z : List Int} (hx : Vec P.orders x) (hy : Vec P.orders y) (hz : Vec P.orders z) : rMul P (rMul P x y) z = rMul P x (rMul P y z) := G.grp.ass x y z hx hy hz
theorem Grp.oneV : Vec P.orders (zeros P.orders.length) := zeros_vec G.v
theorem Grp.iInv_eq {x : List Int} (hx : Vec P.orders x) : iInv P x = rInv P x :=
  G.grp.cancel hx (iInv_vec G.v x hx) (G.invV hx) (by rw [G.iInv_mul hx, G.mul_inv hx])
end

end Go.Proofs.YtoakmefajbbggaaGreat
