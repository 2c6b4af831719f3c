/-
  (*impl.sequence).add.
  impl.generated.
  impl.sameRows, impl.areSubgroups.
  Plain: a sequence as a table by depths, as the reference lays it; coset representatives, sifting and the reduced sequence by such a table.
  The reference's power with any exponent: spec.l10Pow.
  The reference's tables by depths: spec.l02Lead, l12Depth, l12Table; how a table reads.
  The reference's reduced sequence: spec.l12Full.
  The reference's sifting: spec.l12Strip.
  Plain: generated subgroups of sets; intersections.
  The reference's closure: spec.l01Own2, l01Inv, l10Comm, l12Close.
  Drawing: spec.l07Own.
  Drawing: spec.l02Times, spec.l02Product.
  Drawing: spec.l07Vector.
  Drawing: spec.l06Parse.
  Drawing: spec.l01Split.
  Drawing: spec.l01Value.
-/
import Derived.Test.YtdcobapnlpeaaaaGreatK1
import Derived.Test.YtdcobapnlpeaaaaGreatK2
import Derived.Test.YtdcobapnlpeaaaaGreatK3
import Derived.Test.YtdcobapnlpeaaaaGreatK4
import Derived.Test.YtdcobapnlpeaaaaGreatK5
import Derived.Deep.RegionHeld3
import Derived.Deep.RegionLaw
import Derived.Deep.QuietTactic
namespace Go.Proofs.YtdcobapnlpeaaaaGreat
open Go.RowKit
theorem inverseMod_ret (a m : Int) (w : World) (hm : m = 2 ∨ m = 3 ∨ m = 5 ∨ m = 7) (h1 : 1 ≤ a) (h2 : a < m) :
  Calls Tryz.prog 206 #[.int .i64 a, .int .i64 m] w (Ret w fun _ v => ∃ k : Int, v = .tuple #[.int .i64 k, .bool true] ∧ 0 ≤ k ∧ k < m ∧ (k * a) % m = 1) :=
 (inverseMod_ok a m w hm h1 h2).mono (by rintro e w' ⟨⟨k, rfl, h⟩, rfl⟩; exact ⟨_, rfl, Ext.refl _, k, rfl, h⟩)
theorem q_kept {bad : Nat → Prop} {wI w2 : World} {v1 v2 : Value} (hg2 : wI.grownBy w2 v1.ownBlock) (hb2 : v2.ownBlock = v1.ownBlock ∨ ∀ k, v2.ownBlock = some k → wI.heap.size ≤ k) :
  ∀ k, (¬ bad k ∧ v1.ownBlock ≠ some k) → k < wI.heap.size → (¬ bad k ∧ v2.ownBlock ≠ some k) ∧ k < w2.heap.size ∧ w2.heap[k]? = wI.heap[k]? := fun k hk hlt =>
 ⟨⟨hk.1, fun e => by
  rcases hb2 with h | h
  ·exact hk.2 (by rw [← h]; exact e)
  ·have := h k e; omega⟩, Nat.lt_of_lt_of_le hlt hg2.size, hg2.block k hlt (fun e => hk.2 e.symm)⟩
theorem seq_kept {B sb gb n W : Nat} {pv : Value} {wI w2 : World} {v1 v2 : Value} {b : List (List Int)} (h : SeqAt B (fun k => v1.ownBlock = some k) wI sb gb pv n b) (hv : ∀ k, v1.ownBlock = some k → W ≤ k) (hgb : gb < W) (hsb : sb < W)
  (hg2 : wI.grownBy w2 v1.ownBlock) (hb2 : v2.ownBlock = v1.ownBlock ∨ ∀ k, v2.ownBlock = some k → wI.heap.size ≤ k) : SeqAt B (fun k => v2.ownBlock = some k) w2 sb gb pv n b := by
 refine h.kept hg2.size (fun k hk hc => hg2.block k hk (fun e => ?_)) (fun k hk e => ?_)
 ·rcases hc with rfl | rfl | hc
  ·have := hv _ e.symm; omega
  ·have := hv _ e.symm; omega
  ·exact hc e.symm
 ·rcases hb2 with h | h
  ·rw [← h]; exact e
  ·have := h k e; omega
def AddPost (P : Pr) (H : List Int → Prop) (L b b' : List (List Int)) (g : Bool) : Prop :=
 Ind P (genP P (fun x => H x ∨ x ∈ L)) (gt b') ∧ (g = false → b' = b) ∧ (g = true → miss b' P.orders.length < miss b P.orders.length)
def AddSt (P : Pr) (H : List Int → Prop) (L b b' q : List (List Int)) (g : Bool) : Prop :=
 (∃ R, AddInv P (fun x => H x ∨ x ∈ L) (gt b') q R) ∧ (g = false → b' = b) ∧ (g = true → miss b' P.orders.length < miss b P.orders.length) ∧ miss b' P.orders.length ≤ miss b P.orders.length
set_option maxRecDepth 100000 in
set_option maxHeartbeats 2000000 in
theorem add_ok (P : Pr) (G : Grp P) (w : World) (sb gb B : Nat) (p lv : Value) (L b : List (List Int)) (H : List Int → Prop) (hp : PresP (fun k => k ≠ gb) w p P) (hs : SeqAt B (fun _ => False) w sb gb p P.orders.length b) (hI : Ind P H (gt b))
  (hL : ∀ x ∈ L, Vec P.orders x) (hl : Rows2 (fun k => ¬ (k = gb ∨ k = sb)) w lv L) (hlen : L.length ≤ 10000) :
  Calls Tryz.prog 100 #[.pointer (some ⟨sb, 0, none⟩), lv] w fun e w' => ∃ b' g, e = .returned (.bool g) ∧ w.grownBy w' (some gb) ∧ SeqAt B (fun _ => False) w' sb gb p P.orders.length b' ∧ AddPost P H L b b' g := by
 have hP := G.v
 have hn6 := hP.n6
 obtain ⟨pb, po, rfl⟩ := hp.shape
 obtain ⟨ao, capo, hco0, hoi⟩ := hp.ordAt
 obtain ⟨_, _, _, hpb, hpbl, _⟩ := hp.at
 have hgbs := hs.tab.lt
 have hpw : ∀ w', w.grownBy w' (some gb) → PresP (fun k => k ≠ gb) w' (.pointer (some ⟨pb, po, none⟩)) P := fun w' h => hp.mono (frame_of h (fun k hk _ => ⟨hk, fun e => hk (Option.some.inj e).symm⟩))
 have hc0w : ∀ w', w.grownBy w' (some gb) → w'.cell? ⟨sb, 0, none⟩ = some (.pointer (some ⟨pb, po, none⟩)) := fun w' h => (World.cell?_of_block (h.block sb hs.slt (by simpa using hs.ne))).trans hs.c0
 have hc1w : ∀ w', w.grownBy w' (some gb) → w'.cell? ⟨sb, 1, none⟩ = some (.slice (some ⟨gb, 0, none⟩) P.orders.length P.orders.length) := fun w' h => (World.cell?_of_block (h.block sb hs.slt (by simpa using hs.ne))).trans hs.c1
 have hc2w : ∀ w', w.grownBy w' (some gb) → w'.cell? ⟨pb, po, none⟩ = some (.slice ao P.orders.length capo) := fun w' h => (World.cell?_of_block (h.block pb hpbl (by simpa using hpb))).trans hco0
 have HW := Lib.hid (And.intro hpw (And.intro hc0w (And.intro hc1w hc2w))); clear hpw hc0w hc1w hc2w hco0
 have HI := Lib.hid (And.intro hI hL); clear hI hL
 go_enter Tryz.func100, Tryz.ntmps100
 go_wp2_with fail
 refine Calls.mono (cloneRows_ok w lv L _ (fun k => k = gb ∨ k = sb) hl (fun k hk _ => hk) (by omega)) ?_
 rintro e0 w0 ⟨qv0, rfl, hg0, hq0⟩
 go_wp2
 go_loopg [5, 6] (miss b P.orders.length * (P.orders.length + 3) + L.length) (fun gk gv qv wr => ∃ (b' q : List (List Int)) (g : Bool), gk ≤ 20000 ∧ gk = miss b' P.orders.length * (P.orders.length + 3) + q.length ∧ gv = .bool g ∧ w.grownBy wr (some gb) ∧
  SeqAt B (fun k => qv.ownBlock = some k) wr sb gb (.pointer (some ⟨pb, po, none⟩)) P.orders.length b' ∧ ShQ (fun k => k = gb ∨ k = sb) w.heap.size wr qv q ∧ Hid (AddSt P H L b b' q g))
 case atStart =>
  have hk0 : miss b P.orders.length * (P.orders.length + 3) + L.length ≤ 20000 := by
   have h3 : miss b P.orders.length * (P.orders.length + 3) ≤ 6 * 9 := Nat.mul_le_mul (by have := miss_le b P.orders.length; omega) (by omega)
   omega
  exact ⟨b, L, false, hk0, rfl, rfl, grown_of_ext _ hg0, hs.kept hg0.size (fun k hk _ => hg0.block k hk (by simp)) (fun k hk h => by have := (hq0.lt k h).1; omega), hq0, Lib.hid ⟨⟨_, G.addInv_start HI.out.1 HI.out.2⟩, fun _ => rfl, by simp, Nat.le_refl _⟩⟩
 case round =>
  obtain ⟨b', q, g, hgkb, hgk, rfl, hg, hsq, hq, hSt⟩ := hrel
  cases q with
  | nil =>
   obtain ⟨aq, capq, rfl, _⟩ := hq.shape
   go_wp2
   go_ret
   exact ⟨b', g, rfl, hg, hsq.kept (Nat.le_refl _) (fun _ _ _ => rfl) (fun _ _ h => h.elim), by obtain ⟨⟨R, hA⟩, h2, h3, _⟩ := hSt.out; exact ⟨G.addInv_end hA, h2, h3⟩⟩
  | cons y q =>
   obtain ⟨aq, capq, rfl, _⟩ := hq.shape
   obtain ⟨gq, off, u, rfl, hgB, hglt, hcell, hyI⟩ := ShQ.head hq 0 (by simp)
   obtain ⟨m, hm⟩ : ∃ m, m = (y :: q).length := ⟨_, rfl⟩
   rw [← hm] at hq hgk ⊢
   have hm1 : m = q.length + 1 := by rw [hm]; rfl
   have hyI : Ints (fun k => ¬ (k = gb ∨ k = sb) ∧ k ≠ gq) wr u y := hyI
   obtain ⟨ay, capy, rfl, _, _⟩ := hyI.shape
   have hmb : m ≤ 20000 := by omega
   have hc0 := HW.out.2.1 wr hg
   have hc1 := HW.out.2.2.1 wr hg
   rw [Nat.add_zero] at hcell
   have hmi : (0 : Int) < m := by omega
   have HM := Lib.hid (And.intro hgk (And.intro hm hm1)); clear hgk hm hm1
   have hyV : Vec P.orders y := by obtain ⟨⟨R, hA⟩, _⟩ := hSt.out; exact hA.vec _ (hA.que _ List.mem_cons_self)
   have htab : ∀ d, d < P.orders.length → gt b' d ≠ [] → T P d (gt b' d) ∧ gt (gt b' d) d = 1 := by obtain ⟨⟨R, hA⟩, _⟩ := hSt.out; exact fun d hd h => (hA.tab d hd h).2
   have HT := Lib.hid (And.intro hyV htab); clear hyV htab
   go_wp2_with fail
   refine Calls.mono (sift_ok P G wr sb gb B _ _ y b' _ _ _ (HW.out.1 wr hg) hsq HT.out.2 hyI HT.out.1) ?_
   rintro e1 w1 ⟨xv, rfl, hg1, Y, hYI, hYV, hYd, hΦ⟩
   have hgw1 := grown_trans hg (grown_of_ext (some gb) hg1)
   have hSt1 : Hid (AddSt P H L b b' (Y :: q) g) := by
    obtain ⟨⟨R, hA⟩, h2⟩ := hSt.out
    exact Lib.hid ⟨G.sift_add hA hΦ, h2⟩
   clear hΦ hSt hc0 hc1 hcell
   have hq1t : ShQ (fun k => k = gb ∨ k = sb) w.heap.size w1 (subSl (.slice (some ⟨gq, off, none⟩) m capq) 1 m) q := (hq.ext hg1).tail
   have hrt := run_tail_rows w1 (some ⟨gq, off, none⟩) m capq 1 (by omega) (by omega)
   have hown1 : ∀ k, (subSl (.slice (some ⟨gq, off, none⟩) m capq) 1 m).ownBlock = some k → k = gq := fun k hk => by
    have h3 := QOwn.own_tail k hk
    simp [Value.ownBlock] at h3; exact h3.symm
   rw [show (1 : Int).toNat = 1 from rfl] at hrt
   generalize subSl (.slice (some ⟨gq, off, none⟩) m capq) 1 m = qv1 at hq1t hrt hown1
   have hsq1 : SeqAt B (fun k => qv1.ownBlock = some k) w1 sb gb (.pointer (some ⟨pb, po, none⟩)) P.orders.length b' := (hsq.ext hg1).kept (Nat.le_refl _) (fun _ _ _ => rfl) (fun k _ h => by rw [hown1 k h]; rfl)
   have hYI2 : Ints (fun k => ¬ (k = gb ∨ k = sb) ∧ qv1.ownBlock ≠ some k) w1 xv Y := Ints.sub hYI (fun k hk _ => by
    have h1 := hs.slt
    have h2 := hg.size
    rcases hk with hk | hk
    ·exact ⟨hk.1, fun e => hk.2 (hown1 k e)⟩
    ·exact ⟨by omega, fun e => by have := hown1 k e; omega⟩)
   obtain ⟨a1, cap1, rfl, _⟩ := hq1t.shape
   obtain ⟨ax, capx, hv, _, _⟩ := hYI2.shape
   rw [hYV.1] at hv
   subst hv
   clear hsq hq hyI hYI hown1
   have HY := Lib.hid (And.intro hYV hYd); clear hYV hYd
   by_cases hdn : dep Y = P.orders.length
   ·have hSt2 : Hid (AddSt P H L b b' q g) := by
     obtain ⟨⟨R, hA⟩, h2⟩ := hSt1.out
     exact Lib.hid ⟨⟨R, addInv_drop hA ((dep_top hP HY.out.1).1 hdn)⟩, h2⟩
    clear hSt1
    go_wp2_with (go_at_call 205; refine Calls.mono (depthOf_ok _ Y w1 _ hYI2) ?_; rintro eD wD ⟨rfl, rfl⟩)
    go_roundg (gk - 1)
    case measure => have := HM.out; omega
    case rel => exact ⟨b', q, g, by omega, by have := HM.out; omega, rfl, hgw1, hsq1, hq1t, hSt2⟩
   ·have hd : dep Y < P.orders.length := by have := dep_le Y; have := HY.out.1.1; omega
    have hTY := dep_T HY.out.1
    have hy0 := dep_ne (x := Y) (by rw [HY.out.1.1]; exact hd)
    have hb0 := HY.out.2 hd
    obtain ⟨d, hde⟩ : ∃ d, d = dep Y := ⟨_, rfl⟩
    rw [← hde] at hd hTY hy0 hb0 hdn
    have ho := hP.ord7 d hd
    have hpr := hP.ord d hd
    have hyd := hTY.1.2 d hd
    have hyd1 : 1 ≤ gt Y d := by omega
    obtain ⟨bx, ox, rfl, _, _, hcx⟩ := Ints.at hYI2 d (by rw [HY.out.1.1]; exact hd)
    obtain ⟨b2, off2, rfl, hb2, hlt2, hcord⟩ := Ints.at hoi d hd
    have c1 : ∀ w', w.grownBy w' (some gb) → w'.cell? ⟨b2, off2 + d, none⟩ = some (.int .i64 (gt P.orders d)) := fun w' h => (World.cell?_of_block (h.block b2 hlt2 (by simpa using hb2))).trans hcord
    have HD := Lib.hid (And.intro hde (And.intro hTY (And.intro hb0 (And.intro c1 (And.intro hpr hdn))))); clear hTY hy0 hb0 c1 hpr hcord hdn
    have e1 : ∀ w', Ext w1 w' → w'.cell? ⟨sb, 0, none⟩ = some (.pointer (some ⟨pb, po, none⟩)) := fun w' h => HW.out.2.1 w' (grown_trans hgw1 (grown_of_ext _ h))
    have e2 : ∀ w', Ext w1 w' → w'.cell? ⟨pb, po, none⟩ = some (.slice (some ⟨b2, off2, none⟩) P.orders.length capo) := fun w' h => HW.out.2.2.2 w' (grown_trans hgw1 (grown_of_ext _ h))
    have e3 : ∀ w', Ext w1 w' → w'.cell? ⟨b2, off2 + d, none⟩ = some (.int .i64 (gt P.orders d)) := fun w' h => HD.out.2.2.2.1 w' (grown_trans hgw1 (grown_of_ext _ h))
    have e4 : ∀ w', Ext w1 w' → w'.cell? ⟨bx, ox + d, none⟩ = some (.int .i64 (gt Y d)) := fun w' h => h.cell hcx (by simp)
    have q1 : (d : Int) < P.orders.length := by omega
    have q2 : (0 : Int) ≤ d := by omega
    have q3 : ((d : Int) == (P.orders.length : Int)) = false := by simp; omega
    have hdc : Calls Tryz.prog 205 #[.slice (some ⟨bx, ox, none⟩) P.orders.length capx] w1 (fun e w' => e = .returned (.int .i64 d) ∧ w1 = w') := by rw [hde]; exact depthOf_ok _ Y w1 _ hYI2
    clear hde
    go_wp2_with (go_at_call 205; refine Calls.mono hdc ?_; rintro eD wD ⟨rfl, rfl⟩)
    go_region_held3 (fun w' => Ext w1 w') (first | exact grown_drew _ _ | assumption)
     (first
      | (go_at_call 206; refine Calls.mono (Calls.rel (w0 := w1) (by assumption) (inverseMod_ret (gt Y d) (gt P.orders d) _ HD.out.2.2.2.2.1 hyd1 hyd.2)) ?_; rintro eI wI ⟨vI, rfl, hgI, hsI, kk, rfl, hk0, hk1, hkm⟩; have HK := Lib.hid hkm; clear hkm))
    clear e1 e2 e3 e4 hdc hrt
    have hgwI := grown_trans hgw1 (grown_of_ext (some gb) hgI)
    have hqI := hq1t.ext hgI
    have hsqI := hsq1.ext hgI
    have hYI3 := hYI2.ext hgI
    have hqlt : ∀ k, (Value.slice a1 q.length cap1).ownBlock = some k → w.heap.size ≤ k := fun k hk => (hqI.lt k hk).1
    have hql : q.length ≤ 20000 := by have := HM.out.2.2; omega
    clear hq1t hsq1 hYI2 hcx
    go_wp2_with (first | (at_builtin; refine wp_shq_app rfl _ _ rfl (fun k => k = gb ∨ k = sb) w.heap.size _ _ q Y rfl wI hqI rfl hYI3 rfl (by omega) hgwI.size ?_; intro v2 w2 hq2 hg2 hb2; have hgw2 := grown_own hgwI hg2 (fun j hj hlt => by have := hqlt j hj; omega); have hc02 := HW.out.2.1 w2 hgw2) | fail)
    have hsq2 := seq_kept hsqI hqlt hgbs.2 hs.slt hg2 hb2
    have hYI4 := Ints.mono hYI3 (q_kept hg2 hb2)
    clear hqI hsqI hYI3
    refine Calls.mono (power_ok P hP w2 _ _ Y kk _ _ (HW.out.1 w2 hgw2) hYI4 HY.out.1 (by omega)) ?_
    rintro eZ wZ ⟨zv, rfl, hgZ, hOZ⟩
    have eZ : iPow P Y kk = pw P Y kk.toNat := G.iPow_eq HY.out.1 kk
    rw [eZ] at hOZ
    clear eZ
    obtain ⟨Z, hZ⟩ : ∃ Z, Z = pw P Y kk.toNat := ⟨_, rfl⟩
    rw [← hZ] at hOZ
    have hZV : Vec P.orders Z := by rw [hZ]; exact G.pw_vec HY.out.1 _
    have HZ := Lib.hid hZ; clear hZ
    have hgwZ := grown_trans hgw2 (grown_of_ext (some gb) hgZ)
    have hqZ := hq2.ext hgZ
    have hsqZ := hsq2.ext hgZ
    have hZI : Ints (fun k => ¬ (k = gb ∨ k = sb) ∧ v2.ownBlock ≠ some k) wZ zv Z := ints_of_own hOZ (by rw [hZV.1]; omega) (fun k hk => by
     have h1 := (hOZ.lt k hk).1
     have h2 := hs.slt
     have h3 := hgw2.size
     exact ⟨by omega, fun e => by have := (hq2.lt k e).2; omega⟩)
    have hqlt2 : ∀ k, v2.ownBlock = some k → w.heap.size ≤ k := fun k hk => (hqZ.lt k hk).1
    clear hq2 hsq2 hYI4 hg2 hb2
    obtain ⟨az, capz, hv, _, _⟩ := hZI.shape
    rw [hZV.1] at hv
    subst hv
    have HZV := Lib.hid hZV; clear hZV
    have hTV : Vec P.orders (pw P Z (gt P.orders d).toNat) := G.pw_vec HZV.out _
    have hTl : (pw P Z (gt P.orders d).toNat).length ≤ 6 := by rw [hTV.1]; omega
    have hTe : iPow P Z (gt P.orders d) = pw P Z (gt P.orders d).toNat := G.iPow_eq HZV.out _
    have HTV := Lib.hid (And.intro hTl hTe); clear hTl hTe hTV
    have e1 : ∀ w', w.grownBy w' (some gb) → w'.cell? ⟨sb, 0, none⟩ = some (.pointer (some ⟨pb, po, none⟩)) := HW.out.2.1
    have e2 : ∀ w', w.grownBy w' (some gb) → w'.cell? ⟨pb, po, none⟩ = some (.slice (some ⟨b2, off2, none⟩) P.orders.length capo) := HW.out.2.2.2
    have e3 : ∀ w', w.grownBy w' (some gb) → w'.cell? ⟨b2, off2 + d, none⟩ = some (.int .i64 (gt P.orders d)) := HD.out.2.2.2.1
    go_wp2
    go_region_held3 (fun w' => w.grownBy w' (some gb)) (first | exact grown_trans hgwZ (grown_drew _ _) | assumption | exact grown_trans hgwT (World.grownBy_alloc _ _ _))
     (first
      | (go_at_call 101; refine Calls.mono (Calls.rel2 (w0 := wZ) (grown_drew _ _) (power_ok P hP _ _ _ Z (gt P.orders d) _ _ ((HW.out.1 wZ hgwZ).ext (grown_drew _ _)) (hZI.ext (grown_drew _ _)) HZV.out (by omega))) ?_; rintro eT wT ⟨vT, rfl, hgT, hgT2, hsT, hOT⟩; have hgwT := grown_trans hgwZ (grown_of_ext (some gb) hgT); rw [HTV.out.2] at hOT; have hTI : Ints (fun k => ¬ (k = gb ∨ k = sb) ∧ v2.ownBlock ≠ some k) wT vT (pw P Z (gt P.orders d).toNat) := ints_of_own hOT (by have := HTV.out.1; omega) (fun k hk => by
        have h1 := (hOT.lt k hk).1
        have h2 := hs.slt
        have h3 := hgwZ.size
        exact ⟨by omega, fun e => by have := (hqZ.lt k e).2; omega⟩); obtain ⟨aT, capT, hvT, _, _⟩ := hTI.shape; subst hvT)
      | (refine step_shq_app rfl _ _ rfl (fun k => k = gb ∨ k = sb) w.heap.size v2 _ (q ++ [Y]) _ rfl wT (hqZ.ext hgT) rfl hTI rfl (by simp; omega) hgwT.size ?_; intro v3 w3 hq3 hg3 hb3; have hgw3 := grown_own hgwT hg3 (fun j hj hlt => by have := hqlt2 j hj; omega)))
    clear e1 e2 e3
    have hsq3 := seq_kept (hsqZ.ext hgT) hqlt2 hgbs.2 hs.slt hg3 hb3
    have hZI3 := Ints.mono (hZI.ext hgT) (q_kept hg3 hb3)
    have hc13 := HW.out.2.2.1 w3 hgw3
    have hc03 := HW.out.2.1 w3 hgw3
    obtain ⟨T1, hT1⟩ : ∃ T1, T1 = pw P Z (gt P.orders d).toNat := ⟨_, rfl⟩
    rw [← hT1] at hq3
    have HT1 := Lib.hid hT1; clear hT1
    clear hqZ hsqZ hZI hTI hOT hOZ hg3 hb3
    go_wp2
    clear hc13 hc03
    go_loopw [6, 84] (fun qv iv wr2 => ∃ (k : Nat) (v4 : Value), v4 = qv ∧ iv = .int .i64 k ∧ k ≤ P.orders.length ∧ w.grownBy wr2 (some gb) ∧ SeqAt B (fun j => v4.ownBlock = some j) wr2 sb gb (.pointer (some ⟨pb, po, none⟩)) P.orders.length b' ∧
     ShQ (fun k => k = gb ∨ k = sb) w.heap.size wr2 v4 (q ++ [Y] ++ [T1] ++ coms P b' Z k) ∧ Ints (fun j => ¬ (j = gb ∨ j = sb) ∧ v4.ownBlock ≠ some j) wr2 (.slice az P.orders.length capz) Z) (fun _ iv _ => P.orders.length - (intOf iv).toNat)
    case atStart => exact ⟨0, _, rfl, rfl, by omega, hgw3, hsq3, by simpa [coms] using hq3, hZI3⟩
    case round =>
     obtain ⟨k, v4, rfl, rfl, hk, hg4, hsq4, hq4, hZI4⟩ := hrel
     clear hsq3 hq3 hZI3
     have hqlt4 : ∀ j, v4.ownBlock = some j → w.heap.size ≤ j := fun j hj => (hq4.lt j hj).1
     by_cases hk2 : k < P.orders.length
     ·obtain ⟨_, hcc⟩ := hsq4.tab.at k hk2
      rcases hcc with ⟨h0, hcell⟩ | ⟨hne, ab, capb, hcell, hbI⟩
      ·have hcs : coms P b' Z (k + 1) = coms P b' Z k := by simp only [coms]; rw [if_pos h0, List.append_nil]
       have HC := Lib.hid hcs; clear hcs h0
       go_wp2
       go_roundw
       case rel => exact ⟨k + 1, v4, rfl, by go_num, by omega, hg4, hsq4, by rw [HC.out]; exact hq4, hZI4⟩
       case measure => simp [intOf]; omega
      ·have hcs : coms P b' Z (k + 1) = coms P b' Z k ++ [comR P (gt b' k) Z] := by simp only [coms]; rw [if_neg hne]
       have hbV := (HT.out.2 k hk2 hne).1.1
       have hcV : Vec P.orders (comR P (gt b' k) Z) := G.mulV (G.invV (G.mulV HZV.out hbV)) (G.mulV hbV HZV.out)
       have HC := Lib.hid (And.intro hcs (And.intro hbV hcV)); clear hcs hbV hcV hne
       have hp0 := HW.out.2.1 wr hg4
       go_wp2_with fail
       refine Calls.mono (commutator_ok P G wr _ _ _ (gt b' k) Z _ _ _ (HW.out.1 wr hg4) hbI hZI4 HC.out.2.1 HZV.out) ?_
       rintro eC wC ⟨vC, rfl, hgC, hOC⟩
       have hOC : Own wr.heap.size wC vC (comR P (gt b' k) Z) := hOC
       have hCI : Ints (fun j => ¬ (j = gb ∨ j = sb) ∧ v4.ownBlock ≠ some j) wC vC (comR P (gt b' k) Z) := ints_of_own hOC (by rw [HC.out.2.2.1]; omega) (fun j hj => by
        have h1 := (hOC.lt j hj).1
        have h2 := hs.slt
        have h3 := hg4.size
        exact ⟨by omega, fun e => by have := (hq4.lt j e).2; omega⟩)
       have hgwC := grown_trans hg4 (grown_of_ext (some gb) hgC)
       obtain ⟨aC, capC, hvC, _, _⟩ := hCI.shape
       subst hvC
       have hcl := coms_len P b' Z k
       clear hOC hcell hp0
       go_wp2_with (first | (at_builtin; refine wp_shq_app rfl _ _ rfl (fun k => k = gb ∨ k = sb) w.heap.size v4 _ (q ++ [Y] ++ [T1] ++ coms P b' Z k) (comR P (gt b' k) Z) rfl wC (hq4.ext hgC) rfl hCI rfl (by simp; omega) hgwC.size ?_; intro v5 w5 hq5 hg5 hb5; have hgw5 := grown_own hgwC hg5 (fun j hj hlt => by have := hqlt4 j hj; omega)) | fail)
       go_roundw
       case rel => exact ⟨k + 1, v5, rfl, by go_num, by omega, hgw5, seq_kept (hsq4.ext hgC) hqlt4 hgbs.2 hs.slt hg5 hb5, by rw [HC.out.1, ← List.append_assoc]; exact hq5, Ints.mono (hZI4.ext hgC) (q_kept hg5 hb5)⟩
       case measure => simp [intOf]; omega
     ·have hke : k = P.orders.length := by omega
      subst hke
      have hZne : Z ≠ [] := fun h => by have := HZV.out.1; rw [h] at this; simp at this; omega
      obtain ⟨hs5, hg5⟩ := hsq4.put d (u := .slice az P.orders.length capz) (y := Z) (Ints.sub hZI4 (fun j hj _ => ⟨fun e => hj.1 (.inl e), fun h => h.elim (fun e => hj.1 (.inr e)) hj.2⟩)) hZne
      obtain ⟨hfr, hcc⟩ := hsq4.tab.at d hd
      have hcd : wr.cell? ⟨gb, d, none⟩ = some (.slice none 0 0) := hcc.elim (fun h => h.2) (fun h => absurd HD.out.2.2.1 h.1)
      have hq5 : ShQ (fun k => k = gb ∨ k = sb) w.heap.size (wr.setCell ⟨gb, d, none⟩ (.slice az P.orders.length capz)) v4 (q ++ [Y] ++ [T1] ++ coms P b' Z P.orders.length) := hq4.kept hg5.size (fun j hj hc => hg5.block j hj (fun e => by
       have e := Option.some.inj e
       subst e
       rcases hc with hc | hc
       ·have := hqlt4 _ hc; have := hgbs.2; omega
       ·exact hc (.inl rfl))) (fun _ _ h => h)
      have hc1 := HW.out.2.2.1 wr hg4
      have hms := miss_set (b := b') (z := Z) HD.out.2.2.1 hZne P.orders.length (by rw [hsq4.tab.len]; exact Nat.le_refl _)
      rw [if_pos hd] at hms
      have hll : (q ++ [Y] ++ [T1] ++ coms P b' Z P.orders.length).length ≤ q.length + 2 + P.orders.length := by have := coms_len P b' Z P.orders.length; simp; omega
      have hmul : miss b' P.orders.length * (P.orders.length + 3) = miss (b'.set d Z) P.orders.length * (P.orders.length + 3) + (P.orders.length + 3) := by rw [← hms, Nat.add_mul, Nat.one_mul]
      have hSt5 : Hid (AddSt P H L b (b'.set d Z) (q ++ [Y] ++ [T1] ++ coms P b' Z P.orders.length) true) := by
       obtain ⟨⟨R, hA⟩, h2, h3, h4⟩ := hSt1.out
       have hst := G.add_step hA hd HD.out.2.1 HD.out.2.2.1 hsq4.tab.len kk hk0 HK.out
       rw [← HZ.out, ← HT1.out] at hst
       exact Lib.hid ⟨hst, by simp, fun _ => by omega, by omega⟩
      have hlt5 : miss (b'.set d Z) P.orders.length * (P.orders.length + 3) + (q ++ [Y] ++ [T1] ++ coms P b' Z P.orders.length).length < gk := by have := HM.out; omega
      have HX := Lib.hid (And.intro hll (And.intro hlt5 (And.intro hmul hms))); clear hll hmul hms hlt5 hSt1 hcc hq4 hsq4 hZI4
      have q1' : (d : Int) < P.orders.length := by omega
      go_wp2
      go_roundg (miss (b'.set d Z) P.orders.length * (P.orders.length + 3) + (q ++ [Y] ++ [T1] ++ coms P b' Z P.orders.length).length)
      case measure => exact HX.out.2.1
      case rel => exact ⟨b'.set d Z, _, true, by have := HX.out.2.1; omega, rfl, rfl, grown_trans hg4 hg5, hs5, hq5, hSt5⟩
end Go.Proofs.YtdcobapnlpeaaaaGreat
namespace Go.Proofs.YtdcobapnlpeaaaaGreat
open Go.RowKit
section
variable {P : Pr} (G : Grp P)
include G
theorem Grp.inv_one : rInv P (zeros P.orders.length) = zeros P.orders.length := by
 have h := G.inv_mul G.oneV
 rwa [G.grp.er _ (G.invV G.oneV)] at h
theorem Grp.sub_one : Sub P (fun x => x = zeros P.orders.length) :=
 ⟨fun x h => by rw [h]; exact G.oneV, rfl, fun x y hx hy => by rw [hx, hy]; exact G.grp.el _ G.oneV, fun x h => by rw [h]; exact G.inv_one⟩
theorem Grp.ind_one : Ind P (fun x => x = zeros P.orders.length) (gt (List.replicate P.orders.length ([] : List Int))) :=
 ⟨G.sub_one, fun d hd h => absurd (by simp [gt, hd]) h, fun x hx d hd _ h0 => absurd (by rw [hx]; exact gt_replicate _ _) h0⟩
omit G in
theorem genP_one (Q : List Int → Prop) : genP P (fun x => x = zeros P.orders.length ∨ Q x) = genP P Q :=
 funext fun x => propext ⟨fun h K S hQ => h K S (fun y hy => hy.elim (fun e => by rw [e]; exact S.one) (hQ y)), fun h K S hQ => h K S (fun y hy => hQ y (.inr hy))⟩
end
set_option maxHeartbeats 400000 in
theorem generated_ok (P : Pr) (G : Grp P) (w : World) (p lv : Value) (L : List (List Int)) (Sp Sr : Nat → Prop) (hp : PresP Sp w p P) (hl : Rows2 Sr w lv L) (hL : ∀ x ∈ L, Vec P.orders x) (hlen : L.length ≤ 10000) :
  Calls Tryz.prog 159 #[p, lv] w (Ret w fun w' v => RowsO w.heap.size w' v (cseq P (genP P (fun x => x ∈ L)))) := by
 have hP := G.v
 have hn6 := hP.n6
 obtain ⟨pb, po, rfl⟩ := hp.shape
 obtain ⟨al, capl, rfl, _, _⟩ := Sl.shape hl
 have HL := Lib.hid hL; clear hL
 go_enter Tryz.func159, Tryz.ntmps159
 go_wp2_with fail
 refine Calls.mono (newSequence_ok P w _ Sp (fun _ => False) hp hn6) ?_
 rintro e1 w1 ⟨v1, rfl, hg1, sb, gb, rfl, hs⟩
 have hgb := hs.tab.lt
 have hsb := hs.sB
 go_wp2_with fail
 refine Calls.mono (add_ok P G w1 sb gb w.heap.size _ _ L _ (fun x => x = zeros P.orders.length) (hp.mono (fun k _ hlt => ⟨by omega, Nat.lt_of_lt_of_le hlt hg1.size, hg1.block k hlt (by simp)⟩)) hs G.ind_one HL.out (Rows2.mono hl (fun k _ hlt => ⟨by omega, Nat.lt_of_lt_of_le hlt hg1.size, hg1.block k hlt (by simp)⟩)) hlen) ?_
 rintro e2 w2 ⟨b2, g, rfl, hg2, hs2, hA, _, _⟩
 rw [genP_one] at hA
 have hgw2 : Ext w w2 := grown_own hg1 hg2 (fun j hj hlt => by cases hj; omega)
 have HA := Lib.hid hA; clear hA
 go_wp2_with fail
 refine Calls.mono (canonical_ok P G w2 sb gb w.heap.size _ b2 _ _ _ (hp.ext hgw2) hs2 HA.out) ?_
 rintro e3 w3 ⟨v3, rfl, hg3, hO⟩
 go_wp2
 go_ret
 exact ⟨_, rfl, grown_trans hgw2 hg3, hO.weak hgw2.size⟩
end Go.Proofs.YtdcobapnlpeaaaaGreat
namespace Go.Proofs.YtdcobapnlpeaaaaGreat
open Go.RowKit
set_option maxHeartbeats 1000000 in
theorem eqRows_ok (v1 v2 : Value) (A B : List (List Int)) (w : World) (S1 S2 : Nat → Prop) (h1 : Rows2 S1 w v1 A) (h2 : Rows2 S2 w v2 B) :
  Calls Tryz.prog 287 #[v1, v2, .func (.func 151) #[] #[]] w (Ret w fun _ v => v = .bool (eqB A B)) := by
 obtain ⟨a1, cap1, rfl, _, _⟩ := Sl.shape h1
 obtain ⟨a2, cap2, rfl, _, _⟩ := Sl.shape h2
 by_cases hl : A.length = B.length
 ·have HL := Lib.hid hl
  have hb0 : ((A.length : Int) != (B.length : Int)) = false := by simp [hl]
  clear hl
  go_enter Tryz.func287, Tryz.ntmps287
  go_wp2
  go_loopw [17] (fun iv wr => ∃ k : Nat, iv = .int .i64 k ∧ k ≤ A.length ∧ Ext w wr ∧ Hid (∀ j, j < k → gt A j = gt B j)) (fun iv _ => A.length - (intOf iv).toNat)
  case atStart => exact ⟨0, rfl, by omega, Ext.refl _, Lib.hid (fun j h => by omega)⟩
  case round =>
   obtain ⟨k, rfl, hk, hg, hE⟩ := hrel
   clear hb0
   by_cases hlt : k < A.length
   ·have hlt' : (k : Int) < A.length := by omega
    have hlt2 : (k : Int) < B.length := by have := HL.out; omega
    obtain ⟨b1, o1, c1, d1, rfl, _, _, hc1, hi1⟩ := Rows2.at (Rows2.ext h1 hg) k hlt
    obtain ⟨b2, o2, c2, d2, rfl, _, _, hc2, hi2⟩ := Rows2.at (Rows2.ext h2 hg) k (by omega)
    have hk0 : (0 : Int) ≤ k := by omega
    go_wp2_with fail
    refine Calls.mono (sEqual_ok _ _ (gt A k) (gt B k) wr _ _ hi1 hi2) ?_
    rintro eE wE ⟨vE, rfl, hgE, rfl⟩
    clear hc1 hc2
    cases hq : eqB (gt A k) (gt B k) with
    | true =>
     have HQ := Lib.hid hq; clear hq
     go_wp2
     go_roundw
     case rel => exact ⟨k + 1, by go_num, by omega, grown_trans hg hgE, Lib.hid (fun j hj => by
      rcases Nat.lt_succ_iff_lt_or_eq.1 hj with h | h
      ·exact hE.out j h
      ·rw [h]; exact eqB_true.1 HQ.out)⟩
     case measure => simp [intOf]; omega
    | false =>
     have hf := eqB_false_at (eqB_false.1 hq)
     have HQ := Lib.hid hf; clear hq hf
     go_wp2
     go_ret
     exact ⟨_, rfl, grown_trans hg hgE, by rw [HQ.out]; rfl⟩
   ·have he : eqB A B = true := eqB_true.2 (ext_gt HL.out (fun i hi => hE.out i (by omega)))
    have HE := Lib.hid he; clear he
    go_wp2
    go_ret
    exact ⟨_, rfl, hg, by rw [HE.out]; rfl⟩
 ·have he : eqB A B = false := eqB_false.2 (fun e => hl (by rw [e]))
  have HE := Lib.hid he; clear he
  have hb0 : ((A.length : Int) != (B.length : Int)) = true := by simp; omega
  clear hl
  go_enter Tryz.func287, Tryz.ntmps287
  go_wp2
  go_ret
  exact ⟨_, rfl, Ext.refl _, by rw [HE.out]; rfl⟩
theorem sameRows_ok (v1 v2 : Value) (A B : List (List Int)) (w : World) (S1 S2 : Nat → Prop) (h1 : Rows2 S1 w v1 A) (h2 : Rows2 S2 w v2 B) :
  Calls Tryz.prog 221 #[v1, v2] w (Ret w fun _ v => v = .bool (eqB A B)) := by
 have hcon := eqRows_ok v1 v2 A B w S1 S2 h1 h2
 obtain ⟨a1, cap1, rfl, _, _⟩ := Sl.shape h1
 obtain ⟨a2, cap2, rfl, _, _⟩ := Sl.shape h2
 go_enter Tryz.func221, Tryz.ntmps221
 go_wp2_with fail
 refine Calls.mono hcon ?_
 rintro e1 w1 ⟨v, rfl, hg, rfl⟩
 clear hcon
 go_wp2
 go_ret
 exact ⟨_, rfl, hg, rfl⟩
def SubB (P : Pr) (u : List (List Int)) : Prop := (∀ x ∈ u, Vec P.orders x) ∧ u = cseq P (genP P (fun x => x ∈ u))
theorem Grp.cseq_len {P : Pr} (G : Grp P) {H : List Int → Prop} (S : Sub P H) : (cseq P H).length ≤ P.orders.length := by
 obtain ⟨r, _, h⟩ := G.cseq_spec S
 rw [h, sq_all]; exact sq_len _ _ _
theorem Grp.sub_len {P : Pr} (G : Grp P) {u : List (List Int)} (h : SubB P u) : u.length ≤ P.orders.length := by
 rw [h.2]; exact G.cseq_len (G.genP_sub h.1)
set_option maxRecDepth 100000 in
set_option maxHeartbeats 2000000 in
theorem areSubgroups_ok (P : Pr) (w : World) (p lv : Value) (us : List (List (List Int))) (Sp Sr : Nat → Prop) (hp : PresP Sp w p P) (hl : Rows3 Sr w lv us) :
  Calls Tryz.prog 112 #[p, lv] w (Ret w fun _ v => ∃ r : Bool, v = .bool r ∧ (r = true ↔ rconsB P = true ∧ ∀ u ∈ us, SubB P u)) := by
 obtain ⟨pb, po, rfl⟩ := hp.shape
 obtain ⟨al, capl, rfl, _, _⟩ := Sl.shape hl
 obtain ⟨vo, vp, vc, _, _, hc0, hc1, hc2, h3⟩ := hp.at
 obtain ⟨ao, capo, rfl, _, _⟩ := h3.o.shape
 obtain ⟨ap, capp, rfl, _, _⟩ := Sl.shape h3.p
 obtain ⟨ac, capc, rfl, _, _⟩ := Sl.shape h3.c
 have hcon := isConsistent_ok P w (.agg #[.slice ao P.orders.length capo, .slice ap P.powers.length capp, .slice ac P.conj.length capc]) Sp ⟨_, _, _, rfl, h3⟩
 rw [icons_eq] at hcon
 go_enter Tryz.func112, Tryz.ntmps112
 go_wp2_with fail
 refine Calls.mono hcon ?_
 rintro e1 w1 ⟨v, rfl, hg1, rfl⟩
 clear hcon
 cases hq : rconsB P with
 | false =>
  have HQ := Lib.hid hq; clear hq
  go_wp2
  go_ret
  exact ⟨_, rfl, hg1, false, rfl, by simp only [Bool.false_eq_true, false_iff]; rintro ⟨h, _⟩; rw [HQ.out] at h; cases h⟩
 | true =>
  have G := grp_of_r hq
  have hn6 := G.v.n6
  have HQ := Lib.hid hq; clear hq hc1 hc2
  go_wp2
  go_loopw [16] (fun iv wr => ∃ i : Nat, iv = .int .i64 i ∧ i ≤ us.length ∧ Ext w wr ∧ Hid (∀ j, j < i → SubB P (gt us j))) (fun iv _ => us.length - (intOf iv).toNat)
  case atStart => exact ⟨0, rfl, by omega, hg1, Lib.hid (fun j h => by omega)⟩
  case round =>
   obtain ⟨i, rfl, hi, hg, hS⟩ := hrel
   by_cases hlt : i < us.length
   ·have hlt' : (i : Int) < us.length := by omega
    obtain ⟨b, off, a2, cap2, rfl, _, _, hcu, hu⟩ := Rows3.at hl i hlt
    obtain ⟨U, hU⟩ : ∃ U, U = gt us i := ⟨_, rfl⟩
    rw [← hU] at hcu hu
    have HUe := Lib.hid hU; clear hU
    have hc0r := hg.cell hc0 (by simp)
    have hcur := hg.cell hcu (by simp)
    by_cases hlen : U.length ≤ P.orders.length
    ·have hgt : ¬ (P.orders.length : Int) < U.length := by omega
     go_wp2
     clear hcur hc0r hgt
     go_loopw [30] (fun jv wr => ∃ j : Nat, jv = .int .i64 j ∧ j ≤ U.length ∧ Ext w wr ∧ Hid (∀ l, l < j → Vec P.orders (gt U l))) (fun jv _ => U.length - (intOf jv).toNat)
     case atStart => exact ⟨0, rfl, by omega, hg, Lib.hid (fun j h => by omega)⟩
     case round =>
      clear hg
      obtain ⟨j, rfl, hj, hg, hV⟩ := hrel
      by_cases hjl : j < U.length
      ·have hjl' : (j : Int) < U.length := by omega
       obtain ⟨b3, off3, a3, cap3, rfl, _, _, hc3, hr3⟩ := Rows2.at (Rows2.ext hu hg) j hjl
       have hex := isExponents_ok wr _ _ P (gt U j) Sp Sr (hp.ext hg) hr3 (fun i hi => by have := G.v.ord7 i hi; omega)
       cases hb : expB P.orders (gt U j) with
       | true =>
        rw [hb] at hex
        have HB := Lib.hid (expB_vec.1 hb); clear hb
        go_wp2_with fail
        refine Calls.mono hex ?_
        rintro eE wE ⟨rfl, rfl⟩
        clear hex
        go_wp2
        go_roundw
        case rel => exact ⟨j + 1, by go_num, by omega, hg, Lib.hid (fun l hl => by
         rcases Nat.lt_succ_iff_lt_or_eq.1 hl with h | h
         ·exact hV.out l h
         ·rw [h]; exact HB.out)⟩
        case measure => simp [intOf]; omega
       | false =>
        rw [hb] at hex
        have hno : ¬ SubB P U := fun h => by
         have := expB_vec.2 (h.1 _ (gtMem hjl))
         rw [hb] at this; cases this
        have HB := Lib.hid hno; clear hb hno
        go_wp2_with fail
        refine Calls.mono hex ?_
        rintro eE wE ⟨rfl, rfl⟩
        clear hex
        go_wp2
        go_ret
        exact ⟨_, rfl, hg, false, rfl, by
         simp only [Bool.false_eq_true, false_iff]
         rintro ⟨_, h⟩
         exact HB.out (by rw [HUe.out]; exact h _ (gtMem hlt))⟩
      ·have hje : j = U.length := by omega
       subst hje
       have hUV : ∀ x ∈ U, Vec P.orders x := fun x hx => by
        obtain ⟨l, hl, rfl⟩ := List.getElem_of_mem hx
        rw [← gt_eq U l hl]; exact hV.out l hl
       have hcl : (cseq P (genP P (fun x => x ∈ U))).length ≤ P.orders.length := G.cseq_len (G.genP_sub hUV)
       have HUV := Lib.hid hUV; clear hUV
       go_wp2_with fail
       refine Calls.mono (generated_ok P G wr _ _ U Sp Sr (hp.ext hg) (Rows2.ext hu hg) HUV.out (by omega)) ?_
       rintro eG wG ⟨vG, rfl, hgG, hOG⟩
       have hgw := grown_trans hg hgG
       have hRG := RowsD.rows (hOG.toD (by omega))
       obtain ⟨aG, capG, hvG, _, _⟩ := Sl.shape hRG
       subst hvG
       go_wp2_with fail
       refine Calls.mono (sameRows_ok _ _ _ U wG _ _ hRG (Rows2.ext hu hgw)) ?_
       rintro eS wS ⟨vS, rfl, hgS, rfl⟩
       cases hb : eqB (cseq P (genP P (fun x => x ∈ U))) U with
       | true =>
        have HB := Lib.hid (eqB_true.1 hb); clear hb
        go_wp2
        go_roundw
        case rel => exact ⟨i + 1, by go_num, by omega, grown_trans hgw hgS, Lib.hid (fun l hl => by
         rcases Nat.lt_succ_iff_lt_or_eq.1 hl with h | h
         ·exact hS.out l h
         ·rw [h, ← HUe.out]; exact ⟨HUV.out, HB.out.symm⟩)⟩
        case measure => simp [intOf]; omega
       | false =>
        have HB := Lib.hid (eqB_false.1 hb); clear hb
        go_wp2
        go_ret
        exact ⟨_, rfl, grown_trans hgw hgS, false, rfl, by
         simp only [Bool.false_eq_true, false_iff]
         rintro ⟨_, h⟩
         have := h _ (gtMem hlt)
         rw [← HUe.out] at this
         exact HB.out this.2.symm⟩
    ·have hgt : (P.orders.length : Int) < U.length := by omega
     have hno : ¬ SubB P U := fun h => hlen (G.sub_len h)
     have HB := Lib.hid hno; clear hno hlen
     go_wp2
     go_ret
     exact ⟨_, rfl, hg, false, rfl, by
      simp only [Bool.false_eq_true, false_iff]
      rintro ⟨_, h⟩
      exact HB.out (by rw [HUe.out]; exact h _ (gtMem hlt))⟩
   ·have hie : i = us.length := by omega
    subst hie
    go_wp2
    go_ret
    exact ⟨_, rfl, hg, true, rfl, by
     simp only [true_iff]
     exact ⟨HQ.out, fun u hu => by
      obtain ⟨l, hl, rfl⟩ := List.getElem_of_mem hu
      rw [← gt_eq us l hl]; exact hS.out l hl⟩⟩
end Go.Proofs.YtdcobapnlpeaaaaGreat
namespace Go.Proofs.YtdcobapnlpeaaaaGreat
theorem pwZ_nat (P : Pr) (x : List Int) (k : Int) (hk : 0 ≤ k) : pwZ P x k = pw P x k.toNat := by
 unfold pwZ; rw [if_neg (by omega)]
def tabTo (U : List (List Int)) (n : Nat) : Nat → List (List Int)
 | 0 => List.replicate n []
 | k + 1 => (tabTo U n k).set (dep (gt U k)) (gt U k)
structure StripTo (P : Pr) (b : List (List Int)) (X : List Int) (d : Nat) (Y : List Int) : Prop where
 vec : T P d Y
 inv : ∀ Q q R, AddInv P Q (gt b) (X :: q) R → ∃ R', AddInv P Q (gt b) (Y :: q) R'
structure FullTo (P : Pr) (r : Nat → List Int) (m : Nat) (X : List Int) (e : Nat) (Y : List Int) : Prop where
 vec : Vec P.orders Y
 zer : ∀ i, m ≤ i → i < e → r i ≠ [] → gt Y i = 0
 cos : ∀ K, Sub P K → (∀ i, m ≤ i → i < P.orders.length → r i ≠ [] → K (r i)) → K (rMul P (rInv P X) Y)
 old : ∀ k, (∀ i, m ≤ i → i < P.orders.length → r i ≠ [] → k < i) → gt Y k = gt X k
def comsR (P : Pr) (b : List (List Int)) (z : List Int) : Nat → List (List Int)
 | 0 => []
 | k + 1 => comsR P b z k ++ (if gt b k = [] then [] else [comR P z (gt b k)])
theorem comsR_len (P : Pr) (b : List (List Int)) (z : List Int) (k : Nat) : (comsR P b z k).length ≤ k := by
 induction k with
 | zero => exact Nat.le_refl _
 | succ k ih => simp only [comsR]; split <;> simp <;> omega
theorem mem_comsR {P : Pr} {b : List (List Int)} {z x : List Int} {k : Nat} : x ∈ comsR P b z k ↔ ∃ e, e < k ∧ gt b e ≠ [] ∧ x = comR P z (gt b e) := by
 induction k with
 | zero => simp [comsR]
 | succ k ih =>
  simp only [comsR, List.mem_append, ih]
  constructor
  ·rintro (⟨e, h1, h2, h3⟩ | h)
   ·exact ⟨e, by omega, h2, h3⟩
   ·split at h
    ·simp at h
    ·rename_i hk
     simp at h
     exact ⟨k, by omega, hk, h⟩
  ·rintro ⟨e, h1, h2, h3⟩
   rcases Nat.lt_succ_iff_lt_or_eq.1 h1 with h | h
   ·exact .inl ⟨e, h, h2, h3⟩
   ·subst h; right; rw [if_neg h2]; simp [h3]
section
variable {P : Pr} (G : Grp P)
include G
omit G in
theorem stripTo_zero {b : List (List Int)} {X : List Int} (hX : Vec P.orders X) : StripTo P b X 0 X := ⟨T_zero.2 hX, fun _ _ R A => ⟨R, A⟩⟩
omit G in
theorem StripTo.skip {b : List (List Int)} {X Y : List Int} {d : Nat} (h : StripTo P b X d Y) (h0 : gt Y d = 0) : StripTo P b X (d + 1) Y := ⟨h.vec.up h0, h.inv⟩
theorem Grp.stripTo_step {b : List (List Int)} {X Y : List Int} {d : Nat} (hd : d < P.orders.length) (hb : gt b d ≠ []) (ht : T P d (gt b d) ∧ gt (gt b d) d = 1) (h0 : gt Y d ≠ 0) (h : StripTo P b X d Y) :
  StripTo P b X (d + 1) (rMul P Y (pwZ P (gt b d) (-(gt Y d)))) := by
 have hc := G.right_clear hd h.vec.1 ht.1 ht.2
 have hT : T P (d + 1) (rMul P Y (pwZ P (gt b d) (-(gt Y d)))) := T.up ⟨hc.2.2, fun k hk => by rw [hc.2.1 k hk]; exact h.vec.2 k hk⟩ hc.1
 have hp := G.pwZ_vec ht.1.1 (-(gt Y d))
 refine ⟨hT, fun Q q R A => ?_⟩
 obtain ⟨R1, A1⟩ := h.inv Q q R A
 refine ⟨_, addInv_sift A1 hd h.vec h0 hb hT (fun K S h1 h2 => ?_) (fun K S h1 h2 => S.mul _ _ h2 (S.pwZ h1 _))⟩
 have h3 := S.mul _ _ h2 (S.inv _ (S.pwZ h1 (-(gt Y d))))
 rwa [G.ass h.vec.1 hp (G.invV hp), G.mul_inv hp, G.grp.er _ h.vec.1] at h3
theorem Grp.close_step {Q : List Int → Prop} {b q q' : List (List Int)} {R : List Int → Prop} {y : List Int} (A : AddInv P Q (gt b) (y :: q) R) {d : Nat} (hd : d < P.orders.length) (hT : T P d y) (hb : gt b d = []) (hlen : b.length = P.orders.length)
  (k : Int) (hk0 : 0 ≤ k) (hk : (k * gt y d) % gt P.orders d = 1) (hq' : ∀ x, x ∈ q' ↔ x ∈ q ∨ x = y ∨ x = pw P (pw P y k.toNat) (gt P.orders d).toNat ∨ x ∈ comsR P b (pw P y k.toNat) P.orders.length) :
  ∃ R', AddInv P Q (gt (b.set d (pw P y k.toNat))) q' R' := by
 obtain ⟨hz, hz1⟩ := G.lead_one hd hT k hk0 hk
 refine ⟨_, G.addInv_insert A hd hT hb hz hz1 (fun K S h => S.pw h _) (fun e he => ?_) (fun x hx => ?_) (fun x hx => ?_) (fun e he hbe => .inr ?_)⟩
 ·by_cases h : e = d
  ·subst h; rw [if_pos rfl, gt_set_eq _ _ _ (by omega)]
  ·rw [if_neg h, gt_set_ne _ _ _ _ (fun h2 => h h2.symm)]
 ·rcases (hq' x).1 hx with h | h | h | h
  ·exact .inl h
  ·exact .inr (.inl h)
  ·exact .inr (.inr (.inr (.inl h)))
  ·obtain ⟨e, h1, h2, h3⟩ := mem_comsR.1 h
   exact .inr (.inr (.inr (.inr ⟨e, h1, h2, .inr h3⟩)))
 ·rw [hq']
  rcases hx with h | h | h
  ·exact .inl h
  ·exact .inr (.inl h)
  ·exact .inr (.inr (.inl h))
 ·rw [hq']
  exact .inr (.inr (.inr (mem_comsR.2 ⟨e, he, hbe, rfl⟩)))
theorem Grp.fullTo_zero {r : Nat → List Int} {m : Nat} {X : List Int} (hX : Vec P.orders X) : FullTo P r m X m X :=
 ⟨hX, fun i h1 h2 => by omega, fun K S _ => by rw [G.inv_mul hX]; exact S.one, fun _ _ => rfl⟩
omit G in
theorem FullTo.skip {r : Nat → List Int} {m e : Nat} {X Y : List Int} (h : FullTo P r m X e Y) (h0 : r e = [] ∨ gt Y e = 0) : FullTo P r m X (e + 1) Y :=
 ⟨h.vec, fun i h1 h2 hr => by
  rcases Nat.lt_succ_iff_lt_or_eq.1 h2 with h3 | h3
  ·exact h.zer i h1 h3 hr
  ·subst h3; exact h0.elim (fun h => absurd h hr) id, h.cos, h.old⟩
theorem Grp.fullTo_step {r : Nat → List Int} {m e : Nat} {X Y : List Int} (hX : Vec P.orders X) (hme : m ≤ e) (he : e < P.orders.length) (hr : r e ≠ []) (ht : T P e (r e) ∧ gt (r e) e = 1) (h : FullTo P r m X e Y) :
  FullTo P r m X (e + 1) (rMul P Y (pwZ P (r e) (-(gt Y e)))) := by
 have hc := G.right_clear he h.vec ht.1 ht.2
 refine ⟨hc.2.2, fun i h1 h2 hri => ?_, fun K S hK => ?_, fun k hk => by rw [hc.2.1 k (hk e hme he hr)]; exact h.old k hk⟩
 ·rcases Nat.lt_succ_iff_lt_or_eq.1 h2 with h3 | h3
  ·rw [hc.2.1 i h3]; exact h.zer i h1 h3 hri
  ·subst h3; exact hc.1
 ·rw [← G.ass (G.invV hX) h.vec (G.pwZ_vec ht.1.1 _)]
  exact S.mul _ _ (h.cos K S hK) (S.pwZ (hK e hme he hr) _)
omit G in
theorem FullTo.repTo {H : List Int → Prop} {b r : Nat → List Int} {d k : Nat} {X Y : List Int} (h : FullTo P r (d + 1) X P.orders.length Y) (C : CanInv P H b r (d + 1)) (hk : d + 1 + k = P.orders.length) :
  RepTo P (sq r k (d + 1)) X (sq r k (d + 1)).length Y := by
 refine ⟨h.vec, fun j hj => ?_, fun K S hK => h.cos K S (fun i h1 h2 h3 => hK _ (mem_sq.2 ⟨i, h1, by omega, h3, rfl⟩)), fun j hj => h.old j (fun i h1 h2 h3 => by
  have := hj _ (mem_sq.2 ⟨i, h1, by omega, h3, rfl⟩)
  rwa [C.dep h1 h2 h3] at this)⟩
 obtain ⟨e, h1, h2, h3, h4⟩ := mem_sq.1 (gtMem hj)
 rw [h4, C.dep h1 (by omega) h3]
 exact h.zer e h1 (by omega) h3
end
end Go.Proofs.YtdcobapnlpeaaaaGreat
namespace Go.Proofs.YtdcobapnlpeaaaaGreat
open Go.RowKit
theorem Grp.rRep_pw {P : Pr} (G : Grp P) {X : List Int} (hX : Vec P.orders X) (k : Nat) : rRep (rAt P P.orders.length 0) (zeros P.orders.length) X k = pw P X k :=
 G.lvl.rRep_eq (T_zero.2 hX) k
set_option maxHeartbeats 2000000 in
theorem l10Pow_ok (P : Pr) (G : Grp P) (w : World) (pv x : Value) (X : List Int) (k : Int) (Sp Sx : Nat → Prop) (hp : PresV Sp w pv P) (hx : Ints Sx w x X) (hX : Vec P.orders X) (hk : -1000000000 ≤ k ∧ k ≤ 1000000000) :
  Calls Tryz.prog 106 #[pv, x, .int .i64 k] w (Ret w fun w' v => Own w.heap.size w' v (pwZ P X k)) := by
 have hP := G.v
 have hn6 := hP.n6
 obtain ⟨vo, vp, vc, rfl, h3⟩ := hp
 have hBx := PresP.box h3 28
 have hg0 : Ext w (w.alloc (.cells #[vo, vp, vc] 28)) := World.grownBy_alloc _ _ _
 have hx0 := hx.ext hg0
 have hs0 : (w.alloc (.cells #[vo, vp, vc] 28)).heap.size = w.heap.size + 1 := by simp
 have HS := Lib.hid hs0; clear hs0 hx
 have hXl : X.length = P.orders.length := hX.1
 have HX := Lib.hid (And.intro hX hXl); clear hX hXl
 by_cases hneg : k < 0
 ·have e0 : pwZ P X k = pw P (rInv P X) (-k).toNat := by unfold pwZ; rw [if_pos hneg]
  have hiV := G.invV HX.out.1
  have hil : (rInv P X).length ≤ 6 := by rw [hiV.1]; omega
  have HE := Lib.hid (And.intro e0 hiV); clear e0 hiV
  have hwr : IntKind.i64.wrap (-k) = -k := IntWalk.i64_in _ (by omega)
  go_enter Tryz.func106, Tryz.ntmps106
  go_wp2
  generalize hw0 : w.alloc (.cells #[vo, vp, vc] 28) = w0 at *
  clear hw0
  obtain ⟨vo6, vp6, vc6, _, _, hc0, hc1, hc2, h36⟩ := hBx.at
  have e1 : ∀ w', Ext w0 w' → w'.cell? ⟨w.heap.size, 0, none⟩ = some vo6 := fun w' h => h.cell hc0 (by simp)
  have e2 : ∀ w', Ext w0 w' → w'.cell? ⟨w.heap.size, 1, none⟩ = some vp6 := fun w' h => h.cell (by simpa using hc1) (by simp)
  have e3 : ∀ w', Ext w0 w' → w'.cell? ⟨w.heap.size, 2, none⟩ = some vc6 := fun w' h => h.cell (by simpa using hc2) (by simp)
  clear hc0 hc1 hc2
  go_region_held3 (fun w' => Ext w0 w') (first | exact grown_drew _ _ | assumption)
   (first
    | (go_at_call 211; refine Calls.mono (Calls.rel (w0 := w0) (by assumption) (l10Inv_ok P hP _ _ _ _ Any Any ⟨_, _, _, rfl, Pres3.ext h36 (by assumption)⟩ (Ints.sub (Ints.ext hx0 (by assumption)) (fun _ _ _ => trivial)) HX.out.1)) ?_; rintro eA wA ⟨vA, rfl, hgA, hsA, hOA⟩; have hOA2 := hOA.ints (by omega))
    | (go_at_call 210; refine Calls.mono (Calls.rel (w0 := w0) (by assumption) (l08Repeat_ok P hP _ _ _ 0 P.orders.length (by omega) _ (-k) Any Any ⟨_, _, _, rfl, Pres3.ext h36 (by assumption)⟩ hOA2 HE.out.2 (by omega) (by omega))) ?_; rintro eB wB ⟨vB, rfl, hgB, hsB, hOB⟩))
  clear e1 e2 e3
  rw [G.rRep_pw HE.out.2, ← HE.out.1] at hOB
  go_wp2
  go_ret
  exact ⟨_, rfl, grown_trans hg0 hgB, hOB.weak (by have := HS.out; omega)⟩
 ·have e0 : pwZ P X k = pw P X k.toNat := by unfold pwZ; rw [if_neg hneg]
  have HE := Lib.hid e0; clear e0
  obtain ⟨vo6, vp6, vc6, _, _, hc0, hc1, hc2, h36⟩ := hBx.at
  go_enter Tryz.func106, Tryz.ntmps106
  go_wp2_with fail
  refine Calls.mono (l08Repeat_ok P hP _ _ _ 0 P.orders.length (by omega) X k Any Sx ⟨_, _, _, rfl, h36⟩ hx0 HX.out.1 (by omega) (by omega)) ?_
  rintro eB wB ⟨vB, rfl, hgB, hOB⟩
  rw [G.rRep_pw HX.out.1, ← HE.out] at hOB
  go_wp2
  go_ret
  exact ⟨_, rfl, grown_trans hg0 hgB, hOB.weak (by have := HS.out; omega)⟩
end Go.Proofs.YtdcobapnlpeaaaaGreat
namespace Go.Proofs.YtdcobapnlpeaaaaGreat
open Go.RowKit
theorem TabAt.rows {B gb n : Nat} {bad : Nat → Prop} {w : World} {b : List (List Int)} (h : TabAt B bad w gb n b) (hn : n ≤ 1000000) : Rows2 (fun k => k = gb ∨ (k ≠ gb ∧ ¬ bad k)) w (.slice (some ⟨gb, 0, none⟩) n n) b := by
 have hl := h.len
 have hlt := h.lt
 refine ⟨_, _, by rw [hl], ⟨by omega, by omega, fun h => by cases h⟩, fun i hi => ?_⟩
 obtain ⟨_, hc⟩ := h.at i (by omega)
 rcases hc with ⟨h0, hc⟩ | ⟨_, a, cap, hc, hI⟩
 ·refine ⟨gb, 0, _, rfl, .inl rfl, hlt.2, by rw [Nat.zero_add]; exact hc, ?_⟩
  rw [h0]
  exact ⟨none, 0, rfl, ⟨by simp, by simp, fun _ => rfl⟩, fun j hj => by simp at hj⟩
 ·exact ⟨gb, 0, _, rfl, .inl rfl, hlt.2, by rw [Nat.zero_add]; exact hc, Ints.sub hI (fun k hk _ => .inr hk)⟩
end Go.Proofs.YtdcobapnlpeaaaaGreat
namespace Go.Proofs.YtdcobapnlpeaaaaGreat
open Go.RowKit
theorem seqOf_succ (n : Nat) (r : Nat → List Int) : seqOf (n + 1) r = seqOf n r ++ (if r n = [] then [] else [r n]) := by
 unfold seqOf
 rw [List.range_succ, List.filterMap_append]
 congr 1
 by_cases h : r n = [] <;> simp [h]
theorem seqOf_len (n : Nat) (r : Nat → List Int) : (seqOf n r).length ≤ n := by rw [sq_all]; exact sq_len _ _ _
theorem ShQ.rows {bad : Nat → Prop} {B : Nat} {w : World} {v : Value} {xs : List (List Int)} (h : ShQ bad B w v xs) : Rows2 Any w v xs := by
 obtain ⟨vs, hl, hq, hr⟩ := h
 rcases hq with ⟨rfl, rfl⟩ | ⟨g, off, cap, cur, rfl, hb, hg, hnc, hcm, hsz, hc⟩
 ·have : xs = [] := List.eq_nil_of_length_eq_zero (by simpa using hl.symm)
  subst this
  exact ⟨none, 0, rfl, ⟨by simp, by simp, fun _ => rfl⟩, fun i hi => by simp at hi⟩
 ·refine ⟨_, cap, by rw [hl], ⟨by omega, by unfold maxLen at hcm; omega, fun h => by cases h⟩, fun i hi => ⟨g, off, gt vs i, rfl, trivial, (Array.getElem?_eq_some_iff.1 hg).1, ?_, Ints.sub (hr i hi) (fun _ _ _ => trivial)⟩⟩
  simp only [World.cell?, hg, Option.isSome_none, Bool.false_eq_true, if_false]
  exact hc i (by omega)
theorem ShQ.lit (bad : Nat → Prop) (B : Nat) (w : World) (hB : B ≤ w.heap.size) : ShQ bad B (w.alloc (.cells #[] 24)) (.slice (some ⟨w.heap.size, 0, none⟩) 0 0) [] :=
 ⟨[], rfl, QOwn.of (World.ownsRow_lit w #[] 0 hB (by decide) rfl), fun i hi => by simp at hi⟩
theorem CanInv.congr {P : Pr} {H : List Int → Prop} {b r r' : Nat → List Int} {m : Nat} (h : CanInv P H b r m) (he : ∀ e, m ≤ e → e < P.orders.length → r' e = r e) : CanInv P H b r' m :=
 ⟨fun e h1 h2 => by rw [he e h1 h2]; exact h.nil e h1 h2, fun e h1 h2 h3 => by rw [he e h1 h2] at h3 ⊢; exact h.mem e h1 h2 h3,
  fun e e' h1 h2 h3 h4 h5 => by rw [he e h1 (by omega)] at h4 ⊢; rw [he e' (by omega) h3] at h5; exact h.red e e' h1 h2 h3 h4 h5⟩
theorem ShQ.weak {bad : Nat → Prop} {B B' : Nat} {w : World} {v : Value} {xs : List (List Int)} (h : ShQ bad B w v xs) (hb : B' ≤ B) : ShQ bad B' w v xs := by
 obtain ⟨vs, hl, hq, hr⟩ := h
 exact ⟨vs, hl, hq.weak hb, hr⟩
set_option maxRecDepth 100000 in
set_option maxHeartbeats 4000000 in
theorem l12FullF_ok (P : Pr) (G : Grp P) (w : World) (pv tv : Value) (b : List (List Int)) (H : List Int → Prop) (Sp Sb : Nat → Prop) (hpv : PresV Sp w pv P) (ht : Rows2 Sb w tv b) (hlb : b.length = P.orders.length) (hI : Ind P H (gt b)) (Av : Nat → Prop) (hAv : ∀ k, Av k → k < w.heap.size ∧ ¬ Sb k) :
  Calls Tryz.prog 217 #[pv, tv] w (Ret w fun w' v => ShQ Av w.heap.size w' v (cseq P H)) := by
 have hP := G.v
 have hn6 := hP.n6
 obtain ⟨vo, vp, vc, rfl, h3⟩ := hpv
 have hp0 := PresP.box h3 28
 have hg0 : Ext w (w.alloc (.cells #[vo, vp, vc] 28)) := World.grownBy_alloc _ _ _
 have hs0 : (w.alloc (.cells #[vo, vp, vc] 28)).heap.size = w.heap.size + 1 := by simp
 obtain ⟨at_, capt, hvt, _, _⟩ := Sl.shape ht
 rw [hlb] at hvt
 subst hvt
 have HI := Lib.hid (And.intro hI hlb); clear hI hlb
 obtain ⟨vo6, vp6, vc6, _, _, hc0, hc1, hc2, h36⟩ := hp0.at
 simp only [Nat.zero_add] at hc1 hc2
 clear hp0
 have hwn : IntKind.i64.wrap ((P.orders.length : Int) - 1) = (P.orders.length : Int) - 1 := IntWalk.i64_in _ (by omega)
 go_enter Tryz.func217, Tryz.ntmps217
 go_wp2_with (first | (at_make; refine wp_make_tab rfl _ _ rfl w.heap.size P.orders.length (w.heap.size + 1) (by simp) _ rfl rfl rfl (by omega) (by omega) ?_; intro w1 hT1 hg1 hlt1) | fail)
 clear hwn
 have HS := Lib.hid hs0; clear hs0
 generalize hw0 : w.alloc (.cells #[vo, vp, vc] 28) = w0 at *
 clear hw0
 have hT := hT1 Av
 clear hT1
 go_loopw [6] (fun dv wr => ∃ (m : Nat) (dl : List (List Int)), dv = .int .i64 ((m : Int) - 1) ∧ m ≤ P.orders.length ∧ Ext w0 wr ∧ TabAt w.heap.size Av wr (w.heap.size + 1) P.orders.length dl ∧ Hid (CanInv P H (gt b) (gt dl) m ∧ ∀ e, e < m → gt dl e = [])) (fun dv _ => (intOf dv + 1).toNat)
 case atStart => exact ⟨P.orders.length, _, rfl, Nat.le_refl _, hg1, hT, Lib.hid ⟨⟨fun e h1 h2 => by omega, fun e h1 h2 => by omega, fun e e' h1 h2 h3 => by omega⟩, fun e he => by simp [gt, he]⟩⟩
 case round =>
  clear hT
  obtain ⟨m, dl, rfl, hm, hg, hT, hC⟩ := hrel
  by_cases hm0 : m = 0
  ·subst hm0
   have hneg : ((0 : Nat) : Int) - 1 = -1 := rfl
   rw [hneg]
   have hend := G.can_end HI.out.1 hC.out.1
   rw [← sq_all] at hend
   have HE := Lib.hid hend; clear hend
   have hdl := hT.len
   have hrows := hT.rows (by omega)
   obtain ⟨wo, rfl⟩ : ∃ wo : World, wo = wr := ⟨_, rfl⟩
   go_wp2
   go_loopw [9, 10] (fun ov iv wr => ∃ (i : Nat) (v4 : Value), v4 = ov ∧ iv = .int .i64 i ∧ i ≤ P.orders.length ∧ Ext wo wr ∧ ShQ Av wo.heap.size wr v4 (seqOf i (gt dl))) (fun _ iv _ => P.orders.length - (intOf iv).toNat)
   case atStart => exact ⟨0, _, rfl, rfl, by omega, World.grownBy_alloc _ _ _, ShQ.lit _ _ _ (Nat.le_refl _)⟩
   case round =>
    obtain ⟨i, v4, rfl, rfl, hi, hgi, hQ⟩ := hrel
    by_cases hlt : i < P.orders.length
    ·have hlt' : (i : Int) < P.orders.length := by omega
     have hst := seqOf_succ i (gt dl)
     obtain ⟨_, hcc⟩ := hT.at i hlt
     rcases hcc with ⟨h0, hcell⟩ | ⟨hne, ab, capb, hcell, hbI⟩
     ·rw [if_pos h0, List.append_nil] at hst
      have HST := Lib.hid hst; clear hst h0
      have hcr := hgi.cell hcell (by simp)
      go_wp2
      go_roundw
      case rel => exact ⟨i + 1, v4, rfl, by go_num, by omega, hgi, by rw [HST.out]; exact hQ⟩
      case measure => simp [intOf]; omega
     ·rw [if_neg hne] at hst
      have hln : (0 : Int) < (gt dl i).length := by
       have : 0 < (gt dl i).length := List.length_pos_iff.2 hne
       omega
      have hsl := seqOf_len i (gt dl)
      have HST := Lib.hid hst; clear hst hne
      have hcr := hgi.cell hcell (by simp)
      have hrI : Ints (fun k => ¬ Av k ∧ v4.ownBlock ≠ some k) wr (.slice (some ab) (gt dl i).length capb) (gt dl i) := Ints.mono hbI (fun k hkb hk => ⟨⟨hkb.2, fun e => by have := (hQ.lt k e).1; omega⟩, Nat.lt_of_lt_of_le hk hgi.size, hgi.block k hk (by simp)⟩)
      go_wp2_with (first | (at_builtin; refine wp_shq_app rfl _ _ rfl Av wo.heap.size v4 _ (seqOf i (gt dl)) (gt dl i) rfl wr hQ rfl hrI rfl (by omega) hgi.size ?_; intro v5 w5 hQ5 hg5 hb5; have hgw5 := grown_own hgi hg5 (fun j hj hlt => by have := (hQ.lt j hj).1; omega)) | fail)
      go_roundw
      case rel => exact ⟨i + 1, v5, rfl, by go_num, by omega, hgw5, by rw [HST.out]; exact hQ5⟩
      case measure => simp [intOf]; omega
    ·have hie : i = P.orders.length := by omega
     subst hie
     rw [HE.out] at hQ
     obtain ⟨az, capz, hvz, _⟩ := hQ.shape
     subst hvz
     go_wp2
     go_ret
     exact ⟨_, rfl, grown_trans hg0 (grown_trans hg hgi), hQ.weak (grown_trans hg0 hg).size⟩
  ·obtain ⟨d, rfl⟩ : ∃ d, m = d + 1 := ⟨m - 1, by omega⟩
   rw [show (((d + 1 : Nat)) : Int) - 1 = d by omega]
   have hdn : d < P.orders.length := by omega
   have hdn' : (d : Int) < P.orders.length := by omega
   have hd0 : (0 : Int) ≤ d := by omega
   have hwd : IntKind.i64.wrap ((d : Int) - 1) = (d : Int) - 1 := IntWalk.i64_in _ (by omega)
   obtain ⟨bb, off, a2, cap2, hat, _, _, hc, hr⟩ := Rows2.at ht d (by rw [HI.out.2]; exact hdn)
   subst hat
   have hgw := grown_trans hg0 hg
   have hcr := hgw.cell hc (by simp)
   clear hc hm0
   by_cases hb : gt b d = []
   ·have hbl : ((((gt b d).length : Nat) : Int) == 0) = true := by rw [hb]; rfl
    have hC2 : CanInv P H (gt b) (gt dl) d := (can_skip (k := P.orders.length - (d + 1)) hC.out.1 hb).1.congr (fun e h1 h2 => by
     by_cases he : e = d
     ·subst he; rw [if_pos rfl]; exact hC.out.2 e (by omega)
     ·rw [if_neg he])
    have HC2 : Hid (CanInv P H (gt b) (gt dl) d ∧ ∀ e, e < d → gt dl e = []) := Lib.hid ⟨hC2, fun e he => hC.out.2 e (by omega)⟩
    clear hC2 hb
    go_wp2
    go_roundw
    case rel => exact ⟨d, dl, rfl, by omega, hg, hT, HC2⟩
    case measure => simp [intOf]
   ·have hbl : ((((gt b d).length : Nat) : Int) == 0) = false := by
     have : 0 < (gt b d).length := List.length_pos_iff.2 hb
     simp; omega
    have hXV : Vec P.orders (gt b d) := (HI.out.1.mem d hdn hb).2.1.1
    have hxI0 : Ints (fun k => k ≠ w.heap.size + 1 ∧ ¬ Av k) wr (.slice a2 (gt b d).length cap2) (gt b d) := Ints.mono hr (fun k hkS hk => ⟨⟨by omega, fun h => (hAv k h).2 hkS⟩, Nat.lt_of_lt_of_le hk hgw.size, hgw.block k hk (by simp)⟩)
    have HB := Lib.hid (And.intro hb hXV); clear hb hXV
    obtain ⟨wo, rfl⟩ : ∃ wo : World, wo = wr := ⟨_, rfl⟩
    go_wp2
    clear hbl hcr
    go_loopw [7, 8] (fun xv ev wr => ∃ (e : Nat) (Y : List Int), ev = .int .i64 e ∧ d + 1 ≤ e ∧ e ≤ P.orders.length ∧ Ext wo wr ∧ Ints (fun k => k ≠ w.heap.size + 1 ∧ ¬ Av k) wr xv Y ∧ Hid (FullTo P (gt dl) (d + 1) (gt b d) e Y)) (fun _ ev _ => P.orders.length - (intOf ev).toNat)
    case atStart => exact ⟨d + 1, _, by go_num, Nat.le_refl _, by omega, Ext.refl _, hxI0, Lib.hid (G.fullTo_zero HB.out.2)⟩
    case round =>
     clear hxI0
     obtain ⟨e, Y, rfl, hde, he, hge, hY, hF⟩ := hrel
     have hYV := hF.out.vec
     have hYl : Y.length = P.orders.length := hYV.1
     obtain ⟨ay, capy, hvy, _, _⟩ := hY.shape
     rw [hYl] at hvy
     subst hvy
     by_cases hlt : e < P.orders.length
     ·have hlt' : (e : Int) < P.orders.length := by omega
      have he0 : (0 : Int) ≤ e := by omega
      obtain ⟨by_, oy, rfl, _, _, hcy⟩ := Ints.at hY e (by omega)
      obtain ⟨_, hcc⟩ := hT.at e hlt
      rcases hcc with ⟨h0, hcell⟩ | ⟨hne, ab, capb, hcell, hbI⟩
      ·have hF2 := Lib.hid (hF.out.skip (.inl h0)); clear h0 hYV
       have hcr := hge.cell hcell (by simp)
       go_wp2
       go_roundw
       case rel => exact ⟨e + 1, Y, by go_num, by omega, by omega, hge, hY, hF2⟩
       case measure => simp [intOf]; omega
      ·have hln : (0 : Int) < (gt dl e).length := by
        have : 0 < (gt dl e).length := List.length_pos_iff.2 hne
        omega
       have hcr := hge.cell hcell (by simp)
       by_cases hy : gt Y e = 0
       ·have hyb : (gt Y e != 0) = false := by simp [hy]
        have hF2 := Lib.hid (hF.out.skip (.inr hy)); clear hYV hy hne
        go_wp2
        go_roundw
        case rel => exact ⟨e + 1, Y, by go_num, by omega, by omega, hge, hY, hF2⟩
        case measure => simp [intOf]; omega
       ·have hyb : (gt Y e != 0) = true := by simp [hy]
        have hyd := hYV.2 e hlt
        have ho := hP.ord7 e hlt
        have hwn : IntKind.i64.wrap (-(gt Y e)) = -(gt Y e) := IntWalk.i64_in _ (by omega)
        obtain ⟨_, m2, m3⟩ := hC.out.1.mem e (by omega) hlt hne
        have hF2 := Lib.hid (G.fullTo_step HB.out.2 (by omega) hlt hne ⟨m2, m3⟩ hF.out)
        have hpV := G.pwZ_vec m2.1 (-(gt Y e))
        have hpl : (pwZ P (gt dl e) (-(gt Y e))).length ≤ 6 := by rw [hpV.1]; omega
        have HD := Lib.hid (And.intro m2.1 (And.intro hpV (And.intro hpl (And.intro hYV (And.intro hyd ho))))); clear m2 m3 hpV hpl hYV hyd ho hne hy
        have hg0e := grown_trans hg hge
        have e1 : ∀ w', Ext wr w' → w'.cell? ⟨w.heap.size, 0, none⟩ = some vo6 := fun w' h => (grown_trans hg0e h).cell hc0 (by simp)
        have e2 : ∀ w', Ext wr w' → w'.cell? ⟨w.heap.size, 1, none⟩ = some vp6 := fun w' h => (grown_trans hg0e h).cell hc1 (by simp)
        have e3 : ∀ w', Ext wr w' → w'.cell? ⟨w.heap.size, 2, none⟩ = some vc6 := fun w' h => (grown_trans hg0e h).cell hc2 (by simp)
        have e4 : ∀ w', Ext wr w' → w'.cell? ⟨w.heap.size + 1, e, none⟩ = some (.slice (some ab) (gt dl e).length capb) := fun w' h => h.cell hcr (by simp)
        have e5 : ∀ w', Ext wr w' → w'.cell? ⟨by_, oy + e, none⟩ = some (.int .i64 (gt Y e)) := fun w' h => h.cell hcy (by simp)
        go_wp2
        clear hcr hcy hcell
        go_region_held3 (fun w' => Ext wr w') (first | exact grown_drew _ _ | assumption)
         (first
          | (go_at_call 106; refine Calls.mono (Calls.rel (w0 := wr) (by assumption) (l10Pow_ok P G _ _ _ (gt dl e) _ Any Any ⟨_, _, _, rfl, Pres3.ext (Pres3.ext h36 hg0e) (by assumption)⟩ (Ints.sub (Ints.ext (Ints.ext hbI hge) (by assumption)) (fun _ _ _ => trivial)) HD.out.1 (by have := HD.out.2.2.2.2.1; have := HD.out.2.2.2.2.2; omega))) ?_; rintro eA wA ⟨vA, rfl, hgA, hsA, hOA⟩; have hOA2 := hOA.ints (by have := HD.out.2.2.1; omega))
          | (go_at_call 240; refine Calls.mono (Calls.rel (w0 := wr) (by assumption) (l08Mul_ok P hP _ _ _ _ Y _ Any Any Any ⟨_, _, _, rfl, Pres3.ext (Pres3.ext h36 hg0e) (by assumption)⟩ (Ints.sub (Ints.ext hY (by assumption)) (fun _ _ _ => trivial)) hOA2 HD.out.2.2.2.1 HD.out.2.1)) ?_; rintro eB wB ⟨vB, rfl, hgB, hsB, hOB⟩))
        clear e1 e2 e3 e4 e5
        have hYB : Ints (fun k => k ≠ w.heap.size + 1 ∧ ¬ Av k) wB vB (rMul P Y (pwZ P (gt dl e) (-(gt Y e)))) := ints_of_own hOB (by rw [hF2.out.vec.1]; omega) (fun k hk => by have h1 := (hOB.lt k hk).1; have := hT.lt; have := hge.size; exact ⟨by omega, fun h => by have := (hAv k h).1; have := hg0.size; have := hg.size; omega⟩)
        go_wp2
        go_roundw
        case rel => exact ⟨e + 1, _, by go_num, by omega, by omega, grown_trans hge hgB, hYB, hF2⟩
        case measure => simp [intOf]; omega
     ·have hee : e = P.orders.length := by omega
      subst hee
      have hYne : Y ≠ [] := fun h => by rw [h] at hYl; simp at hYl; omega
      have hTr := hT.ext hge
      obtain ⟨hs5, hg5⟩ := hTr.put d (u := .slice ay P.orders.length capy) (y := Y) (Ints.sub hY (fun k hk _ => hk)) hYne
      obtain ⟨hfr, hcc⟩ := hTr.at d hdn
      have hcd : wr.cell? ⟨w.heap.size + 1, d, none⟩ = some (.slice none 0 0) := hcc.elim (fun h => h.2) (fun h => absurd (hC.out.2 d (by omega)) h.1)
      have hst := (G.can_step (k := P.orders.length - (d + 1)) HI.out.1 hC.out.1 (by omega) HB.out.1 (hF.out.repTo hC.out.1 (by omega))).1
      have hC2 : CanInv P H (gt b) (gt (dl.set d Y)) d := hst.congr (fun i h1 h2 => by
       by_cases hi : i = d
       ·subst hi; rw [if_pos rfl, gt_set_eq _ _ _ (by rw [hT.len]; omega)]
       ·rw [if_neg hi, gt_set_ne _ _ _ _ (fun h => hi h.symm)])
      have HC2 : Hid (CanInv P H (gt b) (gt (dl.set d Y)) d ∧ ∀ i, i < d → gt (dl.set d Y) i = []) := Lib.hid ⟨hC2, fun i hi => by rw [gt_set_ne _ _ _ _ (by omega)]; exact hC.out.2 i (by omega)⟩
      have hg0n : Ext w0 (wr.setCell ⟨w.heap.size + 1, d, none⟩ (.slice ay P.orders.length capy)) := grown_own (grown_trans hg hge) hg5 (fun j hj hlt => by cases hj; have := HS.out; omega)
      clear hcc hst hC2 hYV hTr hg5
      go_wp2
      go_roundw
      case rel => exact ⟨d, dl.set d Y, rfl, by omega, hg0n, hs5, HC2⟩
      case measure => simp [intOf]
end Go.Proofs.YtdcobapnlpeaaaaGreat
namespace Go.Proofs.YtdcobapnlpeaaaaGreat
open Go.RowKit
set_option maxRecDepth 100000 in
set_option maxHeartbeats 2000000 in
theorem l12Strip_ok (P : Pr) (G : Grp P) (w : World) (pv tv xv : Value) (b : List (List Int)) (X : List Int) (Sp Sb Sx : Nat → Prop) (hpv : PresV Sp w pv P) (ht : Rows2 Sb w tv b) (hx : Ints Sx w xv X) (hX : Vec P.orders X)
  (hlb : b.length = P.orders.length) (htab : ∀ d, d < P.orders.length → gt b d ≠ [] → T P d (gt b d) ∧ gt (gt b d) d = 1) :
  Calls Tryz.prog 214 #[pv, tv, xv] w (Ret w fun w' v => ∃ (d : Nat) (r : Value) (Y : List Int), v = .tuple #[.int .i64 d, r] ∧ Own w.heap.size w' r Y ∧ StripTo P b X d Y ∧ d ≤ P.orders.length ∧ (d < P.orders.length → gt Y d ≠ 0 ∧ gt b d = [])) := by
 have hP := G.v
 have hn6 := hP.n6
 obtain ⟨vo, vp, vc, rfl, h3⟩ := hpv
 have hp0 := PresP.box h3 28
 have hg0 : Ext w (w.alloc (.cells #[vo, vp, vc] 28)) := World.grownBy_alloc _ _ _
 have hx0 := hx.ext hg0
 have ht0 := Rows2.ext ht hg0
 have hXl : X.length ≤ 6 := by rw [hX.1]; omega
 have hs0 : (w.alloc (.cells #[vo, vp, vc] 28)).heap.size = w.heap.size + 1 := by simp
 obtain ⟨at_, capt, hvt, _, _⟩ := Sl.shape ht
 rw [hlb] at hvt
 subst hvt
 have HI := Lib.hid (And.intro htab (And.intro hX hlb)); clear htab hX hlb
 obtain ⟨vo6, vp6, vc6, _, _, hc0, hc1, hc2, h36⟩ := hp0.at
 simp only [Nat.zero_add] at hc1 hc2
 clear hp0
 go_enter Tryz.func214, Tryz.ntmps214
 go_wp2_with fail
 have HS := Lib.hid hs0; clear hs0
 generalize hw0 : w.alloc (.cells #[vo, vp, vc] 28) = w0 at *
 clear hw0
 refine Calls.mono (l01Own_ok w0 xv X Sx hx0 (by omega)) ?_
 rintro e1 w1 ⟨ov, rfl, hg1, hO1⟩
 go_wp2
 go_loopw [8, 9] (fun ov iv wr => ∃ (d : Nat) (Y : List Int), iv = .int .i64 d ∧ d ≤ P.orders.length ∧ Ext w0 wr ∧ Own w.heap.size wr ov Y ∧ Hid (StripTo P b X d Y)) (fun _ iv _ => P.orders.length - (intOf iv).toNat)
 case atStart => exact ⟨0, X, rfl, by omega, hg1, hO1.weak (by have := HS.out; omega), Lib.hid (stripTo_zero HI.out.2.1)⟩
 case round =>
  clear hO1
  obtain ⟨d, Y, rfl, hd, hg, hO, hR⟩ := hrel
  have hYV := hR.out.vec.1
  have hYl : Y.length = P.orders.length := hYV.1
  have hYi := hO.ints (by omega)
  obtain ⟨ay, capy, hvy, _, _⟩ := hYi.shape
  rw [hYl] at hvy
  subst hvy
  by_cases hlt : d < P.orders.length
  ·have hlt' : (d : Int) < P.orders.length := by omega
   obtain ⟨bb, off, a2, cap2, rfl, _, _, hc, hr⟩ := Rows2.at (Rows2.ext ht0 hg) d (by rw [HI.out.2.2]; exact hlt)
   obtain ⟨by_, oy, rfl, _, _, hcy⟩ := Ints.at hYi d (by omega)
   by_cases hy : gt Y d = 0
   ·have hyb : (gt Y d == 0) = true := by simp [hy]
    have hR2 := Lib.hid (hR.out.skip hy); clear hYV hy
    go_wp2
    go_roundw
    case rel => exact ⟨d + 1, Y, by go_num, by omega, hg, hO, hR2⟩
    case measure => simp [intOf]; omega
   ·have hyb : (gt Y d == 0) = false := by simp [hy]
    by_cases hb : gt b d = []
    ·have hbl : ((((gt b d).length : Nat) : Int) == 0) = true := by rw [hb]; rfl
     have HB := Lib.hid (And.intro hb hy); clear hb hYV hy
     go_wp2
     go_ret2
     exact ⟨_, rfl, grown_trans hg0 hg, d, _, Y, rfl, hO, hR.out, by omega, fun _ => ⟨HB.out.2, HB.out.1⟩⟩
    ·have hbl : ((((gt b d).length : Nat) : Int) == 0) = false := by
      have : 0 < (gt b d).length := List.length_pos_iff.2 hb
      simp; omega
     have hyd := hYV.2 d hlt
     have ho := hP.ord7 d hlt
     have hwn : IntKind.i64.wrap (-(gt Y d)) = -(gt Y d) := IntWalk.i64_in _ (by omega)
     obtain ⟨m2, m3⟩ := HI.out.1 d hlt hb
     have hR2 := Lib.hid (G.stripTo_step hlt hb ⟨m2, m3⟩ hy hR.out)
     have hpV := G.pwZ_vec m2.1 (-(gt Y d))
     have hpl : (pwZ P (gt b d) (-(gt Y d))).length ≤ 6 := by rw [hpV.1]; omega
     have HB := Lib.hid (And.intro m2.1 (And.intro hpV (And.intro hpl (And.intro hYV (And.intro hyd ho))))); clear m2 m3 hpV hpl hYV hyd ho hb hy
     have e1 : ∀ w', Ext wr w' → w'.cell? ⟨w.heap.size, 0, none⟩ = some vo6 := fun w' h => (grown_trans hg h).cell hc0 (by simp)
     have e2 : ∀ w', Ext wr w' → w'.cell? ⟨w.heap.size, 1, none⟩ = some vp6 := fun w' h => (grown_trans hg h).cell hc1 (by simp)
     have e3 : ∀ w', Ext wr w' → w'.cell? ⟨w.heap.size, 2, none⟩ = some vc6 := fun w' h => (grown_trans hg h).cell hc2 (by simp)
     have e4 : ∀ w', Ext wr w' → w'.cell? ⟨bb, off + d, none⟩ = some (.slice a2 (gt b d).length cap2) := fun w' h => h.cell hc (by simp)
     have e5 : ∀ w', Ext wr w' → w'.cell? ⟨by_, oy + d, none⟩ = some (.int .i64 (gt Y d)) := fun w' h => h.cell hcy (by simp)
     go_wp2
     clear hc hcy
     go_region_held3 (fun w' => Ext wr w') (first | exact grown_drew _ _ | assumption)
      (first
       | (go_at_call 106; refine Calls.mono (Calls.rel (w0 := wr) (by assumption) (l10Pow_ok P G _ _ _ (gt b d) _ Any Any ⟨_, _, _, rfl, Pres3.ext (Pres3.ext h36 hg) (by assumption)⟩ (Ints.sub (Ints.ext hr (by assumption)) (fun _ _ _ => trivial)) HB.out.1 (by have := HB.out.2.2.2.2.1; have := HB.out.2.2.2.2.2; omega))) ?_; rintro eA wA ⟨vA, rfl, hgA, hsA, hOA⟩; have hOA2 := hOA.ints (by have := HB.out.2.2.1; omega))
       | (go_at_call 240; refine Calls.mono (Calls.rel (w0 := wr) (by assumption) (l08Mul_ok P hP _ _ _ _ Y _ Any Any Any ⟨_, _, _, rfl, Pres3.ext (Pres3.ext h36 hg) (by assumption)⟩ (Ints.sub (Ints.ext hYi (by assumption)) (fun _ _ _ => trivial)) hOA2 HB.out.2.2.2.1 HB.out.2.1)) ?_; rintro eB wB ⟨vB, rfl, hgB, hsB, hOB⟩))
     clear e1 e2 e3 e4 e5
     go_wp2
     go_roundw
     case rel => exact ⟨d + 1, _, by go_num, by omega, grown_trans hg hgB, hOB.weak (by have := hg.size; have := HS.out; omega), hR2⟩
     case measure => simp [intOf]; omega
  ·have hde : d = P.orders.length := by omega
   subst hde
   go_wp2
   go_ret2
   exact ⟨_, rfl, grown_trans hg0 hg, _, _, Y, rfl, hO, hR.out, by omega, fun h => absurd h (by omega)⟩
end Go.Proofs.YtdcobapnlpeaaaaGreat
namespace Go.Proofs.YtdcobapnlpeaaaaGreat
theorem Grp.genP_cseq {P : Pr} (G : Grp P) {H : List Int → Prop} (S : Sub P H) : genP P (fun x => x ∈ cseq P H) = H := by
 have hm := G.seq_facts S
 have hV : ∀ y, y ∈ cseq P H → Vec P.orders y := fun y hy => S.vec y (hm.2.1 y hy)
 refine funext fun x => propext ⟨fun h => h H S hm.2.1, fun h => ?_⟩
 exact elsP_sub (G.genP_sub hV) (fun z hz => genP_mem hz) _ (Nat.le_refl _) x ((G.elsP_mem S hm.1 hm.2.1 hm.2.2 x).2 h)
theorem Grp.subB {P : Pr} (G : Grp P) {u : List (List Int)} (h : SubB P u) : Sub P (genP P (fun x => x ∈ u)) := G.genP_sub h.1
theorem Grp.subB_cseq {P : Pr} (G : Grp P) {H : List Int → Prop} (S : Sub P H) : SubB P (cseq P H) :=
 ⟨fun x hx => S.vec x ((G.seq_facts S).2.1 x hx), by rw [G.genP_cseq S]⟩
end Go.Proofs.YtdcobapnlpeaaaaGreat
namespace Go.Proofs.YtdcobapnlpeaaaaGreat
open Go.RowKit
theorem run_head_rows (w : World) (a : Option Addr) (n cap : Nat) (k : Int) (h0 : 0 ≤ k) (h1 : k ≤ cap) :
  (Instr.slice 25 (.slice a n cap) none (some (.int .i64 k)) none).run Tryz.prog w = .ok (.slice a k.toNat cap) w := by
 rw [run_slice_h w 25 a n cap (by kernel_rfl) .i64 k h0 h1]
 have : (sizeOf (Tryz.prog.elem 25)).run Tryz.prog w = .ok 1 w := by kernel_rfl
 rw [this]
 cases a with
 | none => simp [Result.andThen, sliced]
 | some a => simp [Result.andThen, sliced, Addr.add]
theorem QOwn.init {B E n cap : Nat} {w : World} {a : Option Addr} {x : Value} {vs : List Value} (h : QOwn B E w (.slice a n cap) (vs ++ [x])) : QOwn B E w (.slice a vs.length cap) vs := by
 rcases h with ⟨_, h⟩ | ⟨g, off, cap', cur, hv, hb, hg, h1, h2, h3, h4⟩
 ·simp at h
 ·simp only [Value.slice.injEq] at hv
  obtain ⟨rfl, rfl, rfl⟩ := hv
  simp only [List.length_append, List.length_singleton] at h1 h4
  exact .inr ⟨g, off, cap, cur, rfl, hb, hg, by omega, h2, h3, fun i hi => by rw [h4 i (by omega), gt_append_left _ _ _ hi]⟩
theorem ShQ.init {bad : Nat → Prop} {B n cap : Nat} {w : World} {a : Option Addr} {x : List Int} {xs : List (List Int)} (h : ShQ bad B w (.slice a n cap) (xs ++ [x])) : ShQ bad B w (.slice a xs.length cap) xs := by
 obtain ⟨vs, hl, hq, hr⟩ := h
 obtain ⟨ws, u, rfl⟩ : ∃ ws u, vs = ws ++ [u] := by
  refine ⟨vs.dropLast, vs.getLast (fun e => by rw [e] at hl; simp at hl), (List.dropLast_concat_getLast _).symm⟩
 have hl2 : ws.length = xs.length := by simpa using hl
 refine ⟨ws, hl2, by rw [← hl2]; exact hq.init, fun i hi => ?_⟩
 have h2 := hr i (by simp; omega)
 rw [gt_append_left _ _ _ (by omega), gt_append_left _ _ _ hi] at h2
 exact Ints.sub h2 (fun k hk _ => ⟨hk.1, fun e => hk.2 (by cases a <;> exact e)⟩)
set_option maxHeartbeats 1000000 in
theorem l01Own2_ok (w : World) (v : Value) (L : List (List Int)) (S : Nat → Prop) (hv : Rows2 S w v L) (hL : ∀ x ∈ L, x.length ≤ 1000000) (hlen : L.length ≤ 1000000) :
  Calls Tryz.prog 213 #[v] w (Ret w fun w' r => RowsO w.heap.size w' r L) := by
 obtain ⟨a, cap, rfl, _, _⟩ := Sl.shape hv
 have HL := Lib.hid hL; clear hL
 go_enter Tryz.func213, Tryz.ntmps213
 go_wp2
 go_loopw [3, 4] (fun ov iv wr => ∃ (i : Nat) (v4 : Value), v4 = ov ∧ iv = .int .i64 i ∧ i ≤ L.length ∧ Ext w wr ∧ RowsO w.heap.size wr v4 (L.take i)) (fun _ iv _ => L.length - (intOf iv).toNat)
 case atStart => exact ⟨0, _, rfl, rfl, by omega, World.grownBy_alloc _ _ _, [], fun _ _ => False, rfl, World.ownsRow_lit w #[] 0 (Nat.le_refl _) (by decide) rfl, by simp, by simp, by simp⟩
 case round =>
  obtain ⟨i, v4, rfl, rfl, hi, hg, hO⟩ := hrel
  by_cases hlt : i < L.length
  ·have hlt' : (i : Int) < L.length := by omega
   obtain ⟨b, off, a2, cap2, rfl, _, _, hc, hr⟩ := Rows2.at (Rows2.ext hv hg) i hlt
   have hstep := take_succ_gt L i hlt
   have hll := HL.out _ (gtMem hlt)
   have htl : (L.take i).length ≤ 1000000 := by rw [List.length_take]; omega
   have HST := Lib.hid (And.intro hstep hll); clear hstep hll
   go_wp2_with fail
   refine Calls.mono (l01Own_ok wr _ (gt L i) _ hr (by have := HST.out.2; omega)) ?_
   rintro eC wC ⟨vC, rfl, hgC, hOC⟩
   have hYO : OwnIn (From wr.heap.size) wC vC (gt L i) := OwnIn.of hOC (by have := HST.out.2; omega) (fun j h1 _ => h1)
   obtain ⟨ay, capy, hvy, _, _⟩ := hYO.ints.shape
   subst hvy
   clear hc
   go_wp2_with (first | (at_builtin; refine wp_app_row rfl _ _ rfl w.heap.size wr wC v4 _ (L.take i) (gt L i) rfl hO hgC hYO rfl rfl htl hg.size ?_; intro v5 w5 hO5 hg5 hg6; have hgw5 := hO.extw hg (Nat.le_refl _) hg5) | fail)
   go_roundw
   case rel => exact ⟨i + 1, v5, rfl, by go_num, by omega, hgw5, by rw [HST.out.1]; exact hO5⟩
   case measure => simp [intOf]; omega
  ·have hie : i = L.length := by omega
   subst hie
   rw [List.take_length] at hO
   obtain ⟨az, capz, hvz, _, _⟩ := SlD.shape (hO.toD (by omega))
   subst hvz
   go_wp2
   go_ret
   exact ⟨_, rfl, hg, hO⟩
set_option maxRecDepth 100000 in
set_option maxHeartbeats 2000000 in
theorem l10Comm_ok (P : Pr) (G : Grp P) (w : World) (pv a b : Value) (A B : List Int) (Sp Sa Sb : Nat → Prop) (hp : PresV Sp w pv P) (ha : Ints Sa w a A) (hb : Ints Sb w b B) (hA : Vec P.orders A) (hB : Vec P.orders B) :
  Calls Tryz.prog 216 #[pv, a, b] w (Ret w fun w' v => Own w.heap.size w' v (comR P A B)) := by
 have hP := G.v
 obtain ⟨vo, vp, vc, rfl, h3⟩ := hp
 have hn6 := hP.n6
 have hV1 := G.mulV hB hA
 have hV2 := G.invV hV1
 have hV3 := G.mulV hA hB
 have HV := Lib.hid (And.intro hV1 (And.intro hV2 hV3)); clear hV1 hV2 hV3
 have hg0 : Ext w (w.alloc (.cells #[vo, vp, vc] 28)) := World.grownBy_alloc _ _ _
 have hBx := PresP.box h3 28
 have ha0 := ha.ext hg0
 have hb0 := hb.ext hg0
 have hs0 : (w.alloc (.cells #[vo, vp, vc] 28)).heap.size = w.heap.size + 1 := by simp
 have HS := Lib.hid hs0; clear hs0 ha hb
 go_enter Tryz.func216, Tryz.ntmps216
 go_wp2
 generalize hw0 : w.alloc (.cells #[vo, vp, vc] 28) = w0 at *
 clear hw0
 obtain ⟨vo6, vp6, vc6, _, _, hc0, hc1, hc2, h36⟩ := hBx.at
 have e1 : ∀ w', Ext w0 w' → w'.cell? ⟨w.heap.size, 0, none⟩ = some vo6 := fun w' h => h.cell hc0 (by simp)
 have e2 : ∀ w', Ext w0 w' → w'.cell? ⟨w.heap.size, 1, none⟩ = some vp6 := fun w' h => h.cell (by simpa using hc1) (by simp)
 have e3 : ∀ w', Ext w0 w' → w'.cell? ⟨w.heap.size, 2, none⟩ = some vc6 := fun w' h => h.cell (by simpa using hc2) (by simp)
 clear hc0 hc1 hc2
 go_region_held3 (fun w' => Ext w0 w') (first | exact grown_drew _ _ | assumption)
  (first
   | (revert hOF2; intro hOF2; go_at_call 240; refine Calls.mono (Calls.rel (w0 := w0) (by assumption) (l08Mul_ok P hP _ _ _ _ _ _ Any Any Any ⟨_, _, _, rfl, Pres3.ext h36 (by assumption)⟩ hOB2 hOF2 HV.out.2.1 HV.out.2.2)) ?_; rintro eC wC ⟨vC, rfl, hgC, hsC, hOC⟩)
   | (revert hOB; intro hOB; go_at_call 240; refine Calls.mono (Calls.rel2 (w0 := w0) (by assumption) (l08Mul_ok P hP _ _ _ _ A B Any Sa Sb ⟨_, _, _, rfl, Pres3.ext h36 (by assumption)⟩ (Ints.ext ha0 (by assumption)) (Ints.ext hb0 (by assumption)) hA hB)) ?_; rintro eF wF ⟨vF, rfl, hgF, hgF2, hsF, hOF⟩; have hOB2 := (hOB.ext0 hgF2).ints (by rw [HV.out.2.1.1]; omega); have hOF2 := hOF.ints (by rw [HV.out.2.2.1]; omega))
   | (go_at_call 211; refine Calls.mono (Calls.rel (w0 := w0) (by assumption) (l10Inv_ok P hP _ _ _ _ Any Any ⟨_, _, _, rfl, Pres3.ext h36 (by assumption)⟩ hOA2 HV.out.1)) ?_; rintro eB wB ⟨vB, rfl, hgB, hsB, hOB⟩)
   | (go_at_call 240; refine Calls.mono (Calls.rel (w0 := w0) (by assumption) (l08Mul_ok P hP _ _ _ _ B A Any Sb Sa ⟨_, _, _, rfl, Pres3.ext h36 (by assumption)⟩ (Ints.ext hb0 (by assumption)) (Ints.ext ha0 (by assumption)) hB hA)) ?_; rintro eA wA ⟨vA, rfl, hgA, hsA, hOA⟩; have hOA2 := hOA.ints (by rw [HV.out.1.1]; omega)))
 clear e1 e2 e3
 go_wp2
 go_ret
 exact ⟨_, rfl, grown_trans hg0 hgC, hOC.weak (by have := HS.out; omega)⟩
theorem l01Mod_ok (a m : Int) (w : World) (h1 : 0 ≤ a) (h2 : a < m) :
  Calls Tryz.prog 283 #[.int .i64 a, .int .i64 m] w fun e w' => e = .returned (.int .i64 a) ∧ w = w' := by
 have e1 : a.tmod m = a := Int.tmod_eq_of_lt h1 h2
 have hm0 : m ≠ 0 := by omega
 have hmb : (m == 0) = false := by simp; omega
 go_enter Tryz.func283, Tryz.ntmps283
 go_wp2
 go_ret
 exact ⟨rfl, rfl⟩
theorem inv_ex {a m : Int} (hm : m = 2 ∨ m = 3 ∨ m = 5 ∨ m = 7) (h1 : 1 ≤ a) (h2 : a < m) : ∃ y : Int, 1 ≤ y ∧ y < m ∧ (a * y) % m = 1 := by
 rcases hm with rfl | rfl | rfl | rfl
 ·have : a = 1 := by omega
  subst this; exact ⟨1, by decide, by decide, by decide⟩
 ·rcases (show a = 1 ∨ a = 2 by omega) with rfl | rfl
  ·exact ⟨1, by decide, by decide, by decide⟩
  ·exact ⟨2, by decide, by decide, by decide⟩
 ·rcases (show a = 1 ∨ a = 2 ∨ a = 3 ∨ a = 4 by omega) with rfl | rfl | rfl | rfl
  ·exact ⟨1, by decide, by decide, by decide⟩
  ·exact ⟨3, by decide, by decide, by decide⟩
  ·exact ⟨2, by decide, by decide, by decide⟩
  ·exact ⟨4, by decide, by decide, by decide⟩
 ·rcases (show a = 1 ∨ a = 2 ∨ a = 3 ∨ a = 4 ∨ a = 5 ∨ a = 6 by omega) with rfl | rfl | rfl | rfl | rfl | rfl
  ·exact ⟨1, by decide, by decide, by decide⟩
  ·exact ⟨4, by decide, by decide, by decide⟩
  ·exact ⟨5, by decide, by decide, by decide⟩
  ·exact ⟨2, by decide, by decide, by decide⟩
  ·exact ⟨3, by decide, by decide, by decide⟩
  ·exact ⟨6, by decide, by decide, by decide⟩
set_option maxHeartbeats 1000000 in
theorem l01Inv_ok (a m : Int) (w : World) (hm : m = 2 ∨ m = 3 ∨ m = 5 ∨ m = 7) (h1 : 1 ≤ a) (h2 : a < m) :
  Calls Tryz.prog 215 #[.int .i64 a, .int .i64 m] w (Ret w fun _ v => ∃ k : Int, v = .int .i64 k ∧ 0 ≤ k ∧ k < m ∧ (k * a) % m = 1) := by
 have hex := inv_ex hm h1 h2
 have HE := Lib.hid hex; clear hex
 have hm7 : 2 ≤ m ∧ m ≤ 7 := by omega
 obtain ⟨hm2, hm7⟩ := hm7
 clear hm
 have hcon := l01Mod_ok a m w (by omega) h2
 go_enter Tryz.func215, Tryz.ntmps215
 go_wp2
 go_loopw [5] (fun xv wr => ∃ x : Int, xv = .int .i64 x ∧ 1 ≤ x ∧ x ≤ m ∧ w = wr ∧ Hid (∀ y, 1 ≤ y → y < x → (a * y) % m ≠ 1)) (fun xv _ => (m - intOf xv).toNat)
 case atStart => exact ⟨1, rfl, by omega, by omega, rfl, Lib.hid (fun y h1 h2 => by omega)⟩
 case round =>
  obtain ⟨x, rfl, hx1, hxm, rfl, hN⟩ := hrel
  by_cases hlt : x < m
  ·have hax0 : 0 ≤ a * x := Int.mul_nonneg (by omega) (by omega)
   have hax : a * x ≤ 7 * 7 := Int.mul_le_mul (by omega) (by omega) (by omega) (by omega)
   have e1 : IntKind.i64.wrap (a * x) = a * x := IntWalk.i64_in _ (by omega)
   have e2 : (a * x).tmod m = (a * x) % m := Int.tmod_eq_emod_of_nonneg hax0
   have hm0 : (m == 0) = false := by simp; omega
   by_cases hq : (a * x) % m = 1
   ·have hb : ((a * x) % m == 1) = true := by simp [hq]
    have hq2 : (x * a) % m = 1 := by rw [Int.mul_comm]; exact hq
    have HQ := Lib.hid hq2; clear hq hq2
    go_wp2_with fail
    refine Calls.mono hcon ?_
    rintro e5 w5 ⟨rfl, rfl⟩
    clear hcon
    go_wp2
    go_ret
    exact ⟨_, rfl, Ext.refl _, x, rfl, by omega, hlt, HQ.out⟩
   ·have hb : ((a * x) % m == 1) = false := by simp [hq]
    have HQ := Lib.hid hq; clear hq
    go_wp2_with fail
    refine Calls.mono hcon ?_
    rintro e5 w5 ⟨rfl, rfl⟩
    clear hcon
    go_wp2
    go_roundw
    case rel => exact ⟨x + 1, by go_num, by omega, by omega, trivial, Lib.hid (fun y h1 h2 => by
     by_cases hy : y = x
     ·rw [hy]; exact HQ.out
     ·exact hN.out y h1 (by omega))⟩
    case measure => simp [intOf]; omega
  ·obtain ⟨y, h1, h2, h3⟩ := HE.out
   exact absurd h3 (hN.out y h1 (by omega))
end Go.Proofs.YtdcobapnlpeaaaaGreat
namespace Go.Proofs.YtdcobapnlpeaaaaGreat
open Go.RowKit
attribute [local go_sem ↓] Go.wp_at_zero Go.wp_at_succ
theorem rows_bound {P : Pr} {N : Nat} (h : Shp N P) (hN : N ≤ 1000) : (∀ x ∈ P.powers, x.length ≤ 1000000) ∧ P.powers.length ≤ 1000000 ∧ P.conj.length ≤ 1000000 ∧ (∀ i, i < P.conj.length → (∀ x ∈ gt P.conj i, x.length ≤ 1000000) ∧ (gt P.conj i).length ≤ 1000000) := by
 have hn := h.n
 refine ⟨fun x hx => by have := h.pv x hx; omega, by rw [h.p]; omega, by rw [h.c]; omega, fun i hi => ⟨fun x hx => ?_, ?_⟩⟩
 ·have := h.cv _ (by rw [gt_eq _ i hi]; exact List.getElem_mem hi) x hx
  omega
 ·rw [h.cl i (by rw [← h.c]; exact hi)]; omega
def OwnCut (w0 : World) (P : Pr) (q : Value) (wx : World) : Prop := ∃ qb a n c a2 n2 c2, q = .pointer (some ⟨qb, 0, none⟩) ∧ w0.heap.size ≤ qb ∧ Ext w0 wx ∧ Box3 wx qb (.slice a n c) (.slice a2 n2 c2) (.slice none 0 0) ∧
 PresX (fun k => w0.heap.size ≤ k ∧ k ≠ qb) wx (.slice a n c) (.slice a2 n2 c2) (.slice none 0 0) ⟨P.orders, P.powers, []⟩
theorem ownCut_mk {w0 wx : World} {P : Pr} {qb n c n2 c2 a1 a2 b1 b2 : Nat} {a a' : Option Addr} (hq : w0.heap.size ≤ qb) (hE : Ext w0 wx) (hB : Box3 wx qb (.slice a n c) (.slice a' n2 c2) (.slice none 0 0))
  (hA : OwnIn (fun k => a1 ≤ k ∧ k < a2) wx (.slice a n c) P.orders) (hR : RowsI (fun k => b1 ≤ k ∧ k < b2) wx (.slice a' n2 c2) P.powers)
  (h1 : w0.heap.size ≤ a1) (h2 : w0.heap.size ≤ b1) (h3 : a2 ≤ b1 ∨ b2 ≤ a1) (h4 : ¬ (a1 ≤ qb ∧ qb < a2)) (h5 : ¬ (b1 ≤ qb ∧ qb < b2)) : OwnCut w0 P (.pointer (some ⟨qb, 0, none⟩)) wx :=
 ⟨qb, a, n, c, a', n2, c2, rfl, hq, hE, hB, fun k => a1 ≤ k ∧ k < a2, fun k => b1 ≤ k ∧ k < b2, fun _ => False, hA, hR, ⟨[], fun _ _ => False, rfl, by simp, World.ownsRow_nil _ _ _ _, by simp [Value.ownBlock], by simp, by simp, by simp⟩,
  fun k hk => ⟨⟨by omega, fun e => h4 (e ▸ hk)⟩, fun e => by omega, fun e => e⟩, fun k hk => ⟨⟨by omega, fun e => h5 (e ▸ hk)⟩, fun e => e⟩, fun k hk => hk.elim⟩
set_option maxRecDepth 100000 in
set_option maxHeartbeats 4000000 in
theorem l07Own_ok (w : World) (pv : Value) (P : Pr) (S : Nat → Prop) (N : Nat) (hp : PresV S w pv P) (hS : Shp N P) (hN : N ≤ 1000) :
  Calls Tryz.prog 293 #[pv] w (Ret w (PresR w.heap.size P)) := by
 obtain ⟨vo, vp, vc, rfl, h3⟩ := hp
 obtain ⟨ao, capo, hvo, _, _⟩ := h3.o.shape
 obtain ⟨ap, capp, hvp, _, _⟩ := Sl.shape h3.p
 obtain ⟨ac, capc, hvc, _, _⟩ := Sl.shape h3.c
 subst hvo hvp hvc
 have hg0 : Ext w ((w.alloc (.cells #[.slice ao P.orders.length capo, .slice ap P.powers.length capp, .slice ac P.conj.length capc] 28)).alloc (.cells #[.slice none 0 0, .slice none 0 0, .slice none 0 0] 28)) := grown_trans (World.grownBy_alloc _ _ _) (World.grownBy_alloc _ _ _)
 have hA0 := (Box3.made w 28 (.slice ao P.orders.length capo) (.slice ap P.powers.length capp) (.slice ac P.conj.length capc)).ext (World.grownBy_alloc _ (.cells #[.slice none 0 0, .slice none 0 0, .slice none 0 0] 28) _)
 have hR0 := Box3.made (w.alloc (.cells #[.slice ao P.orders.length capo, .slice ap P.powers.length capp, .slice ac P.conj.length capc] 28)) 28 (.slice none 0 0) (.slice none 0 0) (.slice none 0 0)
 have hs1 : (w.alloc (.cells #[.slice ao P.orders.length capo, .slice ap P.powers.length capp, .slice ac P.conj.length capc] 28)).heap.size = w.heap.size + 1 := by simp
 have hs2 : ((w.alloc (.cells #[.slice ao P.orders.length capo, .slice ap P.powers.length capp, .slice ac P.conj.length capc] 28)).alloc (.cells #[.slice none 0 0, .slice none 0 0, .slice none 0 0] 28)).heap.size = w.heap.size + 2 := by simp
 rw [hs1] at hR0
 have hb := rows_bound hS hN
 have hn := hS.n
 have HB := Lib.hid (And.intro hA0 (And.intro hR0 (And.intro hs2 (And.intro hb (And.intro hS hn))))); clear hA0 hR0 hs1 hs2 hb hn
 go_enter Tryz.func293, Tryz.ntmps293
 go_wp2_with fail
 generalize (w.alloc (.cells #[.slice ao P.orders.length capo, .slice ap P.powers.length capp, .slice ac P.conj.length capc] 28)).alloc (.cells #[.slice none 0 0, .slice none 0 0, .slice none 0 0] 28) = w0 at *
 have h30 := h3.ext hg0
 have e0 : ∀ w', Ext w0 w' → w'.cell? ⟨w.heap.size, 0, none⟩ = some (.slice ao P.orders.length capo) := fun w' h => (HB.out.1.ext h).2.1
 have e1 : ∀ w', Ext w0 w' → w'.cell? ⟨w.heap.size, 1, none⟩ = some (.slice ap P.powers.length capp) := fun w' h => (HB.out.1.ext h).2.2.1
 go_cut [3] (fun qv wx => OwnCut w0 P qv wx)
 case first =>
  go_region_held3 (fun w' => Ext w0 w') (first | exact grown_drew _ _ | assumption | exact grown_trans (by assumption) (World.grownBy_alloc _ _ _) | exact grown_own (by assumption) (grown_set3 _ _ _ _ _) (fun j hj hlt => by cases hj; first | (have := hgA.size; omega) | (have := hgB.size; omega) | (simp at hlt)))
   (first
    | (go_at_call 213; refine Calls.mono (Calls.rel2 (w0 := w0) (by assumption) (l01Own2_ok _ _ P.powers S (Rows2.ext h30.p (by assumption)) HB.out.2.2.2.1.1 HB.out.2.2.2.1.2.1)) ?_; rintro eB wB ⟨vB, rfl, hgB, hgB2, hsB, hOB⟩; obtain ⟨aB, capB, hvB, _, _⟩ := SlD.shape (hOB.toD (by have := HB.out.2.2.2.1.2.1; omega)); subst hvB; (try have hQ := Box3.ext hQ hgB2); (first | (have hQ : Box3 _ w0.heap.size _ _ _ := Box3.ext (Box3.made w0.drew _ _ _ _) hgB2) | (have hQ := Box3.ext (Box3.made _ _ _ _ _) hgB2) | skip); (try obtain ⟨f0, f1, f2, f3, f4⟩ := id hQ))
    | (go_at_call 199; refine Calls.mono (Calls.rel2 (w0 := w0) (by assumption) (l01Own_ok _ _ P.orders S (Ints.ext h30.o (by assumption)) (by have := HB.out.2.2.2.2.2; omega))) ?_; rintro eA wA ⟨vA, rfl, hgA, hgA2, hsA, hOA⟩; obtain ⟨aA, capA, hvA, _⟩ := (hOA.ints (by have := HB.out.2.2.2.2.2; omega)).shape; subst hvA; (try have hQ := Box3.ext hQ hgA2); (first | (have hQ : Box3 _ w0.heap.size _ _ _ := Box3.ext (Box3.made w0.drew _ _ _ _) hgA2) | (have hQ := Box3.ext (Box3.made _ _ _ _ _) hgA2) | skip); (try obtain ⟨f0, f1, f2, f3, f4⟩ := id hQ)))
  all_goals (try go_wp2_with fail)
  all_goals go_meet
  all_goals
   have hzA := hgA.size
   have hzB := hgB2.size
   have hnl := HB.out.2.2.2.2.2
   have hpl := HB.out.2.2.2.1.2.1
  ·have hQf := Box3.made wB 28 (.slice aA P.orders.length capA) (.slice aB P.powers.length capB) (.slice none 0 0)
   have hgz := World.grownBy_alloc wB (.cells #[.slice aA P.orders.length capA, .slice aB P.powers.length capB, .slice none 0 0] 28) none
   refine ownCut_mk (a1 := w0.heap.size) (a2 := wA.heap.size) (b1 := wA.heap.size) (b2 := wB.heap.size) (by omega) (grown_trans (by assumption) hgz) hQf
       (rdOwn.mono (OwnIn.of hOA (by omega) (fun k h1 h2 => ⟨h1, h2⟩)) (fun k hk hlt => ⟨hk, by have := hgz.size; omega, (hgz.block k (by omega) (by simp)).trans (hgB2.block k hlt (by simp))⟩))
       (rdRowsI.mono (SlI.of hOB (by omega) (fun k h1 h2 => ⟨h1, h2⟩)) (fun k hk hlt => ⟨hk, by have := hgz.size; omega, hgz.block k hlt (by simp)⟩)) (by omega) (by omega) (by omega) (by omega) (by omega)
  ·have hQf := hQ.all (.slice aA P.orders.length capA) (.slice aB P.powers.length capB) (.slice none 0 0)
   have hgz := grown_set3 wB wA.heap.size (.slice aA P.orders.length capA) (.slice aB P.powers.length capB) (.slice none 0 0)
   have hgv := grown_trans (World.grownBy_alloc wA (.cells #[.slice none 0 0, .slice none 0 0, .slice none 0 0] 28) none) hgB2
   have hzv : (wA.alloc (.cells #[.slice none 0 0, .slice none 0 0, .slice none 0 0] 28)).heap.size = wA.heap.size + 1 := by simp
   refine ownCut_mk (a1 := w0.heap.size) (a2 := wA.heap.size) (b1 := wA.heap.size + 1) (b2 := wB.heap.size) (by omega) (by assumption) hQf
       (rdOwn.mono (OwnIn.of hOA (by omega) (fun k h1 h2 => ⟨h1, h2⟩)) (fun k hk hlt => ⟨hk, by have := hgz.size; omega, (hgz.block k (by omega) (fun e => by cases e; omega)).trans (hgv.block k (by omega) (by simp))⟩))
       (rdRowsI.mono (SlI.of hOB (by omega) (fun k h1 h2 => ⟨by rw [← hzv]; exact h1, h2⟩)) (fun k hk hlt => ⟨hk, by have := hgz.size; omega, hgz.block k hlt (fun e => by cases e; omega)⟩)) (by omega) (by omega) (by omega) (by omega) (by omega)
  ·have hQf := hQ.all (.slice aA P.orders.length capA) (.slice aB P.powers.length capB) (.slice none 0 0)
   have hgz := grown_set3 wB w0.heap.size (.slice aA P.orders.length capA) (.slice aB P.powers.length capB) (.slice none 0 0)
   have hz0 := hQ.1
   refine ownCut_mk (a1 := w0.heap.size + 1) (a2 := wA.heap.size) (b1 := wA.heap.size) (b2 := wB.heap.size) (by omega) (by assumption) hQf
       (rdOwn.mono (OwnIn.of hOA (by omega) (fun k h1 h2 => ⟨by simpa using h1, h2⟩)) (fun k hk hlt => ⟨hk, by have := hgz.size; omega, (hgz.block k (by omega) (fun e => by cases e; omega)).trans (hgB2.block k hlt (by simp))⟩))
       (rdRowsI.mono (SlI.of hOB (by omega) (fun k h1 h2 => ⟨h1, h2⟩)) (fun k hk hlt => ⟨hk, by have := hgz.size; omega, hgz.block k hlt (fun e => by cases e; omega)⟩)) (by omega) (by omega) (by omega) (by omega) (by omega)
 case rest =>
  obtain ⟨qb, a1, n1, c1, a2, n2, c2, rfl, hqb, hg1, hB1, hX1⟩ := hcut
  clear e0 e1
  go_wp2
  go_loopw [4] (fun iv wr => ∃ (i : Nat) (vc : Value), iv = .int .i64 i ∧ i ≤ P.conj.length ∧ Ext w0 wr ∧ Box3 wr qb (.slice a1 n1 c1) (.slice a2 n2 c2) vc ∧
   PresX (fun k => w0.heap.size ≤ k ∧ k ≠ qb) wr (.slice a1 n1 c1) (.slice a2 n2 c2) vc ⟨P.orders, P.powers, P.conj.take i⟩) (fun iv _ => P.conj.length - (intOf iv).toNat)
  case atStart => exact ⟨0, _, rfl, by omega, hg1, hB1, hX1⟩
  case round =>
   clear hB1 hX1 hg1
   obtain ⟨i, vc, rfl, hi, hg, hB, hX⟩ := hrel
   have e2 : ∀ w', Ext wr w' → w'.cell? ⟨w.heap.size, 2, none⟩ = some (.slice ac P.conj.length capc) := fun w' h => (HB.out.1.ext (grown_trans hg h)).2.2.2.1
   have e3 := e2 wr (grown_refl _ _)
   by_cases hlt : i < P.conj.length
   ·have hlt' : (i : Int) < P.conj.length := by omega
    obtain ⟨Fo, Fp, Fc, hP⟩ := hX.part
    obtain ⟨_, _, _, a3, n3, c3, _, rfl, _, hn3⟩ := hX.sh2
    have hnb : (Value.slice a3 n3 c3).ownBlock ≠ some qb := by
     obtain ⟨_, _, _, _, _, q1, _⟩ := hP.c
     exact fun e => (hP.dc _ (q1 _ e)).2 rfl
    obtain ⟨bc, oc, ag, capg, rfl, _, hbcl, hc0, hcr0⟩ := Rows3.at h30.c i hlt
    have hcc := hc0
    have hcr := Rows2.ext hcr0 hg
    clear hcr0
    have hq3 : ∀ k, (Value.slice a3 n3 c3).ownBlock = some k → w0.heap.size ≤ k := by
     obtain ⟨_, _, _, _, _, q1, _⟩ := hP.c
     exact fun k e => (hP.dc _ (q1 _ e)).1
    have hbd := HB.out.2.2.2.1.2.2.2 i hlt
    have hstep := take_succ_gt P.conj i hlt
    have htl : (P.conj.take i).length ≤ 1000000 := by rw [List.length_take]; have := HB.out.2.2.2.1.2.2.1; omega
    obtain ⟨G, hG⟩ : ∃ G, G = gt P.conj i := ⟨_, rfl⟩
    rw [← hG] at hcr hbd hstep hcc hc0
    have HR := Lib.hid (And.intro hstep (And.intro htl (And.intro hnb (And.intro hbd (And.intro hcr hq3))))); clear hstep htl hbd hcr hG hn3 hq3 hnb hcc
    have r2 : ∀ w', Ext w0 w' → w'.cell? ⟨bc, oc + i, none⟩ = some (.slice ag G.length capg) := fun w' h => h.cell hc0 (by simp)
    have r4 : ∀ w', Ext w0 w' → w'.cell? ⟨w.heap.size, 2, none⟩ = some (.slice (some ⟨bc, oc, none⟩) P.conj.length capc) := fun w' h => (HB.out.1.ext h).2.2.2.1
    have r3 : ∀ w', Ext wr w' → w'.cell? ⟨qb, 2, none⟩ = some (.slice a3 n3 c3) := fun w' h => (hB.ext h).2.2.2.1
    have f3 := r3 wr.drew (grown_drew _ _)
    clear e2
    go_wp2
    clear e3
    have f2 := r2 wr.drew (grown_trans hg (grown_drew _ _))
    have f4 := r4 wr.drew (grown_trans hg (grown_drew _ _))
    clear r2 r4
    go_region_law (first
      | (go_simp; go_at_call 213; refine Calls.mono (l01Own2_ok _ _ G S (Rows2.ext HR.out.2.2.2.2.1 (grown_drew _ _)) HR.out.2.2.2.1.1 HR.out.2.2.2.1.2) ?_; rintro eG wG ⟨vG, rfl, hgG, hOG⟩; obtain ⟨aG, capG, hvG, _, _⟩ := SlD.shape (hOG.toD (by have := HR.out.2.2.2.1.2; omega)); subst hvG; have hgG2 : Ext wr wG := grown_trans (grown_drew _ _) hgG; have g3 := r3 wG hgG2; have g4 := r3 (wG.alloc (.cells #[.slice aG G.length capG] 25)) (grown_trans hgG2 (World.grownBy_alloc _ _ _)))
      | (refine step_app_I (rdI rdOwn) 26 (.slice none 0 0) 24 und_rows3 Tryz.infoRows rfl (by decide) (by rfl) _ _ (by rfl) Fc wr wG _ _ (P.conj.take i) G (by rfl) hP.c hgG2 (SlI.of hOG (by have := HR.out.2.2.2.1.2; omega) (fun k h _ => h)) (by rfl) (by rfl) HR.out.2.1 ?_; intro v8 w8 hO8 hg8 hg9; obtain ⟨g8, m8, k8, rfl, hm8⟩ := SlI.sl hO8; clear hm8; have hB8 := Box3.keep hB hg8.size (hg8.block _ hB.1 (fun e => HR.out.2.2.1 e.symm)); have hgw8 : Ext w0 w8 := grown_own hg hg8 (fun j hj hlt => by have := HR.out.2.2.2.2.2 _ hj; omega); obtain ⟨f80, f81, f82, f83, f84⟩ := id hB8))
    all_goals
     have hgw9 : Ext w0 (w8.setCell ⟨qb, 2, none⟩ (.slice g8 m8 k8)) := grown_own hgw8 (grown_set1 _ _ _ _) (fun j hj hlt => by cases hj; omega)
     have hB9 := (hB8.put (.slice g8 m8 k8)).2.2
     have hX9 := hP.newC hO8 hg8
     rw [← HR.out.1] at hX9
     have hX10 : PresX (fun k => w0.heap.size ≤ k ∧ k ≠ qb) (w8.setCell ⟨qb, 2, none⟩ (.slice g8 m8 k8)) (.slice a1 n1 c1) (.slice a2 n2 c2) (.slice g8 m8 k8) ⟨P.orders, P.powers, P.conj.take (i + 1)⟩ :=
      hX9.mono (frame_of (grown_set w8 qb 2 (.slice g8 m8 k8)) (fun k hk hlt => by
       have hk' : (w0.heap.size ≤ k ∧ k ≠ qb) ∨ wr.heap.size ≤ k := hk
       have h1 := hB.1
       have h2 := hg.size
       exact ⟨by omega, fun e => by cases e; omega⟩))
     clear f80 f81 f82 f83 f84 f3 g3 g4 f2 f4 r3
     go_wp2
     go_roundw
     case rel => exact ⟨i + 1, _, by go_num, by omega, hgw9, hB9, hX10⟩
     case measure => simp [intOf]; omega
   ·have hie : i = P.conj.length := by omega
    subst hie
    rw [List.take_length] at hX
    clear e2
    obtain ⟨_, _, _, a3, n3, c3, _, rfl, hn2, hn3⟩ := hX.sh2
    clear hn2 hn3
    have hz := HB.out.2.1.ext hg
    obtain ⟨h0, h1, h2, h3', h4⟩ := id hB
    obtain ⟨k0, k1, k2, k3, k4⟩ := id hz
    have hZ := hz.all (.slice a1 n1 c1) (.slice a2 n2 c2) (.slice a3 n3 c3)
    have hT := grown_set3 wr (w.heap.size + 1) (.slice a1 n1 c1) (.slice a2 n2 c2) (.slice a3 n3 c3)
    obtain ⟨_, z0, z1, z2, _⟩ := id hZ
    have HT := Lib.hid hT; clear hT hZ
    go_wp2
    refine bodyPost_ret (v := .agg #[.slice a1 n1 c1, .slice a2 n2 c2, .slice a3 n3 c3]) (by simp [results, Tryz.results293, go_sem, z0, z1, z2]) rfl ?_
    have hs2 := HB.out.2.2.1
    exact ⟨_, rfl, grown_own (grown_trans hg0 hg) HT.out (fun j hj hlt => by cases hj; omega), _, _, _, rfl, hX.mono (frame_of HT.out (fun k hk _ => ⟨by show w.heap.size ≤ k; omega, fun e => by cases e; omega⟩))⟩
end Go.Proofs.YtdcobapnlpeaaaaGreat
namespace Go.Proofs.YtdcobapnlpeaaaaGreat
open Go.RowKit
attribute [local go_sem ↓] Go.wp_at_zero Go.wp_at_succ
def Sm (l : List Int) : Prop := ∀ x ∈ l, 0 ≤ x ∧ x ≤ 7
theorem Sm.at {l : List Int} (h : Sm l) {i : Nat} (hi : i < l.length) : 0 ≤ gt l i ∧ gt l i ≤ 7 := h _ (by rw [gt_eq l i hi]; exact List.getElem_mem hi)
theorem Sm.set {l : List Int} (h : Sm l) (i : Nat) {x : Int} (hx : 0 ≤ x ∧ x ≤ 7) : Sm (l.set i x) := fun y hy => by
 rcases List.mem_or_eq_of_mem_set hy with h' | h'
 ·exact h y h'
 ·rw [h']; exact hx
theorem w64_small (x : Int) (h : 0 ≤ x ∧ x ≤ 1000) : wrap64 x = x := IntWalk.wrap64_in _ (by omega)
theorem i64_small (x : Int) (h : 0 ≤ x ∧ x ≤ 1000) : IntKind.i64.wrap x = x := IntWalk.i64_in _ (by omega)
theorem sm_mul {a b : Int} (ha : 0 ≤ a ∧ a ≤ 7) (hb : 0 ≤ b ∧ b ≤ 7) : 0 ≤ a * b ∧ a * b ≤ 49 :=
 ⟨Int.mul_nonneg ha.1 hb.1, Int.le_trans (Int.mul_le_mul ha.2 hb.2 hb.1 (by decide)) (by decide)⟩
set_option maxRecDepth 100000 in
set_option maxHeartbeats 4000000 in
theorem l02Times_ok (w : World) (p : Int) (vv rv : Value) (v : List Int) (R : List (List Int)) (c : Nat) (S S' : Nat → Prop) (hv : Ints S w vv v) (hr : Rows2 S' w rv R) (hp : 1 ≤ p ∧ p ≤ 7) (hvs : Sm v) (hRs : ∀ x ∈ R, Sm x) (hc : c ≤ 100) :
  Calls Tryz.prog 366 #[.int .i64 p, vv, rv, .int .i64 c] w (Ret w fun w' r => ∃ l, l.length = c ∧ Sm l ∧ Own w.heap.size w' r l) := by
 obtain ⟨av, capv, rfl, _, _⟩ := hv.shape
 obtain ⟨ar, capr, rfl, _, _⟩ := Sl.shape hr
 have HV := Lib.hid (And.intro hvs hRs); clear hvs hRs
 go_enter Tryz.func366, Tryz.ntmps366
 go_wp2_with (at_make; refine wp_make_ints rfl _ _ rfl w.heap.size c w.heap.size rfl _ rfl rfl rfl (by omega) (Nat.le_refl _) ?_; intro w1 ho1 hg1 hlt1)
 go_loopw [10] (fun iv wr => ∃ (i : Nat) (l : List Int), iv = .int .i64 i ∧ i ≤ v.length ∧ l.length = c ∧ Sm l ∧ Ext w wr ∧ Own w.heap.size wr (.slice (some ⟨w.heap.size, 0, none⟩) c c) l) (fun iv _ => v.length - (intOf iv).toNat)
 case atStart => exact ⟨0, _, rfl, by omega, by simp, by intro x hx; rw [List.eq_of_mem_replicate hx]; omega, hg1, ho1⟩
 case round =>
  clear ho1 hg1
  obtain ⟨i, l, rfl, hi, hlc, hsl, hg, hO⟩ := hrel
  by_cases hlt : i < v.length
  ·have hlt' : (i : Int) < v.length := by omega
   by_cases hlr : i < R.length
   ·have hlr' : (i : Int) < R.length := by omega
    obtain ⟨br, or, a2, cap2, rfl, _, _, hcr, hri⟩ := Rows2.at hr i hlr
    have hvi := HV.out.1.at hlt
    have hRi : Sm (gt R i) := HV.out.2 _ (by rw [gt_eq R i hlr]; exact List.getElem_mem hlr)
    obtain ⟨z, hz⟩ : ∃ z, z = gt R i := ⟨_, rfl⟩
    rw [← hz] at hcr hri hRi
    have HR := Lib.hid (And.intro hRi (And.intro hvi hz)); clear hRi hvi hz
    have HL := Lib.hid (And.intro hlc hsl); clear hlc hsl
    have hcr2 := hg.cell hcr (by simp)
    go_wp2
    clear hcr2
    go_loopw [11] (fun jv wx => ∃ (j : Nat) (l : List Int), jv = .int .i64 j ∧ j ≤ z.length ∧ l.length = c ∧ Sm l ∧ Ext w wx ∧ Own w.heap.size wx (.slice (some ⟨w.heap.size, 0, none⟩) c c) l) (fun jv _ => z.length - (intOf jv).toNat)
    case atStart => exact ⟨0, l, rfl, by omega, HL.out.1, HL.out.2, hg, hO⟩
    case round =>
     clear hO hg HL
     obtain ⟨j, l, rfl, hj, hlc, hsl, hg, hO⟩ := hrel
     have hcr2 := hg.cell hcr (by simp)
     by_cases hltc : j < c
     ·have hltc' : (j : Int) < c := by omega
      by_cases hltz : j < z.length
      ·have hltz' : (j : Int) < z.length := by omega
       obtain ⟨bz, oz, rfl, _, _, hcz⟩ := Ints.at (Ints.ext hri hg) j hltz
       obtain ⟨bv, ov, rfl, _, _, hcv⟩ := Ints.at (Ints.ext hv hg) i hlt
       have hco := hO.cell j (by omega)
       have hfo := hO.frozen j
       have ha := HR.out.2.1
       have hb := HR.out.1.at hltz
       have hx := hsl.at (show j < l.length by omega)
       obtain ⟨a, hae⟩ : ∃ a, a = gt v i := ⟨_, rfl⟩
       obtain ⟨b, hbe⟩ : ∃ b, b = gt z j := ⟨_, rfl⟩
       obtain ⟨x, hxe⟩ : ∃ x, x = gt l j := ⟨_, rfl⟩
       rw [← hae] at ha hcv
       rw [← hbe] at hb hcz
       rw [← hxe] at hx hco
       have hab := sm_mul ha hb
       obtain ⟨ab, habe⟩ : ∃ ab, ab = a * b := ⟨_, rfl⟩
       rw [← habe] at hab
       have hm0 : 0 ≤ (x + ab) % p := Int.emod_nonneg _ (by omega)
       have hm1 : (x + ab) % p < p := Int.emod_lt_of_pos _ (by omega)
       obtain ⟨hO3, hgs⟩ := hO.store j ((x + ab) % p)
       have hsl3 := hsl.set j (x := (x + ab) % p) ⟨hm0, by omega⟩
       have hgn := grown_own hg hgs (fun k hk hlt => by cases hk; omega)
       clear hae hbe hxe
       have hp0 : p ≠ 0 := by omega
       have hl3 : (l.set j ((x + ab) % p)).length = c := by rw [List.length_set]; exact hlc
       have hw2 := i64_small (x + ab) (by omega)
       have hw1 : IntKind.i64.wrap (a * b) = ab := by rw [← habe]; exact i64_small ab (by omega)
       have hw3 : wrap64 (a * b) = ab := by rw [← habe]; exact w64_small ab (by omega)
       have hw4 := w64_small (x + ab) (by omega)
       have c1 : wr.drew.cell? ⟨w.heap.size, j, none⟩ = some (.int .i64 x) := hco
       have c2 : wr.drew.cell? ⟨bv, ov + i, none⟩ = some (.int .i64 a) := hcv
       have c3 : wr.drew.cell? ⟨br, or + i, none⟩ = some (.slice (some ⟨bz, oz, none⟩) z.length cap2) := hcr2
       have c4 : wr.drew.cell? ⟨bz, oz + j, none⟩ = some (.int .i64 b) := hcz
       have c5 : wr.drew.frozen? ⟨w.heap.size, j, none⟩ = false := hfo
       clear hco hcv hcz hfo habe hO
       have hOd := hO3.ext0 (grown_drew (wr.setCell ⟨w.heap.size, j, none⟩ (.int .i64 ((x + ab) % p))) none)
       have hgd := grown_trans hgn (grown_drew (wr.setCell ⟨w.heap.size, j, none⟩ (.int .i64 ((x + ab) % p))) none)
       have HQ := Lib.hid (And.intro hOd (And.intro hgd (And.intro hsl3 hl3))); clear hO3 hgs hgn hsl3 hl3 hOd hgd
       go_wp2
       clear hcr2
       go_still_tail 22, (by kernel_rfl)
       change wpList _ _ _ _ _ wr.drew
       clear hcr hri
       go_wp2
       clear hw1 hw2 hw3 hw4
       go_roundw
       case rel => exact ⟨j + 1, _, by go_num, by omega, HQ.out.2.2.2, HQ.out.2.2.1, HQ.out.2.1, HQ.out.1⟩
       case measure => simp [intOf]; omega
      ·have hltz' : ¬ ((j : Int) < z.length) := by omega
       have hgq := hg
       go_wp2
       go_roundw
       case rel => exact ⟨i + 1, l, by go_num, by omega, hlc, hsl, hgq, hO⟩
       case measure => simp [intOf]; omega
     ·have hltc' : ¬ ((j : Int) < c) := by omega
      have hgq := hg
      go_wp2
      go_roundw
      case rel => exact ⟨i + 1, l, by go_num, by omega, hlc, hsl, hgq, hO⟩
      case measure => simp [intOf]; omega
   ·have hlr' : ¬ ((i : Int) < R.length) := by omega
    go_wp2
    go_ret
    exact ⟨_, rfl, hg, l, hlc, hsl, hO⟩
  ·have hlt' : ¬ ((i : Int) < v.length) := by omega
   go_wp2
   go_ret
   exact ⟨_, rfl, hg, l, hlc, hsl, hO⟩
def SmR (c : Nat) (R : List (List Int)) : Prop := ∀ x ∈ R, x.length = c ∧ Sm x
set_option maxRecDepth 100000 in
set_option maxHeartbeats 4000000 in
theorem l02Product_ok (w : World) (p : Int) (av bv : Value) (A R : List (List Int)) (c : Nat) (S S' : Nat → Prop) (ha : Rows2 S w av A) (hr : Rows2 S' w bv R) (hp : 1 ≤ p ∧ p ≤ 7) (hA : SmR c A) (hR : SmR c R) (hc : c ≤ 100) (hl : A.length ≤ 100) :
  Calls Tryz.prog 350 #[.int .i64 p, av, bv, .int .i64 c] w (Ret w fun w' r => ∃ L, L.length = A.length ∧ SmR c L ∧ RowsO w.heap.size w' r L) := by
 obtain ⟨aa, capa, rfl, _, _⟩ := Sl.shape ha
 obtain ⟨ar, capr, rfl, _, _⟩ := Sl.shape hr
 have HL := Lib.hid (And.intro hA hR); clear hA hR
 go_enter Tryz.func350, Tryz.ntmps350
 go_wp2
 go_loopw [9, 10] (fun ov iv wr => ∃ (i : Nat) (v4 : Value) (L : List (List Int)), v4 = ov ∧ iv = .int .i64 i ∧ i ≤ A.length ∧ L.length = i ∧ SmR c L ∧ Ext w wr ∧ RowsO w.heap.size wr v4 L) (fun _ iv _ => A.length - (intOf iv).toNat)
 case atStart => exact ⟨0, _, [], rfl, rfl, by omega, rfl, (fun x hx => by cases hx), World.grownBy_alloc _ _ _, [], fun _ _ => False, rfl, World.ownsRow_lit w #[] 0 (Nat.le_refl _) (by decide) rfl, by simp, by simp, by simp⟩
 case round =>
  obtain ⟨i, v4, L, rfl, rfl, hi, hLi, hLs, hg, hO⟩ := hrel
  by_cases hlt : i < A.length
  ·have hlt' : (i : Int) < A.length := by omega
   obtain ⟨b, off, a2, cap2, rfl, _, _, hcc, hri⟩ := Rows2.at (Rows2.ext ha hg) i hlt
   have hAi := HL.out.1 _ (gtMem hlt)
   have hRs : ∀ x ∈ R, Sm x := fun x hx => (HL.out.2 x hx).2
   have hcon := l02Times_ok wr p _ _ (gt A i) R c _ _ hri (Rows2.ext hr hg) hp hAi.2 hRs hc
   have htl : L.length ≤ 1000000 := by omega
   have HS := Lib.hid (And.intro hLi (And.intro hLs htl)); clear hLi hLs htl hAi hRs
   go_wp2_with fail
   refine Calls.mono hcon ?_
   rintro eC wC ⟨vC, rfl, hgC, l, hlc, hls, hOC⟩
   clear hcon
   have hYO : OwnIn (From wr.heap.size) wC vC l := OwnIn.of hOC (by omega) (fun j h1 _ => h1)
   obtain ⟨ay, capy, hvy, _, _⟩ := hYO.ints.shape
   subst hvy
   have HC := Lib.hid (And.intro hlc hls); clear hcc hlc hls
   go_wp2_with (first | (at_builtin; refine wp_app_row rfl _ _ rfl w.heap.size wr wC v4 _ L l rfl hO hgC hYO rfl rfl HS.out.2.2 hg.size ?_; intro v5 w5 hO5 hg5 hg6; have hgw5 := hO.extw hg (Nat.le_refl _) hg5) | fail)
   go_roundw
   case rel => exact ⟨i + 1, v5, L ++ [l], rfl, by go_num, by omega, by rw [List.length_append, HS.out.1]; rfl, fun x hx => by
    rcases List.mem_append.1 hx with h | h
    ·exact HS.out.2.1 x h
    ·rw [List.mem_singleton.1 h]; exact HC.out, hgw5, hO5⟩
   case measure => simp [intOf]; omega
  ·have hie : i = A.length := by omega
   obtain ⟨az, capz, hvz, _, _⟩ := SlD.shape (hO.toD (by omega))
   subst hvz
   have hlt' : ¬ ((i : Int) < A.length) := by omega
   have HS := Lib.hid (And.intro hLi (And.intro hLs hie)); clear hLi hLs hie
   go_wp2
   go_ret
   exact ⟨_, rfl, hg, L, by rw [HS.out.1, HS.out.2.2], HS.out.2.1, hO⟩
end Go.Proofs.YtdcobapnlpeaaaaGreat
namespace Go.Proofs.YtdcobapnlpeaaaaGreat
open Go.RowKit
attribute [local go_sem ↓] Go.wp_at_zero Go.wp_at_succ
def LetW (n : Nat) (w : List Int) : Prop := ∀ x ∈ w, x ≠ 0 ∧ -n ≤ x ∧ x ≤ n
def VecR (n M B : Nat) (w' : World) (v : Value) : Prop := ∃ (a : Option Addr) (k c : Nat) (r : Bool), v = .tuple #[.slice a k c, .bool r] ∧ (r = true → ∃ l, l.length = n ∧ k = n ∧ (∀ x ∈ l, 0 ≤ x ∧ x ≤ (M : Int)) ∧ Own B w' (.slice a k c) l)
theorem i64_1000 (x : Int) (h : 0 ≤ x ∧ x ≤ 100000) : IntKind.i64.wrap x = x := IntWalk.i64_in _ (by omega)
theorem w64_1000 (x : Int) (h : 0 ≤ x ∧ x ≤ 100000) : wrap64 x = x := IntWalk.wrap64_in _ (by omega)
set_option maxRecDepth 100000 in
set_option maxHeartbeats 4000000 in
theorem l07Vector_ok (w : World) (n : Nat) (lv : Value) (L : List Int) (S : Nat → Prop) (hL : Ints S w lv L) (hw : LetW n L) (hn : n ≤ 100) (hl : L.length ≤ 1000) :
  Calls Tryz.prog 361 #[.int .i64 n, lv] w (Ret w (VecR n L.length w.heap.size)) := by
 obtain ⟨al, capl, rfl, _, _⟩ := hL.shape
 have HW := Lib.hid hw; clear hw
 go_enter Tryz.func361, Tryz.ntmps361
 go_wp2_with (at_make; refine wp_make_ints rfl _ _ rfl w.heap.size n w.heap.size rfl _ rfl rfl rfl (by omega) (Nat.le_refl _) ?_; intro w1 ho1 hg1 hlt1)
 go_loopw [7] (fun iv wr => ∃ (i : Nat) (l : List Int), iv = .int .i64 i ∧ i ≤ L.length ∧ l.length = n ∧ (∀ x ∈ l, 0 ≤ x ∧ x ≤ i) ∧ Ext w wr ∧ Own w.heap.size wr (.slice (some ⟨w.heap.size, 0, none⟩) n n) l) (fun iv _ => L.length - (intOf iv).toNat)
 case atStart => exact ⟨0, _, rfl, by omega, by simp, (fun x hx => by rw [List.eq_of_mem_replicate hx]; omega), hg1, ho1⟩
 case round =>
  clear ho1 hg1
  obtain ⟨i, l, rfl, hi, hln, hlb, hg, hO⟩ := hrel
  by_cases hlt : i < L.length
  ·have hlt' : (i : Int) < L.length := by omega
   obtain ⟨b, off, rfl, _, _, hc⟩ := Ints.at (Ints.ext hL hg) i hlt
   have hx := HW.out _ (gtMem hlt)
   obtain ⟨x, hxe⟩ : ∃ x, x = gt L i := ⟨_, rfl⟩
   rw [← hxe] at hc hx
   clear hxe
   by_cases hneg : x < 0
   ·have HL := Lib.hid (And.intro hln (And.intro hlb hx)); clear hln hlb hx
    go_wp2
    exact bodyPost_ret (v := .tuple #[.slice none 0 0, .bool false]) (by simp [results, Tryz.results361, go_sem]) rfl ⟨_, rfl, hg, none, 0, 0, false, rfl, fun h => by cases h⟩
   ·obtain ⟨J, hJx⟩ := Int.eq_ofNat_of_zero_le (show 0 ≤ x - 1 by omega)
    obtain rfl : x = (J : Int) + 1 := by omega
    clear hJx
    have hJ : J < n := by omega
    have hJn : (J : Int) < n := by omega
    have hy := hlb _ (gtMem (show J < l.length by omega))
    have hco := hO.cell J (by omega)
    have hfo := hO.frozen J
    obtain ⟨y, hye⟩ : ∃ y, y = gt l J := ⟨_, rfl⟩
    rw [← hye] at hy hco
    obtain ⟨hO3, hgs⟩ := hO.store J (y + 1)
    have hgn := grown_own hg hgs (fun k hk hlt => by cases hk; omega)
    have hl3 : (l.set J (y + 1)).length = n := by rw [List.length_set]; exact hln
    have hb3 : ∀ z ∈ l.set J (y + 1), 0 ≤ z ∧ z ≤ ((i + 1 : Nat) : Int) := fun z hz => by
     rcases List.mem_or_eq_of_mem_set hz with h | h
     ·have := hlb z h; omega
     ·omega
    have hOd := hO3.ext0 (grown_drew (wr.setCell ⟨w.heap.size, J, none⟩ (.int .i64 (y + 1))) none)
    have hgd := grown_trans hgn (grown_drew (wr.setCell ⟨w.heap.size, J, none⟩ (.int .i64 (y + 1))) none)
    have hw1 := i64_1000 (J : Int) (by omega)
    have hw2 := i64_1000 (y + 1) (by clear hw1; omega)
    have hw3 := w64_1000 (J : Int) (by clear hw1 hw2; omega)
    have hw4 := w64_1000 (y + 1) (by clear hw1 hw2 hw3; omega)
    have HQ := Lib.hid (And.intro hOd (And.intro hgd (And.intro hl3 (And.intro hb3 (And.intro hw1 (And.intro hw2 (And.intro hw3 hw4))))))); clear hOd hgd hl3 hb3 hw1 hw2 hw3 hw4 hgs hgn hO3 hye hln hlb hx
    have c1 : wr.drew.cell? ⟨w.heap.size, J, none⟩ = some (.int .i64 y) := hco
    have c2 : wr.drew.cell? ⟨b, off + i, none⟩ = some (.int .i64 ((J : Int) + 1)) := hc
    have c3 : wr.drew.frozen? ⟨w.heap.size, J, none⟩ = false := hfo
    clear hco hfo hO
    go_wp2
    clear hc
    have hw1 := HQ.out.2.2.2.2.1
    have hw2 := HQ.out.2.2.2.2.2.1
    have hw3 := HQ.out.2.2.2.2.2.2.1
    have hw4 := HQ.out.2.2.2.2.2.2.2
    go_still_tail 16, (by kernel_rfl)
    change wpList _ _ _ _ _ wr.drew
    go_wp2
    clear hw1 hw2 hw3 hw4
    go_roundw
    case rel => exact ⟨i + 1, _, by go_num, by omega, HQ.out.2.2.1, HQ.out.2.2.2.1, HQ.out.2.1, HQ.out.1⟩
    case measure => simp [intOf]; omega
  ·have hie : i = L.length := by omega
   subst hie
   have HL := Lib.hid (And.intro hln hlb); clear hln hlb
   go_wp2
   exact bodyPost_ret (v := .tuple #[.slice (some ⟨w.heap.size, 0, none⟩) n n, .bool true]) (by simp [results, Tryz.results361, go_sem]) rfl ⟨_, rfl, hg, _, _, _, true, rfl, fun _ => ⟨l, HL.out.1, rfl, HL.out.2, hO⟩⟩
end Go.Proofs.YtdcobapnlpeaaaaGreat
namespace Go.Proofs.YtdcobapnlpeaaaaGreat
open Go.RowKit
attribute [local go_sem ↓] Go.wp_at_zero Go.wp_at_succ
def ParR (k M B : Nat) (w' : World) (v : Value) : Prop := ∃ (a : Option Addr) (n c : Nat) (r : Bool), v = .tuple #[.slice a n c, .bool r] ∧ (r = true → ∃ l, l.length ≤ M ∧ n = l.length ∧ LetW k l ∧ Own B w' (.slice a n c) l)
set_option maxRecDepth 100000 in
set_option maxHeartbeats 4000000 in
theorem l06Parse_ok (w : World) (k : Nat) (s : ByteArray) (hk : k ≤ 100) (hs : s.size ≤ 1000) :
  Calls Tryz.prog 360 #[.int .i64 k, .string s] w (Ret w (ParR k s.size w.heap.size)) := by
 rcases h1 : (s.toList == [49]) with _ | _
 case' true =>
  go_enter Tryz.func360, Tryz.ntmps360
  go_wp2
  exact bodyPost_ret (v := .tuple #[.slice (some ⟨w.heap.size, 0, none⟩) 0 0, .bool true]) (by simp [results, Tryz.results360, go_sem]) rfl ⟨_, rfl, World.grownBy_alloc _ _ _, _, _, _, true, rfl, fun _ => ⟨[], by simp, rfl, (fun x hx => by cases hx), World.ownsRow_lit w #[] 0 (Nat.le_refl _) (by decide) rfl⟩⟩
 go_enter Tryz.func360, Tryz.ntmps360
 go_wp2
 go_loopw [6, 7] (fun ov iv wr => ∃ (i : Nat) (l : List Int) (v4 : Value), v4 = ov ∧ iv = .int .i64 i ∧ i ≤ s.size ∧ l.length = i ∧ LetW k l ∧ Ext w wr ∧ Own w.heap.size wr v4 l) (fun _ iv _ => s.size - (intOf iv).toNat)
 case atStart => exact ⟨0, [], _, rfl, rfl, by omega, rfl, (fun x hx => by cases hx), World.grownBy_alloc _ _ _, World.ownsRow_lit w #[] 0 (Nat.le_refl _) (by decide) rfl⟩
 case round =>
  obtain ⟨i, l, v4, rfl, rfl, hi, hli, hlw, hg, hO⟩ := hrel
  by_cases hlt : i < s.size
  ·have hlt' : (i : Int) < s.size := by omega
   have HL := Lib.hid (And.intro hli hlw); clear hli hlw
   go_wp2
   go_quiet (fail)
   rename_i nq
   generalize wrap64 (wrap64 (wrap64 (s[i].toNat : Int) - 97) + 1) = sm
   generalize wrap64 (wrap64 (wrap64 (s[i].toNat : Int) - 65) + 1) = lg
   obtain ⟨wq, hwq⟩ : ∃ wq, wq = wr.drewN nq := ⟨_, rfl⟩
   have hgq0 : Ext wr wq := by rw [hwq]; exact grown_drewN _ _ _
   rw [← hwq]
   have hgq := grown_trans hg hgq0
   have hOq := hO.ext0 hgq0
   clear hwq hgq0 hO hg
   have hl1 : l.length ≤ 1000000 := by have := HL.out.1; omega
   go_wp2_with fail
   refine Calls.mono (l01In_ok sm 1 k wq) ?_
   rintro _ _ ⟨rfl, rfl⟩
   rcases hb1 : inB sm 1 k with _ | _
   ·go_wp2_with fail
    refine Calls.mono (l01In_ok lg 1 k wq) ?_
    rintro _ _ ⟨rfl, rfl⟩
    rcases hb2 : inB lg 1 k with _ | _
    ·go_wp2
     exact bodyPost_ret (v := .tuple #[.slice none 0 0, .bool false]) (by simp [results, Tryz.results360, go_sem]) rfl ⟨_, rfl, hgq, none, 0, 0, false, rfl, fun h => by cases h⟩
    ·have hlg : 1 ≤ lg ∧ lg ≤ k := by simpa [inB] using hb2
     have hneg : wrap64 (-lg) = -lg := IntWalk.wrap64_in _ (by omega)
     have HG := Lib.hid hlg; clear hlg hb1 hb2
     go_wp2_with (first | (at_builtin; refine wp_app_int rfl _ _ rfl w.heap.size v4 l (-lg) rfl wq hOq rfl rfl hl1 hgq.size ?_; intro v5 w5 hO5 hg5; have hgw5 := grown_own hgq hg5 (fun j hj hlt => by have := (hOq.lt j hj).1; omega)) | fail)
     clear hneg
     go_roundw
     case rel => exact ⟨i + 1, _, v5, rfl, by go_num, by omega, by rw [List.length_append, HL.out.1]; rfl, (fun x hx => by
      rcases List.mem_append.1 hx with h | h
      ·exact HL.out.2 x h
      ·rw [List.mem_singleton.1 h]; have := HG.out; omega), hgw5, hO5⟩
     case measure => simp [intOf]; omega
   ·have hsm : 1 ≤ sm ∧ sm ≤ k := by simpa [inB] using hb1
    have HG := Lib.hid hsm; clear hsm hb1
    go_wp2_with (first | (at_builtin; refine wp_app_int rfl _ _ rfl w.heap.size v4 l sm rfl wq hOq rfl rfl hl1 hgq.size ?_; intro v5 w5 hO5 hg5; have hgw5 := grown_own hgq hg5 (fun j hj hlt => by have := (hOq.lt j hj).1; omega)) | fail)
    go_roundw
    case rel => exact ⟨i + 1, _, v5, rfl, by go_num, by omega, by rw [List.length_append, HL.out.1]; rfl, (fun x hx => by
     rcases List.mem_append.1 hx with h | h
     ·exact HL.out.2 x h
     ·rw [List.mem_singleton.1 h]; have := HG.out; omega), hgw5, hO5⟩
    case measure => simp [intOf]; omega
  ·have hie : i = s.size := by omega
   have hlt' : ¬ ((i : Int) < s.size) := by omega
   obtain ⟨a8, c8, hv8, _⟩ := (hO.ints (by omega)).shape
   subst hv8
   have HL := Lib.hid (And.intro hli hlw); clear hli hlw hie
   go_wp2
   exact bodyPost_ret (v := .tuple #[.slice a8 l.length c8, .bool (decide ((0 : Int) < l.length))]) (by simp [results, Tryz.results360, go_sem]) rfl ⟨_, rfl, hg, a8, l.length, c8, _, rfl, fun _ => ⟨l, by have := HL.out.1; omega, rfl, HL.out.2, hO⟩⟩
end Go.Proofs.YtdcobapnlpeaaaaGreat
namespace Go.Proofs.YtdcobapnlpeaaaaGreat
open Go.RowKit
theorem und_strs : Tryz.prog.underlying 246 = some (.slice 9) := by kernel_rfl
theorem Tryz.infoStr : (Tryz.prog.info? 9).map (fun i => (i.zero, i.size, i.bytes)) = some (some (.string ⟨#[]⟩), 1, 16) := by kernel_rfl
def StrsR (M B : Nat) (w' : World) (v : Value) : Prop := ∃ (a : Option Addr) (c : Nat) (ts : List ByteArray), v = .slice a ts.length c ∧ 1 ≤ ts.length ∧ ts.length ≤ M + 1 ∧ (∀ t ∈ ts, t.size ≤ M) ∧ OwnV B 9 w' (.slice a ts.length c) (ts.map Value.string)
theorem ext_size_le (s : ByteArray) (a b : Nat) (M : Nat) (h : s.size ≤ M) : (s.extract a b).size ≤ M := by
 simp [ByteArray.size_extract]; omega
set_option maxRecDepth 100000 in
set_option maxHeartbeats 4000000 in
theorem l01Split_ok (w : World) (s : ByteArray) (b : Int) (hs : s.size ≤ 1000) :
  Calls Tryz.prog 343 #[.string s, .int .u8 b] w (Ret w (StrsR s.size w.heap.size)) := by
 go_enter Tryz.func343, Tryz.ntmps343
 go_wp2
 go_loopw [5, 6, 7] (fun ov fv iv wr => ∃ (i f : Nat) (ts : List ByteArray) (v4 : Value), v4 = ov ∧ fv = .int .i64 f ∧ iv = .int .i64 i ∧ i ≤ s.size ∧ f ≤ i ∧ ts.length ≤ i ∧ (∀ t ∈ ts, t.size ≤ s.size) ∧ Ext w wr ∧ OwnV w.heap.size 9 wr v4 (ts.map Value.string)) (fun _ _ iv _ => s.size - (intOf iv).toNat)
 case atStart => exact ⟨0, 0, [], _, rfl, rfl, rfl, by omega, by omega, by simp, (fun x hx => by cases hx), World.grownBy_alloc _ _ _, World.ownsRow_lit w #[] 0 (Nat.le_refl _) (by decide) rfl⟩
 case round =>
  obtain ⟨i, f, ts, v4, rfl, rfl, rfl, hi, hf, htl, hts, hg, hO⟩ := hrel
  have hfi : (f : Int) ≤ i := by omega
  have hl1 : (ts.map Value.string).length ≤ 1000000 := by rw [List.length_map]; omega
  have HL := Lib.hid (And.intro htl (And.intro hts hl1)); clear htl hts hl1
  by_cases hlt : i < s.size
  ·have hlt' : (i : Int) < s.size := by omega
   go_wp2_with (first | (at_builtin; refine wp_app_v 246 9 (.string ⟨#[]⟩) 16 und_strs Tryz.infoStr rfl (by decide) rfl _ _ rfl w.heap.size wr v4 _ (ts.map Value.string) rfl hO rfl rfl rfl HL.out.2.2 hg.size ?_; intro v5 w5 hO5 hg5; have hgw5 := grown_own hg hg5 (fun j hj hlt => by have := (hO.lt j hj).1; omega)) | fail)
   ·go_roundw
    case rel => exact ⟨i + 1, i + 1, ts ++ [s.extract f i], v5, rfl, by go_num, by go_num, by omega, by omega, by rw [List.length_append, List.length_singleton]; have := HL.out.1; omega, (fun t ht => by
     rcases List.mem_append.1 ht with h | h
     ·exact HL.out.2.1 t h
     ·rw [List.mem_singleton.1 h]; exact ext_size_le s f i _ (Nat.le_refl _)), hgw5, by rw [List.map_append]; exact hO5⟩
    case measure => simp [intOf]; omega
   ·go_roundw
    case rel => exact ⟨i + 1, f, ts, v4, rfl, rfl, by go_num, by omega, by omega, by have := HL.out.1; omega, HL.out.2.1, hg, hO⟩
    case measure => simp [intOf]; omega
  ·have hlt' : ¬ ((i : Int) < s.size) := by omega
   go_wp2_with (first | (at_builtin; refine wp_app_v 246 9 (.string ⟨#[]⟩) 16 und_strs Tryz.infoStr rfl (by decide) rfl _ _ rfl w.heap.size wr v4 _ (ts.map Value.string) rfl hO rfl rfl rfl HL.out.2.2 hg.size ?_; intro v5 w5 hO5 hg5; have hgw5 := grown_own hg hg5 (fun j hj hlt => by have := (hO.lt j hj).1; omega)) | fail)
   have hll : (ts ++ [s.extract f s.size]).length = ts.length + 1 := by simp
   have hO6 : OwnV w.heap.size 9 w5 v5 ((ts ++ [s.extract f s.size]).map Value.string) := by rw [List.map_append]; exact hO5
   obtain ⟨a5, c5, rfl⟩ : ∃ a c, v5 = .slice a (ts ++ [s.extract f s.size]).length c := by
    rcases hO6.form with ⟨rfl, hn⟩ | ⟨g, cap, rfl, _, _, _⟩
    ·have := congrArg List.length hn; simp at this
    ·exact ⟨_, _, by rw [List.length_map]⟩
   go_ret
   exact ⟨_, rfl, hgw5, a5, c5, ts ++ [s.extract f s.size], rfl, by omega, by have := HL.out.1; omega, (fun t ht => by
     rcases List.mem_append.1 ht with h | h
     ·exact HL.out.2.1 t h
     ·rw [List.mem_singleton.1 h]; exact ext_size_le s f _ _ (Nat.le_refl _)), hO6⟩
end Go.Proofs.YtdcobapnlpeaaaaGreat
namespace Go.Proofs.YtdcobapnlpeaaaaGreat
open Go.RowKit
attribute [local go_sem ↓] Go.wp_at_zero Go.wp_at_succ
set_option maxRecDepth 100000 in
set_option maxHeartbeats 4000000 in
theorem l01Value_ok (w : World) (s : ByteArray) (hs : s.size ≤ 1000) :
  Calls Tryz.prog 359 #[.string s] w (Ret w fun _ v => ∃ x : Int, v = .int .i64 x) := by
 have hfin : (Ret w fun (_ : World) v => ∃ x : Int, v = .int .i64 x) (.returned (.int .i64 (-1))) w := ⟨_, rfl, Ext.refl _, _, rfl⟩
 by_cases h0 : s.size = 0
 ·go_enter Tryz.func359, Tryz.ntmps359
  go_wp2
  go_ret
  exact ⟨_, rfl, Ext.refl _, _, rfl⟩
 by_cases h6 : 6 < s.size
 ·go_enter Tryz.func359, Tryz.ntmps359
  go_wp2
  go_ret
  exact ⟨_, rfl, Ext.refl _, _, rfl⟩
 clear hfin
 go_enter Tryz.func359, Tryz.ntmps359
 go_wp2
 all_goals first
  | (go_ret; exact ⟨_, rfl, Ext.refl _, _, rfl⟩)
  | skip
 all_goals
  (try generalize (((s[0]'(by assumption)).toNat : Int) == 48) = z2)
  (try generalize (s[0]'(by assumption)).toNat = c0)
  (try generalize ((s.size : Int) == 0) = z0)
  (try generalize decide ((6 : Int) < s.size) = z1)
  go_loopw [3, 4] (fun nv iv wx => ∃ (i : Nat) (x : Int), nv = .int .i64 x ∧ iv = .int .i64 i ∧ i ≤ s.size ∧ wx = w) (fun _ iv _ => s.size - (intOf iv).toNat)
  case atStart => exact ⟨0, 0, rfl, rfl, by omega, rfl⟩
  case round =>
   obtain ⟨i, x, rfl, rfl, hi, rfl⟩ := hrel
   by_cases hlt : i < s.size
   ·have hlt' : (i : Int) < s.size := by omega
    go_wp2
    all_goals first
     | (go_ret; exact ⟨_, rfl, Ext.refl _, _, rfl⟩)
     | skip
    all_goals
     go_roundw
     case rel => exact ⟨i + 1, _, rfl, by go_num, by omega, trivial⟩
     case measure => simp [intOf]; omega
   ·have hlt' : ¬ ((i : Int) < s.size) := by omega
    go_wp2
    go_ret
    exact ⟨_, rfl, Ext.refl _, _, rfl⟩
end Go.Proofs.YtdcobapnlpeaaaaGreat
