/-
  SubgroupClasses on both sides.
-/
import Derived.Test.YtdklekdpdbjfiaaGreatSClsI
import Derived.Test.YtdklekdpdbjfiaaGreatK9
import Derived.Test.YtdklekdpdbjfiaaGreatK2
namespace Go.Proofs.YtdklekdpdbjfiaaGreat
open Go.RowKit

open Classical in
noncomputable def clsV (P : Pr) : ClsSt := if latC P = 0 ∧ ∃ L, LatL P L then clS P (latL P) (latL P).length else ⟨[], [], []⟩
noncomputable def clsF (P : Pr) : List (List (List Int)) := (clsV P).firsts
noncomputable def clsZ (P : Pr) : List Int := natI (clsV P).sizes
theorem cls_ok {P : Pr} {L : List (List (List Int))} (h : latC P = 0) (hL : LatL P L) : clsF P = (clS P L L.length).firsts ∧ clsZ P = natI (clS P L L.length).sizes := by
  have e : clsV P = clS P L L.length := by unfold clsV; rw [if_pos ⟨h, L, hL⟩, latL_eq hL]
  unfold clsF clsZ; rw [e]; exact ⟨rfl, rfl⟩
theorem cls_no {P : Pr} (h : latC P ≠ 0) : clsF P = [] ∧ clsZ P = [] := by
  have e : clsV P = ⟨[], [], []⟩ := by unfold clsV; rw [if_neg (fun hh => h hh.1)]
  unfold clsF clsZ; rw [e]; exact ⟨rfl, rfl⟩
theorem cls_bd (P : Pr) : (clsF P).length ≤ 17408 ∧ (clsZ P).length = (clsF P).length ∧ ∀ u ∈ clsF P, u.length ≤ 6 ∧ ∀ x ∈ u, x.length ≤ 6 := by
  by_cases h : latC P = 0 ∧ ∃ L, LatL P L
  · obtain ⟨hc, L, hL⟩ := h
    have G := grp_of_r (latC_zero hc).1
    rw [(cls_ok hc hL).1, (cls_ok hc hL).2]
    have h1 := clS_len P L L.length
    have h2 := G.lat_len (latC_zero hc).2 hL
    exact ⟨by omega, by rw [natI_len]; omega, fun u hu => G.lat_row hL u (clS_mem P (Nat.le_refl _) u hu)⟩
  · have e : clsV P = ⟨[], [], []⟩ := by unfold clsV; rw [if_neg h]
    unfold clsF clsZ; rw [e]; simp [natI]
theorem clsF_len (P : Pr) : (clsF P).length ≤ 17408 := (cls_bd P).1
theorem clsZ_len (P : Pr) : (clsZ P).length ≤ 17408 := by have := cls_bd P; omega
theorem clsF_tot (P : Pr) : tot3 (clsF P) ≤ 100000000 := part_tot (cls_bd P).1 (cls_bd P).2.2

theorem SlOA.weak {α : Type} [Inhabited α] {El : (Nat → Prop) → World → Value → α → Prop} {E B B' : Nat} {A : Nat → Prop} {w : World} {v : Value} {xs : List α} (h : SlOA El E B A w v xs) (hb : B' ≤ B) : SlOA El E B' A w v xs := by
  obtain ⟨vs, G, h1, h2, h3, h4, h5, h6, h7⟩ := h
  exact ⟨vs, G, h1, h2.weak hb, fun i k hi hk => by obtain ⟨a, b, c⟩ := h3 i k hi hk; exact ⟨by omega, b, c⟩, h4, h5, h6, h7⟩
theorem SlOA.nil' {α : Type} [Inhabited α] (El : (Nat → Prop) → World → Value → α → Prop) (E B : Nat) (A : Nat → Prop) (w : World) : SlOA El E B A w (.slice none 0 0) ([] : List α) :=
  ⟨[], fun _ _ => False, rfl, World.ownsRow_nil _ _ _ _, by simp, by simp, by simp, by simp, by simp [Value.ownBlock]⟩
theorem SlOA.toD {α : Type} [Inhabited α] {El : (Nat → Prop) → World → Value → α → Prop} {E B : Nat} {A : Nat → Prop} {w : World} {v : Value} {xs : List α} (h : SlOA El E B A w v xs) (hl : xs.length ≤ 9223372036854775807) : SlD El (fun k => B ≤ k ∧ ¬ A k) w v xs := by
  obtain ⟨vs, G, hvl, hO, hG, hd, hE, hr, hr2⟩ := h
  refine ⟨G, fun k => (B ≤ k ∧ ¬ A k) ∧ v.ownBlock = some k, fun k hk => hk.1, fun i k hi hk => ⟨⟨(hG i k hi hk).1, hr i k hi hk⟩, fun h => (hG i k hi hk).2.1 h.2⟩, hd, ?_⟩
  rcases hO.form with ⟨rfl, rfl⟩ | ⟨g, cap, rfl, hnc, hBg, hgs⟩
  · have : xs.length = 0 := by simpa using hvl.symm
    exact ⟨none, 0, by rw [this], ⟨by omega, by omega, fun _ => rfl⟩, fun i hi => by omega⟩
  · refine ⟨_, cap, by rw [hvl], ⟨by omega, hl, fun h => by cases h⟩, fun i hi => ⟨g, 0, gt vs i, rfl, ⟨⟨hBg, hr2 g rfl⟩, rfl⟩, hgs, ?_, hE i hi⟩⟩
    rw [Nat.zero_add]; exact hO.cell i (by omega)

set_option maxRecDepth 100000 in
set_option maxHeartbeats 2000000 in
theorem iSc_ok (P : Pr) (w : World) (pv : Value) (Sp : Nat → Prop) (hpv : PresV Sp w pv P) :
    Calls Tryz.prog 39 #[pv] w (Ret w fun w' v => ∃ a n c za zn zc, v = .tuple #[.slice a n c, .slice za zn zc, .int .i64 (latC P)] ∧
      SlOA (fun F w u (x : List (List Int)) => RowsD F w u x) 23 w.heap.size (fun b => (Value.slice za zn zc).ownBlock = some b) w' (.slice a n c) (clsF P) ∧ Own w.heap.size w' (.slice za zn zc) (clsZ P)) := by
  obtain ⟨vo, vp, vc, rfl, h3⟩ := hpv
  have hp0 := PresP.box h3 31
  have hg0 : Ext w (w.alloc (.cells #[vo, vp, vc] 31)) := World.grownBy_alloc _ _ _
  have hlat := latticeOf_ok P _ _ Any hp0
  go_enter Tryz.func39, Tryz.ntmps39
  go_wp2_with fail
  generalize hw0 : w.alloc (.cells #[vo, vp, vc] 31) = w0 at *
  clear hw0
  refine Calls.mono hlat ?_
  rintro e1 w1 ⟨v1, rfl, hg1, lp, rfl, hno, hyes⟩
  clear hlat
  have hgw1 := grown_trans hg0 hg1
  by_cases hz : latC P = 0
  · obtain ⟨lb, L, rfl, hL, hA⟩ := hyes hz
    obtain ⟨hlo, lv, mv, hX, hO, hM⟩ := hA
    have G := grp_of_r (latC_zero hz).1
    have h32 := (latC_zero hz).2
    have hall := cls_ok hz hL
    have hmx := classes_ok P G h32 L hL w1 w0.heap.size lb _ lv mv Any hX (hp0.ext hg1) hO hg1.size
    obtain ⟨c, hc⟩ : ∃ c, c = latC P := ⟨_, rfl⟩
    have hc0 : c = 0 := by rw [hc]; exact hz
    rw [← hc]
    have HC := Lib.hid (And.intro hc hall); clear hc hall hO hL hM hno hyes hz hX
    subst hc0
    go_wp2_with fail
    refine Calls.mono hmx ?_
    rintro e2 w2 ⟨v2, rfl, hg2, a, n, c, za, zn, zc, rfl, hR, hZ⟩
    clear hmx
    rw [← HC.out.2.1] at hR
    rw [← HC.out.2.2] at hZ
    have HR := Lib.hid (And.intro (hR.weak hg0.size) (hZ.weak hgw1.size)); clear hR hZ
    go_wp2
    refine bodyPost_ret (v := .tuple #[.slice a n c, .slice za zn zc, .int .i64 0]) (by simp [results, Tryz.results39, go_sem]) rfl ?_
    exact ⟨_, rfl, grown_trans hgw1 hg2, _, _, _, _, _, _, by rw [← HC.out.1], HR.out.1, HR.out.2⟩
  · have hlp := hno hz
    subst hlp
    have hall := cls_no hz
    obtain ⟨c, hc⟩ : ∃ c, c = latC P := ⟨_, rfl⟩
    rw [← hc] at hz ⊢
    have hne : (c != 0) = true := by simpa using hz
    have HC := Lib.hid (And.intro hc hall); clear hc hall hno hyes
    go_wp2
    refine bodyPost_ret (v := .tuple #[.slice none 0 0, .slice none 0 0, .int .i64 c]) (by simp [results, Tryz.results39, go_sem]) rfl ?_
    exact ⟨_, rfl, hgw1, none, 0, 0, none, 0, 0, by rw [← HC.out.1], by rw [HC.out.2.1]; exact SlOA.nil' _ _ _ _ _, by rw [HC.out.2.2]; exact World.ownsRow_nil _ _ _ _⟩

set_option maxRecDepth 100000 in
set_option maxHeartbeats 2000000 in
theorem sSc_ok (P : Pr) (w : World) (pv : Value) (Sp : Nat → Prop) (hpv : PresV Sp w pv P) :
    Calls Tryz.prog 38 #[pv] w (Ret w fun w' v => ∃ a n c za zn zc, v = .tuple #[.slice a n c, .slice za zn zc, .int .i64 (latC P)] ∧ Rows3 Any w' (.slice a n c) (clsF P) ∧ Ints Any w' (.slice za zn zc) (clsZ P)) := by
  obtain ⟨vo, vp, vc, rfl, h3⟩ := hpv
  have hp0 := PresP.box h3 31
  have hg0 : Ext w (w.alloc (.cells #[vo, vp, vc] 31)) := World.grownBy_alloc _ _ _
  obtain ⟨vo6, vp6, vc6, _, _, hc0, hc1, hc2, h36⟩ := hp0.at
  simp only [Nat.zero_add] at hc1 hc2
  have hbx : ∀ w', Ext (w.alloc (.cells #[vo, vp, vc] 31)) w' → w'.cell? ⟨w.heap.size, 0, none⟩ = some vo6 ∧ w'.cell? ⟨w.heap.size, 1, none⟩ = some vp6 ∧ w'.cell? ⟨w.heap.size, 2, none⟩ = some vc6 := fun w' h => ⟨h.cell hc0 (by simp), h.cell hc1 (by simp), h.cell hc2 (by simp)⟩
  have HB := Lib.hid hbx; clear hbx hp0
  have hcd := l19Code_ok P _ (.agg #[vo6, vp6, vc6]) Any ⟨_, _, _, rfl, h36⟩
  go_enter Tryz.func38, Tryz.ntmps38
  go_wp2_with fail
  clear hc0 hc1 hc2
  generalize hw0 : w.alloc (.cells #[vo, vp, vc] 31) = w0 at *
  clear hw0
  refine Calls.mono hcd ?_
  rintro e1 w1 ⟨v1, rfl, hg1, rfl⟩
  clear hcd
  obtain ⟨c, hc⟩ : ∃ c, c = latC P := ⟨_, rfl⟩
  rw [← hc]
  have HC := Lib.hid hc
  by_cases hz : latC P = 0
  · have G := grp_of_r (latC_zero hz).1
    have h32 := (latC_zero hz).2
    have hc0' : c = 0 := by rw [hc]; exact hz
    have HZ := Lib.hid hz; clear hc hz
    subst hc0'
    obtain ⟨hc0, hc1, hc2⟩ := HB.out w1 hg1
    go_wp2_with fail
    clear hc0 hc1 hc2
    refine Calls.mono (l19Classes_ok P G w1 _ Any h32 ⟨_, _, _, rfl, Pres3.ext h36 hg1⟩) ?_
    rintro e2 w2 ⟨v2, rfl, hg2, fv, zv, rfl, L, hL, hR, hZ⟩
    have hall := cls_ok HZ.out hL
    obtain ⟨hlen, hzl, hbd⟩ := cls_bd P
    rw [← hall.1] at hR
    rw [← hall.2] at hZ
    obtain ⟨X, hX⟩ : ∃ X, X = clsF P := ⟨_, rfl⟩
    obtain ⟨Y, hY⟩ : ∃ Y, Y = clsZ P := ⟨_, rfl⟩
    rw [← hX] at hR hlen hbd hzl
    rw [← hY] at hZ hzl
    obtain ⟨la, lc, hlv, _, _⟩ := Sl.shape hR
    subst hlv
    have hZI := hZ.ints (by omega)
    obtain ⟨za, zc, hzv, _, _⟩ := hZI.shape
    subst hzv
    have HL := Lib.hid (And.intro hbd (And.intro hX (And.intro hY hZI))); clear hbd hall hX hY hZ hZI
    obtain ⟨zn, hzn⟩ : ∃ zn, zn = Y.length := ⟨_, rfl⟩
    rw [← hzn]
    have HN := Lib.hid hzn; clear hzn hzl
    go_wp2_with fail
    refine Calls.mono (l19Own_ok w2 _ X _ hR HL.out.1 (by omega)) ?_
    rintro e3 w3 ⟨v3, rfl, hg3, hO⟩
    have hD := hO.toD (by omega)
    obtain ⟨ra, rc, hrv, _, _⟩ := SlD.shape hD
    subst hrv
    have hR3 := Rows3D.rows hD
    have HR := Lib.hid hR3; clear hR3 hD hO
    go_wp2
    refine bodyPost_ret (v := .tuple #[.slice ra X.length rc, .slice za zn zc, .int .i64 0]) (by simp [results, Tryz.results38, go_sem]) rfl ?_
    exact ⟨_, rfl, grown_trans hg0 (grown_trans hg1 (grown_trans hg2 hg3)), _, _, _, _, _, _, by rw [← HC.out], by rw [← HL.out.2.1]; exact Rows3.sub HR.out (fun _ _ _ => trivial), by rw [← HL.out.2.2.1, HN.out]; exact Ints.ext HL.out.2.2.2 hg3⟩
  · have hall := cls_no hz
    rw [← hc] at hz
    have hne : (c != 0) = true := by simpa using hz
    have HA := Lib.hid hall; clear hall hc
    go_wp2
    refine bodyPost_ret (v := .tuple #[.slice none 0 0, .slice none 0 0, .int .i64 c]) (by simp [results, Tryz.results38, go_sem]) rfl ?_
    exact ⟨_, rfl, grown_trans hg0 hg1, none, 0, 0, none, 0, 0, by rw [← HC.out], by rw [HA.out.1]; exact ⟨none, 0, rfl, ⟨by simp, by simp, fun _ => rfl⟩, fun i hi => by simp at hi⟩, by rw [HA.out.2]; exact ⟨none, 0, rfl, ⟨by simp, by simp, fun _ => rfl⟩, fun i hi => by simp at hi⟩⟩

end Go.Proofs.YtdklekdpdbjfiaaGreat
