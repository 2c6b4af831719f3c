/-
  impl.NormalSubgroups.
-/
import Derived.Test.YtdklekdpdbjfiaaGreatSFilterN
import Derived.Test.YtdklekdpdbjfiaaGreatSMinL
import Derived.Test.YtdklekdpdbjfiaaGreatK9
namespace Go.Proofs.YtdklekdpdbjfiaaGreat
open Go.RowKit

/-- an entry of the lattice's list, as it lies -/
theorem lat_row_at {B : Nat} {w : World} {lv : Value} {L : List (List (List Int))} (h : SlO (fun F w u (x : List (List Int)) => RowsD F w u x) 23 B w lv L) {i : Nat} (hi : i < L.length) :
    ∃ g c ua uc, lv = .slice (some ⟨g, 0, none⟩) L.length c ∧ w.cell? ⟨g, i, none⟩ = some (.slice ua (gt L i).length uc) ∧ Rows2 Any w (.slice ua (gt L i).length uc) (gt L i) := by
  obtain ⟨vs, Gb, hvl, hOv, hGb, hd, hE⟩ := h
  rcases hOv.form with ⟨e1, e2⟩ | ⟨g, cp, e1, _⟩
  · have : L.length = 0 := by rw [← hvl, e2]; rfl
    omega
  · subst e1
    have hc := hOv.cell i (by omega)
    have hEk := hE i hi
    obtain ⟨ua, uc, hvu, _, _⟩ := SlD.shape hEk
    rw [hvu] at hc hEk
    refine ⟨g, cp, ua, uc, by rw [hvl], hc, Rows2.sub (RowsD.rows hEk) (fun _ _ _ => trivial)⟩

set_option maxRecDepth 100000 in
set_option maxHeartbeats 1000000 in
theorem normClosure_ok (P : Pr) (G : Grp P) (L : List (List (List Int))) (hL : LatL P L) (w : World) (B lb xb i : Nat) (pp p lv mv : Value) (Sp : Nat → Prop) (hi : i < L.length) (hX : Box3 w lb p lv mv) (hp : PresP Sp w pp P)
    (hLv : SlO (fun F w u (x : List (List Int)) => RowsD F w u x) 23 B w lv L) (hx : w.cell? ⟨xb, 0, none⟩ = some (.pointer (some ⟨lb, 0, none⟩))) :
    Calls Tryz.prog 85 #[.int .i64 (i : Int), pp, .pointer (some ⟨xb, 0, none⟩)] w (Ret w fun _ v => ∃ r : Bool, v = .bool r ∧ (r = true ↔ NormP P (gP P (gt L i)))) := by
  have huB := (hL.2 _).1 (gt_mem hi)
  have S := G.subB huB
  obtain ⟨g, c, ua, uc, rfl, hc, hR⟩ := lat_row_at hLv hi
  have e : cseq P (genP P fun x => x ∈ gt L i) = gt L i := huB.2.symm
  have hR' : Rows2 Any w (.slice ua (gt L i).length uc) (cseq P (genP P fun x => x ∈ gt L i)) := by rw [e]; exact hR
  have hn := isNormal_ok P G w pp _ _ Sp Any S hp hR'
  have hiff := G.norm_iff S
  obtain ⟨pb, po, rfl⟩ := hp.shape
  obtain ⟨hx0, hx1, hx2, hx3, hx4⟩ := id hX
  have hli : (i : Int) < L.length := by omega
  have HI := Lib.hid hiff; clear hiff e hR hR' huB
  go_enter Tryz.func85, Tryz.ntmps85
  go_wp2_with fail
  refine Calls.mono hn ?_
  rintro e1 w1 ⟨v1, rfl, hg1, r, rfl, hr⟩
  have HR := Lib.hid hr; clear hr hn
  go_wp2
  go_ret
  exact ⟨_, rfl, hg1, r, rfl, HR.out.trans HI.out⟩

set_option maxRecDepth 100000 in
set_option maxHeartbeats 2000000 in
theorem iNorm_ok (P : Pr) (w : World) (pv : Value) (Sp : Nat → Prop) (hpv : PresV Sp w pv P) :
    Calls Tryz.prog 42 #[pv] w (Ret w fun w' v => ∃ a n c, v = .tuple #[.slice a n c, .int .i64 (latC P)] ∧ SlO (fun F w u (x : List (List Int)) => RowsD F w u x) 23 w.heap.size w' (.slice a n c) (nrmL P)) := by
  obtain ⟨vo, vp, vc, rfl, h3⟩ := hpv
  have hp0 := PresP.box h3 31
  have hg0 : Ext w (w.alloc (.cells #[vo, vp, vc] 31)) := World.grownBy_alloc _ _ _
  have hlat := latticeOf_ok P _ _ Any hp0
  go_enter Tryz.func42, Tryz.ntmps42
  go_wp2_with fail
  generalize hw0 : w.alloc (.cells #[vo, vp, vc] 31) = w0 at *
  clear hw0
  refine Calls.mono hlat ?_
  rintro e1 w1 ⟨v1, rfl, hg1, lp, rfl, hno, hyes⟩
  clear hlat
  have hgw1 := grown_trans hg0 hg1
  by_cases hz : latC P = 0
  · obtain ⟨lb, L, rfl, hL, hA⟩ := hyes hz
    obtain ⟨hlo, lv, mv, hX, hO, hM⟩ := hA
    have G := grp_of_r (latC_zero hz).1
    have h32 := (latC_zero hz).2
    have hall := nrmL_ok hz hL
    have hln := nrmL_len P
    have hlen := G.lat_len h32 hL
    have hg2 : Ext w1 (w1.alloc (.cells #[.pointer (some ⟨lb, 0, none⟩)] 81)) := World.grownBy_alloc _ _ _
    have hx : (w1.alloc (.cells #[.pointer (some ⟨lb, 0, none⟩)] 81)).cell? ⟨w1.heap.size, 0, none⟩ = some (.pointer (some ⟨lb, 0, none⟩)) := by rw [World.cell?_alloc_at _ _ _ _ rfl]; rfl
    have hX2 := hX.ext hg2
    have hO2 := hO.ext rdRows hg2
    have hp2 := hp0.ext (grown_trans hg1 hg2)
    have hmx := filterN_ok (fun i => NormP P (gP P (gt L i))) (.pointer (some ⟨w.heap.size, 0, none⟩)) (.pointer (some ⟨w1.heap.size, 0, none⟩)) L hlen _ w0.heap.size lb _ lv mv hX2 hO2 (Nat.le_trans hg1.size hg2.size)
      (fun i wr hi hgr => normClosure_ok P G L hL wr w0.heap.size lb w1.heap.size i _ _ lv mv Any hi (hX2.ext hgr) (hp2.ext hgr) (hO2.ext rdRows hgr) (hgr.cell hx (by simp)))
    rw [flTo_nr] at hmx
    obtain ⟨c, hc⟩ : ∃ c, c = latC P := ⟨_, rfl⟩
    have hc0 : c = 0 := by rw [hc]; exact hz
    rw [← hc]
    have HC := Lib.hid (And.intro hc (And.intro hall (And.intro hg2 hx))); clear hc hall hO hL hM hO2 hno hyes hz hX hX2 hg2 hx hp2
    subst hc0
    go_wp2_with fail
    refine Calls.mono hmx ?_
    rintro e2 w2 ⟨v2, rfl, hg3, hR⟩
    clear hmx
    rw [← HC.out.2.1] at hR
    obtain ⟨ra, rc, hrv, _, _⟩ := SlD.shape (hR.toD (by omega))
    subst hrv
    have HR := Lib.hid hR; clear hR
    go_wp2
    go_ret2
    exact ⟨_, rfl, grown_trans hgw1 (grown_trans HC.out.2.2.1 hg3), _, _, _, by rw [← HC.out.1]; rfl, HR.out.weak hg0.size⟩
  · have hlp := hno hz
    subst hlp
    have hall := nrmL_no hz
    obtain ⟨c, hc⟩ : ∃ c, c = latC P := ⟨_, rfl⟩
    rw [← hc] at hz ⊢
    have hne : (c != 0) = true := by simpa using hz
    have hg2 : Ext w1 (w1.alloc (.cells #[.pointer none] 81)) := World.grownBy_alloc _ _ _
    have HC := Lib.hid (And.intro hc (And.intro hall hg2)); clear hc hall hno hyes hg2
    go_wp2
    go_ret2
    exact ⟨_, rfl, grown_trans hgw1 HC.out.2.2, none, 0, 0, by rw [← HC.out.1]; rfl, by rw [HC.out.2.1]; exact SlO.nil _ _ _ _⟩

end Go.Proofs.YtdklekdpdbjfiaaGreat
