/-
  MinimalNormalSubgroups by the reference.
-/
import Derived.Test.YtdklekdpdbjfiaaGreatSSNorm
import Derived.Test.YtdklekdpdbjfiaaGreatSSWith
import Derived.Test.YtdklekdpdbjfiaaGreatSMinL
namespace Go.Proofs.YtdklekdpdbjfiaaGreat
open Go.RowKit

theorem Grp.nr_facts {P : Pr} (G : Grp P) {L : List (List (List Int))} (h : LatL P L) : 0 < (nrTo P L L.length).length ∧ (∀ u ∈ nrTo P L L.length, SubB P u) ∧ ∀ u ∈ nrTo P L L.length, u.length ≤ 6 ∧ ∀ x ∈ u, x.length ≤ 6 := by
  refine ⟨?_, fun u hu => (h.2 u).1 (nrTo_mem (Nat.le_refl _) u hu), fun u hu => G.lat_row h u (nrTo_mem (Nat.le_refl _) u hu)⟩
  obtain ⟨i, hi, hie⟩ := mem_gt ((h.2 _).2 G.subB_nil)
  have : [] ∈ nrTo P L L.length := by
    rw [← flTo_nr, flTo_iff]
    exact ⟨i, hi, by rw [hie]; exact G.nil_norm, hie.symm⟩
  exact List.length_pos_of_mem this

set_option maxRecDepth 100000 in
set_option maxHeartbeats 8000000 in
set_option linter.unusedSimpArgs false in
theorem sMin_ok (P : Pr) (w : World) (pv : Value) (Sp : Nat → Prop) (hpv : PresV Sp w pv P) :
    Calls Tryz.prog 45 #[pv] w (Ret w fun w' v => ∃ a n c, v = .tuple #[.slice a n c, .int .i64 (latC P)] ∧ Rows3 Any w' (.slice a n c) (mnL P)) := by
  obtain ⟨vo, vp, vc, rfl, h3⟩ := hpv
  have hp0 := PresP.box h3 31
  have hg0 : Ext w (w.alloc (.cells #[vo, vp, vc] 31)) := World.grownBy_alloc _ _ _
  obtain ⟨vo6, vp6, vc6, _, _, hc0, hc1, hc2, h36⟩ := hp0.at
  simp only [Nat.zero_add] at hc1 hc2
  have hbx : ∀ w', Ext (w.alloc (.cells #[vo, vp, vc] 31)) w' → w'.cell? ⟨w.heap.size, 0, none⟩ = some vo6 ∧ w'.cell? ⟨w.heap.size, 1, none⟩ = some vp6 ∧ w'.cell? ⟨w.heap.size, 2, none⟩ = some vc6 := fun w' h => ⟨h.cell hc0 (by simp), h.cell hc1 (by simp), h.cell hc2 (by simp)⟩
  have HB := Lib.hid hbx; clear hbx hp0
  have hcd := l19Code_ok P _ (.agg #[vo6, vp6, vc6]) Any ⟨_, _, _, rfl, h36⟩
  go_enter Tryz.func45, Tryz.ntmps45
  go_wp2_with fail
  clear hc0 hc1 hc2
  generalize hw0 : w.alloc (.cells #[vo, vp, vc] 31) = w0 at *
  clear hw0
  refine Calls.mono hcd ?_
  rintro e1 w1 ⟨v1, rfl, hg1, rfl⟩
  clear hcd
  obtain ⟨c, hc⟩ : ∃ c, c = latC P := ⟨_, rfl⟩
  rw [← hc]
  have HC := Lib.hid hc
  by_cases hz : latC P = 0
  · have G := grp_of_r (latC_zero hz).1
    have h32 := (latC_zero hz).2
    have hc0' : c = 0 := by rw [hc]; exact hz
    have HZ := Lib.hid hz; clear hc hz
    subst hc0'
    obtain ⟨hc0, hc1, hc2⟩ := HB.out w1 hg1
    go_wp2_with fail
    clear hc0 hc1 hc2
    refine Calls.mono (l19Normals_ok P G w1 _ Any h32 ⟨_, _, _, rfl, Pres3.ext h36 hg1⟩) ?_
    rintro e2 w2 ⟨v2, rfl, hg2, L, hL, hR⟩
    have hall := mnL_ok HZ.out hL
    rw [G.min_eq hL] at hall
    obtain ⟨hNp, hNs, hNr⟩ := G.nr_facts hL
    have hlen := G.lat_len h32 hL
    have hNl := nrTo_len P L L.length
    obtain ⟨N, hN⟩ : ∃ N, N = nrTo P L L.length := ⟨_, rfl⟩
    rw [← hN] at hR hall hNp hNs hNr hNl
    obtain ⟨na, nc, hnv, _, _⟩ := Sl.shape hR
    subst hnv
    have hg02 := grown_trans hg1 hg2
    have HL := Lib.hid (And.intro hNs (And.intro hNr hall)); clear hNs hNr hall hN hL
    have HR := Lib.hid hR; clear hR
    go_wp2
    go_loopw [6, 7] (fun ov kv wr => ∃ (k : Nat) (v6 : Value), v6 = ov ∧ kv = .int .i64 k ∧ 1 ≤ k ∧ k ≤ N.length ∧ Ext w2 wr ∧ Sh3 Any w2.heap.size wr v6 (flTo (minR P N) N k)) (fun _ kv _ => N.length - (intOf kv).toNat)
    case atStart => exact ⟨1, _, rfl, by go_num, by omega, by omega, World.grownBy_alloc _ _ _, by rw [flTo_no (fun h => by have := h.1; omega)]; exact Sh3.lit0 _ _ _ (Nat.le_refl _)⟩
    case round =>
      obtain ⟨k, v6, rfl, rfl, hk1, hk, hg, hO⟩ := hrel
      have hln := flTo_len (minR P N) N k
      by_cases hlt : k < N.length
      · have hlt' : (k : Int) < N.length := by omega
        go_wp2
        obtain ⟨wo, rfl⟩ : ∃ wo : World, wo = wr := ⟨_, rfl⟩
        go_loopw [8, 9] (fun tv iv wr => ∃ (i : Nat) (tp : Bool), tv = .bool tp ∧ iv = .int .i64 i ∧ 1 ≤ i ∧ i ≤ k ∧ Ext wo wr ∧ Hid (tp = true ↔ ∀ j, 1 ≤ j → j < i → ¬ ∀ z ∈ gt N j, gP P (gt N k) z)) (fun _ iv _ => k - (intOf iv).toNat)
        case atStart => exact ⟨1, true, rfl, by go_num, by omega, by omega, Ext.refl _, Lib.hid ⟨fun _ j h1 h2 => by omega, fun _ => rfl⟩⟩
        case round =>
          obtain ⟨i, tp, rfl, rfl, hi1, hi2, hgi, hT⟩ := hrel
          have hg2i := grown_trans hg hgi
          by_cases hlti : i < k
          · have hlti' : (i : Int) < k := by omega
            have hltN' : (i : Int) < N.length := by omega
            cases tp with
            | false =>
              have HT := Lib.hid (show (false = true) ↔ ∀ j, 1 ≤ j → j < i + 1 → ¬ ∀ z ∈ gt N j, gP P (gt N k) z from ⟨fun h => (by cases h), fun h => hT.out.2 (fun j h1 h2 => h j h1 (by omega))⟩)
              clear hT
              go_wp2
              refine wp_region_held_drew (S := (fun w' => Ext wr w')) (by kernel_rfl) (by first | exact grown_drew _ _ | assumption) (fun hHeld => ?_)
              refine wpAnyH_take (i := 0) (v := ?vf0) rfl (by kernel_rfl) (by kernel_rfl) (by kernel_rfl) (fun _ _ _ h => h) (Or.inl ⟨by rfl, ?hyf0⟩) (by assumption) ?restf0
              case hyf0 => (intro w hSw; (try dsimp only at hSw); go_simp; try with_reducible rfl)
              try simp only [Act.put, List.getElem_toArray, List.getElem_cons_succ, List.getElem_cons_zero, List.setIfInBounds_toArray, List.set_cons_zero, List.set_cons_succ]
              refine wpAnyH_take (i := 1) (v := ?vf1) rfl (by kernel_rfl) (by kernel_rfl) (by kernel_rfl) (fun _ _ _ h => h) (Or.inl ⟨by rfl, ?hyf1⟩) (by assumption) ?restf1
              case hyf1 => (intro w hSw; (try dsimp only at hSw); go_simp; try with_reducible rfl)
              try simp only [Act.put, List.getElem_toArray, List.getElem_cons_succ, List.getElem_cons_zero, List.setIfInBounds_toArray, List.set_cons_zero, List.set_cons_succ]
              refine wpAnyH_take (i := 2) (v := undef) rfl (by kernel_rfl) (by kernel_rfl) (by kernel_rfl) (fun _ _ _ h => h) (Or.inr ⟨by rfl, rfl⟩) (by assumption) ?_
              try simp only [Act.put, List.getElem_toArray, List.getElem_cons_succ, List.getElem_cons_zero, List.setIfInBounds_toArray, List.set_cons_zero, List.set_cons_succ]
              refine wpAnyH_take (i := 3) (v := undef) rfl (by kernel_rfl) (by kernel_rfl) (by kernel_rfl) (fun _ _ _ h => h) (Or.inr ⟨by rfl, rfl⟩) (by assumption) ?_
              try simp only [Act.put, List.getElem_toArray, List.getElem_cons_succ, List.getElem_cons_zero, List.setIfInBounds_toArray, List.set_cons_zero, List.set_cons_succ]
              refine wpAnyH_take (i := 4) (v := undef) rfl (by kernel_rfl) (by kernel_rfl) (by kernel_rfl) (fun _ _ _ h => h) (Or.inr ⟨by rfl, rfl⟩) (by assumption) ?_
              try simp only [Act.put, List.getElem_toArray, List.getElem_cons_succ, List.getElem_cons_zero, List.setIfInBounds_toArray, List.set_cons_zero, List.set_cons_succ]
              refine wpAnyH_take (i := 5) (v := undef) rfl (by kernel_rfl) (by kernel_rfl) (by kernel_rfl) (fun _ _ _ h => h) (Or.inr ⟨by rfl, rfl⟩) (by assumption) ?_
              try simp only [Act.put, List.getElem_toArray, List.getElem_cons_succ, List.getElem_cons_zero, List.setIfInBounds_toArray, List.set_cons_zero, List.set_cons_succ]
              refine wpAnyH_take (i := 6) (v := undef) rfl (by kernel_rfl) (by kernel_rfl) (by kernel_rfl) (fun _ _ _ h => h) (Or.inr ⟨by rfl, rfl⟩) (by assumption) ?_
              try simp only [Act.put, List.getElem_toArray, List.getElem_cons_succ, List.getElem_cons_zero, List.setIfInBounds_toArray, List.set_cons_zero, List.set_cons_succ]
              refine wpAnyH_take (i := 7) (v := undef) rfl (by kernel_rfl) (by kernel_rfl) (by kernel_rfl) (fun _ _ _ h => h) (Or.inr ⟨by rfl, rfl⟩) (by assumption) ?_
              try simp only [Act.put, List.getElem_toArray, List.getElem_cons_succ, List.getElem_cons_zero, List.setIfInBounds_toArray, List.set_cons_zero, List.set_cons_succ]
              refine wpAnyH_take (i := 8) (v := undef) rfl (by kernel_rfl) (by kernel_rfl) (by kernel_rfl) (fun _ _ _ h => h) (Or.inr ⟨by rfl, rfl⟩) (by assumption) ?_
              try simp only [Act.put, List.getElem_toArray, List.getElem_cons_succ, List.getElem_cons_zero, List.setIfInBounds_toArray, List.set_cons_zero, List.set_cons_succ]
              refine wpAnyH_take (i := 9) (v := undef) rfl (by kernel_rfl) (by kernel_rfl) (by kernel_rfl) (fun _ _ _ h => h) (Or.inr ⟨by rfl, rfl⟩) (by assumption) ?_
              try simp only [Act.put, List.getElem_toArray, List.getElem_cons_succ, List.getElem_cons_zero, List.setIfInBounds_toArray, List.set_cons_zero, List.set_cons_succ]
              refine wpAnyH_take (i := 10) (v := undef) rfl (by kernel_rfl) (by kernel_rfl) (by kernel_rfl) (fun _ _ _ h => h) (Or.inr ⟨by rfl, rfl⟩) (by assumption) ?_
              try simp only [Act.put, List.getElem_toArray, List.getElem_cons_succ, List.getElem_cons_zero, List.setIfInBounds_toArray, List.set_cons_zero, List.set_cons_succ]
              refine wpAnyH_take (i := 11) (v := undef) rfl (by kernel_rfl) (by kernel_rfl) (by kernel_rfl) (fun _ _ _ h => h) (Or.inr ⟨by rfl, rfl⟩) (by assumption) ?_
              try simp only [Act.put, List.getElem_toArray, List.getElem_cons_succ, List.getElem_cons_zero, List.setIfInBounds_toArray, List.set_cons_zero, List.set_cons_succ]
              refine wpAnyH_take (i := 12) (v := undef) rfl (by kernel_rfl) (by kernel_rfl) (by kernel_rfl) (fun _ _ _ h => h) (Or.inr ⟨by rfl, rfl⟩) (by assumption) ?_
              try simp only [Act.put, List.getElem_toArray, List.getElem_cons_succ, List.getElem_cons_zero, List.setIfInBounds_toArray, List.set_cons_zero, List.set_cons_succ]
              refine wpAnyH_take (i := 13) (v := ?vf13) rfl (by kernel_rfl) (by kernel_rfl) (by kernel_rfl) (fun _ _ _ h => h) (Or.inl ⟨by rfl, ?hyf13⟩) (by assumption) ?restf13
              case hyf13 => (intro w hSw; (try dsimp only at hSw); go_simp; try with_reducible rfl)
              try simp only [Act.put, List.getElem_toArray, List.getElem_cons_succ, List.getElem_cons_zero, List.setIfInBounds_toArray, List.set_cons_zero, List.set_cons_succ]
              refine wpAnyH_take (i := 14) (v := ?vf14) rfl (by kernel_rfl) (by kernel_rfl) (by kernel_rfl) (fun _ _ _ h => h) (Or.inl ⟨by rfl, ?hyf14⟩) (by assumption) ?restf14
              case hyf14 => (intro w hSw; (try dsimp only at hSw); go_simp; try with_reducible rfl)
              try simp only [Act.put, List.getElem_toArray, List.getElem_cons_succ, List.getElem_cons_zero, List.setIfInBounds_toArray, List.set_cons_zero, List.set_cons_succ]
              refine wpAnyH_done (by kernel_rfl) ?_ _
              go_wp2
              go_roundw
              case rel => exact ⟨i + 1, false, rfl, by go_num, by omega, by omega, grown_trans hgi (by assumption), HT⟩
              case measure => simp [intOf]; omega
            | true =>
              obtain ⟨bl, ol, a2, cap2, hal, _, hbl, hcl, hru⟩ := Rows3.at HR.out k hlt
              cases hal
              obtain ⟨bl2, ol2, a3, cap3, hal2, _, hbl2, hcl2, hru2⟩ := Rows3.at HR.out i (by omega)
              cases hal2
              have hkB := HL.out.1 _ (gt_mem hlt)
              have hiB := HL.out.1 _ (gt_mem (show i < N.length by omega))
              have e1 : ∀ w', Ext wr w' → w'.cell? ⟨w.heap.size, 0, none⟩ = some vo6 := fun w' h => (HB.out w' (grown_trans hg02 (grown_trans hg2i h))).1
              have e2 : ∀ w', Ext wr w' → w'.cell? ⟨w.heap.size, 1, none⟩ = some vp6 := fun w' h => (HB.out w' (grown_trans hg02 (grown_trans hg2i h))).2.1
              have e3 : ∀ w', Ext wr w' → w'.cell? ⟨w.heap.size, 2, none⟩ = some vc6 := fun w' h => (HB.out w' (grown_trans hg02 (grown_trans hg2i h))).2.2
              have e4 : ∀ w', Ext wr w' → w'.cell? ⟨bl, ol + k, none⟩ = some (.slice a2 (gt N k).length cap2) := fun w' h => (grown_trans hg2i h).cell hcl (by simp)
              have e5 : ∀ w', Ext wr w' → w'.cell? ⟨bl, ol + i, none⟩ = some (.slice a3 (gt N i).length cap3) := fun w' h => (grown_trans hg2i h).cell hcl2 (by simp)
              have S := G.subB hkB
              have ec : cseq P (genP P fun x => x ∈ gt N k) = gt N k := hkB.2.symm
              have hvK : Rows2 Any w2 (.slice a2 (gt N k).length cap2) (cseq P (genP P fun x => x ∈ gt N k)) := by rw [ec]; exact hru
              have hw := fun (w' : World) (h : Ext wr w') => l12Within_ok P G w' (.agg #[vo6, vp6, vc6]) _ _ (gt N i) _ Any Any Any S ⟨_, _, _, rfl, Pres3.ext h36 (grown_trans hg02 (grown_trans hg2i h))⟩ (Rows2.ext hru2 (grown_trans hg2i h)) hiB.1 (Rows2.ext hvK (grown_trans hg2i h))
              have HW := Lib.hid hw; clear hw hkB hiB S ec hvK hru hru2 hcl hcl2
              go_wp2
              go_region_held3 (fun w' => Ext wr w') (first | exact grown_drew _ _ | exact Ext.refl _ | assumption)
                (first
                  | (go_at_call 89; refine Calls.mono (Calls.rel (w0 := wr) (by assumption) (HW.out _ (by assumption))) ?_; rintro e4 w4 ⟨v4, rfl, hg4, hs4, r, rfl, hr⟩))
              clear e1 e2 e3 e4 e5
              cases r with
              | true =>
                have HT := Lib.hid (show (false = true) ↔ ∀ j, 1 ≤ j → j < i + 1 → ¬ ∀ z ∈ gt N j, gP P (gt N k) z from ⟨fun h => (by cases h), fun h => absurd (hr.1 rfl) (h i hi1 (by omega))⟩)
                clear hT hr
                go_wp2
                go_roundw
                case rel => exact ⟨i + 1, false, rfl, by go_num, by omega, by omega, grown_trans hgi hg4, by first | exact HT | exact Lib.hid (by have h3 := HT.out; simpa using h3)⟩
                case measure => simp [intOf]; omega
              | false =>
                have HT := Lib.hid (show (true = true) ↔ ∀ j, 1 ≤ j → j < i + 1 → ¬ ∀ z ∈ gt N j, gP P (gt N k) z from ⟨fun _ j h1 h2 => (by
                  rcases Nat.lt_succ_iff_lt_or_eq.1 h2 with h3 | h3
                  · exact hT.out.1 (by first | trivial | rfl) j h1 h3
                  · subst h3; exact fun h => (by have := hr.2 h; cases this)), fun _ => rfl⟩)
                clear hT hr
                go_wp2
                go_roundw
                case rel => exact ⟨i + 1, true, rfl, by go_num, by omega, by omega, grown_trans hgi hg4, by first | exact HT | exact Lib.hid (by have h3 := HT.out; simpa using h3)⟩
                case measure => simp [intOf]; omega
          · have hie : i = k := by omega
            have hnl : ¬ (i : Int) < k := by omega
            have hft := hT.out
            rw [hie] at hft
            have hOi := hO.ext hgi
            obtain ⟨bl, ol, a2, cap2, hal, _, hbl, hcl, hru⟩ := Rows3.at HR.out k hlt
            cases hal
            cases tp with
            | true =>
              have hst := flTo_yes (L := N) (Q := minR P N) (k := k) ⟨hk1, hft.1 rfl⟩
              have huS : Rows2 (fun j => Any j ∧ j < w2.heap.size) wr (.slice a2 (gt N k).length cap2) (gt N k) := Rows2.mono hru (fun j _ hlt => ⟨⟨trivial, hlt⟩, Nat.lt_of_lt_of_le hlt hg2i.size, hg2i.block j hlt (by simp)⟩)
              have hcr := hg2i.cell hcl (by simp)
              have HS := Lib.hid (And.intro hst huS); clear hst huS hft hT hie hcl hru
              go_wp2_with (first | (at_builtin; refine wp_app_r3 rfl _ _ rfl Any w2.heap.size _ _ (flTo (minR P N) N k) (gt N k) rfl wr hOi HS.out.2 rfl rfl (by omega) hg2i.size ?_; intro v8 w8 hO8 hg8; have hg08 := grown_own hg2i hg8 (fun b hb hlt => by have := (hOi.lt b hb).1; omega)) | fail)
              clear hcr
              rw [← HS.out.1] at hO8
              go_roundw
              case rel => exact ⟨k + 1, v8, rfl, by go_num, by omega, by omega, hg08, hO8⟩
              case measure => simp [intOf]; omega
            | false =>
              have hst := flTo_no (L := N) (Q := minR P N) (k := k) (fun h => by have := hft.2 h.2; cases this)
              rw [← hst] at hOi
              clear hst hft hT hie hcl hru
              go_wp2
              go_roundw
              case rel => exact ⟨k + 1, v6, rfl, by go_num, by omega, by omega, hg2i, hOi⟩
              case measure => simp [intOf]; omega
      · have hke : k = N.length := by omega
        have hnl : ¬ (k : Int) < N.length := by omega
        have hrows := hO.rows (by omega)
        rw [hke] at hrows
        have hmem := fun u hu => HL.out.2.1 u (flTo_mem (Q := minR P N) (L := N) (Nat.le_refl _) u hu)
        obtain ⟨az, cz, hvz⟩ := hO.shape
        subst hvz
        obtain ⟨X, hX⟩ : ∃ X, X = flTo (minR P N) N N.length := ⟨_, rfl⟩
        have hXl : X.length ≤ N.length := by rw [hX]; exact flTo_len _ _ _
        have hkX : (flTo (minR P N) N k).length = X.length := by rw [hke, hX]
        rw [← hX] at hrows hmem
        rw [hkX] at hrows ⊢
        have HM := Lib.hid (And.intro hmem (And.intro hX hrows)); clear hmem hX hO hkX hke
        have hrows := HM.out.2.2
        go_wp2_with fail
        refine Calls.mono (l19Own_ok wr _ X _ hrows HM.out.1 (by omega)) ?_
        rintro e3 w3 ⟨v3, rfl, hg3, hO⟩
        have hD := hO.toD (by omega)
        obtain ⟨ra, rc, hrv, _, _⟩ := SlD.shape hD
        subst hrv
        have hR3 := Rows3D.rows hD
        have HR3 := Lib.hid hR3; clear hR3 hD hO hrows
        go_wp2
        go_ret2
        exact ⟨_, rfl, grown_trans hg0 (grown_trans hg02 (grown_trans hg hg3)), _, _, _, by rw [← HC.out]; rfl, by rw [HL.out.2.2, ← HM.out.2.1]; exact Rows3.sub HR3.out (fun _ _ _ => trivial)⟩
  · have hall := mnL_no hz
    rw [← hc] at hz
    have hne : (c != 0) = true := by simpa using hz
    have HA := Lib.hid hall; clear hall hc
    go_wp2
    go_ret2
    exact ⟨_, rfl, grown_trans hg0 hg1, none, 0, 0, by rw [← HC.out]; rfl, by rw [HA.out]; exact ⟨none, 0, rfl, ⟨by simp, by simp, fun _ => rfl⟩, fun i hi => by simp at hi⟩⟩

end Go.Proofs.YtdklekdpdbjfiaaGreat
