/-
  impl.MinimalNormalSubgroups.
-/
import Derived.Test.YtdklekdpdbjfiaaGreatSFilterM
import Derived.Test.YtdklekdpdbjfiaaGreatSMaxLaw
import Derived.Test.YtdklekdpdbjfiaaGreatSINorm
namespace Go.Proofs.YtdklekdpdbjfiaaGreat
open Go.RowKit

theorem lat_row_of {w : World} {g c : Nat} {L : List (List (List Int))} {B : Nat} (h : SlO (fun F w u (x : List (List Int)) => RowsD F w u x) 23 B w (.slice (some ⟨g, 0, none⟩) L.length c) L) {i : Nat} (hi : i < L.length) :
    ∃ ua uc, w.cell? ⟨g, i, none⟩ = some (.slice ua (gt L i).length uc) ∧ Rows2 Any w (.slice ua (gt L i).length uc) (gt L i) := by
  obtain ⟨g2, c2, ua, uc, e, h1, h2⟩ := lat_row_at h hi
  cases e
  exact ⟨ua, uc, h1, h2⟩

theorem masks64 {P : Pr} {L : List (List (List Int))} (h32 : ordP P ≤ 32) : ∀ m ∈ L.map (mskU P), m < 2 ^ 64 := fun m hm => by
  obtain ⟨u, _, rfl⟩ := List.mem_map.1 hm
  exact mask64 h32

set_option maxRecDepth 100000 in
set_option maxHeartbeats 4000000 in
theorem minClosure_ok (P : Pr) (G : Grp P) (h32 : ordP P ≤ 32) (L : List (List (List Int))) (hL : LatL P L) (w : World) (B B' lb xb i : Nat) (pp p lv mv : Value) (Sp : Nat → Prop) (hi : i < L.length) (hX : Box3 w lb p lv mv) (hp : PresP Sp w pp P)
    (hLv : SlO (fun F w u (x : List (List Int)) => RowsD F w u x) 23 B w lv L) (hM : OwnV B' 95 w mv ((L.map (mskU P)).map uV)) (hx : w.cell? ⟨xb, 0, none⟩ = some (.pointer (some ⟨lb, 0, none⟩))) :
    Calls Tryz.prog 90 #[.int .i64 (i : Int), .pointer (some ⟨xb, 0, none⟩), pp] w (Ret w fun _ v => ∃ r : Bool, v = .bool r ∧ (r = true ↔ minQ P L i)) := by
  have hsub : ∀ u ∈ L, SubB P u := fun u hu => (hL.2 u).1 hu
  have hlen := G.lat_len h32 hL
  obtain ⟨g, c, ua, uc, rfl, hc, hR⟩ := lat_row_at hLv hi
  obtain ⟨ms, hms⟩ : ∃ ms, ms = L.map (mskU P) := ⟨_, rfl⟩
  have hml : ms.length = L.length := by rw [hms, List.length_map]
  have hmg : ∀ k, k < L.length → gt ms k = mskU P (gt L k) := fun k hk => by rw [hms]; exact gt_map _ _ _ hk
  have hm64 : ∀ m ∈ ms, m < 2 ^ 64 := by rw [hms]; exact masks64 h32
  rw [← hms] at hM
  obtain ⟨gm, capm, hmv⟩ := uV_shape hM (by omega)
  rw [hml] at hmv
  subst hmv
  obtain ⟨pb, po, rfl⟩ := hp.shape
  have hnorm : ∀ (k : Nat) (wr : World) (va : Option Addr) (vc : Nat), k < L.length → Ext w wr → Rows2 Any wr (.slice va (gt L k).length vc) (gt L k) →
      Calls Tryz.prog 86 #[.pointer (some ⟨pb, po, none⟩), .slice va (gt L k).length vc] wr (Ret wr fun _ v => ∃ r : Bool, v = .bool r ∧ (r = true ↔ NormP P (gP P (gt L k)))) := fun k wr va vc hk hgr hv => by
    have huB := hsub _ (gt_mem hk)
    have S := G.subB huB
    have e : cseq P (genP P fun x => x ∈ gt L k) = gt L k := huB.2.symm
    have hv' : Rows2 Any wr (.slice va (gt L k).length vc) (cseq P (genP P fun x => x ∈ gt L k)) := by rw [e]; exact hv
    refine Calls.mono (isNormal_ok P G wr _ _ _ Sp Any S (hp.ext hgr) hv') ?_
    rintro e1 w1 ⟨v1, rfl, hg1, r, rfl, hr⟩
    exact ⟨_, rfl, hg1, r, rfl, hr.trans (G.norm_iff S)⟩
  have hcx : ∀ w', Ext w w' → w'.cell? ⟨lb, 1, none⟩ = some (.slice (some ⟨g, 0, none⟩) L.length c) ∧ w'.cell? ⟨lb, 2, none⟩ = some (.slice (some ⟨gm, 0, none⟩) L.length capm) ∧ w'.cell? ⟨xb, 0, none⟩ = some (.pointer (some ⟨lb, 0, none⟩)) := fun w' h => ⟨(hX.ext h).2.2.1, (hX.ext h).2.2.2.1, h.cell hx (by simp)⟩
  have hli : (i : Int) < L.length := by omega
  have HA := Lib.hid (And.intro hms (And.intro hmg (And.intro hm64 (And.intro hsub (And.intro hnorm hcx))))); clear hms hmg hm64 hsub hnorm hcx
  obtain ⟨hy1, hy2, hy3⟩ := HA.out.2.2.2.2.2 w (Ext.refl _)
  clear hx
  go_enter Tryz.func90, Tryz.ntmps90
  by_cases hnil : gt L i = []
  · have hno : ¬ minQ P L i := fun h => h.1 hnil
    have h0 : (gt L i).length = 0 := by rw [hnil]; rfl
    have HN := Lib.hid hno; clear hno hR
    rw [h0] at hc
    go_wp2_with fail
    clear hy1 hy2 hy3 hc
    go_wp2
    go_ret
    exact ⟨_, rfl, Ext.refl _, false, rfl, by simpa using HN.out⟩
  · have h0 : 0 < (gt L i).length := List.length_pos_iff.2 hnil
    have hne : (((gt L i).length : Int) == 0) = false := by
      have : ¬ ((gt L i).length : Int) = 0 := by omega
      simpa using this
    have hcl := HA.out.2.2.2.2.1 i w ua uc hi (Ext.refl _) hR
    obtain ⟨n, hn⟩ : ∃ n, n = (gt L i).length := ⟨_, rfl⟩
    rw [← hn] at hc hne hcl
    have HN := Lib.hid hnil; clear hnil hR h0 hn
    go_wp2_with fail
    refine Calls.mono hcl ?_
    rintro e1 w1 ⟨v1, rfl, hg1, r, rfl, hr⟩
    clear hcl hy1 hy2 hy3 hc hne
    cases r with
    | false =>
      have hno : ¬ minQ P L i := fun h => by have := hr.2 h.2.1; cases this
      have HO := Lib.hid hno; clear hno hr
      go_wp2
      go_ret
      exact ⟨_, rfl, hg1, false, rfl, by simpa using HO.out⟩
    | true =>
      have hni := hr.1 rfl
      have HNI := Lib.hid hni; clear hni hr
      obtain ⟨hy1, hy2, hy3⟩ := HA.out.2.2.2.2.2 w1 hg1
      go_wp2
      clear hy1 hy2 hy3
      go_loopw [32] (fun kv wr => ∃ k : Nat, kv = .int .i64 k ∧ k ≤ L.length ∧ Ext w wr ∧ Hid (∀ j, j < k → j ≠ i → gt L j ≠ [] → (∀ x, gP P (gt L j) x → gP P (gt L i) x) → ¬ NormP P (gP P (gt L j)))) (fun kv _ => L.length - (intOf kv).toNat)
      case atStart => exact ⟨0, by go_num, by omega, hg1, Lib.hid (fun j hj => by omega)⟩
      case round =>
        obtain ⟨k, rfl, hk, hg, hF⟩ := hrel
        by_cases hlt : k < L.length
        · have hlt' : (k : Int) < L.length := by omega
          obtain ⟨hy1, hy2, hy3⟩ := HA.out.2.2.2.2.2 wr hg
          have hck := hg.cell (uV_cell hM (show k < ms.length by omega)) (by simp)
          have hci := hg.cell (uV_cell hM (show i < ms.length by omega)) (by simp)
          have hand := andNot_zero (gt ms k) (gt ms i) (HA.out.2.2.1 _ (gtMem (by omega))) (HA.out.2.2.1 _ (gtMem (by omega)))
          have hin := G.inM_iff (G.subB (HA.out.2.2.2.1 _ (gt_mem hlt))) (G.subB (HA.out.2.2.2.1 _ (gt_mem hi)))
          obtain ⟨va, vc, hcv, hRv⟩ := lat_row_of (hLv.ext rdRows hg) hlt
          have hmk := HA.out.2.1 k hlt
          have hmi := HA.out.2.1 i hi
          have hin' : inM (gt ms k) (gt ms i) = true ↔ ∀ x, gP P (gt L k) x → gP P (gt L i) x := by rw [hmk, hmi]; exact hin
          have hskip : (k ≠ i → gt L k ≠ [] → (∀ x, gP P (gt L k) x → gP P (gt L i) x) → ¬ NormP P (gP P (gt L k))) → Hid (∀ j, j < k + 1 → j ≠ i → gt L j ≠ [] → (∀ x, gP P (gt L j) x → gP P (gt L i) x) → ¬ NormP P (gP P (gt L j))) := fun h => Lib.hid (fun j hj => by
            rcases Nat.lt_succ_iff_lt_or_eq.1 hj with h1 | h1
            · exact hF.out j h1
            · subst h1; exact h)
          obtain ⟨a, ha⟩ : ∃ a, a = gt ms k := ⟨_, rfl⟩
          obtain ⟨b, hb⟩ : ∃ b, b = gt ms i := ⟨_, rfl⟩
          rw [← ha] at hck hand hin'
          rw [← hb] at hci hand hin'
          clear hin hmk hmi ha hb
          by_cases hki : k = i
          · have HS := hskip (fun h => absurd hki h)
            have hb1 : ((k : Int) != (i : Int)) = false := by simp [hki]
            clear hskip hki hand hin' hRv
            go_wp2
            clear hy1 hy2 hy3 hck hci hcv hb1
            go_roundw
            case rel => exact ⟨k + 1, by go_num, by omega, hg, HS⟩
            case measure => simp [intOf]; omega
          · have hb1 : ((k : Int) != (i : Int)) = true := by
              have : ¬ (k : Int) = i := by omega
              simpa using this
            by_cases hkn : gt L k = []
            · have HS := hskip (fun _ h => absurd hkn h)
              have h0 : (gt L k).length = 0 := by rw [hkn]; rfl
              rw [h0] at hcv
              clear hskip hki hand hin' hRv hkn
              go_wp2
              clear hy1 hy2 hy3 hck hci hcv hb1
              go_roundw
              case rel => exact ⟨k + 1, by go_num, by omega, hg, HS⟩
              case measure => simp [intOf]; omega
            · have h0 : 0 < (gt L k).length := List.length_pos_iff.2 hkn
              have hcl := HA.out.2.2.2.2.1 k wr va vc hlt hg hRv
              obtain ⟨n, hn⟩ : ∃ n, n = (gt L k).length := ⟨_, rfl⟩
              rw [← hn] at hcv h0 hcl
              have h0' : (0 : Int) < n := by omega
              cases hia : inM a b with
              | false =>
                rw [hia] at hand
                have HS := hskip (fun _ _ h => by
                  have := hin'.2 h
                  rw [hia] at this; cases this)
                clear hskip hki hin' hRv hkn hcl hn hia
                go_wp2
                clear hy1 hy2 hy3 hck hci hcv hb1
                go_roundw
                case rel => exact ⟨k + 1, by go_num, by omega, hg, HS⟩
                case measure => simp [intOf]; omega
              | true =>
                rw [hia] at hand
                have hsb := hin'.1 hia
                have HK := Lib.hid (And.intro hkn (And.intro hsb (And.intro hki hskip))); clear hkn hsb hki hin' hRv hn hia hskip
                go_wp2_with fail
                refine Calls.mono hcl ?_
                rintro e2 w2 ⟨v2, rfl, hg2, r, rfl, hr⟩
                clear hcl hy1 hy2 hy3 hck hci hcv hb1
                cases r with
                | true =>
                  have hno : ¬ minQ P L i := fun h => h.2.2 k hlt HK.out.2.2.1 HK.out.1 HK.out.2.1 (hr.1 rfl)
                  have HO := Lib.hid hno; clear hno hr
                  go_wp2
                  go_ret
                  exact ⟨_, rfl, grown_trans hg hg2, false, rfl, by simpa using HO.out⟩
                | false =>
                  have HS := HK.out.2.2.2 (fun _ _ _ h => by have := hr.2 h; cases this)
                  clear hr
                  go_wp2
                  go_roundw
                  case rel => exact ⟨k + 1, by go_num, by omega, grown_trans hg hg2, HS⟩
                  case measure => simp [intOf]; omega
        · have hke : k = L.length := by omega
          have hyes : minQ P L i := ⟨HN.out, HNI.out, fun j hj => hF.out j (by omega)⟩
          have hnl : ¬ (k : Int) < L.length := by omega
          have HY := Lib.hid hyes; clear hyes hF
          go_wp2
          go_ret
          first | exact ⟨_, rfl, hg, true, rfl, by simpa using HY.out⟩ | exact ⟨_, rfl, hg, .inr ⟨rfl, HY.out⟩⟩

set_option maxRecDepth 100000 in
set_option maxHeartbeats 2000000 in
theorem iMin_ok (P : Pr) (w : World) (pv : Value) (Sp : Nat → Prop) (hpv : PresV Sp w pv P) :
    Calls Tryz.prog 46 #[pv] w (Ret w fun w' v => ∃ a n c, v = .tuple #[.slice a n c, .int .i64 (latC P)] ∧ SlO (fun F w u (x : List (List Int)) => RowsD F w u x) 23 w.heap.size w' (.slice a n c) (mnL P)) := by
  obtain ⟨vo, vp, vc, rfl, h3⟩ := hpv
  have hp0 := PresP.box h3 31
  have hg0 : Ext w (w.alloc (.cells #[vo, vp, vc] 31)) := World.grownBy_alloc _ _ _
  have hlat := latticeOf_ok P _ _ Any hp0
  go_enter Tryz.func46, Tryz.ntmps46
  go_wp2_with fail
  generalize hw0 : w.alloc (.cells #[vo, vp, vc] 31) = w0 at *
  clear hw0
  refine Calls.mono hlat ?_
  rintro e1 w1 ⟨v1, rfl, hg1, lp, rfl, hno, hyes⟩
  clear hlat
  have hgw1 := grown_trans hg0 hg1
  by_cases hz : latC P = 0
  · obtain ⟨lb, L, rfl, hL, hA⟩ := hyes hz
    obtain ⟨hlo, lv, mv, hX, hO, hM⟩ := hA
    have G := grp_of_r (latC_zero hz).1
    have h32 := (latC_zero hz).2
    have hall := mnL_ok hz hL
    have hln := mnL_len P
    have hlen := G.lat_len h32 hL
    have hM2 : OwnV w0.heap.size 95 w1 mv ((L.map (mskU P)).map uV) := by rw [List.map_map]; exact hM
    have hg2 : Ext w1 (w1.alloc (.cells #[.pointer (some ⟨lb, 0, none⟩)] 81)) := World.grownBy_alloc _ _ _
    have hx : (w1.alloc (.cells #[.pointer (some ⟨lb, 0, none⟩)] 81)).cell? ⟨w1.heap.size, 0, none⟩ = some (.pointer (some ⟨lb, 0, none⟩)) := by rw [World.cell?_alloc_at _ _ _ _ rfl]; rfl
    have hX2 := hX.ext hg2
    have hO2 := hO.ext rdRows hg2
    have hM3 : OwnV w0.heap.size 95 (w1.alloc (.cells #[.pointer (some ⟨lb, 0, none⟩)] 81)) mv ((L.map (mskU P)).map uV) := hM2.kept hg2 (by cases hv : mv.ownBlock <;> simp)
    have hp2 := hp0.ext (grown_trans hg1 hg2)
    have hmx := filterM_ok (minQ P L) (.pointer (some ⟨w1.heap.size, 0, none⟩)) (.pointer (some ⟨w.heap.size, 0, none⟩)) L hlen _ w0.heap.size lb _ lv mv hX2 hO2 (Nat.le_trans hg1.size hg2.size)
      (fun i wr hi hgr => minClosure_ok P G h32 L hL wr w0.heap.size w0.heap.size lb w1.heap.size i _ _ lv mv Any hi (hX2.ext hgr) (hp2.ext hgr) (hO2.ext rdRows hgr) (hM3.kept hgr (by cases hv : mv.ownBlock <;> simp)) (hgr.cell hx (by simp)))
    obtain ⟨c, hc⟩ : ∃ c, c = latC P := ⟨_, rfl⟩
    have hc0 : c = 0 := by rw [hc]; exact hz
    rw [← hc]
    have HC := Lib.hid (And.intro hc (And.intro hall (And.intro hg2 hx))); clear hc hall hO hL hM hM2 hM3 hO2 hno hyes hz hX hX2 hg2 hx hp2
    subst hc0
    go_wp2_with fail
    refine Calls.mono hmx ?_
    rintro e2 w2 ⟨v2, rfl, hg3, hR⟩
    clear hmx
    rw [← HC.out.2.1] at hR
    obtain ⟨ra, rc, hrv, _, _⟩ := SlD.shape (hR.toD (by omega))
    subst hrv
    have HR := Lib.hid hR; clear hR
    go_wp2
    go_ret2
    exact ⟨_, rfl, grown_trans hgw1 (grown_trans HC.out.2.2.1 hg3), _, _, _, by rw [← HC.out.1]; rfl, HR.out.weak hg0.size⟩
  · have hlp := hno hz
    subst hlp
    have hall := mnL_no hz
    obtain ⟨c, hc⟩ : ∃ c, c = latC P := ⟨_, rfl⟩
    rw [← hc] at hz ⊢
    have hne : (c != 0) = true := by simpa using hz
    have hg2 : Ext w1 (w1.alloc (.cells #[.pointer none] 81)) := World.grownBy_alloc _ _ _
    have HC := Lib.hid (And.intro hc (And.intro hall hg2)); clear hc hall hno hyes hg2
    go_wp2
    go_ret2
    exact ⟨_, rfl, grown_trans hgw1 HC.out.2.2, none, 0, 0, by rw [← HC.out.1]; rfl, by rw [HC.out.2.1]; exact SlO.nil _ _ _ _⟩

end Go.Proofs.YtdklekdpdbjfiaaGreat
