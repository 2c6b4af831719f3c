/-
  spec.l19In, l19Maximal, MaximalSubgroups.
-/
import Derived.Test.YtigbpdaomgagiaaGreatSIMax
namespace Go.Proofs.YtigbpdaomgagiaaGreat
open Go.RowKit

theorem i64_and_nat (a b : Nat) (ha : a < 2 ^ 32) (hb : b < 2 ^ 32) : bits .and .i64 (a : Int) (b : Int) = ((a &&& b : Nat) : Int) := by
  have hx : a &&& b < 2 ^ 32 := Nat.and_lt_two_pow _ hb
  have ha' : a < 4294967296 := ha
  have hb' : b < 4294967296 := hb
  have hx' : a &&& b < 4294967296 := hx
  show IntKind.i64.wrap ((BitVec.ofInt 64 (a : Int) &&& BitVec.ofInt 64 (b : Int)).toNat : Int) = _
  rw [BitVec.toNat_and, ofInt_u64 a (by omega), ofInt_u64 b (by omega)]
  exact IntWalk.i64_in _ ⟨by omega, by omega⟩

theorem mask32 {P : Pr} {H : List Int → Prop} (h : ordP P ≤ 32) : msk P H < 2 ^ 32 :=
  Nat.lt_of_lt_of_le (msk_lt P H) (Nat.pow_le_pow_right (by decide) (by omega))
theorem lat_masks32 {P : Pr} {L : List (List (List Int))} (h32 : ordP P ≤ 32) : ∀ m ∈ L.map (mskU P), m < 2 ^ 32 := fun m hm => by
  obtain ⟨u, _, rfl⟩ := List.mem_map.1 hm
  exact mask32 h32

set_option maxRecDepth 100000 in
set_option maxHeartbeats 2000000 in
theorem l19In_ok (ms : List Nat) (hms : ∀ m ∈ ms, m < 2 ^ 32) (w : World) (sv mv : Value) (S : Nat → Prop) (i j : Nat) (hi : i < ms.length) (hj : j < ms.length) (hM : Ints S w mv (natI ms)) :
    Calls Tryz.prog 134 #[.agg #[sv, mv], .int .i64 i, .int .i64 j] w (Ret w fun _ v => v = .bool (inM (gt ms i) (gt ms j))) := by
  have hg0 : Ext w (w.alloc (.cells #[sv, mv] 77)) := World.grownBy_alloc _ _ _
  obtain ⟨am, cm, hmv, _, _⟩ := hM.shape
  rw [natI_len] at hmv
  subst hmv
  have hc1 : (w.alloc (.cells #[sv, .slice am ms.length cm] 77)).cell? ⟨w.heap.size, 1, none⟩ = some (.slice am ms.length cm) := by
    rw [World.cell?_alloc_at _ _ _ _ rfl]; rfl
  have hM2 : Sl IntEl S w (.slice am (natI ms).length cm) (natI ms) := by rw [natI_len]; exact hM
  obtain ⟨bm, om, ham, _, _, hci⟩ := Ints.at hM2 i (by rw [natI_len]; exact hi)
  subst ham
  obtain ⟨bm2, om2, ham2, _, _, hcj⟩ := Ints.at hM2 j (by rw [natI_len]; exact hj)
  cases ham2
  rw [natI_gt hi] at hci
  rw [natI_gt hj] at hcj
  have hci2 := hg0.cell hci (by simp)
  have hcj2 := hg0.cell hcj (by simp)
  have hand := i64_and_nat (gt ms i) (gt ms j) (hms _ (gtMem hi)) (hms _ (gtMem hj))
  have hin : (((gt ms i &&& gt ms j : Nat) : Int) == ((gt ms i : Nat) : Int)) = inM (gt ms i) (gt ms j) := natI_eqB
  obtain ⟨a, ha⟩ : ∃ a, a = gt ms i := ⟨_, rfl⟩
  obtain ⟨b, hb⟩ : ∃ b, b = gt ms j := ⟨_, rfl⟩
  obtain ⟨c, hc⟩ : ∃ c, c = gt ms i &&& gt ms j := ⟨_, rfl⟩
  rw [← hc] at hand hin
  rw [← ha] at hci hci2 hand hin ⊢
  rw [← hb] at hcj hcj2 hand hin ⊢
  obtain ⟨r, hr⟩ : ∃ r, r = inM a b := ⟨_, rfl⟩
  rw [← hr] at hin ⊢
  have hi' : (i : Int) < ms.length := by omega
  have hj' : (j : Int) < ms.length := by omega
  clear hci hcj hM hM2 ha hb hc hr
  go_enter Tryz.func134, Tryz.ntmps134
  go_wp2
  go_quiet (fail)
  rename_i nq _
  go_wp2
  go_ret
  exact ⟨_, rfl, grown_trans hg0 (grown_drewN _ _ _), rfl⟩

set_option maxRecDepth 100000 in
set_option maxHeartbeats 4000000 in
theorem l19Maximal_ok (P : Pr) (G : Grp P) (w : World) (pv : Value) (Sp : Nat → Prop) (h32 : ordP P ≤ 32) (hpv : PresV Sp w pv P) :
    Calls Tryz.prog 84 #[pv] w (Ret w fun w' v => ∃ L, LatL P L ∧ Rows3 Any w' v (maxTo L (L.map (mskU P)) L.length)) := by
  obtain ⟨vo, vp, vc, rfl, h3⟩ := hpv
  have hg0 : Ext w (w.alloc (.cells #[vo, vp, vc] 31)) := World.grownBy_alloc _ _ _
  have hf := l19Full_ok P G _ (.agg #[vo, vp, vc]) Sp h32 ⟨_, _, _, rfl, h3.ext hg0⟩
  go_enter Tryz.func84, Tryz.ntmps84
  go_wp2_with fail
  generalize hw0 : w.alloc (.cells #[vo, vp, vc] 31) = w0 at *
  clear hw0
  refine Calls.mono hf ?_
  rintro e1 w1 ⟨v1, rfl, hg1, sv, mv, rfl, L, hL, hR, hM⟩
  clear hf
  have hlen := G.lat_len h32 hL
  have hne := (G.lat_top hL).1
  obtain ⟨ms, hms⟩ : ∃ ms, ms = L.map (mskU P) := ⟨_, rfl⟩
  have hml : ms.length = L.length := by rw [hms, List.length_map]
  have hm32 : ∀ m ∈ ms, m < 2 ^ 32 := by rw [hms]; exact lat_masks32 h32
  rw [← hms] at hM
  obtain ⟨sa, sc, hsv, _, _⟩ := Sl.shape hR
  subst hsv
  obtain ⟨am, cm, hmv, _, _⟩ := hM.shape
  rw [natI_len, hml] at hmv
  subst hmv
  have hg2 : Ext w1 (w1.alloc (.cells #[.slice sa L.length sc, .slice am L.length cm] 77)) := World.grownBy_alloc _ _ _
  have hb0 : ∀ w', Ext (w1.alloc (.cells #[.slice sa L.length sc, .slice am L.length cm] 77)) w' → w'.cell? ⟨w1.heap.size, 0, none⟩ = some (.slice sa L.length sc) ∧ w'.cell? ⟨w1.heap.size, 1, none⟩ = some (.slice am L.length cm) := fun w' h =>
    ⟨h.cell (by rw [World.cell?_alloc_at _ _ _ _ rfl]; rfl) (by simp), h.cell (by rw [World.cell?_alloc_at _ _ _ _ rfl]; rfl) (by simp)⟩
  have hR2 := Rows3.ext hR hg2
  have hM2 := Ints.ext hM hg2
  have hw : IntKind.i64.wrap ((L.length : Int) - 1) = (L.length : Int) - 1 := IntWalk.i64_in _ (by omega)
  have hs2 : (w1.alloc (.cells #[.slice sa L.length sc, .slice am L.length cm] 77)).heap.size = w1.heap.size + 1 := by simp
  have HL := Lib.hid (And.intro hL (And.intro hms (And.intro hm32 (And.intro hb0 (And.intro hM2 hw)))))
  have HS2 := Lib.hid hs2; clear hL hms hm32 hb0 hR hM hM2 hs2
  clear hw
  go_wp2
  generalize hw2 : w1.alloc (.cells #[.slice sa L.length sc, .slice am L.length cm] 77) = w2 at *
  clear hw2
  go_loopw [4, 5] (fun ov kv wr => ∃ (k : Nat) (v4 : Value), v4 = ov ∧ kv = .int .i64 k ∧ k ≤ L.length - 1 ∧ Ext w2 wr ∧ Sh3 Any w2.heap.size wr v4 (maxTo L ms k)) (fun _ kv _ => L.length - (intOf kv).toNat)
  case atStart => exact ⟨0, _, rfl, rfl, by omega, World.grownBy_alloc _ _ _, by rw [← HS2.out]; exact Sh3.lit0 _ _ _ (Nat.le_refl _)⟩
  case round =>
    obtain ⟨k, v4, rfl, rfl, hk, hg, hO⟩ := hrel
    have hw := HL.out.2.2.2.2.2
    obtain ⟨hx0, hx1⟩ := HL.out.2.2.2.1 wr hg
    have hln := maxTo_len L ms k
    by_cases hlt : k < L.length - 1
    · have hlt' : (k : Int) < (L.length : Int) - 1 := by omega
      have hltk' : (k : Int) < L.length := by omega
      obtain ⟨bl, ol, a2, cap2, hal, _, hbl, hcl, hru⟩ := Rows3.at hR2 k (by omega)
      subst hal
      go_wp2
      clear hx0 hx1 hw
      obtain ⟨wo, rfl⟩ : ∃ wo : World, wo = wr := ⟨_, rfl⟩
      go_loopw [6, 7] (fun tv iv wr => ∃ (i : Nat) (tp : Bool), tv = .bool tp ∧ iv = .int .i64 i ∧ k + 1 ≤ i ∧ i ≤ L.length - 1 ∧ Ext wo wr ∧ Hid (tp = true ↔ freeTo ms k i)) (fun _ iv _ => L.length - (intOf iv).toNat)
      case atStart => exact ⟨k + 1, true, rfl, by go_num, by omega, by omega, Ext.refl _, Lib.hid ⟨fun _ => freeTo_zero ms k, fun _ => rfl⟩⟩
      case round =>
        obtain ⟨i, tp, rfl, rfl, hi1, hi2, hgi, hT⟩ := hrel
        have hg2i := grown_trans hg hgi
        have hw := HL.out.2.2.2.2.2
        obtain ⟨hx0, hx1⟩ := HL.out.2.2.2.1 wr hg2i
        by_cases hlti : i < L.length - 1
        · have hlti' : (i : Int) < (L.length : Int) - 1 := by omega
          have hst := freeTo_step (ms := ms) (show k < i by omega)
          cases tp with
          | false =>
            have HT := Lib.hid (show (false = true) ↔ freeTo ms k (i + 1) from ⟨fun h => (by cases h), fun h => hT.out.2 (hst.1 h).1⟩)
            clear hst hT
            go_wp2
            clear hx0 hx1 hw
            go_roundw
            case rel => exact ⟨i + 1, false, rfl, by go_num, by omega, by omega, hgi, HT⟩
            case measure => simp [intOf]; omega
          | true =>
            have hfk := hT.out.1 rfl
            have hin := l19In_ok ms HL.out.2.2.1 wr (.slice (some ⟨bl, ol, none⟩) L.length sc) (.slice am L.length cm) _ k i (by omega) (by omega) (Ints.ext HL.out.2.2.2.2.1 hg2i)
            obtain ⟨r, hr⟩ : ∃ r, r = inM (gt ms k) (gt ms i) := ⟨_, rfl⟩
            rw [← hr] at hin hst
            have HS := Lib.hid (And.intro hst hfk); clear hst hfk hT hr
            go_wp2_with fail
            refine Calls.mono hin ?_
            rintro eI wI ⟨vI, rfl, hgI, rfl⟩
            clear hin hx0 hx1 hw
            cases r with
            | true =>
              have HT := Lib.hid (show (false = true) ↔ freeTo ms k (i + 1) from ⟨fun h => (by cases h), fun h => (by have := (HS.out.1.1 h).2; cases this)⟩)
              go_wp2
              go_roundw
              case rel => exact ⟨i + 1, false, rfl, by go_num, by omega, by omega, grown_trans hgi hgI, by first | exact HT | exact Lib.hid (by have h3 := HT.out; simpa using h3)⟩
              case measure => simp [intOf]; omega
            | false =>
              have HT := Lib.hid (show (true = true) ↔ freeTo ms k (i + 1) from ⟨fun _ => HS.out.1.2 ⟨HS.out.2, rfl⟩, fun _ => rfl⟩)
              go_wp2
              go_roundw
              case rel => exact ⟨i + 1, true, rfl, by go_num, by omega, by omega, grown_trans hgi hgI, by first | exact HT | exact Lib.hid (by have h3 := HT.out; simpa using h3)⟩
              case measure => simp [intOf]; omega
        · have hie : i = L.length - 1 := by omega
          have hnl : ¬ (i : Int) < (L.length : Int) - 1 := by omega
          have hft := hT.out
          rw [hie, ← hml] at hft
          have hOi := hO.ext hgi
          cases tp with
          | true =>
            have hst := maxTo_yes (L := L) (ms := ms) (k := k) ⟨by omega, hft.1 rfl⟩
            have huS : Rows2 (fun j => Any j ∧ j < w2.heap.size) wr (.slice a2 (gt L k).length cap2) (gt L k) := Rows2.mono hru (fun j _ hlt => ⟨⟨trivial, hlt⟩, Nat.lt_of_lt_of_le hlt hg2i.size, hg2i.block j hlt (by simp)⟩)
            have hcr := hg2i.cell hcl (by simp)
            have HS := Lib.hid (And.intro hst huS); clear hst huS hft hT hie
            go_wp2_with (first | (at_builtin; refine wp_app_r3 rfl _ _ rfl Any w2.heap.size _ _ (maxTo L ms k) (gt L k) rfl wr hOi HS.out.2 rfl rfl (by omega) hg2i.size ?_; intro v8 w8 hO8 hg8; have hg08 := grown_own hg2i hg8 (fun b hb hlt => by have := (hOi.lt b hb).1; omega)) | fail)
            clear hx0 hx1 hw hcr
            rw [← HS.out.1] at hO8
            go_roundw
            case rel => exact ⟨k + 1, v8, rfl, by go_num, by omega, hg08, hO8⟩
            case measure => simp [intOf]; omega
          | false =>
            have hst := maxTo_no (L := L) (ms := ms) (k := k) (fun h => by have := hft.2 h.2; cases this)
            rw [← hst] at hOi
            clear hst hft hT hie
            go_wp2
            clear hx0 hx1 hw
            go_roundw
            case rel => exact ⟨k + 1, v4, rfl, by go_num, by omega, hg2i, hOi⟩
            case measure => simp [intOf]; omega
    · have hke : k = L.length - 1 := by omega
      have hnl : ¬ (k : Int) < (L.length : Int) - 1 := by omega
      have hlast := maxTo_last L ms (n := L.length - 1) (by omega)
      rw [show L.length - 1 + 1 = L.length by omega] at hlast
      have hrows := hO.rows (by omega)
      rw [hke, ← hlast, HL.out.2.1] at hrows
      obtain ⟨az, cz, hvz⟩ := hO.shape
      subst hvz
      generalize (maxTo L ms k).length = nz at *
      have HR := Lib.hid hrows; clear hrows hO hlast hke
      go_wp2
      go_ret
      exact ⟨_, rfl, grown_trans hg0 (grown_trans hg1 (grown_trans hg2 hg)), L, HL.out.1, Rows3.sub HR.out (fun _ _ _ => trivial)⟩

end Go.Proofs.YtigbpdaomgagiaaGreat
