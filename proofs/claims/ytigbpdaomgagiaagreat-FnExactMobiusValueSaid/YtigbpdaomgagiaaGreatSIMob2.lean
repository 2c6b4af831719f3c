/-
  impl: the power of an integer, the number of generating lists.
-/
import Derived.Test.YtigbpdaomgagiaaGreatSIMob
import Derived.Test.YtigbpdaomgagiaaGreatSTupLaw
namespace Go.Proofs.YtigbpdaomgagiaaGreat
open Go.RowKit

set_option maxRecDepth 100000 in
set_option maxHeartbeats 1000000 in
theorem integerPower_ok (w : World) (o : Int) (k : Nat) (ho : 1 ≤ o ∧ o ≤ 32) (hk : k ≤ 6) :
    Calls Tryz.prog 143 #[.int .i64 o, .int .i64 (k : Int)] w (Ret w fun _ v => v = .int .i64 (o ^ k)) := by
  go_enter Tryz.func143, Tryz.ntmps143
  go_wp2
  go_loopw [5, 7] (fun ov jv wr => ∃ j : Nat, ov = .int .i64 (o ^ j) ∧ jv = .int .i64 j ∧ j ≤ k ∧ Ext w wr) (fun _ jv _ => k - (intOf jv).toNat)
  case atStart => exact ⟨0, by simp, by go_num, by omega, Ext.refl _⟩
  case round =>
    obtain ⟨j, rfl, rfl, hj, hg⟩ := hrel
    by_cases hlt : j < k
    · have hlt' : (j : Int) < k := by omega
      have hb := pow_bd ho (j + 1) (by omega)
      have hs : o ^ (j + 1) = o ^ j * o := Int.pow_succ o j
      have hw : IntKind.i64.wrap (o ^ j * o) = o ^ (j + 1) := by rw [← hs]; exact IntWalk.i64_in _ (by omega)
      rw [w64] at hw
      obtain ⟨x, hx⟩ : ∃ x, x = o ^ j := ⟨_, rfl⟩
      obtain ⟨y, hy⟩ : ∃ y, y = o ^ (j + 1) := ⟨_, rfl⟩
      rw [← hx, ← hy] at hw
      rw [← hx]
      have HY := Lib.hid hy; clear hy hb hs hx
      go_wp2
      go_roundw
      case rel => exact ⟨j + 1, by rw [← HY.out]; first | rfl | rw [hw], by go_num, by omega, hg⟩
      case measure => simp [intOf]; omega
    · have hje : j = k := by omega
      have hnl : ¬ (j : Int) < k := by omega
      obtain ⟨x, hx⟩ : ∃ x, x = o ^ j := ⟨_, rfl⟩
      rw [← hx]
      have hxk : x = o ^ k := by rw [hx, hje]
      have HX := Lib.hid hxk; clear hx hje hxk
      go_wp2
      go_ret
      exact ⟨_, rfl, hg, by rw [HX.out]; rfl⟩

set_option maxRecDepth 100000 in
set_option maxHeartbeats 2000000 in
theorem tuples_ok (P : Pr) (G : Grp P) (L : List (List (List Int))) (hL : LatL P L) (h32 : ordP P ≤ 32) (k : Nat) (hk : k ≤ 6) (w : World) (B lb : Nat) (p lv mv : Value) (Sp : Nat → Prop) (hp : PresP Sp w p P) (hX : Box3 w lb p lv mv) (hM : OwnV B 101 w mv ((L.map (mskU P)).map uV))
    (hO : SlO (fun F w u (x : List (List Int)) => RowsD F w u x) 23 B w lv L) :
    Calls Tryz.prog 81 #[.pointer (some ⟨lb, 0, none⟩), .int .i64 (k : Int)] w (Ret w fun _ v => v = .int .i64 (tW P L k L.length)) := by
  have hP := G.v
  have hlen := G.lat_len h32 hL
  have hne := (G.lat_top hL).1
  have hwl : (wmob (L.map (mskU P))).length = L.length := by rw [wmob_len, List.length_map]
  have hfa : ∀ i, i < L.length → SeqOk P (gt L i) ∧ (gt L i).length ≤ 6 ∧ 1 ≤ ordU P (gt L i) ∧ ordU P (gt L i) ≤ 32 := fun i hi => G.lat_ord h32 hL hi
  obtain ⟨la, lc, hlv, _, _⟩ := SlD.shape (hO.toD (by omega))
  subst hlv
  have hR3 := Rows3D.rows (hO.toD (by omega))
  have hmob := mobius_ok (L.map (mskU P)) L.length (by simp) (fun m hm => by
    obtain ⟨u, _, rfl⟩ := List.mem_map.1 hm
    exact mask64 h32) hlen hne w B lb p mv la lc hX hM
  have hcx : ∀ w', Ext w w' → w'.cell? ⟨lb, 0, none⟩ = some p ∧ w'.cell? ⟨lb, 1, none⟩ = some (.slice la L.length lc) := fun w' h => ⟨(hX.ext h).2.1, (hX.ext h).2.2.1⟩
  have hlb := hX.1
  have HC := Lib.hid (And.intro hL (And.intro hfa hwl)); clear hL hfa hX hM hO hwl
  have HCX := Lib.hid hcx; clear hcx
  go_enter Tryz.func81, Tryz.ntmps81
  go_wp2_with fail
  refine Calls.mono hmob ?_
  rintro e1 w1 ⟨v1, rfl, hg1, hV⟩
  clear hmob
  have hwl := HC.out.2.2
  obtain ⟨g, cg, hv1, hgb, hgs⟩ := hV.form (by rw [hwl]; omega)
  rw [hwl] at hv1
  subst hv1
  clear hwl
  go_wp2
  go_loopw [5, 11] (fun sv iv wr => ∃ i : Nat, sv = .int .i64 (tW P L k i) ∧ iv = .int .i64 i ∧ i ≤ L.length ∧ Ext w1 wr) (fun _ iv _ => L.length - (intOf iv).toNat)
  case atStart => exact ⟨0, by rw [tW_zero], by go_num, by omega, Ext.refl _⟩
  case round =>
    obtain ⟨i, rfl, rfl, hi, hg⟩ := hrel
    by_cases hlt : i < L.length
    · have hlt' : (i : Int) < L.length := by omega
      have hgw := grown_trans hg1 hg
      obtain ⟨bl, ol, a2, cap2, hal, _, hbl, hcl, hru⟩ := Rows3.at hR3 i hlt
      subst hal
      have hcv := (hV.ext0 hg).cell i (by rw [HC.out.2.2]; exact hlt)
      have hstep := tW_succ P L k i hlt (HC.out.2.1 i hlt).2.2 hk
      have hfi := HC.out.2.1 i hlt
      have hpw := pow_bd hfi.2.2 k hk
      obtain ⟨s, hs⟩ : ∃ s, s = tW P L k i := ⟨_, rfl⟩
      obtain ⟨m, hm⟩ : ∃ m, m = gt (wmob (L.map (mskU P))) i := ⟨_, rfl⟩
      obtain ⟨u, hu⟩ : ∃ u, u = gt L i := ⟨_, rfl⟩
      rw [← hm] at hcv hstep
      rw [← hs] at hstep ⊢
      rw [← hu] at hcl hru hstep hfi hpw
      have e1 : ∀ w', Ext wr w' → w'.cell? ⟨lb, 0, none⟩ = some p := fun w' h => (HCX.out w' (grown_trans hgw h)).1
      have e2 : ∀ w', Ext wr w' → w'.cell? ⟨lb, 1, none⟩ = some (.slice (some ⟨bl, ol, none⟩) L.length lc) := fun w' h => (HCX.out w' (grown_trans hgw h)).2
      have e3 : ∀ w', Ext wr w' → w'.cell? ⟨bl, ol + i, none⟩ = some (.slice a2 u.length cap2) := fun w' h => (grown_trans hgw h).cell hcl (by simp)
      obtain ⟨o, ho⟩ : ∃ o, o = ordU P u := ⟨_, rfl⟩
      rw [← ho] at hstep hfi hpw
      obtain ⟨q, hq⟩ : ∃ q, q = o ^ k := ⟨_, rfl⟩
      rw [← hq] at hstep hpw
      have hq0 : 0 ≤ q ∧ q ≤ 1073741824 := by omega
      have HS := Lib.hid (And.intro hstep (And.intro hfi (And.intro hq ho))); clear hstep hfi hpw hq ho hs hm hu hcl
      go_wp2
      clear hcv
      go_region_held3 (fun w' => Ext wr w') (first | exact grown_drew _ _ | assumption)
        (first
          | (revert hsB; intro hsB; go_at_call 143; refine Calls.mono (Calls.rel (w0 := wr) (by assumption) (integerPower_ok _ o k HS.out.2.1.2.2 hk)) ?_; rintro eC wC ⟨vC, rfl, hgC, hsC, hvC⟩; rw [← HS.out.2.2.1] at hvC; subst hvC)
          | (go_at_call 69; refine Calls.mono (Calls.rel (w0 := wr) (by assumption) (sizeOf_ok P hP _ _ _ u Sp _ (hp.ext (grown_trans hgw (by assumption))) (Rows2.ext hru (grown_trans hgw (by assumption))) HS.out.2.1.1 (by have := HS.out.2.1.2.1; omega))) ?_; rintro eB wB ⟨vB, rfl, hgB, hsB, hvB⟩; rw [show prodU P u u.length = o from HS.out.2.2.2.symm] at hvB; subst hvB))
      clear e1 e2 e3
      go_wp2
      go_roundw
      case rel => exact ⟨i + 1, by rw [HS.out.1], by go_num, by omega, grown_trans hg hgC⟩
      case measure => simp [intOf]; omega
    · have hie : i = L.length := by omega
      have hnl : ¬ (i : Int) < L.length := by omega
      subst hie
      obtain ⟨z, hz⟩ : ∃ z, z = tW P L k L.length := ⟨_, rfl⟩
      rw [← hz]
      have HZ := Lib.hid hz; clear hz
      go_wp2
      go_ret
      exact ⟨_, rfl, grown_trans hg1 hg, by rw [HZ.out]; rfl⟩

end Go.Proofs.YtigbpdaomgagiaaGreat
