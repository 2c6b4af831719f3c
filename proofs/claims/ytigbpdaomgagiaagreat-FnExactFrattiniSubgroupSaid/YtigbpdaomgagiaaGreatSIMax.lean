/-
  impl.MaximalSubgroups.
-/
import Derived.Test.YtigbpdaomgagiaaGreatSMaxLaw
import Derived.Test.YtigbpdaomgagiaaGreatSAppTake3
import Derived.Test.YtigbpdaomgagiaaGreatK10
namespace Go.Proofs.YtigbpdaomgagiaaGreat
open Go.RowKit

set_option maxRecDepth 100000 in
set_option maxHeartbeats 2000000 in
theorem maxClosure_ok (ms : List Nat) (hms : ∀ m ∈ ms, m < 2 ^ 64) (hn : ms.length ≤ 100000) (w : World) (B lb tb xb i : Nat) (p lv mv : Value) (hi : i < ms.length) (hX : Box3 w lb p lv mv) (hM : OwnV B 101 w mv (ms.map uV))
    (ht : w.cell? ⟨tb, 0, none⟩ = some (.int .i64 ((ms.length : Int) - 1))) (hx : w.cell? ⟨xb, 0, none⟩ = some (.pointer (some ⟨lb, 0, none⟩))) :
    Calls Tryz.prog 144 #[.int .i64 i, .pointer (some ⟨tb, 0, none⟩), .pointer (some ⟨xb, 0, none⟩)] w (Ret w fun _ v => ∃ r : Bool, v = .bool r ∧ (r = true ↔ maxP ms i)) := by
  obtain ⟨g, cap, rfl⟩ := uV_shape hM (by omega)
  have hcx : ∀ w', Ext w w' → w'.cell? ⟨lb, 2, none⟩ = some (.slice (some ⟨g, 0, none⟩) ms.length cap) := fun w' h => (hX.ext h).2.2.2.1
  go_enter Tryz.func144, Tryz.ntmps144
  by_cases htop : i + 1 = ms.length
  · have hno : ¬ maxP ms i := fun h => by have := h.1; omega
    have he : ((i : Int) == (ms.length : Int) - 1) = true := by
      have : (i : Int) = (ms.length : Int) - 1 := by omega
      simp [this]
    have HN := Lib.hid hno; clear hno
    go_wp2
    go_ret
    exact ⟨_, rfl, Ext.refl _, false, rfl, by simpa using HN.out⟩
  · have he : ((i : Int) == (ms.length : Int) - 1) = false := by
      have : ¬ (i : Int) = (ms.length : Int) - 1 := by omega
      simpa using this
    go_wp2
    clear he
    go_loopw [5] (fun kv wr => ∃ k : Nat, kv = .int .i64 k ∧ i + 1 ≤ k ∧ k ≤ ms.length - 1 ∧ Ext w wr ∧ Hid (freeTo ms i k)) (fun kv _ => ms.length - (intOf kv).toNat)
    case atStart => exact ⟨i + 1, by go_num, by omega, by omega, Ext.refl _, Lib.hid (freeTo_zero ms i)⟩
    case round =>
      obtain ⟨k, rfl, hk1, hk2, hg, hF⟩ := hrel
      have htr := hg.cell ht (by simp)
      have hxr := hg.cell hx (by simp)
      by_cases hlt : k < ms.length - 1
      · have hlt' : (k : Int) < (ms.length : Int) - 1 := by omega
        have hlk' : (k : Int) < ms.length := by omega
        have hli' : (i : Int) < ms.length := by omega
        have hc2 := hcx wr hg
        have hci := hg.cell (uV_cell hM hi) (by simp)
        have hck := hg.cell (uV_cell hM (show k < ms.length by omega)) (by simp)
        have hand := andNot_zero (gt ms i) (gt ms k) (hms _ (gtMem hi)) (hms _ (gtMem (by omega)))
        have hst := freeTo_step (ms := ms) (show i < k by omega)
        obtain ⟨a, ha⟩ : ∃ a, a = gt ms i := ⟨_, rfl⟩
        obtain ⟨b, hb⟩ : ∃ b, b = gt ms k := ⟨_, rfl⟩
        rw [← ha] at hci hand hst
        rw [← hb] at hck hand hst
        cases hin : inM a b with
        | true =>
          rw [hin] at hand hst
          have hno : ¬ maxP ms i := fun h => by
            have := h.2 k (by omega) (by omega)
            rw [← ha, ← hb, hin] at this; cases this
          have HN := Lib.hid hno; clear hno hst hF hin ha hb
          go_wp2
          go_quiet (fail)
          rename_i nq _
          go_wp2
          go_ret
          exact ⟨_, rfl, grown_trans hg (grown_drewN _ _ _), false, rfl, by simpa using HN.out⟩
        | false =>
          rw [hin] at hand hst
          have HF := Lib.hid (hst.2 ⟨hF.out, rfl⟩)
          clear hst hF hin ha hb
          go_wp2
          go_quiet (fail)
          rename_i nq _
          go_wp2
          go_roundw
          case rel => exact ⟨k + 1, by go_num, by omega, by omega, grown_trans hg (grown_drewN _ _ _), HF⟩
          case measure => simp [intOf]; omega
      · have hke : k = ms.length - 1 := by omega
        have hyes : maxP ms i := ⟨by omega, by rw [← hke]; exact hF.out⟩
        have hnl : ¬ (k : Int) < (ms.length : Int) - 1 := by omega
        have HY := Lib.hid hyes; clear hyes hF
        go_wp2
        go_ret
        first | exact ⟨_, rfl, hg, true, rfl, by simpa using HY.out⟩ | exact ⟨_, rfl, hg, .inr ⟨rfl, HY.out⟩⟩

set_option maxRecDepth 100000 in
set_option maxHeartbeats 4000000 in
theorem filterMax_ok (ms : List Nat) (L : List (List (List Int))) (hml : ms.length = L.length) (hms : ∀ m ∈ ms, m < 2 ^ 64) (hn : L.length ≤ 17408) (w : World) (B lb tb xb : Nat) (p lv mv : Value) (hX : Box3 w lb p lv mv) (hM : OwnV B 101 w mv (ms.map uV))
    (hL : SlO (fun F w u (x : List (List Int)) => RowsD F w u x) 23 B w lv L) (hB : B ≤ w.heap.size)
    (ht : w.cell? ⟨tb, 0, none⟩ = some (.int .i64 ((ms.length : Int) - 1))) (hx : w.cell? ⟨xb, 0, none⟩ = some (.pointer (some ⟨lb, 0, none⟩))) :
    Calls Tryz.prog 89 #[.pointer (some ⟨lb, 0, none⟩), .func (.func 144) #[] #[.pointer (some ⟨tb, 0, none⟩), .pointer (some ⟨xb, 0, none⟩)]] w
      (Ret w fun w' v => SlO (fun F w u (x : List (List Int)) => RowsD F w u x) 23 B w' v (maxTo L ms L.length)) := by
  obtain ⟨vs, Gb, hvl, hOv, hGb, hd, hE⟩ := hL
  obtain ⟨la, lc, hlv⟩ : ∃ a c, lv = .slice a L.length c := by
    rcases hOv.form with ⟨e1, e2⟩ | ⟨g, cp, e1, _⟩
    · have : L.length = 0 := by rw [← hvl, e2]; rfl
      exact ⟨none, 0, by rw [e1, this]⟩
    · exact ⟨_, _, by rw [e1, hvl]⟩
  subst hlv
  have hbr := hX
  obtain ⟨hx0, hx1, hx2, hx3, hx4⟩ := id hX
  go_enter Tryz.func89, Tryz.ntmps89
  go_wp2
  clear hx1 hx2 hx3 hx4
  go_loopw [5, 13] (fun ov iv wr => ∃ (k : Nat) (v5 : Value), v5 = ov ∧ iv = .int .i64 k ∧ k ≤ L.length ∧ Ext w wr ∧ SlOA (fun F w u (x : List (List Int)) => RowsD F w u x) 23 B (fun b => ∃ j, k ≤ j ∧ j < L.length ∧ Gb j b) wr v5 (maxTo L ms k) ∧ ∀ b, v5.ownBlock = some b → w.heap.size ≤ b) (fun _ iv _ => L.length - (intOf iv).toNat)
  case atStart => exact ⟨0, _, rfl, rfl, by omega, Ext.refl _, ⟨[], fun _ _ => False, rfl, World.ownsRow_nil _ _ _ _, by simp, by simp, by simp [maxTo], by simp, by simp [Value.ownBlock]⟩, by simp [Value.ownBlock]⟩
  case round =>
    obtain ⟨k, v5, rfl, rfl, hk, hg, hO, hob⟩ := hrel
    by_cases hlt : k < L.length
    · have hlt' : (k : Int) < L.length := by omega
      obtain ⟨gl, hla⟩ : ∃ gl, la = some ⟨gl, 0, none⟩ := by
        rcases hOv.form with ⟨e1, e2⟩ | ⟨g, cp, e1, _⟩
        · have : L.length = 0 := by rw [← hvl, e2]; rfl
          omega
        · simp only [Value.slice.injEq] at e1; exact ⟨g, e1.1⟩
      subst hla
      have hc := hg.cell (hOv.cell k (by omega)) (by simp)
      have hEk := hE k hlt
      obtain ⟨ua, uc, hvu, _, _⟩ := SlD.shape hEk
      rw [hvu] at hc hEk
      have hcl := maxClosure_ok ms hms (by omega) wr B lb tb xb k p _ mv (by omega) (hX.ext hg) (hM.kept hg (by cases hv : mv.ownBlock <;> simp)) (hg.cell ht (by simp)) (hg.cell hx (by simp))
      go_wp2_with fail
      refine Calls.mono hcl ?_
      rintro eA wA ⟨vA, rfl, hgA, r, rfl, hr⟩
      clear hcl hc
      have hgwA := grown_trans hg hgA
      have hOA := hO.ext rdRows hgA
      have hln := maxTo_len L ms k
      cases r with
      | false =>
        have hst := maxTo_no (L := L) (fun h => by have := hr.2 h; cases this)
        have hO2 := hOA.less (A' := fun b => ∃ j, k + 1 ≤ j ∧ j < L.length ∧ Gb j b) (fun b ⟨j, h1, h2, h3⟩ => ⟨j, by omega, h2, h3⟩)
        rw [← hst] at hO2
        clear hr hst hO hOA
        go_wp2
        go_roundw
        case rel => exact ⟨k + 1, v5, rfl, by go_num, by omega, hgwA, hO2, hob⟩
        case measure => simp [intOf]; omega
      | true =>
        have hst := maxTo_yes (L := L) (hr.1 rfl)
        have hO2 := hOA.less (A' := fun b => (∃ j, k ≤ j ∧ j < L.length ∧ Gb j b) ∧ b < wA.heap.size) (fun b h => h.1)
        have huA : RowsD (Gb k) wA (.slice ua (gt L k).length uc) (gt L k) := rdRows.mono hEk (fun b hb hlt => ⟨hb, Nat.lt_of_lt_of_le hlt hgwA.size, hgwA.block b hlt (by simp)⟩)
        have hav := hO2.avoids
        have hF1 : ∀ b, Gb k b → b < wA.heap.size → ((∃ j, k ≤ j ∧ j < L.length ∧ Gb j b) ∧ b < wA.heap.size) ∧ B ≤ b := fun b hb hlt2 => ⟨⟨⟨k, by omega, hlt, hb⟩, hlt2⟩, (hGb k b hlt hb).1⟩
        have hF2 : ∀ b, (∃ j, k + 1 ≤ j ∧ j < L.length ∧ Gb j b) → ((∃ j, k ≤ j ∧ j < L.length ∧ Gb j b) ∧ b < wA.heap.size) ∧ ¬ Gb k b := fun b ⟨j, h1, h2, h3⟩ => ⟨⟨⟨j, by omega, h2, h3⟩, by have := (hGb j b h2 h3).2.2; have := hgwA.size; omega⟩, fun h4 => by have := hd j k b h2 hlt h3 h4; omega⟩
        have HF := Lib.hid (And.intro hst (And.intro hO2 (And.intro huA (And.intro hF1 hF2)))); clear hr hst hO hOA hO2 huA hF1 hF2
        have hBA := hgwA.size
        go_wp2_with (first | (at_builtin; refine wp_app_take3 rfl _ _ rfl B (fun b => (∃ j, k ≤ j ∧ j < L.length ∧ Gb j b) ∧ b < wA.heap.size) (fun b => ∃ j, k + 1 ≤ j ∧ j < L.length ∧ Gb j b) (Gb k) wA v5 _ (maxTo L ms k) (gt L k) rfl HF.out.2.1 HF.out.2.2.1 HF.out.2.2.2.1 HF.out.2.2.2.2 (fun b hb => hb.2) rfl rfl (by omega) (by omega) ?_; intro v8 w8 hO8 hg8 hb8) | fail)
        have hg08 : Ext w w8 := grown_own hgwA hg8 (fun b hb hlt2 => by have := hob b hb; omega)
        have hob8 : ∀ b, v8.ownBlock = some b → w.heap.size ≤ b := fun b hb => by
          rcases hb8 with h | h
          · exact hob b (by rw [← h]; exact hb)
          · have := h b hb; omega
        rw [← HF.out.1] at hO8
        go_roundw
        case rel => exact ⟨k + 1, v8, rfl, by go_num, by omega, hg08, hO8, hob8⟩
        case measure => simp [intOf]; omega
    · have hke : k = L.length := by omega
      have hO2 := hO.o
      rw [hke] at hO2
      obtain ⟨az, nz, cz, hvz⟩ : ∃ a n c, v5 = .slice a n c := by
        have hln := maxTo_len L ms L.length
        obtain ⟨a, c, h, _⟩ := SlD.shape (hO2.toD (by omega)); exact ⟨_, _, _, h⟩
      subst hvz
      have hnl : ¬ (k : Int) < L.length := by omega
      clear hO hke
      go_wp2
      go_ret
      exact ⟨_, rfl, hg, hO2⟩

set_option maxRecDepth 100000 in
set_option maxHeartbeats 2000000 in
theorem maximal_ok (ms : List Nat) (L : List (List (List Int))) (hml : ms.length = L.length) (hms : ∀ m ∈ ms, m < 2 ^ 64) (hn : L.length ≤ 17408) (hne : 0 < L.length) (w : World) (B lb : Nat) (p lv mv : Value) (hX : Box3 w lb p lv mv) (hM : OwnV B 101 w mv (ms.map uV))
    (hL : SlO (fun F w u (x : List (List Int)) => RowsD F w u x) 23 B w lv L) (hB : B ≤ w.heap.size) :
    Calls Tryz.prog 85 #[.pointer (some ⟨lb, 0, none⟩)] w (Ret w fun w' v => SlO (fun F w u (x : List (List Int)) => RowsD F w u x) 23 B w' v (maxTo L ms L.length)) := by
  obtain ⟨la, lc, hlv, _, _⟩ := SlD.shape (hL.toD (by omega))
  subst hlv
  have hg0 : Ext w (w.alloc (.cells #[.pointer (some ⟨lb, 0, none⟩)] 81)) := World.grownBy_alloc _ _ _
  have hs0 : (w.alloc (.cells #[.pointer (some ⟨lb, 0, none⟩)] 81)).heap.size = w.heap.size + 1 := by simp
  have hx0 : (w.alloc (.cells #[.pointer (some ⟨lb, 0, none⟩)] 81)).cell? ⟨w.heap.size, 0, none⟩ = some (.pointer (some ⟨lb, 0, none⟩)) := by rw [World.cell?_alloc_at _ _ _ _ rfl]; rfl
  have hX0 := hX.ext hg0
  have hM0 : OwnV B 101 (w.alloc (.cells #[.pointer (some ⟨lb, 0, none⟩)] 81)) mv (ms.map uV) := hM.kept hg0 (by cases hv : mv.ownBlock <;> simp)
  have hL0 := hL.ext rdRows hg0
  have hw : IntKind.i64.wrap ((L.length : Int) - 1) = (L.length : Int) - 1 := IntWalk.i64_in _ (by omega)
  have H0 := Lib.hid (And.intro hg0 (And.intro hs0 (And.intro hx0 (And.intro hX0 (And.intro hM0 hL0))))); clear hs0 hx0 hM0 hL0
  obtain ⟨hy0, hy1, hy2, hy3, hy4⟩ := id hX0
  clear hX0
  go_enter Tryz.func85, Tryz.ntmps85
  go_wp2_with fail
  clear hy1 hy2 hy3 hy4 hw
  generalize hw1 : w.alloc (.cells #[.pointer (some ⟨lb, 0, none⟩)] 81) = w1 at *
  clear hw1
  have hg2 : Ext w1 (w1.alloc (.cells #[.int .i64 ((L.length : Int) - 1)] 3)) := World.grownBy_alloc _ _ _
  have ht : (w1.alloc (.cells #[.int .i64 ((L.length : Int) - 1)] 3)).cell? ⟨w.heap.size + 1, 0, none⟩ = some (.int .i64 ((ms.length : Int) - 1)) := by
    rw [← H0.out.2.1, World.cell?_alloc_at _ _ _ _ rfl, hml]; rfl
  refine Calls.mono (filterMax_ok ms L hml hms hn _ B lb (w.heap.size + 1) w.heap.size p _ mv (H0.out.2.2.2.1.ext hg2) (H0.out.2.2.2.2.1.kept hg2 (by cases hv : mv.ownBlock <;> simp)) (H0.out.2.2.2.2.2.ext rdRows hg2) (Nat.le_trans hB (Nat.le_trans H0.out.1.size hg2.size)) ht (hg2.cell H0.out.2.2.1 (by simp))) ?_
  rintro e3 w3 ⟨v3, rfl, hg3, hO⟩
  obtain ⟨az, nz, cz, hvz⟩ : ∃ a n c, v3 = .slice a n c := by
    have hln := maxTo_len L ms L.length
    obtain ⟨a, c, h, _⟩ := SlD.shape (hO.toD (by omega)); exact ⟨_, _, _, h⟩
  subst hvz
  go_wp2
  go_ret
  exact ⟨_, rfl, grown_trans H0.out.1 (grown_trans hg2 hg3), hO⟩

theorem lat_masks {P : Pr} {L : List (List (List Int))} (h32 : ordP P ≤ 32) : ∀ m ∈ L.map (mskU P), m < 2 ^ 64 := fun m hm => by
  obtain ⟨u, _, rfl⟩ := List.mem_map.1 hm
  exact mask64 h32

set_option maxRecDepth 100000 in
set_option maxHeartbeats 2000000 in
theorem iMax_ok (P : Pr) (w : World) (pv : Value) (Sp : Nat → Prop) (hpv : PresV Sp w pv P) :
    Calls Tryz.prog 33 #[pv] w (Ret w fun w' v => ∃ a n c, v = .tuple #[.slice a n c, .int .i64 (latC P)] ∧ SlO (fun F w u (x : List (List Int)) => RowsD F w u x) 23 w.heap.size w' (.slice a n c) (maxL P)) := by
  obtain ⟨vo, vp, vc, rfl, h3⟩ := hpv
  have hp0 := PresP.box h3 31
  have hg0 : Ext w (w.alloc (.cells #[vo, vp, vc] 31)) := World.grownBy_alloc _ _ _
  have hlat := latticeOf_ok P _ _ Any hp0
  go_enter Tryz.func33, Tryz.ntmps33
  go_wp2_with fail
  generalize hw0 : w.alloc (.cells #[vo, vp, vc] 31) = w0 at *
  clear hw0
  refine Calls.mono hlat ?_
  rintro e1 w1 ⟨v1, rfl, hg1, lp, rfl, hno, hyes⟩
  clear hlat
  have hgw1 := grown_trans hg0 hg1
  by_cases hz : latC P = 0
  · obtain ⟨lb, L, rfl, hL, hA⟩ := hyes hz
    obtain ⟨hlo, lv, mv, hX, hO, hM⟩ := hA
    have G := grp_of_r (latC_zero hz).1
    have h32 := (latC_zero hz).2
    have hall := maxL_ok hz hL
    have hln := maxL_len P
    have hlen := G.lat_len h32 hL
    rw [hall] at hln
    have hM2 : OwnV w0.heap.size 101 w1 mv ((L.map (mskU P)).map uV) := by rw [List.map_map]; exact hM
    obtain ⟨c, hc⟩ : ∃ c, c = latC P := ⟨_, rfl⟩
    have hc0 : c = 0 := by rw [hc]; exact hz
    rw [← hc]
    have hmx := maximal_ok (L.map (mskU P)) L (by simp) (lat_masks h32) hlen (G.lat_top hL).1 w1 w0.heap.size lb _ lv mv hX hM2 hO hg1.size
    have HC := Lib.hid (And.intro hc hall); clear hc hall hO hL hM hM2 hno hyes hz hX
    subst hc0
    go_wp2_with fail
    refine Calls.mono hmx ?_
    rintro e2 w2 ⟨v2, rfl, hg2, hR⟩
    clear hmx
    obtain ⟨ra, rc, hrv, _, _⟩ := SlD.shape (hR.toD (by omega))
    subst hrv
    have HR := Lib.hid hR; clear hR
    go_wp2
    go_ret2
    exact ⟨_, rfl, grown_trans hgw1 hg2, _, _, _, by rw [← HC.out.1]; rfl, by rw [HC.out.2]; exact HR.out.weak hg0.size⟩
  · have hlp := hno hz
    subst hlp
    have hall := maxL_no hz
    obtain ⟨c, hc⟩ : ∃ c, c = latC P := ⟨_, rfl⟩
    rw [← hc] at hz ⊢
    have hne : (c != 0) = true := by simpa using hz
    have HC := Lib.hid (And.intro hc hall); clear hc hall hno hyes
    go_wp2
    go_ret2
    exact ⟨_, rfl, hgw1, none, 0, 0, by rw [← HC.out.1]; rfl, by rw [HC.out.2]; exact SlO.nil _ _ _ _⟩

end Go.Proofs.YtigbpdaomgagiaaGreat
