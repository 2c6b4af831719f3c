/-
  Bijections, the program's side: inverseBijection, composeWord, IsRealisation.
  impl.InvertBijection and impl.EvaluateBijections, on bijections.
  impl.wordFits, impl.EvaluateBijections, on a word that fits and on bijections.
  impl.ElementNumber and impl.EvaluateWord, on elements and on a word that fits.
  Moves of a walk through a region whose order is open, their side conditions paid by themselves.
  Drawing: spec.l07Bend (printed by gen_bend.py).
-/
import Derived.Test.YtoakmefajbbggaaGreatR1
import Derived.Test.YtoakmefajbbggaaGreatR10
import Derived.Test.YtoakmefajbbggaaGreatR13
import Derived.Test.YtoakmefajbbggaaGreatR14
import Derived.Test.YtoakmefajbbggaaGreatR7
import Derived.Test.YtoakmefajbbggaaGreatR9
import Derived.Deep.RegionHeld3
import Derived.Deep.CutBlock
namespace Go.Proofs.YtoakmefajbbggaaGreat
open Go.RowKit

set_option maxRecDepth 100000 in
set_option maxHeartbeats 1000000 in
theorem indexJ_ok (l : List Int) (x : Int) (w : World) (v : Value) (S : Nat → Prop) (hv : Ints S w v l) :
    Calls Tryz.prog 174 #[v, .int .i64 x] w (Ret w fun _ r => ∃ k : Int, r = .int .i64 k ∧ (0 ≤ k ↔ x ∈ l)) := by
  obtain ⟨a, c, rfl, _, _⟩ := hv.shape
  have HV := Lib.hid hv; clear hv
  go_enter Tryz.func174, Tryz.ntmps174
  go_wp2
  go_loopw [8] (fun iv wr => ∃ i : Nat, iv = .int .i64 i ∧ i ≤ l.length ∧ Ext w wr ∧ Hid (∀ j, j < i → gt l j ≠ x)) (fun iv _ => l.length - (intOf iv).toNat)
  case atStart => exact ⟨0, by go_num, by omega, Ext.refl _, Lib.hid (fun j hj => by omega)⟩
  case round =>
    obtain ⟨i, rfl, hi, hg, hN⟩ := hrel
    by_cases hlt : i < l.length
    · have hlt' : (i : Int) < l.length := by omega
      obtain ⟨b, o, hab, _, _, hc⟩ := Ints.at HV.out i hlt
      subst hab
      have hcr := hg.cell hc (by simp)
      by_cases he : gt l i = x
      · have hd : x ∈ l := by rw [← he]; exact gt_mem hlt
        rw [he] at hcr
        have HD := Lib.hid hd; clear hd he hc
        go_wp2
        go_ret
        exact ⟨_, rfl, hg, (i : Int), rfl, ⟨fun _ => HD.out, fun _ => by omega⟩⟩
      · have hne : (x == gt l i) = false := by
          have : ¬ x = gt l i := fun e => he e.symm
          simpa using this
        have hN2 : ∀ j, j < i + 1 → gt l j ≠ x := fun j hj => by
          rcases Nat.lt_succ_iff_lt_or_eq.1 hj with h | h
          · exact hN.out j h
          · rw [h]; exact he
        have HN2 := Lib.hid hN2; clear hN2 he hc hN
        generalize gt l i = y at *
        go_wp2
        clear hne
        go_roundw
        case rel => exact ⟨i + 1, by go_num, by omega, hg, HN2⟩
        case measure => simp [intOf]; omega
    · have hie : i = l.length := by omega
      have hd : ¬ x ∈ l := fun h => by
        obtain ⟨j, hj, e⟩ := mem_gt h
        exact hN.out j (by omega) e
      have hnl : ¬ (i : Int) < l.length := by omega
      have HD := Lib.hid hd; clear hd hie hN
      go_wp2
      go_ret
      exact ⟨_, rfl, hg, -1, rfl, ⟨fun h => by omega, fun h => absurd h HD.out⟩⟩

set_option maxRecDepth 100000 in
set_option maxHeartbeats 1000000 in
theorem containsJ_ok (l : List Int) (x : Int) (w : World) (v : Value) (S : Nat → Prop) (hv : Ints S w v l) :
    Calls Tryz.prog 96 #[v, .int .i64 x] w (Ret w fun _ r => r = .bool (decide (x ∈ l))) := by
  have hi := indexJ_ok l x w v S hv
  obtain ⟨a, c, rfl, _, _⟩ := hv.shape
  go_enter Tryz.func96, Tryz.ntmps96
  go_wp2_with fail
  refine Calls.mono hi ?_
  rintro e1 w1 ⟨v1, rfl, hg1, k, rfl, hk⟩
  have HK := Lib.hid hk; clear hk hi
  go_wp2
  go_ret
  refine ⟨_, rfl, hg1, ?_⟩
  show Value.bool (decide (0 ≤ k)) = _
  rw [decide_eq_decide.2 HK.out]

theorem bak_of {N : Nat} {a l : List Int} (ha : BijL N a) (hl : l.length = N) (h : ∀ s, s < N → gt l (gt a s).toNat = (s : Int)) : l = bak a := by
  apply ext_gt
  · rw [bak_len, ha.1, hl]
  · intro t ht
    obtain ⟨s, hs, e⟩ := ha.sur t (by omega)
    have h1 := h s hs
    have h2 := gt_bak ha hs
    rw [e, Int.toNat_natCast] at h1 h2
    rw [h1, h2]

set_option maxRecDepth 100000 in
set_option maxHeartbeats 4000000 in
theorem inverseBijection_ok {N : Nat} {a : List Int} (ha : BijL N a) (hN : N ≤ 1000) (w : World) (v : Value) (S : Nat → Prop) (hv : Ints S w v a) :
    Calls Tryz.prog 98 #[v] w (Ret w fun w' r => Own w.heap.size w' r (bak a)) := by
  obtain ⟨av, cap, rfl, _, _⟩ := hv.shape
  have hla := ha.1
  rw [hla]
  have HV := Lib.hid (And.intro hv (And.intro ha hla)); clear hv ha hla
  go_enter Tryz.func98, Tryz.ntmps98
  go_wp2_with (at_make; refine wp_make_ints rfl _ _ rfl w.heap.size N w.heap.size rfl (N : Int) rfl rfl (by omega) (by omega) (Nat.le_refl _) ?_; intro w1 hO1 hg1 hlt1)
  go_loopw [11] (fun iv wr => ∃ (k : Nat) (l : List Int), iv = .int .i64 (k : Int) ∧ k ≤ N ∧ Ext w wr ∧ Own w.heap.size wr (.slice (some ⟨w.heap.size, 0, none⟩) N N) l ∧ Hid (l.length = N ∧ ∀ s, s < k → gt l (gt a s).toNat = (s : Int))) (fun iv _ => N - (intOf iv).toNat)
  case atStart => exact ⟨0, _, rfl, by omega, hg1, hO1, Lib.hid ⟨List.length_replicate, fun s hs => by omega⟩⟩
  case round =>
    clear hO1 hg1
    obtain ⟨k, l, rfl, hk, hg, hO, hS⟩ := hrel
    by_cases hlt : k < N
    · have hlt' : (k : Int) < N := by omega
      have hka : k < a.length := by rw [HV.out.2.2]; exact hlt
      obtain ⟨b, off, hab, _, _, hc⟩ := Ints.at (HV.out.1.ext hg) k hka
      subst hab
      have hr := HV.out.2.1.2.1 k hlt
      obtain ⟨x, hx⟩ : ∃ x, x = (gt a k).toNat := ⟨_, rfl⟩
      have hxi : gt a k = (x : Int) := by omega
      rw [hxi] at hc
      have hxN : (x : Int) < N := by omega
      have hcel := hO.cell x (by have := hS.out.1; omega)
      have hfr := hO.frozen x
      obtain ⟨hO2, hgs⟩ := hO.store x (k : Int)
      have hgn : Ext w (wr.setCell ⟨w.heap.size, x, none⟩ (.int .i64 (k : Int))) := grown_own hg hgs (fun j hj hlt => by cases hj; omega)
      have hnx : (l.set x (k : Int)).length = N ∧ ∀ s, s < k + 1 → gt (l.set x (k : Int)) (gt a s).toNat = (s : Int) := by
        refine ⟨by rw [List.length_set]; exact hS.out.1, fun s hs => ?_⟩
        rcases Nat.lt_succ_iff_lt_or_eq.1 hs with h1 | h1
        · have hsr := HV.out.2.1.2.1 s (by omega)
          have hne : ¬ x = (gt a s).toNat := fun e => by
            have := HV.out.2.1.2.2 s k (by omega) hlt (by omega)
            omega
          rw [gt_set_ne _ _ _ _ hne]; exact hS.out.2 s h1
        · rw [h1, ← hx, gt_set_eq _ _ _ (by have := hS.out.1; omega)]
      have HB := Lib.hid (And.intro hO2 (And.intro hgn hnx)); clear hO2 hgn hnx hgs hx hxi hr
      generalize gt l x = z at hcel
      go_wp2
      go_roundw
      case rel => exact ⟨k + 1, _, by go_num, by omega, HB.out.2.1, HB.out.1, Lib.hid HB.out.2.2⟩
      case measure => simp [intOf]; omega
    · have hke : k = N := by omega
      subst hke
      have hfin : l = bak a := bak_of HV.out.2.1 hS.out.1 hS.out.2
      have HF := Lib.hid hfin; clear hfin
      go_wp2
      go_ret
      exact ⟨_, rfl, hg, by rw [← HF.out]; exact hO⟩

/-- what a letter stands for -/
def lwB (L : List (List Int)) (l : Int) : List Int := if l < 0 then bak (gt L (-l - 1).toNat) else gt L (l - 1).toNat

set_option maxRecDepth 100000 in
set_option maxHeartbeats 8000000 in
theorem composeWord_ok {N : Nat} {L : List (List Int)} (hL : ∀ b ∈ L, BijL N b) (hN : N ≤ 1000) (hLl : L.length ≤ 1000) {W : List Int} (hW : WordN L.length W) (w : World) (wv lv : Value) (S T : Nat → Prop) (hwv : Ints S w wv W) (hlv : Rows2 T w lv L) :
    Calls Tryz.prog 95 #[wv, lv, .int .i64 (N : Int)] w (Ret w fun w' r => Own w.heap.size w' r (evB N L W W.length)) := by
  obtain ⟨av, cap, rfl, _, _⟩ := hwv.shape
  obtain ⟨bv, capb, rfl, _, _⟩ := Sl.shape hlv
  have HV := Lib.hid (And.intro hwv (And.intro hlv (And.intro hL hW))); clear hwv hlv hL hW
  go_enter Tryz.func95, Tryz.ntmps95
  go_wp2_with (at_make; refine wp_make_ints rfl _ _ rfl w.heap.size N w.heap.size rfl (N : Int) rfl rfl (by omega) (by omega) (Nat.le_refl _) ?_; intro w1 hO1 hg1 hlt1)
  go_loopw [16] (fun iv wr => ∃ (k : Nat) (l : List Int), iv = .int .i64 (k : Int) ∧ k ≤ N ∧ Ext w wr ∧ Own w.heap.size wr (.slice (some ⟨w.heap.size, 0, none⟩) N N) l ∧ Hid (l.length = N ∧ ∀ s, s < k → gt l s = (s : Int))) (fun iv _ => N - (intOf iv).toNat)
  case atStart => exact ⟨0, _, rfl, by omega, hg1, hO1, Lib.hid ⟨List.length_replicate, fun s hs => by omega⟩⟩
  case round =>
    clear hO1 hg1
    obtain ⟨k, l, rfl, hk, hg, hO, hS⟩ := hrel
    by_cases hlt : k < N
    · have hlt' : (k : Int) < N := by omega
      have hcel := hO.cell k (by have := hS.out.1; omega)
      have hfr := hO.frozen k
      obtain ⟨hO2, hgs⟩ := hO.store k (k : Int)
      have hgn : Ext w (wr.setCell ⟨w.heap.size, k, none⟩ (.int .i64 (k : Int))) := grown_own hg hgs (fun j hj hlt => by cases hj; omega)
      have hnx : (l.set k (k : Int)).length = N ∧ ∀ s, s < k + 1 → gt (l.set k (k : Int)) s = (s : Int) := by
        refine ⟨by rw [List.length_set]; exact hS.out.1, fun s hs => ?_⟩
        rcases Nat.lt_succ_iff_lt_or_eq.1 hs with h1 | h1
        · rw [gt_set_ne _ _ _ _ (by omega)]; exact hS.out.2 s h1
        · rw [h1, gt_set_eq _ _ _ (by have := hS.out.1; omega)]
      have HB := Lib.hid (And.intro hO2 (And.intro hgn hnx)); clear hO2 hgn hnx hgs
      generalize gt l k = z at hcel
      go_wp2
      go_roundw
      case rel => exact ⟨k + 1, _, by go_num, by omega, HB.out.2.1, HB.out.1, Lib.hid HB.out.2.2⟩
      case measure => simp [intOf]; omega
    · have hke : k = N := by omega
      have hfin : l = selfL N := by
        apply ext_gt
        · rw [selfL_len]; exact hS.out.1
        · intro t ht
          have ht : t < N := by have := hS.out.1; omega
          rw [gt_selfL ht]; exact hS.out.2 t (by omega)
      rw [hfin] at hO
      have hO0 : Own w.heap.size wr (.slice (some ⟨w.heap.size, 0, none⟩) N N) (evB N L W 0) := hO
      clear hS hO hfin
      obtain ⟨wk, rfl⟩ : ∃ wk : World, wk = wr := ⟨_, rfl⟩
      have hnl : ¬ (k : Int) < N := by omega
      have HG := Lib.hid hg; clear hg hk hlt
      obtain ⟨M, hM⟩ : ∃ M, M = W.length := ⟨_, rfl⟩
      rw [← hM]
      have HM := Lib.hid hM; clear hM
      go_wp2
      clear hnl
      go_loopw [7, 26] (fun ov jv wr => ∃ (j : Nat) (v5 : Value), v5 = ov ∧ jv = .int .i64 (j : Int) ∧ j ≤ M ∧ Ext w wr ∧ Own w.heap.size wr v5 (evB N L W j)) (fun _ jv _ => M - (intOf jv).toNat)
      case atStart => exact ⟨0, _, rfl, rfl, by omega, HG.out, hO0⟩
      case round =>
        clear hO0 hke
        obtain ⟨j, v5, rfl, rfl, hj, hg, hO⟩ := hrel
        by_cases hlt : j < M
        · have hlt' : (j : Int) < M := by omega
          have hjW : j < W.length := by rw [← HM.out]; exact hlt
          obtain ⟨xb, xo, hxa, _, _, hc⟩ := Ints.at (HV.out.1.ext hg) j hjW
          subst hxa
          have hwl := HV.out.2.2.2 _ (gtMem hjW)
          have hEb := evB_bij HV.out.2.2.1 HV.out.2.2.2 j (by omega)
          have hst : evB N L W (j + 1) = aft (evB N L W j) (lwB L (gt W j)) := rfl
          obtain ⟨x, hx⟩ : ∃ x, x = gt W j := ⟨_, rfl⟩
          rw [← hx] at hc hwl hst
          have hEi := hO.ints (by rw [hEb.1]; omega)
          obtain ⟨ea, ec, rfl, _, _⟩ := hEi.shape
          obtain ⟨q, hq⟩ : ∃ q : Nat, q = (if x < 0 then (-x - 1).toNat else (x - 1).toNat) := ⟨_, rfl⟩
          have hqi : (if x < 0 then -x else x) - 1 = (q : Int) := by rw [hq]; split <;> omega
          have hqL : q < L.length := by rw [hq]; split <;> omega
          have hqL' : (q : Int) < L.length := by omega
          obtain ⟨rb, ro, ra, rc, hab, _, _, hcr, hri⟩ := Rows2.at (Rows2.ext HV.out.2.1 hg) q hqL
          subst hab
          have hbb := HV.out.2.2.1 _ (gtMem hqL)
          have hlw : lwB L x = (if x < 0 then bak (gt L q) else gt L q) := by
            unfold lwB
            by_cases h0 : x < 0
            · rw [if_pos h0, if_pos h0, hq, if_pos h0]
            · rw [if_neg h0, if_neg h0, hq, if_neg h0]
          rw [hlw] at hst
          obtain ⟨b, hb⟩ : ∃ b, b = gt L q := ⟨_, rfl⟩
          rw [← hb] at hcr hri hbb hst
          have hww : IntKind.i64.wrap ((q : Int)) = (q : Int) := IntWalk.i64_in _ (by omega)
          have hab := abs_ok x wr (by omega)
          obtain ⟨ax, hax⟩ : ∃ ax, ax = (if x < 0 then -x else x) := ⟨_, rfl⟩
          rw [← hax] at hqi hab
          have hax1 : ax = (q : Int) + 1 := by omega
          subst hax1
          have hqq : (q : Int) + 1 - 1 = (q : Int) := by omega
          have HB := Lib.hid (And.intro hEb (And.intro hEi (And.intro hbb (And.intro hri (And.intro hst (And.intro hqL hab)))))); clear hEb hEi hbb hri hst hqL hab hx hq hqi hax hlw hb hO hwl
          obtain ⟨bl, hbl⟩ : ∃ bl, bl = b.length := ⟨_, rfl⟩
          rw [← hbl] at hcr
          obtain ⟨el, hel⟩ : ∃ el, el = (evB N L W j).length := ⟨_, rfl⟩
          rw [← hel]
          have HL2 := Lib.hid (And.intro hbl hel); clear hbl hel
          go_wp2_with fail
          refine Calls.mono HB.out.2.2.2.2.2.2 ?_
          rintro _ _ ⟨rfl, rfl⟩
          by_cases h0 : x < 0
          · have hst := HB.out.2.2.2.2.1
            rw [if_pos h0] at hst
            have HS := Lib.hid hst; clear hst
            go_wp2_with fail
            refine Calls.mono (inverseBijection_ok HB.out.2.2.1 hN wr _ Any (by rw [HL2.out.1]; exact Ints.sub HB.out.2.2.2.1 (fun _ _ _ => trivial))) ?_
            rintro e6 w6 ⟨v6, rfl, hg6, hO6⟩
            have hkb := HB.out.2.2.1.bak
            have h6i := hO6.ints (by rw [hkb.1]; omega)
            have hg06 := grown_trans hg hg6
            have HK := Lib.hid (And.intro hkb h6i); clear hkb h6i hO6 hcr
            go_wp2_with fail
            refine Calls.mono (compose_ok (evB N L W j) (bak b) (by rw [HB.out.1.1]; exact hN) (fun t ht => by rw [HK.out.1.1]; exact HB.out.1.2.1 t (by rw [← HB.out.1.1]; exact ht)) w6 _ _ Any Any (by rw [HL2.out.2]; exact Ints.ext HB.out.2.1 hg6) HK.out.2) ?_
            rintro e7 w7 ⟨v7, rfl, hg7, hO7⟩
            have hgn := grown_trans hg06 hg7
            have hOn : Own w.heap.size w7 v7 (evB N L W (j + 1)) := by rw [HS.out]; exact hO7.weak hg06.size
            clear hO7
            go_wp2
            go_roundw
            case rel => exact ⟨j + 1, v7, rfl, by go_num, by omega, hgn, hOn⟩
            case measure => simp [intOf]; omega
          · have hst := HB.out.2.2.2.2.1
            rw [if_neg h0] at hst
            have HS := Lib.hid hst; clear hst
            go_wp2_with fail
            refine Calls.mono (compose_ok (evB N L W j) b (by rw [HB.out.1.1]; exact hN) (fun t ht => by rw [HB.out.2.2.1.1]; exact HB.out.1.2.1 t (by rw [← HB.out.1.1]; exact ht)) wr _ _ Any Any (by rw [HL2.out.2]; exact HB.out.2.1) (by rw [HL2.out.1]; exact Ints.sub HB.out.2.2.2.1 (fun _ _ _ => trivial))) ?_
            rintro e7 w7 ⟨v7, rfl, hg7, hO7⟩
            have hgn := grown_trans hg hg7
            have hOn : Own w.heap.size w7 v7 (evB N L W (j + 1)) := by rw [HS.out]; exact hO7.weak hg.size
            clear hO7 hcr
            go_wp2
            go_roundw
            case rel => exact ⟨j + 1, v7, rfl, by go_num, by omega, hgn, hOn⟩
            case measure => simp [intOf]; omega
        · have hjm : j = M := by omega
          have hfin : Own w.heap.size wr v5 (evB N L W M) := by rw [← hjm]; exact hO
          have HF := Lib.hid hfin; clear hfin hO
          have hnl : ¬ (j : Int) < M := by omega
          go_wp2
          go_ret
          refine ⟨_, rfl, hg, ?_⟩
          show Own w.heap.size wr v5 (evB N L W W.length)
          rw [← HM.out]; exact HF.out

end Go.Proofs.YtoakmefajbbggaaGreat
namespace Go.Proofs.YtoakmefajbbggaaGreat
open Go.RowKit

set_option maxRecDepth 100000 in
set_option maxHeartbeats 2000000 in
theorem iInvert_ok {N : Nat} {a : List Int} (h128 : N ≤ 128) (ha : BijL N a) (w : World) (v : Value) (S : Nat → Prop) (hv : Ints S w v a) :
    Calls Tryz.prog 36 #[v] w (Ret w fun w' r => ∃ p n c, r = .tuple #[.slice p n c, .int .i64 0] ∧ Ints Any w' (.slice p n c) (bak a)) := by
  have h1 := IsBijection_ok h128 ha w v S hv
  have h2 := fun w' (hg : Ext w w') => inverseBijection_ok ha (by omega) w' v S (Ints.ext hv hg)
  obtain ⟨av, cap, rfl, _, _⟩ := hv.shape
  have hla : a.length = N := ha.1
  rw [hla] at h1 h2 ⊢
  have hal : (bak a).length ≤ 1000 := by unfold bak; rw [List.length_map, List.length_range]; omega
  have HC := Lib.hid (And.intro h1 (And.intro h2 hal)); clear h1 h2 hal ha hv hla
  go_enter Tryz.func36, Tryz.ntmps36
  go_wp2_with fail
  refine Calls.mono HC.out.1 ?_
  rintro e1 w1 ⟨v1, rfl, hg1, rfl⟩
  go_wp2_with fail
  refine Calls.mono (HC.out.2.1 w1 hg1) ?_
  rintro e3 w3 ⟨v3, rfl, hg3, hO⟩
  have hi := hO.ints (by have := HC.out.2.2; omega)
  obtain ⟨pa, pc, rfl, _, _⟩ := hi.shape
  have HI := Lib.hid hi; clear hi hO
  go_wp2
  go_ret2
  exact ⟨_, rfl, grown_trans hg1 hg3, _, _, _, rfl, HI.out⟩

end Go.Proofs.YtoakmefajbbggaaGreat
namespace Go.Proofs.YtoakmefajbbggaaGreat
open Go.RowKit

set_option maxRecDepth 100000 in
set_option maxHeartbeats 2000000 in
theorem wordFits_ok {n : Nat} (hn : n ≤ 1000) {W : List Int} (hW : WordN n W) (hl : W.length ≤ 64) (w : World) (v : Value) (S : Nat → Prop) (hv : Ints S w v W) :
    Calls Tryz.prog 63 #[.int .i64 (n : Int), v] w (Ret w fun _ r => r = .bool true) := by
  obtain ⟨av, cap, rfl, _, _⟩ := hv.shape
  obtain ⟨N, hN⟩ : ∃ N, N = W.length := ⟨_, rfl⟩
  rw [← hN] at hv hl ⊢
  have HV := Lib.hid (And.intro hv (And.intro hW hN)); clear hv hW hN
  go_enter Tryz.func63, Tryz.ntmps63
  go_wp2
  go_loopw [9] (fun iv wr => ∃ k : Nat, iv = .int .i64 (k : Int) ∧ k ≤ N ∧ Ext w wr) (fun iv _ => N - (intOf iv).toNat)
  case atStart => exact ⟨0, rfl, by omega, grown_refl _ _⟩
  case round =>
    obtain ⟨k, rfl, hk, hg⟩ := hrel
    by_cases hlt : k < N
    · have hlt' : (k : Int) < N := by omega
      have hkW : k < W.length := by rw [← HV.out.2.2]; exact hlt
      obtain ⟨b, off, hav, _, _, hc⟩ := Ints.at (Ints.ext HV.out.1 hg) k hkW
      subst hav
      have hx := HV.out.2.1 _ (gtMem hkW)
      generalize gt W k = x at *
      have hx0 : (x == 0) = false := by simp; omega
      have hin : inB x (-(n : Int)) n = true := by unfold inB; simp; omega
      have hneg : wrap64 (-(n : Int)) = -(n : Int) := IntWalk.wrap64_in _ (by omega)
      have hneg2 : IntKind.i64.wrap (-(n : Int)) = -(n : Int) := IntWalk.i64_in _ (by omega)
      have HI := Lib.hid hin; clear hin
      clear hkW hx
      go_wp2_with fail
      refine Calls.mono (inside_ok _ _ _ _) ?_
      rintro _ _ ⟨rfl, rfl⟩
      rw [HI.out]
      go_wp2
      go_roundw
      case rel => exact ⟨k + 1, by go_num, by omega, hg⟩
      case measure => simp [intOf]; omega
    · have hnl : ¬ (k : Int) < N := by omega
      have hl64 : (N : Int) ≤ 64 := by omega
      go_wp2
      go_ret
      exact ⟨_, rfl, hg, rfl⟩

set_option maxRecDepth 100000 in
set_option maxHeartbeats 2000000 in
theorem iEval_ok {N : Nat} {L : List (List Int)} (hL : ∀ b ∈ L, BijL N b) (hN : N ≤ 128) (hl1 : 1 ≤ L.length) (hl6 : L.length ≤ 6) {W : List Int} (hW : WordN L.length W) (hWl : W.length ≤ 64) (w : World) (wv lv : Value) (S T : Nat → Prop) (hwv : Ints S w wv W) (hlv : Rows2 T w lv L) :
    Calls Tryz.prog 34 #[wv, lv] w (Ret w fun w' r => ∃ p n c, r = .tuple #[.slice p n c, .int .i64 0] ∧ Ints Any w' (.slice p n c) (evB N L W W.length)) := by
  have hfit := wordFits_ok (n := L.length) (by omega) hW hWl w wv S hwv
  have hcmp := fun w' (hg : Ext w w') => composeWord_ok hL (by omega : N ≤ 1000) (by omega) hW w' wv lv S T (Ints.ext hwv hg) (Rows2.ext hlv hg)
  have hel : (evB N L W W.length).length = N := (evB_bij hL hW _ (Nat.le_refl _)).1
  have hlen : ∀ k, k < L.length → (gt L k).length = N := fun k hk => (hL _ (gtMem hk)).1
  have hbij := fun k (hk : k < L.length) w' u (R : Nat → Prop) (hu : Ints R w' u (gt L k)) => IsBijection_ok hN (hL _ (gtMem hk)) w' u R hu
  obtain ⟨wa, wc, rfl, _, _⟩ := hwv.shape
  obtain ⟨la, lc, rfl, _, _⟩ := Sl.shape hlv
  have hat : ∀ w' k, Ext w w' → k < L.length → ∃ rb ro ax capx, la = some ⟨rb, ro, none⟩ ∧ w'.cell? ⟨rb, ro + k, none⟩ = some (.slice ax N capx) ∧ Ints T w' (.slice ax N capx) (gt L k) := fun w' k hg hk => by
    obtain ⟨rb, ro, ax, capx, hab, _, _, hcx, hx⟩ := Rows2.at (Rows2.ext hlv hg) k hk
    rw [hlen k hk] at hcx hx
    exact ⟨rb, ro, ax, capx, hab, hcx, hx⟩
  obtain ⟨n, hn⟩ : ∃ n, n = L.length := ⟨_, rfl⟩
  rw [← hn] at hfit hcmp hat hlen hbij hl1 hl6 ⊢
  obtain ⟨m, hm⟩ : ∃ m, m = W.length := ⟨_, rfl⟩
  rw [← hm] at hfit hcmp hel ⊢
  have HC := Lib.hid (And.intro hfit (And.intro hcmp (And.intro hat (And.intro hbij hel)))); clear hfit hcmp hat hlen hbij hel hL hW hwv hlv hm hn hWl
  have g1 : ¬ ((n : Int) < 1) := by omega
  have g6 : ¬ ((6 : Int) < n) := by omega
  go_enter Tryz.func34, Tryz.ntmps34
  go_wp2_with fail
  refine Calls.mono HC.out.1 ?_
  rintro e1 w1 ⟨v1, rfl, hg1, rfl⟩
  clear g1 g6
  go_wp2
  go_loopw [25] (fun iv wr => ∃ k : Nat, iv = .int .i64 (k : Int) ∧ k ≤ n ∧ Ext w wr) (fun iv _ => n - (intOf iv).toNat)
  case atStart => exact ⟨0, rfl, by omega, hg1⟩
  case round =>
    obtain ⟨k, rfl, hk, hg⟩ := hrel
    by_cases hlt : k < n
    · have hlt' : (k : Int) < n := by omega
      have h0' : (0 : Int) < n := by omega
      obtain ⟨rb, ro, ax, capx, hab, hcx, hx⟩ := HC.out.2.2.1 wr k hg hlt
      subst hab
      have hB := HC.out.2.2.2.1 k hlt wr _ T hx
      have HB := Lib.hid hB; clear hB hx
      go_wp2_with fail
      refine Calls.mono HB.out ?_
      rintro e2 w2 ⟨v2, rfl, hg2, rfl⟩
      obtain ⟨rb', ro', ax', capx', hab', hcx', -⟩ := HC.out.2.2.1 w2 0 (grown_trans hg hg2) (by omega)
      obtain ⟨rfl, rfl⟩ : rb = rb' ∧ ro = ro' := by cases hab'; exact ⟨rfl, rfl⟩
      rw [Nat.add_zero] at hcx'
      clear hab' hcx
      go_wp2_with fail
      go_roundw
      case rel => exact ⟨k + 1, by go_num, by omega, grown_trans hg hg2⟩
      case measure => simp [intOf]; omega
    · have hke : k = n := by omega
      subst hke
      have hnl : ¬ (k : Int) < (k : Int) := by omega
      have h0' : (0 : Int) < (k : Int) := by omega
      obtain ⟨rb', ro', ax', capx', hab', hcx', -⟩ := HC.out.2.2.1 wr 0 hg (by omega)
      subst hab'
      rw [Nat.add_zero] at hcx'
      go_wp2_with fail
      refine Calls.mono (HC.out.2.1 wr hg) ?_
      rintro e3 w3 ⟨v3, rfl, hg3, hO⟩
      have hi := hO.ints (by rw [HC.out.2.2.2.2]; omega)
      obtain ⟨pa, pc, rfl, _, _⟩ := hi.shape
      have HI := Lib.hid hi; clear hi hO
      go_wp2
      go_ret2
      exact ⟨_, rfl, grown_trans hg hg3, _, _, _, rfl, HI.out⟩

end Go.Proofs.YtoakmefajbbggaaGreat
namespace Go.Proofs.YtoakmefajbbggaaGreat
open Go.RowKit

set_option maxRecDepth 100000 in
set_option maxHeartbeats 4000000 in
theorem iNumE_ok (P : Pr) (hr : rconsB P = true) (w : World) (pv xv : Value) (X : List Int) (Sp Sx : Nat → Prop) (hpv : PresV Sp w pv P) (hx : Ints Sx w xv X) (hX : Vec P.orders X) :
    Calls Tryz.prog 35 #[pv, xv] w (Ret w fun _ v => v = .tuple #[.int .i64 (num P X), .int .i64 0]) := by
  have G := grp_of_r hr
  obtain ⟨vo, vp, vc, rfl, h3⟩ := hpv
  have hp0 := PresP.box h3 28
  have hg0 : Ext w (w.alloc (.cells #[vo, vp, vc] 28)) := World.grownBy_alloc _ _ _
  have hs0 : (w.alloc (.cells #[vo, vp, vc] 28)).heap.size = w.heap.size + 1 := by simp
  have hx0 := Ints.ext hx hg0
  obtain ⟨ax, capx, rfl, _, _⟩ := hx.shape
  have hg1 : Ext (w.alloc (.cells #[vo, vp, vc] 28)) ((w.alloc (.cells #[vo, vp, vc] 28)).alloc (.cells #[.slice ax X.length capx] 24)) := World.grownBy_alloc _ _ _
  have hl := rowsE1 hx0
  have hcon := areElements_ok P _ _ _ [X] Any Any (hp0.ext hg1) hl
  rw [hs0] at hcon
  clear hl hx
  have HH := Lib.hid (And.intro hr hX); clear hr hX
  go_enter Tryz.func35, Tryz.ntmps35
  go_wp2_with fail
  refine Calls.mono hcon ?_
  rintro e1 w1 ⟨v1, rfl, hgA, r1, rfl, hr1⟩
  clear hcon
  obtain rfl : r1 = true := hr1.2 (by have := HH.out; simp only [List.mem_cons, List.mem_nil_iff, or_false]; exact ⟨this.1, fun u hu => by subst hu; exact this.2⟩)
  clear hr1
  have hg01 := grown_trans hg1 hgA
  clear hs0
  generalize hw0 : (w.alloc (.cells #[vo, vp, vc] 28)) = w0 at *
  clear hw0 hg1 hgA
  have hp1 := hp0.ext hg01
  have hx1 := Ints.ext hx0 hg01
  go_wp2_with fail
  refine Calls.mono (numberOf_ok P G.v w1 _ _ X Any Sx hp1 hx1 HH.out.2) ?_
  rintro _ _ ⟨rfl, rfl⟩
  go_wp2
  go_ret2
  exact ⟨_, rfl, grown_trans hg0 hg01, rfl⟩

set_option maxRecDepth 100000 in
set_option maxHeartbeats 4000000 in
theorem iEw_ok (P : Pr) (hr : rconsB P = true) (w : World) (pv wv iv : Value) (W : List Int) (Is : List (List Int)) (Sp Sw Si : Nat → Prop) (hpv : PresV Sp w pv P) (hw : Ints Sw w wv W) (hi : Rows2 Si w iv Is) (hI : ∀ x ∈ Is, Vec P.orders x) (hIl : Is.length ≤ 6) (hW : WordN Is.length W) (hWl : W.length ≤ 64) :
    Calls Tryz.prog 13 #[pv, wv, iv] w (Ret w fun w' v => ∃ a n c, v = .tuple #[.slice a n c, .int .i64 0] ∧ Own w.heap.size w' (.slice a n c) (evalTo P Is W W.length)) := by
  have G := grp_of_r hr
  have hn6 := G.v.n6
  obtain ⟨vo, vp, vc, rfl, h3⟩ := hpv
  have hp0 := PresP.box h3 28
  have hg0 : Ext w (w.alloc (.cells #[vo, vp, vc] 28)) := World.grownBy_alloc _ _ _
  have hs0 : (w.alloc (.cells #[vo, vp, vc] 28)).heap.size = w.heap.size + 1 := by simp
  have hw0 := Ints.ext hw hg0
  have hi0 := Rows2.ext hi hg0
  obtain ⟨aw, capw, rfl, _, _⟩ := hw.shape
  obtain ⟨ai, capi, rfl, _⟩ := Sl.shape hi
  have hcon := areElements_ok P _ _ _ Is Any Si hp0 hi0
  generalize hwz : (w.alloc (.cells #[vo, vp, vc] 28)) = wz at *
  have hfit := fun w' (hg : Ext wz w') => wordFits_ok (n := Is.length) (by omega) hW hWl w' _ Sw (Ints.ext hw0 hg)
  have hev := fun w' (hg : Ext wz w') => evaluate_ok P G w' _ _ _ W Is Any Sw Si (hp0.ext hg) (Ints.ext hw0 hg) (Rows2.ext hi0 hg) hI hW (by omega) hIl
  have hEl := (G.eval_vec hI hW W.length (Nat.le_refl _)).1
  obtain ⟨n, hn⟩ : ∃ n, n = Is.length := ⟨_, rfl⟩
  obtain ⟨m, hm⟩ : ∃ m, m = W.length := ⟨_, rfl⟩
  obtain ⟨E, hE⟩ : ∃ E, E = evalTo P Is W W.length := ⟨_, rfl⟩
  rw [← hE] at hev hEl ⊢
  rw [← hn] at hfit hcon hev hIl ⊢
  rw [← hm] at hfit hev ⊢
  have HC := Lib.hid (And.intro hcon (And.intro hfit (And.intro hev (And.intro hEl (And.intro hr hI))))); clear hcon hfit hev hEl hr hI hW hw hi hw0 hi0 hm hn hE hp0 h3 hWl
  have HS := Lib.hid (And.intro hwz (And.intro hs0 hg0)); clear hs0 hg0
  have g6 : ¬ ((6 : Int) < n) := by omega
  go_enter Tryz.func13, Tryz.ntmps13
  go_wp2_with fail
  clear hwz
  refine Calls.mono HC.out.1 ?_
  rintro e1 w1 ⟨v1, rfl, hg1, r1, rfl, hr1⟩
  obtain rfl : r1 = true := hr1.2 ⟨HC.out.2.2.2.2.1, HC.out.2.2.2.2.2⟩
  clear hr1
  go_wp2_with fail
  refine Calls.mono (HC.out.2.1 w1 hg1) ?_
  rintro e2 w2 ⟨v2, rfl, hg2, rfl⟩
  go_wp2_with fail
  refine Calls.mono (HC.out.2.2.1 w2 (grown_trans hg1 hg2)) ?_
  rintro e3 w3 ⟨v3, rfl, hg3, hO⟩
  have hi := hO.ints (by rw [HC.out.2.2.2.1]; omega)
  obtain ⟨pa, pn, pc, hv3⟩ : ∃ a n c, v3 = Value.slice a n c := by obtain ⟨a, c, e, _⟩ := hi.shape; exact ⟨_, _, _, e⟩
  subst hv3
  go_wp2
  go_ret2
  exact ⟨_, rfl, grown_trans HS.out.2.2 (grown_trans hg1 (grown_trans hg2 hg3)), _, _, _, rfl, hO.weak (by have := HS.out.2.1; have := hg1.size; have := hg2.size; omega)⟩

end Go.Proofs.YtoakmefajbbggaaGreat
namespace Go.Proofs.YtoakmefajbbggaaGreat
open Go.RowKit

theorem tk {P : Program} {ops : Array Oper} {Q : Exit → Act → World → Prop} {md : Region.Mode} {S : World → Prop} {oi : Oper} {v : Value} {fuel : Nat} {l l' : Array Bool} {a a' : Act} {w : World} (i : Nat)
    (h : wpAnyH P md ops Q S fuel l' a' w)
    (hi : ops[i]? = some oi := by rfl) (hs : Region.noSelect ops = true := by kernel_rfl) (hf : Region.free md ops l i = true := by kernel_rfl) (hr : (Region.ready md ops l).contains i = true := by kernel_rfl)
    (hw : Region.wanted oi (yielded ops a.tmps) = true := by rfl)
    (hy : ∀ w, S w → (execOp a.eval oi).run P w = .ok (.value v) w := by (intro w hSw; (try dsimp only at hSw); go_simp; try with_reducible rfl))
    (hl : l.setIfInBounds i true = l' := by (first | (simp only [List.setIfInBounds_toArray, List.set_cons_zero, List.set_cons_succ]; rfl) | rfl))
    (ha : a.put oi.dst v = a' := by (first | (simp only [Act.put, List.getElem_toArray, List.getElem_cons_succ, List.getElem_cons_zero, List.setIfInBounds_toArray, List.set_cons_zero, List.set_cons_succ]; rfl) | rfl))
    (hQ : ∀ c a w, Q (.panic c) (a.put oi.dst v) w → Q (.panic c) a w := by (intro _ _ _ h; exact h)) (hS : S w := by assumption) : wpAnyH P md ops Q S (fuel + 1) l a w := by
  subst hl ha
  exact wpAnyH_take hi hs hf hr hQ (Or.inl ⟨hw, hy⟩) hS h

theorem tku {P : Program} {ops : Array Oper} {Q : Exit → Act → World → Prop} {md : Region.Mode} {S : World → Prop} {oi : Oper} {fuel : Nat} {l l' : Array Bool} {a a' : Act} {w : World} (i : Nat)
    (h : wpAnyH P md ops Q S fuel l' a' w)
    (hi : ops[i]? = some oi := by rfl) (hs : Region.noSelect ops = true := by kernel_rfl) (hf : Region.free md ops l i = true := by kernel_rfl) (hr : (Region.ready md ops l).contains i = true := by kernel_rfl)
    (hw : Region.wanted oi (yielded ops a.tmps) = false := by rfl)
    (hl : l.setIfInBounds i true = l' := by (first | (simp only [List.setIfInBounds_toArray, List.set_cons_zero, List.set_cons_succ]; rfl) | rfl))
    (ha : a.put oi.dst undef = a' := by (first | (simp only [Act.put, List.getElem_toArray, List.getElem_cons_succ, List.getElem_cons_zero, List.setIfInBounds_toArray, List.set_cons_zero, List.set_cons_succ]; rfl) | rfl))
    (hQ : ∀ c a w, Q (.panic c) (a.put oi.dst undef) w → Q (.panic c) a w := by (intro _ _ _ h; exact h)) (hS : S w := by assumption) : wpAnyH P md ops Q S (fuel + 1) l a w := by
  subst hl ha
  exact wpAnyH_take hi hs hf hr hQ (Or.inr ⟨hw, rfl⟩) hS h

theorem rd1 {P : Program} {ops : Array Oper} {Q : Exit → Act → World → Prop} {md : Region.Mode} {S : World → Prop} {o : Oper} {fuel : Nat} {l l' : Array Bool} {a : Act} {w : World} (i : Nat)
    (h : ∀ K' : Act → World → Prop, Shut (∀ a w, S w → (S w → wpAnyH P md ops Q S fuel l' a w) → K' a w) → if Region.wanted o (yielded ops a.tmps) = true then Oper.wp P o a w K' Q else K' (a.put o.dst undef) w)
    (hr : Region.ready md ops l = [i] := by kernel_rfl) (ho : ops[i]? = some o := by rfl)
    (hl : l.setIfInBounds i true = l' := by (first | (simp only [List.setIfInBounds_toArray, List.set_cons_zero, List.set_cons_succ]; rfl) | rfl)) : wpAnyH P md ops Q S (fuel + 1) l a w := by
  subst hl
  exact wpAnyH_ready hr (by simp) (AllReadyH.cons ho h AllReadyH.nil)

theorem rd2 {P : Program} {ops : Array Oper} {Q : Exit → Act → World → Prop} {md : Region.Mode} {S : World → Prop} {o o2 : Oper} {fuel : Nat} {l l' l2 : Array Bool} {a : Act} {w : World} (i j : Nat)
    (h : ∀ K' : Act → World → Prop, Shut (∀ a w, S w → (S w → wpAnyH P md ops Q S fuel l' a w) → K' a w) → if Region.wanted o (yielded ops a.tmps) = true then Oper.wp P o a w K' Q else K' (a.put o.dst undef) w)
    (h2 : ∀ K' : Act → World → Prop, Shut (∀ a w, S w → (S w → wpAnyH P md ops Q S fuel l2 a w) → K' a w) → if Region.wanted o2 (yielded ops a.tmps) = true then Oper.wp P o2 a w K' Q else K' (a.put o2.dst undef) w)
    (hr : Region.ready md ops l = [i, j] := by kernel_rfl) (ho : ops[i]? = some o := by rfl) (ho2 : ops[j]? = some o2 := by rfl)
    (hl : l.setIfInBounds i true = l' := by (first | (simp only [List.setIfInBounds_toArray, List.set_cons_zero, List.set_cons_succ]; rfl) | rfl))
    (hl2 : l.setIfInBounds j true = l2 := by (first | (simp only [List.setIfInBounds_toArray, List.set_cons_zero, List.set_cons_succ]; rfl) | rfl)) : wpAnyH P md ops Q S (fuel + 1) l a w := by
  subst hl hl2
  exact wpAnyH_ready hr (by simp) (AllReadyH.cons ho h (AllReadyH.cons ho2 h2 AllReadyH.nil))

theorem ko {P : Program} {ops : Array Oper} {Q : Exit → Act → World → Prop} {md : Region.Mode} {S : World → Prop} {fuel : Nat} {l : Array Bool} {a a' : Act} {w : World} {K : Act → World → Prop}
    (hK : Shut (∀ a w, S w → (S w → wpAnyH P md ops Q S fuel l a w) → K a w)) (hS : S w) (h : S w → wpAnyH P md ops Q S fuel l a' w)
    (ha : a = a' := by (first | (simp only [Act.put, List.getElem_toArray, List.getElem_cons_succ, List.getElem_cons_zero, List.setIfInBounds_toArray, List.set_cons_zero, List.set_cons_succ]; rfl) | rfl)) : K a w := by
  subst ha
  exact hK.out _ _ hS h

end Go.Proofs.YtoakmefajbbggaaGreat
namespace Go.Proofs.YtoakmefajbbggaaGreat
open Go.RowKit
attribute [local go_sem ↓] Go.wp_at_zero Go.wp_at_succ

theorem step_app_intH {ops : Array Oper} {o : Oper} {a : Act} {K : Act → World → Prop} {Q : Exit → Act → World → Prop} {Ex : Prop} {w : World} (hgd : o.guard = none) (s x : Operand)
    (ho : o.op = Op.call { callee := Callee.builtin Builtin.append, args := #[s, x], argTypes := #[24, 24] }) (B : Nat) (v : Value) (l : List Int) (y : Int) (hs : a.eval s = v) (hown : Own B w v l)
    (H : Nat) (hx : a.eval x = .slice (some ⟨H, 0, none⟩) 1 1) (hu : w.cell? ⟨H, 0, none⟩ = some (.int .i64 y)) (hlen : l.length ≤ 1000000) (hbase : B ≤ w.heap.size)
    (h : ∀ v' w', Own B w' v' (l ++ [y]) → w.grownBy w' v.ownBlock → K (a.put o.dst v') w') :
    if Region.wanted o (yielded ops a.tmps) = true then Oper.wp Tryz.prog o a w K Q else Ex := by
  refine step_app 24 2 (.int .i64 0) 8 und_ints Tryz.infoInt rfl (by decide) hgd s x ho B v (l.map (Value.int .i64)) hs hown.v H (.int .i64 y) hx hu rfl (by simpa using (by omega : l.length ≤ 2000000)) hbase ?_
  intro v' w' h1 h2 _
  exact h v' w' (Own.of (by rw [List.map_append]; exact h1)) h2

theorem PresX.conjOwn {F : Nat → Prop} {w : World} {vo vp vc : Value} {P : Pr} (h : PresX F w vo vp vc P) (i : Nat) (hi : i < P.conj.length) :
    ∃ g cap z, vc = .slice (some ⟨g, 0, none⟩) P.conj.length cap ∧ F g ∧ w.cell? ⟨g, i, none⟩ = some z ∧ g < w.heap.size ∧ w.frozen? ⟨g, i, none⟩ = false := by
  obtain ⟨Fo, Fp, Fc, h1, h2, h3, h4, h5, h6⟩ := h
  rcases SlI.form h3 with ⟨_, e⟩ | ⟨g, cap, rfl, hFg, hgl⟩
  · rw [e] at hi; simp at hi
  obtain ⟨⟨z, hz⟩, hf⟩ := SlI.place h3 i hi
  exact ⟨g, cap, z, rfl, h6 g hFg, hz, hgl, hf⟩

theorem step_app_rowH {ops : Array Oper} {o : Oper} {a : Act} {K : Act → World → Prop} {Q : Exit → Act → World → Prop} {Ex : Prop} {w : World} (hgd : o.guard = none) (s x : Operand)
    (ho : o.op = Op.call { callee := Callee.builtin Builtin.append, args := #[s, x], argTypes := #[25, 25] }) (B : Nat) (v : Value) (vs : List Value) (hs : a.eval s = v) (hown : OwnV B 24 w v vs)
    (H : Nat) (u : Value) (hx : a.eval x = .slice (some ⟨H, 0, none⟩) 1 1) {a1 : Option Addr} {n1 c1 : Nat} (hu : w.cell? ⟨H, 0, none⟩ = some u ∧ u = .slice a1 n1 c1) (hlen : vs.length ≤ 1000000) (hbase : B ≤ w.heap.size)
    (h : ∀ v' w', OwnV B 24 w' v' (vs ++ [u]) → w.grownBy w' v.ownBlock → (v'.ownBlock = v.ownBlock ∨ v'.ownBlock = some w.heap.size) → K (a.put o.dst v') w') :
    if Region.wanted o (yielded ops a.tmps) = true then Oper.wp Tryz.prog o a w K Q else Ex :=
  step_app 25 24 (.slice none 0 0) 24 und_rows Tryz.infoRow rfl (by decide) hgd s x ho B v vs hs hown H u hx hu.1 (by rw [hu.2]; rfl) (by omega) hbase h
/-- rows with one more, as they read -/
theorem rows_app {B : Nat} {w5 wc w6 : World} {v5 v6 u : Value} {vs : List Value} {L : List (List Int)} {y : List Int} {U : Nat → Prop} (hO6 : OwnV B 24 w6 v6 (vs ++ [u])) (hl : vs.length = L.length) (hll : L.length ≤ 1000000)
    (hE : ∀ i, i < L.length → Ints (fun k => B ≤ k ∧ v5.ownBlock ≠ some k) w5 (gt vs i) (gt L i)) (hc : Ext w5 wc) (hg : wc.grownBy w6 v5.ownBlock) (hu : Ints U wc u y) (hU : ∀ k, U k → B ≤ k ∧ v5.ownBlock ≠ some k) :
    Rows2 (fun k => B ≤ k) w6 v6 (L ++ [y]) := by
  have hlt := hO6.lt
  rcases hO6.form with ⟨_, h2⟩ | ⟨g, cap, rfl, hnc, _, _⟩
  · simp at h2
  refine ⟨some ⟨g, 0, none⟩, cap, by simp [hl], ⟨by simp at hnc; simp; omega, by simp; omega, fun h => by cases h⟩, fun i hi => ?_⟩
  · have hi : i < (vs ++ [u]).length := by simp at hi ⊢; omega
    refine ⟨g, 0, gt (vs ++ [u]) i, rfl, (hlt g rfl).1, (hlt g rfl).2, by rw [Nat.zero_add]; exact hO6.cell i hi, ?_⟩
    by_cases hlt2 : i < vs.length
    · rw [gt_append_left _ _ _ hlt2, gt_append_left _ _ _ (by omega)]
      exact Ints.mono (hE i (by omega)) (fun k hk hkl => ⟨hk.1, Nat.lt_of_lt_of_le hkl (Nat.le_trans hc.size hg.size), (hg.block k (Nat.lt_of_lt_of_le hkl hc.size) (fun e => hk.2 e.symm)).trans (hc.block k hkl (by simp))⟩)
    · have hie : i = vs.length := by simp at hi; omega
      subst hie
      rw [gt_concat, hl, gt_concat]
      exact Ints.mono hu (fun k hk hkl => ⟨(hU k hk).1, Nat.lt_of_lt_of_le hkl hg.size, hg.block k hkl (fun e => (hU k hk).2 e.symm)⟩)
/-- a row of conjugates is turned: what can be read behind it -/
theorem PresX.putRow {F : Nat → Prop} {w w6 : World} {vo vp : Value} {P : Pr} {g n cap : Nat} {u : Value} {L : List (List Int)} (h : PresX F w vo vp (.slice (some ⟨g, 0, none⟩) n cap) P) (i : Nat) (hi : i < n) (hn : P.conj.length = n) (hg : Ext w w6) (hu : Rows2 (fun k => w.heap.size ≤ k) w6 u L) :
    ∃ Q : Pr, Q.orders = P.orders ∧ Pres3 (fun k => F k ∨ w.heap.size ≤ k) (w6.setCell ⟨g, i, none⟩ u) vo vp (.slice (some ⟨g, 0, none⟩) n cap) Q := by
  obtain ⟨Fo, Fp, Fc, h1, h2, h3, h4, h5, h6⟩ := h
  have hFg : Fc g := by
    rcases SlI.form h3 with ⟨e, _⟩ | ⟨g', c', e, hF, _⟩
    · cases e
    · cases e; exact hF
  have hgl : g < w.heap.size := by
    rcases SlI.form h3 with ⟨e, _⟩ | ⟨g', c', e, _, hl⟩
    · cases e
    · cases e; exact hl
  have hT := grown_set1 w6 g i u
  have hblk : ∀ k, k < w.heap.size → k ≠ g → k < (w6.setCell ⟨g, i, none⟩ u).heap.size ∧ (w6.setCell ⟨g, i, none⟩ u).heap[k]? = w.heap[k]? := fun k hk hne => ⟨Nat.lt_of_lt_of_le hk (Nat.le_trans hg.size hT.size), (hT.block k (Nat.lt_of_lt_of_le hk hg.size) (fun e => hne (Option.some.inj e))).trans (hg.block k hk (by simp))⟩
  have h3r : SlI (fun F w u (x : List (List Int)) => Rows2 F w u x) 25 (fun k => Fc k ∧ k < w.heap.size) w6 (.slice (some ⟨g, 0, none⟩) n cap) P.conj :=
    SlI.map (fun _ _ _ _ h => RowsI.rows h) (rdRows3I.mono h3 (fun k hk hlt => ⟨⟨hk, hlt⟩, Nat.lt_of_lt_of_le hlt hg.size, hg.block k hlt (by simp)⟩))
  have hrd : RdOk (fun F w u (x : List (List Int)) => Rows2 F w u x) := ⟨fun h hb => Rows2.mono h hb, fun h => by obtain ⟨_, _, rfl, _⟩ := Sl.shape h; rfl⟩
  have hp := SlI.putR hrd h3r hu (fun k hk h => by omega) i
  refine ⟨⟨P.orders, P.powers, P.conj.set i L⟩, rfl, ⟨?_, ?_, ?_⟩⟩
  · exact Ints.mono h1.ints (fun k hk hlt => by
      have h := hblk k hlt (fun e => (h4 k hk).2.2 (e ▸ hFg))
      exact ⟨.inl (h4 k hk).1, h.1, h.2⟩)
  · exact Rows2.mono (RowsI.rows h2) (fun k hk hlt => by
      have h := hblk k hlt (fun e => (h5 k hk).2 (e ▸ hFg))
      exact ⟨.inl (h5 k hk).1, h.1, h.2⟩)
  · exact Rows3.sub (S := fun k => (Fc k ∧ k < w.heap.size) ∨ w.heap.size ≤ k) hp (fun k hk _ => hk.elim (fun h => .inl (h6 k h.1)) .inr)

/-- behind the switch: some presentation in the variable -/
def BendCut (P0 : Pr) (B0 sb qb : Nat) (w wx : World) : Prop := ∃ (a1 : Option Addr) (n1 c1 : Nat) (a2 : Option Addr) (n2 c2 : Nat) (a3 : Option Addr) (n3 c3 : Nat) (Q : Pr), Box3 wx qb (.slice a1 n1 c1) (.slice a2 n2 c2) (.slice a3 n3 c3) ∧ Box3 wx (w.heap.size + 1) (.slice none 0 0) (.slice none 0 0) (.slice none 0 0) ∧
  w.grownBy wx (some sb) ∧ Src B0 wx sb ∧ Q.orders.length ≤ 7 ∧ OrdLe P0 Q ∧ Pres3 (fun k => w.heap.size + 2 ≤ k) wx (.slice a1 n1 c1) (.slice a2 n2 c2) (.slice a3 n3 c3) Q

set_option linter.unusedSimpArgs false in
set_option maxRecDepth 100000 in
set_option maxHeartbeats 16000000 in
theorem l07BendL_ok (B0 : Nat) (w : World) (sb : Nat) (pv : Value) (P : Pr) (F : Nat → Prop) (hB0 : B0 ≤ w.heap.size) (hs : Src B0 w sb) (hp : PresV F w pv P) (hV : Valid P) :
    Calls Tryz.prog 164 #[.pointer (some ⟨sb, 0, none⟩), pv] w (Mut w (some sb) (DrawR B0 sb (PresAL 7 (OrdLe P) w.heap.size))) := by
  have hsb := hs.lt
  have hS := hV.shp
  obtain ⟨vo, vp, vc, rfl, h3⟩ := hp
  obtain ⟨ao, co, hvo, _, _⟩ := h3.o.shape
  obtain ⟨ap, cp, hvp, _, _⟩ := Sl.shape h3.p
  obtain ⟨ac, cc, hvc, _, _⟩ := Sl.shape h3.c
  rw [hS.p] at hvp
  rw [hS.c] at hvc
  subst hvo hvp hvc
  obtain ⟨n, hn⟩ : ∃ n, n = P.orders.length := ⟨_, rfl⟩
  rw [← hn] at h3
  rw [← hn]
  have hn6 : n ≤ 6 := by rw [hn]; exact hS.n
  have hgA : Ext w (w.alloc (.cells #[.slice ao n co, .slice ap n cp, .slice ac n cc] 28)) := World.grownBy_alloc _ _ _
  have hsA : (w.alloc (.cells #[.slice ao n co, .slice ap n cp, .slice ac n cc] 28)).heap.size = w.heap.size + 1 := by simp
  have hbA := Box3.made w 28 (.slice ao n co) (.slice ap n cp) (.slice ac n cc)
  have HH := Lib.hid (And.intro hS (And.intro hV (And.intro hn hs))); clear hS hV hn hs
  go_enter Tryz.func164, Tryz.ntmps164
  go_wp2_with fail
  generalize w.alloc (.cells #[.slice ao n co, .slice ap n cp, .slice ac n cc] 28) = wA at *
  have hgB : Ext wA (wA.alloc (.cells #[.slice none 0 0, .slice none 0 0, .slice none 0 0] 28)) := World.grownBy_alloc _ _ _
  have hbB := Box3.made wA 28 (.slice none 0 0) (.slice none 0 0) (.slice none 0 0)
  have hg0 := grown_trans hgA hgB
  have hsB : (wA.alloc (.cells #[.slice none 0 0, .slice none 0 0, .slice none 0 0] 28)).heap.size = w.heap.size + 2 := by simp [hsA]
  rw [hsA] at hbB
  generalize wA.alloc (.cells #[.slice none 0 0, .slice none 0 0, .slice none 0 0] 28) = w0 at *
  have hs00 : w.heap.size + 2 ≤ w0.heap.size := by omega
  clear hgB hgA hbA hsA hsB
  refine Calls.mono (l07Own_ok w0 _ P F 6 ⟨_, _, _, rfl, h3.mono (frame_of hg0 (fun k hk _ => ⟨hk, by simp⟩))⟩ HH.out.1 (by omega)) ?_
  rintro e1 w1 ⟨v1, rfl, hg1, qo, qp, qc, rfl, hX1⟩
  obtain ⟨ao2, co2, ap2, cp2, ac2, cc2, e1, e2, e3⟩ := hX1.shape
  rw [HH.out.1.p] at e2
  rw [HH.out.1.c] at e3
  rw [← HH.out.2.2.1] at e1 e2 e3
  subst e1 e2 e3
  obtain ⟨qb, hqb⟩ : ∃ qb, qb = w1.heap.size := ⟨_, rfl⟩
  have hgq : Ext w1 (w1.alloc (.cells #[.slice ao2 n co2, .slice ap2 n cp2, .slice ac2 n cc2] 28)) := World.grownBy_alloc _ _ _
  have hbQ := Box3.made w1 28 (.slice ao2 n co2) (.slice ap2 n cp2) (.slice ac2 n cc2)
  rw [← hqb] at hbQ
  have hs1 := hg1.size
  have hX2 : PresX (fun k => w0.heap.size ≤ k ∧ k ≠ qb) (w1.alloc (.cells #[.slice ao2 n co2, .slice ap2 n cp2, .slice ac2 n cc2] 28)) (.slice ao2 n co2) (.slice ap2 n cp2) (.slice ac2 n cc2) P := hX1.mono (fun k hk hlt => ⟨⟨hk, by omega⟩, Nat.lt_of_lt_of_le hlt hgq.size, hgq.block k hlt (by simp)⟩)
  have hg02 := grown_trans hg1 hgq
  have HQB := Lib.hid hqb
  go_wp2_with fail
  rw [← HQB.out]
  generalize w1.alloc (.cells #[.slice ao2 n co2, .slice ap2 n cp2, .slice ac2 n cc2] 28) = w2 at *
  have hqs : w0.heap.size ≤ qb := by omega
  clear hX1 hg1 hgq hqb HQB hs1
  have hbR := hbB.ext hg02
  have hgw2 := grown_trans hg0 hg02
  have hs2 := HH.out.2.2.2.ext hgw2
  clear hbB hg02 hg0 h3
  refine Calls.mono (l01Next_ok B0 w2 sb 6 hs2) ?_
  rintro e3 w3 ⟨v3, rfl, hg3, x, rfl, _, hx1, hs3⟩
  have hX3 := hX2.moved hg3 (fun h => by omega)
  have hbQ3 := hbQ.moved hg3 (by omega)
  have hbR3 := hbR.moved hg3 (by omega)
  have hgw3 := grown_trans (grown_of_ext (some sb) hgw2) hg3
  have hx := hx1 (by omega)
  have hPn := HH.out.2.2.1
  have hP2 : P.powers.length = n := by rw [hPn]; exact HH.out.2.1.pl
  have hC2 : P.conj.length = n := by rw [hPn]; exact HH.out.2.1.cl
  have hq3 : qb < w3.heap.size := hbQ3.1
  have HX3 := Lib.hid (And.intro hX3 (And.intro hs3 (And.intro hPn (And.intro hP2 hC2))))
  clear hX2 hbQ hbR hgw2 hs2 hg3 hX3 hs3 hx1 hPn hP2 hC2
  obtain ⟨q0, q1, q2, q3, q4⟩ := id hbQ3
  go_upto_block 0 with fail
  go_cut [] (fun wx => BendCut P B0 sb qb w wx)
  case' rest =>
    obtain ⟨a1, n1, c1, a2, n2, c2, a3, n3, c3, Q, hbQx, hbRx, hgx, hsx, hQl, hQo, hQx⟩ := hcut
    clear q0 q1 q2 q3 q4 hbQ3 hbR3 HX3 hgw3
    obtain ⟨q0, q1, q2, q3, q4⟩ := id hbQx
    obtain ⟨b0, b1, b2, b3, b4⟩ := id hbRx
    have hZ := hbRx.all (.slice a1 n1 c1) (.slice a2 n2 c2) (.slice a3 n3 c3)
    obtain ⟨-, z0, z1, z2, -⟩ := id hZ
    have HF := Lib.hid (And.intro hgx (And.intro hsx (And.intro hQx (And.intro hQl hQo)))); clear hZ hgx hsx hQx hQl hQo
    go_wp2_with fail
    refine bodyPost_ret (v := .agg #[.slice a1 n1 c1, .slice a2 n2 c2, .slice a3 n3 c3]) (by simp [results, Tryz.results164, go_sem, z0, z1, z2]) rfl ?_
    exact a_ret HF.out.1 (br := w.heap.size + 1) (by omega) (fun k hk _ => ⟨by omega, by omega⟩) HF.out.2.1 hB0 HF.out.2.2.2.1 HF.out.2.2.1 HF.out.2.2.2.2
  rcases (show x = 0 ∨ x = 1 ∨ x = 2 ∨ x = 3 ∨ x = 4 ∨ x = 5 by omega) with rfl | rfl | rfl | rfl | rfl | rfl
  all_goals clear hx
  · obtain ⟨Fo, Fp, Fc, h1, h2, h3, h4, h5, h6⟩ := HX3.out.1
    have hO := h1.1
    have hoB : ∀ k, (Value.slice ao2 n co2).ownBlock = some k → (w0.heap.size ≤ k ∧ k ≠ qb) ∧ ¬ Fp k ∧ ¬ Fc k := fun k hk => h4 k (h1.2.1 k hk)
    have hsz0 : w3.heap.size ≤ w3.heap.size := Nat.le_refl _
    have HO := Lib.hid (And.intro hoB (And.intro h2 (And.intro h3 (And.intro h5 h6)))); clear hoB h1 h2 h3 h4 h5 h6
    have hll : P.orders.length ≤ 1000000 := by have := HX3.out.2.2.1; omega
    have hlx : (P.orders ++ [2]).length = P.orders.length + 1 := by simp
    go_wp2_with (first | (at_builtin; refine wp_app_intb rfl _ _ rfl 0 (.slice ao2 n co2) P.orders 2 rfl w3 hO rfl rfl hll (Nat.zero_le _) ?_; intro v5 w5 hO5 hg5 hat5; have hb5 : Box3 w5 qb (.slice ao2 n co2) (.slice ap2 n cp2) (.slice ac2 n cc2) := hbQ3.keep hg5.size (hg5.block _ hbQ3.1 (fun e => (HO.out.1 qb e.symm).1.2 rfl)); have hbR5 := hbR3.keep hg5.size (hg5.block _ hbR3.1 (fun e => by have := (HO.out.1 _ e.symm).1.1; omega)); obtain ⟨r0, r1, r2, r3, r4⟩ := id hb5; obtain ⟨a5, n5, hv5, _⟩ := (hO5.ints (by omega)).shape; rw [hlx] at hv5; subst hv5; have hb6 := (hb5.put (.slice a5 (P.orders.length + 1) n5)).1; have hT6 := grown_set1 w5 qb 0 (.slice a5 (P.orders.length + 1) n5); have hbR6 := hbR5.moved hT6 (by omega); have HBB := Lib.hid (And.intro hb6 hbR6); have HF := Lib.hid (And.intro hO5 (And.intro hg5 (And.intro hat5 hT6))); clear hO5 hg5 hat5 hT6 hbR6 hb6 hb5 hbR5) | fail)
    obtain ⟨hO5, hg5, hat5, hT6⟩ := HF.out
    have hg36 : w.grownBy (w5.setCell ⟨qb, 0, none⟩ (.slice a5 (P.orders.length + 1) n5)) (some sb) := grown_own (grown_own hgw3 hg5 (fun j hj hlt => by have := (HO.out.1 j hj).1.1; omega)) hT6 (fun j hj hlt => by have := Option.some.inj hj; omega)
    have hs6 := (HX3.out.2.1.own hg5 (fun j hj => by have := (HO.out.1 j hj).1.1; omega)).own hT6 (fun k hk => by have := Option.some.inj hk; omega)
    have hP6 : Pres3 (fun k => (w0.heap.size ≤ k ∧ k ≠ qb)) (w5.setCell ⟨qb, 0, none⟩ (.slice a5 (P.orders.length + 1) n5)) (.slice a5 (P.orders.length + 1) n5) (.slice ap2 n cp2) (.slice ac2 n cc2) ⟨P.orders ++ [2], P.powers, P.conj⟩ := by
      have hblk : ∀ k, k < w3.heap.size → (Value.slice ao2 n co2).ownBlock ≠ some k → k ≠ qb → k < (w5.setCell ⟨qb, 0, none⟩ (.slice a5 (P.orders.length + 1) n5)).heap.size ∧ (w5.setCell ⟨qb, 0, none⟩ (.slice a5 (P.orders.length + 1) n5)).heap[k]? = w3.heap[k]? := fun k hk h1 h2 =>
        ⟨Nat.lt_of_lt_of_le hk (Nat.le_trans hg5.size hT6.size), (hT6.block k (Nat.lt_of_lt_of_le hk hg5.size) (fun e => h2 (Option.some.inj e))).trans (hg5.block k hk (fun e => h1 e.symm))⟩
      refine ⟨?_, ?_, ?_⟩
      · have hI : Ints (fun k => w0.heap.size ≤ k ∧ k ≠ qb) w5 (.slice a5 (P.orders.length + 1) n5) (P.orders ++ [2]) := ints_of_own hO5 (by omega) (fun k hk => by
          rcases hat5 with e | e
          · rw [e] at hk; exact (HO.out.1 k hk).1
          · have := e k hk; exact ⟨by omega, by omega⟩)
        exact Ints.mono hI (fun k hk hlt => ⟨hk, Nat.lt_of_lt_of_le hlt hT6.size, hT6.block k hlt (fun e => hk.2 (Option.some.inj e))⟩)
      · exact Rows2.mono (RowsI.rows HO.out.2.1) (fun k hk hlt => by
          have h5 := HO.out.2.2.2.1 k hk
          have h := hblk k hlt (fun e => (HO.out.1 k e).2.1 hk) h5.1.2
          exact ⟨h5.1, h.1, h.2⟩)
      · exact Rows3.mono (Rows3I.rows HO.out.2.2.1) (fun k hk hlt => by
          have h5 := HO.out.2.2.2.2 k hk
          have h := hblk k hlt (fun e => (HO.out.1 k e).2.2 hk) h5.2
          exact ⟨h5, h.1, h.2⟩)
    try go_meet
    exact ⟨_, _, _, _, _, _, _, _, _, _, HBB.out.1, HBB.out.2, hg36, hs6, (by simp; have := HX3.out.2.2.1; omega), (by exact fun h => absurd h.pl (by show ¬ P.powers.length = (P.orders ++ [2]).length; rw [HX3.out.2.2.2.1, List.length_append, ← HX3.out.2.2.1, List.length_singleton]; omega)), hP6.mono (fun k hk hlt => ⟨by omega, hlt, rfl⟩)⟩
  · by_cases hn0 : n = 0
    · have hnb : decide (0 < n) = false := by simp [hn0]
      clear hn0
      go_wp2_with fail
      try go_wp2_with fail
      go_meet
      exact ⟨_, _, _, _, _, _, _, _, _, _, hbQ3, hbR3, hgw3, HX3.out.2.1, (by rw [← HX3.out.2.2.1]; omega), (by exact OrdLe.same rfl), Pres3.mono HX3.out.1.p3 (fun k hk hlt => ⟨by omega, hlt, rfl⟩)⟩
    · have hn1 : 0 < n := by omega
      clear hn0
      obtain ⟨Fo, Fp, Fc, h1, h2, h3, h4, h5, h6⟩ := HX3.out.1
      have hO := h1.1
      obtain ⟨g, capg, hvo, _, hgl⟩ := hO.form (by rw [← HX3.out.2.2.1]; exact hn1)
      obtain ⟨rfl, rfl⟩ : ao2 = some ⟨g, 0, none⟩ ∧ co2 = capg := by cases hvo; exact ⟨rfl, rfl⟩
      clear hvo
      have hFg := h1.2.1 g rfl
      have hg4 := h4 g hFg
      have hgB : w0.heap.size ≤ g := hg4.1.1
      have hgq : g ≠ qb := hg4.1.2
      have hc0 := hO.cell 0 (by rw [← HX3.out.2.2.1]; exact hn1)
      have hf0 := hO.frozen 0
      generalize gt P.orders 0 = oz at hc0
      have HO := Lib.hid (And.intro hO (And.intro h2 (And.intro h3 (And.intro h5 (And.intro h6 hg4))))); clear h1 h2 h3 h4 h5 h6 hO hg4 hFg
      have e0 : ∀ w', NearS w3 sb g w' → w'.cell? ⟨qb, 0, none⟩ = some (.slice (some ⟨g, 0, none⟩) n co2) := fun w' h => h.cell hbQ3.2.1 (by simp; omega) (by simp; omega)
      have hL := ints_litL w3.drew [4, 1, 11, 0, -2] (by simp)
      have hLn : ∀ y ∈ ([4, 1, 11, 0, -2] : List Int), -2 ≤ y := by simp
      have HL := Lib.hid (And.intro hL hLn); clear hL hLn
      have hnI : (0 : Int) < n := by omega
      go_wp2_with fail
      go_region_held3 (fun w' => NearS w3 sb g w') (first | exact NearS.ext (grown_drew _ _) | exact NearS.ext (grown_trans (grown_drew _ _) (World.grownBy_alloc _ _ _)) | exact NearS.of (by assumption) | exact NearS.two hg5 (grown_set1 _ _ _ _) | assumption)
        (first
          | (go_at_call 113; refine Calls.mono (l01Pick_ok B0 _ sb _ [4, 1, 11, 0, -2] _ (HX3.out.2.1.ext (grown_trans (grown_drew _ _) (World.grownBy_alloc _ _ _))) HL.out.1 (fun k hk => by have hk : k = w3.heap.size := hk; omega) (by simp) (by simp)) ?_; rintro e5 w5 ⟨v5, rfl, hg5a, i, hi, rfl, hs5⟩; have hg5 : w3.grownBy w5 (some sb) := grown_trans (grown_of_ext (some sb) (grown_trans (grown_drew _ _) (World.grownBy_alloc _ _ _))) hg5a; have hc5 := hg5.cell hc0 (by simp; omega); have hf5 := (World.frozen?_of_block (a := ⟨g, 0, none⟩) (hg5.block g hgl (fun e => by have := Option.some.inj e; omega))).trans hf0))
      have hsz5 := hg5.size
      have hT := grown_set1 w5 g 0 (.int .i64 (gt [4, 1, 11, 0, -2] i))
      have hb6 := (hbQ3.moved hg5 (by omega)).moved hT (by omega)
      have hbR6 := (hbR3.moved hg5 (by omega)).moved hT (by omega)
      have hg6 := grown_own (grown_trans hgw3 hg5) hT (fun j hj hlt => by have := Option.some.inj hj; omega)
      have hs6 := hs5.own hT (fun k hk => by have := Option.some.inj hk; omega)
      have hO5 : Own 0 w5 (.slice (some ⟨g, 0, none⟩) n co2) P.orders := HO.out.1.kept hg5 (.inr (fun e => by have := own_blk e; omega))
      have hO6 := (hO5.store 0 (gt [4, 1, 11, 0, -2] i)).1
      have hP6 : Pres3 (fun k => (w0.heap.size ≤ k ∧ k ≠ qb)) (w5.setCell ⟨g, 0, none⟩ (.int .i64 (gt [4, 1, 11, 0, -2] i))) (.slice (some ⟨g, 0, none⟩) n co2) (.slice ap2 n cp2) (.slice ac2 n cc2) ⟨P.orders.set 0 (gt [4, 1, 11, 0, -2] i), P.powers, P.conj⟩ := by
        have hblk : ∀ k, k < w3.heap.size → g ≠ k → (w0.heap.size ≤ k ∧ k ≠ qb) → k < (w5.setCell ⟨g, 0, none⟩ (.int .i64 (gt [4, 1, 11, 0, -2] i))).heap.size ∧ (w5.setCell ⟨g, 0, none⟩ (.int .i64 (gt [4, 1, 11, 0, -2] i))).heap[k]? = w3.heap[k]? := fun k hk h1 h2 =>
          ⟨Nat.lt_of_lt_of_le hk (Nat.le_trans hg5.size hT.size), (hT.block k (Nat.lt_of_lt_of_le hk hg5.size) (fun e => h1 (Option.some.inj e).symm)).trans (hg5.block k hk (fun e => by have := Option.some.inj e; omega))⟩
        refine ⟨?_, ?_, ?_⟩
        · exact ints_of_own hO6 (by rw [List.length_set, ← HX3.out.2.2.1]; omega) (fun k hk => by have := own_blk hk; subst this; exact ⟨hgB, hgq⟩)
        · exact Rows2.mono (RowsI.rows HO.out.2.1) (fun k hk hlt => by
            have h5 := HO.out.2.2.2.1 k hk
            have h := hblk k hlt (fun e => HO.out.2.2.2.2.2.2.1 (e ▸ hk)) h5.1
            exact ⟨h5.1, h.1, h.2⟩)
        · exact Rows3.mono (Rows3I.rows HO.out.2.2.1) (fun k hk hlt => by
            have h5 := HO.out.2.2.2.2.1 k hk
            have h := hblk k hlt (fun e => HO.out.2.2.2.2.2.2.2 (e ▸ hk)) h5
            exact ⟨h5, h.1, h.2⟩)
      clear hc5 hf5 e0 hT hO6 hs5 hg5a hg5 hbQ3 hbR3 hgw3 q0 q1 q2 q3 q4 hc0 hf0
      have hLen : (P.orders.set 0 (gt [4, 1, 11, 0, -2] i)).length ≤ 7 := by rw [List.length_set, ← HX3.out.2.2.1]; omega
      have hNo : OrdLe P ⟨P.orders.set 0 (gt [4, 1, 11, 0, -2] i), P.powers, P.conj⟩ := fun h => by
        have h1 : gt (P.orders.set 0 (gt [4, 1, 11, 0, -2] i)) 0 = 2 ∨ gt (P.orders.set 0 (gt [4, 1, 11, 0, -2] i)) 0 = 3 ∨ gt (P.orders.set 0 (gt [4, 1, 11, 0, -2] i)) 0 = 5 ∨ gt (P.orders.set 0 (gt [4, 1, 11, 0, -2] i)) 0 = 7 := h.ord 0 (by show 0 < (P.orders.set 0 _).length; rw [List.length_set, ← HX3.out.2.2.1]; exact hn1)
        exfalso
        rw [gt_set_eq _ _ _ (by rw [← HX3.out.2.2.1]; exact hn1)] at h1
        have hi5 : i < 5 := hi
        obtain rfl | rfl | rfl | rfl | rfl : i = 0 ∨ i = 1 ∨ i = 2 ∨ i = 3 ∨ i = 4 := by omega
        all_goals simp [gt] at h1
      have HLen := Lib.hid (And.intro hLen hNo); clear hLen hNo
      generalize w5.setCell ⟨g, 0, none⟩ (.int .i64 (gt [4, 1, 11, 0, -2] i)) = w6 at *
      try go_wp2_with fail
      go_meet
      exact ⟨_, _, _, _, _, _, _, _, _, _, hb6, hbR6, hg6, hs6, HLen.out.1, HLen.out.2, Pres3.mono hP6 (fun k hk hlt => ⟨by omega, hlt, rfl⟩)⟩
  · by_cases hn0 : n = 0
    · have hnb : decide (0 < n) = false := by simp [hn0]
      clear hn0
      go_wp2_with fail
      try go_wp2_with fail
      go_meet
      exact ⟨_, _, _, _, _, _, _, _, _, _, hbQ3, hbR3, hgw3, HX3.out.2.1, (by rw [← HX3.out.2.2.1]; omega), (by exact OrdLe.same rfl), Pres3.mono HX3.out.1.p3 (fun k hk hlt => ⟨by omega, hlt, rfl⟩)⟩
    · have hn1 : 0 < n := by omega
      clear hn0
      have hnI : (0 : Int) < n := by omega
      have hr0 := HX3.out.1.p3.p
      obtain ⟨bq, oq, ae, ce, hap, hbF, _, hcr, hre⟩ := Rows2.at hr0 0 (by rw [HX3.out.2.2.2.1]; exact hn1)
      obtain ⟨g, capg, z, hvp, ⟨hgB, hgq⟩, hgl, hcg, hfg, _⟩ := HX3.out.1.putP 0 (by rw [HX3.out.2.2.2.1]; exact hn1) (U := fun _ => False) (y := []) (u := .slice none 0 0) ⟨none, 0, rfl, ⟨by simp, by simp, fun _ => rfl⟩, fun i hi => by simp at hi⟩ (fun _ h => h.elim)
      obtain ⟨rfl, rfl⟩ : ap2 = some ⟨g, 0, none⟩ ∧ cp2 = capg := by cases hvp; exact ⟨rfl, rfl⟩
      have hbg : g = bq := by cases hap; rfl
      have hoq : oq = 0 := by cases hap; rfl
      clear hap
      subst hbg hoq
      rw [Nat.zero_add] at hcr
      have hel : (gt P.powers 0).length ≤ 6 := HH.out.1.pv _ (gtMem (by rw [HX3.out.2.2.2.1]; exact hn1))
      obtain ⟨e, he⟩ : ∃ e, e = gt P.powers 0 := ⟨_, rfl⟩
      rw [← he] at hcr hre hel
      clear hvp he hcg hr0
      have hbd := hbQ3.ext (grown_drew _ none)
      obtain ⟨d0, d1, d2, d3, d4⟩ := id hbd
      have f1 : w3.drew.cell? ⟨g, 0, none⟩ = some (.slice ae e.length ce) := hcr
      have hlx : (e ++ [(0 : Int)]).length = e.length + 1 := by simp
      go_wp2_with fail
      have e1 : ∀ w', Near w3 g w' → w'.cell? ⟨qb, 1, none⟩ = some (.slice (some ⟨g, 0, none⟩) n cp2) := fun w' h => h.cell hbQ3.2.2.1 (by simp; omega)
      refine wp_region_held_drew (S := fun w' => Near w3 g w') (by kernel_rfl) (Near.of (grown_drew _ _)) (fun hHeld => ?_)
      refine tk 0 ?_
      refine tk 1 ?_
      refine tk 2 ?_
      refine tk 3 ?_
      refine tk 4 ?_
      have hA1 : Ext w3 (w3.alloc (.cells #[.int .i64 0] 2)).drew := grown_trans (World.grownBy_alloc _ _ _) (grown_drew _ _)
      refine rd2 5 7 (fun Kc hKc => ?_) (fun Kc hKc => ?_)
      focus
        go_simp
        refine ko hKc (by assumption) (fun hHeld => ?_)
        clear hKc Kc
        refine rd2 6 7 (fun Kc hKc => ?_) (fun Kc hKc => ?_)
        focus
          go_simp
          go_at_call 120
          refine Calls.mono (l01Own_ok w3.drew _ e _ (hre.ext (grown_drew _ _)) (by omega)) ?_
          rintro e5 w5 ⟨v5, rfl, hg5, hO5d⟩
          have hg35 : Ext w3 w5 := grown_trans (grown_drew _ _) hg5
          have hO5 : Own w3.heap.size w5 v5 e := hO5d
          obtain ⟨a5, c5, hv5, _⟩ := (hO5.ints (by omega)).shape
          subst hv5
          go_wp2_with fail
          refine ko hKc (Near.of hg35) (fun hHeld => ?_)
          clear hKc Kc
          refine rd1 7 (fun Kc hKc => ?_)
          go_simp
          refine ko hKc (Near.of (grown_trans hg35 (World.grownBy_alloc _ _ _))) (fun hHeld => ?_)
          clear hKc Kc
          refine rd1 8 (fun Kc hKc => ?_)
          refine step_app_int (by rfl) _ _ (by rfl) w3.heap.size _ e 0 (by rfl) w5 hO5 (by rfl) (by rfl) (by omega) hg35.size ?_
        rotate_left
        focus
          go_simp
          refine ko hKc (Near.of hA1) (fun hHeld => ?_)
          clear hKc Kc
          refine rd1 6 (fun Kc hKc => ?_)
          go_simp
          go_at_call 120
          refine Calls.mono (l01Own_ok (w3.alloc (.cells #[.int .i64 0] 2)).drew _ e _ (hre.ext hA1) (by omega)) ?_
          rintro e5 w5 ⟨v5, rfl, hg5, hO5d⟩
          have hg35 : Ext w3 w5 := grown_trans hA1 hg5
          have hsd : (w3.alloc (.cells #[.int .i64 0] 2)).drew.heap.size = w3.heap.size + 1 := (by simp : (w3.alloc (.cells #[.int .i64 0] 2)).heap.size = w3.heap.size + 1)
          have hO5 : Own w3.heap.size w5 v5 e := hO5d.weak (by omega)
          have hu4 : (w3.alloc (.cells #[.int .i64 0] 2)).drew.cell? ⟨w3.heap.size, 0, none⟩ = some (.int .i64 0) := (by rw [World.cell?_alloc_at _ _ _ _ rfl]; rfl : (w3.alloc (.cells #[.int .i64 0] 2)).cell? ⟨w3.heap.size, 0, none⟩ = some (.int .i64 0))
          have hu5 := hg5.cell hu4 (by simp)
          obtain ⟨a5, c5, hv5, _⟩ := (hO5.ints (by omega)).shape
          subst hv5
          go_wp2_with fail
          refine ko hKc (Near.of hg35) (fun hHeld => ?_)
          clear hKc Kc
          refine rd1 8 (fun Kc hKc => ?_)
          refine step_app_intH (by rfl) _ _ (by rfl) w3.heap.size _ e 0 (by rfl) hO5 w3.heap.size (by rfl) hu5 (by omega) hg35.size ?_
      rotate_left 2
      focus
        go_simp
        refine ko hKc (Near.of hA1) (fun hHeld => ?_)
        clear hKc Kc
        refine rd1 5 (fun Kc hKc => ?_)
        have f2 : (w3.alloc (.cells #[.int .i64 0] 2)).drew.cell? ⟨g, 0, none⟩ = some (.slice ae e.length ce) := (hA1 : Ext w3 (w3.alloc (.cells #[.int .i64 0] 2)).drew).cell hcr (by simp)
        go_simp
        refine ko hKc (by assumption) (fun hHeld => ?_)
        clear hKc Kc
        refine rd1 6 (fun Kc hKc => ?_)
        go_simp
        go_at_call 120
        refine Calls.mono (l01Own_ok (w3.alloc (.cells #[.int .i64 0] 2)).drew _ e _ (hre.ext hA1) (by omega)) ?_
        rintro e5 w5 ⟨v5, rfl, hg5, hO5d⟩
        have hg35 : Ext w3 w5 := grown_trans hA1 hg5
        have hsd : (w3.alloc (.cells #[.int .i64 0] 2)).drew.heap.size = w3.heap.size + 1 := (by simp : (w3.alloc (.cells #[.int .i64 0] 2)).heap.size = w3.heap.size + 1)
        have hO5 : Own w3.heap.size w5 v5 e := hO5d.weak (by omega)
        have hu4 : (w3.alloc (.cells #[.int .i64 0] 2)).drew.cell? ⟨w3.heap.size, 0, none⟩ = some (.int .i64 0) := (by rw [World.cell?_alloc_at _ _ _ _ rfl]; rfl : (w3.alloc (.cells #[.int .i64 0] 2)).cell? ⟨w3.heap.size, 0, none⟩ = some (.int .i64 0))
        have hu5 := hg5.cell hu4 (by simp)
        obtain ⟨a5, c5, hv5, _⟩ := (hO5.ints (by omega)).shape
        subst hv5
        go_wp2_with fail
        refine ko hKc (Near.of hg35) (fun hHeld => ?_)
        clear hKc Kc
        refine rd1 8 (fun Kc hKc => ?_)
        refine step_app_intH (by rfl) _ _ (by rfl) w3.heap.size _ e 0 (by rfl) hO5 w3.heap.size (by rfl) hu5 (by omega) hg35.size ?_
      all_goals
        intro v6 w6 hO6 hg6
        have hg36 : Ext w3 w6 := grown_own hg35 hg6 (fun j hj hlt => by have := (hO5.lt j hj).1; omega)
        obtain ⟨a6, c6, hv6, _⟩ := (hO6.ints (by simp; omega)).shape
        rw [hlx] at hv6
        subst hv6
        have r1 := hg36.cell hcr (by simp)
        have r2 := (World.frozen?_of_block (a := ⟨g, 0, none⟩) (hg36.block g hgl (by simp))).trans hfg
        refine ko hKc (Near.of hg36) (fun hHeld => ?_)
        clear hKc Kc
        refine tk 9 ?_
        refine rd1 10 (fun Kc hKc => ?_)
        go_simp
        refine ko hKc (Near.store hg36) (fun hHeld => ?_)
        clear hKc Kc
        refine wpAnyH_done (by kernel_rfl) ?_ _
        have hT := grown_set1 w6 g 0 (.slice a6 (e.length + 1) c6)
        have hb7 := (hbQ3.ext hg36).moved hT (by omega)
        have hbR7 := (hbR3.ext hg36).moved hT (by omega)
        have hg7 := grown_own (grown_trans hgw3 (grown_of_ext (some sb) hg36)) hT (fun j hj hlt => by have := Option.some.inj hj; omega)
        have hs7 := (HX3.out.2.1.ext hg36).own hT (fun k hk => by have := Option.some.inj hk; omega)
        have hX6 : PresX (fun k => w0.heap.size ≤ k ∧ k ≠ qb ∧ k < w3.heap.size) w6 (.slice ao2 n co2) (.slice (some ⟨g, 0, none⟩) n cp2) (.slice ac2 n cc2) P := HX3.out.1.mono (fun k hk hlt => ⟨⟨hk.1, hk.2, hlt⟩, Nat.lt_of_lt_of_le hlt hg36.size, hg36.block k hlt (by simp)⟩)
        have hYI : Ints (fun k => w3.heap.size ≤ k) w6 (.slice a6 (e.length + 1) c6) (e ++ [0]) := ints_of_own hO6 (by omega) (fun k hk => (hO6.lt k hk).1)
        obtain ⟨g', _, _, he1, _, _, _, _, hP7⟩ := hX6.putP 0 (by rw [HX3.out.2.2.2.1]; exact hn1) hYI (fun k hk h => by omega)
        have hgg : g' = g := by simp only [Value.slice.injEq, Option.some.injEq, Addr.mk.injEq] at he1; exact he1.1.1.symm
        rw [hgg] at hP7
        clear he1 hgg
        clear hA1 hT hX6 hYI hO6 hO5 r1 r2
        go_wp2_with fail
        go_meet
        exact ⟨_, _, _, _, _, _, _, _, _, _, hb7, hbR7, hg7, hs7, (by show P.orders.length ≤ 7; rw [← HX3.out.2.2.1]; omega), (by exact OrdLe.same rfl), hP7.mono (fun k hk hlt => ⟨by rcases hk with hk | hk <;> omega, hlt, rfl⟩)⟩
  · by_cases hn0 : n = 0
    · have hnb : decide (0 < n) = false := by simp [hn0]
      clear hn0
      go_wp2_with fail
      try go_wp2_with fail
      go_meet
      exact ⟨_, _, _, _, _, _, _, _, _, _, hbQ3, hbR3, hgw3, HX3.out.2.1, (by rw [← HX3.out.2.2.1]; omega), (by exact OrdLe.same rfl), Pres3.mono HX3.out.1.p3 (fun k hk hlt => ⟨by omega, hlt, rfl⟩)⟩
    · have hn1 : 0 < n := by omega
      clear hn0
      have hnI : (0 : Int) < n := by omega
      have hpl : (gt P.powers 0).length = n := by rw [HX3.out.2.2.1]; exact (HH.out.2.1.pv 0 (by rw [← HX3.out.2.2.1]; exact hn1)).1.1
      obtain ⟨g, capg, b, capb, hvp, ⟨hgB, hgq⟩, hgl, hcg, ⟨hbB, hbq⟩, hbg, hbl, hcb, hst⟩ := HX3.out.1.openPIm (r := sb) 0 0 (by rw [HX3.out.2.2.2.1]; exact hn1) (by rw [hpl]; exact hn1) (fun h => by omega)
      obtain ⟨rfl, rfl⟩ : ap2 = some ⟨g, 0, none⟩ ∧ cp2 = capg := by cases hvp; exact ⟨rfl, rfl⟩
      clear hvp
      rw [hpl] at hcg
      obtain ⟨hfr, hX4⟩ := hst w3 (grown_refl _ _)
      have hX4 := hX4 1
      have hT := grown_set1 w3 b 0 (.int .i64 1)
      have hb6 := hbQ3.moved hT (by omega)
      have hbR6 := hbR3.moved hT (by omega)
      have hg6 := grown_own hgw3 hT (fun j hj hlt => by have := Option.some.inj hj; omega)
      have hs6 := HX3.out.2.1.own hT (fun k hk => by have := Option.some.inj hk; omega)
      generalize gt (gt P.powers 0) 0 = oz at hcb
      have HX4 := Lib.hid (And.intro hX4 (And.intro hb6 (And.intro hbR6 (And.intro hg6 hs6)))); clear hX4 hb6 hbR6 hg6 hs6 hT hst hpl
      go_wp2_with fail
      go_meet
      obtain ⟨hX4, hb6, hbR6, hg6, hs6⟩ := HX4.out
      exact ⟨_, _, _, _, _, _, _, _, _, _, hb6, hbR6, hg6, hs6, (by show P.orders.length ≤ 7; rw [← HX3.out.2.2.1]; omega), (by exact OrdLe.same rfl), hX4.p3.mono (fun k hk hlt => ⟨by rcases hk with hk | hk <;> omega, hlt, rfl⟩)⟩
  · by_cases hn0 : n = 0
    · have hnb : decide (0 < n) = false := by simp [hn0]
      clear hn0
      go_wp2_with fail
      try go_wp2_with fail
      go_meet
      exact ⟨_, _, _, _, _, _, _, _, _, _, hbQ3, hbR3, hgw3, HX3.out.2.1, (by rw [← HX3.out.2.2.1]; omega), (by exact OrdLe.same rfl), Pres3.mono HX3.out.1.p3 (fun k hk hlt => ⟨by omega, hlt, rfl⟩)⟩
    · have hn1 : 0 < n := by omega
      clear hn0
      have hnI : (0 : Int) < n := by omega
      have hr0 := HX3.out.1.p3.c
      obtain ⟨bq, oq, ae, ce, hap, hbF, _, hcr, hre⟩ := Rows3.at hr0 0 (by rw [HX3.out.2.2.2.2]; exact hn1)
      obtain ⟨g, capg, z, hvp, hgB, hgq, hgl, hfg⟩ := HX3.out.1.conjOwn 0 (by rw [HX3.out.2.2.2.2]; exact hn1)
      obtain ⟨rfl, rfl⟩ : ac2 = some ⟨g, 0, none⟩ ∧ cc2 = capg := by cases hvp; exact ⟨rfl, rfl⟩
      have hbg : g = bq := by cases hap; rfl
      have hoq : oq = 0 := by cases hap; rfl
      clear hap
      subst hbg hoq
      rw [Nat.zero_add] at hcr
      have e1 : ∀ w', Near w3 g w' → w'.cell? ⟨qb, 2, none⟩ = some (.slice (some ⟨g, 0, none⟩) n cc2) := fun w' h => h.cell hbQ3.2.2.2.1 (by simp; omega)
      have e0 : ∀ w', Near w3 g w' → w'.cell? ⟨qb, 0, none⟩ = some (.slice ao2 n co2) := fun w' h => h.cell hbQ3.2.1 (by simp; omega)
      have hrl : (gt P.conj 0).length ≤ 6 := by rw [HH.out.1.cl 0 (by rw [← HX3.out.2.2.1]; exact hn1), ← HX3.out.2.2.1]; omega
      have hrv : ∀ x ∈ gt P.conj 0, x.length ≤ 1000000 := fun x hx => by have := HH.out.1.cv _ (gtMem (by rw [HX3.out.2.2.2.2]; exact hn1)) x hx; omega
      obtain ⟨R, hR⟩ : ∃ R, R = gt P.conj 0 := ⟨_, rfl⟩
      rw [← hR] at hcr hre hrl hrv
      have HR := Lib.hid (And.intro hrv hR)
      clear hvp hrv hR hr0 hgB
      have hmk := fun w => run_mk_ints n (by omega) w
      go_wp2_with fail
      refine wp_region_held_drew (S := fun w' => Near w3 g w') (by kernel_rfl) (Near.of (grown_drew _ _)) (fun hHeld => ?_)
      refine tk 0 ?_
      refine tk 1 ?_
      refine tk 2 ?_
      refine tk 3 ?_
      refine tk 4 ?_
      refine tk 7 ?_
      refine tk 8 ?_
      refine tk 9 ?_
      have hA0 : Ext w3 w3.drew := grown_drew _ _
      have hA1 : Ext w3 (w3.alloc (.cells (madeCells #[.int .i64 0] n) 2)).drew := grown_trans (World.grownBy_alloc _ _ _) (grown_drew _ _)
      have hA2 : Ext w3 ((w3.alloc (.cells (madeCells #[.int .i64 0] n) 2)).alloc (.cells #[.slice (some ⟨w3.heap.size, 0, none⟩) n n] 24)).drew := grown_trans (World.grownBy_alloc _ _ _) (grown_trans (World.grownBy_alloc _ _ _) (grown_drew _ _))
      have hown : ∀ (w' : World) (m : Nat), Ext w3 w' → w'.heap.size = w3.heap.size + m → Calls Tryz.prog 183 #[.slice ae R.length ce] w' (fun e5 w5 => ∃ a5 c5 vs, e5 = .returned (.slice a5 vs.length c5) ∧ Ext w' w5 ∧ Ext w3 w5 ∧ vs.length ≤ 6 ∧ OwnV w3.heap.size 24 w5 (.slice a5 vs.length c5) vs ∧ (∀ k, (Value.slice a5 vs.length c5).ownBlock = some k → w3.heap.size + m ≤ k) ∧ Hid ((∀ i, i < R.length → Ints (fun k => w3.heap.size ≤ k ∧ (Value.slice a5 vs.length c5).ownBlock ≠ some k) w5 (gt vs i) (gt R i)) ∧ vs.length = R.length)) := fun w' m hx hm => by
        refine Calls.mono (l01Own2_ok w' _ R _ (Rows2.ext hre hx) HR.out.1 (by omega)) ?_
        rintro e5 w5 ⟨v5, rfl, hg5, vs, G, hvl, hO5, hG5, _, hE5⟩
        have hx3 := hx.size
        have hO6 : OwnV w3.heap.size 24 w5 v5 vs := ownsRow_move hO5 (fun k hk => ⟨rfl, Nat.le_trans hx3 (hO5.lt k hk).1⟩)
        obtain ⟨a5, c5, rfl⟩ : ∃ a c, v5 = .slice a vs.length c := by
          rcases hO5.form with ⟨h1, h2⟩ | ⟨g5, cap5, h1, _⟩
          · exact ⟨_, _, by rw [h1, h2]; rfl⟩
          · exact ⟨_, _, h1⟩
        exact ⟨a5, c5, vs, rfl, hg5, grown_trans hx hg5, by omega, hO6, fun k hk => by have := (hO5.lt k hk).1; omega, Lib.hid ⟨fun i hi => Ints.sub (hE5 i hi).ints (fun k hk _ => ⟨Nat.le_trans hx3 (hG5 i k hi hk).1, (hG5 i k hi hk).2.1⟩), hvl⟩⟩
      have hz0 : w3.drew.heap.size = w3.heap.size + 0 := rfl
      have hz1 : (w3.alloc (.cells (madeCells #[.int .i64 0] n) 2)).drew.heap.size = w3.heap.size + 1 := (by simp : (w3.alloc (.cells (madeCells #[.int .i64 0] n) 2)).heap.size = w3.heap.size + 1)
      have hz2 : ((w3.alloc (.cells (madeCells #[.int .i64 0] n) 2)).alloc (.cells #[.slice (some ⟨w3.heap.size, 0, none⟩) n n] 24)).drew.heap.size = w3.heap.size + 2 := (by simp : ((w3.alloc (.cells (madeCells #[.int .i64 0] n) 2)).alloc (.cells #[.slice (some ⟨w3.heap.size, 0, none⟩) n n] 24)).heap.size = w3.heap.size + 2)
      have hll : ∀ (vs : List Value) (u : Value), (vs ++ [u]).length = vs.length + 1 := fun vs u => by simp
      refine rd2 5 10 (fun Kc hKc => ?_) (fun Kc hKc => ?_)
      focus
        have f2 : w3.drew.cell? ⟨g, 0, none⟩ = some (.slice ae R.length ce) := (hA0 : Ext w3 w3.drew).cell hcr (by simp)
        go_simp
        refine ko hKc (Near.of hA0) (fun hHeld => ?_)
        clear hKc Kc
        refine rd2 6 10 (fun Kc hKc => ?_) (fun Kc hKc => ?_)
        focus
          go_simp
          go_at_call 183
          refine Calls.mono (hown _ 0 hA0 hz0) ?_
          rintro e5 w5 ⟨a5, c5, vs, rfl, hg5, hg35, hvl6, hO5, hbb, HE5⟩
          go_wp2_with fail
          refine ko hKc (Near.of hg35) (fun hHeld => ?_)
          clear hKc Kc
          refine rd1 10 (fun Kc hKc => ?_)
          go_simp
          refine ko hKc (Near.of (grown_trans hg35 (World.grownBy_alloc w5 (.cells (madeCells #[.int .i64 0] n) 2) none))) (fun hHeld => ?_)
          clear hKc Kc
          refine rd1 11 (fun Kc hKc => ?_)
          go_simp
          refine ko hKc (Near.of (grown_trans (grown_trans hg35 (World.grownBy_alloc w5 (.cells (madeCells #[.int .i64 0] n) 2) none)) (World.grownBy_alloc (w5.alloc (.cells (madeCells #[.int .i64 0] n) 2)) (.cells #[.slice (some ⟨w5.heap.size, 0, none⟩) n n] 24) none))) (fun hHeld => ?_)
          clear hKc Kc
          refine rd1 12 (fun Kc hKc => ?_)
          have hM0 : Ints (fun k => w3.heap.size ≤ k ∧ k = w5.heap.size) (w5.alloc (.cells (madeCells #[.int .i64 0] n) 2)) (.slice (some ⟨w5.heap.size, 0, none⟩) n n) (List.replicate n 0) := ints_of_own (own_mk_ints n (by omega) w5) (by simp; omega) (fun k hk => by have := own_blk hk; subst this; exact ⟨by first | exact Nat.le_refl _ | exact hg35.size, rfl⟩)
          have hM : Ints (fun k => w3.heap.size ≤ k ∧ k = w5.heap.size) ((w5.alloc (.cells (madeCells #[.int .i64 0] n) 2)).alloc (.cells #[.slice (some ⟨w5.heap.size, 0, none⟩) n n] 24)) (.slice (some ⟨w5.heap.size, 0, none⟩) n n) (List.replicate n 0) := Ints.ext hM0 (grown_trans (grown_refl _ none) (World.grownBy_alloc (w5.alloc (.cells (madeCells #[.int .i64 0] n) 2)) (.cells #[.slice (some ⟨w5.heap.size, 0, none⟩) n n] 24) none))
          have hszl : (w5.alloc (.cells (madeCells #[.int .i64 0] n) 2)).heap.size = w5.heap.size + 1 := by simp
          have hu0 : ((w5.alloc (.cells (madeCells #[.int .i64 0] n) 2)).alloc (.cells #[.slice (some ⟨w5.heap.size, 0, none⟩) n n] 24)).cell? ⟨w5.heap.size + 1, 0, none⟩ = some (.slice (some ⟨w5.heap.size, 0, none⟩) n n) := by rw [World.cell?_alloc_at _ _ _ _ hszl.symm]; rfl
          have hu := hu0
          have hc35 : Ext w3 ((w5.alloc (.cells (madeCells #[.int .i64 0] n) 2)).alloc (.cells #[.slice (some ⟨w5.heap.size, 0, none⟩) n n] 24)) := (grown_trans (grown_trans hg35 (World.grownBy_alloc w5 (.cells (madeCells #[.int .i64 0] n) 2) none)) (World.grownBy_alloc (w5.alloc (.cells (madeCells #[.int .i64 0] n) 2)) (.cells #[.slice (some ⟨w5.heap.size, 0, none⟩) n n] 24) none))
          have hc5 : Ext w5 ((w5.alloc (.cells (madeCells #[.int .i64 0] n) 2)).alloc (.cells #[.slice (some ⟨w5.heap.size, 0, none⟩) n n] 24)) := (grown_trans (grown_trans (grown_refl _ none) (World.grownBy_alloc w5 (.cells (madeCells #[.int .i64 0] n) 2) none)) (World.grownBy_alloc (w5.alloc (.cells (madeCells #[.int .i64 0] n) 2)) (.cells #[.slice (some ⟨w5.heap.size, 0, none⟩) n n] 24) none))
        rotate_left
        focus
          go_simp
          refine ko hKc (Near.of hA1) (fun hHeld => ?_)
          clear hKc Kc
          refine rd2 6 11 (fun Kc hKc => ?_) (fun Kc hKc => ?_)
          focus
            go_simp
            go_at_call 183
            refine Calls.mono (hown _ 1 hA1 hz1) ?_
            rintro e5 w5 ⟨a5, c5, vs, rfl, hg5, hg35, hvl6, hO5, hbb, HE5⟩
            go_wp2_with fail
            refine ko hKc (Near.of hg35) (fun hHeld => ?_)
            clear hKc Kc
            refine rd1 11 (fun Kc hKc => ?_)
            go_simp
            refine ko hKc (Near.of (grown_trans hg35 (World.grownBy_alloc w5 (.cells #[.slice (some ⟨w3.heap.size, 0, none⟩) n n] 24) none))) (fun hHeld => ?_)
            clear hKc Kc
            refine rd1 12 (fun Kc hKc => ?_)
            have hM0 : Ints (fun k => w3.heap.size ≤ k ∧ k = w3.heap.size) (w3.alloc (.cells (madeCells #[.int .i64 0] n) 2)) (.slice (some ⟨w3.heap.size, 0, none⟩) n n) (List.replicate n 0) := ints_of_own (own_mk_ints n (by omega) w3) (by simp; omega) (fun k hk => by have := own_blk hk; subst this; exact ⟨by first | exact Nat.le_refl _ | exact hg35.size, rfl⟩)
            have hM : Ints (fun k => w3.heap.size ≤ k ∧ k = w3.heap.size) (w5.alloc (.cells #[.slice (some ⟨w3.heap.size, 0, none⟩) n n] 24)) (.slice (some ⟨w3.heap.size, 0, none⟩) n n) (List.replicate n 0) := Ints.ext hM0 (grown_trans (grown_trans (grown_trans (grown_refl _ none) (grown_drew (w3.alloc (.cells (madeCells #[.int .i64 0] n) 2)) none)) (hg5)) (World.grownBy_alloc w5 (.cells #[.slice (some ⟨w3.heap.size, 0, none⟩) n n] 24) none))
            have hszl : w5.heap.size = w5.heap.size := rfl
            have hu0 : (w5.alloc (.cells #[.slice (some ⟨w3.heap.size, 0, none⟩) n n] 24)).cell? ⟨w5.heap.size, 0, none⟩ = some (.slice (some ⟨w3.heap.size, 0, none⟩) n n) := by rw [World.cell?_alloc_at _ _ _ _ hszl.symm]; rfl
            have hu := hu0
            have hc35 : Ext w3 (w5.alloc (.cells #[.slice (some ⟨w3.heap.size, 0, none⟩) n n] 24)) := (grown_trans hg35 (World.grownBy_alloc w5 (.cells #[.slice (some ⟨w3.heap.size, 0, none⟩) n n] 24) none))
            have hc5 : Ext w5 (w5.alloc (.cells #[.slice (some ⟨w3.heap.size, 0, none⟩) n n] 24)) := (grown_trans (grown_refl _ none) (World.grownBy_alloc w5 (.cells #[.slice (some ⟨w3.heap.size, 0, none⟩) n n] 24) none))
          rotate_left
          focus
            go_simp
            refine ko hKc (Near.of hA2) (fun hHeld => ?_)
            clear hKc Kc
            refine rd1 6 (fun Kc hKc => ?_)
            go_simp
            go_at_call 183
            refine Calls.mono (hown _ 2 hA2 hz2) ?_
            rintro e5 w5 ⟨a5, c5, vs, rfl, hg5, hg35, hvl6, hO5, hbb, HE5⟩
            go_wp2_with fail
            refine ko hKc (Near.of hg35) (fun hHeld => ?_)
            clear hKc Kc
            refine rd1 12 (fun Kc hKc => ?_)
            have hM0 : Ints (fun k => w3.heap.size ≤ k ∧ k = w3.heap.size) (w3.alloc (.cells (madeCells #[.int .i64 0] n) 2)) (.slice (some ⟨w3.heap.size, 0, none⟩) n n) (List.replicate n 0) := ints_of_own (own_mk_ints n (by omega) w3) (by simp; omega) (fun k hk => by have := own_blk hk; subst this; exact ⟨by first | exact Nat.le_refl _ | exact hg35.size, rfl⟩)
            have hM : Ints (fun k => w3.heap.size ≤ k ∧ k = w3.heap.size) w5 (.slice (some ⟨w3.heap.size, 0, none⟩) n n) (List.replicate n 0) := Ints.ext hM0 (grown_trans (grown_trans (grown_trans (grown_refl _ none) (World.grownBy_alloc (w3.alloc (.cells (madeCells #[.int .i64 0] n) 2)) (.cells #[.slice (some ⟨w3.heap.size, 0, none⟩) n n] 24) none)) (grown_drew ((w3.alloc (.cells (madeCells #[.int .i64 0] n) 2)).alloc (.cells #[.slice (some ⟨w3.heap.size, 0, none⟩) n n] 24)) none)) (hg5))
            have hszl : (w3.alloc (.cells (madeCells #[.int .i64 0] n) 2)).heap.size = w3.heap.size + 1 := by simp
            have hu0 : ((w3.alloc (.cells (madeCells #[.int .i64 0] n) 2)).alloc (.cells #[.slice (some ⟨w3.heap.size, 0, none⟩) n n] 24)).cell? ⟨w3.heap.size + 1, 0, none⟩ = some (.slice (some ⟨w3.heap.size, 0, none⟩) n n) := by rw [World.cell?_alloc_at _ _ _ _ hszl.symm]; rfl
            have hu : w5.cell? ⟨w3.heap.size + 1, 0, none⟩ = some (.slice (some ⟨w3.heap.size, 0, none⟩) n n) := hg5.cell hu0 (by simp)
            have hc35 : Ext w3 w5 := hg35
            have hc5 : Ext w5 w5 := (grown_refl _ none)
      rotate_left 3
      focus
        go_simp
        refine ko hKc (Near.of hA1) (fun hHeld => ?_)
        clear hKc Kc
        refine rd2 5 11 (fun Kc hKc => ?_) (fun Kc hKc => ?_)
        focus
          have f2 : (w3.alloc (.cells (madeCells #[.int .i64 0] n) 2)).drew.cell? ⟨g, 0, none⟩ = some (.slice ae R.length ce) := (hA1 : Ext w3 (w3.alloc (.cells (madeCells #[.int .i64 0] n) 2)).drew).cell hcr (by simp)
          go_simp
          refine ko hKc (Near.of hA1) (fun hHeld => ?_)
          clear hKc Kc
          refine rd2 6 11 (fun Kc hKc => ?_) (fun Kc hKc => ?_)
          focus
            go_simp
            go_at_call 183
            refine Calls.mono (hown _ 1 hA1 hz1) ?_
            rintro e5 w5 ⟨a5, c5, vs, rfl, hg5, hg35, hvl6, hO5, hbb, HE5⟩
            go_wp2_with fail
            refine ko hKc (Near.of hg35) (fun hHeld => ?_)
            clear hKc Kc
            refine rd1 11 (fun Kc hKc => ?_)
            go_simp
            refine ko hKc (Near.of (grown_trans hg35 (World.grownBy_alloc w5 (.cells #[.slice (some ⟨w3.heap.size, 0, none⟩) n n] 24) none))) (fun hHeld => ?_)
            clear hKc Kc
            refine rd1 12 (fun Kc hKc => ?_)
            have hM0 : Ints (fun k => w3.heap.size ≤ k ∧ k = w3.heap.size) (w3.alloc (.cells (madeCells #[.int .i64 0] n) 2)) (.slice (some ⟨w3.heap.size, 0, none⟩) n n) (List.replicate n 0) := ints_of_own (own_mk_ints n (by omega) w3) (by simp; omega) (fun k hk => by have := own_blk hk; subst this; exact ⟨by first | exact Nat.le_refl _ | exact hg35.size, rfl⟩)
            have hM : Ints (fun k => w3.heap.size ≤ k ∧ k = w3.heap.size) (w5.alloc (.cells #[.slice (some ⟨w3.heap.size, 0, none⟩) n n] 24)) (.slice (some ⟨w3.heap.size, 0, none⟩) n n) (List.replicate n 0) := Ints.ext hM0 (grown_trans (grown_trans (grown_trans (grown_refl _ none) (grown_drew (w3.alloc (.cells (madeCells #[.int .i64 0] n) 2)) none)) (hg5)) (World.grownBy_alloc w5 (.cells #[.slice (some ⟨w3.heap.size, 0, none⟩) n n] 24) none))
            have hszl : w5.heap.size = w5.heap.size := rfl
            have hu0 : (w5.alloc (.cells #[.slice (some ⟨w3.heap.size, 0, none⟩) n n] 24)).cell? ⟨w5.heap.size, 0, none⟩ = some (.slice (some ⟨w3.heap.size, 0, none⟩) n n) := by rw [World.cell?_alloc_at _ _ _ _ hszl.symm]; rfl
            have hu := hu0
            have hc35 : Ext w3 (w5.alloc (.cells #[.slice (some ⟨w3.heap.size, 0, none⟩) n n] 24)) := (grown_trans hg35 (World.grownBy_alloc w5 (.cells #[.slice (some ⟨w3.heap.size, 0, none⟩) n n] 24) none))
            have hc5 : Ext w5 (w5.alloc (.cells #[.slice (some ⟨w3.heap.size, 0, none⟩) n n] 24)) := (grown_trans (grown_refl _ none) (World.grownBy_alloc w5 (.cells #[.slice (some ⟨w3.heap.size, 0, none⟩) n n] 24) none))
          rotate_left
          focus
            go_simp
            refine ko hKc (Near.of hA2) (fun hHeld => ?_)
            clear hKc Kc
            refine rd1 6 (fun Kc hKc => ?_)
            go_simp
            go_at_call 183
            refine Calls.mono (hown _ 2 hA2 hz2) ?_
            rintro e5 w5 ⟨a5, c5, vs, rfl, hg5, hg35, hvl6, hO5, hbb, HE5⟩
            go_wp2_with fail
            refine ko hKc (Near.of hg35) (fun hHeld => ?_)
            clear hKc Kc
            refine rd1 12 (fun Kc hKc => ?_)
            have hM0 : Ints (fun k => w3.heap.size ≤ k ∧ k = w3.heap.size) (w3.alloc (.cells (madeCells #[.int .i64 0] n) 2)) (.slice (some ⟨w3.heap.size, 0, none⟩) n n) (List.replicate n 0) := ints_of_own (own_mk_ints n (by omega) w3) (by simp; omega) (fun k hk => by have := own_blk hk; subst this; exact ⟨by first | exact Nat.le_refl _ | exact hg35.size, rfl⟩)
            have hM : Ints (fun k => w3.heap.size ≤ k ∧ k = w3.heap.size) w5 (.slice (some ⟨w3.heap.size, 0, none⟩) n n) (List.replicate n 0) := Ints.ext hM0 (grown_trans (grown_trans (grown_trans (grown_refl _ none) (World.grownBy_alloc (w3.alloc (.cells (madeCells #[.int .i64 0] n) 2)) (.cells #[.slice (some ⟨w3.heap.size, 0, none⟩) n n] 24) none)) (grown_drew ((w3.alloc (.cells (madeCells #[.int .i64 0] n) 2)).alloc (.cells #[.slice (some ⟨w3.heap.size, 0, none⟩) n n] 24)) none)) (hg5))
            have hszl : (w3.alloc (.cells (madeCells #[.int .i64 0] n) 2)).heap.size = w3.heap.size + 1 := by simp
            have hu0 : ((w3.alloc (.cells (madeCells #[.int .i64 0] n) 2)).alloc (.cells #[.slice (some ⟨w3.heap.size, 0, none⟩) n n] 24)).cell? ⟨w3.heap.size + 1, 0, none⟩ = some (.slice (some ⟨w3.heap.size, 0, none⟩) n n) := by rw [World.cell?_alloc_at _ _ _ _ hszl.symm]; rfl
            have hu : w5.cell? ⟨w3.heap.size + 1, 0, none⟩ = some (.slice (some ⟨w3.heap.size, 0, none⟩) n n) := hg5.cell hu0 (by simp)
            have hc35 : Ext w3 w5 := hg35
            have hc5 : Ext w5 w5 := (grown_refl _ none)
        rotate_left 2
        focus
          go_simp
          refine ko hKc (Near.of hA2) (fun hHeld => ?_)
          clear hKc Kc
          refine rd1 5 (fun Kc hKc => ?_)
          have f2 : ((w3.alloc (.cells (madeCells #[.int .i64 0] n) 2)).alloc (.cells #[.slice (some ⟨w3.heap.size, 0, none⟩) n n] 24)).drew.cell? ⟨g, 0, none⟩ = some (.slice ae R.length ce) := (hA2 : Ext w3 ((w3.alloc (.cells (madeCells #[.int .i64 0] n) 2)).alloc (.cells #[.slice (some ⟨w3.heap.size, 0, none⟩) n n] 24)).drew).cell hcr (by simp)
          go_simp
          refine ko hKc (Near.of hA2) (fun hHeld => ?_)
          clear hKc Kc
          refine rd1 6 (fun Kc hKc => ?_)
          go_simp
          go_at_call 183
          refine Calls.mono (hown _ 2 hA2 hz2) ?_
          rintro e5 w5 ⟨a5, c5, vs, rfl, hg5, hg35, hvl6, hO5, hbb, HE5⟩
          go_wp2_with fail
          refine ko hKc (Near.of hg35) (fun hHeld => ?_)
          clear hKc Kc
          refine rd1 12 (fun Kc hKc => ?_)
          have hM0 : Ints (fun k => w3.heap.size ≤ k ∧ k = w3.heap.size) (w3.alloc (.cells (madeCells #[.int .i64 0] n) 2)) (.slice (some ⟨w3.heap.size, 0, none⟩) n n) (List.replicate n 0) := ints_of_own (own_mk_ints n (by omega) w3) (by simp; omega) (fun k hk => by have := own_blk hk; subst this; exact ⟨by first | exact Nat.le_refl _ | exact hg35.size, rfl⟩)
          have hM : Ints (fun k => w3.heap.size ≤ k ∧ k = w3.heap.size) w5 (.slice (some ⟨w3.heap.size, 0, none⟩) n n) (List.replicate n 0) := Ints.ext hM0 (grown_trans (grown_trans (grown_trans (grown_refl _ none) (World.grownBy_alloc (w3.alloc (.cells (madeCells #[.int .i64 0] n) 2)) (.cells #[.slice (some ⟨w3.heap.size, 0, none⟩) n n] 24) none)) (grown_drew ((w3.alloc (.cells (madeCells #[.int .i64 0] n) 2)).alloc (.cells #[.slice (some ⟨w3.heap.size, 0, none⟩) n n] 24)) none)) (hg5))
          have hszl : (w3.alloc (.cells (madeCells #[.int .i64 0] n) 2)).heap.size = w3.heap.size + 1 := by simp
          have hu0 : ((w3.alloc (.cells (madeCells #[.int .i64 0] n) 2)).alloc (.cells #[.slice (some ⟨w3.heap.size, 0, none⟩) n n] 24)).cell? ⟨w3.heap.size + 1, 0, none⟩ = some (.slice (some ⟨w3.heap.size, 0, none⟩) n n) := by rw [World.cell?_alloc_at _ _ _ _ hszl.symm]; rfl
          have hu : w5.cell? ⟨w3.heap.size + 1, 0, none⟩ = some (.slice (some ⟨w3.heap.size, 0, none⟩) n n) := hg5.cell hu0 (by simp)
          have hc35 : Ext w3 w5 := hg35
          have hc5 : Ext w5 w5 := (grown_refl _ none)
      all_goals
        have hOc := World.ownsRow.kept hO5 hc5 (by cases hv : (Value.slice a5 vs.length c5).ownBlock <;> simp)
        refine step_app_rowH (by rfl) _ _ (by rfl) w3.heap.size _ vs (by rfl) hOc _ _ (by rfl) ⟨hu, rfl⟩ (by omega) hc35.size ?_
        intro v6 w6 hO6 hg6 hat6
        have hg36 : Ext w3 w6 := grown_own hc35 hg6 (fun j hj hlt => by have := (hO5.lt j hj).1; omega)
        have hRows6 := rows_app (L := R) (y := List.replicate n 0) hO6 HE5.out.2 (by omega) HE5.out.1 hc5 hg6 hM (fun k hk => ⟨hk.1, fun e => by have h1 := hbb k e; have h2 := (hO5.lt k e).2; omega⟩)
        obtain ⟨a6, c6, hv6, _⟩ : ∃ a c, v6 = .slice a (vs.length + 1) c ∧ True := by
          rcases hO6.form with ⟨h1, h2⟩ | ⟨g5, cap5, h1, _⟩
          · simp at h2
          · exact ⟨_, _, by rw [h1, hll], trivial⟩
        subst hv6
        have r1 := hg36.cell hcr (by simp)
        have r2 := (World.frozen?_of_block (a := ⟨g, 0, none⟩) (hg36.block g hgl (by simp))).trans hfg
        refine ko hKc (Near.of hg36) (fun hHeld => ?_)
        clear hKc Kc
        refine tk 13 ?_
        refine rd1 14 (fun Kc hKc => ?_)
        go_simp
        refine ko hKc (Near.store hg36) (fun hHeld => ?_)
        clear hKc Kc
        refine wpAnyH_done (by kernel_rfl) ?_ _
        clear r1 r2 hmk e0 e1 hown hA0 hA1 hA2 hll hz0 hz1 hz2
        have hT := grown_set1 w6 g 0 (.slice a6 (vs.length + 1) c6)
        have hb7 := (hbQ3.ext hg36).moved hT (by omega)
        have hbR7 := (hbR3.ext hg36).moved hT (by omega)
        have hg7 := grown_own (grown_trans hgw3 (grown_of_ext (some sb) hg36)) hT (fun j hj hlt => by have := Option.some.inj hj; omega)
        have hs7 := (HX3.out.2.1.ext hg36).own hT (fun k hk => by have := Option.some.inj hk; omega)
        have hP7 := HX3.out.1.putRow 0 hn1 HX3.out.2.2.2.2 hg36 hRows6
        have HF := Lib.hid (And.intro hb7 (And.intro hbR7 (And.intro hg7 (And.intro hs7 hP7)))); clear hb7 hbR7 hg7 hs7 hP7 hT hRows6
        go_wp2_with fail
        go_meet
        obtain ⟨hb7, hbR7, hg7, hs7, Q7, hq7, hP7⟩ := HF.out
        exact ⟨_, _, _, _, _, _, _, _, _, _, hb7, hbR7, hg7, hs7, (by rw [hq7, ← HX3.out.2.2.1]; omega), (OrdLe.same hq7), hP7.mono (fun k hk hlt => ⟨by rcases hk with hk | hk <;> omega, hlt, rfl⟩)⟩
  · go_wp2_with fail
    have hgL5 : Ext w3 (w3.alloc (.cells #[.int .i64 7, .int .i64 7, .int .i64 7, .int .i64 7] 2)) := World.grownBy_alloc _ _ _
    have hL5 : Ints Any (w3.alloc (.cells #[.int .i64 7, .int .i64 7, .int .i64 7, .int .i64 7] 2)) (.slice (some ⟨w3.heap.size, 0, none⟩) 4 4) [7, 7, 7, 7] := Ints.sub (ints_litL w3 [7, 7, 7, 7] (by simp)) (fun _ _ _ => trivial)
    have hsL5 : (w3.alloc (.cells #[.int .i64 7, .int .i64 7, .int .i64 7, .int .i64 7] 2)).heap.size = w3.heap.size + 1 := by simp
    refine Calls.mono (l07Trivial_ok _ _ [7, 7, 7, 7] _ hL5 (by simp)) ?_
    rintro e5 w5 ⟨v5, rfl, hg5, uo5, up5, uc5, rfl, hX5⟩
    obtain ⟨x15, z15, x25, z25, x35, z35, rfl, rfl, rfl⟩ := trivX_shape hX5
    have hgT5 := grown_trans hgL5 hg5
    have hsz5 := hgT5.size
    have hbQ5 := hbQ3.ext hgT5
    have hbR5 := hbR3.ext hgT5
    obtain ⟨q0, q1, q2, q3, q4⟩ := id hbQ5
    have hT5 := grown_set3 w5 qb (.slice x15 4 z15) (.slice x25 4 z25) (.slice x35 4 z35)
    have hbS5 := hbQ5.all (.slice x15 4 z15) (.slice x25 4 z25) (.slice x35 4 z35)
    have hbU5 := hbR5.moved hT5 (by omega)
    have hP5 : Pres3 (fun k => w.heap.size + 2 ≤ k) (((w5.setCell ⟨qb, 0, none⟩ (.slice x15 4 z15)).setCell ⟨qb, 1, none⟩ (.slice x25 4 z25)).setCell ⟨qb, 2, none⟩ (.slice x35 4 z35)) (.slice x15 4 z15) (.slice x25 4 z25) (.slice x35 4 z35) (trivP [7, 7, 7, 7]) :=
      hX5.p3.mono (fun k hk hlt => by
        have hk : (w3.alloc (.cells #[.int .i64 7, .int .i64 7, .int .i64 7, .int .i64 7] 2)).heap.size ≤ k := hk
        exact ⟨by omega, Nat.lt_of_lt_of_le hlt hT5.size, hT5.block k hlt (fun e => by have := Option.some.inj e; omega)⟩)
    clear hX5 hL5 hsL5 hg5 hgL5 hbQ5 hbR5
    have hg35 := grown_own (grown_trans hgw3 (grown_of_ext (some sb) hgT5)) hT5 (fun j hj hlt => by have := Option.some.inj hj; omega)
    have hs5 := (HX3.out.2.1.ext hgT5).own hT5 (fun k hk => by have := Option.some.inj hk; omega)
    have hsq5 := hT5.size
    have HF := Lib.hid (And.intro hP5 (And.intro hg35 hs5)); clear hP5 hg35 hs5 hT5
    go_wp2_with fail
    generalize ((w5.setCell ⟨qb, 0, none⟩ (.slice x15 4 z15)).setCell ⟨qb, 1, none⟩ (.slice x25 4 z25)).setCell ⟨qb, 2, none⟩ (.slice x35 4 z35) = w6 at *
    refine Calls.mono (l01Next_ok B0 w6 sb 2 HF.out.2.2) ?_
    rintro e7 w7 ⟨v7, rfl, hg7, y, rfl, _, _, hs7⟩
    have hb7 := hbS5.moved hg7 (by omega)
    have hbR7 := hbU5.moved hg7 (by omega)
    have hgw7 := grown_trans HF.out.2.1 hg7
    have hP7 : Pres3 (fun k => w.heap.size + 2 ≤ k) w7 (.slice x15 4 z15) (.slice x25 4 z25) (.slice x35 4 z35) (trivP [7, 7, 7, 7]) := HF.out.1.mono (fun k hk hlt => ⟨hk, Nat.lt_of_lt_of_le hlt hg7.size, hg7.block k hlt (fun e => by have := Option.some.inj e; omega)⟩)
    have hsz7 := hg7.size
    clear HF hbS5 hbU5 hg7
    by_cases hy : y = 0
    · have hyb : (y == 0) = true := by simp [hy]
      clear hy
      go_wp2_with fail
      have hgL8 : Ext w7 (w7.alloc (.cells #[.int .i64 2, .int .i64 2, .int .i64 2, .int .i64 2, .int .i64 2, .int .i64 2, .int .i64 2] 2)) := World.grownBy_alloc _ _ _
      have hL8 : Ints Any (w7.alloc (.cells #[.int .i64 2, .int .i64 2, .int .i64 2, .int .i64 2, .int .i64 2, .int .i64 2, .int .i64 2] 2)) (.slice (some ⟨w7.heap.size, 0, none⟩) 7 7) [2, 2, 2, 2, 2, 2, 2] := Ints.sub (ints_litL w7 [2, 2, 2, 2, 2, 2, 2] (by simp)) (fun _ _ _ => trivial)
      have hsL8 : (w7.alloc (.cells #[.int .i64 2, .int .i64 2, .int .i64 2, .int .i64 2, .int .i64 2, .int .i64 2, .int .i64 2] 2)).heap.size = w7.heap.size + 1 := by simp
      refine Calls.mono (l07Trivial_ok _ _ [2, 2, 2, 2, 2, 2, 2] _ hL8 (by simp)) ?_
      rintro e8 w8 ⟨v8, rfl, hg8, uo8, up8, uc8, rfl, hX8⟩
      obtain ⟨x18, z18, x28, z28, x38, z38, rfl, rfl, rfl⟩ := trivX_shape hX8
      have hgT8 := grown_trans hgL8 hg8
      have hsz8 := hgT8.size
      have hbQ8 := hb7.ext hgT8
      have hbR8 := hbR7.ext hgT8
      obtain ⟨q0, q1, q2, q3, q4⟩ := id hbQ8
      have hT8 := grown_set3 w8 qb (.slice x18 7 z18) (.slice x28 7 z28) (.slice x38 7 z38)
      have hbS8 := hbQ8.all (.slice x18 7 z18) (.slice x28 7 z28) (.slice x38 7 z38)
      have hbU8 := hbR8.moved hT8 (by omega)
      have hP8 : Pres3 (fun k => w.heap.size + 2 ≤ k) (((w8.setCell ⟨qb, 0, none⟩ (.slice x18 7 z18)).setCell ⟨qb, 1, none⟩ (.slice x28 7 z28)).setCell ⟨qb, 2, none⟩ (.slice x38 7 z38)) (.slice x18 7 z18) (.slice x28 7 z28) (.slice x38 7 z38) (trivP [2, 2, 2, 2, 2, 2, 2]) :=
        hX8.p3.mono (fun k hk hlt => by
          have hk : (w7.alloc (.cells #[.int .i64 2, .int .i64 2, .int .i64 2, .int .i64 2, .int .i64 2, .int .i64 2, .int .i64 2] 2)).heap.size ≤ k := hk
          exact ⟨by omega, Nat.lt_of_lt_of_le hlt hT8.size, hT8.block k hlt (fun e => by have := Option.some.inj e; omega)⟩)
      clear hX8 hL8 hsL8 hg8 hgL8 hbQ8 hbR8
      have hg8 := grown_own (grown_trans hgw7 (grown_of_ext (some sb) hgT8)) hT8 (fun j hj hlt => by have := Option.some.inj hj; omega)
      have hs8 := (hs7.ext hgT8).own hT8 (fun k hk => by have := Option.some.inj hk; omega)
      have HF := Lib.hid (And.intro hP8 (And.intro hg8 (And.intro hs8 (And.intro hbS8 hbU8)))); clear hP8 hg8 hs8 hT8 hbS8 hbU8
      go_wp2_with fail
      go_meet
      exact ⟨_, _, _, _, _, _, _, _, _, _, HF.out.2.2.2.1, HF.out.2.2.2.2, HF.out.2.1, HF.out.2.2.1, by decide, (by exact fun h => absurd h.n6 (by decide)), HF.out.1⟩
    · have hyb : (y == 0) = false := by simp [hy]
      clear hy
      go_wp2_with fail
      go_meet
      exact ⟨_, _, _, _, _, _, _, _, _, _, hb7, hbR7, hgw7, hs7, by decide, (by exact fun h => absurd h.le729 (by decide)), hP7⟩

end Go.Proofs.YtoakmefajbbggaaGreat
