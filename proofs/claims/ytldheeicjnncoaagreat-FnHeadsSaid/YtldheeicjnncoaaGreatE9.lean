/-
  impl.normalCode.
  impl.memberExponents, memberElement.
  impl.quotientPresentation, QuotientPresentation.
  impl.subgroupPresentation, SubgroupPresentation.
  impl.SubgroupPresentation (printed by gen_wrap.py).
  impl.QuotientPresentation (printed by gen_wrap.py).
  Drawing: a presentation under way in a variable, of which only the shape counts.
  A power or a conjugate is put into a presentation that may be written: what can be read behind it.
  Drawing: spec.l07Own.
  Drawing: spec.l02Times, spec.l02Product.
-/
import Derived.Test.YtldheeicjnncoaaGreatE1
import Derived.Test.YtldheeicjnncoaaGreatE2
import Derived.Test.YtldheeicjnncoaaGreatE5
import Derived.Test.YtldheeicjnncoaaGreatE6
import Derived.Test.YtldheeicjnncoaaGreatE7
import Derived.Test.YtldheeicjnncoaaGreatE8
import Derived.Deep.RegionHeld3
import Derived.Deep.RegionLaw
namespace Go.Proofs.YtldheeicjnncoaaGreat
open Go.RowKit

open Classical in
noncomputable def cpnC (P : Pr) (U : List (List Int)) : Int := if rconsB P = true ∧ SubB P U then (if NormG P (gU P U) (cseq P (gU P U)) then 0 else 5) else 1
theorem cpn_bad {P : Pr} {U : List (List Int)} (h : ¬ (rconsB P = true ∧ SubB P U)) : cpnC P U = 1 := by unfold cpnC; rw [if_neg h]
theorem cpn_not {P : Pr} {U : List (List Int)} (h : rconsB P = true ∧ SubB P U) (h2 : ¬ NormG P (gU P U) (cseq P (gU P U))) : cpnC P U = 5 := by unfold cpnC; rw [if_pos h, if_neg h2]
theorem cpn_ok {P : Pr} {U : List (List Int)} (h : rconsB P = true ∧ SubB P U) (h2 : NormG P (gU P U) (cseq P (gU P U))) : cpnC P U = 0 := by unfold cpnC; rw [if_pos h, if_pos h2]
set_option maxRecDepth 100000 in
set_option maxHeartbeats 2000000 in
theorem normalCode_ok (P : Pr) (w : World) (p uv : Value) (U : List (List Int)) (Sp Su : Nat → Prop) (hp : PresP Sp w p P) (hu : Rows2 Su w uv U) :
    Calls Tryz.prog 95 #[p, uv] w (Ret w fun _ v => v = .int .i64 (cpnC P U)) := by
  obtain ⟨pb, po, rfl⟩ := hp.shape
  obtain ⟨au, capu, rfl, _, _⟩ := Sl.shape hu
  have hg1 : Ext w (w.alloc (.cells #[.slice au U.length capu] 25)) := World.grownBy_alloc _ _ _
  have hcon := areSubgroups_ok P _ _ _ [U] Sp Any (hp.ext hg1) (rows3One hu)
  go_enter Tryz.func95, Tryz.ntmps95
  go_wp2_with fail
  refine Calls.mono hcon ?_
  rintro e1 w1 ⟨v1, rfl, hgA, r1, rfl, hr1⟩
  clear hcon
  have hr1 : r1 = true ↔ rconsB P = true ∧ SubB P U := by rw [hr1]; simp
  have hg01 := grown_trans hg1 hgA
  cases r1 with
  | false =>
    have hc := cpn_bad (P := P) (U := U) (fun h => by have := hr1.2 h; cases this)
    have HC := Lib.hid hc; clear hc hr1
    go_wp2
    go_ret
    exact ⟨_, rfl, hg01, by rw [HC.out]; rfl⟩
  | true =>
    have hok := hr1.1 rfl
    have G := grp_of_r hok.1
    have hU := hok.2.2
    have hu1 : Rows2 Su w1 (.slice au U.length capu) (cseq P (gU P U)) := by
      have e : cseq P (gU P U) = U := hU.symm
      rw [e]; exact Rows2.ext hu hg01
    have hin := isNormal_ok P G w1 _ _ (gU P U) _ Su (G.subB hok.2) (hp.ext hg01) hu1
    have HOK := Lib.hid hok; clear hr1 hok hU hu1
    go_wp2_with fail
    refine Calls.mono hin ?_
    rintro e2 w2 ⟨v2, rfl, hg2, r2, rfl, hr2⟩
    clear hin
    cases r2 with
    | false =>
      have hc := cpn_not HOK.out (fun h => by have := hr2.2 h; cases this)
      have HC := Lib.hid hc; clear hc hr2
      go_wp2
      go_ret
      exact ⟨_, rfl, grown_trans hg01 hg2, by rw [HC.out]; rfl⟩
    | true =>
      have hc := cpn_ok HOK.out (hr2.1 rfl)
      have HC := Lib.hid hc; clear hc hr2
      go_wp2
      go_ret
      exact ⟨_, rfl, grown_trans hg01 hg2, by rw [HC.out]; rfl⟩

end Go.Proofs.YtldheeicjnncoaaGreat
namespace Go.Proofs.YtldheeicjnncoaaGreat
open Go.RowKit

theorem exP_pw {P : Pr} (G : Grp P) {a : List Int} (ha : Vec P.orders a) (k : Int) : iPow P a k = pw P a k.toNat := by
  rw [G.iPow_eq ha]
  have : ∀ n : Nat, iter n (fun y => rMul P y a) (zeros P.orders.length) = pw P a n := fun n => by
    induction n with
    | zero => rfl
    | succ n ih => rw [pw_succ, ← ih]; rfl
  exact this _

set_option maxRecDepth 100000 in
set_option maxHeartbeats 4000000 in
theorem memExp_ok (P : Pr) (G : Grp P) (w : World) (p uv xv : Value) (H : List Int → Prop) (X : List Int) (Sp Su Sx : Nat → Prop) (S : Sub P H) (hp : PresP Sp w p P) (hu : Rows2 Su w uv (cseq P H)) (hx : Ints Sx w xv X) (hX : H X) :
    Calls Tryz.prog 169 #[p, uv, xv] w (Ret w fun w' v => ∃ a n c out, v = .tuple #[.slice a n c, .bool true] ∧ Own w.heap.size w' (.slice a n c) out ∧ Mex P (cseq P H) H X (cseq P H).length out (zeros P.orders.length)) := by
  have hP := G.v
  have hn6 := hP.n6
  have hl := G.cseq_len S
  have hf := G.seq_facts S
  obtain ⟨U, hUe⟩ : ∃ U, U = cseq P H := ⟨_, rfl⟩
  rw [← hUe] at hu hl hf ⊢
  obtain ⟨pb, po, rfl⟩ := hp.shape
  obtain ⟨au, capu, rfl, _, _⟩ := Sl.shape hu
  obtain ⟨ax, capx, rfl, _, _⟩ := hx.shape
  have hUz : ∀ z ∈ U, dep z < z.length := fun z hz => by have := hf.1.1 z hz; rw [this.1.1]; exact this.2.1
  have hx0 : Ints (fun k => (Value.slice none 0 0).ownBlock ≠ some k) w (.slice ax X.length capx) X := Ints.sub hx (fun _ _ _ => by simp [Value.ownBlock])
  have hm0 : Mex P (cseq P H) H X 0 [] X := Mex.zero G (S.vec X hX) hX
  have HU := Lib.hid (And.intro hf (And.intro hUe hm0)); clear hf hUe hm0 hx
  go_enter Tryz.func169, Tryz.ntmps169
  go_wp2_with fail
  refine Calls.mono (pivots_ok _ U w Su hu hUz (by omega)) ?_
  rintro e1 w1 ⟨pv, rfl, hg1, hV1⟩
  have hpvs : ∃ az capz, pv = .slice az U.length capz := by
    rcases hV1.form with ⟨h1, h2⟩ | ⟨g, cp, h1, _⟩
    · have h3 : U.length = 0 := by unfold depV at h2; rw [List.map_eq_nil_iff] at h2; rw [h2]; rfl
      exact ⟨none, 0, by rw [h1, h3]⟩
    · exact ⟨_, _, by rw [h1]; unfold depV; rw [List.length_map]⟩
  obtain ⟨ap, capp, rfl⟩ := hpvs
  have hx1 := Ints.ext hx0 hg1
  have hVx : ∀ w', Ext w1 w' → OwnV w.heap.size 3 w' (.slice ap U.length capp) (depV U) := fun w' h => hV1.kept h (by cases (Value.slice ap U.length capp).ownBlock <;> simp)
  have HV := Lib.hid hVx; clear hV1 hVx hx0
  go_wp2
  go_loopw [2, 8, 15] (fun xv ov iv wr => ∃ (i : Nat) (out x : List Int) (v2 v8 : Value), v2 = xv ∧ v8 = ov ∧ iv = .int .i64 i ∧ i ≤ U.length ∧ Ext w1 wr ∧ Own w1.heap.size wr v8 out ∧ Ints (fun k => v8.ownBlock ≠ some k) wr v2 x ∧ Hid (Mex P (cseq P H) H X i out x)) (fun _ _ iv _ => U.length - (intOf iv).toNat)
  case atStart => exact ⟨0, [], X, _, _, rfl, rfl, rfl, by omega, Ext.refl _, Own.of (World.ownsRow_nil _ _ _ _), hx1, Lib.hid HU.out.2.2⟩
  case round =>
    clear hx1
    obtain ⟨i, out, x, v2, v8, rfl, rfl, rfl, hi, hg, hO, hxr, hM⟩ := hrel
    have hgw := grown_trans hg1 hg
    obtain ⟨ax2, nx2, capx2, hvx2⟩ : ∃ a n c, v2 = Value.slice a n c := by obtain ⟨a, c, e, _⟩ := hxr.shape; exact ⟨_, _, _, e⟩
    have hxV := S.vec x hM.out.mem
    have hol := hM.out.len
    have hoB : ∀ k, v8.ownBlock = some k → w1.heap.size ≤ k := fun k hk => (hO.lt k hk).1
    by_cases hlt : i < U.length
    · have hlt' : (i : Int) < U.length := by omega
      have hdi : gt (depV U) i = .int .i64 (dep (gt U i)) := by unfold depV; rw [gt_map _ _ _ hlt]
      have hV := HV.out wr hg
      have hpf : ∃ g, ap = some ⟨g, 0, none⟩ := by
        rcases hV.form with ⟨h1, h2⟩ | ⟨g, cp, h1, _⟩
        · unfold depV at h2; rw [List.map_eq_nil_iff] at h2; rw [h2] at hlt; simp at hlt
        · simp only [Value.slice.injEq] at h1; exact ⟨g, h1.1⟩
      obtain ⟨gp, rfl⟩ := hpf
      have hcp := hV.cell i (by unfold depV; rw [List.length_map]; exact hlt)
      rw [hdi] at hcp
      clear hdi hV
      obtain ⟨u, hue⟩ : ∃ u, u = gt U i := ⟨_, rfl⟩
      have hstep := Mex.step G S hM.out (by rw [← HU.out.2.1]; exact hlt)
      rw [← HU.out.2.1, ← hue] at hstep
      obtain ⟨hu1, hu2, hu3⟩ := HU.out.1.1.1 _ (gtMem hlt)
      obtain ⟨bb, off, a3, c3, rfl, _, _, hcu, hru⟩ := Rows2.at hu i hlt
      rw [← hue] at hu1 hu2 hu3 hcu hru hcp
      obtain ⟨d, hd⟩ : ∃ d, d = dep u := ⟨_, rfl⟩
      rw [← hd] at hcp hstep hu2 hu3
      have hxl : d < x.length := by rw [hxV.1]; exact hu2
      have hxi : Ints (fun k => v8.ownBlock ≠ some k) wr (.slice ax2 nx2 capx2) x := hvx2 ▸ hxr
      have hnx : nx2 = x.length := by obtain ⟨a, c, e, _⟩ := hxi.shape; injection e
      subst hnx
      obtain ⟨xb, xo, rfl, hxS, hxbl, hcx⟩ := Ints.at hxi d hxl
      have hxd := hxV.2 d hu2
      have ho7 := hP.ord7 d hu2
      have hdl : (d : Int) < x.length := by omega
      obtain ⟨e, hee⟩ : ∃ e, e = gt x d := ⟨_, rfl⟩
      rw [← hee] at hcx hstep hxd
      subst hvx2
      have hel : e ≤ 1000000000 := by omega
      have HST := Lib.hid (And.intro hstep (And.intro hu1 hxV)); clear hstep hu1 hu2 hu3 hxV hee hd hue hxr hxd ho7
      go_wp2_with (first | (at_builtin; refine wp_app_intb rfl _ _ rfl w1.heap.size v8 out e rfl wr hO rfl rfl (by omega) hg.size ?_; intro v9 w9 hO9 hg9 hb9; have hgw9 : Ext w w9 := grown_own hgw hg9 (fun j hj hlt => by have := hoB j hj; have := hg1.size; omega); have hcr9 := hgw9.cell hcu (by simp)) | fail)
      have hg19 : Ext w1 w9 := grown_own hg hg9 (fun j hj hlt => by have := hoB j hj; omega)
      have hx9 : Ints (fun k => v9.ownBlock ≠ some k) w9 (.slice (some ⟨xb, xo, none⟩) x.length capx2) x := Ints.mono hxi (fun k hk hlt => ⟨fun h9 => by
        rcases hb9 with h | h
        · rw [h] at h9; exact hk h9
        · have := h k h9; omega, Nat.lt_of_lt_of_le hlt hg9.size, hg9.block k hlt (fun h => hk h.symm)⟩)
      refine Calls.mono (power_ok P hP w9 _ _ u e Sp Su (hp.ext hgw9) (Ints.ext hru hgw9) HST.out.2.1 hel) ?_
      rintro e2 w2 ⟨v2, rfl, hg2, hO2⟩
      clear hcr9 hcx hcp
      rw [exP_pw G HST.out.2.1] at hO2
      have hpV := G.pw_vec HST.out.2.1 e.toNat
      have hI2 := hO2.ints (by rw [hpV.1]; omega)
      obtain ⟨a4, n4, c4, hv4⟩ : ∃ a n c, v2 = Value.slice a n c := by obtain ⟨a, c, e, _⟩ := hI2.shape; exact ⟨_, _, _, e⟩
      subst hv4
      have HPV := Lib.hid hpV; clear hpV
      have hgw2 := grown_trans hgw9 hg2
      go_wp2_with fail
      refine Calls.mono (invert_ok P hP w2 _ _ (pw P u e.toNat) Sp _ (hp.ext hgw2) hI2 HPV.out) ?_
      rintro e3 w3 ⟨v3, rfl, hg3, hO3⟩
      rw [G.iInv_eq HPV.out] at hO3
      have hiV := G.invV HPV.out
      have hI3 := hO3.ints (by rw [hiV.1]; omega)
      obtain ⟨a5, n5, c5, hv5⟩ : ∃ a n c, v3 = Value.slice a n c := by obtain ⟨a, c, e, _⟩ := hI3.shape; exact ⟨_, _, _, e⟩
      subst hv5
      have HIV := Lib.hid hiV; clear hiV hI2
      have hg93 := grown_trans hg2 hg3
      have hgw3 := grown_trans hgw2 hg3
      go_wp2_with fail
      refine Calls.mono (multiply_ok P hP w3 _ _ _ (rInv P (pw P u e.toNat)) x Sp _ _ (hp.ext hgw3) hI3 (Ints.ext hx9 hg93) HIV.out HST.out.2.2) ?_
      rintro e4 w4 ⟨v4, rfl, hg4, hO4⟩
      rw [G.tv_eq HIV.out HST.out.2.2] at hO4
      have hmV := G.mulV HIV.out HST.out.2.2
      have hob9 : ∀ k, v9.ownBlock = some k → k < w9.heap.size := fun k hk => (hO9.lt k hk).2
      have hs93 := hg93.size
      have hI4 := ints_of_own (S := fun k => v9.ownBlock ≠ some k) hO4 (by rw [hmV.1]; omega) (fun k hk h9 => by have := (hO4.lt k hk).1; have := hob9 k h9; omega)
      have hg94 := grown_trans hg93 hg4
      have HF := Lib.hid (And.intro hI4 (And.intro (hO9.ext0 hg94) (grown_trans hg19 hg94))); clear hI4 hO4 hmV hob9 hI3 hx9 hO9 hO3 hO2
      go_wp2
      go_roundw
      case rel => exact ⟨i + 1, out ++ [e], _, v4, v9, rfl, rfl, by go_num, by omega, HF.out.2.2, HF.out.2.1, HF.out.1, Lib.hid (by rw [← HU.out.2.1]; exact HST.out.1)⟩
      case measure => simp [intOf]; omega
    · have hie : i = U.length := by omega
      subst hie
      have hM' := hM.out
      rw [HU.out.2.1] at hM'
      have hdn := Mex.done G S hM'
      have HD := Lib.hid (And.intro hdn hM'); clear hM' hdn
      obtain ⟨ao, no, co, hvo⟩ : ∃ a n c, v8 = Value.slice a n c := by obtain ⟨a, c, e, _⟩ := (hO.ints (by omega)).shape; exact ⟨_, _, _, e⟩
      subst hvo
      have hz := isZero_ok v2 x wr _ hxr
      rw [hvx2] at hz
      subst hvx2
      have hzb : isZeroB x = true := (isZeroB_zeros hxV).2 HD.out.1.1
      rw [hzb] at hz
      go_wp2_with fail
      refine Calls.mono hz ?_
      rintro _ _ ⟨rfl, rfl⟩
      go_wp2
      go_ret2
      exact ⟨_, rfl, hgw, ao, no, co, out, rfl, hO.weak hg1.size, by rw [← HD.out.1.1, HU.out.2.1]; exact HD.out.2⟩

end Go.Proofs.YtldheeicjnncoaaGreat
namespace Go.Proofs.YtldheeicjnncoaaGreat
open Go.RowKit
attribute [local go_sem ↓] Go.wp_at_zero Go.wp_at_succ

/-- the first rows of a presentation -/
def cutQ (Q : Pr) (j : Nat) : Pr := ⟨Q.orders.take j, Q.powers.take j, Q.conj.take j⟩
theorem cutQ_all {Q : Pr} {j : Nat} (h0 : Q.orders.length ≤ j) (h1 : Q.powers.length ≤ j) (h2 : Q.conj.length ≤ j) : cutQ Q j = Q := by
  unfold cutQ
  rw [List.take_of_length_le h0, List.take_of_length_le h1, List.take_of_length_le h2]
theorem quo_at {P : Pr} {U : List (List Int)} {k : Nat} (hk : k < (frI P U).length) :
    (quoP P U).orders.take (k + 1) = (quoP P U).orders.take k ++ [gt P.orders (gt (frI P U) k)] ∧
    (quoP P U).powers.take (k + 1) = (quoP P U).powers.take k ++ [prjV P U (pw P (unitV P.orders.length (gt (frI P U) k)) (gt P.orders (gt (frI P U) k)).toNat)] ∧
    (quoP P U).conj.take (k + 1) = (quoP P U).conj.take k ++ [((frI P U).drop (k + 1)).map (fun j => prjV P U (rConj P (unitV P.orders.length j) (unitV P.orders.length (gt (frI P U) k))))] := by
  refine ⟨?_, ?_, ?_⟩
  · show ((frI P U).map _).take (k + 1) = ((frI P U).map _).take k ++ _
    rw [take_succ_gt _ k (by rw [List.length_map]; exact hk), gt_map _ _ _ hk]
  · show ((frI P U).map _).take (k + 1) = ((frI P U).map _).take k ++ _
    rw [take_succ_gt _ k (by rw [List.length_map]; exact hk), gt_map _ _ _ hk]
  · show ((List.range _).map _).take (k + 1) = ((List.range _).map _).take k ++ _
    rw [take_succ_gt _ k (by rw [List.length_map, List.length_range]; exact hk), gt_map _ _ _ (by rw [List.length_range]; exact hk), gt_range hk]

theorem run_tail_int (w : World) (a : Option Addr) (n cap : Nat) (k : Int) (h0 : 0 ≤ k) (h1 : k ≤ n) :
    (Instr.slice 170 (.slice a n cap) (some (.int .i64 k)) none none).run Tryz.prog w = .ok (subSl (.slice a n cap) k.toNat n) w := by
  rw [run_slice_l w 170 a n cap (by kernel_rfl) .i64 k h0 h1]
  have : (sizeOf (Tryz.prog.elem 170)).run Tryz.prog w = .ok 1 w := by kernel_rfl
  rw [this]
  simp [Result.andThen, sliced, subSl]

set_option maxRecDepth 100000 in
set_option maxHeartbeats 8000000 in
theorem quoPres_ok (P : Pr) (hr : rconsB P = true) (w : World) (p uv : Value) (U : List (List Int)) (Sp Su : Nat → Prop) (hp : PresP Sp w p P) (hu : Rows2 Su w uv U) (hU : SubB P U) :
    Calls Tryz.prog 96 #[p, uv] w (Ret w (PresR w.heap.size (quoP P U))) := by
  have G := grp_of_r hr
  have hn6 := G.v.n6
  obtain ⟨hS, hul, hUz⟩ := sub_dep G hU
  clear hS
  have hfl := fr_len P U
  obtain ⟨pb, po, rfl⟩ := hp.shape
  obtain ⟨au, capu, rfl, _, _⟩ := Sl.shape hu
  have hg0 : Ext w ((w.alloc (.cells #[.slice none 0 0, .slice none 0 0, .slice none 0 0] 28)).alloc (.cells #[.slice none 0 0, .slice none 0 0, .slice none 0 0] 28)) := grown_trans (World.grownBy_alloc _ _ _) (World.grownBy_alloc _ _ _)
  have hA0 := (Box3.made w 28 (.slice none 0 0) (.slice none 0 0) (.slice none 0 0)).ext (World.grownBy_alloc _ (.cells #[.slice none 0 0, .slice none 0 0, .slice none 0 0] 28) none)
  have hR0 := Box3.made (w.alloc (.cells #[.slice none 0 0, .slice none 0 0, .slice none 0 0] 28)) 28 (.slice none 0 0) (.slice none 0 0) (.slice none 0 0)
  have hs1 : (w.alloc (.cells #[.slice none 0 0, .slice none 0 0, .slice none 0 0] 28)).heap.size = w.heap.size + 1 := by simp
  have hs2 : ((w.alloc (.cells #[.slice none 0 0, .slice none 0 0, .slice none 0 0] 28)).alloc (.cells #[.slice none 0 0, .slice none 0 0, .slice none 0 0] 28)).heap.size = w.heap.size + 2 := by simp
  rw [hs1] at hR0
  obtain ⟨ao, capo, hco, hoi⟩ := (hp.ext hg0).ordAt
  have HU := Lib.hid (And.intro hU (And.intro hUz (And.intro hA0 (And.intro hR0 hoi)))); clear hU hUz hA0 hR0 hs1 hoi
  go_enter Tryz.func96, Tryz.ntmps96
  go_wp2_with fail
  generalize (w.alloc (.cells #[.slice none 0 0, .slice none 0 0, .slice none 0 0] 28)).alloc (.cells #[.slice none 0 0, .slice none 0 0, .slice none 0 0] 28) = w0 at *
  refine Calls.mono (otherIndices_ok P hn6 w0 _ _ U Sp Su (hp.ext hg0) (Rows2.ext hu hg0) HU.out.2.1 hul) ?_
  rintro e3 w3 ⟨iv, rfl, hg3, hV3⟩
  obtain ⟨ai, ci, hiv, hI⟩ := idx_ints hV3 (by omega)
  obtain ⟨m, hm⟩ : ∃ m, m = (frI P U).length := ⟨_, rfl⟩
  rw [← hm] at hiv hI hfl
  subst hiv
  have hgw3 := grown_trans hg0 hg3
  have hB3 := HU.out.2.2.2.1.ext hg3
  have hA3 := HU.out.2.2.1.ext hg3
  obtain ⟨qb, hqb⟩ : ∃ qb, qb = w.heap.size + 1 := ⟨_, rfl⟩
  rw [← hqb] at hB3
  have hs3 := hg3.size
  have hOut0 : OutP (fun _ => False) w3.heap.size qb w3 (.slice none 0 0) (.slice none 0 0) (.slice none 0 0) (cutQ (quoP P U) 0) := OutP.start (Nat.le_refl _) hB3
  have hI2 : Ints (fun k => w0.heap.size ≤ k) w3 (.slice ai m ci) ((frI P U).map (fun i : Nat => (i : Int))) := hI
  have HI := Lib.hid (And.intro hI2 (And.intro hm (And.intro hA3 hOut0))); clear hI hI2 hA3 hOut0 hV3 hB3 hco hm
  have hqw : w.heap.size < qb ∧ qb < w0.heap.size := by omega
  have HQB := Lib.hid hqb
  go_wp2
  rw [← HQB.out]
  clear hqb HQB
  go_loopw [25] (fun kv wr => ∃ (k : Nat) (a1 : Option Addr) (n1 c1 : Nat) (a2 : Option Addr) (n2 c2 : Nat) (a3 : Option Addr) (n3 c3 : Nat), kv = .int .i64 (k : Int) ∧ k ≤ m ∧ w3.grownBy wr (some qb) ∧ OutP (fun _ => False) w3.heap.size qb wr (.slice a1 n1 c1) (.slice a2 n2 c2) (.slice a3 n3 c3) (cutQ (quoP P U) k)) (fun kv _ => m - (intOf kv).toNat)
  case atStart => exact ⟨0, _, _, _, _, _, _, _, _, _, rfl, by omega, grown_refl _ _, HI.out.2.2.2⟩
  case round =>
    obtain ⟨k, a1, n1, c1, a2, n2, c2, a3, n3, c3, rfl, hkm, hg, hOut⟩ := hrel
    have hgw : Ext w wr := grown_own hgw3 hg (fun j hj hlt => by have := Option.some.inj hj; omega)
    by_cases hlt : k < m
    · have hlt' : (k : Int) < m := by omega
      have hkl : k < (frI P U).length := by rw [← HI.out.2.1]; exact hlt
      have hIr := Ints.mono HI.out.1 (frame_of hg (fun k hk _ => ⟨hk, fun e => by have := Option.some.inj e; have hk : w0.heap.size ≤ k := hk; omega⟩))
      obtain ⟨bi, oi, hai, _, _, hci⟩ := Ints.at hIr k (by rw [List.length_map]; exact hkl)
      subst hai
      rw [gt_map _ _ _ hkl] at hci
      obtain ⟨q1, q2, q3⟩ := quo_at (P := P) (U := U) hkl
      have hfi := (fr_at hkl).1
      obtain ⟨i, hi⟩ : ∃ i, i = gt (frI P U) k := ⟨_, rfl⟩
      rw [← hi] at hci q1 q2 q3 hfi
      have hdr : ∀ l, k < l → l < (frI P U).length → gt (frI P U) l < P.orders.length := fun l _ hl => (fr_at hl).1
      have hXV : Vec P.orders (unitV P.orders.length i) := unitV_vec G.v i
      have ho7 := G.v.ord7 i hfi
      have HS := Lib.hid (And.intro q1 (And.intro q2 (And.intro q3 (And.intro hkl (And.intro hIr (And.intro hXV ho7)))))); clear q1 q2 q3 hkl hIr hXV ho7 hi
      go_wp2_with fail
      refine Calls.mono (unitVector_ok P.orders.length i wr hfi (by omega)) ?_
      rintro e4 w4 ⟨gv, rfl, hg4, hgo⟩
      clear hci
      obtain ⟨ag, ng, cg, hgv⟩ : ∃ a n c, gv = .slice a n c := by obtain ⟨a, c, e, _⟩ := (hgo.ints (by rw [HS.out.2.2.2.2.2.1.1]; omega)).shape; exact ⟨_, _, _, e⟩
      subst hgv
      have hOut4 := hOut.away (G' := fun b => (Value.slice ag ng cg).ownBlock = some b) hg4 (fun b hb => (hgo.lt b hb).2) (fun b hb => .inr (hgo.lt b hb).1)
      have hgi : Ints (fun b => (Value.slice ag ng cg).ownBlock = some b) w4 (.slice ag ng cg) (unitV P.orders.length i) := ints_of_own hgo (by rw [HS.out.2.2.2.2.2.1.1]; omega) (fun b hb => hb)
      have hg34 : w3.grownBy w4 (some qb) := grown_trans hg (grown_of_ext _ hg4)
      have hgw4 : Ext w w4 := grown_trans hgw hg4
      have hgb : ∀ b, (Value.slice ag ng cg).ownBlock = some b → w3.heap.size ≤ b := fun b hb => by have := (hgo.lt b hb).1; have := hg.size; omega
      have HGB := Lib.hid hgb
      have H4 := Lib.hid (And.intro hOut4 (And.intro hgi hgb)); clear hOut4 hgi hgo hOut hgb
      have hp4 := hp.ext hgw4
      obtain ⟨ao4, capo4, hco4, hoi4⟩ := hp4.ordAt
      obtain ⟨bo, oo, hao, _, _, hcoi⟩ := Ints.at hoi4 i hfi
      subst hao
      have hfi' : (i : Int) < P.orders.length := by omega
      obtain ⟨c, hc⟩ : ∃ c, c = gt P.orders i := ⟨_, rfl⟩
      rw [← hc] at hcoi
      have HC := Lib.hid hc; clear hc
      have e1 : ∀ w', Ext w4 w' → w'.cell? ⟨pb, po, none⟩ = some (.slice (some ⟨bo, oo, none⟩) P.orders.length capo4) := fun w' h => h.cell hco4 (by simp)
      have e2 : ∀ w', Ext w4 w' → w'.cell? ⟨bo, oo + i, none⟩ = some (.int .i64 c) := fun w' h => h.cell hcoi (by simp)
      have e3 : ∀ w', Ext w4 w' → w'.cell? ⟨qb, 0, none⟩ = some (.slice a1 n1 c1) := fun w' h => (H4.out.1.box.ext h).2.1
      have f1 := e1 w4.drew (grown_drew _ _)
      have f2 := e2 w4.drew (grown_drew _ _)
      have f3 := e3 w4.drew (grown_drew _ _)
      have f4 := e3 (w4.alloc (.cells #[.int .i64 c] 2)) (World.grownBy_alloc _ _ _)
      clear hco4 hcoi hoi4
      go_wp2
      go_cut [] (fun wx => w3.grownBy wx (some qb) ∧ Ints (fun b => (Value.slice ag ng cg).ownBlock = some b) wx (.slice ag ng cg) (unitV P.orders.length i) ∧ ∃ (g8 : Option Addr) (m8 k8 : Nat), OutP (fun b => (Value.slice ag ng cg).ownBlock = some b) w3.heap.size qb wx (.slice g8 m8 k8) (.slice a2 n2 c2) (.slice a3 n3 c3) ⟨(quoP P U).orders.take (k + 1), (quoP P U).powers.take k, (quoP P U).conj.take k⟩)
      case' rest =>
        clear f1 f2 f3 f4 e1 e2 e3 H4
        obtain ⟨hgx, hgix, g8, m8, k8, hOx⟩ := hcut
        obtain ⟨w5, rfl⟩ : ∃ w5 : World, w5 = wc := ⟨_, rfl⟩
        have hgw5 : Ext w w5 := grown_own hgw3 hgx (fun j hj hlt => by have := Option.some.inj hj; omega)
        have hp5 := hp.ext hgw5
        obtain ⟨ao5, capo5, hco5, hoi5⟩ := hp5.ordAt
        obtain ⟨bo5, oo5, hao5, _, _, hcoi5⟩ := Ints.at hoi5 i hfi
        subst hao5
        rw [← HC.out] at hcoi5
        obtain ⟨X, hX⟩ : ∃ X, X = pw P (unitV P.orders.length i) c.toNat := ⟨_, rfl⟩
        have hXv : Vec P.orders X := by rw [hX]; exact G.pw_vec HS.out.2.2.2.2.2.1 _
        have hXp : iPow P (unitV P.orders.length i) c = X := by rw [hX]; exact exP_pw G HS.out.2.2.2.2.2.1 c
        have hc7 : c ≤ 1000000000 := by rw [HC.out]; have := HS.out.2.2.2.2.2.2; omega
        obtain ⟨R, hR⟩ : ∃ R, R = prjV P U X := ⟨_, rfl⟩
        have hRl : R.length ≤ 6 := by rw [hR]; unfold prjV; rw [List.length_map, ← HI.out.2.1]; omega
        have hst2 : (quoP P U).powers.take (k + 1) = (quoP P U).powers.take k ++ [R] := by rw [HS.out.2.1, hR, hX, HC.out]
        have htk2 : ((quoP P U).powers.take k).length ≤ 1000000 := by rw [List.length_take]; omega
        have e1 : ∀ w', Ext w5 w' → w'.cell? ⟨pb, po, none⟩ = some (.slice (some ⟨bo5, oo5, none⟩) P.orders.length capo5) := fun w' h => h.cell hco5 (by simp)
        have e2 : ∀ w', Ext w5 w' → w'.cell? ⟨bo5, oo5 + i, none⟩ = some (.int .i64 c) := fun w' h => h.cell hcoi5 (by simp)
        have e3 : ∀ w', Ext w5 w' → w'.cell? ⟨qb, 1, none⟩ = some (.slice a2 n2 c2) := fun w' h => (hOx.box.ext h).2.2.1
        obtain ⟨Fo, Fp, Fc, hPt, o1, o2, o3⟩ := hOx.parts
        have H5 := Lib.hid (And.intro hOx (And.intro hPt (And.intro o1 (And.intro o2 (And.intro o3 (And.intro hXv (And.intro hXp (And.intro hc7 (And.intro hR (And.intro hst2 (And.intro htk2 hgix))))))))))); clear hOx hPt o1 o2 o3 hXv hXp hc7 hR hst2 htk2 hgix hX hcoi5 hco5 hoi5
        have f1 := e1 w5.drew (grown_drew _ _)
        have f2 := e2 w5.drew (grown_drew _ _)
        have f3 := e3 w5.drew (grown_drew _ _)
        go_wp2
        go_cut [] (fun wx => w3.grownBy wx (some qb) ∧ Ints (fun b => (Value.slice ag ng cg).ownBlock = some b) wx (.slice ag ng cg) (unitV P.orders.length i) ∧ ∃ (h8 : Option Addr) (m9 k9 : Nat), OutP (fun b => (Value.slice ag ng cg).ownBlock = some b) w3.heap.size qb wx (.slice g8 m8 k8) (.slice h8 m9 k9) (.slice a3 n3 c3) ⟨(quoP P U).orders.take (k + 1), (quoP P U).powers.take (k + 1), (quoP P U).conj.take k⟩)
        case' rest =>
          clear f1 f2 f3 e1 e2 e3 H5 hgx hgw5 hp5
          obtain ⟨hgx, hgix, h8, m9, k9, hOx⟩ := hcut
          obtain ⟨w6, rfl⟩ : ∃ w6 : World, w6 = wc := ⟨_, rfl⟩
          have hgw6 : Ext w w6 := grown_own hgw3 hgx (fun j hj hlt => by have := Option.some.inj hj; omega)
          have hI6 := Ints.mono HI.out.1 (frame_of hgx (fun k hk _ => ⟨hk, fun e => by have := Option.some.inj e; have hk : w0.heap.size ≤ k := hk; omega⟩))
          have hml : ((frI P U).map (fun i : Nat => (i : Int))).length = m := by rw [List.length_map, HI.out.2.1]
          have htl := subSl_ints hI6 (k + 1) m (by omega) (by rw [hml]; exact Nat.le_refl _)
          rw [List.take_of_length_le (by rw [hml]; exact Nat.le_refl _)] at htl
          obtain ⟨ta, tc, hsv, _, _⟩ := htl.shape
          rw [hsv] at htl
          obtain ⟨N, hN⟩ : ∃ N, N = (((frI P U).map (fun i : Nat => (i : Int))).drop (k + 1)).length := ⟨_, rfl⟩
          have hNm : N = m - (k + 1) := by rw [hN, List.length_drop, hml]
          rw [← hN] at hsv htl
          have hrt : ∀ w', (Instr.slice 170 (.slice (some ⟨bi, oi, none⟩) m ci) (some (.int .i64 ((k : Int) + 1))) none none).run Tryz.prog w' = .ok (.slice ta N tc) w' := fun w' => by
            have h := run_tail_int w' (some ⟨bi, oi, none⟩) m ci ((k : Int) + 1) (by omega) (by omega)
            rw [show ((k : Int) + 1).toNat = k + 1 by omega, hsv] at h; exact h
          have hgt : ∀ l, l < N → gt (((frI P U).map (fun i : Nat => (i : Int))).drop (k + 1)) l = ((gt (frI P U) (k + 1 + l) : Nat) : Int) ∧ gt (frI P U) (k + 1 + l) < P.orders.length := fun l hl => by
            have hlf : k + 1 + l < (frI P U).length := by rw [← HI.out.2.1]; omega
            refine ⟨?_, (fr_at hlf).1⟩
            have e : gt (((frI P U).map (fun i : Nat => (i : Int))).drop (k + 1)) l = gt ((frI P U).map (fun i : Nat => (i : Int))) (k + 1 + l) := by simp [gt, List.getElem?_drop]
            rw [e, gt_map _ _ _ hlf]
          obtain ⟨C, hC⟩ : ∃ C, C = ((frI P U).drop (k + 1)).map (fun j => prjV P U (rConj P (unitV P.orders.length j) (unitV P.orders.length i))) := ⟨_, rfl⟩
          have hCl : C.length = N := by rw [hC, List.length_map, List.length_drop, hNm, HI.out.2.1]
          have hCg : ∀ l, l < N → gt C l = prjV P U (rConj P (unitV P.orders.length (gt (frI P U) (k + 1 + l))) (unitV P.orders.length i)) := fun l hl => by
            rw [hC, gt_map _ _ _ (by rw [List.length_drop, ← HI.out.2.1]; omega)]
            congr 3
            simp [gt, List.getElem?_drop]
          have hst3 : (quoP P U).conj.take (k + 1) = (quoP P U).conj.take k ++ [C] := by rw [HS.out.2.2.1, hC]
          have htk3 : ((quoP P U).conj.take k).length ≤ 1000000 := by rw [List.length_take]; omega
          have H6 := Lib.hid (And.intro hOx (And.intro hgix (And.intro htl (And.intro hgt (And.intro hCl (And.intro hCg (And.intro hst3 (And.intro htk3 hN)))))))); clear hOx hgix htl hgt hCl hCg hst3 htk3 hN hC hsv hml hI6
          have hN6 : N ≤ 6 := by omega
          go_wp2
          clear hrt
          go_loopw [11, 68] (fun lv jv wr => ∃ (l : Nat) (v7 : Value), v7 = lv ∧ jv = .int .i64 (l : Int) ∧ l ≤ N ∧ Ext w6 wr ∧ RowsO w6.heap.size wr v7 (C.take l)) (fun _ jv _ => N - (intOf jv).toNat)
          case atStart => exact ⟨0, _, rfl, rfl, by omega, Ext.refl _, SlO.nil _ _ _ _⟩
          case round =>
            obtain ⟨l, v7, rfl, rfl, hl, hgl, hO⟩ := hrel
            obtain ⟨wo, rfl⟩ : ∃ wo : World, wo = wr := ⟨_, rfl⟩
            have hgwo : Ext w wo := grown_trans hgw6 hgl
            by_cases hltl : l < N
            · have hltl' : (l : Int) < N := by omega
              obtain ⟨hg1, hj⟩ := H6.out.2.2.2.1 l hltl
              obtain ⟨bd, od, hta, _, _, hcd⟩ := Ints.at (Ints.ext H6.out.2.2.1 hgl) l (by rw [← H6.out.2.2.2.2.2.2.2.2]; exact hltl)
              subst hta
              rw [hg1] at hcd
              obtain ⟨j, hje⟩ : ∃ j, j = gt (frI P U) (k + 1 + l) := ⟨_, rfl⟩
              have hgc := H6.out.2.2.2.2.2.1 l hltl
              rw [← hje] at hcd hj hgc
              have hUV : Vec P.orders (unitV P.orders.length j) := unitV_vec G.v j
              obtain ⟨X, hX⟩ : ∃ X, X = rConj P (unitV P.orders.length j) (unitV P.orders.length i) := ⟨_, rfl⟩
              have hXv : Vec P.orders X := by rw [hX]; exact G.conjV hUV HS.out.2.2.2.2.2.1
              have hXc : iConj P (unitV P.orders.length j) (unitV P.orders.length i) = X := by rw [hX]; exact G.iConj_eq hUV HS.out.2.2.2.2.2.1
              obtain ⟨R, hR⟩ : ∃ R, R = prjV P U X := ⟨_, rfl⟩
              have hRl : R.length ≤ 6 := by rw [hR]; unfold prjV; rw [List.length_map, ← HI.out.2.1]; omega
              have hstep : C.take (l + 1) = C.take l ++ [R] := by rw [take_succ_gt _ l (by rw [H6.out.2.2.2.2.1]; exact hltl), hgc, hR, hX]
              have htkl : (C.take l).length ≤ 1000000 := by rw [List.length_take]; omega
              have HR := Lib.hid (And.intro hUV (And.intro hXv (And.intro hXc (And.intro hR (And.intro hstep htkl))))); clear hUV hXv hXc hR hstep htkl hgc hje hX hg1
              go_wp2_with fail
              refine Calls.mono (unitVector_ok P.orders.length j wo hj (by omega)) ?_
              rintro eA wA ⟨uv2, rfl, hgA, hOA⟩
              have hAi := hOA.ints (by rw [HR.out.1.1]; omega)
              obtain ⟨aA, nA, cA, huv⟩ : ∃ a n c, uv2 = Value.slice a n c := by obtain ⟨a, c, e, _⟩ := hAi.shape; exact ⟨_, _, _, e⟩
              subst huv
              have hgwA := grown_trans hgwo hgA
              have HA := Lib.hid hAi; clear hAi hOA hcd
              go_wp2_with fail
              refine Calls.mono (conjugate_ok P G.v wA _ _ _ (unitV P.orders.length j) (unitV P.orders.length i) Sp _ _ (hp.ext hgwA) HA.out (Ints.ext H6.out.2.1 (grown_trans hgl hgA)) HR.out.1 HS.out.2.2.2.2.2.1) ?_
              rintro eB wB ⟨cv2, rfl, hgB, hOB⟩
              rw [HR.out.2.2.1] at hOB
              have hBi := hOB.ints (by rw [HR.out.2.1.1]; omega)
              obtain ⟨aB, nB, cB, hcv⟩ : ∃ a n c, cv2 = Value.slice a n c := by obtain ⟨a, c, e, _⟩ := hBi.shape; exact ⟨_, _, _, e⟩
              subst hcv
              have hgwB := grown_trans hgwA hgB
              have HB := Lib.hid hBi; clear hBi hOB
              go_wp2_with fail
              refine Calls.mono (project_ok P hr wB _ _ _ U X Sp Su _ (hp.ext hgwB) (Rows2.ext hu hgwB) HU.out.1 HB.out HR.out.2.1) ?_
              rintro eD wD ⟨rv, rfl, hgD, hOD⟩
              rw [← HR.out.2.2.2.1] at hOD
              have hgoD := grown_trans hgA (grown_trans hgB hgD)
              have hYO : OwnIn (From wo.heap.size) wD rv R := OwnIn.of hOD (by omega) (fun k h _ => by have := (grown_trans hgA hgB).size; show wo.heap.size ≤ k; omega)
              obtain ⟨aD, cD, hrv, _, _⟩ := hYO.ints.shape
              subst hrv
              clear hOD
              go_wp2_with (first | (at_builtin; refine wp_app_row rfl _ _ rfl w6.heap.size wo wD v7 _ (C.take l) R rfl hO hgoD hYO rfl rfl HR.out.2.2.2.2.2 hgl.size ?_; intro v5 w5 hO5 hg5 hg6; have hgw5 := hO.extw hgl (Nat.le_refl _) hg5) | fail)
              go_roundw
              case rel => exact ⟨l + 1, v5, rfl, by go_num, by omega, hgw5, by rw [HR.out.2.2.2.2.1]; exact hO5⟩
              case measure => simp [intOf]; omega
            · have hle : l = N := by omega
              subst hle
              rw [List.take_of_length_le (by rw [H6.out.2.2.2.2.1]; exact Nat.le_refl _)] at hO
              have hRI : RowsI (From w6.heap.size) wo v7 C := SlI.of hO (by rw [H6.out.2.2.2.2.1]; omega) (fun k h _ => h)
              obtain ⟨a4, n4, c4, rfl, hn4⟩ := SlI.sl hRI
              obtain ⟨Fo, Fp, Fc, hPt, o1, o2, o3⟩ := H6.out.1.parts
              have hB7 := H6.out.1.box.ext hgl
              have HN := Lib.hid hn4; clear hn4 hO
              obtain ⟨f0, f1, f2, f3, f4⟩ := id hB7
              go_wp2_with (first | (at_builtin; refine wp_app_I (rdI rdOwn) 26 (.slice none 0 0) 24 und_rows3 Tryz.infoRows rfl (by decide) rfl _ _ rfl Fc w6 wo _ _ ((quoP P U).conj.take k) C rfl hPt.c hgl hRI rfl rfl H6.out.2.2.2.2.2.2.2.1 ?_; intro v8 w8 hO8 hg8 hg9; obtain ⟨g9, m10, k10, rfl, hm8⟩ := SlI.sl hO8; clear hm8; have hB8 := H6.out.1.boxed o3 hg8; clear f0 f1 f2 f3 f4; obtain ⟨f0, f1, f2, f3, f4⟩ := id hB8) | fail)
              have hOut9 := H6.out.1.putC hPt hO8 hg8
              rw [← H6.out.2.2.2.2.2.2.1] at hOut9
              have hOutF := hOut9.away (G' := fun _ => False) (Ext.refl _) (fun _ h => h.elim) (fun _ h => h.elim)
              have hgn := H6.out.1.near (j := 2) (v' := .slice g9 m10 k10) (w0 := w3) o3 hg8 (Nat.le_refl _) hgx
              clear f0 f1 f2 f3 f4
              go_roundw
              case rel => exact ⟨k + 1, _, _, _, _, _, _, _, _, _, by go_num, by omega, hgn, hOutF⟩
              case measure => simp [intOf]; omega
        case first =>
          go_region_law (first
            | (go_simp; go_at_call 129; refine Calls.mono (project_ok P hr _ _ _ _ U X Sp Su _ (hp.ext (grown_trans hgw5 hgX2)) (Rows2.ext hu (grown_trans hgw5 hgX2)) HU.out.1 hXi H5.out.2.2.2.2.2.1) ?_; rintro eR wR ⟨vR, rfl, hgR, hOR⟩; rw [← H5.out.2.2.2.2.2.2.2.2.1] at hOR; obtain ⟨aR, capR, hvR, _, _⟩ := (hOR.ints (by omega)).shape; subst hvR; have hgR2 : Ext w5 wR := grown_trans hgX2 hgR; have g3 := e3 wR hgR2; have g4 := e3 (wR.alloc (.cells #[.slice aR R.length capR] 24)) (grown_trans hgR2 (World.grownBy_alloc _ _ _)))
            | (go_simp; go_at_call 192; refine Calls.mono (power_ok P G.v _ _ _ (unitV P.orders.length i) c _ _ (hp.ext (grown_trans hgw5 (grown_drew _ _))) (Ints.ext H5.out.2.2.2.2.2.2.2.2.2.2.2 (grown_drew _ _)) HS.out.2.2.2.2.2.1 H5.out.2.2.2.2.2.2.2.1) ?_; rintro eX wX ⟨vX, rfl, hgX, hOX⟩; rw [H5.out.2.2.2.2.2.2.1] at hOX; have hXi := hOX.ints (by rw [H5.out.2.2.2.2.2.1.1]; omega); obtain ⟨aX, capX, hvX, _, _⟩ := hXi.shape; subst hvX; have hgX2 : Ext w5 wX := grown_trans (grown_drew _ _) hgX; have x3 := e3 wX hgX2)
            | (refine step_app_I rdOwn 25 (.slice none 0 0) 24 und_rows Tryz.infoRow rfl (by decide) (by rfl) _ _ (by rfl) Fp w5 wR _ _ ((quoP P U).powers.take k) R (by rfl) H5.out.2.1.p hgR2 (OwnIn.of hOR (by omega) (fun k h _ => by have := hgX2.size; show w5.heap.size ≤ k; omega)) (by rfl) (by rfl) H5.out.2.2.2.2.2.2.2.2.2.2.1 ?_; intro v8 w8 hO8 hg8 hg9; obtain ⟨h8, m9, k9, rfl, hm8⟩ := SlI.sl hO8; clear hm8; have hB8 := H5.out.1.boxed H5.out.2.2.2.1 hg8; obtain ⟨f80, f81, f82, f83, f84⟩ := id hB8))
          all_goals
            have hOut9 := H5.out.1.putP H5.out.2.1 hO8 hg8
            rw [← H5.out.2.2.2.2.2.2.2.2.2.1] at hOut9
            have hgn := H5.out.1.near (j := 1) (v' := .slice h8 m9 k9) (w0 := w3) H5.out.2.2.2.1 hg8 (Nat.le_refl _) hgx
            have hgi9 : Ints (fun b => (Value.slice ag ng cg).ownBlock = some b) (w8.setCell ⟨qb, 1, none⟩ (.slice h8 m9 k9)) (.slice ag ng cg) (unitV P.orders.length i) :=
              Ints.mono (Ints.mono H5.out.2.2.2.2.2.2.2.2.2.2.2 (frame_of hg8 (fun b hb _ => ⟨hb, fun e => (H5.out.2.2.2.1 b e).2.2 hb⟩))) (frame_of (grown_set1 w8 qb 1 (.slice h8 m9 k9)) (fun b hb _ => ⟨hb, fun e => by have := Option.some.inj e; have := HGB.out b hb; omega⟩))
            clear f1 f2 f3
            try go_wp2
            go_meet
            exact ⟨hgn, hgi9, h8, m9, k9, hOut9⟩
      case first =>
        have hOd := H4.out.1.ext (grown_drew w4 none)
        obtain ⟨Fo, Fp, Fc, hPt, o1, o2, o3⟩ := hOd.parts
        have HO := Lib.hid (And.intro hOd (And.intro hPt (And.intro o1 (And.intro o2 o3)))); clear hOd hPt o1 o2 o3
        have htk : ((quoP P U).orders.take k).length ≤ 1000 := by rw [List.length_take]; omega
        have HT := Lib.hid htk; clear htk
        go_region_law (refine step_app_intb rfl _ _ (by rfl) 0 (.slice a1 n1 c1) ((quoP P U).orders.take k) c (by rfl) w4.drew HO.out.2.1.o.1 (by rfl) (by rfl) (by have := HT.out; omega) (Nat.zero_le _) ?_; intro v8 w8 hO8 hg8 hb8; obtain ⟨g8, m8, k8, hv8⟩ : ∃ a n c, v8 = Value.slice a n c := (by obtain ⟨a, c, e, _⟩ := (hO8.ints (by rw [List.length_append, List.length_singleton]; have := HT.out; omega)).shape; exact ⟨_, _, _, e⟩); subst hv8; have hB8 := HO.out.1.boxed HO.out.2.2.1 hg8; obtain ⟨f80, f81, f82, f83, f84⟩ := id hB8)
        all_goals
          have hOut9 := HO.out.1.putO hO8 hg8 hb8 HT.out
          have hst : (cutQ (quoP P U) k).orders ++ [c] = (quoP P U).orders.take (k + 1) := by rw [HS.out.1, HC.out]; rfl
          rw [hst] at hOut9
          have hgn := HO.out.1.near (j := 0) (v' := .slice g8 m8 k8) (w0 := w3) HO.out.2.2.1 hg8 (Nat.le_refl _) (grown_trans hg34 (grown_of_ext _ (grown_drew _ none)))
          have hgi9 : Ints (fun b => (Value.slice ag ng cg).ownBlock = some b) (w8.setCell ⟨qb, 0, none⟩ (.slice g8 m8 k8)) (.slice ag ng cg) (unitV P.orders.length i) :=
            Ints.mono (Ints.mono (Ints.ext H4.out.2.1 (grown_drew w4 none)) (frame_of hg8 (fun b hb _ => ⟨hb, fun e => (HO.out.2.2.1 b e).2.2 hb⟩))) (frame_of (grown_set1 w8 qb 0 (.slice g8 m8 k8)) (fun b hb _ => ⟨hb, fun e => by have := Option.some.inj e; have := H4.out.2.2 b hb; omega⟩))
          clear f1 f2 f3 f4
          try go_wp2
          go_meet
          exact ⟨hgn, hgi9, g8, m8, k8, hOut9⟩
    · have hke : k = m := by omega
      subst hke
      have hkf := HI.out.2.1
      have hall : cutQ (quoP P U) k = quoP P U := cutQ_all (by rw [quo_n]; omega) (by show ((frI P U).map _).length ≤ k; rw [List.length_map]; omega) (by show ((List.range _).map _).length ≤ k; rw [List.length_map, List.length_range]; omega)
      rw [hall] at hOut
      have hz := HI.out.2.2.1.keep hg.size (hg.block _ HI.out.2.2.1.1 (fun e => by have := Option.some.inj e; omega))
      obtain ⟨h0, h1, h2, h3, h4⟩ := id hOut.box
      obtain ⟨k0, k1, k2, k3, k4⟩ := id hz
      have hZ := hz.all (.slice a1 n1 c1) (.slice a2 n2 c2) (.slice a3 n3 c3)
      have hT := grown_set3 wr w.heap.size (.slice a1 n1 c1) (.slice a2 n2 c2) (.slice a3 n3 c3)
      obtain ⟨_, z0, z1, z2, _⟩ := id hZ
      have hend : Ret w (PresR w.heap.size (quoP P U)) (.returned (.agg #[.slice a1 n1 c1, .slice a2 n2 c2, .slice a3 n3 c3])) (((wr.setCell ⟨w.heap.size, 0, none⟩ (.slice a1 n1 c1)).setCell ⟨w.heap.size, 1, none⟩ (.slice a2 n2 c2)).setCell ⟨w.heap.size, 2, none⟩ (.slice a3 n3 c3)) :=
        ⟨_, rfl, grown_own hgw hT (fun j hj hlt => by cases hj; omega), hOut.ret (by omega) (by omega) hT⟩
      have HE := Lib.hid hend; clear hend hT hZ hall hkf
      go_wp2
      refine bodyPost_ret (v := .agg #[.slice a1 n1 c1, .slice a2 n2 c2, .slice a3 n3 c3]) (by simp [results, Tryz.results96, go_sem, z0, z1, z2]) rfl ?_
      exact HE.out

end Go.Proofs.YtldheeicjnncoaaGreat
namespace Go.Proofs.YtldheeicjnncoaaGreat
open Go.RowKit
attribute [local go_sem ↓] Go.wp_at_zero Go.wp_at_succ

theorem subSl_sl {α : Type} [Inhabited α] {El : World → Value → α → Prop} {S : Nat → Prop} {w : World} {v : Value} {xs : List α} (h : Sl El S w v xs) (i j : Nat) (hij : i ≤ j) (hj : j ≤ xs.length) : Sl El S w (subSl v i j) ((xs.take j).drop i) := by
  obtain ⟨a, cap, rfl, hl, hc⟩ := h
  have hlen : ((xs.take j).drop i).length = j - i := by simp; omega
  refine ⟨(if cap = i then a else a.map (·.add i)), cap - i, by rw [hlen]; rfl, ⟨by omega, by omega, ?_⟩, fun k hk => ?_⟩
  · intro ha
    split at ha
    · omega
    · have : a = none := by simpa using ha
      have := hl.2.2 this; omega
  obtain ⟨b, off, u, rfl, hS, hlt, hu, hx⟩ := hc (i + k) (by omega)
  by_cases e : cap = i
  · omega
  · rw [if_neg e]
    refine ⟨b, off + i, u, by simp [Addr.add], hS, hlt, by rw [Nat.add_assoc]; exact hu, ?_⟩
    have : gt ((xs.take j).drop i) k = gt xs (i + k) := by
      simp only [gt, List.getD_eq_getElem?_getD, List.getElem?_drop, List.getElem?_take]; rw [if_pos (by omega)]
    rw [this]; exact hx

theorem sup_at {P : Pr} {U : List (List Int)} {k : Nat} (hk : k < U.length) :
    (subP P U).orders.take (k + 1) = (subP P U).orders.take k ++ [gt P.orders (dep (gt U k))] ∧
    (subP P U).powers.take (k + 1) = (subP P U).powers.take k ++ [mxV P U (pw P (gt U k) (gt P.orders (dep (gt U k))).toNat)] ∧
    (subP P U).conj.take (k + 1) = (subP P U).conj.take k ++ [(U.drop (k + 1)).map (fun y => mxV P U (rConj P y (gt U k)))] := by
  refine ⟨?_, ?_, ?_⟩
  · show (U.map _).take (k + 1) = (U.map _).take k ++ _
    rw [take_succ_gt _ k (by rw [List.length_map]; exact hk), gt_map _ _ _ hk]
  · show (U.map _).take (k + 1) = (U.map _).take k ++ _
    rw [take_succ_gt _ k (by rw [List.length_map]; exact hk), gt_map _ _ _ hk]
  · show ((List.range _).map _).take (k + 1) = ((List.range _).map _).take k ++ _
    rw [take_succ_gt _ k (by rw [List.length_map, List.length_range]; exact hk), gt_map _ _ _ (by rw [List.length_range]; exact hk), gt_range hk]

set_option maxRecDepth 100000 in
set_option maxHeartbeats 1000000 in
/-- the exponents of a member -/
theorem memExpU_ok (P : Pr) (G : Grp P) (w : World) (p uv xv : Value) (U : List (List Int)) (X : List Int) (Sp Su Sx : Nat → Prop) (hU : SubB P U) (hp : PresP Sp w p P) (hu : Rows2 Su w uv U) (hx : Ints Sx w xv X) (hX : gU P U X) :
    Calls Tryz.prog 169 #[p, uv, xv] w (Ret w fun w' v => ∃ a n c, v = .tuple #[.slice a n c, .bool true] ∧ Own w.heap.size w' (.slice a n c) (mxV P U X)) := by
  have e : cseq P (gU P U) = U := hU.2.symm
  refine Calls.mono (memExp_ok P G w p uv xv (gU P U) X Sp Su Sx (G.subB hU) hp (by rw [e]; exact hu) hx hX) ?_
  rintro e1 w1 ⟨v1, rfl, hg1, a, n, c, out, rfl, hO, hM⟩
  rw [e] at hM
  exact ⟨_, rfl, hg1, a, n, c, rfl, by rw [← mx_one G hU hX hM]; exact hO⟩

set_option maxRecDepth 100000 in
set_option maxHeartbeats 8000000 in
theorem subPres_ok (P : Pr) (hr : rconsB P = true) (w : World) (p uv : Value) (U : List (List Int)) (Sp Su : Nat → Prop) (hp : PresP Sp w p P) (hu : Rows2 Su w uv U) (hU : SubB P U) :
    Calls Tryz.prog 93 #[p, uv] w (Ret w (PresR w.heap.size (subP P U))) := by
  have G := grp_of_r hr
  have hn6 := G.v.n6
  obtain ⟨hS, hul, hUz⟩ := sub_dep G hU
  clear hS
  obtain ⟨pb, po, rfl⟩ := hp.shape
  obtain ⟨au, capu, rfl, _, _⟩ := Sl.shape hu
  have hg0 : Ext w ((w.alloc (.cells #[.slice none 0 0, .slice none 0 0, .slice none 0 0] 28)).alloc (.cells #[.slice none 0 0, .slice none 0 0, .slice none 0 0] 28)) := grown_trans (World.grownBy_alloc _ _ _) (World.grownBy_alloc _ _ _)
  have hA0 := (Box3.made w 28 (.slice none 0 0) (.slice none 0 0) (.slice none 0 0)).ext (World.grownBy_alloc _ (.cells #[.slice none 0 0, .slice none 0 0, .slice none 0 0] 28) none)
  have hR0 := Box3.made (w.alloc (.cells #[.slice none 0 0, .slice none 0 0, .slice none 0 0] 28)) 28 (.slice none 0 0) (.slice none 0 0) (.slice none 0 0)
  have hs1 : (w.alloc (.cells #[.slice none 0 0, .slice none 0 0, .slice none 0 0] 28)).heap.size = w.heap.size + 1 := by simp
  have hs2 : ((w.alloc (.cells #[.slice none 0 0, .slice none 0 0, .slice none 0 0] 28)).alloc (.cells #[.slice none 0 0, .slice none 0 0, .slice none 0 0] 28)).heap.size = w.heap.size + 2 := by simp
  rw [hs1] at hR0
  obtain ⟨ao, capo, hco, hoi⟩ := (hp.ext hg0).ordAt
  have HU := Lib.hid (And.intro hU (And.intro hUz (And.intro hA0 (And.intro hR0 hoi)))); clear hU hUz hA0 hR0 hs1 hoi
  go_enter Tryz.func93, Tryz.ntmps93
  go_wp2_with fail
  generalize (w.alloc (.cells #[.slice none 0 0, .slice none 0 0, .slice none 0 0] 28)).alloc (.cells #[.slice none 0 0, .slice none 0 0, .slice none 0 0] 28) = w0 at *
  refine Calls.mono (pivots_ok _ U w0 Su (Rows2.ext hu hg0) HU.out.2.1 (by omega)) ?_
  rintro e3 w3 ⟨iv, rfl, hg3, hV3⟩
  have hV3' : OwnV w0.heap.size 3 w3 iv (idxV (U.map dep)) := by
    have e : depV U = idxV (U.map dep) := by unfold depV idxV; rw [List.map_map]; rfl
    rw [← e]; exact hV3
  obtain ⟨ai, ci, hiv, hI⟩ := idx_ints hV3' (by rw [List.length_map]; omega)
  obtain ⟨m, hm⟩ : ∃ m, m = (U.map dep).length := ⟨_, rfl⟩
  rw [← hm] at hiv hI
  subst hiv
  have hmU : m = U.length := by rw [hm, List.length_map]
  have hgw3 := grown_trans hg0 hg3
  have hB3 := HU.out.2.2.2.1.ext hg3
  have hA3 := HU.out.2.2.1.ext hg3
  obtain ⟨qb, hqb⟩ : ∃ qb, qb = w.heap.size + 1 := ⟨_, rfl⟩
  rw [← hqb] at hB3
  have hs3 := hg3.size
  have hOut0 : OutP (fun _ => False) w3.heap.size qb w3 (.slice none 0 0) (.slice none 0 0) (.slice none 0 0) (cutQ (subP P U) 0) := OutP.start (Nat.le_refl _) hB3
  have hI2 : Ints (fun k => w0.heap.size ≤ k) w3 (.slice ai m ci) ((U.map dep).map (fun i : Nat => (i : Int))) := hI
  have HI := Lib.hid (And.intro hI2 (And.intro hmU (And.intro hA3 hOut0))); clear hI hI2 hA3 hOut0 hV3 hV3' hB3 hco hm hmU
  have hqw : w.heap.size < qb ∧ qb < w0.heap.size := by omega
  have HQB := Lib.hid hqb
  go_wp2
  rw [← HQB.out]
  clear hqb HQB
  go_loopw [22] (fun kv wr => ∃ (k : Nat) (a1 : Option Addr) (n1 c1 : Nat) (a2 : Option Addr) (n2 c2 : Nat) (a3 : Option Addr) (n3 c3 : Nat), kv = .int .i64 (k : Int) ∧ k ≤ U.length ∧ w3.grownBy wr (some qb) ∧ OutP (fun _ => False) w3.heap.size qb wr (.slice a1 n1 c1) (.slice a2 n2 c2) (.slice a3 n3 c3) (cutQ (subP P U) k)) (fun kv _ => U.length - (intOf kv).toNat)
  case atStart => exact ⟨0, _, _, _, _, _, _, _, _, _, rfl, by omega, grown_refl _ _, HI.out.2.2.2⟩
  case round =>
    obtain ⟨k, a1, n1, c1, a2, n2, c2, a3, n3, c3, rfl, hkm, hg, hOut⟩ := hrel
    have hgw : Ext w wr := grown_own hgw3 hg (fun j hj hlt => by have := Option.some.inj hj; omega)
    by_cases hlt : k < U.length
    · have hlt' : (k : Int) < U.length := by omega
      have hkm2 : (k : Int) < m := by rw [HI.out.2.1]; exact hlt'
      have hkd : k < (U.map dep).length := by rw [List.length_map]; exact hlt
      have hIr := Ints.mono HI.out.1 (frame_of hg (fun k hk _ => ⟨hk, fun e => by have := Option.some.inj e; have hk : w0.heap.size ≤ k := hk; omega⟩))
      obtain ⟨bi, oi, hai, _, _, hci⟩ := Ints.at hIr k (by rw [List.length_map]; exact hkd)
      subst hai
      rw [gt_map _ _ _ hkd, gt_map _ _ _ hlt] at hci
      obtain ⟨bu, ou, xa, xc, rfl, _, _, hcu0, hxi0⟩ := Rows2.at hu k hlt
      have hcu := hgw.cell hcu0 (by simp)
      obtain ⟨q1, q2, q3⟩ := sup_at (P := P) (U := U) hlt
      obtain ⟨hd1, hd2, hd3⟩ := uE_dT G HU.out.1 hlt
      obtain ⟨i, hi⟩ : ∃ i, i = dep (gt U k) := ⟨_, rfl⟩
      have hup := (u_pw G HU.out.1 hlt).1
      have hXV : Vec P.orders (gt U k) := HU.out.1.1 _ (gtMem hlt)
      rw [← hi] at hci q1 q2 hd1 hup
      have hfi' : (i : Int) < P.orders.length := by omega
      have ho7 := G.v.ord7 i hd1
      obtain ⟨ao4, capo4, hco4, hoi4⟩ := (hp.ext hgw).ordAt
      obtain ⟨bo, oo, hao, _, _, hcoi⟩ := Ints.at hoi4 i hd1
      subst hao
      obtain ⟨c, hc⟩ : ∃ c, c = gt P.orders i := ⟨_, rfl⟩
      obtain ⟨Y, hY⟩ : ∃ Y, Y = gt U k := ⟨_, rfl⟩
      rw [← hc] at hcoi q1 q2 hup
      rw [← hY] at q2 q3 hup hXV hxi0 hcu hcu0
      have hXp : iPow P Y c = pw P Y c.toNat := exP_pw G hXV c
      have hc7 : c ≤ 1000000000 := by rw [hc]; omega
      obtain ⟨X, hX⟩ : ∃ X, X = pw P Y c.toNat := ⟨_, rfl⟩
      rw [← hX] at hXp q2 hup
      have hXl : X.length ≤ 6 := by rw [hX, (G.pw_vec hXV _).1]; omega
      have hRl : (mxV P U X).length ≤ 6 := by rw [(mx_spec G HU.out.1 hup).1]; omega
      obtain ⟨R, hR⟩ : ∃ R, R = mxV P U X := ⟨_, rfl⟩
      have hYl : Y.length ≤ 6 := by rw [hXV.1]; omega
      have htk1 : ((subP P U).orders.take k).length ≤ 1000 := by rw [List.length_take]; omega
      have htk2 : ((subP P U).powers.take k).length ≤ 1000000 := by rw [List.length_take]; omega
      have HYU := Lib.hid hY
      have HS := Lib.hid (And.intro q1 (And.intro q2 (And.intro q3 (And.intro hXV (And.intro hXp (And.intro hc7 (And.intro hup (And.intro hR (And.intro hxi0 (And.intro hYl (And.intro htk1 (And.intro htk2 (And.intro hOut (And.intro hRl hXl))))))))))))))
      rw [← hR] at hRl
      clear q1 q2 q3 hXV hXp hc7 hup hR hxi0 hYl htk1 htk2 hOut hi hc hY hX hoi4 hIr hd2 hd3 hcu0 hXl
      go_wp2
      go_quiet (fail)
      clear hci hcu hco4 hcoi
      obtain ⟨wq, hwq⟩ : ∃ wq : World, wq = wr.drewN nq := ⟨_, rfl⟩
      rw [← hwq]
      have hgq : Ext wr wq := by rw [hwq]; exact grown_drewN _ _ _
      clear hwq
      have hOq := HS.out.2.2.2.2.2.2.2.2.2.2.2.2.1.ext hgq
      obtain ⟨Fo, Fp, Fc, hPt, o1, o2, o3⟩ := hOq.parts
      have hg3q : w3.grownBy wq (some qb) := grown_trans hg (grown_of_ext _ hgq)
      have hgwq := grown_trans hgw hgq
      have HO := Lib.hid (And.intro hOq (And.intro hPt (And.intro o1 (And.intro o2 o3)))); 
      obtain ⟨f0, f1, f2, f3, f4⟩ := id hOq.box
      clear hOq hPt o1 o2 o3
      go_wp2_with (first | (at_builtin; refine wp_app_intb rfl _ _ rfl 0 (.slice a1 n1 c1) _ c rfl wq HO.out.2.1.o.1 rfl rfl (by have h := HS.out.2.2.2.2.2.2.2.2.2.2.1; exact Nat.le_trans h (by decide)) (Nat.zero_le _) ?_; intro v8 w8 hO8 hg8 hb8; obtain ⟨g8, m8, k8, hv8⟩ : ∃ a n c, v8 = Value.slice a n c := (by obtain ⟨a, c, e, _⟩ := (hO8.ints (by rw [List.length_append, List.length_singleton]; have h := HS.out.2.2.2.2.2.2.2.2.2.2.1; exact Nat.le_trans (Nat.succ_le_succ h) (by decide))).shape; exact ⟨_, _, _, e⟩); subst hv8; have hB8 := HO.out.1.boxed HO.out.2.2.1 hg8; clear f0 f1 f2 f3 f4; obtain ⟨f0, f1, f2, f3, f4⟩ := id hB8) | fail)
      have hOut9 := HO.out.1.putO hO8 hg8 hb8 HS.out.2.2.2.2.2.2.2.2.2.2.1
      have hst : (cutQ (subP P U) k).orders ++ [c] = (subP P U).orders.take (k + 1) := by rw [HS.out.1]; rfl
      rw [hst] at hOut9
      have hg39 := HO.out.1.near (j := 0) (v' := .slice g8 m8 k8) (w0 := w3) HO.out.2.2.1 hg8 (Nat.le_refl _) hg3q
      clear f0 f1 f2 f3 f4 hst hB8
      generalize w8.setCell ⟨qb, 0, none⟩ (.slice g8 m8 k8) = w9 at *
      have hgw9 : Ext w w9 := grown_own hgw3 hg39 (fun j hj hlt => by have := Option.some.inj hj; omega)
      have H9 := Lib.hid hOut9; clear hOut9 hO8 hg8 hb8 HO
      refine Calls.mono (power_ok P G.v w9 _ _ Y c Sp _ (hp.ext hgw9) (Ints.ext HS.out.2.2.2.2.2.2.2.2.1 hgw9) HS.out.2.2.2.1 HS.out.2.2.2.2.2.1) ?_
      rintro eX wX ⟨xv, rfl, hgX, hOX⟩
      rw [HS.out.2.2.2.2.1] at hOX
      have hXi := hOX.ints (by have := HS.out.2.2.2.2.2.2.2.2.2.2.2.2.2.2; omega)
      obtain ⟨aX, nX, cX, hxv⟩ : ∃ a n c, xv = Value.slice a n c := by obtain ⟨a, c, e, _⟩ := hXi.shape; exact ⟨_, _, _, e⟩
      subst hxv
      have hgwX := grown_trans hgw9 hgX
      go_wp2_with fail
      refine Calls.mono (memExpU_ok P G wX _ _ _ U X Sp Su _ HU.out.1 (hp.ext hgwX) (Rows2.ext hu hgwX) hXi HS.out.2.2.2.2.2.2.1) ?_
      rintro eR wR ⟨rv, rfl, hgR, aR, nR, cR, rfl, hOR⟩
      rw [← HS.out.2.2.2.2.2.2.2.1] at hOR
      have hgXR : Ext w9 wR := grown_trans hgX hgR
      have hYO : OwnIn (From w9.heap.size) wR (.slice aR nR cR) R := OwnIn.of hOR (by omega) (fun k h _ => by have := hgX.size; show w9.heap.size ≤ k; omega)
      obtain ⟨Fo, Fp, Fc, hPt, o1, o2, o3⟩ := H9.out.parts
      have hB7 := H9.out.box.ext hgXR
      have HO := Lib.hid (And.intro hPt (And.intro o1 (And.intro o2 o3))); clear hPt o1 o2 o3 hOR hOX hXi
      obtain ⟨N, hN⟩ : ∃ N, N = (U.drop (k + 1)).length := ⟨_, rfl⟩
      have hNm : N = U.length - (k + 1) := by rw [hN, List.length_drop]
      have hrt : ∃ ta tc, (∀ w', (Instr.slice 25 (.slice (some ⟨bu, ou, none⟩) U.length capu) (some (.int .i64 ((k : Int) + 1))) none none).run Tryz.prog w' = .ok (.slice ta N tc) w') ∧ Rows2 Su w (.slice ta N tc) (U.drop (k + 1)) := by
        have htl := subSl_sl hu (k + 1) U.length (by omega) (Nat.le_refl _)
        rw [List.take_length] at htl
        obtain ⟨ta, tc, hsv, _, _⟩ := Sl.shape htl
        rw [hsv, ← hN] at htl
        refine ⟨ta, tc, fun w' => ?_, htl⟩
        have h := run_tail_rows w' (some ⟨bu, ou, none⟩) U.length capu ((k : Int) + 1) (by omega) (by omega)
        rw [show ((k : Int) + 1).toNat = k + 1 by omega, hsv, ← hN] at h; exact h
      obtain ⟨ta, tc, hrt, htl0⟩ := hrt
      obtain ⟨f0, f1, f2, f3, f4⟩ := id hB7
      go_wp2_with (first | (at_builtin; refine wp_app_I rdOwn 25 (.slice none 0 0) 24 und_rows Tryz.infoRow rfl (by decide) rfl _ _ rfl Fp w9 wR _ _ ((subP P U).powers.take k) R rfl HO.out.1.p hgXR hYO rfl rfl HS.out.2.2.2.2.2.2.2.2.2.2.2.1 ?_; intro v8 w10 hO8 hg8 hg9; obtain ⟨h8, m9, k9, rfl, hm8⟩ := SlI.sl hO8; clear hm8; have hB8 := H9.out.boxed HO.out.2.2.1 hg8; clear f0 f1 f2 f3 f4; obtain ⟨f0, f1, f2, f3, f4⟩ := id hB8) | fail)
      have hOut10 := H9.out.putP HO.out.1 hO8 hg8
      have hst : (subP P U).powers.take k ++ [R] = (subP P U).powers.take (k + 1) := by rw [HS.out.2.1, HS.out.2.2.2.2.2.2.2.1]
      rw [hst] at hOut10
      have hgx := H9.out.near (j := 1) (v' := .slice h8 m9 k9) (w0 := w3) HO.out.2.2.1 hg8 (Nat.le_refl _) hg39
      clear f0 f1 f2 f3 f4 hst hB8 hB7
      generalize w10.setCell ⟨qb, 1, none⟩ (.slice h8 m9 k9) = w6 at *
      have hgw6 : Ext w w6 := grown_own hgw3 hgx (fun j hj hlt => by have := Option.some.inj hj; omega)
      have htl : Rows2 Su w6 (.slice ta N tc) (U.drop (k + 1)) := Rows2.ext htl0 hgw6
      have hgt : ∀ l, l < N → gt (U.drop (k + 1)) l = gt U (k + 1 + l) := fun l _ => by simp [gt, List.getElem?_drop]
      obtain ⟨C, hC⟩ : ∃ C, C = (U.drop (k + 1)).map (fun y => mxV P U (rConj P y Y)) := ⟨_, rfl⟩
      have hCl : C.length = N := by rw [hC, List.length_map, hN]
      have hCg : ∀ l, l < N → gt C l = mxV P U (rConj P (gt U (k + 1 + l)) Y) := fun l hl => by
        rw [hC, gt_map _ _ _ (by rw [← hN]; exact hl), hgt l hl]
      have hst3 : (subP P U).conj.take (k + 1) = (subP P U).conj.take k ++ [C] := by rw [HS.out.2.2.1, hC]
      have htk3 : ((subP P U).conj.take k).length ≤ 1000000 := by rw [List.length_take]; omega
      have H6 := Lib.hid (And.intro hOut10 (And.intro htl (And.intro hgt (And.intro hCl (And.intro hCg (And.intro hst3 (And.intro htk3 hN))))))); clear hOut10 htl hgt hCl hCg hst3 htk3 hN hC hO8 hg8 hg9 HO H9 htl0
      have hN6 : N ≤ 6 := by omega
      have hYi6 := Ints.ext HS.out.2.2.2.2.2.2.2.2.1 hgw6
      have hYU : Y = gt U k := by rw [HYU.out]
      have HY6 := Lib.hid (And.intro hYi6 hYU); clear hYi6 hYU
      clear hrt
      go_loopw [12, 64] (fun lv jv wr => ∃ (l : Nat) (v7 : Value), v7 = lv ∧ jv = .int .i64 (l : Int) ∧ l ≤ N ∧ Ext w6 wr ∧ RowsO w6.heap.size wr v7 (C.take l)) (fun _ jv _ => N - (intOf jv).toNat)
      case atStart => exact ⟨0, _, rfl, rfl, by omega, Ext.refl _, SlO.nil _ _ _ _⟩
      case round =>
        obtain ⟨l, v7, rfl, rfl, hl, hgl, hO⟩ := hrel
        obtain ⟨wo, rfl⟩ : ∃ wo : World, wo = wr := ⟨_, rfl⟩
        have hgwo : Ext w wo := grown_trans hgw6 hgl
        by_cases hltl : l < N
        · have hltl' : (l : Int) < N := by omega
          obtain ⟨bd, od, xa2, xc2, rfl, _, _, hcd, hxi2⟩ := Rows2.at (Rows2.ext H6.out.2.1 hgl) l (by rw [← H6.out.2.2.2.2.2.2.2]; exact hltl)
          rw [H6.out.2.2.1 l hltl] at hcd hxi2
          have hju : k + 1 + l < U.length := by omega
          obtain ⟨hcm, _⟩ := u_cj G HU.out.1 (k := k) (l := k + 1 + l) (by omega) hju
          rw [← HY6.out.2] at hcm
          have hgc := H6.out.2.2.2.2.1 l hltl
          have hUV : Vec P.orders (gt U (k + 1 + l)) := HU.out.1.1 _ (gtMem hju)
          obtain ⟨Z, hZ⟩ : ∃ Z, Z = gt U (k + 1 + l) := ⟨_, rfl⟩
          rw [← hZ] at hcm hgc hUV hcd hxi2
          obtain ⟨X2, hX2⟩ : ∃ X2, X2 = rConj P Z Y := ⟨_, rfl⟩
          have hXv : Vec P.orders X2 := by rw [hX2]; exact G.conjV hUV HS.out.2.2.2.1
          have hXc : iConj P Z Y = X2 := by rw [hX2]; exact G.iConj_eq hUV HS.out.2.2.2.1
          rw [← hX2] at hcm hgc
          obtain ⟨R2, hR2⟩ : ∃ R2, R2 = mxV P U X2 := ⟨_, rfl⟩
          have hRl2 : R2.length ≤ 6 := by rw [hR2, (mx_spec G HU.out.1 hcm).1]; omega
          have hstep : C.take (l + 1) = C.take l ++ [R2] := by rw [take_succ_gt _ l (by rw [H6.out.2.2.2.1]; exact hltl), hgc, hR2]
          have htkl : (C.take l).length ≤ 1000000 := by rw [List.length_take]; omega
          have hZl : Z.length ≤ 6 := by rw [hUV.1]; omega
          have HR := Lib.hid (And.intro hUV (And.intro hXv (And.intro hXc (And.intro hR2 (And.intro hstep (And.intro htkl (And.intro hcm hxi2))))))); clear hUV hXv hXc hR2 hstep htkl hgc hX2 hcm hxi2 hZ
          go_wp2_with fail
          refine Calls.mono (conjugate_ok P G.v wo _ _ _ Z Y Sp _ _ (hp.ext hgwo) HR.out.2.2.2.2.2.2.2 (Ints.ext HY6.out.1 hgl) HR.out.1 HS.out.2.2.2.1) ?_
          rintro eB wB ⟨cv2, rfl, hgB, hOB⟩
          rw [HR.out.2.2.1] at hOB
          have hBi := hOB.ints (by rw [HR.out.2.1.1]; omega)
          obtain ⟨aB, nB, cB, hcv⟩ : ∃ a n c, cv2 = Value.slice a n c := by obtain ⟨a, c, e, _⟩ := hBi.shape; exact ⟨_, _, _, e⟩
          subst hcv
          have hgwB := grown_trans hgwo hgB
          have HB := Lib.hid hBi; clear hBi hOB hcd
          go_wp2_with fail
          refine Calls.mono (memExpU_ok P G wB _ _ _ U X2 Sp Su _ HU.out.1 (hp.ext hgwB) (Rows2.ext hu hgwB) HB.out HR.out.2.2.2.2.2.2.1) ?_
          rintro eD wD ⟨rv2, rfl, hgD, aD, nD, cD, rfl, hOD⟩
          rw [← HR.out.2.2.2.1] at hOD
          have hgoD := grown_trans hgB hgD
          have hYO2 : OwnIn (From wo.heap.size) wD (.slice aD nD cD) R2 := OwnIn.of hOD (by omega) (fun k h _ => by have := hgB.size; show wo.heap.size ≤ k; omega)
          clear hOD
          go_wp2_with (first | (at_builtin; refine wp_app_row rfl _ _ rfl w6.heap.size wo wD v7 _ (C.take l) R2 rfl hO hgoD hYO2 rfl rfl HR.out.2.2.2.2.2.1 hgl.size ?_; intro v5 w5 hO5 hg5 hg6; have hgw5 := hO.extw hgl (Nat.le_refl _) hg5) | fail)
          go_roundw
          case rel => exact ⟨l + 1, v5, rfl, by go_num, by omega, hgw5, by rw [HR.out.2.2.2.2.1]; exact hO5⟩
          case measure => simp [intOf]; omega
        · have hle : l = N := by omega
          subst hle
          rw [List.take_of_length_le (by rw [H6.out.2.2.2.1]; exact Nat.le_refl _)] at hO
          have hRI : RowsI (From w6.heap.size) wo v7 C := SlI.of hO (by rw [H6.out.2.2.2.1]; omega) (fun k h _ => h)
          obtain ⟨a4, n4, c4, rfl, hn4⟩ := SlI.sl hRI
          obtain ⟨Fo, Fp, Fc, hPt, o1, o2, o3⟩ := H6.out.1.parts
          have hB7 := H6.out.1.box.ext hgl
          have HN := Lib.hid hn4; clear hn4 hO
          obtain ⟨f0, f1, f2, f3, f4⟩ := id hB7
          go_wp2_with (first | (at_builtin; refine wp_app_I (rdI rdOwn) 26 (.slice none 0 0) 24 und_rows3 Tryz.infoRows rfl (by decide) rfl _ _ rfl Fc w6 wo _ _ ((subP P U).conj.take k) C rfl hPt.c hgl hRI rfl rfl H6.out.2.2.2.2.2.2.1 ?_; intro v8 w8 hO8 hg8 hg9; obtain ⟨g9, m10, k10, rfl, hm8⟩ := SlI.sl hO8; clear hm8; have hB8 := H6.out.1.boxed o3 hg8; clear f0 f1 f2 f3 f4; obtain ⟨f0, f1, f2, f3, f4⟩ := id hB8) | fail)
          have hOut9 := H6.out.1.putC hPt hO8 hg8
          rw [← H6.out.2.2.2.2.2.1] at hOut9
          have hgn := H6.out.1.near (j := 2) (v' := .slice g9 m10 k10) (w0 := w3) o3 hg8 (Nat.le_refl _) hgx
          clear f0 f1 f2 f3 f4
          go_roundw
          case rel => exact ⟨k + 1, _, _, _, _, _, _, _, _, _, by go_num, by omega, hgn, hOut9⟩
          case measure => simp [intOf]; omega
    · have hke : k = U.length := by omega
      subst hke
      have hall : cutQ (subP P U) U.length = subP P U := cutQ_all (by rw [sub_n]; exact Nat.le_refl _) (by show (U.map _).length ≤ _; rw [List.length_map]; exact Nat.le_refl _) (by show ((List.range _).map _).length ≤ _; rw [List.length_map, List.length_range]; exact Nat.le_refl _)
      rw [hall] at hOut
      have hz := HI.out.2.2.1.keep hg.size (hg.block _ HI.out.2.2.1.1 (fun e => by have := Option.some.inj e; omega))
      obtain ⟨h0, h1, h2, h3, h4⟩ := id hOut.box
      obtain ⟨k0, k1, k2, k3, k4⟩ := id hz
      have hZ := hz.all (.slice a1 n1 c1) (.slice a2 n2 c2) (.slice a3 n3 c3)
      have hT := grown_set3 wr w.heap.size (.slice a1 n1 c1) (.slice a2 n2 c2) (.slice a3 n3 c3)
      obtain ⟨_, z0, z1, z2, _⟩ := id hZ
      have hend : Ret w (PresR w.heap.size (subP P U)) (.returned (.agg #[.slice a1 n1 c1, .slice a2 n2 c2, .slice a3 n3 c3])) (((wr.setCell ⟨w.heap.size, 0, none⟩ (.slice a1 n1 c1)).setCell ⟨w.heap.size, 1, none⟩ (.slice a2 n2 c2)).setCell ⟨w.heap.size, 2, none⟩ (.slice a3 n3 c3)) :=
        ⟨_, rfl, grown_own hgw hT (fun j hj hlt => by cases hj; omega), hOut.ret (by omega) (by omega) hT⟩
      have HE := Lib.hid hend; clear hend hT hZ hall
      go_wp2
      refine bodyPost_ret (v := .agg #[.slice a1 n1 c1, .slice a2 n2 c2, .slice a3 n3 c3]) (by simp [results, Tryz.results93, go_sem, z0, z1, z2]) rfl ?_
      exact HE.out

end Go.Proofs.YtldheeicjnncoaaGreat
namespace Go.Proofs.YtldheeicjnncoaaGreat
open Go.RowKit
attribute [local go_sem ↓] Go.wp_at_zero Go.wp_at_succ

set_option maxRecDepth 100000 in
set_option maxHeartbeats 4000000 in
theorem iSupP_ok (P : Pr) (hr : rconsB P = true) (w : World) (pv uv : Value) (U : List (List Int)) (Sp Su : Nat → Prop) (hpv : PresV Sp w pv P) (hu : Rows2 Su w uv U) (hU : SubB P U) :
    Calls Tryz.prog 20 #[pv, uv] w (Ret w (PC (subP P U) 0)) := by
  obtain ⟨au, capu, rfl, _, _⟩ := Sl.shape hu
  obtain ⟨vo, vp, vc, rfl, h3⟩ := hpv
  have hp0 := (PresP.box h3 28).ext (World.grownBy_alloc _ (.cells #[.slice none 0 0, .slice none 0 0, .slice none 0 0] 28) none)
  have hg0 : Ext w ((w.alloc (.cells #[vo, vp, vc] 28)).alloc (.cells #[.slice none 0 0, .slice none 0 0, .slice none 0 0] 28)) := grown_trans (World.grownBy_alloc _ _ _) (World.grownBy_alloc _ _ _)
  have hR := Box3.made (w.alloc (.cells #[vo, vp, vc] 28)) 28 (.slice none 0 0) (.slice none 0 0) (.slice none 0 0)
  have hs1 : (w.alloc (.cells #[vo, vp, vc] 28)).heap.size = w.heap.size + 1 := by simp
  have hs2 : ((w.alloc (.cells #[vo, vp, vc] 28)).alloc (.cells #[.slice none 0 0, .slice none 0 0, .slice none 0 0] 28)).heap.size = w.heap.size + 2 := by simp
  rw [hs1] at hR
  have HRR := Lib.hid hR; clear hR hs1
  have hgl : Ext ((w.alloc (.cells #[vo, vp, vc] 28)).alloc (.cells #[.slice none 0 0, .slice none 0 0, .slice none 0 0] 28)) (((w.alloc (.cells #[vo, vp, vc] 28)).alloc (.cells #[.slice none 0 0, .slice none 0 0, .slice none 0 0] 28)).alloc (.cells #[.slice au U.length capu] 25)) := World.grownBy_alloc _ _ _
  have hl := rows3One (Rows2.ext hu hg0)
  have hcon := areSubgroups_ok P _ _ _ [U] Any Any (hp0.ext hgl) hl
  rw [hs2] at hcon
  have HHU := Lib.hid (And.intro hr hU); clear hl hU hr
  go_enter Tryz.func20, Tryz.ntmps20
  go_wp2_with fail
  refine Calls.mono hcon ?_
  rintro e1 w1 ⟨v1, rfl, hg1, r1, rfl, hr1⟩
  clear hcon
  obtain rfl : r1 = true := hr1.2 (by have := HHU.out; simp only [List.mem_cons, List.mem_nil_iff, or_false]; exact ⟨this.1, fun u hu => by subst hu; exact this.2⟩)
  clear hr1
  have hg01 := grown_trans hgl hg1
  clear hgl hg1
  generalize ((w.alloc (.cells #[vo, vp, vc] 28)).alloc (.cells #[.slice none 0 0, .slice none 0 0, .slice none 0 0] 28)) = w0 at *
  go_wp2_with fail
  refine Calls.mono (subPres_ok P HHU.out.1 w1 _ _ U Any Su (hp0.ext hg01) (Rows2.ext hu (grown_trans hg0 hg01)) HHU.out.2) ?_
  rintro e9 w9 ⟨v9, rfl, hg9, x9, y9, z9, rfl, hX9⟩
  obtain ⟨a1, n1, c1, hy1⟩ : ∃ a n c, x9 = .slice a n c := by obtain ⟨a, c, e, _⟩ := hX9.p3.o.shape; exact ⟨_, _, _, e⟩
  obtain ⟨a2, n2, c2, hy2⟩ : ∃ a n c, y9 = .slice a n c := by obtain ⟨a, c, e, _⟩ := Sl.shape hX9.p3.p; exact ⟨_, _, _, e⟩
  obtain ⟨a3, n3, c3, hy3⟩ : ∃ a n c, z9 = .slice a n c := by obtain ⟨a, c, e, _⟩ := Sl.shape hX9.p3.c; exact ⟨_, _, _, e⟩
  subst hy1 hy2 hy3
  have hgE : Ext w0 w9 := grown_trans (hg01) hg9
  have hsz : w0.heap.size ≤ w1.heap.size := (hg01).size
  have hz := HRR.out.ext (hgE)
  obtain ⟨k0, k1, k2, k3, k4⟩ := id hz
  have hZ := hz.all (.slice a1 n1 c1) (.slice a2 n2 c2) (.slice a3 n3 c3)
  have hT := grown_set3 w9 (w.heap.size + 1) (.slice a1 n1 c1) (.slice a2 n2 c2) (.slice a3 n3 c3)
  obtain ⟨_, z0, z1, z2, _⟩ := id hZ
  have hend : Ret w (PC (subP P U) 0) (.returned (.tuple #[.agg #[.slice a1 n1 c1, .slice a2 n2 c2, .slice a3 n3 c3], .int .i64 0])) (((w9.setCell ⟨w.heap.size + 1, 0, none⟩ (.slice a1 n1 c1)).setCell ⟨w.heap.size + 1, 1, none⟩ (.slice a2 n2 c2)).setCell ⟨w.heap.size + 1, 2, none⟩ (.slice a3 n3 c3)) :=
    ⟨_, rfl, grown_own (grown_trans hg0 (hgE)) hT (fun j hj hlt => by cases hj; omega), _, _, _, _, _, _, _, _, _, rfl, hX9.p3.mono (frame_of hT (fun k hk _ => ⟨trivial, fun e => by have := Option.some.inj e; have hk : w1.heap.size ≤ k := hk; omega⟩))⟩
  have HE := Lib.hid hend; clear hend hT hZ
  go_wp2
  refine bodyPost_ret (v := .tuple #[.agg #[.slice a1 n1 c1, .slice a2 n2 c2, .slice a3 n3 c3], .int .i64 0]) (by simp [results, Tryz.results20, go_sem, z0, z1, z2]) rfl ?_
  exact HE.out

end Go.Proofs.YtldheeicjnncoaaGreat
namespace Go.Proofs.YtldheeicjnncoaaGreat
open Go.RowKit
attribute [local go_sem ↓] Go.wp_at_zero Go.wp_at_succ

set_option maxRecDepth 100000 in
set_option maxHeartbeats 4000000 in
theorem iQuoP_ok (P : Pr) (hr : rconsB P = true) (w : World) (pv uv : Value) (U : List (List Int)) (Sp Su : Nat → Prop) (hpv : PresV Sp w pv P) (hu : Rows2 Su w uv U) (hU : SubB P U) (hn : NormG P (gU P U) U) :
    Calls Tryz.prog 22 #[pv, uv] w (Ret w (PC (quoP P U) 0)) := by
  have hcp : cpnC P U = 0 := cpn_ok ⟨hr, hU⟩ (by rw [← hU.2]; exact hn)
  obtain ⟨vo, vp, vc, rfl, h3⟩ := hpv
  have hp0 := (PresP.box h3 28).ext (World.grownBy_alloc _ (.cells #[.slice none 0 0, .slice none 0 0, .slice none 0 0] 28) none)
  have hg0 : Ext w ((w.alloc (.cells #[vo, vp, vc] 28)).alloc (.cells #[.slice none 0 0, .slice none 0 0, .slice none 0 0] 28)) := grown_trans (World.grownBy_alloc _ _ _) (World.grownBy_alloc _ _ _)
  have hR := Box3.made (w.alloc (.cells #[vo, vp, vc] 28)) 28 (.slice none 0 0) (.slice none 0 0) (.slice none 0 0)
  have hs1 : (w.alloc (.cells #[vo, vp, vc] 28)).heap.size = w.heap.size + 1 := by simp
  have hs2 : ((w.alloc (.cells #[vo, vp, vc] 28)).alloc (.cells #[.slice none 0 0, .slice none 0 0, .slice none 0 0] 28)).heap.size = w.heap.size + 2 := by simp
  rw [hs1] at hR
  have HRR := Lib.hid hR; clear hR hs1
  have HCP := Lib.hid (And.intro hcp hU); clear hcp hU hn
  obtain ⟨au, capu, rfl, _, _⟩ := Sl.shape hu
  go_enter Tryz.func22, Tryz.ntmps22
  go_wp2_with fail
  generalize ((w.alloc (.cells #[vo, vp, vc] 28)).alloc (.cells #[.slice none 0 0, .slice none 0 0, .slice none 0 0] 28)) = w0 at *
  refine Calls.mono (normalCode_ok P w0 _ _ U Any Su hp0 (Rows2.ext hu hg0)) ?_
  rintro e1 w1 ⟨v1, rfl, hg1, rfl⟩
  rw [HCP.out.1]
  go_wp2_with fail
  refine Calls.mono (quoPres_ok P hr w1 _ _ U Any Su (hp0.ext hg1) (Rows2.ext hu (grown_trans hg0 hg1)) HCP.out.2) ?_
  rintro e9 w9 ⟨v9, rfl, hg9, x9, y9, z9, rfl, hX9⟩
  obtain ⟨a1, n1, c1, hy1⟩ : ∃ a n c, x9 = .slice a n c := by obtain ⟨a, c, e, _⟩ := hX9.p3.o.shape; exact ⟨_, _, _, e⟩
  obtain ⟨a2, n2, c2, hy2⟩ : ∃ a n c, y9 = .slice a n c := by obtain ⟨a, c, e, _⟩ := Sl.shape hX9.p3.p; exact ⟨_, _, _, e⟩
  obtain ⟨a3, n3, c3, hy3⟩ : ∃ a n c, z9 = .slice a n c := by obtain ⟨a, c, e, _⟩ := Sl.shape hX9.p3.c; exact ⟨_, _, _, e⟩
  subst hy1 hy2 hy3
  have hgE : Ext w0 w9 := grown_trans (hg1) hg9
  have hsz : w0.heap.size ≤ w1.heap.size := (hg1).size
  have hz := HRR.out.ext (hgE)
  obtain ⟨k0, k1, k2, k3, k4⟩ := id hz
  have hZ := hz.all (.slice a1 n1 c1) (.slice a2 n2 c2) (.slice a3 n3 c3)
  have hT := grown_set3 w9 (w.heap.size + 1) (.slice a1 n1 c1) (.slice a2 n2 c2) (.slice a3 n3 c3)
  obtain ⟨_, z0, z1, z2, _⟩ := id hZ
  have hend : Ret w (PC (quoP P U) 0) (.returned (.tuple #[.agg #[.slice a1 n1 c1, .slice a2 n2 c2, .slice a3 n3 c3], .int .i64 0])) (((w9.setCell ⟨w.heap.size + 1, 0, none⟩ (.slice a1 n1 c1)).setCell ⟨w.heap.size + 1, 1, none⟩ (.slice a2 n2 c2)).setCell ⟨w.heap.size + 1, 2, none⟩ (.slice a3 n3 c3)) :=
    ⟨_, rfl, grown_own (grown_trans hg0 (hgE)) hT (fun j hj hlt => by cases hj; omega), _, _, _, _, _, _, _, _, _, rfl, hX9.p3.mono (frame_of hT (fun k hk _ => ⟨trivial, fun e => by have := Option.some.inj e; have hk : w1.heap.size ≤ k := hk; omega⟩))⟩
  have HE := Lib.hid hend; clear hend hT hZ
  go_wp2
  refine bodyPost_ret (v := .tuple #[.agg #[.slice a1 n1 c1, .slice a2 n2 c2, .slice a3 n3 c3], .int .i64 0]) (by simp [results, Tryz.results22, go_sem, z0, z1, z2]) rfl ?_
  exact HE.out

end Go.Proofs.YtldheeicjnncoaaGreat
namespace Go.Proofs.YtldheeicjnncoaaGreat
open Go.RowKit

/-- some presentation with given orders, all of whose parts may be written -/
def PX (N : Nat) (o : List Int) (F : Nat → Prop) (w : World) (vo vp vc : Value) : Prop := ∃ P, Shp N P ∧ P.orders = o ∧ PresX F w vo vp vc P

/-- it lies in the variable at pb -/
structure BX (N : Nat) (o : List Int) (B pb : Nat) (w : World) (vo vp vc : Value) : Prop where
  hB : B ≤ pb
  box : Box3 w pb vo vp vc
  px : PX N o (fun k => B ≤ k ∧ k ≠ pb) w vo vp vc

theorem PX.ext {N : Nat} {o : List Int} {F : Nat → Prop} {w w' : World} {vo vp vc : Value} (h : PX N o F w vo vp vc) (hg : Ext w w') : PX N o F w' vo vp vc := by
  obtain ⟨P, h1, h2, h3⟩ := h
  exact ⟨P, h1, h2, h3.mono (fun k hk hlt => ⟨hk, Nat.lt_of_lt_of_le hlt hg.size, hg.block k hlt (by simp)⟩)⟩
theorem BX.ext {N : Nat} {o : List Int} {B pb : Nat} {w w' : World} {vo vp vc : Value} (h : BX N o B pb w vo vp vc) (hg : Ext w w') : BX N o B pb w' vo vp vc := ⟨h.hB, h.box.ext hg, h.px.ext hg⟩
theorem BX.storeP {N : Nat} {o : List Int} {B pb : Nat} {w : World} {vo vp vc : Value} (h : BX N o B pb w vo vp vc) (i : Nat) (hi : i < o.length) :
    ∃ g cap z, vp = .slice (some ⟨g, 0, none⟩) o.length cap ∧ B ≤ g ∧ g ≠ pb ∧ g < w.heap.size ∧ (∀ w2, Ext w w2 → w2.cell? ⟨g, i, none⟩ = some z ∧ w2.frozen? ⟨g, i, none⟩ = false) ∧
      ∀ w2 u y, Ext w w2 → OwnIn (From w.heap.size) w2 u y → y.length ≤ N → BX N o B pb (w2.setCell ⟨g, i, none⟩ u) vo vp vc := by
  obtain ⟨P, h1, h2, h3⟩ := h.px
  obtain ⟨g, cap, z, e1, ⟨q1, q2⟩, q3, q4, q5, q6⟩ := h3.openP i (by rw [h1.p, h2]; exact hi)
  have hpb := h.box.1
  have hB := h.hB
  refine ⟨g, cap, z, by rw [e1, h1.p, h2], q1, q2, q3, fun w2 hg => ⟨hg.cell q4 (by simp), (World.frozen?_of_block (hg.block g q3 (by simp))).trans (q5 i (by rw [h1.p, h2]; exact hi))⟩, fun w2 u y hg hu hy => ⟨hB, Box3.keep h.box (grown_trans (grown_of_ext (some g) hg) (grown_set1 w2 g i u)).size ((grown_trans (grown_of_ext (some g) hg) (grown_set1 w2 g i u)).block _ hpb (fun e => q2 (by cases e; rfl))), setP P i y, h1.setP i hy, h2, ?_⟩⟩
  exact (q6 w2 u y hg hu).wide (fun k hk => by rcases hk with hk | hk; exact hk; exact ⟨by omega, by omega⟩)
theorem BX.storeC {N : Nat} {o : List Int} {B pb : Nat} {w : World} {vo vp vc : Value} (h : BX N o B pb w vo vp vc) (i j : Nat) (hi : i < o.length) (hj : j < o.length - 1 - i) :
    ∃ g cap b cap2 z, vc = .slice (some ⟨g, 0, none⟩) o.length cap ∧ B ≤ g ∧ g ≠ pb ∧ g < w.heap.size ∧ w.cell? ⟨g, i, none⟩ = some (.slice (some ⟨b, 0, none⟩) (o.length - 1 - i) cap2) ∧ B ≤ b ∧ b ≠ pb ∧ b ≠ g ∧ b < w.heap.size ∧
      (∀ w2, Ext w w2 → w2.cell? ⟨b, j, none⟩ = some z ∧ w2.frozen? ⟨b, j, none⟩ = false) ∧
      ∀ w2 u y, Ext w w2 → OwnIn (From w.heap.size) w2 u y → y.length ≤ N → BX N o B pb (w2.setCell ⟨b, j, none⟩ u) vo vp vc := by
  obtain ⟨P, h1, h2, h3⟩ := h.px
  have hiP : i < P.orders.length := by rw [h2]; exact hi
  have hl : (gt P.conj i).length = o.length - 1 - i := by rw [h1.cl i hiP, h2]
  obtain ⟨g, cap, b, cap2, z, e1, ⟨q1, q2⟩, q3, q4, ⟨r1, r2⟩, r3, r4, r5, r6, r7⟩ := h3.openC i j (by rw [h1.c]; exact hiP) (by rw [hl]; exact hj)
  have hpb := h.box.1
  have hB := h.hB
  rw [hl] at q4
  refine ⟨g, cap, b, cap2, z, by rw [e1, h1.c, h2], q1, q2, q3, q4, r1, r2, r3, r4, fun w2 hg => ⟨hg.cell r5 (by simp), (World.frozen?_of_block (hg.block b r4 (by simp))).trans r6⟩, fun w2 u y hg hu hy => ⟨hB, Box3.keep h.box (grown_trans (grown_of_ext (some b) hg) (grown_set1 w2 b j u)).size ((grown_trans (grown_of_ext (some b) hg) (grown_set1 w2 b j u)).block _ hpb (fun e => r2 (by cases e; rfl))), setC P i j y, h1.setC i j hiP hy, h2, ?_⟩⟩
  exact (r7 w2 u y hg hu).wide (fun k hk => by rcases hk with hk | hk; exact hk; exact ⟨by omega, by omega⟩)

/-- the answer: some presentation by value, of bounded shape, in new blocks -/
def PresN (N B : Nat) (w' : World) (v : Value) : Prop := ∃ P, Shp N P ∧ PresR B P w' v
theorem PresN.weak {N B B' : Nat} {w' : World} {v : Value} (h : PresN N B w' v) (hB : B' ≤ B) : PresN N B' w' v := by
  obtain ⟨P, h1, a, b, c, e, h2⟩ := h
  exact ⟨P, h1, a, b, c, e, h2.wide (fun k hk => Nat.le_trans hB hk)⟩
theorem BX.ret {N : Nat} {o : List Int} {B pb : Nat} {w : World} {vo vp vc : Value} (h : BX N o B pb w vo vp vc) {w' : World} {r : Nat} (hT : w.grownBy w' (some r)) (hr : r < B) : PresN N B w' (.agg #[vo, vp, vc]) := by
  obtain ⟨P, h1, h2, h3⟩ := h.px
  exact ⟨P, h1, _, _, _, rfl, h3.mono (frame_of hT (fun k hk _ => ⟨hk.1, fun e => by cases e; have : B ≤ r := hk.1; omega⟩))⟩
/-- the trivial presentation, put into a variable -/
theorem BX.start {N : Nat} {o : List Int} {B : Nat} {w w' : World} {vo vp vc : Value} (hl : o.length ≤ N) (h : PresX (From B) w vo vp vc (trivP o)) (hg : Ext w w') (hb : Box3 w' w.heap.size vo vp vc) (hB : B ≤ w.heap.size) : BX N o B w.heap.size w' vo vp vc :=
  ⟨hB, hb, trivP o, trivP_shp o hl, rfl, h.mono (fun k hk hlt => ⟨⟨hk, by omega⟩, Nat.lt_of_lt_of_le hlt hg.size, hg.block k hlt (by simp)⟩)⟩

/-- the same, the parts in blocks of F -/
structure BXF (N : Nat) (o : List Int) (F : Nat → Prop) (pb : Nat) (w : World) (vo vp vc : Value) : Prop where
  ne : ¬ F pb
  box : Box3 w pb vo vp vc
  px : PX N o F w vo vp vc
theorem BX.f {N : Nat} {o : List Int} {B pb : Nat} {w : World} {vo vp vc : Value} (h : BX N o B pb w vo vp vc) : BXF N o (fun k => B ≤ k ∧ k ≠ pb) pb w vo vp vc := ⟨fun h => h.2 rfl, h.box, h.px⟩
theorem BXF.ext {N : Nat} {o : List Int} {F : Nat → Prop} {pb : Nat} {w w' : World} {vo vp vc : Value} (h : BXF N o F pb w vo vp vc) (hg : Ext w w') : BXF N o F pb w' vo vp vc := ⟨h.ne, h.box.ext hg, h.px.ext hg⟩
/-- what lies in F now lies in F' -/
theorem BXF.turn {N : Nat} {o : List Int} {F F' : Nat → Prop} {pb : Nat} {w : World} {vo vp vc : Value} (h : BXF N o F pb w vo vp vc) (hF : ∀ k, F k → k < w.heap.size → F' k) (hn : ¬ F' pb) : BXF N o F' pb w vo vp vc := by
  obtain ⟨P, h1, h2, h3⟩ := h.px
  exact ⟨hn, h.box, P, h1, h2, h3.mono (fun k hk hlt => ⟨hF k hk hlt, hlt, rfl⟩)⟩
theorem BXF.bx {N : Nat} {o : List Int} {F : Nat → Prop} {B pb : Nat} {w : World} {vo vp vc : Value} (h : BXF N o F pb w vo vp vc) (hB : B ≤ pb) (hF : ∀ k, F k → B ≤ k) : BX N o B pb w vo vp vc := by
  obtain ⟨P, h1, h2, h3⟩ := h.px
  exact ⟨hB, h.box, P, h1, h2, h3.wide (fun k hk => ⟨hF k hk, fun e => h.ne (e ▸ hk)⟩)⟩
theorem BXF.storeC {N : Nat} {o : List Int} {F : Nat → Prop} {pb : Nat} {w : World} {vo vp vc : Value} (h : BXF N o F pb w vo vp vc) (i j : Nat) (hi : i < o.length) (hj : j < o.length - 1 - i) (hF : ∀ k, w.heap.size ≤ k → F k) :
    ∃ g cap b cap2 z, vc = .slice (some ⟨g, 0, none⟩) o.length cap ∧ F g ∧ g ≠ pb ∧ g < w.heap.size ∧ w.cell? ⟨g, i, none⟩ = some (.slice (some ⟨b, 0, none⟩) (o.length - 1 - i) cap2) ∧ F b ∧ b ≠ pb ∧ b ≠ g ∧ b < w.heap.size ∧
      (∀ w2, Ext w w2 → w2.cell? ⟨b, j, none⟩ = some z ∧ w2.frozen? ⟨b, j, none⟩ = false) ∧
      ∀ w2 u y, Ext w w2 → OwnIn (From w.heap.size) w2 u y → y.length ≤ N → BXF N o F pb (w2.setCell ⟨b, j, none⟩ u) vo vp vc := by
  obtain ⟨P, h1, h2, h3⟩ := h.px
  have hiP : i < P.orders.length := by rw [h2]; exact hi
  have hl : (gt P.conj i).length = o.length - 1 - i := by rw [h1.cl i hiP, h2]
  obtain ⟨g, cap, b, cap2, z, e1, q1, q3, q4, r1, r3, r4, r5, r6, r7⟩ := h3.openC i j (by rw [h1.c]; exact hiP) (by rw [hl]; exact hj)
  have hpb := h.box.1
  rw [hl] at q4
  have q2 : g ≠ pb := fun e => h.ne (e ▸ q1)
  have r2 : b ≠ pb := fun e => h.ne (e ▸ r1)
  refine ⟨g, cap, b, cap2, z, by rw [e1, h1.c, h2], q1, q2, q3, q4, r1, r2, r3, r4, fun w2 hg => ⟨hg.cell r5 (by simp), (World.frozen?_of_block (hg.block b r4 (by simp))).trans r6⟩, fun w2 u y hg hu hy => ⟨h.ne, Box3.keep h.box (grown_trans (grown_of_ext (some b) hg) (grown_set1 w2 b j u)).size ((grown_trans (grown_of_ext (some b) hg) (grown_set1 w2 b j u)).block _ hpb (fun e => r2 (by cases e; rfl))), setC P i j y, h1.setC i j hiP hy, h2, ?_⟩⟩
  exact (r7 w2 u y hg hu).wide (fun k hk => by rcases hk with hk | hk; exact hk; exact hF k hk)

theorem trivX_shape {F : Nat → Prop} {w : World} {vo vp vc : Value} {o : List Int} (h : PresX F w vo vp vc (trivP o)) : ∃ a c a2 c2 a3 c3, vo = .slice a o.length c ∧ vp = .slice a2 o.length c2 ∧ vc = .slice a3 o.length c3 := by
  obtain ⟨a, c, a2, c2, a3, c3, e1, e2, e3⟩ := h.shape
  exact ⟨a, c, a2, c2, a3, c3, e1, by rw [e2]; simp [trivP], by rw [e3]; simp [trivP]⟩

end Go.Proofs.YtldheeicjnncoaaGreat
namespace Go.Proofs.YtldheeicjnncoaaGreat
open Go.RowKit

section
variable {α : Type} [Inhabited α] {El : (Nat → Prop) → World → Value → α → Prop} {E : Nat}

/-- an element of another place is put into a slice: it reads on -/
theorem SlI.putR (hEl : RdOk El) {F U : Nat → Prop} {g n cap : Nat} {w : World} {xs : List α} {u : Value} {y : α} (h : SlI El E F w (.slice (some ⟨g, 0, none⟩) n cap) xs)
    (hu : El U w u y) (hU : ∀ k, U k → ¬ F k) (j : Nat) :
    Sl (fun w u x => El (fun k => F k ∨ U k) w u x) (fun k => F k ∨ U k) (w.setCell ⟨g, j, none⟩ u) (.slice (some ⟨g, 0, none⟩) n cap) (xs.set j y) := by
  obtain ⟨vs, G, hvl, hl, hO, hF, hG, hd, hE⟩ := h
  have hgl := (hO.lt g rfl).2
  have hFg := hF g rfl
  have hn : n = vs.length := by
    obtain ⟨_, ⟨h, _⟩ | ⟨_, _, _, h, _⟩⟩ := hO <;> cases h; rfl
  subst hn
  have hcap : vs.length ≤ cap := by
    rcases hO.form with ⟨h, _⟩ | ⟨_, _, h, h2, _⟩
    · cases h
    · cases h; exact h2
  obtain ⟨h1, h2⟩ := World.ownsRow.stored hO j u
  have h1 : OwnV 0 E (w.setCell ⟨g, j, none⟩ u) (.slice (some ⟨g, 0, none⟩) vs.length cap) (vs.set j u) := by unfold OwnV; rw [List.length_set]; exact h1
  have hsz : (w.setCell ⟨g, j, none⟩ u).heap.size = w.heap.size := by simp [World.setCell]
  have hblk : ∀ k, k ≠ g → (w.setCell ⟨g, j, none⟩ u).heap[k]? = w.heap[k]? := fun k hk => Below.heap_setCell _ _ _ _ (by simpa using hk)
  refine ⟨_, cap, by rw [List.length_set, hvl], ⟨by rw [List.length_set]; omega, by rw [List.length_set]; exact hl, fun h => by cases h⟩, fun i hi => ?_⟩
  rw [List.length_set] at hi
  refine ⟨g, 0, gt (vs.set j u) i, rfl, .inl hFg, by rw [hsz]; exact hgl, by rw [Nat.zero_add]; exact h1.cell i (by rw [List.length_set]; omega), ?_⟩
  by_cases e : j = i
  · subst e
    rw [gt_set_eq _ _ _ (by omega), gt_set_eq _ _ _ hi]
    exact hEl.mono hu (fun k hk hlt => ⟨.inr hk, by rw [hsz]; exact hlt, hblk k (fun e => hU k hk (e ▸ hFg))⟩)
  · rw [gt_set_ne _ _ _ _ e, gt_set_ne _ _ _ _ e]
    exact hEl.mono (hE i hi) (fun k hk hlt => ⟨.inl (hG i k hi hk).1, by rw [hsz]; exact hlt, hblk k (fun e => (hG i k hi hk).2.1 (by rw [e]; rfl))⟩)
end

theorem PresX.putP {F U : Nat → Prop} {w : World} {vo vp vc u : Value} {P : Pr} {y : List Int} (h : PresX F w vo vp vc P) (i : Nat) (hi : i < P.powers.length) (hu : Ints U w u y) (hU : ∀ k, U k → ¬ F k) :
    ∃ g cap z, vp = .slice (some ⟨g, 0, none⟩) P.powers.length cap ∧ F g ∧ g < w.heap.size ∧ w.cell? ⟨g, i, none⟩ = some z ∧ w.frozen? ⟨g, i, none⟩ = false ∧
      Pres3 (fun k => F k ∨ U k) (w.setCell ⟨g, i, none⟩ u) vo vp vc (setP P i y) := by
  obtain ⟨Fo, Fp, Fc, h1, h2, h3, h4, h5, h6⟩ := h
  rcases SlI.form h2 with ⟨_, e⟩ | ⟨g, cap, rfl, hFg, hgl⟩
  · rw [e] at hi; simp at hi
  obtain ⟨⟨z, hz⟩, hf⟩ := SlI.place h2 i hi
  have hsz : (w.setCell ⟨g, i, none⟩ u).heap.size = w.heap.size := by simp [World.setCell]
  have hblk : ∀ k, k ≠ g → (w.setCell ⟨g, i, none⟩ u).heap[k]? = w.heap[k]? := fun k hk => Below.heap_setCell _ _ _ _ (by simpa using hk)
  have h2' : SlI (fun F w u (x : List Int) => Ints F w u x) 24 Fp w (.slice (some ⟨g, 0, none⟩) P.powers.length cap) P.powers := SlI.map (fun _ _ _ _ h => h.ints) h2
  have hrd : RdOk (fun F w u (x : List Int) => Ints F w u x) := ⟨fun h hb => Ints.mono h hb, fun h => by obtain ⟨_, _, rfl, _⟩ := h.shape; rfl⟩
  have hp := SlI.putR hrd h2' hu (fun k hk h => hU k hk (h5 k h).1) i
  refine ⟨g, cap, z, rfl, (h5 g hFg).1, hgl, hz, hf, ⟨?_, ?_, ?_⟩⟩
  · exact Ints.mono h1.ints (fun k hk hlt => ⟨.inl (h4 k hk).1, by rw [hsz]; exact hlt, hblk k (fun e => (h4 k hk).2.1 (e ▸ hFg))⟩)
  · exact Rows2.sub (S := fun k => Fp k ∨ U k) hp (fun k hk _ => hk.elim (fun h => .inl (h5 k h).1) .inr)
  · exact Rows3.mono (Rows3I.rows h3) (fun k hk hlt => ⟨.inl (h6 k hk), by rw [hsz]; exact hlt, hblk k (fun e => (h5 g hFg).2 (e ▸ hk))⟩)

theorem PresX.putC {F U : Nat → Prop} {w : World} {vo vp vc u : Value} {P : Pr} {y : List Int} (h : PresX F w vo vp vc P) (i j : Nat) (hi : i < P.conj.length) (hj : j < (gt P.conj i).length) (hu : Ints U w u y) (hU : ∀ k, U k → ¬ F k) :
    ∃ g cap b cap2 z, vc = .slice (some ⟨g, 0, none⟩) P.conj.length cap ∧ F g ∧ g < w.heap.size ∧ w.cell? ⟨g, i, none⟩ = some (.slice (some ⟨b, 0, none⟩) (gt P.conj i).length cap2) ∧ F b ∧ b ≠ g ∧ b < w.heap.size ∧
      w.cell? ⟨b, j, none⟩ = some z ∧ w.frozen? ⟨b, j, none⟩ = false ∧ Pres3 (fun k => F k ∨ U k) (w.setCell ⟨b, j, none⟩ u) vo vp vc (setC P i j y) := by
  obtain ⟨Fo, Fp, Fc, h1, h2, h3, h4, h5, h6⟩ := h
  rcases SlI.form h3 with ⟨_, e⟩ | ⟨g, cap, rfl, hFg, hgl⟩
  · rw [e] at hi; simp at hi
  have h3' := h3
  obtain ⟨vs, G, hvl, hl, hO, hF, hG, hd, hE⟩ := h3
  have hn : vs.length = P.conj.length := hvl
  have hEi := hE i hi
  rcases SlI.form hEi with ⟨_, e⟩ | ⟨b, cap2, hub, hGb, hbl⟩
  · rw [e] at hj; simp at hj
  rw [hub] at hEi
  obtain ⟨hFb, hbg, _⟩ := hG i b hi hGb
  have hbg : b ≠ g := fun e => hbg (by rw [e]; rfl)
  obtain ⟨⟨z, hz⟩, hf⟩ := SlI.place hEi j hj
  have hci : w.cell? ⟨g, i, none⟩ = some (.slice (some ⟨b, 0, none⟩) (gt P.conj i).length cap2) := by
    rw [← hub]
    have hO2 : OwnV 0 25 w (.slice (some ⟨g, 0, none⟩) P.conj.length cap) vs := hO
    exact hO2.cell i (by omega)
  have hEi' : SlI (fun F w u (x : List Int) => Ints F w u x) 24 (G i) w (.slice (some ⟨b, 0, none⟩) (gt P.conj i).length cap2) (gt P.conj i) := SlI.map (fun _ _ _ _ h => h.ints) hEi
  have hrd : RdOk (fun F w u (x : List Int) => Ints F w u x) := ⟨fun h hb => Ints.mono h hb, fun h => by obtain ⟨_, _, rfl, _⟩ := h.shape; rfl⟩
  have hp := SlI.putR hrd hEi' hu (fun k hk h => hU k hk (h6 k (hG i k hi h).1)) j
  have hsz : (w.setCell ⟨b, j, none⟩ u).heap.size = w.heap.size := by simp [World.setCell]
  have hblk : ∀ k, k ≠ b → (w.setCell ⟨b, j, none⟩ u).heap[k]? = w.heap[k]? := fun k hk => Below.heap_setCell _ _ _ _ (by simpa using hk)
  have h3r := Rows3I.rows h3'
  refine ⟨g, cap, b, cap2, z, rfl, h6 g hFg, hgl, hci, h6 b hFb, hbg, hbl, hz, hf, ⟨?_, ?_, ?_⟩⟩
  · exact Ints.mono h1.ints (fun k hk hlt => ⟨.inl (h4 k hk).1, by rw [hsz]; exact hlt, hblk k (fun e => (h4 k hk).2.2 (e ▸ hFb))⟩)
  · exact Rows2.mono (RowsI.rows h2) (fun k hk hlt => ⟨.inl (h5 k hk).1, by rw [hsz]; exact hlt, hblk k (fun e => (h5 k hk).2 (e ▸ hFb))⟩)
  · refine ⟨_, cap, by show _ = Value.slice _ (P.conj.set i _).length _; rw [List.length_set], ⟨?_, ?_, fun h => by cases h⟩, fun k hk => ?_⟩
    · obtain ⟨a, c, e, e2, _⟩ := Sl.shape h3r
      cases e
      show (P.conj.set i _).length ≤ _; rw [List.length_set]; exact e2
    · show (P.conj.set i _).length ≤ _; rw [List.length_set]; exact hl
    · have hk : k < P.conj.length := by
        have hk : k < (P.conj.set i ((gt P.conj i).set j y)).length := hk
        rw [List.length_set] at hk; exact hk
      show ∃ b_1 off u_1, _ ∧ _ ∧ _ ∧ _ ∧ Rows2 _ _ u_1 (gt (P.conj.set i ((gt P.conj i).set j y)) k)
      have hO2 : OwnV 0 25 w (.slice (some ⟨g, 0, none⟩) P.conj.length cap) vs := hO
      have hck : (w.setCell ⟨b, j, none⟩ u).cell? ⟨g, 0 + k, none⟩ = some (gt vs k) := by
        rw [Nat.zero_add, World.cell?_of_block (w := w) (a := ⟨g, k, none⟩) (hblk g (fun e => hbg e.symm))]
        exact hO2.cell k (by omega)
      refine ⟨g, 0, gt vs k, rfl, .inl (h6 g hFg), by rw [hsz]; exact hgl, hck, ?_⟩
      by_cases e : i = k
      · subst e
        rw [gt_set_eq _ _ _ hi, hub]
        exact Rows2.sub (S := fun k => G i k ∨ U k) hp (fun k hk _ => hk.elim (fun h => .inl (h6 k (hG i k hi h).1)) .inr)
      · rw [gt_set_ne _ _ _ _ e]
        have hr := RowsI.rows (hE k hk)
        exact Rows2.mono hr (fun m hm hlt => ⟨.inl (h6 m (hG k m hk hm).1), by rw [hsz]; exact hlt, hblk m (fun e2 => e (hd i k b hi hk hGb (e2 ▸ hm)))⟩)

end Go.Proofs.YtldheeicjnncoaaGreat
namespace Go.Proofs.YtldheeicjnncoaaGreat
open Go.RowKit
attribute [local go_sem ↓] Go.wp_at_zero Go.wp_at_succ

theorem rows_bound {P : Pr} {N : Nat} (h : Shp N P) (hN : N ≤ 1000) : (∀ x ∈ P.powers, x.length ≤ 1000000) ∧ P.powers.length ≤ 1000000 ∧ P.conj.length ≤ 1000000 ∧ (∀ i, i < P.conj.length → (∀ x ∈ gt P.conj i, x.length ≤ 1000000) ∧ (gt P.conj i).length ≤ 1000000) := by
  have hn := h.n
  refine ⟨fun x hx => by have := h.pv x hx; omega, by rw [h.p]; omega, by rw [h.c]; omega, fun i hi => ⟨fun x hx => ?_, ?_⟩⟩
  · have := h.cv _ (by rw [gt_eq _ i hi]; exact List.getElem_mem hi) x hx
    omega
  · rw [h.cl i (by rw [← h.c]; exact hi)]; omega

/-- behind the copy of the first two parts -/
def OwnCut (w0 : World) (P : Pr) (q : Value) (wx : World) : Prop := ∃ qb a n c a2 n2 c2, q = .pointer (some ⟨qb, 0, none⟩) ∧ w0.heap.size ≤ qb ∧ Ext w0 wx ∧ Box3 wx qb (.slice a n c) (.slice a2 n2 c2) (.slice none 0 0) ∧
  PresX (fun k => w0.heap.size ≤ k ∧ k ≠ qb) wx (.slice a n c) (.slice a2 n2 c2) (.slice none 0 0) ⟨P.orders, P.powers, []⟩
theorem ownCut_mk {w0 wx : World} {P : Pr} {qb n c n2 c2 a1 a2 b1 b2 : Nat} {a a' : Option Addr} (hq : w0.heap.size ≤ qb) (hE : Ext w0 wx) (hB : Box3 wx qb (.slice a n c) (.slice a' n2 c2) (.slice none 0 0))
    (hA : OwnIn (fun k => a1 ≤ k ∧ k < a2) wx (.slice a n c) P.orders) (hR : RowsI (fun k => b1 ≤ k ∧ k < b2) wx (.slice a' n2 c2) P.powers)
    (h1 : w0.heap.size ≤ a1) (h2 : w0.heap.size ≤ b1) (h3 : a2 ≤ b1 ∨ b2 ≤ a1) (h4 : ¬ (a1 ≤ qb ∧ qb < a2)) (h5 : ¬ (b1 ≤ qb ∧ qb < b2)) : OwnCut w0 P (.pointer (some ⟨qb, 0, none⟩)) wx :=
  ⟨qb, a, n, c, a', n2, c2, rfl, hq, hE, hB, fun k => a1 ≤ k ∧ k < a2, fun k => b1 ≤ k ∧ k < b2, fun _ => False, hA, hR, ⟨[], fun _ _ => False, rfl, by simp, World.ownsRow_nil _ _ _ _, by simp [Value.ownBlock], by simp, by simp, by simp⟩,
    fun k hk => ⟨⟨by omega, fun e => h4 (e ▸ hk)⟩, fun e => by omega, fun e => e⟩, fun k hk => ⟨⟨by omega, fun e => h5 (e ▸ hk)⟩, fun e => e⟩, fun k hk => hk.elim⟩

set_option maxRecDepth 100000 in
set_option maxHeartbeats 4000000 in
theorem l07Own_ok (w : World) (pv : Value) (P : Pr) (S : Nat → Prop) (N : Nat) (hp : PresV S w pv P) (hS : Shp N P) (hN : N ≤ 1000) :
    Calls Tryz.prog 240 #[pv] w (Ret w (PresR w.heap.size P)) := by
  obtain ⟨vo, vp, vc, rfl, h3⟩ := hp
  obtain ⟨ao, capo, hvo, _, _⟩ := h3.o.shape
  obtain ⟨ap, capp, hvp, _, _⟩ := Sl.shape h3.p
  obtain ⟨ac, capc, hvc, _, _⟩ := Sl.shape h3.c
  subst hvo hvp hvc
  have hg0 : Ext w ((w.alloc (.cells #[.slice ao P.orders.length capo, .slice ap P.powers.length capp, .slice ac P.conj.length capc] 28)).alloc (.cells #[.slice none 0 0, .slice none 0 0, .slice none 0 0] 28)) := grown_trans (World.grownBy_alloc _ _ _) (World.grownBy_alloc _ _ _)
  have hA0 := (Box3.made w 28 (.slice ao P.orders.length capo) (.slice ap P.powers.length capp) (.slice ac P.conj.length capc)).ext (World.grownBy_alloc _ (.cells #[.slice none 0 0, .slice none 0 0, .slice none 0 0] 28) _)
  have hR0 := Box3.made (w.alloc (.cells #[.slice ao P.orders.length capo, .slice ap P.powers.length capp, .slice ac P.conj.length capc] 28)) 28 (.slice none 0 0) (.slice none 0 0) (.slice none 0 0)
  have hs1 : (w.alloc (.cells #[.slice ao P.orders.length capo, .slice ap P.powers.length capp, .slice ac P.conj.length capc] 28)).heap.size = w.heap.size + 1 := by simp
  have hs2 : ((w.alloc (.cells #[.slice ao P.orders.length capo, .slice ap P.powers.length capp, .slice ac P.conj.length capc] 28)).alloc (.cells #[.slice none 0 0, .slice none 0 0, .slice none 0 0] 28)).heap.size = w.heap.size + 2 := by simp
  rw [hs1] at hR0
  have hb := rows_bound hS hN
  have hn := hS.n
  have HB := Lib.hid (And.intro hA0 (And.intro hR0 (And.intro hs2 (And.intro hb (And.intro hS hn))))); clear hA0 hR0 hs1 hs2 hb hn
  go_enter Tryz.func240, Tryz.ntmps240
  go_wp2_with fail
  generalize (w.alloc (.cells #[.slice ao P.orders.length capo, .slice ap P.powers.length capp, .slice ac P.conj.length capc] 28)).alloc (.cells #[.slice none 0 0, .slice none 0 0, .slice none 0 0] 28) = w0 at *
  have h30 := h3.ext hg0
  have e0 : ∀ w', Ext w0 w' → w'.cell? ⟨w.heap.size, 0, none⟩ = some (.slice ao P.orders.length capo) := fun w' h => (HB.out.1.ext h).2.1
  have e1 : ∀ w', Ext w0 w' → w'.cell? ⟨w.heap.size, 1, none⟩ = some (.slice ap P.powers.length capp) := fun w' h => (HB.out.1.ext h).2.2.1
  go_cut [3] (fun qv wx => OwnCut w0 P qv wx)
  case first =>
    go_region_held3 (fun w' => Ext w0 w') (first | exact grown_drew _ _ | assumption | exact grown_trans (by assumption) (World.grownBy_alloc _ _ _) | exact grown_own (by assumption) (grown_set3 _ _ _ _ _) (fun j hj hlt => by cases hj; first | (have := hgA.size; omega) | (have := hgB.size; omega) | (simp at hlt)))
      (first
        | (go_at_call 216; refine Calls.mono (Calls.rel2 (w0 := w0) (by assumption) (l01Own2_ok _ _ P.powers S (Rows2.ext h30.p (by assumption)) HB.out.2.2.2.1.1 HB.out.2.2.2.1.2.1)) ?_; rintro eB wB ⟨vB, rfl, hgB, hgB2, hsB, hOB⟩; obtain ⟨aB, capB, hvB, _, _⟩ := SlD.shape (hOB.toD (by have := HB.out.2.2.2.1.2.1; omega)); subst hvB; (try have hQ := Box3.ext hQ hgB2); (first | (have hQ : Box3 _ w0.heap.size _ _ _ := Box3.ext (Box3.made w0.drew _ _ _ _) hgB2) | (have hQ := Box3.ext (Box3.made _ _ _ _ _) hgB2) | skip); (try obtain ⟨f0, f1, f2, f3, f4⟩ := id hQ))
        | (go_at_call 86; refine Calls.mono (Calls.rel2 (w0 := w0) (by assumption) (l01Own_ok _ _ P.orders S (Ints.ext h30.o (by assumption)) (by have := HB.out.2.2.2.2.2; omega))) ?_; rintro eA wA ⟨vA, rfl, hgA, hgA2, hsA, hOA⟩; obtain ⟨aA, capA, hvA, _⟩ := (hOA.ints (by have := HB.out.2.2.2.2.2; omega)).shape; subst hvA; (try have hQ := Box3.ext hQ hgA2); (first | (have hQ : Box3 _ w0.heap.size _ _ _ := Box3.ext (Box3.made w0.drew _ _ _ _) hgA2) | (have hQ := Box3.ext (Box3.made _ _ _ _ _) hgA2) | skip); (try obtain ⟨f0, f1, f2, f3, f4⟩ := id hQ)))
    all_goals (try go_wp2_with fail)
    all_goals go_meet
    all_goals
      have hzA := hgA.size
      have hzB := hgB2.size
      have hnl := HB.out.2.2.2.2.2
      have hpl := HB.out.2.2.2.1.2.1
    · have hQf := Box3.made wB 28 (.slice aA P.orders.length capA) (.slice aB P.powers.length capB) (.slice none 0 0)
      have hgz := World.grownBy_alloc wB (.cells #[.slice aA P.orders.length capA, .slice aB P.powers.length capB, .slice none 0 0] 28) none
      refine ownCut_mk (a1 := w0.heap.size) (a2 := wA.heap.size) (b1 := wA.heap.size) (b2 := wB.heap.size) (by omega) (grown_trans (by assumption) hgz) hQf
             (rdOwn.mono (OwnIn.of hOA (by omega) (fun k h1 h2 => ⟨h1, h2⟩)) (fun k hk hlt => ⟨hk, by have := hgz.size; omega, (hgz.block k (by omega) (by simp)).trans (hgB2.block k hlt (by simp))⟩))
             (rdRowsI.mono (SlI.of hOB (by omega) (fun k h1 h2 => ⟨h1, h2⟩)) (fun k hk hlt => ⟨hk, by have := hgz.size; omega, hgz.block k hlt (by simp)⟩)) (by omega) (by omega) (by omega) (by omega) (by omega)
    · have hQf := hQ.all (.slice aA P.orders.length capA) (.slice aB P.powers.length capB) (.slice none 0 0)
      have hgz := grown_set3 wB wA.heap.size (.slice aA P.orders.length capA) (.slice aB P.powers.length capB) (.slice none 0 0)
      have hgv := grown_trans (World.grownBy_alloc wA (.cells #[.slice none 0 0, .slice none 0 0, .slice none 0 0] 28) none) hgB2
      have hzv : (wA.alloc (.cells #[.slice none 0 0, .slice none 0 0, .slice none 0 0] 28)).heap.size = wA.heap.size + 1 := by simp
      refine ownCut_mk (a1 := w0.heap.size) (a2 := wA.heap.size) (b1 := wA.heap.size + 1) (b2 := wB.heap.size) (by omega) (by assumption) hQf
             (rdOwn.mono (OwnIn.of hOA (by omega) (fun k h1 h2 => ⟨h1, h2⟩)) (fun k hk hlt => ⟨hk, by have := hgz.size; omega, (hgz.block k (by omega) (fun e => by cases e; omega)).trans (hgv.block k (by omega) (by simp))⟩))
             (rdRowsI.mono (SlI.of hOB (by omega) (fun k h1 h2 => ⟨by rw [← hzv]; exact h1, h2⟩)) (fun k hk hlt => ⟨hk, by have := hgz.size; omega, hgz.block k hlt (fun e => by cases e; omega)⟩)) (by omega) (by omega) (by omega) (by omega) (by omega)
    · have hQf := hQ.all (.slice aA P.orders.length capA) (.slice aB P.powers.length capB) (.slice none 0 0)
      have hgz := grown_set3 wB w0.heap.size (.slice aA P.orders.length capA) (.slice aB P.powers.length capB) (.slice none 0 0)
      have hz0 := hQ.1
      refine ownCut_mk (a1 := w0.heap.size + 1) (a2 := wA.heap.size) (b1 := wA.heap.size) (b2 := wB.heap.size) (by omega) (by assumption) hQf
             (rdOwn.mono (OwnIn.of hOA (by omega) (fun k h1 h2 => ⟨by simpa using h1, h2⟩)) (fun k hk hlt => ⟨hk, by have := hgz.size; omega, (hgz.block k (by omega) (fun e => by cases e; omega)).trans (hgB2.block k hlt (by simp))⟩))
             (rdRowsI.mono (SlI.of hOB (by omega) (fun k h1 h2 => ⟨h1, h2⟩)) (fun k hk hlt => ⟨hk, by have := hgz.size; omega, hgz.block k hlt (fun e => by cases e; omega)⟩)) (by omega) (by omega) (by omega) (by omega) (by omega)
  case rest =>
    obtain ⟨qb, a1, n1, c1, a2, n2, c2, rfl, hqb, hg1, hB1, hX1⟩ := hcut
    clear e0 e1
    go_wp2
    go_loopw [4] (fun iv wr => ∃ (i : Nat) (vc : Value), iv = .int .i64 i ∧ i ≤ P.conj.length ∧ Ext w0 wr ∧ Box3 wr qb (.slice a1 n1 c1) (.slice a2 n2 c2) vc ∧
      PresX (fun k => w0.heap.size ≤ k ∧ k ≠ qb) wr (.slice a1 n1 c1) (.slice a2 n2 c2) vc ⟨P.orders, P.powers, P.conj.take i⟩) (fun iv _ => P.conj.length - (intOf iv).toNat)
    case atStart => exact ⟨0, _, rfl, by omega, hg1, hB1, hX1⟩
    case round =>
      clear hB1 hX1 hg1
      obtain ⟨i, vc, rfl, hi, hg, hB, hX⟩ := hrel
      have e2 : ∀ w', Ext wr w' → w'.cell? ⟨w.heap.size, 2, none⟩ = some (.slice ac P.conj.length capc) := fun w' h => (HB.out.1.ext (grown_trans hg h)).2.2.2.1
      have e3 := e2 wr (grown_refl _ _)
      by_cases hlt : i < P.conj.length
      · have hlt' : (i : Int) < P.conj.length := by omega
        obtain ⟨Fo, Fp, Fc, hP⟩ := hX.part
        obtain ⟨_, _, _, a3, n3, c3, _, rfl, _, hn3⟩ := hX.sh2
        have hnb : (Value.slice a3 n3 c3).ownBlock ≠ some qb := by
          obtain ⟨_, _, _, _, _, q1, _⟩ := hP.c
          exact fun e => (hP.dc _ (q1 _ e)).2 rfl
        obtain ⟨bc, oc, ag, capg, rfl, _, hbcl, hc0, hcr0⟩ := Rows3.at h30.c i hlt
        have hcc := hc0
        have hcr := Rows2.ext hcr0 hg
        clear hcr0
        have hq3 : ∀ k, (Value.slice a3 n3 c3).ownBlock = some k → w0.heap.size ≤ k := by
          obtain ⟨_, _, _, _, _, q1, _⟩ := hP.c
          exact fun k e => (hP.dc _ (q1 _ e)).1
        have hbd := HB.out.2.2.2.1.2.2.2 i hlt
        have hstep := take_succ_gt P.conj i hlt
        have htl : (P.conj.take i).length ≤ 1000000 := by rw [List.length_take]; have := HB.out.2.2.2.1.2.2.1; omega
        obtain ⟨G, hG⟩ : ∃ G, G = gt P.conj i := ⟨_, rfl⟩
        rw [← hG] at hcr hbd hstep hcc hc0
        have HR := Lib.hid (And.intro hstep (And.intro htl (And.intro hnb (And.intro hbd (And.intro hcr hq3))))); clear hstep htl hbd hcr hG hn3 hq3 hnb hcc
        have r2 : ∀ w', Ext w0 w' → w'.cell? ⟨bc, oc + i, none⟩ = some (.slice ag G.length capg) := fun w' h => h.cell hc0 (by simp)
        have r4 : ∀ w', Ext w0 w' → w'.cell? ⟨w.heap.size, 2, none⟩ = some (.slice (some ⟨bc, oc, none⟩) P.conj.length capc) := fun w' h => (HB.out.1.ext h).2.2.2.1
        have r3 : ∀ w', Ext wr w' → w'.cell? ⟨qb, 2, none⟩ = some (.slice a3 n3 c3) := fun w' h => (hB.ext h).2.2.2.1
        have f3 := r3 wr.drew (grown_drew _ _)
        clear e2
        go_wp2
        clear e3
        have f2 := r2 wr.drew (grown_trans hg (grown_drew _ _))
        have f4 := r4 wr.drew (grown_trans hg (grown_drew _ _))
        clear r2 r4
        go_region_law (first
            | (go_simp; go_at_call 216; refine Calls.mono (l01Own2_ok _ _ G S (Rows2.ext HR.out.2.2.2.2.1 (grown_drew _ _)) HR.out.2.2.2.1.1 HR.out.2.2.2.1.2) ?_; rintro eG wG ⟨vG, rfl, hgG, hOG⟩; obtain ⟨aG, capG, hvG, _, _⟩ := SlD.shape (hOG.toD (by have := HR.out.2.2.2.1.2; omega)); subst hvG; have hgG2 : Ext wr wG := grown_trans (grown_drew _ _) hgG; have g3 := r3 wG hgG2; have g4 := r3 (wG.alloc (.cells #[.slice aG G.length capG] 25)) (grown_trans hgG2 (World.grownBy_alloc _ _ _)))
            | (refine step_app_I (rdI rdOwn) 26 (.slice none 0 0) 24 und_rows3 Tryz.infoRows rfl (by decide) (by rfl) _ _ (by rfl) Fc wr wG _ _ (P.conj.take i) G (by rfl) hP.c hgG2 (SlI.of hOG (by have := HR.out.2.2.2.1.2; omega) (fun k h _ => h)) (by rfl) (by rfl) HR.out.2.1 ?_; intro v8 w8 hO8 hg8 hg9; obtain ⟨g8, m8, k8, rfl, hm8⟩ := SlI.sl hO8; clear hm8; have hB8 := Box3.keep hB hg8.size (hg8.block _ hB.1 (fun e => HR.out.2.2.1 e.symm)); have hgw8 : Ext w0 w8 := grown_own hg hg8 (fun j hj hlt => by have := HR.out.2.2.2.2.2 _ hj; omega); obtain ⟨f80, f81, f82, f83, f84⟩ := id hB8))
        all_goals
          have hgw9 : Ext w0 (w8.setCell ⟨qb, 2, none⟩ (.slice g8 m8 k8)) := grown_own hgw8 (grown_set1 _ _ _ _) (fun j hj hlt => by cases hj; omega)
          have hB9 := (hB8.put (.slice g8 m8 k8)).2.2
          have hX9 := hP.newC hO8 hg8
          rw [← HR.out.1] at hX9
          have hX10 : PresX (fun k => w0.heap.size ≤ k ∧ k ≠ qb) (w8.setCell ⟨qb, 2, none⟩ (.slice g8 m8 k8)) (.slice a1 n1 c1) (.slice a2 n2 c2) (.slice g8 m8 k8) ⟨P.orders, P.powers, P.conj.take (i + 1)⟩ :=
            hX9.mono (frame_of (grown_set w8 qb 2 (.slice g8 m8 k8)) (fun k hk hlt => by
              have hk' : (w0.heap.size ≤ k ∧ k ≠ qb) ∨ wr.heap.size ≤ k := hk
              have h1 := hB.1
              have h2 := hg.size
              exact ⟨by omega, fun e => by cases e; omega⟩))
          clear f80 f81 f82 f83 f84 f3 g3 g4 f2 f4 r3
          go_wp2
          go_roundw
          case rel => exact ⟨i + 1, _, by go_num, by omega, hgw9, hB9, hX10⟩
          case measure => simp [intOf]; omega
      · have hie : i = P.conj.length := by omega
        subst hie
        rw [List.take_length] at hX
        clear e2
        obtain ⟨_, _, _, a3, n3, c3, _, rfl, hn2, hn3⟩ := hX.sh2
        clear hn2 hn3
        have hz := HB.out.2.1.ext hg
        obtain ⟨h0, h1, h2, h3', h4⟩ := id hB
        obtain ⟨k0, k1, k2, k3, k4⟩ := id hz
        have hZ := hz.all (.slice a1 n1 c1) (.slice a2 n2 c2) (.slice a3 n3 c3)
        have hT := grown_set3 wr (w.heap.size + 1) (.slice a1 n1 c1) (.slice a2 n2 c2) (.slice a3 n3 c3)
        obtain ⟨_, z0, z1, z2, _⟩ := id hZ
        have HT := Lib.hid hT; clear hT hZ
        go_wp2
        refine bodyPost_ret (v := .agg #[.slice a1 n1 c1, .slice a2 n2 c2, .slice a3 n3 c3]) (by simp [results, Tryz.results240, go_sem, z0, z1, z2]) rfl ?_
        have hs2 := HB.out.2.2.1
        exact ⟨_, rfl, grown_own (grown_trans hg0 hg) HT.out (fun j hj hlt => by cases hj; omega), _, _, _, rfl, hX.mono (frame_of HT.out (fun k hk _ => ⟨by show w.heap.size ≤ k; omega, fun e => by cases e; omega⟩))⟩

end Go.Proofs.YtldheeicjnncoaaGreat
namespace Go.Proofs.YtldheeicjnncoaaGreat
open Go.RowKit
attribute [local go_sem ↓] Go.wp_at_zero Go.wp_at_succ

/-- small entries -/
def Sm (l : List Int) : Prop := ∀ x ∈ l, 0 ≤ x ∧ x ≤ 7
theorem Sm.at {l : List Int} (h : Sm l) {i : Nat} (hi : i < l.length) : 0 ≤ gt l i ∧ gt l i ≤ 7 := h _ (by rw [gt_eq l i hi]; exact List.getElem_mem hi)
theorem Sm.set {l : List Int} (h : Sm l) (i : Nat) {x : Int} (hx : 0 ≤ x ∧ x ≤ 7) : Sm (l.set i x) := fun y hy => by
  rcases List.mem_or_eq_of_mem_set hy with h' | h'
  · exact h y h'
  · rw [h']; exact hx
theorem w64_small (x : Int) (h : 0 ≤ x ∧ x ≤ 1000) : wrap64 x = x := IntWalk.wrap64_in _ (by omega)
theorem i64_small (x : Int) (h : 0 ≤ x ∧ x ≤ 1000) : IntKind.i64.wrap x = x := IntWalk.i64_in _ (by omega)
theorem sm_mul {a b : Int} (ha : 0 ≤ a ∧ a ≤ 7) (hb : 0 ≤ b ∧ b ≤ 7) : 0 ≤ a * b ∧ a * b ≤ 49 :=
  ⟨Int.mul_nonneg ha.1 hb.1, Int.le_trans (Int.mul_le_mul ha.2 hb.2 hb.1 (by decide)) (by decide)⟩

set_option maxRecDepth 100000 in
set_option maxHeartbeats 4000000 in
theorem l02Times_ok (w : World) (p : Int) (vv rv : Value) (v : List Int) (R : List (List Int)) (c : Nat) (S S' : Nat → Prop) (hv : Ints S w vv v) (hr : Rows2 S' w rv R) (hp : 1 ≤ p ∧ p ≤ 7) (hvs : Sm v) (hRs : ∀ x ∈ R, Sm x) (hc : c ≤ 100) :
    Calls Tryz.prog 387 #[.int .i64 p, vv, rv, .int .i64 c] w (Ret w fun w' r => ∃ l, l.length = c ∧ Sm l ∧ Own w.heap.size w' r l) := by
  obtain ⟨av, capv, rfl, _, _⟩ := hv.shape
  obtain ⟨ar, capr, rfl, _, _⟩ := Sl.shape hr
  have HV := Lib.hid (And.intro hvs hRs); clear hvs hRs
  go_enter Tryz.func387, Tryz.ntmps387
  go_wp2_with (at_make; refine wp_make_ints rfl _ _ rfl w.heap.size c w.heap.size rfl _ rfl rfl rfl (by omega) (Nat.le_refl _) ?_; intro w1 ho1 hg1 hlt1)
  go_loopw [10] (fun iv wr => ∃ (i : Nat) (l : List Int), iv = .int .i64 i ∧ i ≤ v.length ∧ l.length = c ∧ Sm l ∧ Ext w wr ∧ Own w.heap.size wr (.slice (some ⟨w.heap.size, 0, none⟩) c c) l) (fun iv _ => v.length - (intOf iv).toNat)
  case atStart => exact ⟨0, _, rfl, by omega, by simp, by intro x hx; rw [List.eq_of_mem_replicate hx]; omega, hg1, ho1⟩
  case round =>
    clear ho1 hg1
    obtain ⟨i, l, rfl, hi, hlc, hsl, hg, hO⟩ := hrel
    by_cases hlt : i < v.length
    · have hlt' : (i : Int) < v.length := by omega
      by_cases hlr : i < R.length
      · have hlr' : (i : Int) < R.length := by omega
        obtain ⟨br, or, a2, cap2, rfl, _, _, hcr, hri⟩ := Rows2.at hr i hlr
        have hvi := HV.out.1.at hlt
        have hRi : Sm (gt R i) := HV.out.2 _ (by rw [gt_eq R i hlr]; exact List.getElem_mem hlr)
        obtain ⟨z, hz⟩ : ∃ z, z = gt R i := ⟨_, rfl⟩
        rw [← hz] at hcr hri hRi
        have HR := Lib.hid (And.intro hRi (And.intro hvi hz)); clear hRi hvi hz
        have HL := Lib.hid (And.intro hlc hsl); clear hlc hsl
        have hcr2 := hg.cell hcr (by simp)
        go_wp2
        clear hcr2
        go_loopw [11] (fun jv wx => ∃ (j : Nat) (l : List Int), jv = .int .i64 j ∧ j ≤ z.length ∧ l.length = c ∧ Sm l ∧ Ext w wx ∧ Own w.heap.size wx (.slice (some ⟨w.heap.size, 0, none⟩) c c) l) (fun jv _ => z.length - (intOf jv).toNat)
        case atStart => exact ⟨0, l, rfl, by omega, HL.out.1, HL.out.2, hg, hO⟩
        case round =>
          clear hO hg HL
          obtain ⟨j, l, rfl, hj, hlc, hsl, hg, hO⟩ := hrel
          have hcr2 := hg.cell hcr (by simp)
          by_cases hltc : j < c
          · have hltc' : (j : Int) < c := by omega
            by_cases hltz : j < z.length
            · have hltz' : (j : Int) < z.length := by omega
              obtain ⟨bz, oz, rfl, _, _, hcz⟩ := Ints.at (Ints.ext hri hg) j hltz
              obtain ⟨bv, ov, rfl, _, _, hcv⟩ := Ints.at (Ints.ext hv hg) i hlt
              have hco := hO.cell j (by omega)
              have hfo := hO.frozen j
              have ha := HR.out.2.1
              have hb := HR.out.1.at hltz
              have hx := hsl.at (show j < l.length by omega)
              obtain ⟨a, hae⟩ : ∃ a, a = gt v i := ⟨_, rfl⟩
              obtain ⟨b, hbe⟩ : ∃ b, b = gt z j := ⟨_, rfl⟩
              obtain ⟨x, hxe⟩ : ∃ x, x = gt l j := ⟨_, rfl⟩
              rw [← hae] at ha hcv
              rw [← hbe] at hb hcz
              rw [← hxe] at hx hco
              have hab := sm_mul ha hb
              obtain ⟨ab, habe⟩ : ∃ ab, ab = a * b := ⟨_, rfl⟩
              rw [← habe] at hab
              have hm0 : 0 ≤ (x + ab) % p := Int.emod_nonneg _ (by omega)
              have hm1 : (x + ab) % p < p := Int.emod_lt_of_pos _ (by omega)
              obtain ⟨hO3, hgs⟩ := hO.store j ((x + ab) % p)
              have hsl3 := hsl.set j (x := (x + ab) % p) ⟨hm0, by omega⟩
              have hgn := grown_own hg hgs (fun k hk hlt => by cases hk; omega)
              clear hae hbe hxe
              have hp0 : p ≠ 0 := by omega
              have hl3 : (l.set j ((x + ab) % p)).length = c := by rw [List.length_set]; exact hlc
              have hw2 := i64_small (x + ab) (by omega)
              have hw1 : IntKind.i64.wrap (a * b) = ab := by rw [← habe]; exact i64_small ab (by omega)
              have hw3 : wrap64 (a * b) = ab := by rw [← habe]; exact w64_small ab (by omega)
              have hw4 := w64_small (x + ab) (by omega)
              have c1 : wr.drew.cell? ⟨w.heap.size, j, none⟩ = some (.int .i64 x) := hco
              have c2 : wr.drew.cell? ⟨bv, ov + i, none⟩ = some (.int .i64 a) := hcv
              have c3 : wr.drew.cell? ⟨br, or + i, none⟩ = some (.slice (some ⟨bz, oz, none⟩) z.length cap2) := hcr2
              have c4 : wr.drew.cell? ⟨bz, oz + j, none⟩ = some (.int .i64 b) := hcz
              have c5 : wr.drew.frozen? ⟨w.heap.size, j, none⟩ = false := hfo
              clear hco hcv hcz hfo habe hO
              have hOd := hO3.ext0 (grown_drew (wr.setCell ⟨w.heap.size, j, none⟩ (.int .i64 ((x + ab) % p))) none)
              have hgd := grown_trans hgn (grown_drew (wr.setCell ⟨w.heap.size, j, none⟩ (.int .i64 ((x + ab) % p))) none)
              have HQ := Lib.hid (And.intro hOd (And.intro hgd (And.intro hsl3 hl3))); clear hO3 hgs hgn hsl3 hl3 hOd hgd
              go_wp2
              clear hcr2
              go_still_tail 22, (by kernel_rfl)
              change wpList _ _ _ _ _ wr.drew
              clear hcr hri
              go_wp2
              clear hw1 hw2 hw3 hw4
              go_roundw
              case rel => exact ⟨j + 1, _, by go_num, by omega, HQ.out.2.2.2, HQ.out.2.2.1, HQ.out.2.1, HQ.out.1⟩
              case measure => simp [intOf]; omega
            · have hltz' : ¬ ((j : Int) < z.length) := by omega
              have hgq := hg
              go_wp2
              go_roundw
              case rel => exact ⟨i + 1, l, by go_num, by omega, hlc, hsl, hgq, hO⟩
              case measure => simp [intOf]; omega
          · have hltc' : ¬ ((j : Int) < c) := by omega
            have hgq := hg
            go_wp2
            go_roundw
            case rel => exact ⟨i + 1, l, by go_num, by omega, hlc, hsl, hgq, hO⟩
            case measure => simp [intOf]; omega
      · have hlr' : ¬ ((i : Int) < R.length) := by omega
        go_wp2
        go_ret
        exact ⟨_, rfl, hg, l, hlc, hsl, hO⟩
    · have hlt' : ¬ ((i : Int) < v.length) := by omega
      go_wp2
      go_ret
      exact ⟨_, rfl, hg, l, hlc, hsl, hO⟩
/-- rows of c small entries -/
def SmR (c : Nat) (R : List (List Int)) : Prop := ∀ x ∈ R, x.length = c ∧ Sm x

set_option maxRecDepth 100000 in
set_option maxHeartbeats 4000000 in
theorem l02Product_ok (w : World) (p : Int) (av bv : Value) (A R : List (List Int)) (c : Nat) (S S' : Nat → Prop) (ha : Rows2 S w av A) (hr : Rows2 S' w bv R) (hp : 1 ≤ p ∧ p ≤ 7) (hA : SmR c A) (hR : SmR c R) (hc : c ≤ 100) (hl : A.length ≤ 100) :
    Calls Tryz.prog 362 #[.int .i64 p, av, bv, .int .i64 c] w (Ret w fun w' r => ∃ L, L.length = A.length ∧ SmR c L ∧ RowsO w.heap.size w' r L) := by
  obtain ⟨aa, capa, rfl, _, _⟩ := Sl.shape ha
  obtain ⟨ar, capr, rfl, _, _⟩ := Sl.shape hr
  have HL := Lib.hid (And.intro hA hR); clear hA hR
  go_enter Tryz.func362, Tryz.ntmps362
  go_wp2
  go_loopw [9, 10] (fun ov iv wr => ∃ (i : Nat) (v4 : Value) (L : List (List Int)), v4 = ov ∧ iv = .int .i64 i ∧ i ≤ A.length ∧ L.length = i ∧ SmR c L ∧ Ext w wr ∧ RowsO w.heap.size wr v4 L) (fun _ iv _ => A.length - (intOf iv).toNat)
  case atStart => exact ⟨0, _, [], rfl, rfl, by omega, rfl, (fun x hx => by cases hx), World.grownBy_alloc _ _ _, [], fun _ _ => False, rfl, World.ownsRow_lit w #[] 0 (Nat.le_refl _) (by decide) rfl, by simp, by simp, by simp⟩
  case round =>
    obtain ⟨i, v4, L, rfl, rfl, hi, hLi, hLs, hg, hO⟩ := hrel
    by_cases hlt : i < A.length
    · have hlt' : (i : Int) < A.length := by omega
      obtain ⟨b, off, a2, cap2, rfl, _, _, hcc, hri⟩ := Rows2.at (Rows2.ext ha hg) i hlt
      have hAi := HL.out.1 _ (gtMem hlt)
      have hRs : ∀ x ∈ R, Sm x := fun x hx => (HL.out.2 x hx).2
      have hcon := l02Times_ok wr p _ _ (gt A i) R c _ _ hri (Rows2.ext hr hg) hp hAi.2 hRs hc
      have htl : L.length ≤ 1000000 := by omega
      have HS := Lib.hid (And.intro hLi (And.intro hLs htl)); clear hLi hLs htl hAi hRs
      go_wp2_with fail
      refine Calls.mono hcon ?_
      rintro eC wC ⟨vC, rfl, hgC, l, hlc, hls, hOC⟩
      clear hcon
      have hYO : OwnIn (From wr.heap.size) wC vC l := OwnIn.of hOC (by omega) (fun j h1 _ => h1)
      obtain ⟨ay, capy, hvy, _, _⟩ := hYO.ints.shape
      subst hvy
      have HC := Lib.hid (And.intro hlc hls); clear hcc hlc hls
      go_wp2_with (first | (at_builtin; refine wp_app_row rfl _ _ rfl w.heap.size wr wC v4 _ L l rfl hO hgC hYO rfl rfl HS.out.2.2 hg.size ?_; intro v5 w5 hO5 hg5 hg6; have hgw5 := hO.extw hg (Nat.le_refl _) hg5) | fail)
      go_roundw
      case rel => exact ⟨i + 1, v5, L ++ [l], rfl, by go_num, by omega, by rw [List.length_append, HS.out.1]; rfl, fun x hx => by
        rcases List.mem_append.1 hx with h | h
        · exact HS.out.2.1 x h
        · rw [List.mem_singleton.1 h]; exact HC.out, hgw5, hO5⟩
      case measure => simp [intOf]; omega
    · have hie : i = A.length := by omega
      obtain ⟨az, capz, hvz, _, _⟩ := SlD.shape (hO.toD (by omega))
      subst hvz
      have hlt' : ¬ ((i : Int) < A.length) := by omega
      have HS := Lib.hid (And.intro hLi (And.intro hLs hie)); clear hLi hLs hie
      go_wp2
      go_ret
      exact ⟨_, rfl, hg, L, by rw [HS.out.1, HS.out.2.2], HS.out.2.1, hO⟩

end Go.Proofs.YtldheeicjnncoaaGreat
