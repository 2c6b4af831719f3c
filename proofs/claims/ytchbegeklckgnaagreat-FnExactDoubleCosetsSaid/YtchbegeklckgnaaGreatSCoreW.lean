/-
  impl.copyRows, impl.core.
-/
import Derived.Test.YtchbegeklckgnaaGreatSCoreLaw
import Derived.Test.YtchbegeklckgnaaGreatSMeetW
namespace Go.Proofs.YtchbegeklckgnaaGreat
open Go.RowKit

set_option maxHeartbeats 1000000 in
theorem copyRows_ok (w : World) (v : Value) (L : List (List Int)) (S : Nat → Prop) (hv : Rows2 S w v L) (hL : ∀ x ∈ L, x.length ≤ 1000000) (hlen : L.length ≤ 1000000) :
    Calls Tryz.prog 137 #[v] w (Ret w fun w' r => RowsO w.heap.size w' r L) := by
  obtain ⟨a, cap, rfl, _, _⟩ := Sl.shape hv
  have HL := Lib.hid hL; clear hL
  go_enter Tryz.func137, Tryz.ntmps137
  go_wp2
  go_loopw [3, 8] (fun ov iv wr => ∃ (i : Nat) (v4 : Value), v4 = ov ∧ iv = .int .i64 i ∧ i ≤ L.length ∧ Ext w wr ∧ RowsO w.heap.size wr v4 (L.take i)) (fun _ iv _ => L.length - (intOf iv).toNat)
  case atStart => exact ⟨0, _, rfl, rfl, by omega, Ext.refl _, SlO.nil _ _ _ _⟩
  case round =>
    obtain ⟨i, v4, rfl, rfl, hi, hg, hO⟩ := hrel
    by_cases hlt : i < L.length
    · have hlt' : (i : Int) < L.length := by omega
      obtain ⟨b, off, a2, cap2, rfl, _, _, hc, hr⟩ := Rows2.at (Rows2.ext hv hg) i hlt
      have hstep := take_succ_gt L i hlt
      have hll := HL.out _ (gtMem hlt)
      have htl : (L.take i).length ≤ 1000000 := by rw [List.length_take]; omega
      have HST := Lib.hid (And.intro hstep hll); clear hstep hll
      go_wp2_with fail
      refine Calls.mono (clone_ok wr _ (gt L i) _ hr (by have := HST.out.2; omega)) ?_
      rintro eC wC ⟨vC, rfl, hgC, hOC⟩
      have hYO : OwnIn (From wr.heap.size) wC vC (gt L i) := OwnIn.of hOC (by have := HST.out.2; omega) (fun j h1 _ => h1)
      obtain ⟨ay, capy, hvy, _, _⟩ := hYO.ints.shape
      subst hvy
      clear hc
      go_wp2_with (first | (at_builtin; refine wp_app_row rfl _ _ rfl w.heap.size wr wC v4 _ (L.take i) (gt L i) rfl hO hgC hYO rfl rfl htl hg.size ?_; intro v5 w5 hO5 hg5 hg6; have hgw5 := hO.extw hg (Nat.le_refl _) hg5) | fail)
      go_roundw
      case rel => exact ⟨i + 1, v5, rfl, by go_num, by omega, hgw5, by rw [HST.out.1]; exact hO5⟩
      case measure => simp [intOf]; omega
    · have hie : i = L.length := by omega
      subst hie
      rw [List.take_length] at hO
      obtain ⟨az, capz, hvz, _, _⟩ := SlD.shape (hO.toD (by omega))
      subst hvz
      go_wp2
      go_ret
      exact ⟨_, rfl, hg, hO⟩

/-- what holds of a subgroup on the way to the core of H -/
def CoreSt (P : Pr) (H K : List Int → Prop) : Prop := Sub P K ∧ (∀ x, K x → H x) ∧ ∀ x, coreP P H x → K x

/-- what holds within a pass that began at K -/
def CorePass (P : Pr) (H K K1 : List Int → Prop) (i : Nat) : Prop := CoreSt P H K1 ∧ (∀ x, K1 x → K x) ∧ ∀ j, j < i → ∀ x, K1 x → cjS P K (unitV P.orders.length j) x

section
variable {P : Pr} (G : Grp P)
include G

theorem Grp.corePass_step {H K K1 : List Int → Prop} {i : Nat} (h : CorePass P H K K1 i) : CorePass P H K (fun x => K1 x ∧ cjS P K1 (unitV P.orders.length i) x) (i + 1) := by
  obtain ⟨⟨s1, s2, s3⟩, h2, h3⟩ := h
  have hu := unitV_vec G.v i
  refine ⟨⟨s1.and (G.cj_sub s1 hu), fun x hx => s2 x hx.1, fun x hx => ⟨s3 x hx, G.norm_cj G.core_norm (fun _ h => h.1) s3 hu x hx⟩⟩, fun x hx => h2 x hx.1, fun j hj x hx => ?_⟩
  rcases Nat.lt_succ_iff_lt_or_eq.1 hj with h | h
  · exact h3 j h x hx.1
  · rw [h]; exact cj_mono h2 hx.2

/-- a pass that changes nothing began at a normal subgroup -/
theorem Grp.corePass_end {H K K1 : List Int → Prop} (S : Sub P K) (h : CorePass P H K K1 P.orders.length) (he : (cseq P K1).length = (cseq P K).length) : NormP P K ∧ ∀ x, K x → K1 x := by
  have hb := (G.len_le h.1.1 S h.2.1).2 he
  exact ⟨G.norm_of_cj S (fun j hj x hx => h.2.2 j hj x (hb x hx)), hb⟩

omit G in
/-- a normal subgroup on the way is the core -/
theorem core_done {H K : List Int → Prop} (h : CoreSt P H K) (hN : NormP P K) : K = coreP P H :=
  funext fun x => propext ⟨fun hx => ⟨h.1.vec x hx, fun g hg => h.2.1 _ (hN x hx g hg)⟩, h.2.2 x⟩

theorem Grp.core_start {H : List Int → Prop} (S : Sub P H) : CoreSt P H H := ⟨S, fun _ h => h, fun x h => G.core_le x h⟩

end

set_option maxRecDepth 100000 in
set_option maxHeartbeats 4000000 in
theorem core_ok (P : Pr) (G : Grp P) (w : World) (p uv : Value) (H : List Int → Prop) (Sp Su : Nat → Prop) (S : Sub P H) (hp : PresP Sp w p P) (hu : Rows2 Su w uv (cseq P H)) :
    Calls Tryz.prog 91 #[p, uv] w (Ret w fun w' v => RowsO w.heap.size w' v (cseq P (coreP P H))) := by
  have hP := G.v
  have hn6 := hP.n6
  obtain ⟨pb, po, rfl⟩ := hp.shape
  have hu0 : Rows2 Any w uv (cseq P H) := Rows2.sub hu (fun _ _ _ => trivial)
  obtain ⟨au, capu, rfl, _, _⟩ := Sl.shape hu
  have HS := Lib.hid S; clear hu
  go_enter Tryz.func91, Tryz.ntmps91
  go_wp2
  go_loopg [1] ((cseq P H).length) (fun gk uv wr => ∃ (K : List Int → Prop), gk = (cseq P K).length ∧ Ext w wr ∧ Rows2 Any wr uv (cseq P K) ∧ Hid (CoreSt P H K))
  case atStart => exact ⟨H, rfl, Ext.refl _, hu0, Lib.hid (G.core_start HS.out)⟩
  case round =>
    clear hu0
    obtain ⟨K, hgk, hg, hu, hK⟩ := hrel
    have hl := G.cseq_len hK.out.1
    obtain ⟨ak, capk, hvk, _, _⟩ := Sl.shape hu
    subst hvk
    have HGK := Lib.hid hgk; clear hgk
    go_wp2_with fail
    refine Calls.mono (isNormal_ok P G wr _ _ K Sp Any hK.out.1 (hp.ext hg) hu) ?_
    rintro e1 w1 ⟨v1, rfl, hg1, r1, rfl, hr1⟩
    have hgw1 := grown_trans hg hg1
    cases r1 with
    | true =>
      have hN := (G.norm_iff hK.out.1).1 (hr1.1 rfl)
      have hE := core_done hK.out hN
      have hV : ∀ x ∈ cseq P K, x.length ≤ 1000000 := fun x hx => by rw [(hK.out.1.vec x ((G.seq_facts hK.out.1).2.1 x hx)).1]; omega
      have HE := Lib.hid (And.intro hE hV); clear hE hN hr1 hV
      go_wp2_with fail
      refine Calls.mono (copyRows_ok w1 _ (cseq P K) Any (Rows2.ext hu hg1) HE.out.2 (by omega)) ?_
      rintro e2 w2 ⟨v2, rfl, hg2, hO2⟩
      rw [HE.out.1] at hO2
      go_wp2
      go_ret
      exact ⟨_, rfl, grown_trans hgw1 hg2, hO2.weak hgw1.size⟩
    | false =>
      have hno : ¬ NormP P K := fun h => by have := hr1.2 ((G.norm_iff hK.out.1).2 h); cases this
      have HNO := Lib.hid hno; clear hno hr1
      go_wp2_with fail
      refine Calls.mono (generators_ok P hP w1 _ Sp (hp.ext hgw1)) ?_
      rintro e2 w2 ⟨v2, rfl, hg2, hO2⟩
      have hgl := gensOf_len P.orders.length
      have hgR := RowsD.rows (SlO.toD hO2 (by omega))
      obtain ⟨ag, capg, hvg, _, _⟩ := Sl.shape hgR
      rw [hgl] at hvg
      subst hvg
      have HGL := Lib.hid hgl; clear hgl hO2
      have hgw2 := grown_trans hgw1 hg2
      have hu2 := Rows2.ext (Rows2.ext hu hg1) hg2
      clear hu
      go_wp2
      go_loopw [1, 14] (fun uv iv wr => ∃ (i : Nat) (K1 : List Int → Prop), iv = .int .i64 i ∧ i ≤ P.orders.length ∧ Ext w2 wr ∧ Rows2 Any wr uv (cseq P K1) ∧ Hid (CorePass P H K K1 i)) (fun _ iv _ => P.orders.length - (intOf iv).toNat)
      case atStart => exact ⟨0, K, rfl, by omega, Ext.refl _, hu2, Lib.hid ⟨hK.out, fun _ h => h, fun j hj => by omega⟩⟩
      case round =>
        clear hu2
        obtain ⟨i, K1, rfl, hi, hgi, hui, hC⟩ := hrel
        have hl1 := G.cseq_len hC.out.1.1
        obtain ⟨a1, cap1, hv1, _, _⟩ := Sl.shape hui
        subst hv1
        have hgwi := grown_trans hgw2 hgi
        by_cases hlt : i < P.orders.length
        · have hlt' : (i : Int) < P.orders.length := by omega
          obtain ⟨bb, off, ax, capx, rfl, _, _, hc, hr⟩ := Rows2.at hgR i (by rw [HGL.out]; exact hlt)
          have hcr := hgi.cell hc (by simp)
          have hge := gensOf_at P.orders.length i hlt
          rw [hge] at hcr hr
          have hxV := unitV_vec hP i
          have hst := G.corePass_step hC.out
          have hcj := G.genP_conjL hC.out.1.1 hxV
          have hLV : ∀ y ∈ cseq P K1, Vec P.orders y := fun y hy => hC.out.1.1.vec y ((G.seq_facts hC.out.1.1).2.1 y hy)
          obtain ⟨g, hgg⟩ : ∃ g, g = unitV P.orders.length i := ⟨_, rfl⟩
          rw [← hgg] at hcr hr hxV hst hcj
          have HI := Lib.hid (And.intro hxV (And.intro hst (And.intro hcj hLV))); clear hxV hst hcj hLV hgg hge hc
          go_wp2_with fail
          clear hcr
          refine Calls.mono (conjugateSubgroup_ok P G wr _ _ _ (cseq P K1) g Sp Any _ (hp.ext hgwi) hui HI.out.2.2.2 (by omega) (Ints.ext hr hgi) HI.out.1) ?_
          rintro e3 w3 ⟨v3, rfl, hg3, hO3⟩
          rw [HI.out.2.2.1] at hO3
          have hSc := G.cj_sub hC.out.1.1 HI.out.1
          have hlc := G.cseq_len hSc
          have hR3 := RowsD.rows (SlO.toD hO3 (by omega))
          obtain ⟨a3, cap3, hv3, _, _⟩ := Sl.shape hR3
          subst hv3
          have hgw3 := grown_trans hgwi hg3
          clear hO3
          go_wp2_with fail
          refine Calls.mono (meet_ok P G w3 _ _ _ K1 (cjS P K1 g) Sp Any _ hC.out.1.1 hSc (hp.ext hgw3) (Rows2.ext hui hg3) hR3) ?_
          rintro e4 w4 ⟨v4, rfl, hg4, hO4⟩
          have hlm := G.cseq_len (hC.out.1.1.and hSc)
          have hR4 : Rows2 Any w4 v4 (cseq P (fun x => K1 x ∧ cjS P K1 g x)) := Rows2.sub (RowsD.rows (SlO.toD hO4 (by omega))) (fun _ _ _ => trivial)
          clear hO4 hR3 hSc
          go_wp2
          go_roundw
          case rel => exact ⟨i + 1, _, by go_num, by omega, grown_trans hgi (grown_trans hg3 hg4), hR4, Lib.hid HI.out.2.1⟩
          case measure => simp [intOf]; omega
        · have hie : i = P.orders.length := by omega
          have hlt2 : (cseq P K1).length < gk := by
            have h1 := (G.len_le hC.out.1.1 hK.out.1 hC.out.2.1).1
            have h2 : (cseq P K1).length ≠ (cseq P K).length := fun h => HNO.out (G.corePass_end hK.out.1 (by rw [← hie]; exact hC.out) h).1
            have := HGK.out
            omega
          have HLT := Lib.hid hlt2; clear hlt2
          subst hie
          go_wp2
          go_roundg ((cseq P K1).length)
          case measure => exact HLT.out
          case rel => exact ⟨K1, rfl, hgwi, hui, Lib.hid hC.out.1⟩

end Go.Proofs.YtchbegeklckgnaaGreat
