/-
  Drawing: spec.l07Both.
  Drawing: spec.l07Group (printed by gen_group.py).
  Drawing: spec.l07Turn (printed by gen_turn.py).
  Drawing: spec.l07Bend (printed by gen_bend.py).
-/
import Derived.Test.YtldheeicjnncoaaGreatE1
import Derived.Test.YtldheeicjnncoaaGreatE11
import Derived.Test.YtldheeicjnncoaaGreatE6
import Derived.Test.YtldheeicjnncoaaGreatE9
import Derived.Deep.RegionHeld3
import Derived.Deep.QuietTactic
import Derived.Deep.CutBlock
namespace Go.Proofs.YtldheeicjnncoaaGreat
open Go.RowKit
attribute [local go_sem ↓] Go.wp_at_zero Go.wp_at_succ

theorem l01OwnS_ok (w : World) (v : Value) (l : List Int) (S : Nat → Prop) (hv : Ints S w v l) (hl : l.length ≤ 1048576) :
    Calls Tryz.prog 86 #[v] w (Ret w fun w' r => Own w.heap.size w' r l ∧ ∃ g c, r = .slice (some ⟨g, 0, none⟩) l.length c ∧ w.heap.size ≤ g) := by
  obtain ⟨a, cap, rfl, _, _⟩ := hv.shape
  go_enter Tryz.func86, Tryz.ntmps86
  go_wp2_with (at_builtin; refine wp_app_ints rfl _ _ rfl w.heap.size _ [] rfl (World.ownsRow_lit w #[] 0 (Nat.le_refl _) (by decide) rfl) _ l rfl S (hv.ext (World.grownBy_alloc _ _ _)) (by simp; omega) (by simp) ?_; intro v' w1 ho1 hg1 hn1)
  go_ret
  refine ⟨_, rfl, grown_own (World.grownBy_alloc _ _ _) hg1 (fun j hj hlt => by have := own_blk hj; omega), ho1, ?_⟩
  rcases ho1.v.form with ⟨h1, _⟩ | ⟨g, c, h1, _, h2, _⟩
  · exact absurd (hn1.1 h1).1 (by intro e; cases e)
  · exact ⟨g, c, by rw [h1]; simp, h2⟩

/-- behind the making of the result -/
def BothCut (w0 : World) (o : List Int) (q : Value) (wx : World) : Prop := ∃ pb ao co ap cp ac cc, q = .pointer (some ⟨pb, 0, none⟩) ∧ Ext w0 wx ∧
  BX 40 o w0.heap.size pb wx (.slice ao o.length co) (.slice ap o.length cp) (.slice ac o.length cc)
theorem bothCut_mk {w0 w5 wx : World} {o : List Int} {pb co cp cc : Nat} {ao ap ac : Option Addr} {B : Nat} (hl : o.length ≤ 40) (hX : PresX (From B) w5 (.slice ao o.length co) (.slice ap o.length cp) (.slice ac o.length cc) (trivP o)) (hB : w0.heap.size ≤ B) (hp : w0.heap.size ≤ pb)
    (hne : pb < B ∨ w5.heap.size ≤ pb) (hE : Ext w0 wx) (hg : w5.grownBy wx (some pb)) (hb : Box3 wx pb (.slice ao o.length co) (.slice ap o.length cp) (.slice ac o.length cc)) : BothCut w0 o (.pointer (some ⟨pb, 0, none⟩)) wx :=
  ⟨pb, ao, co, ap, cp, ac, cc, rfl, hE, hp, hb, trivP o, trivP_shp o hl, rfl, hX.mono (fun k hk hlt => by
    have hk' : B ≤ k := hk
    exact ⟨⟨by omega, by omega⟩, Nat.lt_of_lt_of_le hlt hg.size, hg.block k hlt (fun e => by cases e; omega)⟩)⟩

set_option maxRecDepth 100000 in
set_option maxHeartbeats 4000000 in
theorem l07Both_ok (w : World) (pa pb : Value) (A B : Pr) (Sa Sb : Nat → Prop) (ha : PresV Sa w pa A) (hb : PresV Sb w pb B) (hA : Shp 20 A) (hB : Shp 20 B) :
    Calls Tryz.prog 276 #[pa, pb] w (Ret w (PresN 40 w.heap.size)) := by
  obtain ⟨vo, vp, vc, rfl, h3⟩ := ha
  obtain ⟨uo, up, uc, rfl, k3⟩ := hb
  obtain ⟨ao, cao, hv1, _, _⟩ := h3.o.shape
  obtain ⟨ap, cap, hv2, _, _⟩ := Sl.shape h3.p
  obtain ⟨ac, cac, hv3, _, _⟩ := Sl.shape h3.c
  obtain ⟨bo, cbo, hu1, _, _⟩ := k3.o.shape
  obtain ⟨bp, cbp, hu2, _, _⟩ := Sl.shape k3.p
  obtain ⟨bc, cbc, hu3, _, _⟩ := Sl.shape k3.c
  subst hv1 hv2 hv3 hu1 hu2 hu3
  obtain ⟨w0, hw0⟩ : ∃ w0, w0 = ((w.alloc (.cells #[.slice ao A.orders.length cao, .slice ap A.powers.length cap, .slice ac A.conj.length cac] 28)).alloc (.cells #[.slice bo B.orders.length cbo, .slice bp B.powers.length cbp, .slice bc B.conj.length cbc] 28)).alloc (.cells #[.slice none 0 0, .slice none 0 0, .slice none 0 0] 28) := ⟨_, rfl⟩
  have hg0 : Ext w w0 := by rw [hw0]; exact grown_trans (World.grownBy_alloc _ _ _) (grown_trans (World.grownBy_alloc _ _ _) (World.grownBy_alloc _ _ _))
  have hx1 : Box3 w0 w.heap.size (.slice ao A.orders.length cao) (.slice ap A.powers.length cap) (.slice ac A.conj.length cac) := by rw [hw0]; exact ((Box3.made w 28 _ _ _).ext (World.grownBy_alloc _ _ _)).ext (World.grownBy_alloc _ _ _)
  have hx2 : Box3 w0 (w.heap.size + 1) (.slice bo B.orders.length cbo) (.slice bp B.powers.length cbp) (.slice bc B.conj.length cbc) := by
    have h := (Box3.made (w.alloc (.cells #[.slice ao A.orders.length cao, .slice ap A.powers.length cap, .slice ac A.conj.length cac] 28)) 28 (.slice bo B.orders.length cbo) (.slice bp B.powers.length cbp) (.slice bc B.conj.length cbc)).ext (World.grownBy_alloc _ (.cells #[.slice none 0 0, .slice none 0 0, .slice none 0 0] 28) _)
    rw [hw0]; simpa using h
  have hx3 : Box3 w0 (w.heap.size + 1 + 1) (.slice none 0 0) (.slice none 0 0) (.slice none 0 0) := by
    have h := Box3.made ((w.alloc (.cells #[.slice ao A.orders.length cao, .slice ap A.powers.length cap, .slice ac A.conj.length cac] 28)).alloc (.cells #[.slice bo B.orders.length cbo, .slice bp B.powers.length cbp, .slice bc B.conj.length cbc] 28)) 28 (.slice none 0 0) (.slice none 0 0) (.slice none 0 0)
    rw [hw0]; simpa using h
  have hsz : w0.heap.size = w.heap.size + 3 := by rw [hw0]; simp
  have HB := Lib.hid (And.intro hx1 (And.intro hx2 (And.intro hx3 (And.intro hsz (And.intro hA hB))))); clear hx1 hx2 hx3 hsz hA hB
  go_enter Tryz.func276, Tryz.ntmps276
  go_wp2_with fail
  rw [← hw0]
  clear hw0
  obtain ⟨_, f0, f1, f2, _⟩ := id HB.out.1
  obtain ⟨_, g0, g1, g2, _⟩ := id HB.out.2.1
  go_quiet (fail)
  rename_i nq _
  obtain ⟨wq, hwq⟩ : ∃ wq, wq = w0.drewN nq := ⟨_, rfl⟩
  have hgq : Ext w0 wq := by rw [hwq]; exact grown_drewN _ _ _
  rw [← hwq]
  clear hwq f0 f1 f2 g0 g1 g2
  have hgw := grown_trans hg0 hgq
  have h3q := h3.ext hgw
  have k3q := k3.ext hgw
  have hb1 := HB.out.1.ext hgq
  have hb2 := HB.out.2.1.ext hgq
  have hb3 := HB.out.2.2.1.ext hgq
  have hsA := HB.out.2.2.2.2.1
  have hsB := HB.out.2.2.2.2.2
  have hsz := HB.out.2.2.2.1
  have hqs := hgq.size
  clear HB h3 k3
  have hla : A.orders.length ≤ 20 := hsA.n
  have hlb : B.orders.length ≤ 20 := hsB.n
  obtain ⟨o, ho⟩ : ∃ o, o = A.orders ++ B.orders := ⟨_, rfl⟩
  have hol : o.length = A.orders.length + B.orders.length := by rw [ho]; simp
  have ho40 : o.length ≤ 40 := by omega
  have HB := Lib.hid (And.intro hb1 (And.intro hb2 (And.intro hb3 (And.intro hsA (And.intro hsB (And.intro ho (And.intro hol hsz))))))); clear hb1 hb2 hb3 hsA hsB ho hol
  have e0 : ∀ w', Ext wq w' → w'.cell? ⟨w.heap.size, 0, none⟩ = some (.slice ao A.orders.length cao) := fun w' h => (HB.out.1.ext h).2.1
  have e1 : ∀ w', Ext wq w' → w'.cell? ⟨w.heap.size + 1, 0, none⟩ = some (.slice bo B.orders.length cbo) := fun w' h => (HB.out.2.1.ext h).2.1
  go_wp2_with fail
  go_cut [7] (fun qv wx => BothCut wq o qv wx)
  case first =>
    go_region_held3 (fun w' => Ext wq w') (first | exact grown_drew _ _ | assumption | exact grown_trans (by assumption) (World.grownBy_alloc _ _ _) | exact grown_own (by assumption) (grown_set3 _ _ _ _ _) (fun j hj hlt => by cases hj; first | (exact absurd hlt (Nat.lt_irrefl _)) | (have := hgO.size; omega) | (have := hgA8.size; omega) | (have := hgT.size; omega)))
      (first
        | (go_at_call 86; refine Calls.mono (Calls.rel2 (w0 := wq) (by assumption) (l01OwnS_ok _ _ A.orders Sa (Ints.ext h3q.o (by assumption)) (by omega))) ?_; rintro eO wO ⟨vO, rfl, hgO, hgO2, hsO, hOO, gO, cO, rfl, hgOb⟩; (first | (have hQ := Box3.ext (Box3.made _ _ _ _ _) hgO2) | (have hQ := Box3.ext (Box3.made _ _ _ _ _) (grown_trans (grown_drew _ _) hgO2)) | skip); (try obtain ⟨f0, f1, f2, f3, f4⟩ := id hQ))
        | (refine step_app_list rfl _ _ rfl wq.heap.size gO cO A.orders.length A.orders B.orders rfl (by rfl) (by first | exact hOO.weak hsO | exact (hOO.weak hsO).ext0 (World.grownBy_alloc _ _ _)) _ Sb (Ints.ext k3q.o (by assumption)) (by rfl) (by omega) ((show Ext wq _ by assumption).size) ?_; intro v8 w8 hO8 hg8; rw [← HB.out.2.2.2.2.2.1] at hO8; obtain ⟨a8, c8, hv8, _⟩ := (hO8.ints (by omega)).shape; subst hv8; have hOi := Ints.sub (hO8.ints (by omega)) (S' := Any) (fun _ _ _ => trivial); have hgA8 : Ext wq w8 := grown_own (by assumption) hg8 (fun j hj hlt => by cases hj; omega); (first | (have hQ := Box3.keep hQ hg8.size (hg8.block _ hQ.1 (fun e => by cases e; first | omega | (simp [World.drew] at hgOb <;> omega)))) | (have hQ := Box3.keep (Box3.made wO 28 (.slice none 0 0) (.slice none 0 0) (.slice none 0 0)) hg8.size (hg8.block _ (by simp) (fun e => by cases e; exact absurd (show wO.heap.size < wO.heap.size from (hOO.lt _ rfl).2) (Nat.lt_irrefl _)))) | skip); (try obtain ⟨f0, f1, f2, f3, f4⟩ := id hQ))
        | (go_at_call 277; refine Calls.mono (Calls.rel2 (w0 := wq) (by assumption) (l07Trivial_ok _ _ o Any (by first | exact hOi | exact Ints.ext hOi (World.grownBy_alloc _ _ _)) (Nat.le_trans ho40 (by decide)))) ?_; rintro eT wT ⟨vT, rfl, hgT, hgT2, hsT, vo, vp, vc, rfl, hX5⟩; obtain ⟨xo, co, xp, cp, xc, cc, rfl, rfl, rfl⟩ := trivX_shape hX5; (try have hQ := Box3.ext hQ hgT2); (first | (have hQ := Box3.ext (Box3.made _ _ _ _ _) hgT2) | skip); (try obtain ⟨f0, f1, f2, f3, f4⟩ := id hQ)))
    all_goals (try go_wp2_with fail)
    all_goals go_meet
    all_goals
      have hzO := hgO.size
      have hzA := hgA8.size
      have hzT := hgT.size
      first
        | exact bothCut_mk ho40 hX5 hsT (by omega) (.inr (Nat.le_refl _)) (grown_trans (by assumption) (World.grownBy_alloc _ _ _)) (World.grownBy_alloc _ _ _) (Box3.made _ _ _ _ _)
        | exact bothCut_mk ho40 hX5 hsT (by omega) (.inl (by first | omega | (simp; done) | (simp; omega))) (by assumption) (grown_set3 _ _ _ _ _) (hQ.all _ _ _)
    done
  case rest =>
    obtain ⟨rb, xo, co, xp, cp, xc, cc, rfl, hg1, hX⟩ := hcut
    clear e0 e1
    go_wp2
    go_loopw [8] (fun iv wr => ∃ i : Nat, iv = .int .i64 i ∧ i ≤ A.orders.length ∧ Ext wq wr ∧ BX 40 o wq.heap.size rb wr (.slice xo o.length co) (.slice xp o.length cp) (.slice xc o.length cc)) (fun iv _ => A.orders.length - (intOf iv).toNat)
    case atStart => exact ⟨0, rfl, by omega, hg1, hX⟩
    case round =>
      clear hX hg1
      obtain ⟨i, rfl, hi, hg, hX⟩ := hrel
      by_cases hlt : i < A.orders.length
      · have hlt' : (i : Int) < A.orders.length := by omega
        have hsh := HB.out.2.2.2.1
        have hoe := HB.out.2.2.2.2.2.2.1
        have hqz := HB.out.2.2.2.2.2.2.2
        have hip : i < A.powers.length := by rw [hsh.p]; exact hlt
        have hip' : (i : Int) < A.powers.length := by omega
        have hio : ((i : Nat) : Int) < o.length := by omega
        have hK : i = i := rfl
        obtain ⟨g, capg, z, hvg, hgB, hgp, hgl, hcc, hst⟩ := hX.storeP i (by omega)
        obtain ⟨rfl, rfl⟩ : xp = some ⟨g, 0, none⟩ ∧ cp = capg := by cases hvg; exact ⟨rfl, rfl⟩
        clear hvg
        obtain ⟨b2, o2, az, capz, hs1, _, hb2l, hca0, hra⟩ := Rows2.at h3q.p i hip
        have hca := hg.cell hca0 (by simp)
        have hzl := hsh.pv _ (gtMem hip)
        obtain ⟨zr, hzr⟩ : ∃ zr, zr = gt A.powers i := ⟨_, rfl⟩
        rw [← hzr] at hca hra hzl
        clear hzr hca0
        have hbx := HB.out.1.ext hg
        have e1 : ∀ w', Near wr g w' → w'.cell? ⟨rb, 1, none⟩ = some (.slice (some ⟨g, 0, none⟩) o.length cp) := fun w' h => h.cell hX.box.2.2.1 (by simp; omega)
        have e2 : ∀ w', Near wr g w' → w'.cell? ⟨w.heap.size, 1, none⟩ = some (.slice (some ⟨b2, o2, none⟩) A.powers.length cap) := fun w' h => h.cell (by rw [← hs1]; exact hbx.2.2.1) (by simp; omega)
        have e3 : ∀ w', Near wr g w' → w'.cell? ⟨b2, o2 + i, none⟩ = some (.slice az zr.length capz) := fun w' h => h.cell hca (by simp; omega)
        have hcon : ∀ w', Ext wr w' → Calls Tryz.prog 330 #[.int .i64 0, .slice az zr.length capz, .int .i64 B.orders.length] w' (Ret w' fun w'' r => ∃ l, l.length ≤ 40 ∧ Own w'.heap.size w'' r l) := fun w' he =>
          Calls.mono (l07Shift_ok w' 0 _ zr B.orders.length _ (Ints.ext hra (grown_trans hg he)) (by omega)) (fun e w2 ⟨v, h1, h2, h3⟩ => ⟨v, h1, h2, _, by rw [shiftL_len]; omega, h3⟩)
        have HX := Lib.hid (And.intro hX (And.intro hst (And.intro hcc (And.intro hcon (And.intro hsh (And.intro hoe hK)))))); clear hX hst hcc hcon hca hra hzl hbx hsh hoe hs1 hK
        go_wp2
        go_region_held3 (fun w' => Near wr g w') (first | exact Near.of (grown_drew _ _) | exact Near.of (by assumption) | exact Near.store (by assumption) | assumption)
          (first
            | (go_at_call 330; refine Calls.mono (Calls.rel (w0 := wr) (by first | exact grown_drew _ _ | assumption) (HX.out.2.2.2.1 _ (by first | exact grown_drew _ _ | assumption))) ?_; rintro eE wE ⟨vE, rfl, hgE, hsE, lE, hlE, hOE⟩; obtain ⟨aE, cE, hvE, _⟩ := (hOE.ints (Nat.le_trans hlE (by decide))).shape; subst hvE; have hcl := (HX.out.2.2.1 wE hgE).1; have hfr := (HX.out.2.2.1 wE hgE).2))
        have hX5 := HX.out.2.1 wE _ lE hgE (OwnIn.of hOE (Nat.le_trans hlE (by decide)) (fun k hk _ => Nat.le_trans (by assumption) hk)) hlE
        have hgn : Ext wq (wE.setCell ⟨g, i, none⟩ (.slice aE lE.length cE)) := grown_own (grown_trans hg hgE) (grown_set1 _ _ _ _) (fun j hj hlt => by cases hj; omega)
        have hsh := HX.out.2.2.2.2.1
        have hoe := HX.out.2.2.2.2.2.1
        have hic : i < A.conj.length := by rw [hsh.c]; exact hlt
        have hic' : (i : Int) < A.conj.length := by omega
        have hK := HX.out.2.2.2.2.2.2
        obtain ⟨b3, o3, a5, cap5, hs2, _, hb3l, hca0, hra⟩ := Rows3.at h3q.c i hic
        have hrl := hsh.cl i hlt
        have hrv : ∀ v ∈ gt A.conj i, v.length ≤ 20 := fun v hv => hsh.cv _ (gtMem hic) v hv
        obtain ⟨R, hR⟩ : ∃ R, R = gt A.conj i := ⟨_, rfl⟩
        rw [← hR] at hca0 hra hrl hrv
        have HC := Lib.hid (And.intro hrl (And.intro hrv (And.intro hoe (And.intro hK (And.intro hs2 hra))))); clear hrl hrv hoe hK hs2 hra hsh hR HX
        clear hcl hfr e1 e2 e3
        clear hgE hOE hlE hsE hg
        go_wp2
        generalize wE.setCell ⟨g, i, none⟩ (.slice aE lE.length cE) = w7 at *
        go_loopw [9] (fun jv wr => ∃ j : Nat, jv = .int .i64 j ∧ j ≤ R.length ∧ Ext wq wr ∧ BX 40 o wq.heap.size rb wr (.slice xo o.length co) (.slice (some ⟨g, 0, none⟩) o.length cp) (.slice xc o.length cc)) (fun jv _ => R.length - (intOf jv).toNat)
        case atStart => exact ⟨0, rfl, by omega, hgn, hX5⟩
        case round =>
          clear hX5 hgn
          obtain ⟨j, rfl, hj, hg, hX⟩ := hrel
          have hbx := HB.out.1.ext hg
          have hra := HC.out.2.2.2.2.2
          have hs2 := HC.out.2.2.2.2.1
          have d2 := hbx.2.2.2.1
          rw [hs2] at d2
          have d3 := hg.cell hca0 (by simp)
          by_cases hltj : j < R.length
          · have hltj' : (j : Int) < R.length := by omega
            have hrl := HC.out.1
            have hoe := HC.out.2.2.1
            have hK := HC.out.2.2.2.1
            have hjo : j < o.length - 1 - i := by omega
            obtain ⟨gc, capc, b, capb, z2, hvc, hcB, hcp, hcl, hcell, hbB, hbp, hbg, hbl, hcc2, hst2⟩ := hX.storeC i j (by omega) hjo
            obtain ⟨rfl, rfl⟩ : xc = some ⟨gc, 0, none⟩ ∧ cc = capc := by cases hvc; exact ⟨rfl, rfl⟩
            clear hvc
            obtain ⟨b6, o6, a6, cap6, rfl, _, hb6l, hc60, hr6⟩ := Rows2.at hra j hltj
            have hc6 := hg.cell hc60 (by simp)
            have hzl := HC.out.2.1 _ (gtMem hltj)
            obtain ⟨zr, hzr⟩ : ∃ zr, zr = gt R j := ⟨_, rfl⟩
            rw [← hzr] at hc6 hr6 hzl
            clear hzr hc60
            have e1 : ∀ w', Near wr b w' → w'.cell? ⟨rb, 2, none⟩ = some (.slice (some ⟨gc, 0, none⟩) o.length cc) := fun w' h => h.cell hX.box.2.2.2.1 (by simp; omega)
            have e2 : ∀ w', Near wr b w' → w'.cell? ⟨gc, i, none⟩ = some (.slice (some ⟨b, 0, none⟩) (o.length - 1 - i) capb) := fun w' h => h.cell hcell (by simp; omega)
            have e3 : ∀ w', Near wr b w' → w'.cell? ⟨w.heap.size, 2, none⟩ = some (.slice (some ⟨b3, o3, none⟩) A.conj.length cac) := fun w' h => h.cell d2 (by simp; omega)
            have e4 : ∀ w', Near wr b w' → w'.cell? ⟨b3, o3 + i, none⟩ = some (.slice (some ⟨b6, o6, none⟩) R.length cap5) := fun w' h => h.cell d3 (by simp; omega)
            have e5 : ∀ w', Near wr b w' → w'.cell? ⟨b6, o6 + j, none⟩ = some (.slice a6 zr.length cap6) := fun w' h => h.cell hc6 (by simp; omega)
            have hcon : ∀ w', Ext wr w' → Calls Tryz.prog 330 #[.int .i64 0, .slice a6 zr.length cap6, .int .i64 B.orders.length] w' (Ret w' fun w'' r => ∃ l, l.length ≤ 40 ∧ Own w'.heap.size w'' r l) := fun w' he =>
              Calls.mono (l07Shift_ok w' 0 _ zr B.orders.length _ (Ints.ext hr6 (grown_trans hg he)) (by omega)) (fun e w2 ⟨v, h1, h2, h3⟩ => ⟨v, h1, h2, _, by rw [shiftL_len]; omega, h3⟩)
            have hjl : (j : Int) < ((o.length - 1 - i : Nat) : Int) := by omega
            have hiK : (i : Int) < o.length := by omega
            have HY := Lib.hid (And.intro hst2 (And.intro hcc2 hcon)); clear hst2 hcc2 hcon hcell hc6 hr6 hzl hX
            go_wp2
            clear d2 d3
            clear hrl hoe hK hs2 hjo
            go_region_held3 (fun w' => Near wr b w') (first | exact Near.of (grown_drew _ _) | exact Near.of (by assumption) | exact Near.store (by assumption) | assumption)
              (first
                | (go_at_call 330; refine Calls.mono (Calls.rel (w0 := wr) (by first | exact grown_drew _ _ | assumption) (HY.out.2.2 _ (by first | exact grown_drew _ _ | assumption))) ?_; rintro eE wE ⟨vE, rfl, hgE, hsE, lE, hlE, hOE⟩; obtain ⟨aE, cE, hvE, _⟩ := (hOE.ints (Nat.le_trans hlE (by decide))).shape; subst hvE; have hcl := (HY.out.2.1 wE hgE).1; have hfr := (HY.out.2.1 wE hgE).2))
            have hX5 := HY.out.1 wE _ lE hgE (OwnIn.of hOE (Nat.le_trans hlE (by decide)) (fun k hk _ => Nat.le_trans (by assumption) hk)) hlE
            have hgn : Ext wq (wE.setCell ⟨b, j, none⟩ (.slice aE lE.length cE)) := grown_own (grown_trans hg hgE) (grown_set1 _ _ _ _) (fun j hj hlt => by cases hj; omega)
            clear hcl hfr e1 e2 e3 e4 e5
            go_wp2
            go_roundw
            case rel => exact ⟨j + 1, by go_num, by omega, hgn, hX5⟩
            case measure => simp [intOf]; omega
          · have hltj' : ¬ ((j : Int) < R.length) := by omega
            clear hs2
            go_wp2
            go_roundw
            case rel => exact ⟨i + 1, by go_num, by omega, hg, hX⟩
            case measure => simp [intOf]; omega
      · have hlt' : ¬ ((i : Int) < A.orders.length) := by omega
        go_wp2
        have hg1 := hg
        clear hg hi hlt hlt'
        go_loopw [10] (fun iv wr => ∃ i : Nat, iv = .int .i64 i ∧ i ≤ B.orders.length ∧ Ext wq wr ∧ BX 40 o wq.heap.size rb wr (.slice xo o.length co) (.slice xp o.length cp) (.slice xc o.length cc)) (fun iv _ => B.orders.length - (intOf iv).toNat)
        case atStart => exact ⟨0, rfl, by omega, hg1, hX⟩
        case round =>
          clear hX hg1
          obtain ⟨i, rfl, hi, hg, hX⟩ := hrel
          by_cases hlt : i < B.orders.length
          · have hlt' : (i : Int) < B.orders.length := by omega
            have hsh := HB.out.2.2.2.2.1
            have hoe := HB.out.2.2.2.2.2.2.1
            have hqz := HB.out.2.2.2.2.2.2.2
            have hip : i < B.powers.length := by rw [hsh.p]; exact hlt
            have hip' : (i : Int) < B.powers.length := by omega
            obtain ⟨K, hK⟩ : ∃ K, K = (A.orders.length + i) := ⟨_, rfl⟩
            obtain ⟨g, capg, z, hvg, hgB, hgp, hgl, hcc, hst⟩ := hX.storeP K (by omega)
            obtain ⟨rfl, rfl⟩ : xp = some ⟨g, 0, none⟩ ∧ cp = capg := by cases hvg; exact ⟨rfl, rfl⟩
            clear hvg
            obtain ⟨b2, o2, az, capz, hs1, _, hb2l, hca0, hra⟩ := Rows2.at k3q.p i hip
            have hca := hg.cell hca0 (by simp)
            have hzl := hsh.pv _ (gtMem hip)
            obtain ⟨zr, hzr⟩ : ∃ zr, zr = gt B.powers i := ⟨_, rfl⟩
            rw [← hzr] at hca hra hzl
            clear hzr hca0
            have hbx := HB.out.2.1.ext hg
            have e1 : ∀ w', Near wr g w' → w'.cell? ⟨rb, 1, none⟩ = some (.slice (some ⟨g, 0, none⟩) o.length cp) := fun w' h => h.cell hX.box.2.2.1 (by simp; omega)
            have e2 : ∀ w', Near wr g w' → w'.cell? ⟨w.heap.size + 1, 1, none⟩ = some (.slice (some ⟨b2, o2, none⟩) B.powers.length cbp) := fun w' h => h.cell (by rw [← hs1]; exact hbx.2.2.1) (by simp; omega)
            have e3 : ∀ w', Near wr g w' → w'.cell? ⟨b2, o2 + i, none⟩ = some (.slice az zr.length capz) := fun w' h => h.cell hca (by simp; omega)
            have hcon : ∀ w', Ext wr w' → Calls Tryz.prog 330 #[.int .i64 A.orders.length, .slice az zr.length capz, .int .i64 0] w' (Ret w' fun w'' r => ∃ l, l.length ≤ 40 ∧ Own w'.heap.size w'' r l) := fun w' he =>
              Calls.mono (l07Shift_ok w' A.orders.length _ zr 0 _ (Ints.ext hra (grown_trans hg he)) (by omega)) (fun e w2 ⟨v, h1, h2, h3⟩ => ⟨v, h1, h2, _, by rw [shiftL_len]; omega, h3⟩)
            have HX := Lib.hid (And.intro hX (And.intro hst (And.intro hcc (And.intro hcon (And.intro hsh (And.intro hoe hK)))))); clear hX hst hcc hcon hca hra hzl hbx hsh hoe hs1 hK
            go_wp2
            have hw1 := w64_sm2 ((A.orders.length : Int) + i) (K : Int) (by rw [HX.out.2.2.2.2.2.2]; omega) (by omega)
            obtain ⟨q1, q2⟩ := hw1
            have hKo : (K : Int) < o.length := by clear q1 q2; have := HX.out.2.2.2.2.2.2; have := HX.out.2.2.2.2.2.1; omega
            go_region_held3 (fun w' => Near wr g w') (first | exact Near.of (grown_drew _ _) | exact Near.of (by assumption) | exact Near.store (by assumption) | assumption)
              (first
                | (go_at_call 330; refine Calls.mono (Calls.rel (w0 := wr) (by first | exact grown_drew _ _ | assumption) (HX.out.2.2.2.1 _ (by first | exact grown_drew _ _ | assumption))) ?_; rintro eE wE ⟨vE, rfl, hgE, hsE, lE, hlE, hOE⟩; obtain ⟨aE, cE, hvE, _⟩ := (hOE.ints (Nat.le_trans hlE (by decide))).shape; subst hvE; have hcl := (HX.out.2.2.1 wE hgE).1; have hfr := (HX.out.2.2.1 wE hgE).2))
            clear q1 q2
            have hX5 := HX.out.2.1 wE _ lE hgE (OwnIn.of hOE (Nat.le_trans hlE (by decide)) (fun k hk _ => Nat.le_trans (by assumption) hk)) hlE
            have hgn : Ext wq (wE.setCell ⟨g, K, none⟩ (.slice aE lE.length cE)) := grown_own (grown_trans hg hgE) (grown_set1 _ _ _ _) (fun j hj hlt => by cases hj; omega)
            have hsh := HX.out.2.2.2.2.1
            have hoe := HX.out.2.2.2.2.2.1
            have hic : i < B.conj.length := by rw [hsh.c]; exact hlt
            have hic' : (i : Int) < B.conj.length := by omega
            have hK := HX.out.2.2.2.2.2.2
            obtain ⟨b3, o3, a5, cap5, hs2, _, hb3l, hca0, hra⟩ := Rows3.at k3q.c i hic
            have hrl := hsh.cl i hlt
            have hrv : ∀ v ∈ gt B.conj i, v.length ≤ 20 := fun v hv => hsh.cv _ (gtMem hic) v hv
            obtain ⟨R, hR⟩ : ∃ R, R = gt B.conj i := ⟨_, rfl⟩
            rw [← hR] at hca0 hra hrl hrv
            have HC := Lib.hid (And.intro hrl (And.intro hrv (And.intro hoe (And.intro hK (And.intro hs2 hra))))); clear hrl hrv hoe hK hs2 hra hsh hR HX
            clear hcl hfr e1 e2 e3
            clear hgE hOE hlE hsE hg
            go_wp2
            generalize wE.setCell ⟨g, K, none⟩ (.slice aE lE.length cE) = w7 at *
            go_loopw [11] (fun jv wr => ∃ j : Nat, jv = .int .i64 j ∧ j ≤ R.length ∧ Ext wq wr ∧ BX 40 o wq.heap.size rb wr (.slice xo o.length co) (.slice (some ⟨g, 0, none⟩) o.length cp) (.slice xc o.length cc)) (fun jv _ => R.length - (intOf jv).toNat)
            case atStart => exact ⟨0, rfl, by omega, hgn, hX5⟩
            case round =>
              clear hX5 hgn
              obtain ⟨j, rfl, hj, hg, hX⟩ := hrel
              have hbx := HB.out.2.1.ext hg
              have hra := HC.out.2.2.2.2.2
              have hs2 := HC.out.2.2.2.2.1
              have d2 := hbx.2.2.2.1
              rw [hs2] at d2
              have d3 := hg.cell hca0 (by simp)
              by_cases hltj : j < R.length
              · have hltj' : (j : Int) < R.length := by omega
                have hrl := HC.out.1
                have hoe := HC.out.2.2.1
                have hK := HC.out.2.2.2.1
                have hjo : j < o.length - 1 - K := by omega
                obtain ⟨gc, capc, b, capb, z2, hvc, hcB, hcp, hcl, hcell, hbB, hbp, hbg, hbl, hcc2, hst2⟩ := hX.storeC K j (by omega) hjo
                obtain ⟨rfl, rfl⟩ : xc = some ⟨gc, 0, none⟩ ∧ cc = capc := by cases hvc; exact ⟨rfl, rfl⟩
                clear hvc
                obtain ⟨b6, o6, a6, cap6, rfl, _, hb6l, hc60, hr6⟩ := Rows2.at hra j hltj
                have hc6 := hg.cell hc60 (by simp)
                have hzl := HC.out.2.1 _ (gtMem hltj)
                obtain ⟨zr, hzr⟩ : ∃ zr, zr = gt R j := ⟨_, rfl⟩
                rw [← hzr] at hc6 hr6 hzl
                clear hzr hc60
                have e1 : ∀ w', Near wr b w' → w'.cell? ⟨rb, 2, none⟩ = some (.slice (some ⟨gc, 0, none⟩) o.length cc) := fun w' h => h.cell hX.box.2.2.2.1 (by simp; omega)
                have e2 : ∀ w', Near wr b w' → w'.cell? ⟨gc, K, none⟩ = some (.slice (some ⟨b, 0, none⟩) (o.length - 1 - K) capb) := fun w' h => h.cell hcell (by simp; omega)
                have e3 : ∀ w', Near wr b w' → w'.cell? ⟨w.heap.size + 1, 2, none⟩ = some (.slice (some ⟨b3, o3, none⟩) B.conj.length cbc) := fun w' h => h.cell d2 (by simp; omega)
                have e4 : ∀ w', Near wr b w' → w'.cell? ⟨b3, o3 + i, none⟩ = some (.slice (some ⟨b6, o6, none⟩) R.length cap5) := fun w' h => h.cell d3 (by simp; omega)
                have e5 : ∀ w', Near wr b w' → w'.cell? ⟨b6, o6 + j, none⟩ = some (.slice a6 zr.length cap6) := fun w' h => h.cell hc6 (by simp; omega)
                have hcon : ∀ w', Ext wr w' → Calls Tryz.prog 330 #[.int .i64 A.orders.length, .slice a6 zr.length cap6, .int .i64 0] w' (Ret w' fun w'' r => ∃ l, l.length ≤ 40 ∧ Own w'.heap.size w'' r l) := fun w' he =>
                  Calls.mono (l07Shift_ok w' A.orders.length _ zr 0 _ (Ints.ext hr6 (grown_trans hg he)) (by omega)) (fun e w2 ⟨v, h1, h2, h3⟩ => ⟨v, h1, h2, _, by rw [shiftL_len]; omega, h3⟩)
                have hjl : (j : Int) < ((o.length - 1 - K : Nat) : Int) := by omega
                have hiK : (K : Int) < o.length := by omega
                have HY := Lib.hid (And.intro hst2 (And.intro hcc2 hcon)); clear hst2 hcc2 hcon hcell hc6 hr6 hzl hX
                go_wp2
                clear d2 d3
                have hw1 := w64_sm2 ((A.orders.length : Int) + i) (K : Int) (by rw [hK]; omega) (by omega)
                obtain ⟨q1, q2⟩ := hw1
                clear hrl hoe hK hs2 hjo
                go_region_held3 (fun w' => Near wr b w') (first | exact Near.of (grown_drew _ _) | exact Near.of (by assumption) | exact Near.store (by assumption) | assumption)
                  (first
                    | (go_at_call 330; refine Calls.mono (Calls.rel (w0 := wr) (by first | exact grown_drew _ _ | assumption) (HY.out.2.2 _ (by first | exact grown_drew _ _ | assumption))) ?_; rintro eE wE ⟨vE, rfl, hgE, hsE, lE, hlE, hOE⟩; obtain ⟨aE, cE, hvE, _⟩ := (hOE.ints (Nat.le_trans hlE (by decide))).shape; subst hvE; have hcl := (HY.out.2.1 wE hgE).1; have hfr := (HY.out.2.1 wE hgE).2))
                clear q1 q2
                have hX5 := HY.out.1 wE _ lE hgE (OwnIn.of hOE (Nat.le_trans hlE (by decide)) (fun k hk _ => Nat.le_trans (by assumption) hk)) hlE
                have hgn : Ext wq (wE.setCell ⟨b, j, none⟩ (.slice aE lE.length cE)) := grown_own (grown_trans hg hgE) (grown_set1 _ _ _ _) (fun j hj hlt => by cases hj; omega)
                clear hcl hfr e1 e2 e3 e4 e5
                go_wp2
                go_roundw
                case rel => exact ⟨j + 1, by go_num, by omega, hgn, hX5⟩
                case measure => simp [intOf]; omega
              · have hltj' : ¬ ((j : Int) < R.length) := by omega
                clear hs2
                go_wp2
                go_roundw
                case rel => exact ⟨i + 1, by go_num, by omega, hg, hX⟩
                case measure => simp [intOf]; omega
          · have hlt' : ¬ ((i : Int) < B.orders.length) := by omega
            obtain ⟨h0, h1, h2, h3', h4⟩ := id hX.box
            have hz := HB.out.2.2.1.ext hg
            have hqz := HB.out.2.2.2.2.2.2.2
            obtain ⟨k0, k1, k2, k3, k4⟩ := id hz
            have hZ := hz.all (.slice xo o.length co) (.slice xp o.length cp) (.slice xc o.length cc)
            have hT := grown_set3 wr (w.heap.size + 1 + 1) (.slice xo o.length co) (.slice xp o.length cp) (.slice xc o.length cc)
            obtain ⟨_, z0, z1, z2, _⟩ := id hZ
            have HQ := Lib.hid (And.intro hT hX); clear hT hZ hX
            go_wp2
            refine bodyPost_ret (v := .agg #[.slice xo o.length co, .slice xp o.length cp, .slice xc o.length cc]) (by simp [results, Tryz.results276, go_sem, z0, z1, z2]) rfl ?_
            exact ⟨_, rfl, grown_own (grown_trans hgw hg) HQ.out.1 (fun j hj hlt => by cases hj; omega), (HQ.out.2.ret HQ.out.1 (by omega)).weak (by omega)⟩

end Go.Proofs.YtldheeicjnncoaaGreat
namespace Go.Proofs.YtldheeicjnncoaaGreat
open Go.RowKit
attribute [local go_sem ↓] Go.wp_at_zero Go.wp_at_succ

theorem Valid.shp {P : Pr} (h : Valid P) : Shp 6 P :=
  ⟨h.n6, h.pl, h.cl, fun i hi => (h.cv i hi).1, fun v hv => by
    obtain ⟨i, hi, rfl⟩ := List.getElem_of_mem hv
    have := (h.pv i (by rw [← h.pl]; exact hi)).1.1
    rw [gt_eq _ i hi] at this
    have := h.n6; omega, fun r hr v hv => by
    obtain ⟨i, hi, rfl⟩ := List.getElem_of_mem hr
    obtain ⟨k, hk, rfl⟩ := List.getElem_of_mem hv
    have hi' : i < P.orders.length := by rw [← h.cl]; exact hi
    obtain ⟨h1, h2⟩ := h.cv i hi'
    rw [gt_eq _ i hi] at h1 h2
    have := (h2 k (by rw [← h1]; exact hk)).1.1
    rw [gt_eq _ k hk] at this
    have := h.n6; omega⟩
/-- the order is at most a limit (or 2) -/
def LimOk (limit : Int) (Q : Pr) : Prop := Valid Q → ordP Q ≤ limit ∨ ordP Q ≤ 2
theorem capTo_ord {Q : Pr} (h : Valid Q) : capTo Q.orders Q.orders.length = ordP Q :=
  (capTo_le Q.orders.length (fun i hi => by have := h.ord7 i hi; omega)).2 ((capTo_le Q.orders.length (fun i hi => by have := h.ord7 i hi; omega)).1.2 h.le729)
/-- some valid presentation by value with a property, in new blocks -/
def PresVL (C : Pr → Prop) (B : Nat) (w' : World) (v : Value) : Prop := ∃ (vo vp vc : Value) (Q : Pr), v = .agg #[vo, vp, vc] ∧ Valid Q ∧ Pres3 (From B) w' vo vp vc Q ∧ C Q
theorem vd_ret {w wX : World} {sb B0 B : Nat} {x y z : Value} {Q : Pr} (hgw : w.grownBy wX (some sb)) (hb : w.heap.size < B) (hsrc : Src B0 wX sb) (hB0 : B0 ≤ w.heap.size) {C : Pr → Prop} (hV : Valid Q) (hC : C Q) (hP : Pres3 (From B) wX x y z Q) :
    Mut w (some sb) (DrawR B0 sb (PresVL C w.heap.size)) (.returned (.agg #[x, y, z])) (((wX.setCell ⟨w.heap.size, 0, none⟩ x).setCell ⟨w.heap.size, 1, none⟩ y).setCell ⟨w.heap.size, 2, none⟩ z) := by
  have hT := grown_set3 wX w.heap.size x y z
  exact ⟨_, rfl, grown_own hgw hT (fun j hj hlt => by cases hj; omega), ⟨x, y, z, Q, rfl, hV, hP.mono (fun k hk hlt => ⟨by have hk : B ≤ k := hk; show w.heap.size ≤ k; omega, Nat.lt_of_lt_of_le hlt hT.size, hT.block k hlt (fun e => by have hk : B ≤ k := hk; have := Option.some.inj e; omega)⟩), hC⟩, hsrc.own hT (fun k hk => by cases hk; exact hB0)⟩
theorem valid_triv2 : Valid (trivP [2]) := by
  have e : trivP [2] = ⟨[2], [[0]], [[]]⟩ := by simp [trivP, trivC, zeros]
  rw [e]
  refine ⟨by decide, by decide, by decide, by decide, fun i hi => ?_, fun i hi => ?_, fun i hi => ?_⟩
  · have : i = 0 := by simpa using hi
    subst this; exact .inl rfl
  · have : i = 0 := by simpa using hi
    subst this
    refine ⟨⟨rfl, fun k hk => ?_⟩, fun k hk => ?_⟩
    · have : k = 0 := by simpa using hk
      subst this; decide
    · have : k = 0 := by omega
      subst this; rfl
  · have : i = 0 := by simpa using hi
    subst this
    exact ⟨rfl, fun k hk => by simp at hk⟩

set_option maxRecDepth 100000 in
set_option maxHeartbeats 16000000 in
theorem l07GroupL_ok (B0 : Nat) (w : World) (sb : Nat) (limit : Int) (hB0 : B0 ≤ w.heap.size) (hs : Src B0 w sb) :
    Calls Tryz.prog 179 #[.pointer (some ⟨sb, 0, none⟩), .int .i64 limit] w (Mut w (some sb) (DrawR B0 sb (PresVL (LimOk limit) w.heap.size))) := by
  have hsb := hs.lt
  have hbB := Box3.made w 28 (.slice none 0 0) (.slice none 0 0) (.slice none 0 0)
  have hg0 : Ext w (w.alloc (.cells #[.slice none 0 0, .slice none 0 0, .slice none 0 0] 28)) := World.grownBy_alloc _ _ _
  have hs0 : (w.alloc (.cells #[.slice none 0 0, .slice none 0 0, .slice none 0 0] 28)).heap.size = w.heap.size + 1 := by simp
  have hsW := Lib.hid (hs.ext hg0); clear hs
  go_enter Tryz.func179, Tryz.ntmps179
  go_wp2_with fail
  generalize w.alloc (.cells #[.slice none 0 0, .slice none 0 0, .slice none 0 0] 28) = w0 at *
  have hs00 : w.heap.size + 1 ≤ w0.heap.size := by omega
  clear hs0
  go_loopw [5] (fun iv wr => ∃ i : Nat, iv = .int .i64 i ∧ i ≤ 12 ∧ w0.grownBy wr (some sb) ∧ Hid (Src B0 wr sb)) (fun iv _ => 12 - (intOf iv).toNat)
  case atStart => exact ⟨0, rfl, by omega, grown_refl _ _, hsW⟩
  case round =>
    obtain ⟨i, rfl, hi, hg, hsr⟩ := hrel
    have hsz := hg.size
    have hbr := Box3.keep hbB hsz (hg.block _ hbB.1 (fun e => by have := Option.some.inj e; omega))
    by_cases hlt : i < 12
    · have hlt' : (i : Int) < 12 := by omega
      go_wp2_with fail
      refine Calls.mono (l07Family_ok B0 wr sb (by omega) hsr.out) ?_
      rintro eF wF ⟨vF, rfl, hgF, hP, hsF⟩
      obtain ⟨vo, vp, vc, rfl, hP3⟩ := hP
      obtain ⟨a1, n1, c1, a2, n2, c2, a3, n3, c3, rfl, rfl, rfl⟩ := hP3.shape
      have hgA : Ext wF (wF.alloc (.cells #[.slice a1 n1 c1, .slice a2 n2 c2, .slice a3 n3 c3] 28)) := World.grownBy_alloc _ _ _
      have hbA := Box3.made wF 28 (.slice a1 n1 c1) (.slice a2 n2 c2) (.slice a3 n3 c3)
      have hsA : (wF.alloc (.cells #[.slice a1 n1 c1, .slice a2 n2 c2, .slice a3 n3 c3] 28)).heap.size = wF.heap.size + 1 := by simp
      obtain ⟨pb, hpb⟩ : ∃ pb, pb = wF.heap.size := ⟨_, rfl⟩
      rw [← hpb] at hbA hsA
      have hPA : ∃ Q, Shp 18 Q ∧ Pres3 (fun k => wr.heap.size ≤ k ∧ k ≠ pb) (wF.alloc (.cells #[.slice a1 n1 c1, .slice a2 n2 c2, .slice a3 n3 c3] 28)) (.slice a1 n1 c1) (.slice a2 n2 c2) (.slice a3 n3 c3) Q := by
        obtain ⟨Q, q1, q2⟩ := hP3
        exact ⟨Q, q1, q2.mono (fun k hk hlt => ⟨⟨hk, by omega⟩, Nat.lt_of_lt_of_le hlt hgA.size, hgA.block k hlt (by simp)⟩)⟩
      have hszF := hgF.size
      have hgrA := grown_trans hgF (grown_of_ext (some sb) hgA)
      have hsA2 := hsF.ext hgA
      have HA := Lib.hid (And.intro hPA hsA2); clear hPA hsA2 hP3 hsF hgF hsr
      have HP := Lib.hid hpb
      go_wp2_with fail
      rw [← HP.out]
      generalize wF.alloc (.cells #[.slice a1 n1 c1, .slice a2 n2 c2, .slice a3 n3 c3] 28) = wA at *
      clear hgA
      refine Calls.mono (l01Next_ok B0 wA sb 3 HA.out.2) ?_
      rintro eN wN ⟨vN, rfl, hgN, x, rfl, hx0, hx1, hsN⟩
      have hgrN := grown_trans hgrA hgN
      have hbN := Box3.keep hbA hgN.size (hgN.block _ hbA.1 (fun e => by have := Option.some.inj e; omega))
      have hszN := hgN.size
      obtain ⟨Q, hQs, hQA⟩ := HA.out.1
      have hQN : Pres3 (fun k => wr.heap.size ≤ k ∧ k ≠ pb) wN (.slice a1 n1 c1) (.slice a2 n2 c2) (.slice a3 n3 c3) Q := hQA.mono (fun k hk hlt => ⟨hk, Nat.lt_of_lt_of_le hlt hgN.size, hgN.block k hlt (fun e => by have := Option.some.inj e; omega)⟩)
      have hsz1 : pb < wN.heap.size := hbN.1
      have hszp : wr.heap.size ≤ pb := by omega
      have HN := Lib.hid (And.intro hQs (And.intro hQN hsN)); clear hQs hQA hQN hsN hgN hbA hx0 hx1 HA hgrA hsA hpb HP
      by_cases hx : x = 0
      · have hxb : (x == 0) = true := by simp [hx]
        clear hx
        have hBd := hbN.ext (grown_drew _ none)
        obtain ⟨d0, d1, d2, d3, d4⟩ := id hBd
        have HB := Lib.hid hbN; clear hbN hBd
        go_wp2_with fail
        go_region_law (first
          | (go_simp; go_at_call 276; refine Calls.mono (l07Both_ok _ _ _ Q QG Any Any ⟨_, _, _, rfl, hQI⟩ ⟨_, _, _, rfl, hGI⟩ (HN.out.1.mono (by omega)) (hGs.mono (by omega))) ?_; rintro eC wC ⟨vC, rfl, hgC, hPC⟩; obtain ⟨yo, yp, yc, rfl, hPC3⟩ := hPC.q; obtain ⟨e1, m1, k1, e2, m2, k2, e3, m3, k3, rfl, rfl, rfl⟩ := hPC3.shape; have hBC := hBG.ext hgC; obtain ⟨g0, g1, g2, g3, g4⟩ := id hBC)
          | (go_simp; go_at_call 275; refine Calls.mono (l07Family_ok B0 _ sb (show B0 ≤ wN.heap.size by omega) (HN.out.2.2.ext (grown_drew _ _))) ?_; rintro eG wG ⟨vG, rfl, hgG, hPG, hsG⟩; obtain ⟨uo, up, uc, rfl, QG, hGs, hGI0⟩ := hPG; have hGI : Pres3 Any wG uo up uc QG := hGI0.mono (fun k _ hlt => ⟨trivial, hlt, rfl⟩); obtain ⟨x1, z1, rfl, _, _⟩ := hGI.o.shape; obtain ⟨x2, z2, rfl, _, _⟩ := Sl.shape hGI.p; obtain ⟨x3, z3, rfl, _, _⟩ := Sl.shape hGI.c; have hgG2 := grown_trans (grown_drew wN (some sb)) hgG; have hBG := Box3.keep HB.out hgG2.size (hgG2.block _ HB.out.1 (fun e => by have := Option.some.inj e; omega)); obtain ⟨f0, f1, f2, f3, f4⟩ := id hBG; have hQI : Pres3 Any wG _ _ _ Q := HN.out.2.1.mono (fun k hk hlt => ⟨trivial, Nat.lt_of_lt_of_le hlt hgG2.size, hgG2.block k hlt (fun e => by have := Option.some.inj e; omega)⟩)))
        all_goals
          have hgC1 := grown_trans hgrN (grown_trans hgG2 (grown_of_ext (some sb) hgC))
          have hT9 := grown_set3 wC pb (.slice e1 m1 k1) (.slice e2 m2 k2) (.slice e3 m3 k3)
          have hg9 : wr.grownBy (((wC.setCell ⟨pb, 0, none⟩ (.slice e1 m1 k1)).setCell ⟨pb, 1, none⟩ (.slice e2 m2 k2)).setCell ⟨pb, 2, none⟩ (.slice e3 m3 k3)) (some sb) := grown_own hgC1 hT9 (fun j hj hlt => by have := Option.some.inj hj; omega)
          have hb9 := hBC.all (.slice e1 m1 k1) (.slice e2 m2 k2) (.slice e3 m3 k3)
          have hs9 := (hsG.ext hgC).own hT9 (fun k hk => by have := Option.some.inj hk; omega)
          have hP9 : ∃ Q, Shp 40 Q ∧ Pres3 (fun k => wr.heap.size ≤ k ∧ k ≠ pb) (((wC.setCell ⟨pb, 0, none⟩ (.slice e1 m1 k1)).setCell ⟨pb, 1, none⟩ (.slice e2 m2 k2)).setCell ⟨pb, 2, none⟩ (.slice e3 m3 k3)) (.slice e1 m1 k1) (.slice e2 m2 k2) (.slice e3 m3 k3) Q := by
            obtain ⟨Q2, q1, q2⟩ := hPC3
            have hszG := hgG2.size
            exact ⟨Q2, q1, q2.mono (fun k hk hlt => by
              have hk : wG.heap.size ≤ k := hk
              exact ⟨⟨by omega, by omega⟩, Nat.lt_of_lt_of_le hlt hT9.size, hT9.block k hlt (fun e => by have := Option.some.inj e; omega)⟩)⟩
          clear hBC hT9 hsG hPC3 g0 g1 g2 g3 g4 f0 f1 f2 f3 f4 d0 d1 d2 d3 d4 hBG hgC1 hgC hgG2 hgG hGI hGI0 hQI hgrN HN HB hxb
          generalize ((wC.setCell ⟨pb, 0, none⟩ (.slice e1 m1 k1)).setCell ⟨pb, 1, none⟩ (.slice e2 m2 k2)).setCell ⟨pb, 2, none⟩ (.slice e3 m3 k3) = w9 at *
          obtain ⟨Q9, hQs, hQ9⟩ := hP9
          have hbr9 := Box3.keep hbr hg9.size (hg9.block _ hbr.1 (fun e => by have := Option.some.inj e; omega))
          obtain ⟨p0, p1, p2, p3, p4⟩ := id hb9
          go_wp2_with fail
          refine Calls.mono (sIsPresentation_ok w9 _ Q9 _ ⟨_, _, _, rfl, hQ9⟩) ?_
          rintro e5 w5 ⟨v5, rfl, hg5, rfl⟩
          have hb5 := hb9.ext hg5
          have hbr5 := hbr9.ext hg5
          have hQ5 := hQ9.ext hg5
          have hs5 := hs9.ext hg5
          have hg15 := grown_trans hg9 (grown_of_ext (some sb) hg5)
          have HQ := Lib.hid (And.intro hQ5 hs5)
          clear p0 p1 p2 p3 p4 hb9 hbr9 hQ9 hs9 hg9 hQ5 hs5
          obtain ⟨p0, p1, p2, p3, p4⟩ := id hb5
          rcases hv : validB Q9 with _ | _
          · go_wp2_with fail
            go_roundw
            case rel => exact ⟨i + 1, by go_num, by omega, grown_trans hg hg15, Lib.hid HQ.out.2⟩
            case measure => simp [intOf]; omega
          · have hV := valid_of hv
            clear hv
            have HV := Lib.hid hV; clear hV
            go_wp2_with fail
            refine Calls.mono (l07Product_ok w5 _ Q9.orders _ HQ.out.1.o (fun j hj => by have := HV.out.ord7 j hj; omega)) ?_
            rintro _ _ ⟨rfl, rfl⟩
            rcases hle : decide (capTo Q9.orders Q9.orders.length ≤ limit) with _ | _
            · go_wp2_with fail
              go_roundw
              case rel => exact ⟨i + 1, by go_num, by omega, grown_trans hg hg15, Lib.hid HQ.out.2⟩
              case measure => simp [intOf]; omega
            · have hlim : LimOk limit Q9 := fun hVq => .inl (by rw [← capTo_ord hVq]; exact of_decide_eq_true hle)
              have HLM := Lib.hid hlim; clear hlim
              obtain ⟨b0, b1, b2, b3, b4⟩ := id hbr5
              have hZ := hbr5.all (.slice e1 m1 k1) (.slice e2 m2 k2) (.slice e3 m3 k3)
              obtain ⟨-, z0, z1, z2, -⟩ := id hZ
              have hgw : w.grownBy w5 (some sb) := grown_trans (grown_of_ext (some sb) hg0) (grown_trans hg hg15)
              have hP3 : Pres3 (From wr.heap.size) w5 (.slice e1 m1 k1) (.slice e2 m2 k2) (.slice e3 m3 k3) Q9 := HQ.out.1.mono (fun k hk hlt => ⟨hk.1, hlt, rfl⟩)
              have HF := Lib.hid (And.intro hgw (And.intro hP3 HQ.out.2)); clear hZ hgw hP3 hbr5 hb5
              go_wp2_with fail
              refine bodyPost_ret (v := .agg #[.slice e1 m1 k1, .slice e2 m2 k2, .slice e3 m3 k3]) (by simp [results, Tryz.results179, go_sem, z0, z1, z2]) rfl ?_
              exact vd_ret HF.out.1 (B := wr.heap.size) (by omega) HF.out.2.2 hB0 HV.out HLM.out HF.out.2.1
      · have hxb : (x == 0) = false := by simp [hx]
        obtain ⟨hQs, hQN, hs9⟩ := HN.out
        have hP9 : ∃ Q, Shp 40 Q ∧ Pres3 (fun k => wr.heap.size ≤ k ∧ k ≠ pb) wN (.slice a1 n1 c1) (.slice a2 n2 c2) (.slice a3 n3 c3) Q := ⟨Q, hQs.mono (by omega), hQN⟩
        clear hQs hQN HN hx
        have hg9 := hgrN
        have hb9 := hbN
        clear hgrN hbN
        obtain ⟨Q9, hQs, hQ9⟩ := hP9
        have hbr9 := Box3.keep hbr hg9.size (hg9.block _ hbr.1 (fun e => by have := Option.some.inj e; omega))
        obtain ⟨p0, p1, p2, p3, p4⟩ := id hb9
        go_wp2_with fail
        refine Calls.mono (sIsPresentation_ok wN _ Q9 _ ⟨_, _, _, rfl, hQ9⟩) ?_
        rintro e5 w5 ⟨v5, rfl, hg5, rfl⟩
        have hb5 := hb9.ext hg5
        have hbr5 := hbr9.ext hg5
        have hQ5 := hQ9.ext hg5
        have hs5 := hs9.ext hg5
        have hg15 := grown_trans hg9 (grown_of_ext (some sb) hg5)
        have HQ := Lib.hid (And.intro hQ5 hs5)
        clear p0 p1 p2 p3 p4 hb9 hbr9 hQ9 hs9 hg9 hQ5 hs5
        obtain ⟨p0, p1, p2, p3, p4⟩ := id hb5
        rcases hv : validB Q9 with _ | _
        · go_wp2_with fail
          go_roundw
          case rel => exact ⟨i + 1, by go_num, by omega, grown_trans hg hg15, Lib.hid HQ.out.2⟩
          case measure => simp [intOf]; omega
        · have hV := valid_of hv
          clear hv
          have HV := Lib.hid hV; clear hV
          go_wp2_with fail
          refine Calls.mono (l07Product_ok w5 _ Q9.orders _ HQ.out.1.o (fun j hj => by have := HV.out.ord7 j hj; omega)) ?_
          rintro _ _ ⟨rfl, rfl⟩
          rcases hle : decide (capTo Q9.orders Q9.orders.length ≤ limit) with _ | _
          · go_wp2_with fail
            go_roundw
            case rel => exact ⟨i + 1, by go_num, by omega, grown_trans hg hg15, Lib.hid HQ.out.2⟩
            case measure => simp [intOf]; omega
          · have hlim : LimOk limit Q9 := fun hVq => .inl (by rw [← capTo_ord hVq]; exact of_decide_eq_true hle)
            have HLM := Lib.hid hlim; clear hlim
            obtain ⟨b0, b1, b2, b3, b4⟩ := id hbr5
            have hZ := hbr5.all (.slice a1 n1 c1) (.slice a2 n2 c2) (.slice a3 n3 c3)
            obtain ⟨-, z0, z1, z2, -⟩ := id hZ
            have hgw : w.grownBy w5 (some sb) := grown_trans (grown_of_ext (some sb) hg0) (grown_trans hg hg15)
            have hP3 : Pres3 (From wr.heap.size) w5 (.slice a1 n1 c1) (.slice a2 n2 c2) (.slice a3 n3 c3) Q9 := HQ.out.1.mono (fun k hk hlt => ⟨hk.1, hlt, rfl⟩)
            have HF := Lib.hid (And.intro hgw (And.intro hP3 HQ.out.2)); clear hZ hgw hP3 hbr5 hb5
            go_wp2_with fail
            refine bodyPost_ret (v := .agg #[.slice a1 n1 c1, .slice a2 n2 c2, .slice a3 n3 c3]) (by simp [results, Tryz.results179, go_sem, z0, z1, z2]) rfl ?_
            exact vd_ret HF.out.1 (B := wr.heap.size) (by omega) HF.out.2.2 hB0 HV.out HLM.out HF.out.2.1
    · have hlt' : ¬ ((i : Int) < 12) := by omega
      obtain ⟨b0, b1, b2, b3, b4⟩ := id hbr
      go_wp2_with fail
      have hgL : Ext wr (wr.alloc (.cells #[.int .i64 2] 2)) := World.grownBy_alloc _ _ _
      have hL : Ints Any (wr.alloc (.cells #[.int .i64 2] 2)) (.slice (some ⟨wr.heap.size, 0, none⟩) 1 1) [2] := Ints.sub (ints_litL wr [2] (by simp)) (fun _ _ _ => trivial)
      refine Calls.mono (l07Trivial_ok _ _ [2] _ hL (by simp)) ?_
      rintro e3 w3 ⟨v3, rfl, hg3, vo, vp, vc, rfl, hX3⟩
      have hg3 := grown_trans hgL hg3
      have hP3 : Pres3 (From wr.heap.size) w3 vo vp vc (trivP [2]) := hX3.p3.mono (fun k hk hlt => ⟨Nat.le_trans hgL.size hk, hlt, rfl⟩)
      obtain ⟨a1, n1, c1, a2, n2, c2, a3, n3, c3, rfl, rfl, rfl⟩ := PresN3.shape ⟨trivP [2], trivP_shp (N := 6) _ (by simp), hP3⟩
      have hb3 := hbr.ext hg3
      have hs3 := hsr.out.ext hg3
      have hgw : w.grownBy w3 (some sb) := grown_trans (grown_of_ext (some sb) hg0) (grown_trans hg (grown_of_ext (some sb) hg3))
      clear hX3 hL hgL b0 b1 b2 b3 b4
      obtain ⟨b0, b1, b2, b3, b4⟩ := id hb3
      have hZ := hb3.all (.slice a1 n1 c1) (.slice a2 n2 c2) (.slice a3 n3 c3)
      obtain ⟨-, z0, z1, z2, -⟩ := id hZ
      have HF := Lib.hid (And.intro hgw (And.intro hP3 hs3)); clear hZ hgw hP3 hb3 hs3
      go_wp2_with fail
      refine bodyPost_ret (v := .agg #[.slice a1 n1 c1, .slice a2 n2 c2, .slice a3 n3 c3]) (by simp [results, Tryz.results179, go_sem, z0, z1, z2]) rfl ?_
      exact vd_ret HF.out.1 (B := wr.heap.size) (by omega) HF.out.2.2 hB0 valid_triv2 (fun _ => .inr (by decide)) HF.out.2.1

end Go.Proofs.YtldheeicjnncoaaGreat
namespace Go.Proofs.YtldheeicjnncoaaGreat
open Go.RowKit
attribute [local go_sem ↓] Go.wp_at_zero Go.wp_at_succ

/-- some presentation by value that can be read, with at most M orders, in new blocks -/
def PresA (M B : Nat) (w' : World) (v : Value) : Prop := ∃ (vo vp vc : Value) (Q : Pr), v = .agg #[vo, vp, vc] ∧ Q.orders.length ≤ M ∧ Pres3 (From B) w' vo vp vc Q
theorem PresX.moved {F : Nat → Prop} {w w' : World} {vo vp vc : Value} {P : Pr} (h : PresX F w vo vp vc P) {r : Nat} (hg : w.grownBy w' (some r)) (hr : ¬ F r) : PresX F w' vo vp vc P :=
  h.mono (fun k hk hlt => ⟨hk, Nat.lt_of_lt_of_le hlt hg.size, hg.block k hlt (fun e => hr (by have := Option.some.inj e; subst this; exact hk))⟩)
theorem Box3.moved {w w' : World} {b r : Nat} {x y z : Value} (h : Box3 w b x y z) (hg : w.grownBy w' (some r)) (hr : b ≠ r) : Box3 w' b x y z := h.keep hg.size (hg.block _ h.1 (fun e => hr (Option.some.inj e)))
/-- the same with a property -/
def PresAL (M : Nat) (C : Pr → Prop) (B : Nat) (w' : World) (v : Value) : Prop := ∃ (vo vp vc : Value) (Q : Pr), v = .agg #[vo, vp, vc] ∧ Q.orders.length ≤ M ∧ Pres3 (From B) w' vo vp vc Q ∧ C Q
/-- a valid presentation of at most the order of another one -/
def OrdLe (P Q : Pr) : Prop := Valid Q → ordP Q ≤ ordP P
theorem OrdLe.same {P Q : Pr} (h : Q.orders = P.orders) : OrdLe P Q := fun _ => by unfold ordP; rw [h]; exact Int.le_refl _
theorem LimOk.le {limit : Int} {P Q : Pr} (h : LimOk limit P) (hV : Valid P) (h2 : OrdLe P Q) : LimOk limit Q := fun hq => by
  have h3 := h2 hq
  rcases h hV with h | h
  · exact .inl (Int.le_trans h3 h)
  · exact .inr (Int.le_trans h3 h)
/-- the result's box is written: it is handed back -/
theorem a_ret {w wX : World} {sb B0 M br : Nat} {x y z : Value} {Q : Pr} {F : Nat → Prop} (hgw : w.grownBy wX (some sb)) (hbr : w.heap.size ≤ br) (hF : ∀ k, F k → k < wX.heap.size → w.heap.size ≤ k ∧ k ≠ br) (hsrc : Src B0 wX sb) (hB0 : B0 ≤ w.heap.size) {C : Pr → Prop} (hM : Q.orders.length ≤ M) (hP : Pres3 F wX x y z Q) (hC : C Q) :
    Mut w (some sb) (DrawR B0 sb (PresAL M C w.heap.size)) (.returned (.agg #[x, y, z])) (((wX.setCell ⟨br, 0, none⟩ x).setCell ⟨br, 1, none⟩ y).setCell ⟨br, 2, none⟩ z) := by
  have hT := grown_set3 wX br x y z
  exact ⟨_, rfl, grown_own hgw hT (fun j hj hlt => by cases hj; omega), ⟨x, y, z, Q, rfl, hM, hP.mono (fun k hk hlt => ⟨(hF k hk hlt).1, Nat.lt_of_lt_of_le hlt hT.size, hT.block k hlt (fun e => (hF k hk hlt).2 (Option.some.inj e))⟩), hC⟩, hsrc.own hT (fun k hk => by cases hk; omega)⟩

theorem PresX.openPIm {F : Nat → Prop} {w1 : World} {vo vp vc : Value} {P : Pr} {r : Nat} (h : PresX F w1 vo vp vc P) (i j : Nat) (hi : i < P.powers.length) (hj : j < (gt P.powers i).length) (hr : ¬ F r) :
    ∃ g cap b cap2, vp = .slice (some ⟨g, 0, none⟩) P.powers.length cap ∧ F g ∧ g < w1.heap.size ∧ w1.cell? ⟨g, i, none⟩ = some (.slice (some ⟨b, 0, none⟩) (gt P.powers i).length cap2) ∧ F b ∧ b ≠ g ∧ b < w1.heap.size ∧
      w1.cell? ⟨b, j, none⟩ = some (.int .i64 (gt (gt P.powers i) j)) ∧
      ∀ w2, w1.grownBy w2 (some r) → w2.frozen? ⟨b, j, none⟩ = false ∧ ∀ x, PresX (fun k => F k ∨ w2.heap.size ≤ k) (w2.setCell ⟨b, j, none⟩ (.int .i64 x)) vo vp vc { P with powers := P.powers.set i ((gt P.powers i).set j x) } := by
  obtain ⟨g, cap, b, cap2, rfl, h1, h2, h3, h4, h5, h6, h7, _, _⟩ := h.openPI i j hi hj
  refine ⟨g, cap, b, cap2, rfl, h1, h2, h3, h4, h5, h6, h7, fun w2 hg => ?_⟩
  have hm := h.moved hg hr
  obtain ⟨g', cap', b', cap2', e1, k1, k2, k3, k4, k5, k6, k7, k8, k9⟩ := hm.openPI i j hi hj
  cases e1
  have h3' := hg.cell h3 (by simp; intro e; subst e; exact hr h1)
  rw [h3'] at k3
  cases k3
  exact ⟨k8 w2 (Ext.refl _), fun x => k9 w2 x (Ext.refl _)⟩
theorem PresX.ordNe {F : Nat → Prop} {w : World} {vo vp vc : Value} {P : Pr} (h : PresX F w vo vp vc P) (i : Nat) (hi : i < P.powers.length) {g n cap b m c : Nat} (hv : vp = .slice (some ⟨g, 0, none⟩) n cap) (hc : w.cell? ⟨g, i, none⟩ = some (.slice (some ⟨b, 0, none⟩) m c)) : vo.ownBlock ≠ some b := by
  obtain ⟨Fo, Fp, Fc, h1, h2, h3, h4, h5, h6⟩ := h
  subst hv
  obtain ⟨v, Gj, hc2, hEl, hGj, _⟩ := SlI.turn rdOwn h2 i hi
  rw [hc] at hc2
  cases hc2
  exact fun e => (h4 b (h1.2.1 b e)).2.1 (hGj b (hEl.2.1 b rfl)).1
theorem PresX.ordNeC {F : Nat → Prop} {w : World} {vo vp vc : Value} {P : Pr} (h : PresX F w vo vp vc P) (i k : Nat) (hi : i < P.conj.length) (hk : k < (gt P.conj i).length) {g n cap e m c b m2 c2 : Nat} (hv : vc = .slice (some ⟨g, 0, none⟩) n cap) (hc : w.cell? ⟨g, i, none⟩ = some (.slice (some ⟨e, 0, none⟩) m c)) (hc2 : w.cell? ⟨e, k, none⟩ = some (.slice (some ⟨b, 0, none⟩) m2 c2)) : vo.ownBlock ≠ some b := by
  obtain ⟨Fo, Fp, Fc, h1, h2, h3, h4, h5, h6⟩ := h
  subst hv
  obtain ⟨v, Gj, q1, hEl, hGj, _⟩ := SlI.turn (rdI rdOwn) h3 i hi
  rw [hc] at q1
  cases q1
  obtain ⟨v, Hj, q2, hEl2, hHj, _⟩ := SlI.turn rdOwn hEl k hk
  rw [hc2] at q2
  cases q2
  exact fun e => (h4 b (h1.2.1 b e)).2.2 (hGj b (hHj b (hEl2.2.1 b rfl)).1).1
theorem PresX.openCIm {F : Nat → Prop} {w1 : World} {vo vp vc : Value} {P : Pr} {r : Nat} (h : PresX F w1 vo vp vc P) (i k j : Nat) (hi : i < P.conj.length) (hk : k < (gt P.conj i).length) (hj : j < (gt (gt P.conj i) k).length) (hr : ¬ F r) :
    ∃ g cap e cap1 b cap2, vc = .slice (some ⟨g, 0, none⟩) P.conj.length cap ∧ F g ∧ g < w1.heap.size ∧ w1.cell? ⟨g, i, none⟩ = some (.slice (some ⟨e, 0, none⟩) (gt P.conj i).length cap1) ∧ F e ∧ e < w1.heap.size ∧
      w1.cell? ⟨e, k, none⟩ = some (.slice (some ⟨b, 0, none⟩) (gt (gt P.conj i) k).length cap2) ∧ F b ∧ b ≠ g ∧ b ≠ e ∧ b < w1.heap.size ∧ w1.cell? ⟨b, j, none⟩ = some (.int .i64 (gt (gt (gt P.conj i) k) j)) ∧
      ∀ w2, w1.grownBy w2 (some r) → w2.frozen? ⟨b, j, none⟩ = false ∧ ∀ x, PresX (fun k => F k ∨ w2.heap.size ≤ k) (w2.setCell ⟨b, j, none⟩ (.int .i64 x)) vo vp vc { P with conj := P.conj.set i ((gt P.conj i).set k ((gt (gt P.conj i) k).set j x)) } := by
  obtain ⟨g, cap, e, cap1, b, cap2, rfl, h1, h2, h3, h4, h5, h6, h7, h8, h9, h10, h11, _, _⟩ := h.openCI i k j hi hk hj
  refine ⟨g, cap, e, cap1, b, cap2, rfl, h1, h2, h3, h4, h5, h6, h7, h8, h9, h10, h11, fun w2 hg => ?_⟩
  have hm := h.moved hg hr
  obtain ⟨g', cap', e', cap1', b', cap2', e1, k1, k2, k3, k4, k5, k6, k7, k8, k9, k10, k11, k12, k13⟩ := hm.openCI i k j hi hk hj
  cases e1
  have h3' := hg.cell h3 (by simp; intro e; subst e; exact hr h1)
  rw [h3'] at k3
  cases k3
  have h6' := hg.cell h6 (by simp; intro e; subst e; exact hr h4)
  rw [h6'] at k6
  cases k6
  exact ⟨k12 w2 (Ext.refl _), fun x => k13 w2 x (Ext.refl _)⟩

set_option maxRecDepth 100000 in
set_option maxHeartbeats 16000000 in
theorem l07TurnL_ok (B0 : Nat) (w : World) (sb : Nat) (pv : Value) (P : Pr) (F : Nat → Prop) (hB0 : B0 ≤ w.heap.size) (hs : Src B0 w sb) (hp : PresV F w pv P) (hV : Valid P) :
    Calls Tryz.prog 181 #[.pointer (some ⟨sb, 0, none⟩), pv] w (Mut w (some sb) (DrawR B0 sb (PresAL 7 (OrdLe P) w.heap.size))) := by
  have hsb := hs.lt
  have hS := hV.shp
  obtain ⟨vo, vp, vc, rfl, h3⟩ := hp
  obtain ⟨ao, co, hvo, _, _⟩ := h3.o.shape
  obtain ⟨ap, cp, hvp, _, _⟩ := Sl.shape h3.p
  obtain ⟨ac, cc, hvc, _, _⟩ := Sl.shape h3.c
  rw [hS.p] at hvp
  rw [hS.c] at hvc
  subst hvo hvp hvc
  obtain ⟨n, hn⟩ : ∃ n, n = P.orders.length := ⟨_, rfl⟩
  rw [← hn] at h3
  rw [← hn]
  have hn6 : n ≤ 6 := by rw [hn]; exact hS.n
  have hgA : Ext w (w.alloc (.cells #[.slice ao n co, .slice ap n cp, .slice ac n cc] 28)) := World.grownBy_alloc _ _ _
  have hsA : (w.alloc (.cells #[.slice ao n co, .slice ap n cp, .slice ac n cc] 28)).heap.size = w.heap.size + 1 := by simp
  have hbA := Box3.made w 28 (.slice ao n co) (.slice ap n cp) (.slice ac n cc)
  have HH := Lib.hid (And.intro hS (And.intro hV (And.intro hn hs))); clear hS hV hn hs
  go_enter Tryz.func181, Tryz.ntmps181
  go_wp2_with fail
  generalize w.alloc (.cells #[.slice ao n co, .slice ap n cp, .slice ac n cc] 28) = wA at *
  have hgB : Ext wA (wA.alloc (.cells #[.slice none 0 0, .slice none 0 0, .slice none 0 0] 28)) := World.grownBy_alloc _ _ _
  have hbB := Box3.made wA 28 (.slice none 0 0) (.slice none 0 0) (.slice none 0 0)
  have hg0 := grown_trans hgA hgB
  have hsB : (wA.alloc (.cells #[.slice none 0 0, .slice none 0 0, .slice none 0 0] 28)).heap.size = w.heap.size + 2 := by simp [hsA]
  rw [hsA] at hbB
  generalize wA.alloc (.cells #[.slice none 0 0, .slice none 0 0, .slice none 0 0] 28) = w0 at *
  have hs00 : w.heap.size + 2 ≤ w0.heap.size := by omega
  clear hgB hgA hbA hsA hsB
  refine Calls.mono (l07Own_ok w0 _ P F 6 ⟨_, _, _, rfl, h3.mono (frame_of hg0 (fun k hk _ => ⟨hk, by simp⟩))⟩ HH.out.1 (by omega)) ?_
  rintro e1 w1 ⟨v1, rfl, hg1, qo, qp, qc, rfl, hX1⟩
  obtain ⟨ao2, co2, ap2, cp2, ac2, cc2, e1, e2, e3⟩ := hX1.shape
  rw [HH.out.1.p] at e2
  rw [HH.out.1.c] at e3
  rw [← HH.out.2.2.1] at e1 e2 e3
  subst e1 e2 e3
  obtain ⟨qb, hqb⟩ : ∃ qb, qb = w1.heap.size := ⟨_, rfl⟩
  have hgq : Ext w1 (w1.alloc (.cells #[.slice ao2 n co2, .slice ap2 n cp2, .slice ac2 n cc2] 28)) := World.grownBy_alloc _ _ _
  have hbQ := Box3.made w1 28 (.slice ao2 n co2) (.slice ap2 n cp2) (.slice ac2 n cc2)
  rw [← hqb] at hbQ
  have hs1 := hg1.size
  have hX2 : PresX (fun k => w0.heap.size ≤ k ∧ k ≠ qb) (w1.alloc (.cells #[.slice ao2 n co2, .slice ap2 n cp2, .slice ac2 n cc2] 28)) (.slice ao2 n co2) (.slice ap2 n cp2) (.slice ac2 n cc2) P := hX1.mono (fun k hk hlt => ⟨⟨hk, by omega⟩, Nat.lt_of_lt_of_le hlt hgq.size, hgq.block k hlt (by simp)⟩)
  have hg02 := grown_trans hg1 hgq
  have HQB := Lib.hid hqb
  go_wp2_with fail
  rw [← HQB.out]
  generalize w1.alloc (.cells #[.slice ao2 n co2, .slice ap2 n cp2, .slice ac2 n cc2] 28) = w2 at *
  have hqs : w0.heap.size ≤ qb := by omega
  clear hX1 hg1 hgq hqb HQB hs1
  have hbR := hbB.ext hg02
  have hgw2 := grown_trans hg0 hg02
  have hs2 := HH.out.2.2.2.ext hgw2
  clear hbB hg02 hg0 h3
  -- i
  refine Calls.mono (l01Next_ok B0 w2 sb n hs2) ?_
  rintro e3 w3 ⟨v3, rfl, hg3, x, rfl, hx0, hx1, hs3⟩
  have hX3 := hX2.moved hg3 (fun h => by omega)
  have hbQ3 := hbQ.moved hg3 (by omega)
  have hbR3 := hbR.moved hg3 (by omega)
  have hgw3 := grown_trans (grown_of_ext (some sb) hgw2) hg3
  have hxl : 0 ≤ x ∧ x ≤ 6 := by
    by_cases h : (1 : Int) < n
    · have := hx1 h; omega
    · have := hx0 (by omega); omega
  have HX3 := Lib.hid (And.intro hX3 hs3)
  clear hX2 hbQ hbR hgw2 hs2 hg3 hX3 hs3
  obtain ⟨I, rfl⟩ := Int.eq_ofNat_of_zero_le hxl.1
  -- j
  go_wp2_with fail
  refine Calls.mono (l01Next_ok B0 w3 sb _ HX3.out.2) ?_
  rintro e4 w4 ⟨v4, rfl, hg4, y, rfl, hy0, hy1, hs4⟩
  have hX4 := HX3.out.1.moved hg4 (fun h => by omega)
  have hbQ4 := hbQ3.moved hg4 (by omega)
  have hbR4 := hbR3.moved hg4 (by omega)
  have hgw4 := grown_trans hgw3 hg4
  have hyl : 0 ≤ y ∧ y ≤ 6 := by
    by_cases h : 1 < (n : Int) - 1 - (I : Int)
    · have := hy1 h; omega
    · have := hy0 (by omega); omega
  have HX4 := Lib.hid (And.intro hX4 hs4)
  clear hg4 hX4 hs4 HX3 hbQ3 hbR3 hgw3 hy0 hy1 hx0 hx1
  obtain ⟨q0, q1, q2, q3, q4⟩ := id hbQ4
  by_cases hjn : (n : Int) ≤ (I : Int) + 1 + y
  · obtain ⟨b0, b1, b2, b3, b4⟩ := id hbR4
    have hZ := hbR4.all (.slice ao2 n co2) (.slice ap2 n cp2) (.slice ac2 n cc2)
    obtain ⟨-, z0, z1, z2, -⟩ := id hZ
    have HF := Lib.hid hgw4; clear hZ hgw4 hbR4 hbQ4
    go_wp2_with fail
    refine bodyPost_ret (v := .agg #[.slice ao2 n co2, .slice ap2 n cp2, .slice ac2 n cc2]) (by simp [results, Tryz.results181, go_sem, z0, z1, z2]) rfl ?_
    exact a_ret HF.out (by omega) (fun k hk _ => ⟨by omega, by omega⟩) HX4.out.2 hB0 (by rw [← HH.out.2.2.1]; omega) HX4.out.1.p3 (OrdLe.same rfl)
  obtain ⟨J, hJ⟩ : ∃ J : Nat, (I : Int) + 1 + y = J := ⟨((I : Int) + 1 + y).toNat, by omega⟩
  have hIn : I < n := by omega
  have hJn : J < n := by omega
  have hInI : (I : Int) < n := by omega
  have hJnI : (J : Int) < n := by omega
  have HJ := Lib.hid hJ
  go_wp2_with fail
  refine Calls.mono (l01Next_ok B0 w4 sb 3 HX4.out.2) ?_
  rintro e5 w5 ⟨v5, rfl, hg5, z, rfl, _, _, hs5⟩
  have hX5 := HX4.out.1.moved hg5 (fun h => by omega)
  have hbQ5 := hbQ4.moved hg5 (by omega)
  have hbR5 := hbR4.moved hg5 (by omega)
  have hgw5 := grown_trans hgw4 hg5
  have HX5 := Lib.hid (And.intro hX5 hs5)
  clear hg5 hX5 hs5 HX4 hbQ4 hbR4 hgw4 q0 q1 q2 q3 q4
  have hVn := HH.out.2.2.1
  have hpl : (gt P.powers I).length = n := by rw [hVn]; exact (HH.out.2.1.pv I (by omega)).1.1
  have hPl := HH.out.2.1.pl
  have hCl := HH.out.2.1.cl
  by_cases hz : z = 0
  · have hzb : (z == 0) = true := by simp [hz]
    clear hz
    obtain ⟨g, capg, b, capb, hvp, ⟨hgB, hgq⟩, hgl, hcg, ⟨hbB, hbq⟩, hbg, hbl, hcb, hst⟩ := HX5.out.1.openPIm (r := sb) I J (by omega) (by omega) (fun h => by omega)
    obtain ⟨rfl, rfl⟩ : ap2 = some ⟨g, 0, none⟩ ∧ cp2 = capg := by cases hvp; exact ⟨rfl, rfl⟩
    clear hvp
    obtain ⟨bo, oo, rfl, ⟨hboB, hboq⟩, hbol, hco⟩ := Ints.at HX5.out.1.p3.o J (by omega)
    rw [hpl] at hcg
    have hne : bo ≠ b := fun e => HX5.out.1.ordNe I (by omega) rfl hcg (by rw [← e]; rfl)
    generalize gt P.orders J = oj at hco
    generalize gt (gt P.powers I) J = pij at hcb
    have e0 : ∀ w', NearS w5 sb b w' → w'.cell? ⟨qb, 0, none⟩ = some (.slice (some ⟨bo, oo, none⟩) n co2) := fun w' h => h.cell hbQ5.2.1 (by simp; omega) (by simp; omega)
    have e1 : ∀ w', NearS w5 sb b w' → w'.cell? ⟨qb, 1, none⟩ = some (.slice (some ⟨g, 0, none⟩) n cp2) := fun w' h => h.cell hbQ5.2.2.1 (by simp; omega) (by simp; omega)
    have e2 : ∀ w', NearS w5 sb b w' → w'.cell? ⟨g, I, none⟩ = some (.slice (some ⟨b, 0, none⟩) n capb) := fun w' h => h.cell hcg (by simp; omega) (by simp; omega)
    have e3 : ∀ w', NearS w5 sb b w' → w'.cell? ⟨bo, oo + J, none⟩ = some (.int .i64 oj) := fun w' h => h.cell hco (by simp; omega) (by simp; omega)
    have HXX := Lib.hid (And.intro hst hpl); clear hst hpl hPl hCl hVn HJ hJ
    clear hcg hco
    go_wp2_with fail
    go_region_held3 (fun w' => NearS w5 sb b w') (first | exact NearS.ext (grown_drew _ _) | exact NearS.of (by assumption) | exact NearS.two hg6 (grown_set1 _ _ _ _) | assumption)
      (first
        | (go_at_call 111; refine Calls.mono (l01Next_ok B0 w5.drew sb oj (HX5.out.2.ext (grown_drew _ _))) ?_; rintro e6 w6 ⟨v6, rfl, hg6a, u, rfl, hu0, hu1, hs6⟩; have hg6 : w5.grownBy w6 (some sb) := grown_trans (grown_of_ext (some sb) (grown_drew _ _)) hg6a; have hcb6 := hg6.cell hcb (by simp; omega); have hfr6 := (HXX.out.1 w6 hg6).1))
    have hX6 := (HXX.out.1 w6 hg6).2 u
    have hT := grown_set1 w6 b J (.int .i64 u)
    have hsz6 := hg6.size
    have hbQ6 := (hbQ5.moved hg6 (by omega)).moved hT (by omega)
    have hbR6 := (hbR5.moved hg6 (by omega)).moved hT (by omega)
    have hgw6 := grown_own (grown_trans hgw5 hg6) hT (fun j hj hlt => by have := Option.some.inj hj; omega)
    have hs6' := hs6.own hT (fun k hk => by have := Option.some.inj hk; omega)
    clear hcb6 hfr6 e0 e1 e2 e3 hT hbQ5 hbR5 hgw5 hu0 hu1 hs6 hg6a
    have HX6 := Lib.hid (And.intro hX6 (And.intro hs6' hgw6)); clear hX6 hs6' hgw6
    generalize w6.setCell ⟨b, J, none⟩ (.int .i64 u) = w7 at *
    obtain ⟨q0, q1, q2, q3, q4⟩ := id hbQ6
    obtain ⟨b0, b1, b2, b3, b4⟩ := id hbR6
    have hZ := hbR6.all (.slice (some ⟨bo, oo, none⟩) n co2) (.slice (some ⟨g, 0, none⟩) n cp2) (.slice ac2 n cc2)
    obtain ⟨-, z0, z1, z2, -⟩ := id hZ
    clear hZ hbR6 hbQ6
    go_wp2_with fail
    refine bodyPost_ret (v := .agg #[.slice (some ⟨bo, oo, none⟩) n co2, .slice (some ⟨g, 0, none⟩) n cp2, .slice ac2 n cc2]) (by simp [results, Tryz.results181, go_sem, z0, z1, z2]) rfl ?_
    exact a_ret HX6.out.2.2 (by omega) (fun k hk _ => ⟨by rcases hk with hk | hk <;> omega, by rcases hk with hk | hk <;> omega⟩) HX6.out.2.1 hB0 (by show P.orders.length ≤ 7; rw [← HH.out.2.2.1]; omega) HX6.out.1.p3 (OrdLe.same rfl)
  · have hzb : (z == 0) = false := by simp [hz]
    clear hz
    have HVN := Lib.hid hVn; clear hVn
    have HPC := Lib.hid (And.intro hPl hCl); clear hPl hCl hpl
    go_wp2_with fail
    have hVn := HVN.out
    obtain ⟨hPl, hCl⟩ := HPC.out
    refine Calls.mono (l01Next_ok B0 w5 sb _ HX5.out.2) ?_
    rintro e6 w6 ⟨v6, rfl, hg6, y2, rfl, hy0, hy1, hs6⟩
    have hX6 := HX5.out.1.moved hg6 (fun h => by omega)
    have hbQ6 := hbQ5.moved hg6 (by omega)
    have hbR6 := hbR5.moved hg6 (by omega)
    have hgw6 := grown_trans hgw5 hg6
    have hIn1 : (I : Int) + 1 < n := by omega
    have hy2 : 0 ≤ y2 ∧ (I : Int) + 1 + y2 < n := by
      by_cases h : 1 < (n : Int) - 1 - (I : Int)
      · have := hy1 h; omega
      · have := hy0 (by omega); omega
    obtain ⟨K, hK⟩ : ∃ K : Nat, (I : Int) + 1 + y2 = K := ⟨((I : Int) + 1 + y2).toNat, by omega⟩
    obtain ⟨M, hM⟩ : ∃ M : Nat, (K : Int) - (I : Int) = (M : Int) + 1 := ⟨((K : Int) - (I : Int) - 1).toNat, by omega⟩
    have hMi : IntKind.i64.wrap ((K : Int) - (I : Int)) = (M : Int) + 1 := by rw [hM]; exact IntWalk.i64_in _ (by omega)
    have hMj : IntKind.i64.wrap (M : Int) = (M : Int) := IntWalk.i64_in _ (by omega)
    have HX6 := Lib.hid (And.intro hX6 hs6)
    clear hg6 hX6 hs6 HX5 hbQ5 hbR5 hgw5 hy0 hy1
    have hcl := (HH.out.2.1.cv I (by omega)).1
    have hvl := ((HH.out.2.1.cv I (by omega)).2 M (by omega)).1.1
    obtain ⟨g, capg, e, cap1, b, capb, hvc, ⟨hgB, hgq⟩, hgl, hcg, ⟨heB, heq⟩, hel, hce, ⟨hbB, hbq⟩, hbg, hbe, hbl, hcb, hst⟩ := HX6.out.1.openCIm (r := sb) I M J (by omega) (by rw [hcl]; omega) (by rw [hvl]; omega) (fun h => by omega)
    obtain ⟨rfl, rfl⟩ : ac2 = some ⟨g, 0, none⟩ ∧ cc2 = capg := by cases hvc; exact ⟨rfl, rfl⟩
    clear hvc
    obtain ⟨bo, oo, rfl, ⟨hboB, hboq⟩, hbol, hco⟩ := Ints.at HX6.out.1.p3.o J (by omega)
    have hne : bo ≠ b := fun e => HX6.out.1.ordNeC I M (by omega) (by rw [hcl]; omega) rfl hcg hce (by rw [← e]; rfl)
    rw [hcl, ← hVn] at hcg
    rw [hvl, ← hVn] at hce
    obtain ⟨m, hm⟩ : ∃ m, m = n - 1 - I := ⟨_, rfl⟩
    rw [← hm] at hcg
    have hMm : (M : Int) < m := by omega
    generalize gt P.orders J = oj at hco
    generalize gt (gt (gt P.conj I) M) J = pij at hcb
    have e0 : ∀ w', NearS w6 sb b w' → w'.cell? ⟨qb, 0, none⟩ = some (.slice (some ⟨bo, oo, none⟩) n co2) := fun w' h => h.cell hbQ6.2.1 (by simp; omega) (by simp; omega)
    have e1 : ∀ w', NearS w6 sb b w' → w'.cell? ⟨qb, 2, none⟩ = some (.slice (some ⟨g, 0, none⟩) n cc2) := fun w' h => h.cell hbQ6.2.2.2.1 (by simp; omega) (by simp; omega)
    have e2 : ∀ w', NearS w6 sb b w' → w'.cell? ⟨g, I, none⟩ = some (.slice (some ⟨e, 0, none⟩) m cap1) := fun w' h => h.cell hcg (by simp; omega) (by simp; omega)
    have e3 : ∀ w', NearS w6 sb b w' → w'.cell? ⟨bo, oo + J, none⟩ = some (.int .i64 oj) := fun w' h => h.cell hco (by simp; omega) (by simp; omega)
    have e4 : ∀ w', NearS w6 sb b w' → w'.cell? ⟨e, M, none⟩ = some (.slice (some ⟨b, 0, none⟩) n capb) := fun w' h => h.cell hce (by simp; omega) (by simp; omega)
    have HXX := Lib.hid hst; clear hst hPl hCl HJ hJ hm hM hcl hvl
    clear hcg hco hce hVn
    have HKM := Lib.hid (And.intro hMi hMj); clear hMi hMj
    go_wp2_with fail
    have hMi := HKM.out.1
    have hMj := HKM.out.2
    go_region_held3 (fun w' => NearS w6 sb b w') (first | exact NearS.ext (grown_drew _ _) | exact NearS.of (by assumption) | exact NearS.two hg7 (grown_set1 _ _ _ _) | assumption)
      (first
        | (go_at_call 111; refine Calls.mono (l01Next_ok B0 w6.drew sb oj (HX6.out.2.ext (grown_drew _ _))) ?_; rintro e7 w7 ⟨v7, rfl, hg7a, u, rfl, hu0, hu1, hs7⟩; have hg7 : w6.grownBy w7 (some sb) := grown_trans (grown_of_ext (some sb) (grown_drew _ _)) hg7a; have hcb7 := hg7.cell hcb (by simp; omega); have hfr7 := (HXX.out w7 hg7).1))
    clear hMi hMj
    have hX7 := (HXX.out w7 hg7).2 u
    have hT := grown_set1 w7 b J (.int .i64 u)
    have hsz7 := hg7.size
    have hbQ7 := (hbQ6.moved hg7 (by omega)).moved hT (by omega)
    have hbR7 := (hbR6.moved hg7 (by omega)).moved hT (by omega)
    have hgw7 := grown_own (grown_trans hgw6 hg7) hT (fun j hj hlt => by have := Option.some.inj hj; omega)
    have hs7' := hs7.own hT (fun k hk => by have := Option.some.inj hk; omega)
    clear hcb7 hfr7 e0 e1 e2 e3 e4 hT hbQ6 hbR6 hgw6 hu0 hu1 hs7 hg7a
    have HX7 := Lib.hid (And.intro hX7 (And.intro hs7' hgw7)); clear hX7 hs7' hgw7
    generalize w7.setCell ⟨b, J, none⟩ (.int .i64 u) = w8 at *
    obtain ⟨q0, q1, q2, q3, q4⟩ := id hbQ7
    obtain ⟨b0, b1, b2, b3, b4⟩ := id hbR7
    have hZ := hbR7.all (.slice (some ⟨bo, oo, none⟩) n co2) (.slice ap2 n cp2) (.slice (some ⟨g, 0, none⟩) n cc2)
    obtain ⟨-, z0, z1, z2, -⟩ := id hZ
    clear hZ hbR7 hbQ7
    go_wp2_with fail
    refine bodyPost_ret (v := .agg #[.slice (some ⟨bo, oo, none⟩) n co2, .slice ap2 n cp2, .slice (some ⟨g, 0, none⟩) n cc2]) (by simp [results, Tryz.results181, go_sem, z0, z1, z2]) rfl ?_
    exact a_ret HX7.out.2.2 (by omega) (fun k hk _ => ⟨by rcases hk with hk | hk <;> omega, by rcases hk with hk | hk <;> omega⟩) HX7.out.2.1 hB0 (by show P.orders.length ≤ 7; rw [← HVN.out]; omega) HX7.out.1.p3 (OrdLe.same rfl)

end Go.Proofs.YtldheeicjnncoaaGreat
namespace Go.Proofs.YtldheeicjnncoaaGreat
open Go.RowKit
attribute [local go_sem ↓] Go.wp_at_zero Go.wp_at_succ

theorem step_app_intH {ops : Array Oper} {o : Oper} {a : Act} {K : Act → World → Prop} {Q : Exit → Act → World → Prop} {Ex : Prop} {w : World} (hgd : o.guard = none) (s x : Operand)
    (ho : o.op = Op.call { callee := Callee.builtin Builtin.append, args := #[s, x], argTypes := #[24, 24] }) (B : Nat) (v : Value) (l : List Int) (y : Int) (hs : a.eval s = v) (hown : Own B w v l)
    (H : Nat) (hx : a.eval x = .slice (some ⟨H, 0, none⟩) 1 1) (hu : w.cell? ⟨H, 0, none⟩ = some (.int .i64 y)) (hlen : l.length ≤ 1000000) (hbase : B ≤ w.heap.size)
    (h : ∀ v' w', Own B w' v' (l ++ [y]) → w.grownBy w' v.ownBlock → K (a.put o.dst v') w') :
    if Region.wanted o (yielded ops a.tmps) = true then Oper.wp Tryz.prog o a w K Q else Ex := by
  refine step_app 24 2 (.int .i64 0) 8 und_ints Tryz.infoInt rfl (by decide) hgd s x ho B v (l.map (Value.int .i64)) hs hown.v H (.int .i64 y) hx hu rfl (by simpa using (by omega : l.length ≤ 2000000)) hbase ?_
  intro v' w' h1 h2 _
  exact h v' w' (Own.of (by rw [List.map_append]; exact h1)) h2

theorem PresX.conjOwn {F : Nat → Prop} {w : World} {vo vp vc : Value} {P : Pr} (h : PresX F w vo vp vc P) (i : Nat) (hi : i < P.conj.length) :
    ∃ g cap z, vc = .slice (some ⟨g, 0, none⟩) P.conj.length cap ∧ F g ∧ w.cell? ⟨g, i, none⟩ = some z ∧ g < w.heap.size ∧ w.frozen? ⟨g, i, none⟩ = false := by
  obtain ⟨Fo, Fp, Fc, h1, h2, h3, h4, h5, h6⟩ := h
  rcases SlI.form h3 with ⟨_, e⟩ | ⟨g, cap, rfl, hFg, hgl⟩
  · rw [e] at hi; simp at hi
  obtain ⟨⟨z, hz⟩, hf⟩ := SlI.place h3 i hi
  exact ⟨g, cap, z, rfl, h6 g hFg, hz, hgl, hf⟩

theorem step_app_rowH {ops : Array Oper} {o : Oper} {a : Act} {K : Act → World → Prop} {Q : Exit → Act → World → Prop} {Ex : Prop} {w : World} (hgd : o.guard = none) (s x : Operand)
    (ho : o.op = Op.call { callee := Callee.builtin Builtin.append, args := #[s, x], argTypes := #[25, 25] }) (B : Nat) (v : Value) (vs : List Value) (hs : a.eval s = v) (hown : OwnV B 24 w v vs)
    (H : Nat) (u : Value) (hx : a.eval x = .slice (some ⟨H, 0, none⟩) 1 1) {a1 : Option Addr} {n1 c1 : Nat} (hu : w.cell? ⟨H, 0, none⟩ = some u ∧ u = .slice a1 n1 c1) (hlen : vs.length ≤ 1000000) (hbase : B ≤ w.heap.size)
    (h : ∀ v' w', OwnV B 24 w' v' (vs ++ [u]) → w.grownBy w' v.ownBlock → (v'.ownBlock = v.ownBlock ∨ v'.ownBlock = some w.heap.size) → K (a.put o.dst v') w') :
    if Region.wanted o (yielded ops a.tmps) = true then Oper.wp Tryz.prog o a w K Q else Ex :=
  step_app 25 24 (.slice none 0 0) 24 und_rows Tryz.infoRow rfl (by decide) hgd s x ho B v vs hs hown H u hx hu.1 (by rw [hu.2]; rfl) (by omega) hbase h
/-- rows with one more, as they read -/
theorem rows_app {B : Nat} {w5 wc w6 : World} {v5 v6 u : Value} {vs : List Value} {L : List (List Int)} {y : List Int} {U : Nat → Prop} (hO6 : OwnV B 24 w6 v6 (vs ++ [u])) (hl : vs.length = L.length) (hll : L.length ≤ 1000000)
    (hE : ∀ i, i < L.length → Ints (fun k => B ≤ k ∧ v5.ownBlock ≠ some k) w5 (gt vs i) (gt L i)) (hc : Ext w5 wc) (hg : wc.grownBy w6 v5.ownBlock) (hu : Ints U wc u y) (hU : ∀ k, U k → B ≤ k ∧ v5.ownBlock ≠ some k) :
    Rows2 (fun k => B ≤ k) w6 v6 (L ++ [y]) := by
  have hlt := hO6.lt
  rcases hO6.form with ⟨_, h2⟩ | ⟨g, cap, rfl, hnc, _, _⟩
  · simp at h2
  refine ⟨some ⟨g, 0, none⟩, cap, by simp [hl], ⟨by simp at hnc; simp; omega, by simp; omega, fun h => by cases h⟩, fun i hi => ?_⟩
  · have hi : i < (vs ++ [u]).length := by simp at hi ⊢; omega
    refine ⟨g, 0, gt (vs ++ [u]) i, rfl, (hlt g rfl).1, (hlt g rfl).2, by rw [Nat.zero_add]; exact hO6.cell i hi, ?_⟩
    by_cases hlt2 : i < vs.length
    · rw [gt_append_left _ _ _ hlt2, gt_append_left _ _ _ (by omega)]
      exact Ints.mono (hE i (by omega)) (fun k hk hkl => ⟨hk.1, Nat.lt_of_lt_of_le hkl (Nat.le_trans hc.size hg.size), (hg.block k (Nat.lt_of_lt_of_le hkl hc.size) (fun e => hk.2 e.symm)).trans (hc.block k hkl (by simp))⟩)
    · have hie : i = vs.length := by simp at hi; omega
      subst hie
      rw [gt_concat, hl, gt_concat]
      exact Ints.mono hu (fun k hk hkl => ⟨(hU k hk).1, Nat.lt_of_lt_of_le hkl hg.size, hg.block k hkl (fun e => (hU k hk).2 e.symm)⟩)
/-- a row of conjugates is turned: what can be read behind it -/
theorem PresX.putRow {F : Nat → Prop} {w w6 : World} {vo vp : Value} {P : Pr} {g n cap : Nat} {u : Value} {L : List (List Int)} (h : PresX F w vo vp (.slice (some ⟨g, 0, none⟩) n cap) P) (i : Nat) (hi : i < n) (hn : P.conj.length = n) (hg : Ext w w6) (hu : Rows2 (fun k => w.heap.size ≤ k) w6 u L) :
    ∃ Q : Pr, Q.orders = P.orders ∧ Pres3 (fun k => F k ∨ w.heap.size ≤ k) (w6.setCell ⟨g, i, none⟩ u) vo vp (.slice (some ⟨g, 0, none⟩) n cap) Q := by
  obtain ⟨Fo, Fp, Fc, h1, h2, h3, h4, h5, h6⟩ := h
  have hFg : Fc g := by
    rcases SlI.form h3 with ⟨e, _⟩ | ⟨g', c', e, hF, _⟩
    · cases e
    · cases e; exact hF
  have hgl : g < w.heap.size := by
    rcases SlI.form h3 with ⟨e, _⟩ | ⟨g', c', e, _, hl⟩
    · cases e
    · cases e; exact hl
  have hT := grown_set1 w6 g i u
  have hblk : ∀ k, k < w.heap.size → k ≠ g → k < (w6.setCell ⟨g, i, none⟩ u).heap.size ∧ (w6.setCell ⟨g, i, none⟩ u).heap[k]? = w.heap[k]? := fun k hk hne => ⟨Nat.lt_of_lt_of_le hk (Nat.le_trans hg.size hT.size), (hT.block k (Nat.lt_of_lt_of_le hk hg.size) (fun e => hne (Option.some.inj e))).trans (hg.block k hk (by simp))⟩
  have h3r : SlI (fun F w u (x : List (List Int)) => Rows2 F w u x) 25 (fun k => Fc k ∧ k < w.heap.size) w6 (.slice (some ⟨g, 0, none⟩) n cap) P.conj :=
    SlI.map (fun _ _ _ _ h => RowsI.rows h) (rdRows3I.mono h3 (fun k hk hlt => ⟨⟨hk, hlt⟩, Nat.lt_of_lt_of_le hlt hg.size, hg.block k hlt (by simp)⟩))
  have hrd : RdOk (fun F w u (x : List (List Int)) => Rows2 F w u x) := ⟨fun h hb => Rows2.mono h hb, fun h => by obtain ⟨_, _, rfl, _⟩ := Sl.shape h; rfl⟩
  have hp := SlI.putR hrd h3r hu (fun k hk h => by omega) i
  refine ⟨⟨P.orders, P.powers, P.conj.set i L⟩, rfl, ⟨?_, ?_, ?_⟩⟩
  · exact Ints.mono h1.ints (fun k hk hlt => by
      have h := hblk k hlt (fun e => (h4 k hk).2.2 (e ▸ hFg))
      exact ⟨.inl (h4 k hk).1, h.1, h.2⟩)
  · exact Rows2.mono (RowsI.rows h2) (fun k hk hlt => by
      have h := hblk k hlt (fun e => (h5 k hk).2 (e ▸ hFg))
      exact ⟨.inl (h5 k hk).1, h.1, h.2⟩)
  · exact Rows3.sub (S := fun k => (Fc k ∧ k < w.heap.size) ∨ w.heap.size ≤ k) hp (fun k hk _ => hk.elim (fun h => .inl (h6 k h.1)) .inr)

/-- behind the switch: some presentation in the variable -/
def BendCut (P0 : Pr) (B0 sb qb : Nat) (w wx : World) : Prop := ∃ (a1 : Option Addr) (n1 c1 : Nat) (a2 : Option Addr) (n2 c2 : Nat) (a3 : Option Addr) (n3 c3 : Nat) (Q : Pr), Box3 wx qb (.slice a1 n1 c1) (.slice a2 n2 c2) (.slice a3 n3 c3) ∧ Box3 wx (w.heap.size + 1) (.slice none 0 0) (.slice none 0 0) (.slice none 0 0) ∧
  w.grownBy wx (some sb) ∧ Src B0 wx sb ∧ Q.orders.length ≤ 7 ∧ OrdLe P0 Q ∧ Pres3 (fun k => w.heap.size + 2 ≤ k) wx (.slice a1 n1 c1) (.slice a2 n2 c2) (.slice a3 n3 c3) Q

set_option linter.unusedSimpArgs false in
set_option maxRecDepth 100000 in
set_option maxHeartbeats 16000000 in
theorem l07BendL_ok (B0 : Nat) (w : World) (sb : Nat) (pv : Value) (P : Pr) (F : Nat → Prop) (hB0 : B0 ≤ w.heap.size) (hs : Src B0 w sb) (hp : PresV F w pv P) (hV : Valid P) :
    Calls Tryz.prog 180 #[.pointer (some ⟨sb, 0, none⟩), pv] w (Mut w (some sb) (DrawR B0 sb (PresAL 7 (OrdLe P) w.heap.size))) := by
  have hsb := hs.lt
  have hS := hV.shp
  obtain ⟨vo, vp, vc, rfl, h3⟩ := hp
  obtain ⟨ao, co, hvo, _, _⟩ := h3.o.shape
  obtain ⟨ap, cp, hvp, _, _⟩ := Sl.shape h3.p
  obtain ⟨ac, cc, hvc, _, _⟩ := Sl.shape h3.c
  rw [hS.p] at hvp
  rw [hS.c] at hvc
  subst hvo hvp hvc
  obtain ⟨n, hn⟩ : ∃ n, n = P.orders.length := ⟨_, rfl⟩
  rw [← hn] at h3
  rw [← hn]
  have hn6 : n ≤ 6 := by rw [hn]; exact hS.n
  have hgA : Ext w (w.alloc (.cells #[.slice ao n co, .slice ap n cp, .slice ac n cc] 28)) := World.grownBy_alloc _ _ _
  have hsA : (w.alloc (.cells #[.slice ao n co, .slice ap n cp, .slice ac n cc] 28)).heap.size = w.heap.size + 1 := by simp
  have hbA := Box3.made w 28 (.slice ao n co) (.slice ap n cp) (.slice ac n cc)
  have HH := Lib.hid (And.intro hS (And.intro hV (And.intro hn hs))); clear hS hV hn hs
  go_enter Tryz.func180, Tryz.ntmps180
  go_wp2_with fail
  generalize w.alloc (.cells #[.slice ao n co, .slice ap n cp, .slice ac n cc] 28) = wA at *
  have hgB : Ext wA (wA.alloc (.cells #[.slice none 0 0, .slice none 0 0, .slice none 0 0] 28)) := World.grownBy_alloc _ _ _
  have hbB := Box3.made wA 28 (.slice none 0 0) (.slice none 0 0) (.slice none 0 0)
  have hg0 := grown_trans hgA hgB
  have hsB : (wA.alloc (.cells #[.slice none 0 0, .slice none 0 0, .slice none 0 0] 28)).heap.size = w.heap.size + 2 := by simp [hsA]
  rw [hsA] at hbB
  generalize wA.alloc (.cells #[.slice none 0 0, .slice none 0 0, .slice none 0 0] 28) = w0 at *
  have hs00 : w.heap.size + 2 ≤ w0.heap.size := by omega
  clear hgB hgA hbA hsA hsB
  refine Calls.mono (l07Own_ok w0 _ P F 6 ⟨_, _, _, rfl, h3.mono (frame_of hg0 (fun k hk _ => ⟨hk, by simp⟩))⟩ HH.out.1 (by omega)) ?_
  rintro e1 w1 ⟨v1, rfl, hg1, qo, qp, qc, rfl, hX1⟩
  obtain ⟨ao2, co2, ap2, cp2, ac2, cc2, e1, e2, e3⟩ := hX1.shape
  rw [HH.out.1.p] at e2
  rw [HH.out.1.c] at e3
  rw [← HH.out.2.2.1] at e1 e2 e3
  subst e1 e2 e3
  obtain ⟨qb, hqb⟩ : ∃ qb, qb = w1.heap.size := ⟨_, rfl⟩
  have hgq : Ext w1 (w1.alloc (.cells #[.slice ao2 n co2, .slice ap2 n cp2, .slice ac2 n cc2] 28)) := World.grownBy_alloc _ _ _
  have hbQ := Box3.made w1 28 (.slice ao2 n co2) (.slice ap2 n cp2) (.slice ac2 n cc2)
  rw [← hqb] at hbQ
  have hs1 := hg1.size
  have hX2 : PresX (fun k => w0.heap.size ≤ k ∧ k ≠ qb) (w1.alloc (.cells #[.slice ao2 n co2, .slice ap2 n cp2, .slice ac2 n cc2] 28)) (.slice ao2 n co2) (.slice ap2 n cp2) (.slice ac2 n cc2) P := hX1.mono (fun k hk hlt => ⟨⟨hk, by omega⟩, Nat.lt_of_lt_of_le hlt hgq.size, hgq.block k hlt (by simp)⟩)
  have hg02 := grown_trans hg1 hgq
  have HQB := Lib.hid hqb
  go_wp2_with fail
  rw [← HQB.out]
  generalize w1.alloc (.cells #[.slice ao2 n co2, .slice ap2 n cp2, .slice ac2 n cc2] 28) = w2 at *
  have hqs : w0.heap.size ≤ qb := by omega
  clear hX1 hg1 hgq hqb HQB hs1
  have hbR := hbB.ext hg02
  have hgw2 := grown_trans hg0 hg02
  have hs2 := HH.out.2.2.2.ext hgw2
  clear hbB hg02 hg0 h3
  refine Calls.mono (l01Next_ok B0 w2 sb 6 hs2) ?_
  rintro e3 w3 ⟨v3, rfl, hg3, x, rfl, _, hx1, hs3⟩
  have hX3 := hX2.moved hg3 (fun h => by omega)
  have hbQ3 := hbQ.moved hg3 (by omega)
  have hbR3 := hbR.moved hg3 (by omega)
  have hgw3 := grown_trans (grown_of_ext (some sb) hgw2) hg3
  have hx := hx1 (by omega)
  have hPn := HH.out.2.2.1
  have hP2 : P.powers.length = n := by rw [hPn]; exact HH.out.2.1.pl
  have hC2 : P.conj.length = n := by rw [hPn]; exact HH.out.2.1.cl
  have hq3 : qb < w3.heap.size := hbQ3.1
  have HX3 := Lib.hid (And.intro hX3 (And.intro hs3 (And.intro hPn (And.intro hP2 hC2))))
  clear hX2 hbQ hbR hgw2 hs2 hg3 hX3 hs3 hx1 hPn hP2 hC2
  obtain ⟨q0, q1, q2, q3, q4⟩ := id hbQ3
  go_upto_block 0 with fail
  go_cut [] (fun wx => BendCut P B0 sb qb w wx)
  case' rest =>
    obtain ⟨a1, n1, c1, a2, n2, c2, a3, n3, c3, Q, hbQx, hbRx, hgx, hsx, hQl, hQo, hQx⟩ := hcut
    clear q0 q1 q2 q3 q4 hbQ3 hbR3 HX3 hgw3
    obtain ⟨q0, q1, q2, q3, q4⟩ := id hbQx
    obtain ⟨b0, b1, b2, b3, b4⟩ := id hbRx
    have hZ := hbRx.all (.slice a1 n1 c1) (.slice a2 n2 c2) (.slice a3 n3 c3)
    obtain ⟨-, z0, z1, z2, -⟩ := id hZ
    have HF := Lib.hid (And.intro hgx (And.intro hsx (And.intro hQx (And.intro hQl hQo)))); clear hZ hgx hsx hQx hQl hQo
    go_wp2_with fail
    refine bodyPost_ret (v := .agg #[.slice a1 n1 c1, .slice a2 n2 c2, .slice a3 n3 c3]) (by simp [results, Tryz.results180, go_sem, z0, z1, z2]) rfl ?_
    exact a_ret HF.out.1 (br := w.heap.size + 1) (by omega) (fun k hk _ => ⟨by omega, by omega⟩) HF.out.2.1 hB0 HF.out.2.2.2.1 HF.out.2.2.1 HF.out.2.2.2.2
  rcases (show x = 0 ∨ x = 1 ∨ x = 2 ∨ x = 3 ∨ x = 4 ∨ x = 5 by omega) with rfl | rfl | rfl | rfl | rfl | rfl
  all_goals clear hx
  · obtain ⟨Fo, Fp, Fc, h1, h2, h3, h4, h5, h6⟩ := HX3.out.1
    have hO := h1.1
    have hoB : ∀ k, (Value.slice ao2 n co2).ownBlock = some k → (w0.heap.size ≤ k ∧ k ≠ qb) ∧ ¬ Fp k ∧ ¬ Fc k := fun k hk => h4 k (h1.2.1 k hk)
    have hsz0 : w3.heap.size ≤ w3.heap.size := Nat.le_refl _
    have HO := Lib.hid (And.intro hoB (And.intro h2 (And.intro h3 (And.intro h5 h6)))); clear hoB h1 h2 h3 h4 h5 h6
    have hll : P.orders.length ≤ 1000000 := by have := HX3.out.2.2.1; omega
    have hlx : (P.orders ++ [2]).length = P.orders.length + 1 := by simp
    go_wp2_with (first | (at_builtin; refine wp_app_intb rfl _ _ rfl 0 (.slice ao2 n co2) P.orders 2 rfl w3 hO rfl rfl hll (Nat.zero_le _) ?_; intro v5 w5 hO5 hg5 hat5; have hb5 : Box3 w5 qb (.slice ao2 n co2) (.slice ap2 n cp2) (.slice ac2 n cc2) := hbQ3.keep hg5.size (hg5.block _ hbQ3.1 (fun e => (HO.out.1 qb e.symm).1.2 rfl)); have hbR5 := hbR3.keep hg5.size (hg5.block _ hbR3.1 (fun e => by have := (HO.out.1 _ e.symm).1.1; omega)); obtain ⟨r0, r1, r2, r3, r4⟩ := id hb5; obtain ⟨a5, n5, hv5, _⟩ := (hO5.ints (by omega)).shape; rw [hlx] at hv5; subst hv5; have hb6 := (hb5.put (.slice a5 (P.orders.length + 1) n5)).1; have hT6 := grown_set1 w5 qb 0 (.slice a5 (P.orders.length + 1) n5); have hbR6 := hbR5.moved hT6 (by omega); have HBB := Lib.hid (And.intro hb6 hbR6); have HF := Lib.hid (And.intro hO5 (And.intro hg5 (And.intro hat5 hT6))); clear hO5 hg5 hat5 hT6 hbR6 hb6 hb5 hbR5) | fail)
    obtain ⟨hO5, hg5, hat5, hT6⟩ := HF.out
    have hg36 : w.grownBy (w5.setCell ⟨qb, 0, none⟩ (.slice a5 (P.orders.length + 1) n5)) (some sb) := grown_own (grown_own hgw3 hg5 (fun j hj hlt => by have := (HO.out.1 j hj).1.1; omega)) hT6 (fun j hj hlt => by have := Option.some.inj hj; omega)
    have hs6 := (HX3.out.2.1.own hg5 (fun j hj => by have := (HO.out.1 j hj).1.1; omega)).own hT6 (fun k hk => by have := Option.some.inj hk; omega)
    have hP6 : Pres3 (fun k => (w0.heap.size ≤ k ∧ k ≠ qb)) (w5.setCell ⟨qb, 0, none⟩ (.slice a5 (P.orders.length + 1) n5)) (.slice a5 (P.orders.length + 1) n5) (.slice ap2 n cp2) (.slice ac2 n cc2) ⟨P.orders ++ [2], P.powers, P.conj⟩ := by
      have hblk : ∀ k, k < w3.heap.size → (Value.slice ao2 n co2).ownBlock ≠ some k → k ≠ qb → k < (w5.setCell ⟨qb, 0, none⟩ (.slice a5 (P.orders.length + 1) n5)).heap.size ∧ (w5.setCell ⟨qb, 0, none⟩ (.slice a5 (P.orders.length + 1) n5)).heap[k]? = w3.heap[k]? := fun k hk h1 h2 =>
        ⟨Nat.lt_of_lt_of_le hk (Nat.le_trans hg5.size hT6.size), (hT6.block k (Nat.lt_of_lt_of_le hk hg5.size) (fun e => h2 (Option.some.inj e))).trans (hg5.block k hk (fun e => h1 e.symm))⟩
      refine ⟨?_, ?_, ?_⟩
      · have hI : Ints (fun k => w0.heap.size ≤ k ∧ k ≠ qb) w5 (.slice a5 (P.orders.length + 1) n5) (P.orders ++ [2]) := ints_of_own hO5 (by omega) (fun k hk => by
          rcases hat5 with e | e
          · rw [e] at hk; exact (HO.out.1 k hk).1
          · have := e k hk; exact ⟨by omega, by omega⟩)
        exact Ints.mono hI (fun k hk hlt => ⟨hk, Nat.lt_of_lt_of_le hlt hT6.size, hT6.block k hlt (fun e => hk.2 (Option.some.inj e))⟩)
      · exact Rows2.mono (RowsI.rows HO.out.2.1) (fun k hk hlt => by
          have h5 := HO.out.2.2.2.1 k hk
          have h := hblk k hlt (fun e => (HO.out.1 k e).2.1 hk) h5.1.2
          exact ⟨h5.1, h.1, h.2⟩)
      · exact Rows3.mono (Rows3I.rows HO.out.2.2.1) (fun k hk hlt => by
          have h5 := HO.out.2.2.2.2 k hk
          have h := hblk k hlt (fun e => (HO.out.1 k e).2.2 hk) h5.2
          exact ⟨h5, h.1, h.2⟩)
    try go_meet
    exact ⟨_, _, _, _, _, _, _, _, _, _, HBB.out.1, HBB.out.2, hg36, hs6, (by simp; have := HX3.out.2.2.1; omega), (by exact fun h => absurd h.pl (by show ¬ P.powers.length = (P.orders ++ [2]).length; rw [HX3.out.2.2.2.1, List.length_append, ← HX3.out.2.2.1, List.length_singleton]; omega)), hP6.mono (fun k hk hlt => ⟨by omega, hlt, rfl⟩)⟩
  · by_cases hn0 : n = 0
    · have hnb : decide (0 < n) = false := by simp [hn0]
      clear hn0
      go_wp2_with fail
      try go_wp2_with fail
      go_meet
      exact ⟨_, _, _, _, _, _, _, _, _, _, hbQ3, hbR3, hgw3, HX3.out.2.1, (by rw [← HX3.out.2.2.1]; omega), (by exact OrdLe.same rfl), Pres3.mono HX3.out.1.p3 (fun k hk hlt => ⟨by omega, hlt, rfl⟩)⟩
    · have hn1 : 0 < n := by omega
      clear hn0
      obtain ⟨Fo, Fp, Fc, h1, h2, h3, h4, h5, h6⟩ := HX3.out.1
      have hO := h1.1
      obtain ⟨g, capg, hvo, _, hgl⟩ := hO.form (by rw [← HX3.out.2.2.1]; exact hn1)
      obtain ⟨rfl, rfl⟩ : ao2 = some ⟨g, 0, none⟩ ∧ co2 = capg := by cases hvo; exact ⟨rfl, rfl⟩
      clear hvo
      have hFg := h1.2.1 g rfl
      have hg4 := h4 g hFg
      have hgB : w0.heap.size ≤ g := hg4.1.1
      have hgq : g ≠ qb := hg4.1.2
      have hc0 := hO.cell 0 (by rw [← HX3.out.2.2.1]; exact hn1)
      have hf0 := hO.frozen 0
      generalize gt P.orders 0 = oz at hc0
      have HO := Lib.hid (And.intro hO (And.intro h2 (And.intro h3 (And.intro h5 (And.intro h6 hg4))))); clear h1 h2 h3 h4 h5 h6 hO hg4 hFg
      have e0 : ∀ w', NearS w3 sb g w' → w'.cell? ⟨qb, 0, none⟩ = some (.slice (some ⟨g, 0, none⟩) n co2) := fun w' h => h.cell hbQ3.2.1 (by simp; omega) (by simp; omega)
      have hL := ints_litL w3.drew [4, 1, 11, 0, -2] (by simp)
      have hLn : ∀ y ∈ ([4, 1, 11, 0, -2] : List Int), -2 ≤ y := by simp
      have HL := Lib.hid (And.intro hL hLn); clear hL hLn
      have hnI : (0 : Int) < n := by omega
      go_wp2_with fail
      go_region_held3 (fun w' => NearS w3 sb g w') (first | exact NearS.ext (grown_drew _ _) | exact NearS.ext (grown_trans (grown_drew _ _) (World.grownBy_alloc _ _ _)) | exact NearS.of (by assumption) | exact NearS.two hg5 (grown_set1 _ _ _ _) | assumption)
        (first
          | (go_at_call 182; refine Calls.mono (l01Pick_ok B0 _ sb _ [4, 1, 11, 0, -2] _ (HX3.out.2.1.ext (grown_trans (grown_drew _ _) (World.grownBy_alloc _ _ _))) HL.out.1 (fun k hk => by have hk : k = w3.heap.size := hk; omega) (by simp) (by simp)) ?_; rintro e5 w5 ⟨v5, rfl, hg5a, i, hi, rfl, hs5⟩; have hg5 : w3.grownBy w5 (some sb) := grown_trans (grown_of_ext (some sb) (grown_trans (grown_drew _ _) (World.grownBy_alloc _ _ _))) hg5a; have hc5 := hg5.cell hc0 (by simp; omega); have hf5 := (World.frozen?_of_block (a := ⟨g, 0, none⟩) (hg5.block g hgl (fun e => by have := Option.some.inj e; omega))).trans hf0))
      have hsz5 := hg5.size
      have hT := grown_set1 w5 g 0 (.int .i64 (gt [4, 1, 11, 0, -2] i))
      have hb6 := (hbQ3.moved hg5 (by omega)).moved hT (by omega)
      have hbR6 := (hbR3.moved hg5 (by omega)).moved hT (by omega)
      have hg6 := grown_own (grown_trans hgw3 hg5) hT (fun j hj hlt => by have := Option.some.inj hj; omega)
      have hs6 := hs5.own hT (fun k hk => by have := Option.some.inj hk; omega)
      have hO5 : Own 0 w5 (.slice (some ⟨g, 0, none⟩) n co2) P.orders := HO.out.1.kept hg5 (.inr (fun e => by have := own_blk e; omega))
      have hO6 := (hO5.store 0 (gt [4, 1, 11, 0, -2] i)).1
      have hP6 : Pres3 (fun k => (w0.heap.size ≤ k ∧ k ≠ qb)) (w5.setCell ⟨g, 0, none⟩ (.int .i64 (gt [4, 1, 11, 0, -2] i))) (.slice (some ⟨g, 0, none⟩) n co2) (.slice ap2 n cp2) (.slice ac2 n cc2) ⟨P.orders.set 0 (gt [4, 1, 11, 0, -2] i), P.powers, P.conj⟩ := by
        have hblk : ∀ k, k < w3.heap.size → g ≠ k → (w0.heap.size ≤ k ∧ k ≠ qb) → k < (w5.setCell ⟨g, 0, none⟩ (.int .i64 (gt [4, 1, 11, 0, -2] i))).heap.size ∧ (w5.setCell ⟨g, 0, none⟩ (.int .i64 (gt [4, 1, 11, 0, -2] i))).heap[k]? = w3.heap[k]? := fun k hk h1 h2 =>
          ⟨Nat.lt_of_lt_of_le hk (Nat.le_trans hg5.size hT.size), (hT.block k (Nat.lt_of_lt_of_le hk hg5.size) (fun e => h1 (Option.some.inj e).symm)).trans (hg5.block k hk (fun e => by have := Option.some.inj e; omega))⟩
        refine ⟨?_, ?_, ?_⟩
        · exact ints_of_own hO6 (by rw [List.length_set, ← HX3.out.2.2.1]; omega) (fun k hk => by have := own_blk hk; subst this; exact ⟨hgB, hgq⟩)
        · exact Rows2.mono (RowsI.rows HO.out.2.1) (fun k hk hlt => by
            have h5 := HO.out.2.2.2.1 k hk
            have h := hblk k hlt (fun e => HO.out.2.2.2.2.2.2.1 (e ▸ hk)) h5.1
            exact ⟨h5.1, h.1, h.2⟩)
        · exact Rows3.mono (Rows3I.rows HO.out.2.2.1) (fun k hk hlt => by
            have h5 := HO.out.2.2.2.2.1 k hk
            have h := hblk k hlt (fun e => HO.out.2.2.2.2.2.2.2 (e ▸ hk)) h5
            exact ⟨h5, h.1, h.2⟩)
      clear hc5 hf5 e0 hT hO6 hs5 hg5a hg5 hbQ3 hbR3 hgw3 q0 q1 q2 q3 q4 hc0 hf0
      have hLen : (P.orders.set 0 (gt [4, 1, 11, 0, -2] i)).length ≤ 7 := by rw [List.length_set, ← HX3.out.2.2.1]; omega
      have hNo : OrdLe P ⟨P.orders.set 0 (gt [4, 1, 11, 0, -2] i), P.powers, P.conj⟩ := fun h => by
        have h1 : gt (P.orders.set 0 (gt [4, 1, 11, 0, -2] i)) 0 = 2 ∨ gt (P.orders.set 0 (gt [4, 1, 11, 0, -2] i)) 0 = 3 ∨ gt (P.orders.set 0 (gt [4, 1, 11, 0, -2] i)) 0 = 5 ∨ gt (P.orders.set 0 (gt [4, 1, 11, 0, -2] i)) 0 = 7 := h.ord 0 (by show 0 < (P.orders.set 0 _).length; rw [List.length_set, ← HX3.out.2.2.1]; exact hn1)
        exfalso
        rw [gt_set_eq _ _ _ (by rw [← HX3.out.2.2.1]; exact hn1)] at h1
        have hi5 : i < 5 := hi
        obtain rfl | rfl | rfl | rfl | rfl : i = 0 ∨ i = 1 ∨ i = 2 ∨ i = 3 ∨ i = 4 := by omega
        all_goals simp [gt] at h1
      have HLen := Lib.hid (And.intro hLen hNo); clear hLen hNo
      generalize w5.setCell ⟨g, 0, none⟩ (.int .i64 (gt [4, 1, 11, 0, -2] i)) = w6 at *
      try go_wp2_with fail
      go_meet
      exact ⟨_, _, _, _, _, _, _, _, _, _, hb6, hbR6, hg6, hs6, HLen.out.1, HLen.out.2, Pres3.mono hP6 (fun k hk hlt => ⟨by omega, hlt, rfl⟩)⟩
  · by_cases hn0 : n = 0
    · have hnb : decide (0 < n) = false := by simp [hn0]
      clear hn0
      go_wp2_with fail
      try go_wp2_with fail
      go_meet
      exact ⟨_, _, _, _, _, _, _, _, _, _, hbQ3, hbR3, hgw3, HX3.out.2.1, (by rw [← HX3.out.2.2.1]; omega), (by exact OrdLe.same rfl), Pres3.mono HX3.out.1.p3 (fun k hk hlt => ⟨by omega, hlt, rfl⟩)⟩
    · have hn1 : 0 < n := by omega
      clear hn0
      have hnI : (0 : Int) < n := by omega
      have hr0 := HX3.out.1.p3.p
      obtain ⟨bq, oq, ae, ce, hap, hbF, _, hcr, hre⟩ := Rows2.at hr0 0 (by rw [HX3.out.2.2.2.1]; exact hn1)
      obtain ⟨g, capg, z, hvp, ⟨hgB, hgq⟩, hgl, hcg, hfg, _⟩ := HX3.out.1.putP 0 (by rw [HX3.out.2.2.2.1]; exact hn1) (U := fun _ => False) (y := []) (u := .slice none 0 0) ⟨none, 0, rfl, ⟨by simp, by simp, fun _ => rfl⟩, fun i hi => by simp at hi⟩ (fun _ h => h.elim)
      obtain ⟨rfl, rfl⟩ : ap2 = some ⟨g, 0, none⟩ ∧ cp2 = capg := by cases hvp; exact ⟨rfl, rfl⟩
      have hbg : g = bq := by cases hap; rfl
      have hoq : oq = 0 := by cases hap; rfl
      clear hap
      subst hbg hoq
      rw [Nat.zero_add] at hcr
      have hel : (gt P.powers 0).length ≤ 6 := HH.out.1.pv _ (gtMem (by rw [HX3.out.2.2.2.1]; exact hn1))
      obtain ⟨e, he⟩ : ∃ e, e = gt P.powers 0 := ⟨_, rfl⟩
      rw [← he] at hcr hre hel
      clear hvp he hcg hr0
      have hbd := hbQ3.ext (grown_drew _ none)
      obtain ⟨d0, d1, d2, d3, d4⟩ := id hbd
      have f1 : w3.drew.cell? ⟨g, 0, none⟩ = some (.slice ae e.length ce) := hcr
      have hlx : (e ++ [(0 : Int)]).length = e.length + 1 := by simp
      go_wp2_with fail
      have e1 : ∀ w', Near w3 g w' → w'.cell? ⟨qb, 1, none⟩ = some (.slice (some ⟨g, 0, none⟩) n cp2) := fun w' h => h.cell hbQ3.2.2.1 (by simp; omega)
      refine wp_region_held_drew (S := fun w' => Near w3 g w') (by kernel_rfl) (Near.of (grown_drew _ _)) (fun hHeld => ?_)
      refine tk 0 ?_
      refine tk 1 ?_
      refine tk 2 ?_
      refine tk 3 ?_
      refine tk 4 ?_
      have hA1 : Ext w3 (w3.alloc (.cells #[.int .i64 0] 2)).drew := grown_trans (World.grownBy_alloc _ _ _) (grown_drew _ _)
      refine rd2 5 7 (fun Kc hKc => ?_) (fun Kc hKc => ?_)
      focus
        go_simp
        refine ko hKc (by assumption) (fun hHeld => ?_)
        clear hKc Kc
        refine rd2 6 7 (fun Kc hKc => ?_) (fun Kc hKc => ?_)
        focus
          go_simp
          go_at_call 86
          refine Calls.mono (l01Own_ok w3.drew _ e _ (hre.ext (grown_drew _ _)) (by omega)) ?_
          rintro e5 w5 ⟨v5, rfl, hg5, hO5d⟩
          have hg35 : Ext w3 w5 := grown_trans (grown_drew _ _) hg5
          have hO5 : Own w3.heap.size w5 v5 e := hO5d
          obtain ⟨a5, c5, hv5, _⟩ := (hO5.ints (by omega)).shape
          subst hv5
          go_wp2_with fail
          refine ko hKc (Near.of hg35) (fun hHeld => ?_)
          clear hKc Kc
          refine rd1 7 (fun Kc hKc => ?_)
          go_simp
          refine ko hKc (Near.of (grown_trans hg35 (World.grownBy_alloc _ _ _))) (fun hHeld => ?_)
          clear hKc Kc
          refine rd1 8 (fun Kc hKc => ?_)
          refine step_app_int (by rfl) _ _ (by rfl) w3.heap.size _ e 0 (by rfl) w5 hO5 (by rfl) (by rfl) (by omega) hg35.size ?_
        rotate_left
        focus
          go_simp
          refine ko hKc (Near.of hA1) (fun hHeld => ?_)
          clear hKc Kc
          refine rd1 6 (fun Kc hKc => ?_)
          go_simp
          go_at_call 86
          refine Calls.mono (l01Own_ok (w3.alloc (.cells #[.int .i64 0] 2)).drew _ e _ (hre.ext hA1) (by omega)) ?_
          rintro e5 w5 ⟨v5, rfl, hg5, hO5d⟩
          have hg35 : Ext w3 w5 := grown_trans hA1 hg5
          have hsd : (w3.alloc (.cells #[.int .i64 0] 2)).drew.heap.size = w3.heap.size + 1 := (by simp : (w3.alloc (.cells #[.int .i64 0] 2)).heap.size = w3.heap.size + 1)
          have hO5 : Own w3.heap.size w5 v5 e := hO5d.weak (by omega)
          have hu4 : (w3.alloc (.cells #[.int .i64 0] 2)).drew.cell? ⟨w3.heap.size, 0, none⟩ = some (.int .i64 0) := (by rw [World.cell?_alloc_at _ _ _ _ rfl]; rfl : (w3.alloc (.cells #[.int .i64 0] 2)).cell? ⟨w3.heap.size, 0, none⟩ = some (.int .i64 0))
          have hu5 := hg5.cell hu4 (by simp)
          obtain ⟨a5, c5, hv5, _⟩ := (hO5.ints (by omega)).shape
          subst hv5
          go_wp2_with fail
          refine ko hKc (Near.of hg35) (fun hHeld => ?_)
          clear hKc Kc
          refine rd1 8 (fun Kc hKc => ?_)
          refine step_app_intH (by rfl) _ _ (by rfl) w3.heap.size _ e 0 (by rfl) hO5 w3.heap.size (by rfl) hu5 (by omega) hg35.size ?_
      rotate_left 2
      focus
        go_simp
        refine ko hKc (Near.of hA1) (fun hHeld => ?_)
        clear hKc Kc
        refine rd1 5 (fun Kc hKc => ?_)
        have f2 : (w3.alloc (.cells #[.int .i64 0] 2)).drew.cell? ⟨g, 0, none⟩ = some (.slice ae e.length ce) := (hA1 : Ext w3 (w3.alloc (.cells #[.int .i64 0] 2)).drew).cell hcr (by simp)
        go_simp
        refine ko hKc (by assumption) (fun hHeld => ?_)
        clear hKc Kc
        refine rd1 6 (fun Kc hKc => ?_)
        go_simp
        go_at_call 86
        refine Calls.mono (l01Own_ok (w3.alloc (.cells #[.int .i64 0] 2)).drew _ e _ (hre.ext hA1) (by omega)) ?_
        rintro e5 w5 ⟨v5, rfl, hg5, hO5d⟩
        have hg35 : Ext w3 w5 := grown_trans hA1 hg5
        have hsd : (w3.alloc (.cells #[.int .i64 0] 2)).drew.heap.size = w3.heap.size + 1 := (by simp : (w3.alloc (.cells #[.int .i64 0] 2)).heap.size = w3.heap.size + 1)
        have hO5 : Own w3.heap.size w5 v5 e := hO5d.weak (by omega)
        have hu4 : (w3.alloc (.cells #[.int .i64 0] 2)).drew.cell? ⟨w3.heap.size, 0, none⟩ = some (.int .i64 0) := (by rw [World.cell?_alloc_at _ _ _ _ rfl]; rfl : (w3.alloc (.cells #[.int .i64 0] 2)).cell? ⟨w3.heap.size, 0, none⟩ = some (.int .i64 0))
        have hu5 := hg5.cell hu4 (by simp)
        obtain ⟨a5, c5, hv5, _⟩ := (hO5.ints (by omega)).shape
        subst hv5
        go_wp2_with fail
        refine ko hKc (Near.of hg35) (fun hHeld => ?_)
        clear hKc Kc
        refine rd1 8 (fun Kc hKc => ?_)
        refine step_app_intH (by rfl) _ _ (by rfl) w3.heap.size _ e 0 (by rfl) hO5 w3.heap.size (by rfl) hu5 (by omega) hg35.size ?_
      all_goals
        intro v6 w6 hO6 hg6
        have hg36 : Ext w3 w6 := grown_own hg35 hg6 (fun j hj hlt => by have := (hO5.lt j hj).1; omega)
        obtain ⟨a6, c6, hv6, _⟩ := (hO6.ints (by simp; omega)).shape
        rw [hlx] at hv6
        subst hv6
        have r1 := hg36.cell hcr (by simp)
        have r2 := (World.frozen?_of_block (a := ⟨g, 0, none⟩) (hg36.block g hgl (by simp))).trans hfg
        refine ko hKc (Near.of hg36) (fun hHeld => ?_)
        clear hKc Kc
        refine tk 9 ?_
        refine rd1 10 (fun Kc hKc => ?_)
        go_simp
        refine ko hKc (Near.store hg36) (fun hHeld => ?_)
        clear hKc Kc
        refine wpAnyH_done (by kernel_rfl) ?_ _
        have hT := grown_set1 w6 g 0 (.slice a6 (e.length + 1) c6)
        have hb7 := (hbQ3.ext hg36).moved hT (by omega)
        have hbR7 := (hbR3.ext hg36).moved hT (by omega)
        have hg7 := grown_own (grown_trans hgw3 (grown_of_ext (some sb) hg36)) hT (fun j hj hlt => by have := Option.some.inj hj; omega)
        have hs7 := (HX3.out.2.1.ext hg36).own hT (fun k hk => by have := Option.some.inj hk; omega)
        have hX6 : PresX (fun k => w0.heap.size ≤ k ∧ k ≠ qb ∧ k < w3.heap.size) w6 (.slice ao2 n co2) (.slice (some ⟨g, 0, none⟩) n cp2) (.slice ac2 n cc2) P := HX3.out.1.mono (fun k hk hlt => ⟨⟨hk.1, hk.2, hlt⟩, Nat.lt_of_lt_of_le hlt hg36.size, hg36.block k hlt (by simp)⟩)
        have hYI : Ints (fun k => w3.heap.size ≤ k) w6 (.slice a6 (e.length + 1) c6) (e ++ [0]) := ints_of_own hO6 (by omega) (fun k hk => (hO6.lt k hk).1)
        obtain ⟨g', _, _, he1, _, _, _, _, hP7⟩ := hX6.putP 0 (by rw [HX3.out.2.2.2.1]; exact hn1) hYI (fun k hk h => by omega)
        have hgg : g' = g := by simp only [Value.slice.injEq, Option.some.injEq, Addr.mk.injEq] at he1; exact he1.1.1.symm
        rw [hgg] at hP7
        clear he1 hgg
        clear hA1 hT hX6 hYI hO6 hO5 r1 r2
        go_wp2_with fail
        go_meet
        exact ⟨_, _, _, _, _, _, _, _, _, _, hb7, hbR7, hg7, hs7, (by show P.orders.length ≤ 7; rw [← HX3.out.2.2.1]; omega), (by exact OrdLe.same rfl), hP7.mono (fun k hk hlt => ⟨by rcases hk with hk | hk <;> omega, hlt, rfl⟩)⟩
  · by_cases hn0 : n = 0
    · have hnb : decide (0 < n) = false := by simp [hn0]
      clear hn0
      go_wp2_with fail
      try go_wp2_with fail
      go_meet
      exact ⟨_, _, _, _, _, _, _, _, _, _, hbQ3, hbR3, hgw3, HX3.out.2.1, (by rw [← HX3.out.2.2.1]; omega), (by exact OrdLe.same rfl), Pres3.mono HX3.out.1.p3 (fun k hk hlt => ⟨by omega, hlt, rfl⟩)⟩
    · have hn1 : 0 < n := by omega
      clear hn0
      have hnI : (0 : Int) < n := by omega
      have hpl : (gt P.powers 0).length = n := by rw [HX3.out.2.2.1]; exact (HH.out.2.1.pv 0 (by rw [← HX3.out.2.2.1]; exact hn1)).1.1
      obtain ⟨g, capg, b, capb, hvp, ⟨hgB, hgq⟩, hgl, hcg, ⟨hbB, hbq⟩, hbg, hbl, hcb, hst⟩ := HX3.out.1.openPIm (r := sb) 0 0 (by rw [HX3.out.2.2.2.1]; exact hn1) (by rw [hpl]; exact hn1) (fun h => by omega)
      obtain ⟨rfl, rfl⟩ : ap2 = some ⟨g, 0, none⟩ ∧ cp2 = capg := by cases hvp; exact ⟨rfl, rfl⟩
      clear hvp
      rw [hpl] at hcg
      obtain ⟨hfr, hX4⟩ := hst w3 (grown_refl _ _)
      have hX4 := hX4 1
      have hT := grown_set1 w3 b 0 (.int .i64 1)
      have hb6 := hbQ3.moved hT (by omega)
      have hbR6 := hbR3.moved hT (by omega)
      have hg6 := grown_own hgw3 hT (fun j hj hlt => by have := Option.some.inj hj; omega)
      have hs6 := HX3.out.2.1.own hT (fun k hk => by have := Option.some.inj hk; omega)
      generalize gt (gt P.powers 0) 0 = oz at hcb
      have HX4 := Lib.hid (And.intro hX4 (And.intro hb6 (And.intro hbR6 (And.intro hg6 hs6)))); clear hX4 hb6 hbR6 hg6 hs6 hT hst hpl
      go_wp2_with fail
      go_meet
      obtain ⟨hX4, hb6, hbR6, hg6, hs6⟩ := HX4.out
      exact ⟨_, _, _, _, _, _, _, _, _, _, hb6, hbR6, hg6, hs6, (by show P.orders.length ≤ 7; rw [← HX3.out.2.2.1]; omega), (by exact OrdLe.same rfl), hX4.p3.mono (fun k hk hlt => ⟨by rcases hk with hk | hk <;> omega, hlt, rfl⟩)⟩
  · by_cases hn0 : n = 0
    · have hnb : decide (0 < n) = false := by simp [hn0]
      clear hn0
      go_wp2_with fail
      try go_wp2_with fail
      go_meet
      exact ⟨_, _, _, _, _, _, _, _, _, _, hbQ3, hbR3, hgw3, HX3.out.2.1, (by rw [← HX3.out.2.2.1]; omega), (by exact OrdLe.same rfl), Pres3.mono HX3.out.1.p3 (fun k hk hlt => ⟨by omega, hlt, rfl⟩)⟩
    · have hn1 : 0 < n := by omega
      clear hn0
      have hnI : (0 : Int) < n := by omega
      have hr0 := HX3.out.1.p3.c
      obtain ⟨bq, oq, ae, ce, hap, hbF, _, hcr, hre⟩ := Rows3.at hr0 0 (by rw [HX3.out.2.2.2.2]; exact hn1)
      obtain ⟨g, capg, z, hvp, hgB, hgq, hgl, hfg⟩ := HX3.out.1.conjOwn 0 (by rw [HX3.out.2.2.2.2]; exact hn1)
      obtain ⟨rfl, rfl⟩ : ac2 = some ⟨g, 0, none⟩ ∧ cc2 = capg := by cases hvp; exact ⟨rfl, rfl⟩
      have hbg : g = bq := by cases hap; rfl
      have hoq : oq = 0 := by cases hap; rfl
      clear hap
      subst hbg hoq
      rw [Nat.zero_add] at hcr
      have e1 : ∀ w', Near w3 g w' → w'.cell? ⟨qb, 2, none⟩ = some (.slice (some ⟨g, 0, none⟩) n cc2) := fun w' h => h.cell hbQ3.2.2.2.1 (by simp; omega)
      have e0 : ∀ w', Near w3 g w' → w'.cell? ⟨qb, 0, none⟩ = some (.slice ao2 n co2) := fun w' h => h.cell hbQ3.2.1 (by simp; omega)
      have hrl : (gt P.conj 0).length ≤ 6 := by rw [HH.out.1.cl 0 (by rw [← HX3.out.2.2.1]; exact hn1), ← HX3.out.2.2.1]; omega
      have hrv : ∀ x ∈ gt P.conj 0, x.length ≤ 1000000 := fun x hx => by have := HH.out.1.cv _ (gtMem (by rw [HX3.out.2.2.2.2]; exact hn1)) x hx; omega
      obtain ⟨R, hR⟩ : ∃ R, R = gt P.conj 0 := ⟨_, rfl⟩
      rw [← hR] at hcr hre hrl hrv
      have HR := Lib.hid (And.intro hrv hR)
      clear hvp hrv hR hr0 hgB
      have hmk := fun w => run_mk_ints n (by omega) w
      go_wp2_with fail
      refine wp_region_held_drew (S := fun w' => Near w3 g w') (by kernel_rfl) (Near.of (grown_drew _ _)) (fun hHeld => ?_)
      refine tk 0 ?_
      refine tk 1 ?_
      refine tk 2 ?_
      refine tk 3 ?_
      refine tk 4 ?_
      refine tk 7 ?_
      refine tk 8 ?_
      refine tk 9 ?_
      have hA0 : Ext w3 w3.drew := grown_drew _ _
      have hA1 : Ext w3 (w3.alloc (.cells (madeCells #[.int .i64 0] n) 2)).drew := grown_trans (World.grownBy_alloc _ _ _) (grown_drew _ _)
      have hA2 : Ext w3 ((w3.alloc (.cells (madeCells #[.int .i64 0] n) 2)).alloc (.cells #[.slice (some ⟨w3.heap.size, 0, none⟩) n n] 24)).drew := grown_trans (World.grownBy_alloc _ _ _) (grown_trans (World.grownBy_alloc _ _ _) (grown_drew _ _))
      have hown : ∀ (w' : World) (m : Nat), Ext w3 w' → w'.heap.size = w3.heap.size + m → Calls Tryz.prog 216 #[.slice ae R.length ce] w' (fun e5 w5 => ∃ a5 c5 vs, e5 = .returned (.slice a5 vs.length c5) ∧ Ext w' w5 ∧ Ext w3 w5 ∧ vs.length ≤ 6 ∧ OwnV w3.heap.size 24 w5 (.slice a5 vs.length c5) vs ∧ (∀ k, (Value.slice a5 vs.length c5).ownBlock = some k → w3.heap.size + m ≤ k) ∧ Hid ((∀ i, i < R.length → Ints (fun k => w3.heap.size ≤ k ∧ (Value.slice a5 vs.length c5).ownBlock ≠ some k) w5 (gt vs i) (gt R i)) ∧ vs.length = R.length)) := fun w' m hx hm => by
        refine Calls.mono (l01Own2_ok w' _ R _ (Rows2.ext hre hx) HR.out.1 (by omega)) ?_
        rintro e5 w5 ⟨v5, rfl, hg5, vs, G, hvl, hO5, hG5, _, hE5⟩
        have hx3 := hx.size
        have hO6 : OwnV w3.heap.size 24 w5 v5 vs := ownsRow_move hO5 (fun k hk => ⟨rfl, Nat.le_trans hx3 (hO5.lt k hk).1⟩)
        obtain ⟨a5, c5, rfl⟩ : ∃ a c, v5 = .slice a vs.length c := by
          rcases hO5.form with ⟨h1, h2⟩ | ⟨g5, cap5, h1, _⟩
          · exact ⟨_, _, by rw [h1, h2]; rfl⟩
          · exact ⟨_, _, h1⟩
        exact ⟨a5, c5, vs, rfl, hg5, grown_trans hx hg5, by omega, hO6, fun k hk => by have := (hO5.lt k hk).1; omega, Lib.hid ⟨fun i hi => Ints.sub (hE5 i hi).ints (fun k hk _ => ⟨Nat.le_trans hx3 (hG5 i k hi hk).1, (hG5 i k hi hk).2.1⟩), hvl⟩⟩
      have hz0 : w3.drew.heap.size = w3.heap.size + 0 := rfl
      have hz1 : (w3.alloc (.cells (madeCells #[.int .i64 0] n) 2)).drew.heap.size = w3.heap.size + 1 := (by simp : (w3.alloc (.cells (madeCells #[.int .i64 0] n) 2)).heap.size = w3.heap.size + 1)
      have hz2 : ((w3.alloc (.cells (madeCells #[.int .i64 0] n) 2)).alloc (.cells #[.slice (some ⟨w3.heap.size, 0, none⟩) n n] 24)).drew.heap.size = w3.heap.size + 2 := (by simp : ((w3.alloc (.cells (madeCells #[.int .i64 0] n) 2)).alloc (.cells #[.slice (some ⟨w3.heap.size, 0, none⟩) n n] 24)).heap.size = w3.heap.size + 2)
      have hll : ∀ (vs : List Value) (u : Value), (vs ++ [u]).length = vs.length + 1 := fun vs u => by simp
      refine rd2 5 10 (fun Kc hKc => ?_) (fun Kc hKc => ?_)
      focus
        have f2 : w3.drew.cell? ⟨g, 0, none⟩ = some (.slice ae R.length ce) := (hA0 : Ext w3 w3.drew).cell hcr (by simp)
        go_simp
        refine ko hKc (Near.of hA0) (fun hHeld => ?_)
        clear hKc Kc
        refine rd2 6 10 (fun Kc hKc => ?_) (fun Kc hKc => ?_)
        focus
          go_simp
          go_at_call 216
          refine Calls.mono (hown _ 0 hA0 hz0) ?_
          rintro e5 w5 ⟨a5, c5, vs, rfl, hg5, hg35, hvl6, hO5, hbb, HE5⟩
          go_wp2_with fail
          refine ko hKc (Near.of hg35) (fun hHeld => ?_)
          clear hKc Kc
          refine rd1 10 (fun Kc hKc => ?_)
          go_simp
          refine ko hKc (Near.of (grown_trans hg35 (World.grownBy_alloc w5 (.cells (madeCells #[.int .i64 0] n) 2) none))) (fun hHeld => ?_)
          clear hKc Kc
          refine rd1 11 (fun Kc hKc => ?_)
          go_simp
          refine ko hKc (Near.of (grown_trans (grown_trans hg35 (World.grownBy_alloc w5 (.cells (madeCells #[.int .i64 0] n) 2) none)) (World.grownBy_alloc (w5.alloc (.cells (madeCells #[.int .i64 0] n) 2)) (.cells #[.slice (some ⟨w5.heap.size, 0, none⟩) n n] 24) none))) (fun hHeld => ?_)
          clear hKc Kc
          refine rd1 12 (fun Kc hKc => ?_)
          have hM0 : Ints (fun k => w3.heap.size ≤ k ∧ k = w5.heap.size) (w5.alloc (.cells (madeCells #[.int .i64 0] n) 2)) (.slice (some ⟨w5.heap.size, 0, none⟩) n n) (List.replicate n 0) := ints_of_own (own_mk_ints n (by omega) w5) (by simp; omega) (fun k hk => by have := own_blk hk; subst this; exact ⟨by first | exact Nat.le_refl _ | exact hg35.size, rfl⟩)
          have hM : Ints (fun k => w3.heap.size ≤ k ∧ k = w5.heap.size) ((w5.alloc (.cells (madeCells #[.int .i64 0] n) 2)).alloc (.cells #[.slice (some ⟨w5.heap.size, 0, none⟩) n n] 24)) (.slice (some ⟨w5.heap.size, 0, none⟩) n n) (List.replicate n 0) := Ints.ext hM0 (grown_trans (grown_refl _ none) (World.grownBy_alloc (w5.alloc (.cells (madeCells #[.int .i64 0] n) 2)) (.cells #[.slice (some ⟨w5.heap.size, 0, none⟩) n n] 24) none))
          have hszl : (w5.alloc (.cells (madeCells #[.int .i64 0] n) 2)).heap.size = w5.heap.size + 1 := by simp
          have hu0 : ((w5.alloc (.cells (madeCells #[.int .i64 0] n) 2)).alloc (.cells #[.slice (some ⟨w5.heap.size, 0, none⟩) n n] 24)).cell? ⟨w5.heap.size + 1, 0, none⟩ = some (.slice (some ⟨w5.heap.size, 0, none⟩) n n) := by rw [World.cell?_alloc_at _ _ _ _ hszl.symm]; rfl
          have hu := hu0
          have hc35 : Ext w3 ((w5.alloc (.cells (madeCells #[.int .i64 0] n) 2)).alloc (.cells #[.slice (some ⟨w5.heap.size, 0, none⟩) n n] 24)) := (grown_trans (grown_trans hg35 (World.grownBy_alloc w5 (.cells (madeCells #[.int .i64 0] n) 2) none)) (World.grownBy_alloc (w5.alloc (.cells (madeCells #[.int .i64 0] n) 2)) (.cells #[.slice (some ⟨w5.heap.size, 0, none⟩) n n] 24) none))
          have hc5 : Ext w5 ((w5.alloc (.cells (madeCells #[.int .i64 0] n) 2)).alloc (.cells #[.slice (some ⟨w5.heap.size, 0, none⟩) n n] 24)) := (grown_trans (grown_trans (grown_refl _ none) (World.grownBy_alloc w5 (.cells (madeCells #[.int .i64 0] n) 2) none)) (World.grownBy_alloc (w5.alloc (.cells (madeCells #[.int .i64 0] n) 2)) (.cells #[.slice (some ⟨w5.heap.size, 0, none⟩) n n] 24) none))
        rotate_left
        focus
          go_simp
          refine ko hKc (Near.of hA1) (fun hHeld => ?_)
          clear hKc Kc
          refine rd2 6 11 (fun Kc hKc => ?_) (fun Kc hKc => ?_)
          focus
            go_simp
            go_at_call 216
            refine Calls.mono (hown _ 1 hA1 hz1) ?_
            rintro e5 w5 ⟨a5, c5, vs, rfl, hg5, hg35, hvl6, hO5, hbb, HE5⟩
            go_wp2_with fail
            refine ko hKc (Near.of hg35) (fun hHeld => ?_)
            clear hKc Kc
            refine rd1 11 (fun Kc hKc => ?_)
            go_simp
            refine ko hKc (Near.of (grown_trans hg35 (World.grownBy_alloc w5 (.cells #[.slice (some ⟨w3.heap.size, 0, none⟩) n n] 24) none))) (fun hHeld => ?_)
            clear hKc Kc
            refine rd1 12 (fun Kc hKc => ?_)
            have hM0 : Ints (fun k => w3.heap.size ≤ k ∧ k = w3.heap.size) (w3.alloc (.cells (madeCells #[.int .i64 0] n) 2)) (.slice (some ⟨w3.heap.size, 0, none⟩) n n) (List.replicate n 0) := ints_of_own (own_mk_ints n (by omega) w3) (by simp; omega) (fun k hk => by have := own_blk hk; subst this; exact ⟨by first | exact Nat.le_refl _ | exact hg35.size, rfl⟩)
            have hM : Ints (fun k => w3.heap.size ≤ k ∧ k = w3.heap.size) (w5.alloc (.cells #[.slice (some ⟨w3.heap.size, 0, none⟩) n n] 24)) (.slice (some ⟨w3.heap.size, 0, none⟩) n n) (List.replicate n 0) := Ints.ext hM0 (grown_trans (grown_trans (grown_trans (grown_refl _ none) (grown_drew (w3.alloc (.cells (madeCells #[.int .i64 0] n) 2)) none)) (hg5)) (World.grownBy_alloc w5 (.cells #[.slice (some ⟨w3.heap.size, 0, none⟩) n n] 24) none))
            have hszl : w5.heap.size = w5.heap.size := rfl
            have hu0 : (w5.alloc (.cells #[.slice (some ⟨w3.heap.size, 0, none⟩) n n] 24)).cell? ⟨w5.heap.size, 0, none⟩ = some (.slice (some ⟨w3.heap.size, 0, none⟩) n n) := by rw [World.cell?_alloc_at _ _ _ _ hszl.symm]; rfl
            have hu := hu0
            have hc35 : Ext w3 (w5.alloc (.cells #[.slice (some ⟨w3.heap.size, 0, none⟩) n n] 24)) := (grown_trans hg35 (World.grownBy_alloc w5 (.cells #[.slice (some ⟨w3.heap.size, 0, none⟩) n n] 24) none))
            have hc5 : Ext w5 (w5.alloc (.cells #[.slice (some ⟨w3.heap.size, 0, none⟩) n n] 24)) := (grown_trans (grown_refl _ none) (World.grownBy_alloc w5 (.cells #[.slice (some ⟨w3.heap.size, 0, none⟩) n n] 24) none))
          rotate_left
          focus
            go_simp
            refine ko hKc (Near.of hA2) (fun hHeld => ?_)
            clear hKc Kc
            refine rd1 6 (fun Kc hKc => ?_)
            go_simp
            go_at_call 216
            refine Calls.mono (hown _ 2 hA2 hz2) ?_
            rintro e5 w5 ⟨a5, c5, vs, rfl, hg5, hg35, hvl6, hO5, hbb, HE5⟩
            go_wp2_with fail
            refine ko hKc (Near.of hg35) (fun hHeld => ?_)
            clear hKc Kc
            refine rd1 12 (fun Kc hKc => ?_)
            have hM0 : Ints (fun k => w3.heap.size ≤ k ∧ k = w3.heap.size) (w3.alloc (.cells (madeCells #[.int .i64 0] n) 2)) (.slice (some ⟨w3.heap.size, 0, none⟩) n n) (List.replicate n 0) := ints_of_own (own_mk_ints n (by omega) w3) (by simp; omega) (fun k hk => by have := own_blk hk; subst this; exact ⟨by first | exact Nat.le_refl _ | exact hg35.size, rfl⟩)
            have hM : Ints (fun k => w3.heap.size ≤ k ∧ k = w3.heap.size) w5 (.slice (some ⟨w3.heap.size, 0, none⟩) n n) (List.replicate n 0) := Ints.ext hM0 (grown_trans (grown_trans (grown_trans (grown_refl _ none) (World.grownBy_alloc (w3.alloc (.cells (madeCells #[.int .i64 0] n) 2)) (.cells #[.slice (some ⟨w3.heap.size, 0, none⟩) n n] 24) none)) (grown_drew ((w3.alloc (.cells (madeCells #[.int .i64 0] n) 2)).alloc (.cells #[.slice (some ⟨w3.heap.size, 0, none⟩) n n] 24)) none)) (hg5))
            have hszl : (w3.alloc (.cells (madeCells #[.int .i64 0] n) 2)).heap.size = w3.heap.size + 1 := by simp
            have hu0 : ((w3.alloc (.cells (madeCells #[.int .i64 0] n) 2)).alloc (.cells #[.slice (some ⟨w3.heap.size, 0, none⟩) n n] 24)).cell? ⟨w3.heap.size + 1, 0, none⟩ = some (.slice (some ⟨w3.heap.size, 0, none⟩) n n) := by rw [World.cell?_alloc_at _ _ _ _ hszl.symm]; rfl
            have hu : w5.cell? ⟨w3.heap.size + 1, 0, none⟩ = some (.slice (some ⟨w3.heap.size, 0, none⟩) n n) := hg5.cell hu0 (by simp)
            have hc35 : Ext w3 w5 := hg35
            have hc5 : Ext w5 w5 := (grown_refl _ none)
      rotate_left 3
      focus
        go_simp
        refine ko hKc (Near.of hA1) (fun hHeld => ?_)
        clear hKc Kc
        refine rd2 5 11 (fun Kc hKc => ?_) (fun Kc hKc => ?_)
        focus
          have f2 : (w3.alloc (.cells (madeCells #[.int .i64 0] n) 2)).drew.cell? ⟨g, 0, none⟩ = some (.slice ae R.length ce) := (hA1 : Ext w3 (w3.alloc (.cells (madeCells #[.int .i64 0] n) 2)).drew).cell hcr (by simp)
          go_simp
          refine ko hKc (Near.of hA1) (fun hHeld => ?_)
          clear hKc Kc
          refine rd2 6 11 (fun Kc hKc => ?_) (fun Kc hKc => ?_)
          focus
            go_simp
            go_at_call 216
            refine Calls.mono (hown _ 1 hA1 hz1) ?_
            rintro e5 w5 ⟨a5, c5, vs, rfl, hg5, hg35, hvl6, hO5, hbb, HE5⟩
            go_wp2_with fail
            refine ko hKc (Near.of hg35) (fun hHeld => ?_)
            clear hKc Kc
            refine rd1 11 (fun Kc hKc => ?_)
            go_simp
            refine ko hKc (Near.of (grown_trans hg35 (World.grownBy_alloc w5 (.cells #[.slice (some ⟨w3.heap.size, 0, none⟩) n n] 24) none))) (fun hHeld => ?_)
            clear hKc Kc
            refine rd1 12 (fun Kc hKc => ?_)
            have hM0 : Ints (fun k => w3.heap.size ≤ k ∧ k = w3.heap.size) (w3.alloc (.cells (madeCells #[.int .i64 0] n) 2)) (.slice (some ⟨w3.heap.size, 0, none⟩) n n) (List.replicate n 0) := ints_of_own (own_mk_ints n (by omega) w3) (by simp; omega) (fun k hk => by have := own_blk hk; subst this; exact ⟨by first | exact Nat.le_refl _ | exact hg35.size, rfl⟩)
            have hM : Ints (fun k => w3.heap.size ≤ k ∧ k = w3.heap.size) (w5.alloc (.cells #[.slice (some ⟨w3.heap.size, 0, none⟩) n n] 24)) (.slice (some ⟨w3.heap.size, 0, none⟩) n n) (List.replicate n 0) := Ints.ext hM0 (grown_trans (grown_trans (grown_trans (grown_refl _ none) (grown_drew (w3.alloc (.cells (madeCells #[.int .i64 0] n) 2)) none)) (hg5)) (World.grownBy_alloc w5 (.cells #[.slice (some ⟨w3.heap.size, 0, none⟩) n n] 24) none))
            have hszl : w5.heap.size = w5.heap.size := rfl
            have hu0 : (w5.alloc (.cells #[.slice (some ⟨w3.heap.size, 0, none⟩) n n] 24)).cell? ⟨w5.heap.size, 0, none⟩ = some (.slice (some ⟨w3.heap.size, 0, none⟩) n n) := by rw [World.cell?_alloc_at _ _ _ _ hszl.symm]; rfl
            have hu := hu0
            have hc35 : Ext w3 (w5.alloc (.cells #[.slice (some ⟨w3.heap.size, 0, none⟩) n n] 24)) := (grown_trans hg35 (World.grownBy_alloc w5 (.cells #[.slice (some ⟨w3.heap.size, 0, none⟩) n n] 24) none))
            have hc5 : Ext w5 (w5.alloc (.cells #[.slice (some ⟨w3.heap.size, 0, none⟩) n n] 24)) := (grown_trans (grown_refl _ none) (World.grownBy_alloc w5 (.cells #[.slice (some ⟨w3.heap.size, 0, none⟩) n n] 24) none))
          rotate_left
          focus
            go_simp
            refine ko hKc (Near.of hA2) (fun hHeld => ?_)
            clear hKc Kc
            refine rd1 6 (fun Kc hKc => ?_)
            go_simp
            go_at_call 216
            refine Calls.mono (hown _ 2 hA2 hz2) ?_
            rintro e5 w5 ⟨a5, c5, vs, rfl, hg5, hg35, hvl6, hO5, hbb, HE5⟩
            go_wp2_with fail
            refine ko hKc (Near.of hg35) (fun hHeld => ?_)
            clear hKc Kc
            refine rd1 12 (fun Kc hKc => ?_)
            have hM0 : Ints (fun k => w3.heap.size ≤ k ∧ k = w3.heap.size) (w3.alloc (.cells (madeCells #[.int .i64 0] n) 2)) (.slice (some ⟨w3.heap.size, 0, none⟩) n n) (List.replicate n 0) := ints_of_own (own_mk_ints n (by omega) w3) (by simp; omega) (fun k hk => by have := own_blk hk; subst this; exact ⟨by first | exact Nat.le_refl _ | exact hg35.size, rfl⟩)
            have hM : Ints (fun k => w3.heap.size ≤ k ∧ k = w3.heap.size) w5 (.slice (some ⟨w3.heap.size, 0, none⟩) n n) (List.replicate n 0) := Ints.ext hM0 (grown_trans (grown_trans (grown_trans (grown_refl _ none) (World.grownBy_alloc (w3.alloc (.cells (madeCells #[.int .i64 0] n) 2)) (.cells #[.slice (some ⟨w3.heap.size, 0, none⟩) n n] 24) none)) (grown_drew ((w3.alloc (.cells (madeCells #[.int .i64 0] n) 2)).alloc (.cells #[.slice (some ⟨w3.heap.size, 0, none⟩) n n] 24)) none)) (hg5))
            have hszl : (w3.alloc (.cells (madeCells #[.int .i64 0] n) 2)).heap.size = w3.heap.size + 1 := by simp
            have hu0 : ((w3.alloc (.cells (madeCells #[.int .i64 0] n) 2)).alloc (.cells #[.slice (some ⟨w3.heap.size, 0, none⟩) n n] 24)).cell? ⟨w3.heap.size + 1, 0, none⟩ = some (.slice (some ⟨w3.heap.size, 0, none⟩) n n) := by rw [World.cell?_alloc_at _ _ _ _ hszl.symm]; rfl
            have hu : w5.cell? ⟨w3.heap.size + 1, 0, none⟩ = some (.slice (some ⟨w3.heap.size, 0, none⟩) n n) := hg5.cell hu0 (by simp)
            have hc35 : Ext w3 w5 := hg35
            have hc5 : Ext w5 w5 := (grown_refl _ none)
        rotate_left 2
        focus
          go_simp
          refine ko hKc (Near.of hA2) (fun hHeld => ?_)
          clear hKc Kc
          refine rd1 5 (fun Kc hKc => ?_)
          have f2 : ((w3.alloc (.cells (madeCells #[.int .i64 0] n) 2)).alloc (.cells #[.slice (some ⟨w3.heap.size, 0, none⟩) n n] 24)).drew.cell? ⟨g, 0, none⟩ = some (.slice ae R.length ce) := (hA2 : Ext w3 ((w3.alloc (.cells (madeCells #[.int .i64 0] n) 2)).alloc (.cells #[.slice (some ⟨w3.heap.size, 0, none⟩) n n] 24)).drew).cell hcr (by simp)
          go_simp
          refine ko hKc (Near.of hA2) (fun hHeld => ?_)
          clear hKc Kc
          refine rd1 6 (fun Kc hKc => ?_)
          go_simp
          go_at_call 216
          refine Calls.mono (hown _ 2 hA2 hz2) ?_
          rintro e5 w5 ⟨a5, c5, vs, rfl, hg5, hg35, hvl6, hO5, hbb, HE5⟩
          go_wp2_with fail
          refine ko hKc (Near.of hg35) (fun hHeld => ?_)
          clear hKc Kc
          refine rd1 12 (fun Kc hKc => ?_)
          have hM0 : Ints (fun k => w3.heap.size ≤ k ∧ k = w3.heap.size) (w3.alloc (.cells (madeCells #[.int .i64 0] n) 2)) (.slice (some ⟨w3.heap.size, 0, none⟩) n n) (List.replicate n 0) := ints_of_own (own_mk_ints n (by omega) w3) (by simp; omega) (fun k hk => by have := own_blk hk; subst this; exact ⟨by first | exact Nat.le_refl _ | exact hg35.size, rfl⟩)
          have hM : Ints (fun k => w3.heap.size ≤ k ∧ k = w3.heap.size) w5 (.slice (some ⟨w3.heap.size, 0, none⟩) n n) (List.replicate n 0) := Ints.ext hM0 (grown_trans (grown_trans (grown_trans (grown_refl _ none) (World.grownBy_alloc (w3.alloc (.cells (madeCells #[.int .i64 0] n) 2)) (.cells #[.slice (some ⟨w3.heap.size, 0, none⟩) n n] 24) none)) (grown_drew ((w3.alloc (.cells (madeCells #[.int .i64 0] n) 2)).alloc (.cells #[.slice (some ⟨w3.heap.size, 0, none⟩) n n] 24)) none)) (hg5))
          have hszl : (w3.alloc (.cells (madeCells #[.int .i64 0] n) 2)).heap.size = w3.heap.size + 1 := by simp
          have hu0 : ((w3.alloc (.cells (madeCells #[.int .i64 0] n) 2)).alloc (.cells #[.slice (some ⟨w3.heap.size, 0, none⟩) n n] 24)).cell? ⟨w3.heap.size + 1, 0, none⟩ = some (.slice (some ⟨w3.heap.size, 0, none⟩) n n) := by rw [World.cell?_alloc_at _ _ _ _ hszl.symm]; rfl
          have hu : w5.cell? ⟨w3.heap.size + 1, 0, none⟩ = some (.slice (some ⟨w3.heap.size, 0, none⟩) n n) := hg5.cell hu0 (by simp)
          have hc35 : Ext w3 w5 := hg35
          have hc5 : Ext w5 w5 := (grown_refl _ none)
      all_goals
        have hOc := World.ownsRow.kept hO5 hc5 (by cases hv : (Value.slice a5 vs.length c5).ownBlock <;> simp)
        refine step_app_rowH (by rfl) _ _ (by rfl) w3.heap.size _ vs (by rfl) hOc _ _ (by rfl) ⟨hu, rfl⟩ (by omega) hc35.size ?_
        intro v6 w6 hO6 hg6 hat6
        have hg36 : Ext w3 w6 := grown_own hc35 hg6 (fun j hj hlt => by have := (hO5.lt j hj).1; omega)
        have hRows6 := rows_app (L := R) (y := List.replicate n 0) hO6 HE5.out.2 (by omega) HE5.out.1 hc5 hg6 hM (fun k hk => ⟨hk.1, fun e => by have h1 := hbb k e; have h2 := (hO5.lt k e).2; omega⟩)
        obtain ⟨a6, c6, hv6, _⟩ : ∃ a c, v6 = .slice a (vs.length + 1) c ∧ True := by
          rcases hO6.form with ⟨h1, h2⟩ | ⟨g5, cap5, h1, _⟩
          · simp at h2
          · exact ⟨_, _, by rw [h1, hll], trivial⟩
        subst hv6
        have r1 := hg36.cell hcr (by simp)
        have r2 := (World.frozen?_of_block (a := ⟨g, 0, none⟩) (hg36.block g hgl (by simp))).trans hfg
        refine ko hKc (Near.of hg36) (fun hHeld => ?_)
        clear hKc Kc
        refine tk 13 ?_
        refine rd1 14 (fun Kc hKc => ?_)
        go_simp
        refine ko hKc (Near.store hg36) (fun hHeld => ?_)
        clear hKc Kc
        refine wpAnyH_done (by kernel_rfl) ?_ _
        clear r1 r2 hmk e0 e1 hown hA0 hA1 hA2 hll hz0 hz1 hz2
        have hT := grown_set1 w6 g 0 (.slice a6 (vs.length + 1) c6)
        have hb7 := (hbQ3.ext hg36).moved hT (by omega)
        have hbR7 := (hbR3.ext hg36).moved hT (by omega)
        have hg7 := grown_own (grown_trans hgw3 (grown_of_ext (some sb) hg36)) hT (fun j hj hlt => by have := Option.some.inj hj; omega)
        have hs7 := (HX3.out.2.1.ext hg36).own hT (fun k hk => by have := Option.some.inj hk; omega)
        have hP7 := HX3.out.1.putRow 0 hn1 HX3.out.2.2.2.2 hg36 hRows6
        have HF := Lib.hid (And.intro hb7 (And.intro hbR7 (And.intro hg7 (And.intro hs7 hP7)))); clear hb7 hbR7 hg7 hs7 hP7 hT hRows6
        go_wp2_with fail
        go_meet
        obtain ⟨hb7, hbR7, hg7, hs7, Q7, hq7, hP7⟩ := HF.out
        exact ⟨_, _, _, _, _, _, _, _, _, _, hb7, hbR7, hg7, hs7, (by rw [hq7, ← HX3.out.2.2.1]; omega), (OrdLe.same hq7), hP7.mono (fun k hk hlt => ⟨by rcases hk with hk | hk <;> omega, hlt, rfl⟩)⟩
  · go_wp2_with fail
    have hgL5 : Ext w3 (w3.alloc (.cells #[.int .i64 7, .int .i64 7, .int .i64 7, .int .i64 7] 2)) := World.grownBy_alloc _ _ _
    have hL5 : Ints Any (w3.alloc (.cells #[.int .i64 7, .int .i64 7, .int .i64 7, .int .i64 7] 2)) (.slice (some ⟨w3.heap.size, 0, none⟩) 4 4) [7, 7, 7, 7] := Ints.sub (ints_litL w3 [7, 7, 7, 7] (by simp)) (fun _ _ _ => trivial)
    have hsL5 : (w3.alloc (.cells #[.int .i64 7, .int .i64 7, .int .i64 7, .int .i64 7] 2)).heap.size = w3.heap.size + 1 := by simp
    refine Calls.mono (l07Trivial_ok _ _ [7, 7, 7, 7] _ hL5 (by simp)) ?_
    rintro e5 w5 ⟨v5, rfl, hg5, uo5, up5, uc5, rfl, hX5⟩
    obtain ⟨x15, z15, x25, z25, x35, z35, rfl, rfl, rfl⟩ := trivX_shape hX5
    have hgT5 := grown_trans hgL5 hg5
    have hsz5 := hgT5.size
    have hbQ5 := hbQ3.ext hgT5
    have hbR5 := hbR3.ext hgT5
    obtain ⟨q0, q1, q2, q3, q4⟩ := id hbQ5
    have hT5 := grown_set3 w5 qb (.slice x15 4 z15) (.slice x25 4 z25) (.slice x35 4 z35)
    have hbS5 := hbQ5.all (.slice x15 4 z15) (.slice x25 4 z25) (.slice x35 4 z35)
    have hbU5 := hbR5.moved hT5 (by omega)
    have hP5 : Pres3 (fun k => w.heap.size + 2 ≤ k) (((w5.setCell ⟨qb, 0, none⟩ (.slice x15 4 z15)).setCell ⟨qb, 1, none⟩ (.slice x25 4 z25)).setCell ⟨qb, 2, none⟩ (.slice x35 4 z35)) (.slice x15 4 z15) (.slice x25 4 z25) (.slice x35 4 z35) (trivP [7, 7, 7, 7]) :=
      hX5.p3.mono (fun k hk hlt => by
        have hk : (w3.alloc (.cells #[.int .i64 7, .int .i64 7, .int .i64 7, .int .i64 7] 2)).heap.size ≤ k := hk
        exact ⟨by omega, Nat.lt_of_lt_of_le hlt hT5.size, hT5.block k hlt (fun e => by have := Option.some.inj e; omega)⟩)
    clear hX5 hL5 hsL5 hg5 hgL5 hbQ5 hbR5
    have hg35 := grown_own (grown_trans hgw3 (grown_of_ext (some sb) hgT5)) hT5 (fun j hj hlt => by have := Option.some.inj hj; omega)
    have hs5 := (HX3.out.2.1.ext hgT5).own hT5 (fun k hk => by have := Option.some.inj hk; omega)
    have hsq5 := hT5.size
    have HF := Lib.hid (And.intro hP5 (And.intro hg35 hs5)); clear hP5 hg35 hs5 hT5
    go_wp2_with fail
    generalize ((w5.setCell ⟨qb, 0, none⟩ (.slice x15 4 z15)).setCell ⟨qb, 1, none⟩ (.slice x25 4 z25)).setCell ⟨qb, 2, none⟩ (.slice x35 4 z35) = w6 at *
    refine Calls.mono (l01Next_ok B0 w6 sb 2 HF.out.2.2) ?_
    rintro e7 w7 ⟨v7, rfl, hg7, y, rfl, _, _, hs7⟩
    have hb7 := hbS5.moved hg7 (by omega)
    have hbR7 := hbU5.moved hg7 (by omega)
    have hgw7 := grown_trans HF.out.2.1 hg7
    have hP7 : Pres3 (fun k => w.heap.size + 2 ≤ k) w7 (.slice x15 4 z15) (.slice x25 4 z25) (.slice x35 4 z35) (trivP [7, 7, 7, 7]) := HF.out.1.mono (fun k hk hlt => ⟨hk, Nat.lt_of_lt_of_le hlt hg7.size, hg7.block k hlt (fun e => by have := Option.some.inj e; omega)⟩)
    have hsz7 := hg7.size
    clear HF hbS5 hbU5 hg7
    by_cases hy : y = 0
    · have hyb : (y == 0) = true := by simp [hy]
      clear hy
      go_wp2_with fail
      have hgL8 : Ext w7 (w7.alloc (.cells #[.int .i64 2, .int .i64 2, .int .i64 2, .int .i64 2, .int .i64 2, .int .i64 2, .int .i64 2] 2)) := World.grownBy_alloc _ _ _
      have hL8 : Ints Any (w7.alloc (.cells #[.int .i64 2, .int .i64 2, .int .i64 2, .int .i64 2, .int .i64 2, .int .i64 2, .int .i64 2] 2)) (.slice (some ⟨w7.heap.size, 0, none⟩) 7 7) [2, 2, 2, 2, 2, 2, 2] := Ints.sub (ints_litL w7 [2, 2, 2, 2, 2, 2, 2] (by simp)) (fun _ _ _ => trivial)
      have hsL8 : (w7.alloc (.cells #[.int .i64 2, .int .i64 2, .int .i64 2, .int .i64 2, .int .i64 2, .int .i64 2, .int .i64 2] 2)).heap.size = w7.heap.size + 1 := by simp
      refine Calls.mono (l07Trivial_ok _ _ [2, 2, 2, 2, 2, 2, 2] _ hL8 (by simp)) ?_
      rintro e8 w8 ⟨v8, rfl, hg8, uo8, up8, uc8, rfl, hX8⟩
      obtain ⟨x18, z18, x28, z28, x38, z38, rfl, rfl, rfl⟩ := trivX_shape hX8
      have hgT8 := grown_trans hgL8 hg8
      have hsz8 := hgT8.size
      have hbQ8 := hb7.ext hgT8
      have hbR8 := hbR7.ext hgT8
      obtain ⟨q0, q1, q2, q3, q4⟩ := id hbQ8
      have hT8 := grown_set3 w8 qb (.slice x18 7 z18) (.slice x28 7 z28) (.slice x38 7 z38)
      have hbS8 := hbQ8.all (.slice x18 7 z18) (.slice x28 7 z28) (.slice x38 7 z38)
      have hbU8 := hbR8.moved hT8 (by omega)
      have hP8 : Pres3 (fun k => w.heap.size + 2 ≤ k) (((w8.setCell ⟨qb, 0, none⟩ (.slice x18 7 z18)).setCell ⟨qb, 1, none⟩ (.slice x28 7 z28)).setCell ⟨qb, 2, none⟩ (.slice x38 7 z38)) (.slice x18 7 z18) (.slice x28 7 z28) (.slice x38 7 z38) (trivP [2, 2, 2, 2, 2, 2, 2]) :=
        hX8.p3.mono (fun k hk hlt => by
          have hk : (w7.alloc (.cells #[.int .i64 2, .int .i64 2, .int .i64 2, .int .i64 2, .int .i64 2, .int .i64 2, .int .i64 2] 2)).heap.size ≤ k := hk
          exact ⟨by omega, Nat.lt_of_lt_of_le hlt hT8.size, hT8.block k hlt (fun e => by have := Option.some.inj e; omega)⟩)
      clear hX8 hL8 hsL8 hg8 hgL8 hbQ8 hbR8
      have hg8 := grown_own (grown_trans hgw7 (grown_of_ext (some sb) hgT8)) hT8 (fun j hj hlt => by have := Option.some.inj hj; omega)
      have hs8 := (hs7.ext hgT8).own hT8 (fun k hk => by have := Option.some.inj hk; omega)
      have HF := Lib.hid (And.intro hP8 (And.intro hg8 (And.intro hs8 (And.intro hbS8 hbU8)))); clear hP8 hg8 hs8 hT8 hbS8 hbU8
      go_wp2_with fail
      go_meet
      exact ⟨_, _, _, _, _, _, _, _, _, _, HF.out.2.2.2.1, HF.out.2.2.2.2, HF.out.2.1, HF.out.2.2.1, by decide, (by exact fun h => absurd h.n6 (by decide)), HF.out.1⟩
    · have hyb : (y == 0) = false := by simp [hy]
      clear hy
      go_wp2_with fail
      go_meet
      exact ⟨_, _, _, _, _, _, _, _, _, _, hb7, hbR7, hgw7, hs7, by decide, (by exact fun h => absurd h.le729 (by decide)), hP7⟩

end Go.Proofs.YtldheeicjnncoaaGreat
