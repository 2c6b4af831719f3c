/-
  The orbit that impl.classOf collects. Plain.
  impl.classOf: the class of an element, sorted.
  impl.classesOf, impl.ClassSizes.
  Plain: in a consistent presentation the program's classes are the reference's: what the program collects of a member is its conjugacy class, and both count the same sizes.
  Plain: the representatives of the classes are the same on both sides.
  Plain: the classes of powers: both sides answer the same.
  impl.Conjugate, Power, ClassNumber, ElementCentralizer on elements (printed by gen_elw2.py).
  ConjugatingElement on both sides.
  Plain: the class number of an element; conjugate elements have conjugate powers.
  laws.roll, below, draw9: numbers that follow from the bytes.
  laws.roll and below: the dice's bytes lie in a set of blocks (printed by gen_rollx.py).
  impl.ClassRepresentatives: the first rows of the classes; each lies in a block of its own.
  The reference's class powers: spec.ClassPowers.
  impl.ClassPowers.
  laws.FnConjugators answers true (printed by gen_lcj.py).
-/
import Derived.Test.YtdcobapnlpeaaaaGreatTCj1
import Derived.Maps.OwnSet
import Derived.Maps.StringElems
import Derived.StringKeys
import Derived.Laws.BitsAllLaws
import Derived.StillTailTactics
namespace Go.Proofs.YtdcobapnlpeaaaaGreat
open Go.RowKit
theorem nodup_len : ∀ (N : Nat) (l : List Int), l.Nodup → (∀ x ∈ l, 0 ≤ x ∧ x < (N : Int)) → l.length ≤ N := by
 intro N
 induction N with
 | zero =>
  intro l _ h
  cases l with
  | nil => simp
  | cons a l => have := h a (by simp); omega
 | succ N ih =>
  intro l hn h
  by_cases hm : (N : Int) ∈ l
  ·have h1 := ih (l.erase (N : Int)) (hn.erase _) (fun x hx => by
    have h2 := (hn.mem_erase_iff).1 hx
    have h3 := h x h2.2
    have := h2.1
    omega)
   rw [List.length_erase_of_mem hm] at h1
   omega
  ·have h1 := ih l hn (fun x hx => by
    have h3 := h x hx
    have : x ≠ (N : Int) := fun e => hm (e ▸ hx)
    omega)
   omega
def addZ (P : Pr) (L : List (List Int)) (z : List Int) : List (List Int) := if num P z ∈ L.map (num P) then L else L ++ [z]
def orbIn (P : Pr) (y : List Int) (L : List (List Int)) : Nat → List (List Int)
 | 0 => L
 | g + 1 => addZ P (orbIn P y L g) (iConj P y (unitV P.orders.length g))
def orbTo (P : Pr) : Nat → Nat → List (List Int) → List (List Int)
 | 0, _, L => L
 | f + 1, i, L => if i < L.length then orbTo P f (i + 1) (orbIn P (gt L i) L P.orders.length) else L
def orb (P : Pr) (x : List Int) : List (List Int) := orbTo P ((ordP P).toNat + 1) 0 [x]
structure OrbI (P : Pr) (L : List (List Int)) : Prop where
 vec : ∀ y ∈ L, Vec P.orders y
 nd : (L.map (num P)).Nodup
theorem OrbI.len {P : Pr} (hP : Valid P) {L : List (List Int)} (h : OrbI P L) : L.length ≤ (ordP P).toNat := by
 have h1 := nodup_len (ordP P).toNat (L.map (num P)) h.nd (fun x hx => by
  obtain ⟨y, hy, rfl⟩ := List.mem_map.1 hx
  have := num_bd hP (h.vec y hy)
  omega)
 simpa using h1
theorem OrbI.add {P : Pr} {L : List (List Int)} (h : OrbI P L) {z : List Int} (hz : Vec P.orders z) : OrbI P (addZ P L z) := by
 unfold addZ
 by_cases hm : num P z ∈ L.map (num P)
 ·rw [if_pos hm]; exact h
 ·rw [if_neg hm]
  refine ⟨fun y hy => ?_, ?_⟩
  ·rcases List.mem_append.1 hy with h1 | h1
   ·exact h.vec y h1
   ·rw [List.mem_singleton.1 h1]; exact hz
  ·rw [List.map_append, List.nodup_append]
   refine ⟨h.nd, by simp, ?_⟩
   intro a ha b hb e
   simp at hb
   subst e hb
   exact hm ha
theorem OrbI.single {P : Pr} {x : List Int} (hx : Vec P.orders x) : OrbI P [x] := ⟨fun y hy => by rw [List.mem_singleton.1 hy]; exact hx, by simp⟩
theorem addZ_pre (P : Pr) (L : List (List Int)) (z : List Int) : ∃ M, addZ P L z = L ++ M := by
 unfold addZ; split
 ·exact ⟨[], by simp⟩
 ·exact ⟨[z], rfl⟩
theorem orbIn_pre (P : Pr) (y : List Int) (L : List (List Int)) (g : Nat) : ∃ M, orbIn P y L g = L ++ M := by
 induction g with
 | zero => exact ⟨[], by simp [orbIn]⟩
 | succ g ih =>
  obtain ⟨M, hM⟩ := ih
  obtain ⟨M2, h2⟩ := addZ_pre P (orbIn P y L g) (iConj P y (unitV P.orders.length g))
  exact ⟨M ++ M2, by simp only [orbIn]; rw [h2, hM, List.append_assoc]⟩
theorem OrbI.inn {P : Pr} (hP : Valid P) {L : List (List Int)} (h : OrbI P L) {y : List Int} (hy : Vec P.orders y) (g : Nat) : OrbI P (orbIn P y L g) := by
 induction g with
 | zero => exact h
 | succ g ih => exact ih.add (iConj_vec hP _ _ hy (unitV_vec hP g))
end Go.Proofs.YtdcobapnlpeaaaaGreat
namespace Go.Proofs.YtdcobapnlpeaaaaGreat
open Go.Proofs Go.RowKit
theorem SlO.lit {α : Type} [Inhabited α] {El : (Nat → Prop) → World → Value → α → Prop} (hEl : RdOk El) {E B : Nat} {w : World} {u : Value} {y : α} (hu : El (From B) w u y) (hB : B ≤ w.heap.size) :
  SlO El E B (w.alloc (.cells #[u] E)) (.slice (some ⟨w.heap.size, 0, none⟩) 1 1) [y] := by
 have hg : Ext w (w.alloc (.cells #[u] E)) := World.grownBy_alloc _ _ _
 refine ⟨[u], fun _ k => B ≤ k ∧ k < w.heap.size, rfl, World.ownsRow_lit w #[u] 1 hB (by decide) rfl, ?_, ?_, ?_⟩
 ·intro i k _ hk
  refine ⟨hk.1, fun h => ?_, ?_⟩
  ·have : w.heap.size = k := Option.some.inj h
   omega
  ·have := hg.size; omega
 ·intro i j k hi hj _ _
  simp at hi hj; omega
 ·intro i hi
  have : i = 0 := by simpa using hi
  subst this
  exact hEl.mono hu (fun k hk hlt => ⟨⟨hk, hlt⟩, Nat.lt_of_lt_of_le hlt hg.size, hg.block k hlt (by simp)⟩)
theorem num_wf {P : Pr} (hP : Valid P) {x : List Int} (hx : Vec P.orders x) : (Lit.int .i64 (num P x)).wf = true := by
 have h1 := num_bd hP hx
 have h2 : ordP P ≤ 729 := hP.le729
 have e1 : IntKind.i64.min = -9223372036854775808 := by decide
 have e2 : IntKind.i64.max = 9223372036854775807 := by decide
 simp [Lit.wf]
 omega
theorem run_makeSeen (w : World) : (Instr.makeMap 147 none).run Tryz.prog w = .ok (.map (some w.heap.size)) (w.alloc (.map #[] 0)) := by kernel_rfl
set_option maxRecDepth 100000 in
set_option maxHeartbeats 8000000 in
theorem classOf_ok (P : Pr) (hP : Valid P) (w : World) (p x : Value) (X : List Int) (Sp Sx : Nat → Prop) (hp : PresP Sp w p P) (hx : Ints Sx w x X) (hX : Vec P.orders X) :
  Calls Tryz.prog 241 #[p, x] w (Ret w fun w' v => RowsO w.heap.size w' v (sortL (orb P X))) := by
 have h729 : ordP P ≤ 729 := hP.le729
 have hn6 := hP.n6
 have hpos := hP.ordP_pos
 obtain ⟨pb, po, rfl, _⟩ := hp.shape
 have hlX : X.length ≤ P.orders.length ∧ P.orders.length ≤ X.length := by rw [hX.1]; omega
 go_enter Tryz.func241, Tryz.ntmps241
 go_wp2_with fail
 refine Calls.mono (clone_ok w x X _ hx (by omega)) ?_
 rintro e1 w1 ⟨r, rfl, hg1, hO1⟩
 have hr1 : OwnIn (From w.heap.size) w1 r X := OwnIn.of hO1 (by omega) (fun j hj _ => hj)
 obtain ⟨ar, capr, rfl, _, _⟩ := hr1.ints.shape
 have hL1 : RowsO w.heap.size (w1.alloc (.cells #[.slice ar X.length capr] 24)) (.slice (some ⟨w1.heap.size, 0, none⟩) 1 1) [X] := SlO.lit rdOwn hr1 hg1.size
 have hg2 : Ext w (w1.alloc (.cells #[.slice ar X.length capr] 24)) := grown_trans hg1 (World.grownBy_alloc _ _ _)
 have hL2 := (SlO.avoid (A := fun k => k = w1.heap.size + 1) hL1 (by intro k hk; simp; omega)).ext rdOwn (World.grownBy_alloc (w1.alloc (.cells #[.slice ar X.length capr] 24)) (.map #[] 0) none)
 have hS2 := Seen.made (w1.alloc (.cells #[.slice ar X.length capr] 24))
 have hg3 : Ext w ((w1.alloc (.cells #[.slice ar X.length capr] 24)).alloc (.map #[] 0)) := grown_trans hg2 (World.grownBy_alloc _ _ _)
 have hmk := run_makeSeen (w1.alloc (.cells #[.slice ar X.length capr] 24))
 go_wp2_with fail
 have hsz : (w1.alloc (.cells #[.slice ar X.length capr] 24)).heap.size = w1.heap.size + 1 := by simp
 rw [hsz] at hS2
 clear hmk
 generalize (w1.alloc (.cells #[.slice ar X.length capr] 24)).alloc (.map #[] 0) = w2 at *
 refine Calls.mono (numberOf_ok P hP w2 _ _ X _ _ (hp.ext hg3) (hx.ext hg3) hX) ?_
 rintro e3 w3 ⟨rfl, rfl⟩
 obtain ⟨w4, hrun, hS4, hg4⟩ := hS2.update (num P X) (num_wf hP hX) (by simp)
 have hw2 : w1.heap.size + 1 < w2.heap.size := hS2.lt
 have hgw4 : Ext w w4 := grown_own hg3 hg4 (fun j hj hlt => by cases hj; have := hg1.size; omega)
 have hL4 := hL2.kept rdOwn hg4 rfl
 clear hsz hL1 hL2 hS2 hg2 hO1 hr1
 go_wp2
 clear hrun
 have hmw : w1.heap.size + 1 < w4.heap.size := hS4.lt
 have hmB : w.heap.size ≤ w1.heap.size + 1 := by have := hg1.size; omega
 clear hg1 hg3 hg4 hw2
 generalize w1.heap.size + 1 = mb at *
 have HO := Lib.hid (show orbTo P ((ordP P).toNat + 1) 0 [X] = orb P X from rfl)
 generalize w1.heap.size = b1 at *
 go_loopw [5, 7] (fun v iv wr => ∃ (i f : Nat) (L : List (List Int)), iv = .int .i64 i ∧ i ≤ L.length ∧ 1 ≤ L.length ∧ f + i = (ordP P).toNat + 1 ∧ Ext w wr ∧ SlOA OwnIn 24 w.heap.size (fun k => k = mb) wr v L ∧ Seen wr mb (L.map (num P)) ∧ OrbI P L ∧ orbTo P f i L = orb P X) (fun _ iv _ => (ordP P).toNat - (intOf iv).toNat)
 case atStart => exact ⟨0, (ordP P).toNat + 1, [X], rfl, by simp, by simp, by omega, hgw4, hL4, hS4, OrbI.single hX, HO.out⟩
 case round =>
  clear hL4 hS4 hgw4 hmw
  obtain ⟨i, f, L, rfl, hiL, hL1, hfi, hg, hL, hS, hI, horb⟩ := hrel
  have HORB := Lib.hid horb; clear horb
  have hLn := hI.len hP
  have HI := Lib.hid hI; clear hI
  have hLd := RowsD.rows (hL.o.toD (by omega))
  obtain ⟨aL, capL, rfl, _, _⟩ := Sl.shape hLd
  have hmw : mb < wr.heap.size := hS.lt
  by_cases hlt : i < L.length
  ·go_wp2_with fail
   refine Calls.mono (generators_ok P hP wr _ Sp (hp.ext hg)) ?_
   rintro eg wg ⟨gv, rfl, hgg, hG⟩
   have hgl : (gensOf P.orders.length).length = P.orders.length := by simp [gensOf]
   have hGd : Rows2 (fun k => wr.heap.size ≤ k ∧ k < wg.heap.size) wg gv (gensOf P.orders.length) := RowsD.rows (SlD.mono rdOwn (hG.toD (by rw [hgl]; omega)) (fun k hk hlt => ⟨⟨hk, hlt⟩, hlt, rfl⟩))
   obtain ⟨ag, capg, rfl, _, _⟩ := Sl.shape hGd
   clear hG
   have hLg := (hL.more (A' := fun k => k = mb ∨ (wr.heap.size ≤ k ∧ k < wg.heap.size)) (fun k hk => hk.imp id (fun h => h.1))).ext rdOwn hgg
   have hSg := hS.kept hgg (by simp)
   have hgwg := grown_trans hg hgg
   clear hL hS
   rw [hgl] at hGd
   have HGL := Lib.hid hgl
   simp only [hgl]
   clear hgl
   go_wp2
   obtain ⟨wo, hwo⟩ : ∃ wo : World, wo = wr := ⟨_, rfl⟩
   have hwos : wo.heap.size = wr.heap.size := by rw [hwo]
   rw [← hwos] at hGd hLg hmw
   clear hwos
   have hYv : Vec P.orders (gt L i) := HI.out.vec _ (gt_mem hlt)
   have HY := Lib.hid hYv; clear hYv
   go_loopw [5, 29] (fun v jv w' => ∃ g : Nat, jv = .int .i64 g ∧ g ≤ P.orders.length ∧ Ext w w' ∧ SlOA OwnIn 24 w.heap.size (fun k => k = mb ∨ (wo.heap.size ≤ k ∧ k < wg.heap.size)) w' v (orbIn P (gt L i) L g) ∧ Seen w' mb ((orbIn P (gt L i) L g).map (num P)) ∧
    (∀ k, wo.heap.size ≤ k → k < wg.heap.size → k < w'.heap.size ∧ w'.heap[k]? = wg.heap[k]?)) (fun _ jv _ => P.orders.length - (intOf jv).toNat)
   case atStart => exact ⟨0, rfl, by omega, hgwg, hLg, hSg, fun k h1 h2 => ⟨h2, rfl⟩⟩
   case round =>
    clear hLg hSg hgwg hgg hLd hg
    obtain ⟨g, rfl, hgn, hg, hL, hS, hkeep⟩ := hrel
    have hII := HI.out.inn hP HY.out g
    have hMn := hII.len hP
    have HII := Lib.hid hII; clear hII
    have hpre := orbIn_pre P (gt L i) L g
    have HPRE := Lib.hid hpre; clear hpre
    have HKEEP := Lib.hid hkeep; clear hkeep
    by_cases hltg : g < P.orders.length
    ·have hGw := Rows2.mono (S' := Any) hGd (fun k hk _ => ⟨trivial, HKEEP.out k hk.1 hk.2⟩)
     obtain ⟨bg, og, ag2, capg2, rfl, _, _, hcg, hig⟩ := Rows2.at hGw g (by rw [HGL.out]; omega)
     have hgg : gt (gensOf P.orders.length) g = unitV P.orders.length g := by simp [gensOf, gt, hltg]
     rw [hgg] at hcg hig
     obtain ⟨M2, hM2⟩ := HPRE.out
     have hiM : i < (orbIn P (gt L i) L g).length := by rw [hM2]; simp; omega
     have hgi : gt (orbIn P (gt L i) L g) i = gt L i := by rw [hM2]; exact gt_append_left _ _ _ hlt
     have hMd := RowsD.rows (hL.o.toD (by omega))
     obtain ⟨aM, capM, rfl, _, _⟩ := Sl.shape hMd
     obtain ⟨bm, om, am2, capm2, rfl, _, _, hcm, him⟩ := Rows2.at hMd i hiM
     rw [hgi] at hcm him
     have hiM' : (i : Int) < (orbIn P (gt L i) L g).length := by omega
     clear hM2 hGw hMd hgi
     have hgn' : (g : Int) < P.orders.length := by omega
     have hvz := iConj_vec hP _ _ HY.out (unitV_vec hP g)
     have HZ := Lib.hid hvz; clear hvz
     go_wp2_with fail
     refine Calls.mono (conjugate_ok P hP wr _ _ _ _ _ _ _ _ (hp.ext hg) him hig HY.out (unitV_vec hP g)) ?_
     rintro ez wz ⟨zv, rfl, hgz, hOz⟩
     have hzo : OwnIn (From wr.heap.size) wz zv _ := OwnIn.of hOz (by rw [HZ.out.1]; omega) (fun j hj _ => hj)
     have hz := hzo.ints
     obtain ⟨az, capz, rfl, _, _⟩ := hz.shape
     go_wp2_with fail
     refine Calls.mono (numberOf_ok P hP wz _ _ _ _ _ (hp.ext (grown_trans hg hgz)) hz HZ.out) ?_
     rintro en wn ⟨rfl, rfl⟩
     have hSz := hS.kept hgz (by simp)
     have hlook := hSz.look (num P (iConj P (gt L i) (unitV P.orders.length g))) (num_wf hP HZ.out)
     have hsucc : orbIn P (gt L i) L (g + 1) = addZ P (orbIn P (gt L i) L g) (iConj P (gt L i) (unitV P.orders.length g)) := rfl
     have HS := Lib.hid hsucc; clear hsucc
     have hgwz := grown_trans hg hgz
     have hkz : ∀ k, wo.heap.size ≤ k → k < wg.heap.size → k < wz.heap.size ∧ wz.heap[k]? = wg.heap[k]? := fun k h1 h2 => by
      obtain ⟨h3, h4⟩ := HKEEP.out k h1 h2
      exact ⟨Nat.lt_of_lt_of_le h3 hgz.size, (hgz.block k h3 (by simp)).trans h4⟩
     have HKZ := Lib.hid hkz; clear hkz
     by_cases hin : num P (iConj P (gt L i) (unitV P.orders.length g)) ∈ (orbIn P (gt L i) L g).map (num P)
     ·rw [decide_eq_true hin] at hlook
      have hadd : orbIn P (gt L i) L (g + 1) = orbIn P (gt L i) L g := by rw [HS.out, addZ, if_pos hin]
      have HA := Lib.hid hadd; clear hadd hin
      go_wp2
      clear hlook
      have hLz := hL.ext rdOwn hgz
      go_roundw
      case rel => exact ⟨g + 1, by go_num, by omega, hgwz, by rw [HA.out]; exact hLz, by rw [HA.out]; exact hSz, HKZ.out⟩
      case measure => simp [intOf]; omega
     ·rw [decide_eq_false hin] at hlook
      have hadd : orbIn P (gt L i) L (g + 1) = orbIn P (gt L i) L g ++ [iConj P (gt L i) (unitV P.orders.length g)] := by rw [HS.out, addZ, if_neg hin]
      have HA := Lib.hid hadd; clear hadd hin
      obtain ⟨wu, hrun, hSu, hgu⟩ := hSz.update (num P (iConj P (gt L i) (unitV P.orders.length g))) (num_wf hP HZ.out) (by simp; omega)
      have hmr : mb < wr.heap.size := hS.lt
      have hzu : OwnIn (From wr.heap.size) wu (.slice az (iConj P (gt L i) (unitV P.orders.length g)).length capz) (iConj P (gt L i) (unitV P.orders.length g)) := rdOwn.mono hzo (fun k hk hlt => ⟨hk, Nat.lt_of_lt_of_le hlt hgu.size, hgu.block k hlt (fun e => by have he := Option.some.inj e; have hk : wr.heap.size ≤ k := hk; omega)⟩)
      obtain ⟨hav1, hav2, hav3⟩ := hL.avoids bm rfl
      go_wp2_with (at_builtin; go_must (refine wp_app_rowA rfl _ _ rfl w.heap.size (fun k => k = mb ∨ (wo.heap.size ≤ k ∧ k < wg.heap.size)) wr wu _ _ _ (iConj P (gt L i) (unitV P.orders.length g)) rfl hL (fun k hk => hk.elim (fun e => e ▸ hmr) (fun h => (HKEEP.out k h.1 h.2).1)) (some mb) (grown_trans (grown_of_ext _ hgz) hgu) (fun k hk => by cases hk; exact .inl rfl) hzu rfl rfl (by omega) hg.size ?_); intro v5 w5 hL5 hg5)
      have hgu2 : Ext w wu := grown_own hgwz hgu (fun j hj hlt => by cases hj; omega)
      have hg5' : wu.grownBy w5 (some bm) := hg5
      have hgw5 : Ext w w5 := grown_own hgu2 hg5' (fun j hj hlt => by cases hj; omega)
      have hS5 := hSu.kept hg5' (fun e => hav1 (.inl (by cases e; rfl)))
      have hk5 : ∀ k, wo.heap.size ≤ k → k < wg.heap.size → k < w5.heap.size ∧ w5.heap[k]? = wg.heap[k]? := fun k h1 h2 => by
       obtain ⟨h3, h4⟩ := HKZ.out k h1 h2
       have h5 := Nat.lt_of_lt_of_le h3 hgu.size
       refine ⟨Nat.lt_of_lt_of_le h5 hg5'.size, (hg5'.block k h5 (fun e => hav1 (by cases e; exact .inr ⟨h1, h2⟩))).trans ((hgu.block k h3 (fun e => by cases e; omega)).trans h4)⟩
      have HK5 := Lib.hid hk5; clear hk5
      go_roundw
      case rel => exact ⟨g + 1, by go_num, by omega, hgw5, by rw [HA.out]; exact hL5, by rw [HA.out]; exact hS5.congr (by simp) (fun a => by rw [List.map_append, List.mem_append, List.mem_cons, List.map_cons, List.map_nil, List.mem_singleton]; exact Or.comm), HK5.out⟩
      case measure => simp [intOf]; omega
    ·have hge : g = P.orders.length := by omega
     subst hge
     have hIn := HI.out.inn hP HY.out P.orders.length
     have hnext : orbTo P f i L = orbTo P (f - 1) (i + 1) (orbIn P (gt L i) L P.orders.length) := by
      obtain ⟨f', rfl⟩ : ∃ f', f = f' + 1 := ⟨f - 1, by omega⟩
      simp only [orbTo, if_pos hlt, Nat.add_sub_cancel]
     have hlen2 : i + 1 ≤ (orbIn P (gt L i) L P.orders.length).length := by
      obtain ⟨M2, hM2⟩ := HPRE.out
      rw [hM2]; simp; omega
     have HN := Lib.hid (And.intro hIn (And.intro hnext hlen2)); clear hIn hnext hlen2
     have hL6 := hL.less (A' := fun k => k = mb) (fun k hk => .inl hk)
     go_wp2
     go_roundw
     case rel => exact ⟨i + 1, f - 1, orbIn P (gt L i) L P.orders.length, by go_num, HN.out.2.2, Nat.le_trans (by omega) HN.out.2.2, by omega, hg, hL6, hS, HN.out.1, by rw [← HN.out.2.1]; exact HORB.out⟩
     case measure => simp [intOf]; omega
  ·have hie : i = L.length := by omega
   have hLe : L = orb P X := by
    rw [← HORB.out]
    cases f with
    | zero => rfl
    | succ f => simp only [orbTo]; rw [if_neg hlt]
   have HLE := Lib.hid hLe; clear hLe
   subst hie
   go_wp2_with fail
   refine Calls.mono (sortRows_ok wr _ L w.heap.size hL.o (by omega) (by omega)) ?_
   rintro es ws ⟨rfl, hs1, hs2⟩
   have hgs := grown_own hg hs2 (fun j hj hlt => by have := (hL.avoids j hj).2.1; omega)
   go_wp2
   exact bodyPost_ret (v := .slice aL L.length capL) (by simp [results, Tryz.results241, go_sem]) rfl ⟨_, rfl, hgs, by rw [← HLE.out]; exact hs1⟩
end Go.Proofs.YtdcobapnlpeaaaaGreat
namespace Go.Proofs.YtdcobapnlpeaaaaGreat
open Go.Proofs Go.RowKit
abbrev Rows3O (B : Nat) (w : World) (v : Value) (xs : List (List (List Int))) : Prop := SlO (fun F w u (x : List (List Int)) => RowsD F w u x) 25 B w v xs
def iClsTo (P : Pr) : Nat → List (List (List Int))
 | 0 => []
 | k + 1 => if (iClsTo P k).any (fun C => bsFound C (elAt P (k : Int))) then iClsTo P k else iClsTo P k ++ [sortL (orb P (elAt P (k : Int)))]
def iCls (P : Pr) : List (List (List Int)) := iClsTo P (ordP P).toNat
theorem iClsTo_len (P : Pr) (k : Nat) : (iClsTo P k).length ≤ k := by
 induction k with
 | zero => simp [iClsTo]
 | succ k ih =>
  simp only [iClsTo]; split
  ·omega
  ·rw [List.length_append]; simp; omega
theorem orb_len {P : Pr} (hP : Valid P) {X : List Int} (hX : Vec P.orders X) : (orb P X).length ≤ (ordP P).toNat := by
 have : ∀ (f i : Nat) (L : List (List Int)), OrbI P L → (orbTo P f i L).length ≤ (ordP P).toNat := by
  intro f
  induction f with
  | zero => intro i L h; exact h.len hP
  | succ f ih =>
   intro i L h
   simp only [orbTo]
   split
   ·rename_i hi
    exact ih _ _ (h.inn hP (h.vec _ (gt_mem hi)) _)
   ·exact h.len hP
 exact this _ _ _ (OrbI.single hX)
theorem iClsTo_rows {P : Pr} (hP : Valid P) (k : Nat) : ∀ C ∈ iClsTo P k, C.length ≤ (ordP P).toNat := by
 induction k with
 | zero => simp [iClsTo]
 | succ k ih =>
  intro C hC
  simp only [iClsTo] at hC
  split at hC
  ·exact ih C hC
  ·rcases List.mem_append.1 hC with h | h
   ·exact ih C h
   ·rw [List.mem_singleton.1 h, (sortL_perm _).length_eq]
    exact orb_len hP (elAt_vec hP _ (by omega))
theorem firstAt_any {CC : List (List (List Int))} {X : List Int} {r : Int} (h : FirstAt (fun i => bsFound (gt CC i) X) CC.length r) : (r < 0 ↔ CC.any (fun C => bsFound C X) = false) := by
 rcases h with ⟨k, rfl, hk, hp, _⟩ | ⟨rfl, hno⟩
 ·constructor
  ·intro h; omega
  ·intro h
   rw [List.any_eq_false] at h
   exact absurd hp (h _ (gt_mem hk))
 ·constructor
  ·intro _
   rw [List.any_eq_false]
   intro C hC
   obtain ⟨i, hi, rfl⟩ := mem_gt hC
   simp [hno i hi]
  ·intro _; omega
theorem und_rows3c : Tryz.prog.underlying 26 = some (.slice 25) := by kernel_rfl
theorem Tryz.infoRow2 : (Tryz.prog.info? 25).map (fun i => (i.zero, i.size, i.bytes)) = some (some (.slice none 0 0), 1, 24) := by kernel_rfl
open Classical in
set_option maxRecDepth 100000 in
set_option maxHeartbeats 8000000 in
theorem classesOf_ok (P : Pr) (w : World) (p : Value) (Sp : Nat → Prop) (hp : PresP Sp w p P) :
  Calls Tryz.prog 154 #[p] w (Ret w fun w' v => ∃ r, v = .tuple #[r, .int .i64 (clsCode P (iconsB P))] ∧ ((clsCode P (iconsB P) ≠ 0 ∧ r = .slice none 0 0) ∨ (clsCode P (iconsB P) = 0 ∧ Rows3O w.heap.size w' r (iCls P)))) := by
 obtain ⟨pb, po, rfl⟩ := hp.shape
 obtain ⟨vo, vp, vc, _, _, hb1, hb2, hb3, h3⟩ := hp.at
 go_enter Tryz.func154, Tryz.ntmps154
 go_wp2_with fail
 refine Calls.mono (isConsistent_ok P _ _ _ ⟨_, _, _, rfl, h3⟩) ?_
 rintro eA wA ⟨vA, rfl, hgA, rfl⟩
 clear hb1 hb2 hb3 h3
 cases hr : iconsB P with
 | false =>
  go_wp2
  exact bodyPost_ret (v := .tuple #[.slice none 0 0, .int .i64 1]) (by simp [results, Tryz.results154, go_sem]) rfl ⟨_, rfl, hgA, _, by simp [clsCode, hr], .inl ⟨by simp [clsCode, hr], rfl⟩⟩
 | true =>
  have hP : Valid P := by
   unfold iconsB at hr
   exact (of_decide_eq_true hr).1
  have h729 : ordP P ≤ 729 := hP.le729
  have hpos := hP.ordP_pos
  have hn6 := hP.n6
  go_wp2_with fail
  refine (orderOf_ok _ _ P Sp hP (hp.ext hgA)).mono ?_
  rintro eB wB ⟨rfl, rfl⟩
  by_cases hb : ordP P > 128
  ·have hb' : 128 < ordP P := hb
   go_wp2
   exact bodyPost_ret (v := .tuple #[.slice none 0 0, .int .i64 3]) (by simp [results, Tryz.results154, go_sem]) rfl ⟨_, rfl, hgA, _, by simp [clsCode, hr, hb'], .inl ⟨by simp [clsCode, hr, hb'], rfl⟩⟩
  ·have hb' : ordP P ≤ 128 := by omega
   have hz : clsCode P (iconsB P) = 0 := by simp [clsCode, hr]; omega
   have HZ := Lib.hid hz; clear hz hr
   go_wp2_with fail
   refine Calls.mono (allElements_ok P hP _ _ Sp (hp.ext hgA)) ?_
   rintro eC wC ⟨vC, rfl, hgC, hC⟩
   have hal : (allEl P).length = (ordP P).toNat := by simp [allEl]
   have hCd := RowsD.rows (hC.toD (by omega))
   obtain ⟨ac, capc, rfl, _, _⟩ := Sl.shape hCd
   rw [hal] at hCd
   have HAL := Lib.hid hal
   simp only [hal]
   clear hal
   have hgwC := grown_trans hgA hgC
   go_wp2
   go_loopw [4, 18] (fun v kv wr => ∃ k : Nat, kv = .int .i64 k ∧ k ≤ (ordP P).toNat ∧ Ext wC wr ∧ Rows3O wC.heap.size wr v (iClsTo P k)) (fun _ kv _ => (ordP P).toNat - (intOf kv).toNat)
   case atStart => exact ⟨0, rfl, by omega, Ext.refl _, SlO.nil _ _ _ _⟩
   case round =>
    obtain ⟨k, rfl, hk, hg, hL⟩ := hrel
    have hkl := iClsTo_len P k
    have hLd := Rows3D.rows (hL.toD (by omega))
    obtain ⟨aL, capL, rfl, _, _⟩ := Sl.shape hLd
    by_cases hlt : k < (ordP P).toNat
    ·have hlt' : (k : Int) < ordP P := by omega
     have hlt'' : (k : Int) < max (ordP P) 0 := by omega
     obtain ⟨be, oe, ae2, cape2, rfl, _, _, hce, hie⟩ := Rows2.at (hCd.ext hg) k (by rw [HAL.out]; omega)
     have hge : gt (allEl P) k = elAt P (k : Int) := by simp [allEl, gt, hlt]
     rw [hge] at hce hie
     have hvE := elAt_vec hP (k : Int) (by omega)
     have HV := Lib.hid (And.intro hvE hge); clear hvE hge
     go_wp2_with fail
     refine Calls.mono (classNumber_ok _ _ (iClsTo P k) (elAt P (k : Int)) wr _ _ hLd hie (fun i hi => by have := iClsTo_rows hP k _ (gt_mem hi); omega)) ?_
     rintro eN wN ⟨vN, rfl, hgN, r, rfl, hr⟩
     have hany := firstAt_any hr
     have HS := Lib.hid (show iClsTo P (k + 1) = if (iClsTo P k).any (fun C => bsFound C (elAt P (k : Int))) then iClsTo P k else iClsTo P k ++ [sortL (orb P (elAt P (k : Int)))] from rfl)
     have hgN' := grown_trans hg hgN
     have hL2 := hL.ext rdRows hgN
     clear hce hr
     by_cases hneg : r < 0
     ·have ha := hany.1 hneg
      have hs := HS.out
      rw [ha] at hs
      simp only [if_false, Bool.false_eq_true] at hs
      have HS2 := Lib.hid hs; clear hs ha hany
      go_wp2_with fail
      refine Calls.mono (classOf_ok P hP wN _ _ (elAt P (k : Int)) Sp _ (hp.ext (grown_trans hgwC hgN')) (hie.ext hgN) HV.out.1) ?_
      rintro eX wX ⟨vX, rfl, hgX, hX⟩
      have hXl : (sortL (orb P (elAt P (k : Int)))).length ≤ 1000000 := by
       rw [(sortL_perm _).length_eq]
       have := orb_len hP HV.out.1
       omega
      have hXd : RowsD (From wN.heap.size) wX vX (sortL (orb P (elAt P (k : Int)))) := hX.toD (by omega)
      obtain ⟨aX, capX, rfl, _, _⟩ := SlD.shape hXd
      clear hXl
      go_wp2_with (at_builtin; go_must (refine wp_app_one rdRows 26 25 (.slice none 0 0) 24 und_rows3c Tryz.infoRow2 rfl (by decide) rfl _ _ rfl wC.heap.size wN wX _ _ _ (sortL (orb P (elAt P (k : Int)))) rfl hL2 hgX hXd rfl rfl (by omega) hgN'.size ?_); intro v5 w5 hL5 hg5 hg6)
      have hgx := hL2.extw hgN' (Nat.le_refl _) hg5
      go_roundw
      case rel => exact ⟨k + 1, by go_num, by omega, hgx, by rw [HS2.out]; exact hL5⟩
      case measure => simp [intOf]; omega
     ·have hneg' : 0 ≤ r := by omega
      have ha : (iClsTo P k).any (fun C => bsFound C (elAt P (k : Int))) = true := by
       cases h : (iClsTo P k).any (fun C => bsFound C (elAt P (k : Int)))
       ·exact absurd (hany.2 h) hneg
       ·rfl
      have hs := HS.out
      rw [if_pos ha] at hs
      have HS2 := Lib.hid hs; clear hs ha hany
      go_wp2
      go_roundw
      case rel => exact ⟨k + 1, by go_num, by omega, hgN', by rw [HS2.out]; exact hL2⟩
      case measure => simp [intOf]; omega
    ·have hke : k = (ordP P).toNat := by omega
     subst hke
     go_wp2
     exact bodyPost_ret (v := .tuple #[.slice aL (iClsTo P (ordP P).toNat).length capL, .int .i64 0]) (by simp [results, Tryz.results154, go_sem]) rfl ⟨_, rfl, grown_trans hgwC hg, _, by rw [HZ.out], .inr ⟨HZ.out, hL.weak hgwC.size⟩⟩
end Go.Proofs.YtdcobapnlpeaaaaGreat
namespace Go.Proofs.YtdcobapnlpeaaaaGreat
section
variable {P : Pr} (G : Grp P)
include G
def Cj (P : Pr) (x y : List Int) : Prop := ∃ g, Vec P.orders g ∧ y = rConj P x g
omit G in
theorem mem_addZ (hP : Valid P) {L : List (List Int)} (hL : OrbI P L) {z : List Int} (hz : Vec P.orders z) (y : List Int) : y ∈ addZ P L z ↔ y ∈ L ∨ y = z := by
 unfold addZ
 split
 ·rename_i h
  obtain ⟨u, hu, hn⟩ := List.mem_map.1 h
  have : u = z := num_inj hP (hL.vec u hu) hz hn
  subst this
  constructor
  ·exact fun h => .inl h
  ·rintro (h | h)
   ·exact h
   ·rw [h]; exact hu
 ·simp
theorem Grp.orbIn_mem {L : List (List Int)} (hL : OrbI P L) {y : List Int} (hy : Vec P.orders y) (g : Nat) : ∀ z, z ∈ orbIn P y L g ↔ z ∈ L ∨ ∃ j, j < g ∧ z = rConj P y (unitV P.orders.length j) := by
 induction g with
 | zero =>
  intro z
  simp only [orbIn]
  exact ⟨fun h => .inl h, fun h => h.elim id (fun ⟨j, hj, _⟩ => by omega)⟩
 | succ g ih =>
  intro z
  simp only [orbIn]
  rw [mem_addZ G.v (hL.inn G.v hy g) (iConj_vec G.v y _ hy (unitV_vec G.v g)), ih z, G.iConj_eq hy (unitV_vec G.v g)]
  constructor
  ·rintro ((h | ⟨j, hj, h⟩) | h)
   ·exact .inl h
   ·exact .inr ⟨j, by omega, h⟩
   ·exact .inr ⟨g, by omega, h⟩
  ·rintro (h | ⟨j, hj, h⟩)
   ·exact .inl (.inl h)
   ·by_cases e : j = g
    ·subst e; exact .inr h
    ·exact .inl (.inr ⟨j, by omega, h⟩)
theorem Grp.orbTo_spec {x : List Int} (hx : Vec P.orders x) (f : Nat) : ∀ (i : Nat) (L : List (List Int)), f + i = (ordP P).toNat + 1 → i ≤ L.length → OrbI P L → x ∈ L → (∀ y ∈ L, Cj P x y) →
  (∀ j, j < i → ∀ g, g < P.orders.length → rConj P (gt L j) (unitV P.orders.length g) ∈ L) →
  OrbI P (orbTo P f i L) ∧ x ∈ orbTo P f i L ∧ (∀ y ∈ orbTo P f i L, Cj P x y) ∧ ∀ y ∈ orbTo P f i L, ∀ g, g < P.orders.length → rConj P y (unitV P.orders.length g) ∈ orbTo P f i L := by
 induction f with
 | zero =>
  intro i L hf hi hL _ _ _
  have := hL.len G.v
  omega
 | succ f ih =>
  intro i L hf hi hL hxL hcj hcl
  simp only [orbTo]
  by_cases hlt : i < L.length
  ·rw [if_pos hlt]
   have hy := hL.vec _ (gt_mem hlt)
   have hmem := G.orbIn_mem hL hy P.orders.length
   obtain ⟨M, hM⟩ := orbIn_pre P (gt L i) L P.orders.length
   have hlen : L.length ≤ (orbIn P (gt L i) L P.orders.length).length := by rw [hM, List.length_append]; omega
   refine ih (i + 1) _ (by omega) (by omega) (hL.inn G.v hy _) ((hmem x).2 (.inl hxL)) ?_ ?_
   ·intro y hyy
    rcases (hmem y).1 hyy with h | ⟨j, hj, h⟩
    ·exact hcj y h
    ·obtain ⟨g, hg, h2⟩ := hcj _ (gt_mem hlt)
     refine ⟨rMul P g (unitV P.orders.length j), G.mulV hg (unitV_vec G.v j), ?_⟩
     rw [h, h2, G.conj_mul hx hg (unitV_vec G.v j)]
   ·intro j hj g hg
    have e : gt (orbIn P (gt L i) L P.orders.length) j = gt L j := by rw [hM]; exact gt_append_left _ _ _ (by omega)
    rw [e]
    by_cases ej : j = i
    ·rw [ej]; exact (hmem _).2 (.inr ⟨g, hg, rfl⟩)
    ·exact (hmem _).2 (.inl (hcl j (by omega) g hg))
  ·rw [if_neg hlt]
   have : i = L.length := by omega
   refine ⟨hL, hxL, hcj, fun y hy g hg => ?_⟩
   obtain ⟨j, hj, rfl⟩ := mem_gt hy
   exact hcl j (by omega) g hg
theorem Grp.orb_spec {x : List Int} (hx : Vec P.orders x) : OrbI P (orb P x) ∧ ∀ y, y ∈ orb P x ↔ Cj P x y := by
 obtain ⟨h1, h2, h3, h4⟩ := G.orbTo_spec hx ((ordP P).toNat + 1) 0 [x] rfl (by simp) (OrbI.single hx) (by simp) (fun y hy => by
  rw [List.mem_singleton.1 hy]; exact ⟨_, G.oneV, (G.conj_one hx).symm⟩) (fun j hj => by omega)
 refine ⟨h1, fun y => ⟨h3 y, ?_⟩⟩
 rintro ⟨g, hg, rfl⟩
 have key := G.gen_ind (fun g => ∀ y ∈ orb P x, rConj P y g ∈ orb P x) (fun y hy => by rw [G.conj_one (h1.vec y hy)]; exact hy) (fun u j hu ih hj y hy => by
  rw [← G.conj_mul (h1.vec y hy) hu (unitV_vec G.v j)]
  exact h4 _ (ih y hy) j hj) hg
 exact key x h2
theorem Grp.Cj_refl {x : List Int} (hx : Vec P.orders x) : Cj P x x := ⟨_, G.oneV, (G.conj_one hx).symm⟩
theorem Grp.Cj_symm {x y : List Int} (hx : Vec P.orders x) (h : Cj P x y) : Cj P y x := by
 obtain ⟨g, hg, rfl⟩ := h
 exact ⟨rInv P g, G.invV hg, (G.conj_back hx hg).symm⟩
theorem Grp.Cj_trans {x y z : List Int} (hx : Vec P.orders x) (h : Cj P x y) (k : Cj P y z) : Cj P x z := by
 obtain ⟨g, hg, rfl⟩ := h
 obtain ⟨u, hu, rfl⟩ := k
 exact ⟨_, G.mulV hg hu, G.conj_mul hx hg hu⟩
theorem Grp.Cj_vec {x y : List Int} (hx : Vec P.orders x) (h : Cj P x y) : Vec P.orders y := by
 obtain ⟨g, hg, rfl⟩ := h
 exact G.conjV hx hg
theorem Grp.marks_spec {x : List Int} (hx : Vec P.orders x) (k : Nat) (hk : k ≤ (ordP P).toNat) : ∀ t, t < (ordP P).toNat → (gt (marksTo P x k) t = true ↔ ∃ j, j < k ∧ rConj P x (elAt P (j : Int)) = elAt P (t : Int)) := by
 induction k with
 | zero =>
  intro t ht
  simp only [marksTo]
  have : gt (List.replicate (ordP P).toNat false) t = false := by simp [gt, ht]
  rw [this]
  constructor
  ·intro h; cases h
  ·rintro ⟨j, hj, _⟩; omega
 | succ k ih =>
  intro t ht
  simp only [marksTo]
  rw [gt_set _ _ _ _ (by rw [marksTo_len]; exact ht)]
  have hv := G.conjV hx (elAt_vec G.v (k : Int) (by omega))
  have hb := num_bd G.v hv
  by_cases e : (num P (rConj P x (elAt P (k : Int)))).toNat = t
  ·rw [if_pos e]
   constructor
   ·intro _
    refine ⟨k, by omega, ?_⟩
    rw [← e, show (((num P (rConj P x (elAt P (k : Int)))).toNat : Nat) : Int) = num P (rConj P x (elAt P (k : Int))) by omega, elAt_num G.v hv]
   ·intro _; rfl
  ·rw [if_neg e, ih (by omega) t ht]
   constructor
   ·rintro ⟨j, hj, h⟩; exact ⟨j, by omega, h⟩
   ·rintro ⟨j, hj, h⟩
    by_cases ej : j = k
    ·subst ej
     exfalso; apply e
     rw [h, num_elAt G.v _ (by omega) (by omega)]
     omega
    ·exact ⟨j, by omega, h⟩
theorem Grp.marks_cj {x : List Int} (hx : Vec P.orders x) (t : Nat) (ht : t < (ordP P).toNat) : gt (marksTo P x (ordP P).toNat) t = true ↔ Cj P x (elAt P (t : Int)) := by
 rw [G.marks_spec hx _ (Nat.le_refl _) t ht]
 constructor
 ·rintro ⟨j, hj, h⟩; exact ⟨_, elAt_vec G.v (j : Int) (by omega), h.symm⟩
 ·rintro ⟨g, hg, h⟩
  have hb := num_bd G.v hg
  refine ⟨(num P g).toNat, by omega, ?_⟩
  rw [show (((num P g).toNat : Nat) : Int) = num P g by omega, elAt_num G.v hg, h]
omit G in
theorem paint_gt (m : List Bool) (c : Int) (L : List Int) (j : Nat) : ∀ t, t < L.length → gt (paint m c L j) t = if t < j ∧ gt m t = true then c else gt L t := by
 induction j with
 | zero => intro t ht; rw [if_neg (by omega)]; rfl
 | succ j ih =>
  intro t ht
  simp only [paint]
  by_cases hm : gt m j = true
  ·rw [if_pos hm, gt_set _ _ _ _ (by rw [paint_len]; exact ht)]
   by_cases e : j = t
   ·subst e; rw [if_pos rfl, if_pos ⟨by omega, hm⟩]
   ·rw [if_neg e, ih t ht]
    by_cases h2 : t < j ∧ gt m t = true
    ·rw [if_pos h2, if_pos ⟨by omega, h2.2⟩]
    ·rw [if_neg h2, if_neg (fun h => h2 ⟨by omega, h.2⟩)]
  ·rw [if_neg hm, ih t ht]
   by_cases h2 : t < j ∧ gt m t = true
   ·rw [if_pos h2, if_pos ⟨by omega, h2.2⟩]
   ·rw [if_neg h2, if_neg (fun h => h2 ⟨by
     rcases Nat.lt_succ_iff_lt_or_eq.1 h.1 with h3 | h3
     ·exact h3
     ·subst h3; exact absurd h.2 hm, h.2⟩)]
omit G in
theorem fill_gt (N j : Nat) (hj : j ≤ N) : ∀ t, t < j → gt (fillTo N j) t = -1 := by
 induction j with
 | zero => intro t ht; omega
 | succ j ih =>
  intro t ht
  simp only [fillTo]
  rw [gt_set _ _ _ _ (by rw [fillTo_len]; omega)]
  split
  ·rfl
  ·exact ih (by omega) t (by omega)
structure ClsOk (P : Pr) (C : List (List Int)) : Prop where
 nd : C.Nodup
 so : SortedL C
 vec : ∀ y ∈ C, Vec P.orders y
 cj : ∀ y ∈ C, ∀ z, z ∈ C ↔ Cj P y z
structure ClsInv (P : Pr) (k : Nat) : Prop where
 num : (clsTo P k).2 = (iClsTo P k).length
 ok : ∀ C ∈ iClsTo P k, ClsOk P C
 done : ∀ t, t < k → 0 ≤ gt (clsTo P k).1 t
 at_ : ∀ t, t < (ordP P).toNat → (gt (clsTo P k).1 t = -1 ∧ ∀ C ∈ iClsTo P k, elAt P (t : Int) ∉ C) ∨
  ∃ j : Nat, gt (clsTo P k).1 t = j ∧ j < (iClsTo P k).length ∧ elAt P (t : Int) ∈ gt (iClsTo P k) j ∧ ∀ j', j' < (iClsTo P k).length → elAt P (t : Int) ∈ gt (iClsTo P k) j' → j' = j
theorem Grp.sortL_ok {x : List Int} (hx : Vec P.orders x) : ClsOk P (sortL (orb P x)) ∧ ∀ y, y ∈ sortL (orb P x) ↔ Cj P x y := by
 obtain ⟨h1, h2⟩ := G.orb_spec hx
 have hp := sortL_perm (orb P x)
 have hm : ∀ y, y ∈ sortL (orb P x) ↔ Cj P x y := fun y => hp.mem_iff.trans (h2 y)
 have hnd : (orb P x).Nodup := by
  have h3 := h1.nd
  unfold List.Nodup at h3 ⊢
  rw [List.pairwise_map] at h3
  exact h3.imp (fun h e => h (by rw [e]))
 refine ⟨⟨(hp.nodup_iff).2 hnd, sortL_sorted _, fun y hy => G.Cj_vec hx ((hm y).1 hy), fun y hy z => ?_⟩, hm⟩
 rw [hm z]
 have hxy := (hm y).1 hy
 constructor
 ·intro h; exact G.Cj_trans (G.Cj_vec hx hxy) (G.Cj_symm hx hxy) h
 ·intro h; exact G.Cj_trans hx hxy h
theorem Grp.cls_inv (k : Nat) (hk : k ≤ (ordP P).toNat) : ClsInv P k := by
 induction k with
 | zero =>
  refine ⟨rfl, fun C h => (by cases h), fun t ht => by omega, fun t ht => .inl ⟨?_, fun C h => (by cases h)⟩⟩
  simp only [clsTo]
  exact fill_gt _ _ (Nat.le_refl _) t ht
 | succ k ih =>
  have I := ih (by omega)
  have hany : ((iClsTo P k).any (fun C => bsFound C (elAt P (k : Int))) = true) ↔ ∃ C ∈ iClsTo P k, elAt P (k : Int) ∈ C := by
   rw [List.any_eq_true]
   constructor
   ·rintro ⟨C, hC, h⟩
    rw [bsFound_mem _ _ (I.ok C hC).so] at h
    exact ⟨C, hC, of_decide_eq_true h⟩
   ·rintro ⟨C, hC, h⟩
    refine ⟨C, hC, ?_⟩
    rw [bsFound_mem _ _ (I.ok C hC).so]
    exact decide_eq_true h
  have hkN : k < (ordP P).toNat := by omega
  by_cases h0 : 0 ≤ gt (clsTo P k).1 k
  ·-- already painted
   have hin : (iClsTo P k).any (fun C => bsFound C (elAt P (k : Int))) = true := by
    rw [hany]
    rcases I.at_ k hkN with ⟨h1, _⟩ | ⟨j, h1, h2, h3, _⟩
    ·omega
    ·exact ⟨_, gt_mem h2, h3⟩
   have e1 : clsTo P (k + 1) = clsTo P k := by rw [clsTo, if_pos h0]
   have e2 : iClsTo P (k + 1) = iClsTo P k := by rw [iClsTo, if_pos hin]
   refine ⟨by rw [e1, e2]; exact I.num, by rw [e2]; exact I.ok, fun t ht => ?_, by rw [e1, e2]; exact I.at_⟩
   rw [e1]
   rcases Nat.lt_succ_iff_lt_or_eq.1 ht with h | h
   ·exact I.done t h
   ·rw [h]; exact h0
  ·have hnot : ∀ C ∈ iClsTo P k, elAt P (k : Int) ∉ C := by
    rcases I.at_ k hkN with ⟨_, h2⟩ | ⟨j, h1, _⟩
    ·exact h2
    ·omega
   have hin : ¬ (iClsTo P k).any (fun C => bsFound C (elAt P (k : Int))) = true := by
    rw [hany]; rintro ⟨C, hC, h⟩; exact hnot C hC h
   have hxk := elAt_vec G.v (k : Int) (by omega)
   obtain ⟨hok, hmem⟩ := G.sortL_ok hxk
   have e1 : clsTo P (k + 1) = (paint (marksTo P (elAt P (k : Int)) (ordP P).toNat) (clsTo P k).2 (clsTo P k).1 (ordP P).toNat, (clsTo P k).2 + 1) := by rw [clsTo, if_neg h0]
   have e2 : iClsTo P (k + 1) = iClsTo P k ++ [sortL (orb P (elAt P (k : Int)))] := by rw [iClsTo, if_neg hin]
   have hpg : ∀ t, t < (ordP P).toNat → gt (clsTo P (k + 1)).1 t = if gt (marksTo P (elAt P (k : Int)) (ordP P).toNat) t = true then ((clsTo P k).2 : Int) else gt (clsTo P k).1 t := fun t ht => by
    rw [e1]
    simp only
    rw [paint_gt _ _ _ _ t (by rw [clsTo_len]; exact ht)]
    by_cases hm : gt (marksTo P (elAt P (k : Int)) (ordP P).toNat) t = true
    ·rw [if_pos ⟨ht, hm⟩, if_pos hm]
    ·rw [if_neg (fun h => hm h.2), if_neg hm]
   -- a member of the new class stands in no old one
   have hdis : ∀ t, t < (ordP P).toNat → Cj P (elAt P (k : Int)) (elAt P (t : Int)) → ∀ C ∈ iClsTo P k, elAt P (t : Int) ∉ C := fun t ht h C hC hc =>
    hnot C hC (((I.ok C hC).cj _ hc _).2 (G.Cj_symm hxk h))
   have hnewat : gt (iClsTo P (k + 1)) (iClsTo P k).length = sortL (orb P (elAt P (k : Int))) := by rw [e2]; exact gt_concat _ _
   have hold : ∀ j, j < (iClsTo P k).length → gt (iClsTo P (k + 1)) j = gt (iClsTo P k) j := fun j hj => by rw [e2]; exact gt_append_left _ _ _ hj
   have hlen : (iClsTo P (k + 1)).length = (iClsTo P k).length + 1 := by rw [e2, List.length_append]; rfl
   have hat : ∀ t, t < (ordP P).toNat → (gt (clsTo P (k + 1)).1 t = -1 ∧ ∀ C ∈ iClsTo P (k + 1), elAt P (t : Int) ∉ C) ∨
     ∃ j : Nat, gt (clsTo P (k + 1)).1 t = j ∧ j < (iClsTo P (k + 1)).length ∧ elAt P (t : Int) ∈ gt (iClsTo P (k + 1)) j ∧ ∀ j', j' < (iClsTo P (k + 1)).length → elAt P (t : Int) ∈ gt (iClsTo P (k + 1)) j' → j' = j := fun t ht => by
    rw [hpg t ht]
    by_cases hm : gt (marksTo P (elAt P (k : Int)) (ordP P).toNat) t = true
    ·rw [if_pos hm]
     have hc := (G.marks_cj hxk t ht).1 hm
     refine .inr ⟨(iClsTo P k).length, by rw [I.num], by omega, by rw [hnewat]; exact (hmem _).2 hc, fun j' hj' h => ?_⟩
     by_cases hlt : j' < (iClsTo P k).length
     ·rw [hold j' hlt] at h
      exact absurd h (hdis t ht hc _ (gt_mem hlt))
     ·omega
    ·rw [if_neg hm]
     have hc : ¬ Cj P (elAt P (k : Int)) (elAt P (t : Int)) := fun h => hm ((G.marks_cj hxk t ht).2 h)
     rcases I.at_ t ht with ⟨h1, h2⟩ | ⟨j, h1, h2, h3, h4⟩
     ·refine .inl ⟨h1, fun C hC => ?_⟩
      rw [e2, List.mem_append] at hC
      rcases hC with hC | hC
      ·exact h2 C hC
      ·rw [List.mem_singleton.1 hC]; exact fun h => hc ((hmem _).1 h)
     ·refine .inr ⟨j, h1, by omega, by rw [hold j h2]; exact h3, fun j' hj' h => ?_⟩
      by_cases hlt : j' < (iClsTo P k).length
      ·rw [hold j' hlt] at h; exact h4 j' hlt h
      ·have : j' = (iClsTo P k).length := by omega
       rw [this, hnewat] at h
       exact absurd ((hmem _).1 h) hc
   refine ⟨by rw [e1, hlen]; simp only; rw [I.num], fun C hC => ?_, fun t ht => ?_, hat⟩
   ·rw [e2, List.mem_append] at hC
    rcases hC with hC | hC
    ·exact I.ok C hC
    ·rw [List.mem_singleton.1 hC]; exact hok
   ·rw [hpg t (by omega)]
    split
    ·omega
    ·rename_i hm
     rcases Nat.lt_succ_iff_lt_or_eq.1 ht with h | h
     ·exact I.done t h
     ·exfalso; apply hm; rw [h]; exact (G.marks_cj hxk k hkN).2 (G.Cj_refl hxk)
end
end Go.Proofs.YtdcobapnlpeaaaaGreat
namespace Go.Proofs.YtdcobapnlpeaaaaGreat
def repsOf (P : Pr) : List (List Int) := (iCls P).map (fun C => gt C 0)
section
variable {P : Pr} (G : Grp P)
include G
end
end Go.Proofs.YtdcobapnlpeaaaaGreat
namespace Go.Proofs.YtdcobapnlpeaaaaGreat
def powsOf (P : Pr) (k : Int) : List Int := (repsOf P).map (fun x => gt (rCls P).1 (num P (pwZ P x k)).toNat)
section
variable {P : Pr} (G : Grp P)
include G
theorem Grp.pw_residue {x : List Int} (hx : Vec P.orders x) (k m : Int) (hm : 0 < m) (h1 : pw P x m.toNat = zeros P.orders.length) : pw P x (k % m).toNat = pwZ P x k := by
 have hb : 0 ≤ k % m ∧ k % m < m := ⟨Int.emod_nonneg _ (by omega), Int.emod_lt_of_pos _ hm⟩
 have hmul : ∀ q : Nat, pw P x (m.toNat * q) = zeros P.orders.length := fun q => by
  rw [G.pw_mul hx, h1]
  have : ∀ q, pw P (zeros P.orders.length) q = zeros P.orders.length := by
   intro q
   induction q with
   | zero => rfl
   | succ q ih => rw [pw_succ, ih, G.grp.el _ G.oneV]
  exact this q
 unfold pwZ
 split
 ·rename_i hneg
  -- k < 0: x^(k mod m) x^(-k) = 1
  obtain ⟨q, hq⟩ : ∃ q : Nat, (k % m).toNat + (-k).toNat = m.toNat * q := by
   refine ⟨(-(k / m)).toNat, ?_⟩
   have h2 := Int.emod_add_mul_ediv k m
   have h3 : k / m ≤ 0 := by
    rcases Int.lt_or_le 0 (k / m) with h | h
    ·have : m * 1 ≤ m * (k / m) := Int.mul_le_mul_of_nonneg_left (by omega) (by omega)
     omega
    ·exact h
   have h4 : ((m.toNat * (-(k / m)).toNat : Nat) : Int) = m * (-(k / m)) := by
    rw [Int.natCast_mul, show ((m.toNat : Nat) : Int) = m by omega, show (((-(k / m)).toNat : Nat) : Int) = -(k / m) by omega]
   rw [Int.mul_neg] at h4
   omega
  have h5 : rMul P (pw P x (k % m).toNat) (pw P x (-k).toNat) = zeros P.orders.length := by rw [← G.pw_add hx, hq, hmul]
  have h6 := G.pw_inv hx (-k).toNat
  have p1 := G.pw_vec hx (k % m).toNat
  have p2 := G.pw_vec hx (-k).toNat
  have p3 := G.pw_vec (G.invV hx) (-k).toNat
  -- two left inverses of one element
  have h7 : rMul P (rMul P (pw P x (k % m).toNat) (pw P x (-k).toNat)) (rInv P (pw P x (-k).toNat)) = rMul P (rMul P (pw P (rInv P x) (-k).toNat) (pw P x (-k).toNat)) (rInv P (pw P x (-k).toNat)) := by rw [h5, h6]
  rwa [G.ass p1 p2 (G.invV p2), G.ass p3 p2 (G.invV p2), G.mul_inv p2, G.grp.er _ p1, G.grp.er _ p3] at h7
 ·rename_i hneg
  have h2 := Int.emod_add_mul_ediv k m
  have h3 : 0 ≤ k / m := Int.ediv_nonneg (by omega) (by omega)
  have h4 : k.toNat = (k % m).toNat + m.toNat * (k / m).toNat := by
   have h4 : ((m.toNat * (k / m).toNat : Nat) : Int) = m * (k / m) := by
    rw [Int.natCast_mul, show ((m.toNat : Nat) : Int) = m by omega, show (((k / m).toNat : Nat) : Int) = k / m by omega]
   omega
  rw [h4, G.pw_add hx, hmul, G.grp.er _ (G.pw_vec hx _)]
theorem Grp.find_cls {y : List Int} (hy : Vec P.orders y) {r : Int} (h : FirstAt (fun i => bsFound (gt (iCls P) i) y) (iCls P).length r) : r = gt (rCls P).1 (num P y).toNat := by
 have I := G.cls_inv (ordP P).toNat (Nat.le_refl _)
 have hb := num_bd G.v hy
 have hey : elAt P (((num P y).toNat : Nat) : Int) = y := by
  rw [show (((num P y).toNat : Nat) : Int) = num P y by omega]; exact elAt_num G.v hy
 have hd := I.done (num P y).toNat (by omega)
 rcases I.at_ (num P y).toNat (by omega) with ⟨h1, _⟩ | ⟨j, h1, h2, h3, h4⟩
 ·omega
 ·rw [hey] at h3 h4
  have hj : bsFound (gt (iClsTo P (ordP P).toNat) j) y = true := by
   rw [bsFound_mem _ _ (I.ok _ (gt_mem h2)).so]; exact decide_eq_true h3
  rcases h with ⟨k, hk1, hk2, hk3, _⟩ | ⟨_, h6⟩
  ·have hin : y ∈ gt (iCls P) k := by
    have h7 : bsFound (gt (iClsTo P (ordP P).toNat) k) y = true := hk3
    rw [bsFound_mem _ _ (I.ok _ (gt_mem hk2)).so] at h7
    exact of_decide_eq_true h7
   have := h4 k hk2 hin
   show r = gt (clsTo P (ordP P).toNat).1 (num P y).toNat
   rw [h1, hk1, this]
  ·have h8 : bsFound (gt (iClsTo P (ordP P).toNat) j) y = false := h6 j h2
   rw [h8] at hj; cases hj
end
end Go.Proofs.YtdcobapnlpeaaaaGreat
namespace Go.Proofs.YtdcobapnlpeaaaaGreat
open Go.RowKit
set_option maxRecDepth 100000 in
set_option maxHeartbeats 4000000 in
theorem iConE_ok (P : Pr) (hr : rconsB P = true) (w : World) (pv xv yv : Value) (X Y : List Int) (Sp Sx Sy : Nat → Prop) (hpv : PresV Sp w pv P) (hx : Ints Sx w xv X) (hy : Ints Sy w yv Y) (hX : Vec P.orders X) (hY : Vec P.orders Y) :
  Calls Tryz.prog 50 #[pv, xv, yv] w (Ret w fun w' v => ∃ a n c, v = .tuple #[.slice a n c, .int .i64 0] ∧ Own w.heap.size w' (.slice a n c) (rConj P X Y)) := by
 have G := grp_of_r hr
 have hn6 := G.v.n6
 obtain ⟨vo, vp, vc, rfl, h3⟩ := hpv
 have hp0 := PresP.box h3 28
 have hg0 : Ext w (w.alloc (.cells #[vo, vp, vc] 28)) := World.grownBy_alloc _ _ _
 have hs0 : (w.alloc (.cells #[vo, vp, vc] 28)).heap.size = w.heap.size + 1 := by simp
 have hx0 := Ints.ext hx hg0
 obtain ⟨ax, capx, rfl, _, _⟩ := hx.shape
 have hy0 := Ints.ext hy hg0
 obtain ⟨ay, capy, rfl, _, _⟩ := hy.shape
 have hg1 : Ext (w.alloc (.cells #[vo, vp, vc] 28)) ((w.alloc (.cells #[vo, vp, vc] 28)).alloc (.cells #[.slice ax X.length capx, .slice ay Y.length capy] 24)) := World.grownBy_alloc _ _ _
 have hl := rowsE2 hx0 hy0
 have hcon := areElements_ok P _ _ _ [X, Y] Any Any (hp0.ext hg1) hl
 rw [hs0] at hcon
 clear hl hx hy
 have HH := Lib.hid (And.intro hr (And.intro hX ( And.intro hY ((trivial : True))))); clear hr hX hY
 go_enter Tryz.func50, Tryz.ntmps50
 go_wp2_with fail
 refine Calls.mono hcon ?_
 rintro e1 w1 ⟨v1, rfl, hgA, r1, rfl, hr1⟩
 clear hcon
 obtain rfl : r1 = true := hr1.2 (by have := HH.out; simp only [List.mem_cons, List.mem_nil_iff, or_false]; exact ⟨this.1, fun u hu => by rcases hu with rfl | rfl; exact this.2.1; exact this.2.2.1⟩)
 clear hr1
 have hg01 := grown_trans hg1 hgA
 have HS := Lib.hid hs0; clear hs0
 generalize hw0 : (w.alloc (.cells #[vo, vp, vc] 28)) = w0 at *
 clear hw0 hg1 hgA
 have hp1 := hp0.ext hg01
 have hx1 := Ints.ext hx0 hg01
 have hy1 := Ints.ext hy0 hg01
 go_wp2_with fail
 refine Calls.mono (conjugate_ok P G.v w1 _ _ _ X Y Any Sx Sy hp1 hx1 hy1 HH.out.2.1 HH.out.2.2.1) ?_
 rintro e2 w2 ⟨v2, rfl, hg2, hO⟩
 rw [G.iConj_eq HH.out.2.1 HH.out.2.2.1] at hO
 obtain ⟨ad, nd, capd, hvd⟩ : ∃ a n c, v2 = Value.slice a n c := by obtain ⟨a, c, e, _⟩ := (hO.ints (by rw [(G.conjV HH.out.2.1 HH.out.2.2.1).1]; omega)).shape; exact ⟨_, _, _, e⟩
 subst hvd
 go_wp2
 go_ret2
 exact ⟨_, rfl, grown_trans hg0 (grown_trans hg01 hg2), _, _, _, rfl, hO.weak (by have := hg01.size; have := hg0.size; omega)⟩
set_option maxRecDepth 100000 in
set_option maxHeartbeats 4000000 in
theorem iPowE_ok (P : Pr) (hr : rconsB P = true) (w : World) (pv xv : Value) (X : List Int) (K : Int) (Sp Sx : Nat → Prop) (hpv : PresV Sp w pv P) (hx : Ints Sx w xv X) (hX : Vec P.orders X) (hK : -1000000 ≤ K ∧ K ≤ 1000000) :
  Calls Tryz.prog 54 #[pv, xv, .int .i64 K] w (Ret w fun w' v => ∃ a n c, v = .tuple #[.slice a n c, .int .i64 0] ∧ Own w.heap.size w' (.slice a n c) (pwZ P X K)) := by
 have G := grp_of_r hr
 have hn6 := G.v.n6
 obtain ⟨vo, vp, vc, rfl, h3⟩ := hpv
 have hp0 := PresP.box h3 28
 have hg0 : Ext w (w.alloc (.cells #[vo, vp, vc] 28)) := World.grownBy_alloc _ _ _
 have hs0 : (w.alloc (.cells #[vo, vp, vc] 28)).heap.size = w.heap.size + 1 := by simp
 have hx0 := Ints.ext hx hg0
 obtain ⟨ax, capx, rfl, _, _⟩ := hx.shape
 have hg1 : Ext (w.alloc (.cells #[vo, vp, vc] 28)) ((w.alloc (.cells #[vo, vp, vc] 28)).alloc (.cells #[.slice ax X.length capx] 24)) := World.grownBy_alloc _ _ _
 have hl := rowsE1 hx0
 have hcon := areElements_ok P _ _ _ [X] Any Any (hp0.ext hg1) hl
 rw [hs0] at hcon
 clear hl hx
 have HH := Lib.hid (And.intro hr (And.intro hX ((trivial : True)))); clear hr hX
 go_enter Tryz.func54, Tryz.ntmps54
 go_wp2_with fail
 refine Calls.mono hcon ?_
 rintro e1 w1 ⟨v1, rfl, hgA, r1, rfl, hr1⟩
 clear hcon
 obtain rfl : r1 = true := hr1.2 (by have := HH.out; simp only [List.mem_cons, List.mem_nil_iff, or_false]; exact ⟨this.1, fun u hu => by subst hu; exact this.2.1⟩)
 clear hr1
 have hg01 := grown_trans hg1 hgA
 have HS := Lib.hid hs0; clear hs0
 generalize hw0 : (w.alloc (.cells #[vo, vp, vc] 28)) = w0 at *
 clear hw0 hg1 hgA
 have hp1 := hp0.ext hg01
 have hx1 := Ints.ext hx0 hg01
 go_wp2_with fail
 refine Calls.mono (inside_ok K (-1000000) 1000000 w1) ?_
 rintro _ _ ⟨rfl, rfl⟩
 rw [show inB K (-1000000) 1000000 = true from by simp [inB]; omega]
 go_wp2_with fail
 refine Calls.mono (orderOfElement_ok P G w1 _ _ X Any Sx hp1 hx1 HH.out.2.1) ?_
 rintro e2 w2 ⟨v2, rfl, hg2, m, rfl, hm1, hm2, hm3⟩
 have hres := G.pw_residue HH.out.2.1 K m (by omega) hm3
 have hrb := Int.emod_lt_of_pos K (show 0 < m by omega)
 have HR := Lib.hid hres; clear hres hm3
 go_wp2_with fail
 refine Calls.mono (residue_ok K m _ (by omega)) ?_
 rintro _ _ ⟨rfl, rfl⟩
 go_wp2_with fail
 refine Calls.mono (power_ok P G.v w2 _ _ X (K % m) Any Sx (hp1.ext hg2) (Ints.ext hx1 hg2) HH.out.2.1 (by omega)) ?_
 rintro e3 w3 ⟨v3, rfl, hg3, hO⟩
 rw [G.iPow_eq HH.out.2.1] at hO
 have hO2 : Own w2.heap.size w3 v3 (pwZ P X K) := by rw [← HR.out]; exact hO
 have hpl : (pwZ P X K).length ≤ 6 := by rw [(G.pwZ_vec HH.out.2.1 K).1]; omega
 obtain ⟨ad, nd, capd, hvd⟩ : ∃ a n c, v3 = Value.slice a n c := by obtain ⟨a, c, e, _⟩ := (hO2.ints (by omega)).shape; exact ⟨_, _, _, e⟩
 subst hvd
 clear hO hrb
 go_wp2
 go_ret2
 exact ⟨_, rfl, grown_trans hg0 (grown_trans hg01 (grown_trans hg2 hg3)), _, _, _, rfl, hO2.weak (by have := hg01.size; have := hg0.size; have := hg2.size; omega)⟩
set_option maxRecDepth 100000 in
set_option maxHeartbeats 4000000 in
theorem iClsNo_ok (P : Pr) (hr : rconsB P = true) (w : World) (pv xv : Value) (X : List Int) (Sp Sx : Nat → Prop) (hpv : PresV Sp w pv P) (hx : Ints Sx w xv X) (hX : Vec P.orders X) (h128 : ordP P ≤ 128) :
  Calls Tryz.prog 49 #[pv, xv] w (Ret w fun _ v => v = .tuple #[.int .i64 (gt (rCls P).1 (num P X).toNat), .int .i64 0]) := by
 have G := grp_of_r hr
 have hn6 := G.v.n6
 obtain ⟨vo, vp, vc, rfl, h3⟩ := hpv
 have hp0 := PresP.box h3 28
 have hg0 : Ext w (w.alloc (.cells #[vo, vp, vc] 28)) := World.grownBy_alloc _ _ _
 have hs0 : (w.alloc (.cells #[vo, vp, vc] 28)).heap.size = w.heap.size + 1 := by simp
 have hx0 := Ints.ext hx hg0
 obtain ⟨ax, capx, rfl, _, _⟩ := hx.shape
 have hg1 : Ext (w.alloc (.cells #[vo, vp, vc] 28)) ((w.alloc (.cells #[vo, vp, vc] 28)).alloc (.cells #[.slice ax X.length capx] 24)) := World.grownBy_alloc _ _ _
 have hl := rowsE1 hx0
 have hcon := areElements_ok P _ _ _ [X] Any Any (hp0.ext hg1) hl
 rw [hs0] at hcon
 clear hl hx
 have HH := Lib.hid (And.intro hr (And.intro hX ((trivial : True)))); clear hr hX
 go_enter Tryz.func49, Tryz.ntmps49
 go_wp2_with fail
 refine Calls.mono hcon ?_
 rintro e1 w1 ⟨v1, rfl, hgA, r1, rfl, hr1⟩
 clear hcon
 obtain rfl : r1 = true := hr1.2 (by have := HH.out; simp only [List.mem_cons, List.mem_nil_iff, or_false]; exact ⟨this.1, fun u hu => by subst hu; exact this.2.1⟩)
 clear hr1
 have hg01 := grown_trans hg1 hgA
 have HS := Lib.hid hs0; clear hs0
 generalize hw0 : (w.alloc (.cells #[vo, vp, vc] 28)) = w0 at *
 clear hw0 hg1 hgA
 have hp1 := hp0.ext hg01
 have hx1 := Ints.ext hx0 hg01
 go_wp2_with fail
 refine Calls.mono (classesOf_ok P w1 _ Any hp1) ?_
 rintro e2 w2 ⟨v2, rfl, hg2, r, rfl, hrr⟩
 have hz : clsCode P (iconsB P) = 0 := by rw [icons_eq, HH.out.1]; simp [clsCode]; omega
 have hC : Rows3O w1.heap.size w2 r (iCls P) := hrr.elim (fun h => absurd hz h.1) (fun h => h.2)
 rw [hz]
 clear hrr hz
 have hlen : (iCls P).length ≤ (ordP P).toNat := iClsTo_len P _
 have hrl : ∀ i, i < (iCls P).length → (gt (iCls P) i).length ≤ 1048576 := fun i hi => by have := iClsTo_rows G.v _ _ (gt_mem (l := iCls P) hi); omega
 have hCd := Rows3D.rows (hC.toD (by omega))
 obtain ⟨ac, capc, rfl, _, _⟩ := Sl.shape hCd
 have hx2 := Ints.ext hx1 hg2
 have HRL := Lib.hid hrl; clear hrl hC
 go_wp2_with fail
 refine Calls.mono (classNumber_ok _ _ (iCls P) X w2 _ Sx hCd hx2 HRL.out) ?_
 rintro e3 w3 ⟨v3, rfl, hg3, q, rfl, hq⟩
 have hq2 := G.find_cls HH.out.2.1 hq
 have HQ := Lib.hid hq2; clear hq2 hq hlen
 go_wp2
 go_ret2
 exact ⟨_, rfl, grown_trans hg0 (grown_trans hg01 (grown_trans hg2 hg3)), by rw [HQ.out]; try rfl⟩
end Go.Proofs.YtdcobapnlpeaaaaGreat
namespace Go.Proofs.YtdcobapnlpeaaaaGreat
open Go.RowKit
open Classical in
noncomputable def fstR (q : Nat → Prop) (n : Nat) : Int := if h : ∃ r, FstI q n r then Classical.choose h else -1
theorem fstR_eq {q : Nat → Prop} {n : Nat} {r : Int} (h : FstI q n r) : fstR q n = r := by
 have hh : ∃ r, FstI q n r := ⟨r, h⟩
 unfold fstR
 rw [dif_pos hh]
 exact (Classical.choose_spec hh).one h
theorem fstR_ok (q : Nat → Prop) (n : Nat) : FstI q n (fstR q n) := by
 obtain ⟨r, h⟩ := FstI_ex q n
 rw [fstR_eq h]; exact h
def ceQ (P : Pr) (X Y : List Int) (k : Nat) : Prop := rConj P X (elAt P k) = Y
def ceOk (P : Pr) (X Y : List Int) : Prop := rconsB P = true ∧ Vec P.orders X ∧ Vec P.orders Y
open Classical in
noncomputable def ceC (P : Pr) (X Y : List Int) : Int := if ceOk P X Y then (if fstR (ceQ P X Y) (ordP P).toNat = -1 then 4 else 0) else 1
open Classical in
noncomputable def ceL (P : Pr) (X Y : List Int) : List Int := if ceOk P X Y ∧ fstR (ceQ P X Y) (ordP P).toNat ≠ -1 then elAt P (fstR (ceQ P X Y) (ordP P).toNat) else []
theorem ce_bad {P : Pr} {X Y : List Int} (h : ¬ ceOk P X Y) : ceC P X Y = 1 ∧ ceL P X Y = [] := by
 unfold ceC ceL; rw [if_neg h, if_neg (fun hh => h hh.1)]; exact ⟨rfl, rfl⟩
theorem ce_no {P : Pr} {X Y : List Int} (h : ceOk P X Y) (hr : FstI (ceQ P X Y) (ordP P).toNat (-1)) : ceC P X Y = 4 ∧ ceL P X Y = [] := by
 unfold ceC ceL; rw [if_pos h, fstR_eq hr, if_pos rfl, if_neg (fun hh => hh.2 rfl)]; exact ⟨rfl, rfl⟩
theorem ce_yes {P : Pr} {X Y : List Int} (h : ceOk P X Y) {k : Nat} (hr : FstI (ceQ P X Y) (ordP P).toNat k) : ceC P X Y = 0 ∧ ceL P X Y = elAt P k := by
 have hne : ((k : Nat) : Int) ≠ -1 := by omega
 unfold ceC ceL; rw [if_pos h, fstR_eq hr, if_neg hne, if_pos ⟨h, hne⟩]; exact ⟨rfl, rfl⟩
theorem Grp.conj_iff {P : Pr} (G : Grp P) {x y z : List Int} (hx : Vec P.orders x) (hy : Vec P.orders y) (hz : Vec P.orders z) : rMul P x z = rMul P z y ↔ rConj P x z = y := by
 constructor
 ·intro h
  unfold rConj
  rw [h, ← G.ass (G.invV hz) hz hy, G.inv_mul hz, G.grp.el _ hy]
 ·intro h
  rw [← h]
  unfold rConj
  rw [← G.ass hz (G.invV hz) (G.mulV hx hz), G.mul_inv hz, G.grp.el _ (G.mulV hx hz)]
set_option maxRecDepth 100000 in
set_option maxHeartbeats 4000000 in
theorem iConjEl_ok (P : Pr) (w : World) (pv xv yv : Value) (X Y : List Int) (Sp Sx Sy : Nat → Prop) (hpv : PresV Sp w pv P) (hx : Ints Sx w xv X) (hy : Ints Sy w yv Y) :
  Calls Tryz.prog 47 #[pv, xv, yv] w (Ret w fun w' v => ∃ a n c, v = .tuple #[.slice a n c, .int .i64 (ceC P X Y)] ∧ Ints Any w' (.slice a n c) (ceL P X Y)) := by
 obtain ⟨vo, vp, vc, rfl, h3⟩ := hpv
 have hp0 := PresP.box h3 28
 have hg0 : Ext w (w.alloc (.cells #[vo, vp, vc] 28)) := World.grownBy_alloc _ _ _
 have hs0 : (w.alloc (.cells #[vo, vp, vc] 28)).heap.size = w.heap.size + 1 := by simp
 have hx0 := Ints.ext hx hg0
 have hy0 := Ints.ext hy hg0
 obtain ⟨ax, capx, rfl, _, _⟩ := hx.shape
 obtain ⟨ay, capy, rfl, _, _⟩ := hy.shape
 have hg1 : Ext (w.alloc (.cells #[vo, vp, vc] 28)) ((w.alloc (.cells #[vo, vp, vc] 28)).alloc (.cells #[.slice ax X.length capx, .slice ay Y.length capy] 24)) := World.grownBy_alloc _ _ _
 have hl := rowsE2 hx0 hy0
 have hcon := areElements_ok P _ _ _ [X, Y] Any Any (hp0.ext hg1) hl
 rw [hs0] at hcon
 clear hl hx hy
 go_enter Tryz.func47, Tryz.ntmps47
 go_wp2_with fail
 refine Calls.mono hcon ?_
 rintro e1 w1 ⟨v1, rfl, hgA, r1, rfl, hr1⟩
 clear hcon
 replace hr1 : r1 = true ↔ ceOk P X Y := by rw [hr1]; unfold ceOk; simp
 have hg01 := grown_trans hg1 hgA
 have HS := Lib.hid hs0; clear hs0
 generalize hw0 : w.alloc (.cells #[vo, vp, vc] 28) = w0 at *
 clear hw0 hg1 hgA
 cases r1 with
 | false =>
  obtain ⟨hc, hL⟩ := ce_bad (P := P) (X := X) (Y := Y) (fun h => by have := hr1.2 h; cases this)
  have HC := Lib.hid (And.intro hc hL); clear hc hL hr1
  go_wp2
  go_ret2
  exact ⟨_, rfl, grown_trans hg0 hg01, none, 0, 0, by rw [HC.out.1]; rfl, by rw [HC.out.2]; exact ⟨none, 0, rfl, ⟨by simp, by simp, fun _ => rfl⟩, fun i hi => by simp at hi⟩⟩
 | true =>
  have hok := hr1.1 rfl
  have G := grp_of_r hok.1
  have hP := G.v
  have hn6 := hP.n6
  have h729 : ordP P ≤ 729 := hP.le729
  have hop := hP.ordP_pos
  have hp1 := hp0.ext hg01
  have hx1 := Ints.ext hx0 hg01
  have hy1 := Ints.ext hy0 hg01
  have HC := Lib.hid hok; clear hr1 hok
  go_wp2_with fail
  refine Calls.mono (allElements_ok P hP w1 _ Any hp1) ?_
  rintro e4 w4 ⟨v4, rfl, hg4, hE⟩
  have hel : (allEl P).length = (ordP P).toNat := by simp [allEl]
  have hER : Rows2 (From w1.heap.size) w4 v4 (allEl P) := RowsD.rows (SlO.toD hE (by omega))
  obtain ⟨aE, capE, hvE, _, _⟩ := Sl.shape hER
  subst hvE
  obtain ⟨N, hN⟩ : ∃ N, N = (allEl P).length := ⟨_, rfl⟩
  rw [← hN]
  rw [← hN] at hER
  have hN7 : N ≤ 729 := by omega
  have hN8 : N ≤ 9223372036854775807 := by omega
  have HN := Lib.hid (And.intro hN (hN.trans hel)); clear hN hel hE
  go_wp2
  go_loopw [17] (fun iv wr => ∃ k : Nat, iv = .int .i64 k ∧ k ≤ N ∧ Ext w4 wr ∧ Hid (∀ j, j < k → ¬ ceQ P X Y j)) (fun iv _ => N - (intOf iv).toNat)
  case atStart => exact ⟨0, rfl, by omega, grown_refl _ _, Lib.hid (fun j hj => by omega)⟩
  case round =>
   obtain ⟨k, rfl, hk, hg, hF⟩ := hrel
   have hg1r := grown_trans hg4 hg
   by_cases hlt : k < N
   ·have hlt' : (k : Int) < N := by omega
    have hEr := Rows2.ext hER hg
    rw [HN.out.1] at hEr
    obtain ⟨bx, ox, a2, cap2, hab, _, _, hcx, hrx⟩ := Rows2.at hEr k (by rw [← HN.out.1]; exact hlt)
    subst hab
    have hge : gt (allEl P) k = elAt P k := by
     unfold allEl
     rw [gt_map _ _ _ (by rw [List.length_range]; have := HN.out.2; omega)]
     simp [gt, show k < (ordP P).toNat by have := HN.out.2; omega]
    rw [hge] at hcx hrx
    have hzV := elAt_vec hP (k : Int) (by omega)
    have HE := Lib.hid (And.intro hge HN.out.1); clear hge
    obtain ⟨z, hz⟩ : ∃ z, z = elAt P (k : Int) := ⟨_, rfl⟩
    rw [← hz] at hcx hrx hzV
    have hpr := hp1.ext hg1r
    have hxr := Ints.ext hx1 hg1r
    have hyr := Ints.ext hy1 hg1r
    have m1 := G.mulV HC.out.2.1 hzV
    have m2 := G.mulV hzV HC.out.2.2
    have t1 := G.tv_eq HC.out.2.1 hzV
    have t2 := G.tv_eq hzV HC.out.2.2
    have hcj := G.conj_iff HC.out.2.1 HC.out.2.2 hzV
    have hqk : ceQ P X Y k ↔ rMul P X z = rMul P z Y := by rw [hcj, hz]; rfl
    have HY := Lib.hid (And.intro hz (And.intro hzV (And.intro m1 (And.intro m2 (And.intro t1 (And.intro t2 hqk)))))); clear hz hzV m1 m2 t1 t2 hqk hcj hEr
    go_wp2_with fail
    clear hcx
    refine Calls.mono (multiply_ok P hP wr _ _ _ X z Any Sx _ hpr hxr hrx HC.out.2.1 HY.out.2.1) ?_
    rintro eA wA ⟨vA, rfl, hgA, hOA⟩
    rw [HY.out.2.2.2.2.1] at hOA
    have hAi := hOA.ints (by rw [HY.out.2.2.1.1]; omega)
    go_wp2_with fail
    refine Calls.mono (multiply_ok P hP wA _ _ _ z Y Any _ Sy (hpr.ext hgA) (Ints.ext hrx hgA) (Ints.ext hyr hgA) HY.out.2.1 HC.out.2.2) ?_
    rintro eB wB ⟨vB, rfl, hgB, hOB⟩
    rw [HY.out.2.2.2.2.2.1] at hOB
    have hBi := hOB.ints (by rw [HY.out.2.2.2.1.1]; omega)
    have hAB := Ints.ext hAi hgB
    go_wp2_with fail
    refine Calls.mono (sEqual_ok _ _ _ _ wB _ _ hAB hBi) ?_
    rintro eE wE ⟨vE, rfl, hgE, rfl⟩
    have hgrE := grown_trans hgA (grown_trans hgB hgE)
    clear hAi hBi hAB hOA hOB
    by_cases he : rMul P X z = rMul P z Y
    ·have hb : eqB (rMul P X z) (rMul P z Y) = true := eqB_true.2 he
     have hq := ce_yes HC.out (.inl ⟨k, rfl, by have := HN.out.2; omega, HY.out.2.2.2.2.2.2.2 he, hF.out⟩)
     have hI5 := Ints.sub (Ints.ext hrx hgrE) (S' := Any) (fun _ _ _ => trivial)
     have HQ := Lib.hid (And.intro hq hI5); clear hq hI5 he
     rw [hb]; clear hb
     go_wp2
     go_ret2
     exact ⟨_, rfl, grown_trans hg0 (grown_trans hg01 (grown_trans hg1r hgrE)), _, _, _, by rw [HQ.out.1.1]; rfl, by rw [HQ.out.1.2, ← HY.out.1]; exact HQ.out.2⟩
    ·have hb : eqB (rMul P X z) (rMul P z Y) = false := eqB_false.2 he
     have HE2 := Lib.hid he; clear he
     rw [hb]; clear hb
     go_wp2
     go_roundw
     case rel => exact ⟨k + 1, by go_num, by omega, grown_trans hg hgrE, Lib.hid (fun j hj => by
      rcases Nat.lt_succ_iff_lt_or_eq.1 hj with h | h
      ·exact hF.out j h
      ·rw [h]; exact fun hq => HE2.out (HY.out.2.2.2.2.2.2.1 hq))⟩
     case measure => simp [intOf]; omega
   ·have hke : k = N := by omega
    have hq := ce_no HC.out (.inr ⟨rfl, fun j hj => hF.out j (by have := HN.out.2; omega)⟩)
    have HQ := Lib.hid hq; clear hq
    go_wp2
    go_ret2
    exact ⟨_, rfl, grown_trans hg0 (grown_trans hg01 hg1r), none, 0, 0, by rw [HQ.out.1]; rfl, by rw [HQ.out.2]; exact ⟨none, 0, rfl, ⟨by simp, by simp, fun _ => rfl⟩, fun i hi => by simp at hi⟩⟩
set_option maxRecDepth 100000 in
set_option maxHeartbeats 4000000 in
theorem sConjEl_ok (P : Pr) (w : World) (pv xv yv : Value) (X Y : List Int) (Sp Sx Sy : Nat → Prop) (hpv : PresV Sp w pv P) (hx : Ints Sx w xv X) (hy : Ints Sy w yv Y) :
  Calls Tryz.prog 48 #[pv, xv, yv] w (Ret w fun w' v => ∃ a n c, v = .tuple #[.slice a n c, .int .i64 (ceC P X Y)] ∧ Ints Any w' (.slice a n c) (ceL P X Y)) := by
 obtain ⟨vo, vp, vc, rfl, h3⟩ := hpv
 have hp0 := PresP.box h3 28
 have hg0 : Ext w (w.alloc (.cells #[vo, vp, vc] 28)) := World.grownBy_alloc _ _ _
 have hx0 := Ints.ext hx hg0
 have hy0 := Ints.ext hy hg0
 obtain ⟨ax, capx, rfl, _, _⟩ := hx.shape
 obtain ⟨ay, capy, rfl, _, _⟩ := hy.shape
 obtain ⟨vo6, vp6, vc6, _, _, hc0, hc1, hc2, h36⟩ := hp0.at
 simp only [Nat.zero_add] at hc1 hc2
 have hbx : ∀ w', Ext (w.alloc (.cells #[vo, vp, vc] 28)) w' → w'.cell? ⟨w.heap.size, 0, none⟩ = some vo6 ∧ w'.cell? ⟨w.heap.size, 1, none⟩ = some vp6 ∧ w'.cell? ⟨w.heap.size, 2, none⟩ = some vc6 := fun w' h => ⟨h.cell hc0 (by simp), h.cell hc1 (by simp), h.cell hc2 (by simp)⟩
 have HB := Lib.hid hbx; clear hbx
 have hE := sIsEl_ok P (w.alloc (.cells #[vo, vp, vc] 28)) _ _ X Any Sx ⟨_, _, _, rfl, h36⟩ hx0
 clear hp0 hx hy
 go_enter Tryz.func48, Tryz.ntmps48
 go_wp2_with fail
 clear hc0 hc1 hc2
 generalize hw0 : w.alloc (.cells #[vo, vp, vc] 28) = w0 at *
 clear hw0
 refine Calls.mono hE ?_
 rintro e1 w1 ⟨v1, rfl, hg1, r1, rfl, hr1⟩
 clear hE
 obtain ⟨hb0, hb1, hb2⟩ := HB.out w1 hg1
 cases r1 with
 | false =>
  have hbad : ¬ ceOk P X Y := fun h => by have := hr1.2 ⟨h.1, h.2.1⟩; cases this
  obtain ⟨hc, hL⟩ := ce_bad hbad
  clear hbad
  have HC := Lib.hid (And.intro hc hL); clear hc hL hr1
  go_wp2
  go_ret2
  exact ⟨_, rfl, grown_trans hg0 hg1, none, 0, 0, by rw [HC.out.1]; rfl, by rw [HC.out.2]; exact ⟨none, 0, rfl, ⟨by simp, by simp, fun _ => rfl⟩, fun i hi => by simp at hi⟩⟩
 | true =>
  have hok := hr1.1 rfl
  have G := grp_of_r hok.1
  have hP := G.v
  have hn6 := hP.n6
  have h729 : ordP P ≤ 729 := hP.le729
  have hop := hP.ordP_pos
  have HC0 := Lib.hid hok; clear hok hr1
  go_wp2_with fail
  clear hb0 hb1 hb2
  refine Calls.mono (l10Element_ok P hP w1 _ _ Y Any Sy ⟨_, _, _, rfl, Pres3.ext h36 hg1⟩ (Ints.ext hy0 hg1)) ?_
  rintro e2 w2 ⟨v2, rfl, hg2, rfl⟩
  have hg12 := grown_trans hg1 hg2
  cases hye : expB P.orders Y with
  | false =>
   have hbad : ¬ ceOk P X Y := fun h => by have := expB_vec.2 h.2.2; rw [hye] at this; cases this
   obtain ⟨hc, hL⟩ := ce_bad hbad
   clear hbad
   have HC := Lib.hid (And.intro hc hL); clear hc hL hye
   go_wp2
   go_ret2
   exact ⟨_, rfl, grown_trans hg0 hg12, none, 0, 0, by rw [HC.out.1]; rfl, by rw [HC.out.2]; exact ⟨none, 0, rfl, ⟨by simp, by simp, fun _ => rfl⟩, fun i hi => by simp at hi⟩⟩
  | true =>
   have hok : ceOk P X Y := ⟨HC0.out.1, HC0.out.2, expB_vec.1 hye⟩
   have HC := Lib.hid hok; clear hok hye
   go_wp2
   go_loopw [8] (fun iv wr => ∃ k : Nat, iv = .int .i64 k ∧ (k : Int) ≤ ordP P ∧ Ext w2 wr ∧ Hid (∀ j, j < k → ¬ ceQ P X Y j)) (fun iv _ => (ordP P).toNat - (intOf iv).toNat)
   case atStart => exact ⟨0, rfl, by omega, grown_refl _ _, Lib.hid (fun j hj => by omega)⟩
   case round =>
    obtain ⟨k, rfl, hk, hg, hF⟩ := hrel
    have hgr := grown_trans hg12 hg
    obtain ⟨hb0, hb1, hb2⟩ := HB.out wr hgr
    go_wp2_with fail
    clear hb0 hb1 hb2
    refine Calls.mono (l10Order_ok wr _ P Any hP ⟨_, _, _, rfl, Pres3.ext h36 hgr⟩) ?_
    rintro eO wO ⟨vO, rfl, hgO, rfl⟩
    have hgrO := grown_trans hgr hgO
    by_cases hlt : (k : Int) < ordP P
    ·obtain ⟨hb0, hb1, hb2⟩ := HB.out wO hgrO
     go_wp2_with fail
     clear hb0 hb1 hb2
     refine Calls.mono (l10At_ok P hP wO _ (k : Int) Any ⟨_, _, _, rfl, Pres3.ext h36 hgrO⟩ (by omega) (by omega)) ?_
     rintro eZ wZ ⟨vZ, rfl, hgZ, hOZ⟩
     have hzV := elAt_vec hP (k : Int) (by omega)
     have hZI := hOZ.ints (by rw [hzV.1]; omega)
     obtain ⟨az, nz, cz, hvz⟩ : ∃ a n c, vZ = Value.slice a n c := by obtain ⟨a, c, e, _⟩ := hZI.shape; exact ⟨_, _, _, e⟩
     subst hvz
     have HZV := Lib.hid hzV; clear hzV hOZ
     have hgrZ := grown_trans hgrO hgZ
     obtain ⟨hb0, hb1, hb2⟩ := HB.out wZ hgrZ
     go_wp2_with fail
     clear hb0 hb1 hb2
     refine Calls.mono (l10Conj_ok P hP wZ _ _ _ X (elAt P k) Any Sx _ ⟨_, _, _, rfl, Pres3.ext h36 hgrZ⟩ (Ints.ext hx0 hgrZ) hZI HC.out.2.1 HZV.out) ?_
     rintro eC wC ⟨vC, rfl, hgC, hOC⟩
     have hCI := hOC.ints (by rw [(G.conjV HC.out.2.1 HZV.out).1]; omega)
     have hgrC := grown_trans hgrZ hgC
     go_wp2_with fail
     refine Calls.mono (l01Same_ok _ _ _ _ wC _ Sy hCI (Ints.ext hy0 hgrC)) ?_
     rintro eS wS ⟨vS, rfl, hgS, rfl⟩
     clear hOC hCI
     by_cases he : rConj P X (elAt P k) = Y
     ·have hb : eqB (rConj P X (elAt P k)) Y = true := eqB_true.2 he
      have hq := ce_yes HC.out (k := k) (.inl ⟨k, rfl, by omega, he, hF.out⟩)
      have hI5 := Ints.sub (Ints.ext hZI (grown_trans hgC hgS)) (S' := Any) (fun _ _ _ => trivial)
      have HQ := Lib.hid (And.intro hq hI5); clear hq hI5 he hZI
      rw [hb]; clear hb
      go_wp2
      go_ret2
      exact ⟨_, rfl, grown_trans hg0 (grown_trans hgrC hgS), _, _, _, by rw [HQ.out.1.1]; rfl, by rw [HQ.out.1.2]; exact HQ.out.2⟩
     ·have hb : eqB (rConj P X (elAt P k)) Y = false := eqB_false.2 he
      have HE2 := Lib.hid he; clear he
      rw [hb]; clear hb
      go_wp2
      go_roundw
      case rel => exact ⟨k + 1, by go_num, by omega, grown_trans hg (grown_trans hgO (grown_trans hgZ (grown_trans hgC hgS))), Lib.hid (fun j hj => by
       rcases Nat.lt_succ_iff_lt_or_eq.1 hj with h | h
       ·exact hF.out j h
       ·rw [h]; exact fun hq => HE2.out hq)⟩
      case measure => simp [intOf]; omega
    ·have hq := ce_no HC.out (.inr ⟨rfl, fun j hj => hF.out j (by omega)⟩)
     have HQ := Lib.hid hq; clear hq
     go_wp2
     go_ret2
     exact ⟨_, rfl, grown_trans hg0 (grown_trans hgr hgO), none, 0, 0, by rw [HQ.out.1]; rfl, by rw [HQ.out.2]; exact ⟨none, 0, rfl, ⟨by simp, by simp, fun _ => rfl⟩, fun i hi => by simp at hi⟩⟩
end Go.Proofs.YtdcobapnlpeaaaaGreat
namespace Go.Proofs.YtdcobapnlpeaaaaGreat
def cn (P : Pr) (x : List Int) : Int := gt (rCls P).1 (num P x).toNat
section
variable {P : Pr} (G : Grp P)
include G
theorem Grp.cn_at {x : List Int} (hx : Vec P.orders x) : ∃ j : Nat, cn P x = j ∧ j < (iCls P).length ∧ x ∈ gt (iCls P) j ∧ ∀ j', j' < (iCls P).length → x ∈ gt (iCls P) j' → j' = j := by
 have I := G.cls_inv (ordP P).toNat (Nat.le_refl _)
 have hb := num_bd G.v hx
 have hey : elAt P (((num P x).toNat : Nat) : Int) = x := by
  rw [show (((num P x).toNat : Nat) : Int) = num P x by omega]; exact elAt_num G.v hx
 have hd := I.done (num P x).toNat (by omega)
 rcases I.at_ (num P x).toNat (by omega) with ⟨h1, _⟩ | ⟨j, h1, h2, h3, h4⟩
 ·omega
 ·rw [hey] at h3 h4
  exact ⟨j, h1, h2, h3, h4⟩
theorem Grp.cls_ok {j : Nat} (hj : j < (iCls P).length) : ClsOk P (gt (iCls P) j) := (G.cls_inv (ordP P).toNat (Nat.le_refl _)).ok _ (gt_mem (l := iCls P) hj)
theorem Grp.cn_eq {x y : List Int} (hx : Vec P.orders x) (hy : Vec P.orders y) : cn P x = cn P y ↔ Cj P x y := by
 obtain ⟨j, h1, h2, h3, h4⟩ := G.cn_at hx
 obtain ⟨i, k1, k2, k3, k4⟩ := G.cn_at hy
 rw [h1, k1]
 have hok := G.cls_ok h2
 constructor
 ·intro h
  have e : j = i := by omega
  subst e
  exact (hok.cj x h3 y).1 k3
 ·intro h
  have := k4 j h2 ((hok.cj x h3 y).2 h)
  omega
theorem Grp.pw_conj {x g : List Int} (hx : Vec P.orders x) (hg : Vec P.orders g) (k : Nat) : pw P (rConj P x g) k = rConj P (pw P x k) g := by
 induction k with
 | zero => exact (G.conj_zeros hg).symm
 | succ k ih => rw [pw_succ, pw_succ, ih, G.conj_hom (G.pw_vec hx k) hx hg]
theorem Grp.pwZ_conj {x g : List Int} (hx : Vec P.orders x) (hg : Vec P.orders g) (k : Int) : pwZ P (rConj P x g) k = rConj P (pwZ P x k) g := by
 unfold pwZ
 split
 ·rw [← G.conj_inv hx hg, G.pw_conj (G.invV hx) hg]
 ·exact G.pw_conj hx hg _
omit G in
theorem pows_len (P : Pr) (K : Int) : (powsOf P K).length = (iCls P).length := by unfold powsOf repsOf; rw [List.length_map, List.length_map]
theorem Grp.pows_cn {x : List Int} (hx : Vec P.orders x) (K : Int) : gt (powsOf P K) (cn P x).toNat = cn P (pwZ P x K) := by
 obtain ⟨j, h1, h2, h3, _⟩ := G.cn_at hx
 rw [h1, show ((j : Nat) : Int).toNat = j by omega]
 have hok := G.cls_ok h2
 have hne : 0 < (gt (iCls P) j).length := by
  cases hl : gt (iCls P) j with
  | nil => rw [hl] at h3; cases h3
  | cons a l => simp
 have h0 : gt (gt (iCls P) j) 0 ∈ gt (iCls P) j := gt_mem hne
 have hv0 := hok.vec _ h0
 obtain ⟨g, hg, e⟩ := (hok.cj _ h0 x).1 h3
 have hr : gt (repsOf P) j = gt (gt (iCls P) j) 0 := gt_map _ _ _ h2
 have hp : gt (powsOf P K) j = cn P (pwZ P (gt (gt (iCls P) j) 0) K) := by
  unfold powsOf
  rw [gt_map _ _ _ (by unfold repsOf; rw [List.length_map]; exact h2), hr]
  rfl
 rw [hp, e, G.pwZ_conj hv0 hg]
 exact (G.cn_eq (G.pwZ_vec hv0 K) (G.conjV (G.pwZ_vec hv0 K) hg)).2 ⟨g, hg, rfl⟩
theorem Grp.ce_cases {X Y : List Int} (h : ceOk P X Y) : (ceC P X Y = 4 ∧ ¬ Cj P X Y) ∨ (ceC P X Y = 0 ∧ ∃ k : Nat, (k : Int) < ordP P ∧ ceL P X Y = elAt P k ∧ rConj P X (elAt P k) = Y) := by
 have hr := fstR_ok (ceQ P X Y) (ordP P).toNat
 rcases hr with ⟨k, e, hk, hq, hm⟩ | ⟨e, hm⟩
 ·obtain ⟨e1, e2⟩ := ce_yes h (k := k) (.inl ⟨k, rfl, hk, hq, hm⟩)
  exact .inr ⟨e1, k, by omega, e2, hq⟩
 ·refine .inl ⟨(ce_no h (.inr ⟨rfl, hm⟩)).1, ?_⟩
  rintro ⟨g, hg, hy⟩
  have hb := num_bd G.v hg
  refine hm (num P g).toNat (by omega) ?_
  unfold ceQ
  rw [show (((num P g).toNat : Nat) : Int) = num P g by omega, elAt_num G.v hg, hy]
end
end Go.Proofs.YtdcobapnlpeaaaaGreat
namespace Go.Proofs.YtdcobapnlpeaaaaGreat
open Go.RowKit
theorem u64_bd (z : Int) : 0 ≤ IntKind.u64.wrap z ∧ IntKind.u64.wrap z < 18446744073709551616 := by
 have h : IntKind.u64.wrap z = z % 18446744073709551616 := by simp [IntKind.wrap, IntKind.signed, IntKind.bits]
 rw [h]
 exact ⟨Int.emod_nonneg _ (by decide), Int.emod_lt_of_pos _ (by decide)⟩
theorem below_bits (h : Int) (h0 : 0 ≤ h) (h1 : h < 18446744073709551616) : ∃ x : Int, 0 ≤ x ∧ x < 16777216 ∧ bits .and .u64 (h / 8589934592) 16777215 = x := by
 obtain ⟨n, rfl⟩ : ∃ n : Nat, h = n := ⟨h.toNat, by omega⟩
 have hq : n / 8589934592 < 2 ^ 64 := by omega
 have e := u64_and_nat (n / 8589934592) 16777215 hq (by decide)
 refine ⟨((n / 8589934592 &&& 16777215 : Nat) : Int), by omega, ?_, ?_⟩
 ·have := Nat.and_lt_two_pow (n := 24) (n / 8589934592) (y := 16777215) (by decide)
  have h2 : (2 : Nat) ^ 24 = 16777216 := by decide
  omega
 ·rw [← e]; rfl
end Go.Proofs.YtdcobapnlpeaaaaGreat
namespace Go.Proofs.YtdcobapnlpeaaaaGreat
open Go.RowKit
def DiceS (S : Nat → Prop) (w : World) (db : Nat) : Prop := ∃ (cv : Value) (i : Nat) (h : Int) (bs : List Int), Box3 w db cv (.int .i64 i) (.int .u64 h) ∧ Bytes S w cv bs ∧ i ≤ bs.length ∧ bs.length ≤ 4096 ∧ (∀ k, S k → k ≠ db) ∧ 0 ≤ h ∧ h < 18446744073709551616
set_option maxRecDepth 100000 in
set_option maxHeartbeats 8000000 in
theorem rollS_ok (w : World) (cv : Value) (bs : List Int) (S : Nat → Prop) (seed : Int) (hbl : bs.length ≤ 4096) (hb : Bytes S w cv bs) :
  Calls Tryz.prog 51 #[cv, .int .u64 seed] w (Ret w fun w' v => ∃ db, v = .pointer (some ⟨db, 0, none⟩) ∧ w.heap.size ≤ db ∧ DiceS (fun k => S k ∧ k < w.heap.size) w' db) := by
 obtain ⟨a, cap, rfl, _, hlen⟩ := Sl.shape hb
 obtain ⟨h0, hh0⟩ : ∃ h0, h0 = IntKind.u64.wrap (IntKind.u64.wrap (seed * 7607) + (bs.length : Nat)) := ⟨_, rfl⟩
 have hb0 := u64_bd (IntKind.u64.wrap (seed * 7607) + (bs.length : Nat))
 rw [← hh0] at hb0
 have hbA := Box3.made w 138 (.slice a bs.length cap) (.int .i64 0) (.int .u64 h0)
 have hgA : Ext w (w.alloc (.cells #[.slice a bs.length cap, .int .i64 0, .int .u64 h0] 138)) := World.grownBy_alloc _ _ _
 go_enter Tryz.func51, Tryz.ntmps51
 go_wp2_with fail
 rw [← hh0]
 have HH := Lib.hid hh0; clear hh0
 generalize w.alloc (.cells #[.slice a bs.length cap, .int .i64 0, .int .u64 h0] 138) = w0 at *
 go_loopw [6] (fun iv wr => ∃ (i : Nat) (h : Int), iv = .int .i64 i ∧ i ≤ bs.length ∧ (0 ≤ h ∧ h < 18446744073709551616) ∧ Ext w wr ∧ Box3 wr w.heap.size (.slice a bs.length cap) (.int .i64 0) (.int .u64 h)) (fun iv _ => bs.length - (intOf iv).toNat)
 case atStart => exact ⟨0, h0, rfl, by omega, hb0, hgA, hbA⟩
 case round =>
  clear hbA hgA hb0
  obtain ⟨i, h, rfl, hi, hhb, hg, hB⟩ := hrel
  by_cases hlt : i < bs.length
  ·obtain ⟨b, off, rfl, hbS, hbl2, hcb, hx0, hx1⟩ := Bytes.at hb i hlt
   have hcr := hg.cell hcb (by simp)
   generalize gt bs i = x at hcb hcr hx0 hx1
   have hli : (i : Int) < (bs.length : Nat) := by omega
   obtain ⟨s2, hs2⟩ : ∃ s2, s2 = IntKind.u64.wrap (IntKind.u64.wrap (IntKind.u64.wrap (h * 1099511628211) + x) + 5) := ⟨_, rfl⟩
   have hs2b := u64_bd (IntKind.u64.wrap (IntKind.u64.wrap (h * 1099511628211) + x) + 5)
   rw [← hs2] at hs2b
   have hBs := (hB.put (.int .u64 s2)).2.2
   have hgs := grown_set wr w.heap.size 2 (.int .u64 s2)
   have hgn : Ext w (wr.setCell ⟨w.heap.size, 2, none⟩ (.int .u64 s2)) := grown_own hg hgs (fun j hj hlt => by have := Option.some.inj hj; omega)
   have hBd := hBs.ext (grown_drew (wr.setCell ⟨w.heap.size, 2, none⟩ (.int .u64 s2)) none)
   have hgd := grown_trans hgn (grown_drew (wr.setCell ⟨w.heap.size, 2, none⟩ (.int .u64 s2)) none)
   have hw0 : IntKind.u64.wrap x = x := IntWalk.u64_in _ (by omega)
   obtain ⟨h0', h1, h2, h3, h4⟩ := id hB
   have c0 : wr.drew.cell? ⟨w.heap.size, 2, none⟩ = some (.int .u64 h) := h3
   have c1 : wr.drew.cell? ⟨b, off + i, none⟩ = some (.int .u8 x) := hcr
   have c2 : w.heap.size < wr.drew.heap.size := h0'
   have c3 := h4
   have hs2' := hs2.symm
   have HQ := Lib.hid (And.intro hgd (And.intro hBd (And.intro hs2b hb))); clear hgd hBd hs2 hs2b hb hgn hgs hBs hB hg h0' h1 h2 h3 hcb hcr
   go_wp2
   go_still_tail 15, (by kernel_rfl)
   change wpList _ _ _ _ _ wr.drew
   go_wp2
   go_roundw
   case rel => exact ⟨i + 1, s2, by go_num, by omega, HQ.out.2.2.1, HQ.out.1, HQ.out.2.1⟩
   case measure => simp [intOf]; omega
  ·have hli : ¬ (i : Int) < (bs.length : Nat) := by omega
   have HQ := Lib.hid (And.intro hg hB); clear hg hB
   go_wp2
   go_ret
   exact ⟨_, rfl, HQ.out.1, w.heap.size, rfl, Nat.le_refl _, _, 0, h, bs, HQ.out.2, Bytes.mono hb (fun k hS hlt => ⟨⟨hS, hlt⟩, Nat.lt_of_lt_of_le hlt HQ.out.1.size, HQ.out.1.block k hlt (by simp)⟩), by omega, hbl, fun k hk e => by have := hk.2; omega, hhb⟩
set_option maxRecDepth 100000 in
set_option maxHeartbeats 4000000 in
theorem belowS_ok (S : Nat → Prop) (w : World) (db : Nat) (n : Int) (hd : DiceS S w db) (hn : 1 ≤ n) (hn2 : n ≤ 1000000000) :
  Calls Tryz.prog 52 #[.pointer (some ⟨db, 0, none⟩), .int .i64 n] w (Mut w (some db) fun w' v => ∃ x : Int, v = .int .i64 x ∧ 0 ≤ x ∧ x < n ∧ DiceS S w' db) := by
 obtain ⟨cv, pos, h, bs, hB, hby, hpos, hbl, hdB, hh0, hh1⟩ := hd
 obtain ⟨a, cap, rfl, _, hlen⟩ := hby.shape
 obtain ⟨s2, hs2⟩ : ∃ s2, s2 = IntKind.u64.wrap (IntKind.u64.wrap (h * 6364136223846793005) + 1442695040888963407) := ⟨_, rfl⟩
 have hs2b := u64_bd (IntKind.u64.wrap (h * 6364136223846793005) + 1442695040888963407)
 rw [← hs2] at hs2b
 obtain ⟨y, hy0, hy1, hand⟩ := below_bits s2 hs2b.1 hs2b.2
 have hB1 := (hB.put (.int .u64 s2)).2.2
 obtain ⟨h0, h1, h2, h3, h4⟩ := id hB
 have hs2' := hs2.symm
 clear hs2
 go_enter Tryz.func52, Tryz.ntmps52
 have hg1 : w.grownBy (w.setCell ⟨db, 2, none⟩ (.int .u64 s2)) (some db) := grown_set _ _ _ _
 have hby1 : Bytes S (w.setCell ⟨db, 2, none⟩ (.int .u64 s2)) (.slice a bs.length cap) bs := Bytes.mono hby (frame_of hg1 (fun k hk _ => ⟨hk, fun e => hdB k hk (by cases e; rfl)⟩))
 have HB1 := Lib.hid (And.intro hB1 (And.intro hg1 hby1)); clear hB1 hB hby hg1 hby1
 go_wp2
 clear h0 h1 h2 h3 h4 hs2' hand
 obtain ⟨hB1, hg1, hby1⟩ := HB1.out
 clear HB1
 generalize w.setCell ⟨db, 2, none⟩ (.int .u64 s2) = w1 at *
 obtain ⟨h0, h1, h2, h3, h4⟩ := id hB1
 have HG := Lib.hid (And.intro hB1 (And.intro hg1 hby1)); clear hB1 hg1 hby1
 by_cases hp : pos < bs.length
 ·obtain ⟨b, off, rfl, hbs, hbl2, hcb, hx0, hx1⟩ := Bytes.at HG.out.2.2 pos hp
  obtain ⟨x, hx⟩ : ∃ x, x = gt bs pos := ⟨_, rfl⟩
  rw [← hx] at hcb hx0 hx1
  have HX := Lib.hid hx; clear hx
  have hpi : (pos : Int) < bs.length := by omega
  have hp0 : (0 : Int) ≤ pos := by omega
  have hqw : IntKind.i64.wrap (y + x) = y + x := IntWalk.i64_in _ (by omega)
  go_quiet (fail)
  go_wp2
  have hq : Ext w1 (w1.drewN nq) := grown_drewN _ _ _
  have hcb' := hq.cell hcb (by simp)
  have h0' : db < (w1.drewN nq).heap.size := Nat.lt_of_lt_of_le h0 hq.size
  have hG2 := And.intro (HG.out.1.ext hq) (And.intro (grown_trans HG.out.2.1 (grown_of_ext (some db) hq)) (Bytes.ext HG.out.2.2 hq))
  have HG := Lib.hid hG2; clear hG2 hq hcb h0 h1 h2 h3 h4
  obtain ⟨h1, h2, h3, h4⟩ := HG.out.1.2
  generalize w1.drewN nq = w2 at *
  go_quiet (fail)
  have hq : Ext w2 (w2.drewN nq) := grown_drewN _ _ _
  have h0 : db < (w2.drewN nq).heap.size := Nat.lt_of_lt_of_le h0' hq.size
  have hG2 := And.intro (HG.out.1.ext hq) (And.intro (grown_trans HG.out.2.1 (grown_of_ext (some db) hq)) (Bytes.ext HG.out.2.2 hq))
  have HG := Lib.hid hG2; clear hG2 hq hcb' h0' h1 h2 h3 h4
  obtain ⟨h1, h2, h3, h4⟩ := HG.out.1.2
  generalize w2.drewN nq = w3 at *
  have hB4 := (HG.out.1.put (.int .i64 ((pos : Int) + 1))).2.1
  have hg4 : w3.grownBy (w3.setCell ⟨db, 1, none⟩ (.int .i64 ((pos : Int) + 1))) (some db) := grown_set _ _ _ _
  have hby4 : Bytes S (w3.setCell ⟨db, 1, none⟩ (.int .i64 ((pos : Int) + 1))) (.slice (some ⟨b, off, none⟩) bs.length cap) bs := Bytes.mono HG.out.2.2 (frame_of hg4 (fun k hk _ => ⟨hk, fun e => hdB k hk (by cases e; rfl)⟩))
  have hm : 0 ≤ (y + x) % n ∧ (y + x) % n < n := ⟨Int.emod_nonneg _ (by omega), Int.emod_lt_of_pos _ (by omega)⟩
  have HB4 := Lib.hid (And.intro hB4 (And.intro (grown_trans HG.out.2.1 hg4) (And.intro hby4 hm))); clear hB4 hg4 hby4 HG hqw hm
  have hpw : IntKind.i64.wrap ((pos : Int) + 1) = (pos : Int) + 1 := IntWalk.i64_in _ (by omega)
  have hn0 : n ≠ 0 := by omega
  go_wp2
  go_ret
  exact ⟨_, rfl, HB4.out.2.1, _, rfl, HB4.out.2.2.2.1, HB4.out.2.2.2.2, _, pos + 1, s2, bs, HB4.out.1, HB4.out.2.2.1, by omega, hbl, hdB, hs2b⟩
 ·have hpi : ¬ (pos : Int) < bs.length := by omega
  have hn0 : n ≠ 0 := by omega
  go_quiet (fail)
  have hq : Ext w1 (w1.drewN nq) := grown_drewN _ _ _
  have hm : 0 ≤ y % n ∧ y % n < n := ⟨Int.emod_nonneg _ (by omega), Int.emod_lt_of_pos _ (by omega)⟩
  have HM := Lib.hid hm; clear hm
  go_wp2
  go_ret
  exact ⟨_, rfl, grown_trans HG.out.2.1 (grown_of_ext _ hq), _, rfl, HM.out.1, HM.out.2, _, pos, s2, bs, HG.out.1.ext hq, Bytes.ext HG.out.2.2 hq, hpos, hbl, hdB, hs2b⟩
end Go.Proofs.YtdcobapnlpeaaaaGreat
namespace Go.Proofs.YtdcobapnlpeaaaaGreat
open Go.Proofs Go.RowKit
theorem iCls_ne {P : Pr} (G : Grp P) : ∀ C ∈ iCls P, 0 < C.length := by
 intro C hC
 have : ∀ k, k ≤ (ordP P).toNat → ∀ C ∈ iClsTo P k, 0 < C.length := by
  intro k
  induction k with
  | zero => intro _ C h; cases h
  | succ k ih =>
   intro hk C h
   rw [iClsTo] at h
   split at h
   ·exact ih (by omega) C h
   ·rcases List.mem_append.1 h with h1 | h1
    ·exact ih (by omega) C h1
    ·rw [List.mem_singleton.1 h1]
     have hx := elAt_vec G.v (k : Int) (by omega)
     have := (G.sortL_ok hx).2 _ |>.2 (G.Cj_refl hx)
     exact List.length_pos_of_mem this
 exact this _ (Nat.le_refl _) C hC
end Go.Proofs.YtdcobapnlpeaaaaGreat
namespace Go.Proofs.YtdcobapnlpeaaaaGreat
open Go.RowKit
open Classical in
noncomputable def powCode (P : Pr) (k : Int) (ok : Bool) : Int := if ok then (if inB k (-1000000) 1000000 then (if ordP P > 128 then 3 else 0) else 2) else 1
end Go.Proofs.YtdcobapnlpeaaaaGreat
namespace Go.Proofs.YtdcobapnlpeaaaaGreat
open Go.Proofs Go.RowKit
open Classical in
set_option maxRecDepth 100000 in
set_option maxHeartbeats 8000000 in
theorem iClassPowers_ok (P : Pr) (K : Int) (w : World) (pv : Value) (Sp : Nat → Prop) (hpv : PresV Sp w pv P) :
  Calls Tryz.prog 53 #[pv, .int .i64 K] w (Ret w fun w' v => ∃ r, v = .tuple #[r, .int .i64 (powCode P K (iconsB P))] ∧ ((powCode P K (iconsB P) ≠ 0 ∧ r = .slice none 0 0) ∨ (powCode P K (iconsB P) = 0 ∧ Own w.heap.size w' r (powsOf P K)))) := by
 obtain ⟨vo, vp, vc, rfl, h3⟩ := hpv
 have hp0 := PresP.box h3 28
 have hg0 : Ext w (w.alloc (.cells #[vo, vp, vc] 28)) := World.grownBy_alloc _ _ _
 go_enter Tryz.func53, Tryz.ntmps53
 go_wp2_with fail
 refine Calls.mono (isConsistent_ok P _ _ _ ⟨_, _, _, rfl, Pres3.ext h3 (World.grownBy_alloc _ _ _)⟩) ?_
 rintro eA wA ⟨vA, rfl, hgA, rfl⟩
 have hgw : Ext w wA := grown_trans hg0 hgA
 have hpA := hp0.ext hgA
 cases hr : iconsB P with
 | false =>
  have hz : powCode P K (iconsB P) = 1 := by rw [hr]; simp [powCode]
  have HZ := Lib.hid hz; clear hz
  go_wp2
  exact bodyPost_ret (v := .tuple #[.slice none 0 0, .int .i64 1]) (by simp [results, Tryz.results53, go_sem]) rfl ⟨_, rfl, hgw, _, by rw [HZ.out], .inl ⟨by rw [HZ.out]; decide, rfl⟩⟩
 | true =>
  have G : Grp P := grp_of_r (by rw [← icons_eq P]; exact hr)
  have hP := G.v
  have HR := Lib.hid hr; clear hr
  go_wp2_with fail
  refine Calls.mono (inside_ok K (-1000000) 1000000 wA) ?_
  rintro eI wI ⟨rfl, rfl⟩
  cases hi : inB K (-1000000) 1000000 with
  | false =>
   have hz : powCode P K (iconsB P) = 2 := by rw [HR.out]; simp [powCode, hi]
   have HZ := Lib.hid hz; clear hz
   go_wp2
   exact bodyPost_ret (v := .tuple #[.slice none 0 0, .int .i64 2]) (by simp [results, Tryz.results53, go_sem]) rfl ⟨_, rfl, hgw, _, by rw [HZ.out], .inl ⟨by rw [HZ.out]; decide, rfl⟩⟩
  | true =>
   have hK : -1000000 ≤ K ∧ K ≤ 1000000 := by simpa [inB] using hi
   go_wp2_with fail
   refine Calls.mono (classesOf_ok P _ _ _ hpA) ?_
   rintro eB wB ⟨vB, rfl, hgB, r, rfl, hrr⟩
   have hgwB := grown_trans hgw hgB
   have hpB := hpA.ext hgB
   rcases hrr with ⟨hz, rfl⟩ | ⟨hz, hC⟩
   ·have hz' : (clsCode P (iconsB P) != 0) = true := by simpa using hz
    have hz2 : powCode P K (iconsB P) = clsCode P (iconsB P) := by
     rw [HR.out]; simp [powCode, clsCode, hi]
    have HZ := Lib.hid (And.intro hz2 hz); clear hz2 hz
    go_wp2
    exact bodyPost_ret (v := .tuple #[.slice none 0 0, .int .i64 (clsCode P (iconsB P))]) (by simp [results, Tryz.results53, go_sem]) rfl ⟨_, rfl, hgwB, _, by rw [HZ.out.1], .inl ⟨by rw [HZ.out.1]; exact HZ.out.2, rfl⟩⟩
   ·have hlen : (iCls P).length ≤ (ordP P).toNat := iClsTo_len P _
    have h128 : ordP P ≤ 128 := by
     have h1 := hz
     rw [HR.out] at h1
     simp only [clsCode, if_true] at h1
     split at h1 <;> omega
    have hz2 : powCode P K (iconsB P) = 0 := by
     rw [HR.out]; simp [powCode, hi]; omega
    have hne := iCls_ne G
    have hrl : ∀ i, i < (iCls P).length → (gt (iCls P) i).length ≤ 1048576 := fun i hi => by have := iClsTo_rows hP _ _ (gt_mem (l := iCls P) hi); omega
    have hCd := Rows3D.rows (hC.toD (by omega))
    obtain ⟨ac, capc, rfl, _, _⟩ := Sl.shape hCd
    have HZ := Lib.hid (And.intro hz2 (And.intro hne hrl))
    rw [hz]
    clear hz hz2 hne hrl hC
    go_wp2
    go_loopw [8, 26] (fun v kv wr => ∃ k : Nat, kv = .int .i64 k ∧ k ≤ (iCls P).length ∧ Ext wB wr ∧ Own wB.heap.size wr v ((powsOf P K).take k)) (fun _ kv _ => (iCls P).length - (intOf kv).toNat)
    case atStart => exact ⟨0, rfl, by omega, Ext.refl _, World.ownsRow_nil _ _ _ _⟩
    case round =>
     obtain ⟨k, rfl, hk, hg, hO⟩ := hrel
     by_cases hlt : k < (iCls P).length
     ·have hlt' : (k : Int) < (iCls P).length := by omega
      have hn0 := HZ.out.2.1 _ (gt_mem hlt)
      obtain ⟨b3, o3, a3, c3, hab, _, _, hc3, hi3⟩ := Rows3.at hCd k hlt
      cases hab
      obtain ⟨b2, o2, a2, c2, hab, _, _, hc2, hi2⟩ := Rows2.at hi3 0 hn0
      subst hab
      have hn0' : (0 : Int) < ((gt (iCls P) k).length : Int) := by omega
      have hc3w := hg.cell hc3 (by simp)
      have e1 : ∀ w', Ext wB w' → w'.cell? ⟨b2, o2, none⟩ = some (.slice a2 (gt (gt (iCls P) k) 0).length c2) := fun w' h => h.cell (by simpa using hc2) (by simp)
      have hxv : Vec P.orders (gt (gt (iCls P) k) 0) := ((G.cls_inv _ (Nat.le_refl _)).ok _ (gt_mem (l := iCls P) hlt)).vec _ (gt_mem hn0)
      have hpl : (powsOf P K).length = (iCls P).length := by unfold powsOf repsOf; rw [List.length_map, List.length_map]
      have hpk : gt (powsOf P K) k = gt (rCls P).1 (num P (pwZ P (gt (gt (iCls P) k) 0) K)).toNat := by
       have h1 : gt (repsOf P) k = gt (gt (iCls P) k) 0 := gt_map _ _ _ hlt
       unfold powsOf
       rw [gt_map _ _ _ (by unfold repsOf; rw [List.length_map]; exact hlt), h1]
      have hstep : (powsOf P K).take (k + 1) = (powsOf P K).take k ++ [gt (rCls P).1 (num P (pwZ P (gt (gt (iCls P) k) 0) K)).toNat] := by
       rw [take_succ_gt _ k (by omega), hpk]
      have hpv := G.pwZ_vec hxv K
      have hpvl : (pwZ P (gt (gt (iCls P) k) 0) K).length ≤ 6 := by rw [hpv.1]; exact hP.n6
      have HS := Lib.hid (And.intro hstep (And.intro hxv (And.intro hpv hpl))); clear hstep hxv hpv hpk hpl hc3 hc2
      have hpr := hpB.ext hg
      have hCr := Rows3.ext hCd hg
      have hxr := hi2.ext hg
      clear hi3
      go_wp2
      go_region_held3 (fun w' => Ext wB w') (first | exact grown_trans hg (grown_drew _ _) | assumption | exact grown_trans hgZB (World.grownBy_alloc _ _ _))
       (first
        | (go_at_call 102; refine Calls.mono (Calls.rel2 (w0 := wr) (grown_drew _ _) (orderOfElement_ok P G _ _ _ _ _ _ (hpr.ext (grown_drew _ _)) (hxr.ext (grown_drew _ _)) HS.out.2.1)) ?_; rintro eX wX ⟨vX, rfl, hgX, hgX2, hsX, m, rfl, hm1, hm2, hm3⟩; have hgXB := grown_trans hg hgX)
        | (go_at_call 157; refine Calls.mono (residue_ok K m _ (by omega)) ?_; rintro eR wR ⟨rfl, rfl⟩; have hres := G.pw_residue HS.out.2.1 K m (by omega) hm3; have hrb := Int.emod_lt_of_pos K (show 0 < m by omega); have HRS := Lib.hid hres; clear hres)
        | (go_at_call 101; refine Calls.mono (Calls.rel2 (w0 := wr) hgX (power_ok P hP _ _ _ _ (K % m) _ _ (hpr.ext hgX) (hxr.ext hgX) HS.out.2.1 (by omega))) ?_; rintro eY wY ⟨vY, rfl, hgY, hgY2, hsY, hOY⟩; have hgYB := grown_trans hg hgY; rw [G.iPow_eq HS.out.2.1] at hOY; have hOY2 := (show Own _ _ _ (pwZ P (gt (gt (iCls P) k) 0) K) by rw [← HRS.out]; exact hOY); have hYi := hOY2.ints (by omega))
        | (go_at_call 155; refine Calls.mono (Calls.rel2 (w0 := wr) hgY (classNumber_ok _ _ (iCls P) _ _ _ Any (Rows3.ext hCr hgY) hYi HZ.out.2.2)) ?_; rintro eZ wZ ⟨vZ, rfl, hgZ, hgZ2, hsZ, q, rfl, hq⟩; have hgZB := grown_trans hg hgZ; have hq2 := G.find_cls HS.out.2.2.1 hq; have HQ := Lib.hid hq2; clear hq2 hq)
        | (refine step_app_int rfl _ _ rfl wB.heap.size _ _ q rfl wZ (hO.ext0 hgZ) rfl rfl (by rw [List.length_take]; have := HS.out.2.2.2; omega) (by have := hg.size; have := hgZ.size; omega) ?_; intro v5 w5 hO5 hg5; have hgB5 := grown_own hgZB hg5 (fun j hj hlt => by have := (hO.lt j hj).1; omega)))
      clear e1
      rw [HQ.out, ← HS.out.1] at hO5
      go_wp2
      go_roundw
      case rel => exact ⟨k + 1, by go_num, by omega, hgB5, hO5⟩
      case measure => simp [intOf]; omega
     ·have hke : k = (iCls P).length := by omega
      subst hke
      have hpl : (powsOf P K).length = (iCls P).length := by unfold powsOf repsOf; rw [List.length_map, List.length_map]
      have htk : (powsOf P K).take (iCls P).length = powsOf P K := List.take_of_length_le (by omega)
      rw [htk] at hO
      clear htk
      obtain ⟨az, caps, hvz, _, _⟩ := (hO.ints (by omega)).shape
      subst hvz
      have hfin := hO.weak hgwB.size
      clear hO hpl
      go_wp2
      exact bodyPost_ret (v := .tuple #[.slice az (powsOf P K).length caps, .int .i64 0]) (by simp [results, Tryz.results53, go_sem]) rfl ⟨_, rfl, grown_trans hgwB hg, _, by rw [HZ.out.1], .inr ⟨HZ.out.1, hfin⟩⟩
end Go.Proofs.YtdcobapnlpeaaaaGreat
namespace Go.Proofs.YtdcobapnlpeaaaaGreat
open Go.RowKit
attribute [local go_sem ↓] Go.wp_at_zero Go.wp_at_succ
set_option maxRecDepth 100000 in
set_option maxHeartbeats 8000000 in
theorem lawCj_ok (w : World) (cv : Value) (bs : List Int) (S : Nat → Prop) (hb : Bytes S w cv bs) :
  Calls Tryz.prog 7 #[cv] w (Ret w fun _ v => v = .bool true) := by
 obtain ⟨ca, cc, rfl, _, _⟩ := Sl.shape hb
 go_enter Tryz.func7, Tryz.ntmps7
 go_wp2_with fail
 refine Calls.mono (big_ok w _ bs S hb) ?_
 rintro _ _ ⟨rfl, rfl⟩
 by_cases hbg : 4096 < bs.length
 ·have hd : decide (4096 < bs.length) = true := by simp [hbg]
  rw [hd]
  go_wp2
  go_ret
  exact ⟨_, rfl, grown_refl _ _, rfl⟩
 have hbl : bs.length ≤ 4096 := by omega
 have hd : decide (4096 < bs.length) = false := by simp [hbg]
 rw [hd]; clear hd hbg
 go_wp2_with fail
 refine Calls.mono (DrawConjugatingElement_ok w _ bs S hb) ?_
 rintro e1 w1 ⟨v1, rfl, hg1, vo, vp, vc, x0v, x1v, P, rfl, hPl, hP, hC, ⟨X0, _, hX0⟩, ⟨X1, _, hX1⟩⟩
 obtain ⟨a1, n1, c1, hy1⟩ : ∃ a n c, vo = .slice a n c := by obtain ⟨a, c, e, _⟩ := hP.o.shape; exact ⟨_, _, _, e⟩
 obtain ⟨a2, n2, c2, hy2⟩ : ∃ a n c, vp = .slice a n c := by obtain ⟨a, c, e, _⟩ := Sl.shape hP.p; exact ⟨_, _, _, e⟩
 obtain ⟨a3, n3, c3, hy3⟩ : ∃ a n c, vc = .slice a n c := by obtain ⟨a, c, e, _⟩ := Sl.shape hP.c; exact ⟨_, _, _, e⟩
 subst hy1 hy2 hy3
 obtain ⟨x0a, x0n, x0c, hrx0⟩ : ∃ a n c, x0v = .slice a n c := by obtain ⟨a, c, e, _⟩ := Sl.shape hX0; exact ⟨_, _, _, e⟩
 subst hrx0
 obtain ⟨x1a, x1n, x1c, hrx1⟩ : ∃ a n c, x1v = .slice a n c := by obtain ⟨a, c, e, _⟩ := Sl.shape hX1; exact ⟨_, _, _, e⟩
 subst hrx1
 have hgX : Ext w1 (w1.alloc (.cells #[.slice a1 n1 c1, .slice a2 n2 c2, .slice a3 n3 c3] 28)) := World.grownBy_alloc _ _ _
 have hX := Box3.made w1 28 (.slice a1 n1 c1) (.slice a2 n2 c2) (.slice a3 n3 c3)
 have hPX := hP.ext hgX
 have hX0X := Ints.ext hX0 hgX
 have hX1X := Ints.ext hX1 hgX
 have hgw := grown_trans hg1 hgX
 have hbX := Bytes.ext hb hgw
 have HA0 := Lib.hid (And.intro hPX (And.intro hX0X (And.intro hX1X (And.intro hgw hbX)))); clear hPX hX0X hX1X hgw hbX hgX hP hX0 hX1 hg1 hb
 obtain ⟨pb, hpb⟩ : ∃ pb, pb = w1.heap.size := ⟨_, rfl⟩
 rw [← hpb] at hX
 have HP := Lib.hid hpb; clear hpb
 go_wp2_with fail
 rw [← HP.out]
 generalize w1.alloc (.cells #[.slice a1 n1 c1, .slice a2 n2 c2, .slice a3 n3 c3] 28) = w2 at *
 clear HP
 have hall : ∀ w', Ext w2 w' → Box3 w' pb (.slice a1 n1 c1) (.slice a2 n2 c2) (.slice a3 n3 c3) ∧ PresV (From w.heap.size) w' (.agg #[.slice a1 n1 c1, .slice a2 n2 c2, .slice a3 n3 c3]) P ∧ Ints (From w.heap.size) w' (.slice x0a x0n x0c) X0 ∧ Ints (From w.heap.size) w' (.slice x1a x1n x1c) X1 ∧ Bytes S w' (.slice ca bs.length cc) bs :=
  fun w' h => ⟨hX.ext h, ⟨_, _, _, rfl, HA0.out.1.ext h⟩, Ints.ext HA0.out.2.1 h, Ints.ext HA0.out.2.2.1 h, Bytes.ext HA0.out.2.2.2.2 h⟩
 have HA := Lib.hid hall; clear hall hX
 have hgw := grown_refl w2 none
 obtain ⟨b0_, b1_, b2_, b3_, _⟩ := id (HA.out w2 hgw).1
 go_wp2_with fail
 clear b0_ b1_ b2_ b3_
 refine Calls.mono (iConjEl_ok P w2 _ _ _ X0 X1 _ _ _ (HA.out w2 hgw).2.1 (HA.out w2 hgw).2.2.1 (HA.out w2 hgw).2.2.2.1) ?_
 rintro e3 w3 ⟨v3, rfl, hg_, za, zn, zc, rfl, hZ_⟩
 replace hgw := grown_trans hgw hg_
 have hZr : Ints Any w3 (.slice za zn zc) (ceL P X0 X1) := hZ_
 have hZx : ∀ w', Ext w3 w' → Ints Any w' (.slice za zn zc) (ceL P X0 X1) := fun w' h => Ints.ext hZr h
 have HZ := Lib.hid hZx; clear hZr hZx
 have hgZ := grown_refl w3 none
 clear hZ_
 clear hg_
 obtain ⟨b0_, b1_, b2_, b3_, _⟩ := id (HA.out w3 hgw).1
 go_wp2_with fail
 clear b0_ b1_ b2_ b3_
 refine Calls.mono (sConjEl_ok P w3 _ _ _ X0 X1 _ _ _ (HA.out w3 hgw).2.1 (HA.out w3 hgw).2.2.1 (HA.out w3 hgw).2.2.2.1) ?_
 rintro e4 w4 ⟨v4, rfl, hg_, ta, tn, tc, rfl, hT_⟩
 replace hgw := grown_trans hgw hg_
 replace hgZ := grown_trans hgZ hg_
 have hTr : Ints Any w4 (.slice ta tn tc) (ceL P X0 X1) := hT_
 have hTx : ∀ w', Ext w4 w' → Ints Any w' (.slice ta tn tc) (ceL P X0 X1) := fun w' h => Ints.ext hTr h
 have HT := Lib.hid hTx; clear hTr hTx
 have hgT := grown_refl w4 none
 clear hT_
 clear hg_
 go_wp2_with fail
 refine Calls.mono (likeInts_ok _ _ (ceL P X0 X1) (ceL P X0 X1) w4 Any Any (HZ.out w4 hgZ) (HT.out w4 hgT)) ?_
 rintro e5 w5 ⟨v5, rfl, hg_, rfl⟩
 replace hgw := grown_trans hgw hg_
 replace hgZ := grown_trans hgZ hg_
 replace hgT := grown_trans hgT hg_
 rw [show eqB (ceL P X0 X1) (ceL P X0 X1) = true from eqB_true.2 rfl]
 clear HT hgT
 clear hg_
 by_cases h1 : ceOk P X0 X1
 case neg =>
  rw [(ce_bad h1).1]
  go_wp2
  go_ret
  exact ⟨_, rfl, grown_trans HA0.out.2.2.2.1 hgw, rfl⟩
 have hr := h1.1
 have hX := h1.2.1
 have hY := h1.2.2
 have G := grp_of_r hr
 have hn6 := G.v.n6
 have h128 : ordP P ≤ 128 := by rcases hC G.v with h | h <;> omega
 have hcn := G.cn_eq hX hY
 have hpn := fun K => G.pows_cn hX K
 have hca := G.cn_at hX
 have HV := Lib.hid (And.intro hX (And.intro hY (And.intro hcn (And.intro hpn hca)))); clear hX hY hcn hpn hca
 have hcase := G.ce_cases h1
 rcases hcase with ⟨hc4, hnc⟩ | ⟨hc0, kz, hkz, hcl, hcq⟩
 ·rw [hc4]; clear hc4 HZ hgZ
  obtain ⟨b0_, b1_, b2_, b3_, _⟩ := id (HA.out w5 hgw).1
  go_wp2_with fail
  clear b0_ b1_ b2_ b3_
  refine Calls.mono (iClsNo_ok P hr w5 _ _ X0 _ _ (HA.out w5 hgw).2.1 (HA.out w5 hgw).2.2.1 HV.out.1 h128) ?_
  rintro e6 w6 ⟨v6, rfl, hg_, rfl⟩
  replace hgw := grown_trans hgw hg_
  clear hg_
  obtain ⟨ca, hca⟩ : ∃ ca, ca = cn P X0 := ⟨_, rfl⟩
  rw [show gt (rCls P).1 (num P X0).toNat = ca from hca.symm]
  have HCA := Lib.hid hca; clear hca
  obtain ⟨b0_, b1_, b2_, b3_, _⟩ := id (HA.out w6 hgw).1
  go_wp2_with fail
  clear b0_ b1_ b2_ b3_
  refine Calls.mono (iClsNo_ok P hr w6 _ _ X1 _ _ (HA.out w6 hgw).2.1 (HA.out w6 hgw).2.2.2.1 HV.out.2.1 h128) ?_
  rintro e7 w7 ⟨v7, rfl, hg_, rfl⟩
  replace hgw := grown_trans hgw hg_
  clear hg_
  obtain ⟨cb, hcb⟩ : ∃ cb, cb = cn P X1 := ⟨_, rfl⟩
  rw [show gt (rCls P).1 (num P X1).toNat = cb from hcb.symm]
  have HCB := Lib.hid hcb; clear hcb
  have hab : (ca == cb) = false := by
   have : ca ≠ cb := fun h => hnc (HV.out.2.2.1.1 (by rw [← HCA.out, ← HCB.out]; exact h))
   simp [this]
  clear hnc
  go_wp2_with fail
  refine Calls.mono (rollS_ok w7 _ bs S 10 hbl (HA.out w7 hgw).2.2.2.2) ?_
  rintro eD wD ⟨vD, rfl, hgD, db, rfl, hdb, hDi⟩
  have hdlt : w2.heap.size ≤ db := by have := hgw.size; omega
  replace hgw := grown_trans hgw hgD
  go_wp2_with fail
  refine Calls.mono (belowS_ok _ wD db 13 hDi (by omega) (by omega)) ?_
  rintro eX wX ⟨vX, rfl, hgX, x6, rfl, hx0, hx1, hDX⟩
  replace hgw := grown_own hgw hgX (fun j hj hlt => by have := Option.some.inj hj; omega)
  clear hgX hDX hDi hgD hdb hdlt
  obtain ⟨K, hK⟩ : ∃ K, K = x6 - 6 := ⟨_, rfl⟩
  have hKb : -6 ≤ K ∧ K ≤ 6 := by omega
  have hx6 : x6 = K + 6 := by omega
  subst hx6
  have hK6 : K + 6 - 6 = K := by omega
  have hpc : powCode P K (iconsB P) = 0 := by
   rw [icons_eq, hr]
   have hi : inB K (-1000000) 1000000 = true := by simp [inB]; omega
   unfold powCode
   rw [if_pos rfl, if_pos hi, if_neg (by omega)]
  have HPC := Lib.hid (And.intro hpc hK6); clear hpc hK hK6
  obtain ⟨b0_, b1_, b2_, b3_, _⟩ := id (HA.out wX hgw).1
  go_wp2_with fail
  clear b0_ b1_ b2_ b3_
  try rw [HPC.out.2]
  refine Calls.mono (iClassPowers_ok P K wX _ _ (HA.out wX hgw).2.1) ?_
  rintro eP wP ⟨vP, rfl, hgP, pr, rfl, hrr⟩
  have hPO : Own wX.heap.size wP pr (powsOf P K) := hrr.elim (fun h => absurd HPC.out.1 h.1) (fun h => h.2)
  rw [HPC.out.1]
  replace hgw := grown_trans hgw hgP
  have hpl := pows_len P K
  have hil : (iCls P).length ≤ (ordP P).toNat := iClsTo_len P _
  have hPI := hPO.ints (by omega)
  obtain ⟨pa, pc, hpe, _, _⟩ := hPI.shape
  subst hpe
  clear hrr hPO hgP
  have HPL := Lib.hid hpl; clear hpl hil
  have hPx : ∀ w', Ext wP w' → Ints Any w' (.slice pa (powsOf P K).length pc) (powsOf P K) := fun w' h => Ints.sub (Ints.ext hPI h) (fun _ _ _ => trivial)
  have HPX := Lib.hid hPx; clear hPx hPI
  have hgP := grown_refl wP none
  obtain ⟨b0_, b1_, b2_, b3_, _⟩ := id (HA.out wP hgw).1
  go_wp2_with fail
  clear b0_ b1_ b2_ b3_
  refine Calls.mono (iPowE_ok P hr wP _ _ X0 K _ _ (HA.out wP hgw).2.1 (HA.out wP hgw).2.2.1 HV.out.1 (by omega)) ?_
  rintro eK wK ⟨vK, rfl, hgK, xa, xn, xc, rfl, hO⟩
  have hkV := G.pwZ_vec HV.out.1 K
  have hKI := hO.ints (by rw [hkV.1]; omega)
  replace hgw := grown_trans hgw hgK
  replace hgP := grown_trans hgP hgK
  have HKV := Lib.hid hkV; clear hkV hO
  obtain ⟨b0_, b1_, b2_, b3_, _⟩ := id (HA.out wK hgw).1
  go_wp2_with fail
  clear b0_ b1_ b2_ b3_
  refine Calls.mono (iClsNo_ok P hr wK _ _ (pwZ P X0 K) _ _ (HA.out wK hgw).2.1 hKI HKV.out h128) ?_
  rintro eN wN ⟨vN, rfl, hgN, rfl⟩
  replace hgw := grown_trans hgw hgN
  replace hgP := grown_trans hgP hgN
  obtain ⟨cc0, hcc⟩ : ∃ cc0, cc0 = cn P (pwZ P X0 K) := ⟨_, rfl⟩
  rw [show gt (rCls P).1 (num P (pwZ P X0 K)).toNat = cc0 from hcc.symm]
  obtain ⟨j, hj1, hj2, -, -⟩ := HV.out.2.2.2.2
  have hjc : ca = (j : Int) := by rw [HCA.out]; exact hj1
  subst hjc
  have hjl : j < (powsOf P K).length := by have := HPL.out; omega
  obtain ⟨pb2, po2, rfl, _, _, hcell⟩ := Ints.at (HPX.out wN hgP) j hjl
  have hval : gt (powsOf P K) j = cc0 := by
   have := HV.out.2.2.2.1 K
   rw [← HCA.out] at this
   rw [hcc]; simpa using this
  rw [hval] at hcell
  have hjl2 : (j : Int) < ((powsOf P K).length : Nat) := by omega
  have hj0 : 0 ≤ (j : Int) := by omega
  clear hval hcc hj1 hj2 hKI HKV HPL
  generalize (powsOf P K).length = N at *
  go_wp2
  go_ret
  exact ⟨_, rfl, grown_trans HA0.out.2.2.2.1 hgw, by simp⟩
 ·rw [hc0]; rw [hcl] at HZ; clear hc0 hcl
  have hzV := elAt_vec G.v (kz : Int) (by omega)
  have HZV := Lib.hid (And.intro hzV hcq); clear hzV hcq
  obtain ⟨b0_, b1_, b2_, b3_, _⟩ := id (HA.out w5 hgw).1
  go_wp2_with fail
  clear b0_ b1_ b2_ b3_
  refine Calls.mono (iClsNo_ok P hr w5 _ _ X0 _ _ (HA.out w5 hgw).2.1 (HA.out w5 hgw).2.2.1 HV.out.1 h128) ?_
  rintro e6 w6 ⟨v6, rfl, hg_, rfl⟩
  replace hgw := grown_trans hgw hg_
  replace hgZ := grown_trans hgZ hg_
  clear hg_
  obtain ⟨ca, hca⟩ : ∃ ca, ca = cn P X0 := ⟨_, rfl⟩
  rw [show gt (rCls P).1 (num P X0).toNat = ca from hca.symm]
  have HCA := Lib.hid hca; clear hca
  obtain ⟨b0_, b1_, b2_, b3_, _⟩ := id (HA.out w6 hgw).1
  go_wp2_with fail
  clear b0_ b1_ b2_ b3_
  refine Calls.mono (iClsNo_ok P hr w6 _ _ X1 _ _ (HA.out w6 hgw).2.1 (HA.out w6 hgw).2.2.2.1 HV.out.2.1 h128) ?_
  rintro e7 w7 ⟨v7, rfl, hg_, rfl⟩
  replace hgw := grown_trans hgw hg_
  replace hgZ := grown_trans hgZ hg_
  clear hg_
  obtain ⟨cb, hcb⟩ : ∃ cb, cb = cn P X1 := ⟨_, rfl⟩
  rw [show gt (rCls P).1 (num P X1).toNat = cb from hcb.symm]
  have HCB := Lib.hid hcb; clear hcb
  have hab : ca = cb := by rw [HCA.out, HCB.out]; exact HV.out.2.2.1.2 ⟨_, HZV.out.1, HZV.out.2.symm⟩
  subst hab
  obtain ⟨b0_, b1_, b2_, b3_, _⟩ := id (HA.out w7 hgw).1
  go_wp2_with fail
  clear b0_ b1_ b2_ b3_
  refine Calls.mono (iConE_ok P hr w7 _ _ _ X0 (elAt P (kz : Int)) _ _ _ (HA.out w7 hgw).2.1 (HA.out w7 hgw).2.2.1 (HZ.out w7 hgZ) HV.out.1 HZV.out.1) ?_
  rintro e8 w8 ⟨v8, rfl, hg_, cj, cjn, cjc, rfl, hQ_⟩
  replace hgw := grown_trans hgw hg_
  replace hgZ := grown_trans hgZ hg_
  rw [HZV.out.2] at hQ_
  have hQr : Ints Any w8 (.slice cj cjn cjc) (X1) := hQ_.ints (by rw [HV.out.2.1.1]; omega)
  have hQx : ∀ w', Ext w8 w' → Ints Any w' (.slice cj cjn cjc) (X1) := fun w' h => Ints.ext hQr h
  have HQ := Lib.hid hQx; clear hQr hQx
  have hgQ := grown_refl w8 none
  clear hQ_
  clear hg_
  go_wp2_with fail
  refine Calls.mono (likeInts_ok _ _ X1 X1 w8 Any _ (HQ.out w8 hgQ) (HA.out w8 hgw).2.2.2.1) ?_
  rintro e9 w9 ⟨v9, rfl, hg_, rfl⟩
  replace hgw := grown_trans hgw hg_
  replace hgZ := grown_trans hgZ hg_
  replace hgQ := grown_trans hgQ hg_
  rw [show eqB X1 X1 = true from eqB_true.2 rfl]
  clear HQ hgQ HZ hgZ
  clear hg_
  go_wp2_with fail
  refine Calls.mono (rollS_ok w9 _ bs S 10 hbl (HA.out w9 hgw).2.2.2.2) ?_
  rintro eD wD ⟨vD, rfl, hgD, db, rfl, hdb, hDi⟩
  have hdlt : w2.heap.size ≤ db := by have := hgw.size; omega
  replace hgw := grown_trans hgw hgD
  go_wp2_with fail
  refine Calls.mono (belowS_ok _ wD db 13 hDi (by omega) (by omega)) ?_
  rintro eX wX ⟨vX, rfl, hgX, x6, rfl, hx0, hx1, hDX⟩
  replace hgw := grown_own hgw hgX (fun j hj hlt => by have := Option.some.inj hj; omega)
  clear hgX hDX hDi hgD hdb hdlt
  obtain ⟨K, hK⟩ : ∃ K, K = x6 - 6 := ⟨_, rfl⟩
  have hKb : -6 ≤ K ∧ K ≤ 6 := by omega
  have hx6 : x6 = K + 6 := by omega
  subst hx6
  have hK6 : K + 6 - 6 = K := by omega
  have hpc : powCode P K (iconsB P) = 0 := by
   rw [icons_eq, hr]
   have hi : inB K (-1000000) 1000000 = true := by simp [inB]; omega
   unfold powCode
   rw [if_pos rfl, if_pos hi, if_neg (by omega)]
  have HPC := Lib.hid (And.intro hpc hK6); clear hpc hK hK6
  obtain ⟨b0_, b1_, b2_, b3_, _⟩ := id (HA.out wX hgw).1
  go_wp2_with fail
  clear b0_ b1_ b2_ b3_
  try rw [HPC.out.2]
  refine Calls.mono (iClassPowers_ok P K wX _ _ (HA.out wX hgw).2.1) ?_
  rintro eP wP ⟨vP, rfl, hgP, pr, rfl, hrr⟩
  have hPO : Own wX.heap.size wP pr (powsOf P K) := hrr.elim (fun h => absurd HPC.out.1 h.1) (fun h => h.2)
  rw [HPC.out.1]
  replace hgw := grown_trans hgw hgP
  have hpl := pows_len P K
  have hil : (iCls P).length ≤ (ordP P).toNat := iClsTo_len P _
  have hPI := hPO.ints (by omega)
  obtain ⟨pa, pc, hpe, _, _⟩ := hPI.shape
  subst hpe
  clear hrr hPO hgP
  have HPL := Lib.hid hpl; clear hpl hil
  have hPx : ∀ w', Ext wP w' → Ints Any w' (.slice pa (powsOf P K).length pc) (powsOf P K) := fun w' h => Ints.sub (Ints.ext hPI h) (fun _ _ _ => trivial)
  have HPX := Lib.hid hPx; clear hPx hPI
  have hgP := grown_refl wP none
  obtain ⟨b0_, b1_, b2_, b3_, _⟩ := id (HA.out wP hgw).1
  go_wp2_with fail
  clear b0_ b1_ b2_ b3_
  refine Calls.mono (iPowE_ok P hr wP _ _ X0 K _ _ (HA.out wP hgw).2.1 (HA.out wP hgw).2.2.1 HV.out.1 (by omega)) ?_
  rintro eK wK ⟨vK, rfl, hgK, xa, xn, xc, rfl, hO⟩
  have hkV := G.pwZ_vec HV.out.1 K
  have hKI := hO.ints (by rw [hkV.1]; omega)
  replace hgw := grown_trans hgw hgK
  replace hgP := grown_trans hgP hgK
  have HKV := Lib.hid hkV; clear hkV hO
  obtain ⟨b0_, b1_, b2_, b3_, _⟩ := id (HA.out wK hgw).1
  go_wp2_with fail
  clear b0_ b1_ b2_ b3_
  refine Calls.mono (iClsNo_ok P hr wK _ _ (pwZ P X0 K) _ _ (HA.out wK hgw).2.1 hKI HKV.out h128) ?_
  rintro eN wN ⟨vN, rfl, hgN, rfl⟩
  replace hgw := grown_trans hgw hgN
  replace hgP := grown_trans hgP hgN
  obtain ⟨cc0, hcc⟩ : ∃ cc0, cc0 = cn P (pwZ P X0 K) := ⟨_, rfl⟩
  rw [show gt (rCls P).1 (num P (pwZ P X0 K)).toNat = cc0 from hcc.symm]
  obtain ⟨j, hj1, hj2, -, -⟩ := HV.out.2.2.2.2
  have hjc : ca = (j : Int) := by rw [HCA.out]; exact hj1
  subst hjc
  have hjl : j < (powsOf P K).length := by have := HPL.out; omega
  obtain ⟨pb2, po2, rfl, _, _, hcell⟩ := Ints.at (HPX.out wN hgP) j hjl
  have hval : gt (powsOf P K) j = cc0 := by
   have := HV.out.2.2.2.1 K
   rw [← HCA.out] at this
   rw [hcc]; simpa using this
  rw [hval] at hcell
  have hjl2 : (j : Int) < ((powsOf P K).length : Nat) := by omega
  have hj0 : 0 ≤ (j : Int) := by omega
  clear hval hcc hj1 hj2 hKI HKV HPL
  generalize (powsOf P K).length = N at *
  go_wp2
  go_ret
  exact ⟨_, rfl, grown_trans HA0.out.2.2.2.1 hgw, by simp⟩
end Go.Proofs.YtdcobapnlpeaaaaGreat
