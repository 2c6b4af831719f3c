/-
  impl.classOf: the class of an element, sorted.
-/
import Derived.Test.YtdfjgpioaomceaaSortRow
namespace Go.Proofs.Ytdfjgpioaomceaa
open Go.Proofs Go.RowKit

/-- a slice of one element, laid by a literal -/
theorem SlO.lit {α : Type} [Inhabited α] {El : (Nat → Prop) → World → Value → α → Prop} (hEl : RdOk El) {E B : Nat} {w : World} {u : Value} {y : α} (hu : El (From B) w u y) (hB : B ≤ w.heap.size) :
    SlO El E B (w.alloc (.cells #[u] E)) (.slice (some ⟨w.heap.size, 0, none⟩) 1 1) [y] := by
  have hg : Ext w (w.alloc (.cells #[u] E)) := World.grownBy_alloc _ _ _
  refine ⟨[u], fun _ k => B ≤ k ∧ k < w.heap.size, rfl, World.ownsRow_lit w #[u] 1 hB (by decide) rfl, ?_, ?_, ?_⟩
  · intro i k _ hk
    refine ⟨hk.1, fun h => ?_, ?_⟩
    · have : w.heap.size = k := Option.some.inj h
      omega
    · have := hg.size; omega
  · intro i j k hi hj _ _
    simp at hi hj; omega
  · intro i hi
    have : i = 0 := by simpa using hi
    subst this
    exact hEl.mono hu (fun k hk hlt => ⟨⟨hk, hlt⟩, Nat.lt_of_lt_of_le hlt hg.size, hg.block k hlt (by simp)⟩)

theorem num_wf {P : Pr} (hP : Valid P) {x : List Int} (hx : Vec P.orders x) : (Lit.int .i64 (num P x)).wf = true := by
  have h1 := num_bd hP hx
  have h2 : ordP P ≤ 729 := hP.le729
  have e1 : IntKind.i64.min = -9223372036854775808 := by decide
  have e2 : IntKind.i64.max = 9223372036854775807 := by decide
  simp [Lit.wf]
  omega

theorem run_makeSeen (w : World) : (Instr.makeMap 67 none).run Try.prog w = .ok (.map (some w.heap.size)) (w.alloc (.map #[] 0)) := by kernel_rfl

set_option maxRecDepth 100000 in
set_option maxHeartbeats 8000000 in
theorem classOf_ok (P : Pr) (hP : Valid P) (w : World) (p x : Value) (X : List Int) (Sp Sx : Nat → Prop) (hp : PresP Sp w p P) (hx : Ints Sx w x X) (hX : Vec P.orders X) :
    Calls Try.prog 34 #[p, x] w (Ret w fun w' v => RowsO w.heap.size w' v (sortL (orb P X))) := by
  have h729 : ordP P ≤ 729 := hP.le729
  have hn6 := hP.n6
  have hpos := hP.ordP_pos
  obtain ⟨pb, po, rfl, _⟩ := hp.shape
  have hlX : X.length ≤ P.orders.length ∧ P.orders.length ≤ X.length := by rw [hX.1]; omega
  go_enter Try.func34, Try.ntmps34
  go_wp2_with fail
  refine Calls.mono (clone_ok w x X _ hx (by omega)) ?_
  rintro e1 w1 ⟨r, rfl, hg1, hO1⟩
  have hr1 : Ints (From w.heap.size) w1 r X := ints_of_own hO1 (by omega) (fun j hj => (hO1.lt j hj).1)
  obtain ⟨ar, capr, rfl, _, _⟩ := hr1.shape
  have hL1 : RowsO w.heap.size (w1.alloc (.cells #[.slice ar X.length capr] 22)) (.slice (some ⟨w1.heap.size, 0, none⟩) 1 1) [X] := SlO.lit rdInts hr1 hg1.size
  have hg2 : Ext w (w1.alloc (.cells #[.slice ar X.length capr] 22)) := grown_trans hg1 (World.grownBy_alloc _ _ _)
  have hL2 := (SlO.avoid (A := fun k => k = w1.heap.size + 1) hL1 (by intro k hk; simp; omega)).ext rdInts (World.grownBy_alloc (w1.alloc (.cells #[.slice ar X.length capr] 22)) (.map #[] 0) none)
  have hS2 := Seen.made (w1.alloc (.cells #[.slice ar X.length capr] 22))
  have hg3 : Ext w ((w1.alloc (.cells #[.slice ar X.length capr] 22)).alloc (.map #[] 0)) := grown_trans hg2 (World.grownBy_alloc _ _ _)
  have hmk := run_makeSeen (w1.alloc (.cells #[.slice ar X.length capr] 22))
  go_wp2_with fail
  have hsz : (w1.alloc (.cells #[.slice ar X.length capr] 22)).heap.size = w1.heap.size + 1 := by simp
  rw [hsz] at hS2
  clear hmk
  generalize (w1.alloc (.cells #[.slice ar X.length capr] 22)).alloc (.map #[] 0) = w2 at *
  refine Calls.mono (numberOf_ok P hP w2 _ _ X _ _ (hp.ext hg3) (hx.ext hg3) hX) ?_
  rintro e3 w3 ⟨rfl, rfl⟩
  obtain ⟨w4, hrun, hS4, hg4⟩ := hS2.update (num P X) (num_wf hP hX) (by simp)
  have hw2 : w1.heap.size + 1 < w2.heap.size := hS2.lt
  have hgw4 : Ext w w4 := grown_own hg3 hg4 (fun j hj hlt => by cases hj; have := hg1.size; omega)
  have hL4 := hL2.kept rdInts hg4 rfl
  clear hsz hL1 hL2 hS2 hg2 hO1 hr1
  go_wp2
  clear hrun
  have hmw : w1.heap.size + 1 < w4.heap.size := hS4.lt
  have hmB : w.heap.size ≤ w1.heap.size + 1 := by have := hg1.size; omega
  clear hg1 hg3 hg4 hw2
  generalize w1.heap.size + 1 = mb at *
  have HO := Lib.hid (show orbTo P ((ordP P).toNat + 1) 0 [X] = orb P X from rfl)
  generalize w1.heap.size = b1 at *
  go_loopw [5, 7] (fun v iv wr => ∃ (i f : Nat) (L : List (List Int)), iv = .int .i64 i ∧ i ≤ L.length ∧ 1 ≤ L.length ∧ f + i = (ordP P).toNat + 1 ∧ Ext w wr ∧ SlOA (fun F w u (x : List Int) => Ints F w u x) 22 w.heap.size (fun k => k = mb) wr v L ∧ Seen wr mb (L.map (num P)) ∧ OrbI P L ∧ orbTo P f i L = orb P X) (fun _ iv _ => (ordP P).toNat - (intOf iv).toNat)
  case atStart => exact ⟨0, (ordP P).toNat + 1, [X], rfl, by simp, by simp, by omega, hgw4, hL4, hS4, OrbI.single hX, HO.out⟩
  case round =>
    clear hL4 hS4 hgw4 hmw
    obtain ⟨i, f, L, rfl, hiL, hL1, hfi, hg, hL, hS, hI, horb⟩ := hrel
    have HORB := Lib.hid horb; clear horb
    have hLn := hI.len hP
    have HI := Lib.hid hI; clear hI
    have hLd := RowsD.rows (hL.o.toD (by omega))
    obtain ⟨aL, capL, rfl, _, _⟩ := Sl.shape hLd
    have hmw : mb < wr.heap.size := hS.lt
    by_cases hlt : i < L.length
    · go_wp2_with fail
      refine Calls.mono (generators_ok P hP wr _ Sp (hp.ext hg)) ?_
      rintro eg wg ⟨gv, rfl, hgg, hG⟩
      have hgl : (gensOf P.orders.length).length = P.orders.length := by simp [gensOf]
      have hGd : Rows2 (fun k => wr.heap.size ≤ k ∧ k < wg.heap.size) wg gv (gensOf P.orders.length) := RowsD.rows (SlD.mono rdInts (hG.toD (by rw [hgl]; omega)) (fun k hk hlt => ⟨⟨hk, hlt⟩, hlt, rfl⟩))
      obtain ⟨ag, capg, rfl, _, _⟩ := Sl.shape hGd
      clear hG
      have hLg := (hL.more (A' := fun k => k = mb ∨ (wr.heap.size ≤ k ∧ k < wg.heap.size)) (fun k hk => hk.imp id (fun h => h.1))).ext rdInts hgg
      have hSg := hS.kept hgg (by simp)
      have hgwg := grown_trans hg hgg
      clear hL hS
      rw [hgl] at hGd
      have HGL := Lib.hid hgl
      simp only [hgl]
      clear hgl
      go_wp2
      obtain ⟨wo, hwo⟩ : ∃ wo : World, wo = wr := ⟨_, rfl⟩
      have hwos : wo.heap.size = wr.heap.size := by rw [hwo]
      rw [← hwos] at hGd hLg hmw
      clear hwos
      have hYv : Vec P.orders (gt L i) := HI.out.vec _ (gt_mem hlt)
      have HY := Lib.hid hYv; clear hYv
      go_loopw [5, 29] (fun v jv w' => ∃ g : Nat, jv = .int .i64 g ∧ g ≤ P.orders.length ∧ Ext w w' ∧ SlOA (fun F w u (x : List Int) => Ints F w u x) 22 w.heap.size (fun k => k = mb ∨ (wo.heap.size ≤ k ∧ k < wg.heap.size)) w' v (orbIn P (gt L i) L g) ∧ Seen w' mb ((orbIn P (gt L i) L g).map (num P)) ∧
        (∀ k, wo.heap.size ≤ k → k < wg.heap.size → k < w'.heap.size ∧ w'.heap[k]? = wg.heap[k]?)) (fun _ jv _ => P.orders.length - (intOf jv).toNat)
      case atStart => exact ⟨0, rfl, by omega, hgwg, hLg, hSg, fun k h1 h2 => ⟨h2, rfl⟩⟩
      case round =>
        clear hLg hSg hgwg hgg hLd hg
        obtain ⟨g, rfl, hgn, hg, hL, hS, hkeep⟩ := hrel
        have hII := HI.out.inn hP HY.out g
        have hMn := hII.len hP
        have HII := Lib.hid hII; clear hII
        have hpre := orbIn_pre P (gt L i) L g
        have HPRE := Lib.hid hpre; clear hpre
        have HKEEP := Lib.hid hkeep; clear hkeep
        by_cases hltg : g < P.orders.length
        · have hGw := Rows2.mono (S' := Any) hGd (fun k hk _ => ⟨trivial, HKEEP.out k hk.1 hk.2⟩)
          obtain ⟨bg, og, ag2, capg2, rfl, _, _, hcg, hig⟩ := Rows2.at hGw g (by rw [HGL.out]; omega)
          have hgg : gt (gensOf P.orders.length) g = unitV P.orders.length g := by simp [gensOf, gt, hltg]
          rw [hgg] at hcg hig
          obtain ⟨M2, hM2⟩ := HPRE.out
          have hiM : i < (orbIn P (gt L i) L g).length := by rw [hM2]; simp; omega
          have hgi : gt (orbIn P (gt L i) L g) i = gt L i := by rw [hM2]; exact gt_append_left _ _ _ hlt
          have hMd := RowsD.rows (hL.o.toD (by omega))
          obtain ⟨aM, capM, rfl, _, _⟩ := Sl.shape hMd
          obtain ⟨bm, om, am2, capm2, rfl, _, _, hcm, him⟩ := Rows2.at hMd i hiM
          rw [hgi] at hcm him
          have hiM' : (i : Int) < (orbIn P (gt L i) L g).length := by omega
          clear hM2 hGw hMd hgi
          have hgn' : (g : Int) < P.orders.length := by omega
          have hvz := iConj_vec hP _ _ HY.out (unitV_vec hP g)
          have HZ := Lib.hid hvz; clear hvz
          go_wp2_with fail
          refine Calls.mono (conjugate_ok P hP wr _ _ _ _ _ _ _ _ (hp.ext hg) him hig HY.out (unitV_vec hP g)) ?_
          rintro ez wz ⟨zv, rfl, hgz, hOz⟩
          have hz := ints_of_own hOz (S := From wr.heap.size) (by rw [HZ.out.1]; omega) (fun j hj => (hOz.lt j hj).1)
          obtain ⟨az, capz, rfl, _, _⟩ := hz.shape
          go_wp2_with fail
          refine Calls.mono (numberOf_ok P hP wz _ _ _ _ _ (hp.ext (grown_trans hg hgz)) hz HZ.out) ?_
          rintro en wn ⟨rfl, rfl⟩
          have hSz := hS.kept hgz (by simp)
          have hlook := hSz.look (num P (iConj P (gt L i) (unitV P.orders.length g))) (num_wf hP HZ.out)
          have hsucc : orbIn P (gt L i) L (g + 1) = addZ P (orbIn P (gt L i) L g) (iConj P (gt L i) (unitV P.orders.length g)) := rfl
          have HS := Lib.hid hsucc; clear hsucc
          have hgwz := grown_trans hg hgz
          have hkz : ∀ k, wo.heap.size ≤ k → k < wg.heap.size → k < wz.heap.size ∧ wz.heap[k]? = wg.heap[k]? := fun k h1 h2 => by
            obtain ⟨h3, h4⟩ := HKEEP.out k h1 h2
            exact ⟨Nat.lt_of_lt_of_le h3 hgz.size, (hgz.block k h3 (by simp)).trans h4⟩
          have HKZ := Lib.hid hkz; clear hkz
          by_cases hin : num P (iConj P (gt L i) (unitV P.orders.length g)) ∈ (orbIn P (gt L i) L g).map (num P)
          · rw [decide_eq_true hin] at hlook
            have hadd : orbIn P (gt L i) L (g + 1) = orbIn P (gt L i) L g := by rw [HS.out, addZ, if_pos hin]
            have HA := Lib.hid hadd; clear hadd hin
            go_wp2
            clear hlook
            have hLz := hL.ext rdInts hgz
            go_roundw
            case rel => exact ⟨g + 1, by go_num, by omega, hgwz, by rw [HA.out]; exact hLz, by rw [HA.out]; exact hSz, HKZ.out⟩
            case measure => simp [intOf]; omega
          · rw [decide_eq_false hin] at hlook
            have hadd : orbIn P (gt L i) L (g + 1) = orbIn P (gt L i) L g ++ [iConj P (gt L i) (unitV P.orders.length g)] := by rw [HS.out, addZ, if_neg hin]
            have HA := Lib.hid hadd; clear hadd hin
            obtain ⟨wu, hrun, hSu, hgu⟩ := hSz.update (num P (iConj P (gt L i) (unitV P.orders.length g))) (num_wf hP HZ.out) (by simp; omega)
            have hmr : mb < wr.heap.size := hS.lt
            have hzu : Ints (From wr.heap.size) wu (.slice az (iConj P (gt L i) (unitV P.orders.length g)).length capz) (iConj P (gt L i) (unitV P.orders.length g)) := hz.mono (fun k hk hlt => ⟨hk, Nat.lt_of_lt_of_le hlt hgu.size, hgu.block k hlt (fun e => by have he := Option.some.inj e; have hk : wr.heap.size ≤ k := hk; omega)⟩)
            obtain ⟨hav1, hav2, hav3⟩ := hL.avoids bm rfl
            go_wp2_with (at_builtin; go_must (refine wp_app_rowA rfl _ _ rfl w.heap.size (fun k => k = mb ∨ (wo.heap.size ≤ k ∧ k < wg.heap.size)) wr wu _ _ _ (iConj P (gt L i) (unitV P.orders.length g)) rfl hL (fun k hk => hk.elim (fun e => e ▸ hmr) (fun h => (HKEEP.out k h.1 h.2).1)) (some mb) (grown_trans (grown_of_ext _ hgz) hgu) (fun k hk => by cases hk; exact .inl rfl) hzu rfl rfl (by omega) hg.size ?_); intro v5 w5 hL5 hg5)
            have hgu2 : Ext w wu := grown_own hgwz hgu (fun j hj hlt => by cases hj; omega)
            have hg5' : wu.grownBy w5 (some bm) := hg5
            have hgw5 : Ext w w5 := grown_own hgu2 hg5' (fun j hj hlt => by cases hj; omega)
            have hS5 := hSu.kept hg5' (fun e => hav1 (.inl (by cases e; rfl)))
            have hk5 : ∀ k, wo.heap.size ≤ k → k < wg.heap.size → k < w5.heap.size ∧ w5.heap[k]? = wg.heap[k]? := fun k h1 h2 => by
              obtain ⟨h3, h4⟩ := HKZ.out k h1 h2
              have h5 := Nat.lt_of_lt_of_le h3 hgu.size
              refine ⟨Nat.lt_of_lt_of_le h5 hg5'.size, (hg5'.block k h5 (fun e => hav1 (by cases e; exact .inr ⟨h1, h2⟩))).trans ((hgu.block k h3 (fun e => by cases e; omega)).trans h4)⟩
            have HK5 := Lib.hid hk5; clear hk5
            go_roundw
            case rel => exact ⟨g + 1, by go_num, by omega, hgw5, by rw [HA.out]; exact hL5, by rw [HA.out]; exact hS5.congr (by simp) (fun a => by rw [List.map_append, List.mem_append, List.mem_cons, List.map_cons, List.map_nil, List.mem_singleton]; exact Or.comm), HK5.out⟩
            case measure => simp [intOf]; omega
        · have hge : g = P.orders.length := by omega
          subst hge
          have hIn := HI.out.inn hP HY.out P.orders.length
          have hnext : orbTo P f i L = orbTo P (f - 1) (i + 1) (orbIn P (gt L i) L P.orders.length) := by
            obtain ⟨f', rfl⟩ : ∃ f', f = f' + 1 := ⟨f - 1, by omega⟩
            simp only [orbTo, if_pos hlt, Nat.add_sub_cancel]
          have hlen2 : i + 1 ≤ (orbIn P (gt L i) L P.orders.length).length := by
            obtain ⟨M2, hM2⟩ := HPRE.out
            rw [hM2]; simp; omega
          have HN := Lib.hid (And.intro hIn (And.intro hnext hlen2)); clear hIn hnext hlen2
          have hL6 := hL.less (A' := fun k => k = mb) (fun k hk => .inl hk)
          go_wp2
          go_roundw
          case rel => exact ⟨i + 1, f - 1, orbIn P (gt L i) L P.orders.length, by go_num, HN.out.2.2, Nat.le_trans (by omega) HN.out.2.2, by omega, hg, hL6, hS, HN.out.1, by rw [← HN.out.2.1]; exact HORB.out⟩
          case measure => simp [intOf]; omega
    · have hie : i = L.length := by omega
      have hLe : L = orb P X := by
        rw [← HORB.out]
        cases f with
        | zero => rfl
        | succ f => simp only [orbTo]; rw [if_neg hlt]
      have HLE := Lib.hid hLe; clear hLe
      subst hie
      go_wp2_with fail
      refine Calls.mono (sortRows_ok wr _ L w.heap.size hL.o (by omega) (by omega)) ?_
      rintro es ws ⟨rfl, hs1, hs2⟩
      have hgs := grown_own hg hs2 (fun j hj hlt => by have := (hL.avoids j hj).2.1; omega)
      go_wp2
      exact bodyPost_ret (v := .slice aL L.length capL) (by simp [results, Try.results34, go_sem]) rfl ⟨_, rfl, hgs, by rw [← HLE.out]; exact hs1⟩

end Go.Proofs.Ytdfjgpioaomceaa
