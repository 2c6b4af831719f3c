/-
  The program's preimages: impl.applyHom, elementsWith at the closure of preimage, preimage.
-/
import Derived.Test.YtchbegeklckgnaaGreatSHomIs
import Derived.Test.YtchbegeklckgnaaGreatK4
namespace Go.Proofs.YtchbegeklckgnaaGreat
open Go.RowKit

set_option maxRecDepth 100000 in
set_option maxHeartbeats 4000000 in
theorem applyHom_ok (P Q : Pr) (GQ : Grp Q) (Is : List (List Int)) (w : World) (b : Nat) (hh : HomP Any w b P Q Is) (hI : ∀ x ∈ Is, Vec Q.orders x) (xv : Value) (X : List Int) (Sx : Nat → Prop) (hx : Ints Sx w xv X) (hXl : X.length ≤ Is.length ∧ Is.length ≤ X.length)
    (hIl : Is.length ≤ 6) (hX : ∀ i, i < X.length → 0 ≤ gt X i ∧ gt X i ≤ 1000) :
    Calls Tryz.prog 104 #[.pointer (some ⟨b, 0, none⟩), xv] w (Ret w fun w' v => Own w.heap.size w' v (prodR Q Is X X.length)) := by
  have hP := GQ.v
  have hn6 := hP.n6
  obtain ⟨hp, hq, ai, ci, hci, hri⟩ := hh
  obtain ⟨ao, capo, hco, hoi⟩ := hq.ordAt
  obtain ⟨ax, capx, rfl, _, _⟩ := hx.shape
  have HX := Lib.hid (And.intro hI hX); clear hI hX
  go_enter Tryz.func104, Tryz.ntmps104
  go_wp2_with (first | (at_make; refine wp_make_ints rfl _ _ rfl w.heap.size Q.orders.length w.heap.size rfl _ rfl rfl rfl (by omega) (Nat.le_refl _) ?_; intro w1 ho1 hg1 hlt1) | fail)
  clear hco
  generalize Value.slice (some ⟨w.heap.size, 0, none⟩) Q.orders.length Q.orders.length = r at *
  go_loopw [17] (fun iv wr => ∃ i : Nat, iv = .int .i64 i ∧ i ≤ X.length ∧ Ext w wr ∧ Own w.heap.size wr r (prodR Q Is X i)) (fun iv _ => X.length - (intOf iv).toNat)
  case atStart => exact ⟨0, rfl, by omega, hg1, ho1⟩
  case round =>
    clear ho1 hg1
    obtain ⟨i, rfl, hi, hg, hO⟩ := hrel
    by_cases hlt : i < X.length
    · have hlt' : (i : Int) < X.length := by omega
      obtain ⟨bx, ox, rfl, _, _, hcx⟩ := Ints.at (hx.ext hg) i hlt
      obtain ⟨m, hm⟩ : ∃ m : Nat, m = (gt X i).toNat := ⟨_, rfl⟩
      have hx0 := HX.out.2 i hlt
      have hme : gt X i = (m : Int) := by omega
      have hm1 : m ≤ 1000 := by omega
      rw [hme] at hcx
      have hiI : i < Is.length := by omega
      have hiI' : (i : Int) < Is.length := by omega
      obtain ⟨bz, oz, a2, cap2, rfl, _, _, hcz, hrz⟩ := Rows2.at hri i hiI
      have hzV := HX.out.1 _ (gtMem hiI)
      obtain ⟨z, hz⟩ : ∃ z, z = gt Is i := ⟨_, rfl⟩
      rw [← hz] at hcz hrz hzV
      have hEV := GQ.prodR_vec HX.out.1 X i (by omega)
      obtain ⟨E, hE⟩ : ∃ E, E = prodR Q Is X i := ⟨_, rfl⟩
      rw [← hE] at hO hEV
      have hst : prodR Q Is X (i + 1) = rMul Q E (pw Q z m) := by rw [prodR_step hx0.1, hE, hz, hm]
      have hO0 : Own w.heap.size wr r (rMul Q E (pw Q z 0)) := by rw [pw_zero, GQ.grp.er _ hEV]; exact hO
      have HZ := Lib.hid (And.intro hzV (And.intro hEV hst)); clear hzV hEV hst hO hE hz hme hx0 hm
      go_wp2
      clear hcx
      go_loopw [23] (fun tv wr => ∃ t : Nat, tv = .int .i64 t ∧ t ≤ m ∧ Ext w wr ∧ Own w.heap.size wr r (rMul Q E (pw Q z t))) (fun tv _ => m - (intOf tv).toNat)
      case atStart => exact ⟨0, rfl, by omega, hg, hO0⟩
      case round =>
        clear hO0 hg
        obtain ⟨t, rfl, ht, hg, hO⟩ := hrel
        by_cases hltt : t < m
        · have hltt' : (t : Int) < m := by omega
          have hYV := GQ.mulV HZ.out.2.1 (GQ.pw_vec HZ.out.1 t)
          have htv := GQ.tv_eq hYV HZ.out.1
          rw [GQ.step_mul HZ.out.2.1 HZ.out.1] at htv
          have HT := Lib.hid (And.intro hYV htv); clear hYV htv
          have e1 : ∀ w', Ext w w' → w'.cell? ⟨b, 6, none⟩ = some (.slice (some ⟨bz, oz, none⟩) Is.length ci) := fun w' h => h.cell hci (by simp)
          have e2 : ∀ w', Ext w w' → w'.cell? ⟨bz, oz + i, none⟩ = some (.slice a2 z.length cap2) := fun w' h => h.cell hcz (by simp)
          have hgd : Ext w wr.drew := grown_trans hg (grown_drew _ _)
          have hOd := hO.ext0 (grown_drew wr none)
          go_wp2
          go_region_held3 (fun w' => Ext w w') (first | exact hgd | assumption)
            (first
              | (go_at_call 132; refine Calls.mono (timesVector_ok Q hP w.heap.size wr.drew _ r _ (rMul Q E (pw Q z t)) z (hq.mono (off_of hOd (Nat.le_refl _) hgd)) hOd HT.out.1 (hrz.mono (off_of hOd (Nat.le_refl _) hgd)) HZ.out.1) ?_; rintro e4 w4 ⟨v4, rfl, hg4, rfl, hR4⟩; have hg04 := mut_ext hgd hOd (Nat.le_refl _) hg4))
          rw [HT.out.2] at hR4
          clear e1 e2 hO hOd
          go_wp2
          go_roundw
          case rel => exact ⟨t + 1, by go_num, by omega, hg04, hR4⟩
          case measure => simp [intOf]; omega
        · have hte : t = m := by omega
          subst hte
          rw [← HZ.out.2.2] at hO
          go_wp2
          go_roundw
          case rel => exact ⟨i + 1, by go_num, by omega, hg, hO⟩
          case measure => simp [intOf]; omega
    · have hie : i = X.length := by omega
      subst hie
      go_wp2
      go_ret
      exact ⟨_, rfl, hg, hO⟩

set_option maxRecDepth 100000 in
set_option maxHeartbeats 4000000 in
theorem preClosure_ok (P Q : Pr) (GP : Grp P) (GQ : Grp Q) (Is : List (List Int)) (H : List Int → Prop) (S : Sub Q H) (w : World) (b c1 c2 : Nat) (vv : Value) (Sv : Nat → Prop) (hh : HomP Any w b P Q Is) (hI : ∀ x ∈ Is, Vec Q.orders x)
    (hIl : Is.length = P.orders.length) (h1 : w.cell? ⟨c1, 0, none⟩ = some (.pointer (some ⟨b, 0, none⟩))) (h2 : w.cell? ⟨c2, 0, none⟩ = some vv) (hv : Rows2 Sv w vv (cseq Q H)) (xv : Value) (X : List Int) (Sx : Nat → Prop) (hx : Ints Sx w xv X) (hX : Vec P.orders X) :
    Calls Tryz.prog 102 #[xv, .pointer (some ⟨c1, 0, none⟩), .pointer (some ⟨c2, 0, none⟩)] w (Ret w fun _ v => ∃ r : Bool, v = .bool r ∧ (r = true ↔ H (prodR Q Is X Is.length))) := by
  have hn6 := GP.v.n6
  have hXl := hX.1
  have hb : ∀ i, i < X.length → 0 ≤ gt X i ∧ gt X i ≤ 1000 := fun i hi => by
    have h3 := hX.2 i (by omega)
    have h4 := GP.v.ord7 i (by omega)
    omega
  have hXI : X.length ≤ Is.length ∧ Is.length ≤ X.length := by omega
  have hI6 : Is.length ≤ 6 := by omega
  have hXe : X.length = Is.length := by omega
  have hm := isMember_ok Q GQ
  obtain ⟨av, capv, rfl, _, _⟩ := Sl.shape hv
  obtain ⟨ax, capx, rfl, _, _⟩ := hx.shape
  have hmv := GQ.prodR_vec hI X X.length hXI.1
  have hml : (prodR Q Is X X.length).length ≤ 6 := by rw [hmv.1]; exact GQ.v.n6
  have HX := Lib.hid (And.intro hb (And.intro hXe (And.intro hmv (And.intro hml hI)))); clear hb hXe hmv hml hXl hI hIl hX
  have e1 : ∀ w', Ext w w' → w'.cell? ⟨c1, 0, none⟩ = some (.pointer (some ⟨b, 0, none⟩)) := fun w' h => h.cell h1 (by simp)
  have e2 : ∀ w', Ext w w' → w'.cell? ⟨c2, 0, none⟩ = some (.slice av (cseq Q H).length capv) := fun w' h => h.cell h2 (by simp)
  clear h1 h2
  go_enter Tryz.func102, Tryz.ntmps102
  go_wp2
  go_region_held3 (fun w' => Ext w w') (first | exact grown_drew _ _ | assumption)
    (first
      | (go_at_call 104; refine Calls.mono (Calls.rel (w0 := w) (by first | exact grown_drew _ _ | assumption) (applyHom_ok P Q GQ Is _ b (hh.ext (by first | exact grown_drew _ _ | assumption)) HX.out.2.2.2.2 _ X _ (hx.ext (by first | exact grown_drew _ _ | assumption)) hXI hI6 HX.out.1)) ?_; rintro eA wA ⟨vA, rfl, hgA, hsA, hOA⟩; have hAi := hOA.ints (by have := HX.out.2.2.2.1; omega))
      | (go_at_call 103; refine Calls.mono (Calls.rel (w0 := w) hgA (isMember_ok Q GQ _ _ _ _ H (prodR Q Is X X.length) Any Sv _ S (hh.2.1.ext hgA) (Rows2.ext hv hgA) hAi HX.out.2.2.1)) ?_; rintro eB wB ⟨vB, rfl, hgB, hsB, r, rfl, hr⟩; have HR := Lib.hid hr; clear hr))
  clear e1 e2
  go_wp2
  go_ret
  exact ⟨_, rfl, hgB, r, rfl, by rw [← HX.out.2.1]; exact HR.out⟩

/-- the members of a list so far -/
def takeP (P : Pr) (has : List Int → Prop) (k : Nat) (y : List Int) : Prop := y ∈ (allEl P).take k ∧ has y

theorem takeP_zero (P : Pr) (has : List Int → Prop) : takeP P has 0 = fun _ => False := by
  funext y; unfold takeP; simp
theorem takeP_yes {P : Pr} {has : List Int → Prop} {k : Nat} (hk : k < (allEl P).length) (h : has (gt (allEl P) k)) : takeP P has (k + 1) = fun y => takeP P has k y ∨ y ∈ [gt (allEl P) k] :=
  funext fun y => propext (by
    unfold takeP
    rw [List.take_add_one, List.getElem?_eq_getElem hk, List.mem_append, gt_eq _ _ hk]
    simp only [Option.toList_some, List.mem_singleton]
    constructor
    · rintro ⟨h1 | h1, h2⟩
      · exact .inl ⟨h1, h2⟩
      · exact .inr h1
    · rintro (⟨h1, h2⟩ | h1)
      · exact ⟨.inl h1, h2⟩
      · exact ⟨.inr h1, by rw [h1, ← gt_eq _ _ hk]; exact h⟩)
theorem takeP_no {P : Pr} {has : List Int → Prop} {k : Nat} (hk : k < (allEl P).length) (h : ¬ has (gt (allEl P) k)) : takeP P has (k + 1) = takeP P has k :=
  funext fun y => propext (by
    unfold takeP
    rw [List.take_add_one, List.getElem?_eq_getElem hk, List.mem_append]
    simp only [Option.toList_some, List.mem_singleton]
    constructor
    · rintro ⟨h1 | h1, h2⟩
      · exact ⟨h1, h2⟩
      · rw [h1, ← gt_eq _ _ hk] at h2; exact absurd h2 h
    · rintro ⟨h1, h2⟩
      exact ⟨.inl h1, h2⟩)
theorem takeP_all {P : Pr} (hP : Valid P) (has : List Int → Prop) : takeP P has (allEl P).length = fun y => Vec P.orders y ∧ has y :=
  funext fun y => propext (by
    unfold takeP
    rw [List.take_length]
    have hm : y ∈ allEl P ↔ Vec P.orders y := by
      unfold allEl
      rw [List.mem_map]
      constructor
      · rintro ⟨k, hk, rfl⟩
        exact elAt_vec hP _ (by omega)
      · intro h
        have hb := num_bd hP h
        exact ⟨(num P y).toNat, by rw [List.mem_range]; omega, by rw [show (((num P y).toNat : Nat) : Int) = num P y by omega]; exact elAt_num hP h⟩
    rw [hm])
theorem genP_takeP_vec {P : Pr} (hP : Valid P) {has : List Int → Prop} {k : Nat} : ∀ y, takeP P has k y → Vec P.orders y := fun y h => by
  have := List.mem_of_mem_take h.1
  unfold allEl at this
  rw [List.mem_map] at this
  obtain ⟨j, hj, rfl⟩ := this
  exact elAt_vec hP _ (by omega)

set_option maxRecDepth 100000 in
set_option maxHeartbeats 4000000 in
theorem elementsWithPre_ok (P : Pr) (G : Grp P) (w : World) (p c1 c2 : Value) (has : List Int → Prop) (Sp : Nat → Prop) (hp : PresP Sp w p P)
    (hc : ∀ (w' : World) (xv : Value) (X : List Int) (Sx : Nat → Prop), Ext w w' → Ints Sx w' xv X → Vec P.orders X → Calls Tryz.prog 102 #[xv, c1, c2] w' (Ret w' fun _ v => ∃ r : Bool, v = .bool r ∧ (r = true ↔ has X))) :
    Calls Tryz.prog 101 #[p, .func (.func 102) #[] #[c1, c2]] w (Ret w fun w' v => RowsO w.heap.size w' v (cseq P (genP P (fun y => Vec P.orders y ∧ has y)))) := by
  have hP := G.v
  have hn6 := hP.n6
  have h729 : ordP P ≤ 729 := hP.le729
  have hpos := hP.ordP_pos
  obtain ⟨pb, po, rfl⟩ := hp.shape
  have HC := Lib.hid hc; clear hc
  go_enter Tryz.func101, Tryz.ntmps101
  go_wp2_with fail
  refine Calls.mono (newSequence_ok P w _ Sp (fun _ => False) hp hn6) ?_
  rintro e1 w1 ⟨v1, rfl, hg1, sb, gb, rfl, hs⟩
  have hgb := hs.tab.lt
  have hsb := hs.sB
  have hsl := hs.slt
  go_wp2_with fail
  refine Calls.mono (allElements_ok P hP w1 _ Sp (hp.ext hg1)) ?_
  rintro e2 w2 ⟨v2, rfl, hg2, hE⟩
  have hel : (allEl P).length = (ordP P).toNat := by simp [allEl]
  have hER : Rows2 (fun k => w1.heap.size ≤ k) w2 v2 (allEl P) := RowsD.rows (SlO.toD hE (by omega))
  obtain ⟨aE, capE, hvE, _, _⟩ := Sl.shape hER
  subst hvE
  obtain ⟨N, hN⟩ : ∃ N, N = (allEl P).length := ⟨_, rfl⟩
  rw [← hN]
  rw [← hN] at hER
  have hN729 : N ≤ 729 := by omega
  have hs2 := hs.kept (bad' := fun _ => False) hg2.size (fun k hk _ => hg2.block k hk (by simp)) (fun _ _ h => h)
  have hI0 : Ind P (genP P (takeP P has 0)) (gt (List.replicate P.orders.length ([] : List Int))) := by
    rw [takeP_zero, G.genP_none]; exact G.ind_one
  have hg02 := grown_trans hg1 hg2
  have hm1 : w1.heap.size ≤ w2.heap.size := hg2.size
  have HN := Lib.hid (And.intro hN hI0); clear hN hI0 hel hE h729 hpos hs
  go_wp2
  go_loopw [13] (fun iv wr => ∃ (k : Nat) (t : List (List Int)), iv = .int .i64 k ∧ k ≤ N ∧ w2.grownBy wr (some gb) ∧ SeqAt w.heap.size (fun _ => False) wr sb gb (.pointer (some ⟨pb, po, none⟩)) P.orders.length t ∧ Hid (Ind P (genP P (takeP P has k)) (gt t))) (fun iv _ => N - (intOf iv).toNat)
  case atStart => exact ⟨0, _, rfl, by omega, grown_refl _ _, hs2, Lib.hid HN.out.2⟩
  case round =>
    clear hs2
    obtain ⟨k, t, rfl, hk, hg, hs, hI⟩ := hrel
    have hgw : Ext w wr := grown_own hg02 hg (fun j hj hlt => by cases hj; omega)
    by_cases hlt : k < N
    · have hlt' : (k : Int) < N := by omega
      have hkl : k < (allEl P).length := by rw [← HN.out.1]; exact hlt
      have hEr : Rows2 (fun k => w1.heap.size ≤ k) wr (.slice aE N capE) (allEl P) := Rows2.mono hER (frame_of hg (fun j hj _ => ⟨hj, fun e => by cases e; omega⟩))
      rw [HN.out.1] at hEr
      obtain ⟨bx, ox, a2, cap2, hab, _, _, hcx, hrx⟩ := Rows2.at hEr k hkl
      subst hab
      have hxV : Vec P.orders (gt (allEl P) k) := genP_takeP_vec hP (has := fun _ => True) (k := (allEl P).length) _ ⟨by rw [List.take_length]; exact gtMem hkl, trivial⟩
      obtain ⟨x, hx⟩ : ∃ x, x = gt (allEl P) k := ⟨_, rfl⟩
      rw [← hx] at hcx hrx hxV
      have hyes := takeP_yes (has := has) hkl
      have hno := takeP_no (has := has) hkl
      rw [← hx] at hyes hno
      have HX := Lib.hid (And.intro hxV (And.intro hyes hno)); clear hxV hyes hno hx
      have hcall := HC.out wr _ x _ hgw hrx HX.out.1
      go_wp2_with fail
      refine Calls.mono hcall ?_
      rintro e3 w3 ⟨v3, rfl, hg3, r, rfl, hr⟩
      clear hcall hcx
      have hg23 : w2.grownBy w3 (some gb) := grown_trans hg (grown_of_ext _ hg3)
      have hs3 := hs.kept (bad' := fun _ => False) hg3.size (fun k hk _ => hg3.block k hk (by simp)) (fun _ _ h => h)
      have hm3 : w1.heap.size ≤ w3.heap.size := by have := hg23.size; omega
      have hgw3 := grown_trans hgw hg3
      have hrx3 := Ints.ext hrx hg3
      cases r with
      | false =>
        have hI2 : Ind P (genP P (takeP P has (k + 1))) (gt t) := by
          rw [HX.out.2.2 (fun h => by have := hr.2 h; cases this)]; exact hI.out
        have HI2 := Lib.hid hI2; clear hI2 hr hI
        go_wp2
        go_roundw
        case rel => exact ⟨k + 1, t, by go_num, by omega, hg23, hs3, HI2⟩
        case measure => simp [intOf]; omega
      | true =>
        have hstep := HX.out.2.1 (hr.1 rfl)
        have HST := Lib.hid hstep; clear hstep hr
        have hgl : Ext w3 (w3.alloc (.cells #[.slice a2 x.length cap2] 22)) := World.grownBy_alloc _ _ _
        have hsl4 := hs3.kept (bad' := fun _ => False) hgl.size (fun k hk _ => hgl.block k hk (by simp)) (fun _ _ h => h)
        have hlit : Rows2 (fun k => ¬ (k = gb ∨ k = sb)) (w3.alloc (.cells #[.slice a2 x.length cap2] 22)) (.slice (some ⟨w3.heap.size, 0, none⟩) 1 1) [x] := by
          refine ⟨some ⟨w3.heap.size, 0, none⟩, 1, rfl, ⟨by simp, by simp, fun h => by cases h⟩, fun i hi => ⟨w3.heap.size, 0, .slice a2 x.length cap2, rfl, by omega, by simp, ?_, ?_⟩⟩
          · have : i = 0 := by simpa using hi
            subst this
            rw [World.cell?_alloc_at _ _ _ _ rfl]; rfl
          · have : i = 0 := by simpa using hi
            subst this
            exact Ints.sub (Ints.ext hrx3 hgl) (fun j hj _ => by
              have hj : w1.heap.size ≤ j := hj
              omega)
        have hx1 : ∀ y ∈ [x], Vec P.orders y := fun y hy => by rw [List.mem_singleton.1 hy]; exact HX.out.1
        have HL := Lib.hid (And.intro hlit hx1); clear hlit hx1
        have hgwl := grown_trans hgw3 hgl
        go_wp2_with fail
        refine Calls.mono (add_ok P G _ sb gb w.heap.size _ _ [x] t (genP P (takeP P has k)) (hp.mono (fun k _ hlt => ⟨by omega, Nat.lt_of_lt_of_le hlt hgwl.size, hgwl.block k hlt (by simp)⟩)) hsl4 hI.out HL.out.2 HL.out.1 (by simp)) ?_
        rintro e5 w5 ⟨t5, g5, rfl, hg5, hs5, hA, _, _⟩
        have hI5 : Ind P (genP P (takeP P has (k + 1))) (gt t5) := by
          rw [HST.out, ← genP_or]; exact hA
        have HI5 := Lib.hid hI5; clear hI5 hA
        have hg25 : w2.grownBy w5 (some gb) := grown_trans (grown_trans hg23 (grown_of_ext _ hgl)) hg5
        clear hI hs hs3 hsl4 hg5 hEr
        go_wp2
        go_roundw
        case rel => exact ⟨k + 1, t5, by go_num, by omega, hg25, hs5, HI5⟩
        case measure => simp [intOf]; omega
    · have hke : k = N := by omega
      have hIn : Ind P (genP P (fun y => Vec P.orders y ∧ has y)) (gt t) := by
        have := hI.out
        rw [hke, HN.out.1, takeP_all hP] at this; exact this
      have HIn := Lib.hid hIn; clear hIn hI
      go_wp2_with fail
      refine Calls.mono (canonical_ok P G wr sb gb w.heap.size _ t _ _ _ (hp.ext hgw) hs HIn.out) ?_
      rintro e3 w3 ⟨v3, rfl, hg3, hO⟩
      go_wp2
      go_ret
      exact ⟨_, rfl, grown_trans hgw hg3, hO.weak hgw.size⟩

end Go.Proofs.YtchbegeklckgnaaGreat
