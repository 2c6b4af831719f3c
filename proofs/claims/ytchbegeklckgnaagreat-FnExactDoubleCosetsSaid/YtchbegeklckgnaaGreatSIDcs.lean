/-
  DoubleCosets: the program's side.
-/
import Derived.Test.YtchbegeklckgnaaGreatSSDcs
import Derived.Test.YtchbegeklckgnaaGreatK8
import Derived.Test.YtchbegeklckgnaaGreatSMapSet
namespace Go.Proofs.YtchbegeklckgnaaGreat
open Go.RowKit

theorem num_wf2 {P : Pr} (hP : Valid P) {x : List Int} (hx : Vec P.orders x) : (Lit.int .i64 (num P x)).wf = true := by
  have h1 := num_bd hP hx
  have h2 : ordP P ≤ 729 := hP.le729
  have e1 : IntKind.i64.min = -9223372036854775808 := by decide
  have e2 : IntKind.i64.max = 9223372036854775807 := by decide
  simp [Lit.wf]
  omega

theorem run_makeSeen2 (w : World) : (Instr.makeMap 91 none).run Tryz.prog w = .ok (.map (some w.heap.size)) (w.alloc (.map #[] 0)) := by kernel_rfl

theorem Seen.updateL {w : World} {b : Nat} {ns : List Int} (h : Seen w b ns) (a : Int) (ha : (Lit.int .i64 a).wf = true) (hl : ns.length ≤ 1000000000) :
    ∃ w', (Instr.mapUpdate 91 (.map (some b)) (.int .i64 a) (.bool true)).run Tryz.prog w = .ok () w' ∧ Seen w' b (a :: ns) ∧ w.grownBy w' (some b) := by
  obtain ⟨n, D, h, hn, hM, hat⟩ := h
  obtain ⟨w', hrun, hown, hg⟩ := h.update (Maps.int_keyed und_int64) und_seen (by unfold maxLen; omega) (Maps.keyOf_int_mk und_int64 ha) (plainElem_bool und_bool true)
  refine ⟨w', hrun, ⟨n + 1, _, hown, by simp; omega, hM.put _ _, ?_⟩, hg⟩
  intro c hc
  by_cases he : c = a
  · subst he
    rw [Maps.atKey_put_same hM (by trivial)]
    simp
  · rw [Maps.atKey_put_other (by intro e; cases e; exact he rfl), hat c hc]
    simp [he]

theorem dcsL_len (P : Pr) (U V : List (List Int)) : (dcsL P U V).length ≤ 729 := by
  by_cases h : twoOk P U V
  · have h9 := (grp_of_r h.1).v.le729
    by_cases h2 : 128 < ordP P
    · rw [(dcs_big h h2).2]; simp
    · rw [(dcs_ok h h2).2]
      have := dcTo_len P (gU P U) (gU P V) (ordP P).toNat
      omega
  · rw [(dcs_bad h).2]; simp
theorem dcTo_mem {P : Pr} (hP : Valid P) {H K : List Int → Prop} {k : Nat} : ∀ x ∈ dcTo P H K k, Vec P.orders x := by
  induction k with
  | zero => intro x hx; cases hx
  | succ k ih =>
    intro x hx
    by_cases h : dcSeen P H K (dcTo P H K k) k
    · rw [dcTo_seen h] at hx; exact ih x hx
    · rw [dcTo_new h] at hx
      rcases List.mem_append.1 hx with h1 | h1
      · exact ih x h1
      · have : x = elAt P k := by simpa using h1
        rw [this]; exact elAt_vec hP (k : Int) (by omega)
theorem dcsL_tot (P : Pr) (U V : List (List Int)) : tot2 (dcsL P U V) ≤ 1000000 := by
  have hl := dcsL_len P U V
  have hb : ∀ x ∈ dcsL P U V, x.length ≤ 6 := by
    intro x hx
    by_cases h : twoOk P U V
    · have hP := (grp_of_r h.1).v
      by_cases h2 : 128 < ordP P
      · rw [(dcs_big h h2).2] at hx; cases hx
      · rw [(dcs_ok h h2).2] at hx
        rw [(dcTo_mem hP x hx).1]; exact hP.n6
    · rw [(dcs_bad h).2] at hx; cases hx
  have := sz_bound List.length (dcsL P U V) 6 hb _ (Nat.le_refl _)
  unfold tot2; omega

theorem SlOA.with_low {α : Type} [Inhabited α] {El : (Nat → Prop) → World → Value → α → Prop} {E B m : Nat} {A : Nat → Prop} {w : World} {v : Value} {xs : List α} (h : SlOA El E B A w v xs) (hm : m < B) : SlOA El E B (fun b => b = m ∨ A b) w v xs := by
  obtain ⟨vs, G, h1, h2, h3, h4, h5, h6, h7⟩ := h
  exact ⟨vs, G, h1, h2, h3, h4, h5, fun i k hi hk e => by
    rcases e with e | e
    · have := (h3 i k hi hk).1; omega
    · exact h6 i k hi hk e, fun k hk e => by
    rcases e with e | e
    · have := (h2.lt k hk).1; omega
    · exact h7 k hk e⟩

set_option maxRecDepth 100000 in
set_option maxHeartbeats 8000000 in
theorem iDcs_ok (P : Pr) (w : World) (pv uv vv : Value) (U V : List (List Int)) (Sp Su Sv : Nat → Prop) (hpv : PresV Sp w pv P) (hu : Rows2 Su w uv U) (hv : Rows2 Sv w vv V) :
    Calls Tryz.prog 43 #[pv, uv, vv] w (Ret w fun w' v => ∃ a n c, v = .tuple #[.slice a n c, .int .i64 (dcsC P U V)] ∧ RowsO w.heap.size w' (.slice a n c) (dcsL P U V)) := by
  obtain ⟨vo, vp, vc, rfl, h3⟩ := hpv
  have hp0 := PresP.box h3 32
  have hg0 : Ext w (w.alloc (.cells #[vo, vp, vc] 32)) := World.grownBy_alloc _ _ _
  have hs0 : (w.alloc (.cells #[vo, vp, vc] 32)).heap.size = w.heap.size + 1 := by simp
  have hu0 := Rows2.ext hu hg0
  have hv0 := Rows2.ext hv hg0
  obtain ⟨au, capu, rfl, _, _⟩ := Sl.shape hu
  obtain ⟨av, capv, rfl, _, _⟩ := Sl.shape hv
  have hg1 : Ext (w.alloc (.cells #[vo, vp, vc] 32)) ((w.alloc (.cells #[vo, vp, vc] 32)).alloc (.cells #[.slice au U.length capu, .slice av V.length capv] 23)) := World.grownBy_alloc _ _ _
  have hl := rows3Two hu0 hv0
  have hcon := areSubgroups_ok P _ _ _ [U, V] Any Any (hp0.ext hg1) hl
  rw [hs0] at hcon
  clear hl hu hv
  go_enter Tryz.func43, Tryz.ntmps43
  go_wp2_with fail
  refine Calls.mono hcon ?_
  rintro e1 w1 ⟨v1, rfl, hgA, r1, rfl, hr1⟩
  clear hcon
  have hr1 : r1 = true ↔ twoOk P U V := by rw [hr1]; unfold twoOk; simp
  have hg01 := grown_trans hg1 hgA
  have HS := Lib.hid hs0; clear hs0
  generalize hw0 : w.alloc (.cells #[vo, vp, vc] 32) = w0 at *
  clear hw0 hg1 hgA
  cases r1 with
  | false =>
    obtain ⟨hc, hL⟩ := dcs_bad (P := P) (U := U) (V := V) (fun h => by have := hr1.2 h; cases this)
    have HC := Lib.hid (And.intro hc hL); clear hc hL hr1
    go_wp2
    go_ret2
    exact ⟨_, rfl, grown_trans hg0 hg01, none, 0, 0, by rw [HC.out.1]; rfl, by rw [HC.out.2]; exact SlO.nil _ _ _ _⟩
  | true =>
    have hok := hr1.1 rfl
    have G := grp_of_r hok.1
    have hP := G.v
    have hn6 := hP.n6
    have h729 : ordP P ≤ 729 := hP.le729
    have hpos := hP.ordP_pos
    have hU := hok.2.1.2
    have hV := hok.2.2.2
    have HOK := Lib.hid hok; clear hr1 hok
    have hu1 : Rows2 Su w1 (.slice au U.length capu) (cseq P (gU P U)) := by rw [← hU]; exact Rows2.ext hu0 hg01
    have hv1 : Rows2 Sv w1 (.slice av V.length capv) (cseq P (gU P V)) := by rw [← hV]; exact Rows2.ext hv0 hg01
    have HUV := Lib.hid (And.intro hU hV); clear hU hV hr1
    obtain ⟨N, hN⟩ : ∃ N, N = (ordP P).toNat := ⟨_, rfl⟩
    have hNo : (N : Int) = ordP P := by omega
    have HNo := Lib.hid (And.intro hN hNo)
    go_wp2_with fail
    refine Calls.mono (orderOf_ok w1 _ P Any hP (hp0.ext hg01)) ?_
    rintro e2 w2 ⟨rfl, rfl⟩
    rw [← hNo]
    by_cases hbig : 128 < ordP P
    · obtain ⟨hc, hL⟩ := dcs_big HOK.out hbig
      have hbN : (128 : Int) < N := by omega
      have HC := Lib.hid (And.intro hc hL); clear hc hL hbig hN hNo h729 hpos
      go_wp2
      go_ret2
      exact ⟨_, rfl, grown_trans hg0 hg01, none, 0, 0, by rw [HC.out.1]; rfl, by rw [HC.out.2]; exact SlO.nil _ _ _ _⟩
    · obtain ⟨hc, hL⟩ := dcs_ok HOK.out hbig
      have hbN : ¬ (128 : Int) < N := by omega
      have hN128 : N ≤ 128 := by omega
      have hN1 : 1 ≤ N := by omega
      have HC := Lib.hid (And.intro hc hL); clear hc hL hbig hN hNo h729 hpos
      obtain ⟨H, hH⟩ : ∃ H, H = gU P U := ⟨_, rfl⟩
      obtain ⟨K, hK⟩ : ∃ K, K = gU P V := ⟨_, rfl⟩
      have hSH : Sub P H := by rw [hH]; exact G.subB HOK.out.2.1
      have hSK : Sub P K := by rw [hK]; exact G.subB HOK.out.2.2
      rw [← hH] at hu1
      rw [← hK] at hv1
      have hlH := G.cseq_len hSH
      have hlK := G.cseq_len hSK
      have hqH := (G.seq_facts hSH).1
      have hqK := (G.seq_facts hSK).1
      have heH := G.els_sorted hSH
      have heK := G.els_sorted hSK
      have hla := elemsIn_len hP H
      have hlb := elemsIn_len hP K
      have HHK := Lib.hid (And.intro hH (And.intro hK (And.intro hSH (And.intro hSK (And.intro hqH (And.intro hqK (And.intro heH heK))))))); clear hH hK hSH hSK hqH hqK heH heK
      have hmk := run_makeSeen2 w1
      have hS2 := Seen.made w1
      have hg2 : Ext w1 (w1.alloc (.map #[] 0)) := World.grownBy_alloc _ _ _
      have hsz2 : (w1.alloc (.map #[] 0)).heap.size = w1.heap.size + 1 := by simp
      have hs01 : w.heap.size < w1.heap.size := by have := hg01.size; have := HS.out; omega
      go_wp2_with fail
      clear hmk
      generalize hw2 : w1.alloc (.map #[] 0) = w2 at *
      clear hw2
      have hg02 := grown_trans hg01 hg2
      refine Calls.mono (elementsOf_ok P G w2 _ _ (cseq P H) Any Su (hp0.ext hg02) (Rows2.ext hu1 hg2) HHK.out.2.2.2.2.1 (by omega)) ?_
      rintro e3 w3 ⟨v3, rfl, hg3, hOA⟩
      rw [HHK.out.2.2.2.2.2.2.1] at hOA
      obtain ⟨aA, capA, hvA, _, _⟩ := SlD.shape (hOA.toD (by omega))
      subst hvA
      have hg23 := grown_trans hg2 hg3
      go_wp2_with fail
      refine Calls.mono (elementsOf_ok P G w3 _ _ (cseq P K) Any Sv (hp0.ext (grown_trans hg01 hg23)) (Rows2.ext hv1 hg23) HHK.out.2.2.2.2.2.1 (by omega)) ?_
      rintro e4 w4 ⟨v4, rfl, hg4, hOB⟩
      rw [HHK.out.2.2.2.2.2.2.2] at hOB
      obtain ⟨aB, capB, hvB, _, _⟩ := SlD.shape (hOB.toD (by omega))
      subst hvB
      have hg14 := grown_trans hg23 hg4
      go_wp2_with fail
      refine Calls.mono (allElements_ok P hP w4 _ Any (hp0.ext (grown_trans hg01 hg14))) ?_
      rintro e5 w5 ⟨v5, rfl, hg5, hOE⟩
      have hg15 := grown_trans hg14 hg5
      have hel : (allEl P).length = N := by rw [HNo.out.1]; simp [allEl]
      obtain ⟨aE, capE, hvE, _, _⟩ := SlD.shape (hOE.toD (by omega))
      rw [hel] at hvE
      subst hvE
      have hSz : w1.heap.size + 1 ≤ w4.heap.size ∧ w4.heap.size ≤ w5.heap.size ∧ w2.heap.size = w1.heap.size + 1 := ⟨by have := hg3.size; have := hg4.size; omega, hg5.size, hsz2⟩
      obtain ⟨mb, hmb⟩ : ∃ mb, mb = w1.heap.size := ⟨_, rfl⟩
      rw [← hmb] at hS2 hSz hs01 ⊢
      have hm0 : w0.heap.size ≤ mb := by rw [hmb]; exact hg01.size
      have hS5 := ((hS2.kept hg3 (by simp)).kept hg4 (by simp)).kept hg5 (by simp)
      have hA5 : Rows2 (fun b => mb < b) w5 (.slice aA (elemsIn P H).length capA) (elemsIn P H) := Rows2.sub (Rows2.ext (RowsD.rows (hOA.toD (by omega))) (grown_trans hg4 hg5)) (fun b hb _ => by have h1 : w2.heap.size ≤ b := hb; omega)
      have hB5 : Rows2 (fun b => mb < b) w5 (.slice aB (elemsIn P K).length capB) (elemsIn P K) := Rows2.sub (Rows2.ext (RowsD.rows (hOB.toD (by omega))) hg5) (fun b hb _ => by have h1 : w3.heap.size ≤ b := hb; have := hg3.size; omega)
      have hVA : ∀ z ∈ elemsIn P H, Vec P.orders z := fun z hz => HHK.out.2.2.1.vec z ((elemsIn_mem hP HHK.out.2.2.1.vec z).1 hz)
      have hVB : ∀ z ∈ elemsIn P K, Vec P.orders z := fun z hz => HHK.out.2.2.2.1.vec z ((elemsIn_mem hP HHK.out.2.2.2.1.vec z).1 hz)
      have hdcL := dcM_len (P := P) (H := H) (K := K)
      have hdcN : ∀ k, ¬ dcSeen P H K (dcTo P H K k) k → dcM P H K (k + 1) = rowM P (elemsIn P H) (elemsIn P K) (elAt P k) (elemsIn P H).length ++ dcM P H K k := fun k h => dcM_new h
      obtain ⟨A, hA⟩ : ∃ A, A = elemsIn P H := ⟨_, rfl⟩
      obtain ⟨B, hB⟩ : ∃ B, B = elemsIn P K := ⟨_, rfl⟩
      rw [← hA] at hla hA5 hVA hdcL hdcN ⊢
      rw [← hB] at hlb hB5 hVB hdcL hdcN ⊢
      have hg05 := grown_trans hg01 hg15
      have hg5w := grown_trans hg0 hg05
      obtain ⟨vs, F, hvl, hOv, hF, hFd, hFE⟩ := hOE
      rw [hel] at hvl hF hFd hFE
      have hgE : ∃ g, aE = some ⟨g, 0, none⟩ ∧ w4.heap.size ≤ g := by
        rcases hOv.form with ⟨h1, h2⟩ | ⟨g, cp, h1, _, h2, _⟩
        · rw [h2] at hvl; simp at hvl; omega
        · simp only [Value.slice.injEq] at h1; exact ⟨g, h1.1, h2⟩
      obtain ⟨gE, rfl, hgEb⟩ := hgE
      have hel2 : ∀ k, k < N → gt (allEl P) k = elAt P k := fun k hk => by
        rw [gt_eq _ _ (by rw [hel]; exact hk)]; simp [allEl]
      have HV := Lib.hid (And.intro hVA (And.intro hVB (And.intro hF (And.intro hFd (And.intro hFE (And.intro hmb (And.intro hdcL (And.intro hdcN (And.intro hel2 (And.intro hvl (And.intro hA hB))))))))))); clear hVA hVB hF hFd hFE hmb hS2 hOA hOB hg2 hg3 hg4 hg23 hg14 hg02 hsz2 hdcL hdcN hel2 hvl hA hB hel
      have hS0 : Seen w5 mb (dcM P H K 0) := hS5
      have hm5 : mb < w5.heap.size := by omega
      clear hS5
      go_wp2
      go_loopw [8, 33] (fun ov iv wr => ∃ (k : Nat) (v9 : Value), v9 = ov ∧ iv = .int .i64 k ∧ k ≤ N ∧ w5.grownBy wr (some mb) ∧ SlOA OwnIn 22 w4.heap.size (Rest w5.heap.size F k N) wr v9 (dcTo P H K k) ∧ Seen wr mb (dcM P H K k) ∧ Hid (∀ b, v9.ownBlock = some b → w5.heap.size ≤ b)) (fun _ iv _ => N - (intOf iv).toNat)
      case atStart => exact ⟨0, _, rfl, rfl, by omega, grown_refl _ _, SlOA.nil _ _ _ _ _, hS0, Lib.hid (fun b hb => by simp [Value.ownBlock] at hb)⟩
      case round =>
        clear hS0
        obtain ⟨k, v9, rfl, rfl, hk, hg, hO, hS, hob⟩ := hrel
        have hg0r : Ext w0 wr := grown_own hg05 hg (fun b hb hlt => by cases hb; omega)
        have hdl := dcTo_len P H K k
        by_cases hlt : k < N
        · have hlt' : (k : Int) < N := by omega
          have hxE := HV.out.2.2.2.2.1 k hlt
          rw [HV.out.2.2.2.2.2.2.2.2.1 k hlt] at hxE
          have hxV := elAt_vec hP (k : Int) (by omega)
          have hxn : num P (elAt P (k : Int)) = k := num_elAt hP _ (by omega) (by have := HNo.out.2; omega)
          obtain ⟨x, hx⟩ : ∃ x, x = elAt P (k : Int) := ⟨_, rfl⟩
          rw [← hx] at hxE hxV hxn
          have hxl : x.length ≤ 6 := by rw [hxV.1]; exact hn6
          have hwfk : (Lit.int .i64 (k : Int)).wf = true := by rw [← hxn]; exact num_wf2 hP hxV
          obtain ⟨ax, cx, hvx, _, _⟩ := hxE.ints.shape
          have hcx := hg.cell (hOv.cell k (by rw [HV.out.2.2.2.2.2.2.2.2.2.1]; exact hlt)) (by simp; omega)
          rw [hvx] at hcx hxE
          have hxE2 := rdOwn.mono (F' := F k) hxE (fun b hb hlt2 => ⟨hb, Nat.lt_of_lt_of_le hlt2 hg.size, hg.block b hlt2 (fun e => by have := (HV.out.2.2.1 k b hlt hb).1; cases e; omega)⟩)
          have hlook := hS.look (k : Int) hwfk
          have HX := Lib.hid (And.intro hxV (And.intro hxn (And.intro hx (And.intro hxl hwfk)))); clear hvx hxE hxV hxn hx hxl hwfk
          go_wp2_with fail
          refine Calls.mono (numberOf_ok P hP wr _ _ x _ _ (hp0.ext hg0r) hxE2.ints HX.out.1) ?_
          rintro e6 w6 ⟨rfl, rfl⟩
          rw [HX.out.2.1]
          by_cases hin : (k : Int) ∈ dcM P H K k
          · have hds := (G.dcM_mem HHK.out.2.2.1 HHK.out.2.2.2.1 k k).1 hin
            rw [decide_eq_true hin] at hlook
            have HDS := Lib.hid (And.intro hin hds); clear hin hds
            go_wp2
            clear hlook
            go_roundw
            case rel =>
              refine ⟨k + 1, v9, rfl, by go_num, by omega, hg, ?_, ?_, hob⟩
              · rw [dcTo_seen HDS.out.2]; exact hO.less (fun b ⟨h1, i, h2, h3, h4⟩ => ⟨h1, i, by omega, h3, h4⟩)
              · rw [dcM_seen HDS.out.2]; exact hS
            case measure => simp [intOf]; omega
          · have hds : ¬ dcSeen P H K (dcTo P H K k) k := fun h => hin ((G.dcM_mem HHK.out.2.2.1 HHK.out.2.2.2.1 k k).2 h)
            rw [decide_eq_false hin] at hlook
            have hnext : dcTo P H K (k + 1) = dcTo P H K k ++ [x] := by rw [HX.out.2.2.1]; exact dcTo_new hds
            have hnextM := HV.out.2.2.2.2.2.2.2.1 k hds
            rw [← HX.out.2.2.1] at hnextM
            have hF1 : ∀ b, F k b → b < wr.heap.size → Rest w5.heap.size F k N b ∧ w4.heap.size ≤ b := fun b hb _ => by
              obtain ⟨f1, _, f3⟩ := HV.out.2.2.1 k b hlt hb
              exact ⟨⟨f3, k, Nat.le_refl _, hlt, hb⟩, f1⟩
            have hF2 : ∀ b, Rest w5.heap.size F (k + 1) N b → Rest w5.heap.size F k N b ∧ ¬ F k b := fun b ⟨h1, i, h2, h3, h4⟩ =>
              ⟨⟨h1, i, by omega, h3, h4⟩, fun h => by have := HV.out.2.2.2.1 i k b h3 hlt h4 h; omega⟩
            have hF3 : ∀ b, Rest w5.heap.size F k N b → b < wr.heap.size := fun b hb => Nat.lt_of_lt_of_le hb.1 hg.size
            have hF4 : ∀ b, F k b → b < w5.heap.size ∧ mb < b := fun b hb => by obtain ⟨f1, _, f3⟩ := HV.out.2.2.1 k b hlt hb; exact ⟨f3, by omega⟩
            have HD := Lib.hid (And.intro hnext (And.intro hnextM (And.intro hF1 (And.intro hF2 (And.intro hF3 hF4))))); clear hin hds hnext hnextM hF1 hF2 hF3 hF4
            go_wp2_with (first | (at_builtin; refine wp_app_take rfl _ _ rfl w4.heap.size (Rest w5.heap.size F k N) (Rest w5.heap.size F (k + 1) N) (F k) wr v9 _ (dcTo P H K k) x rfl hO hxE2 HD.out.2.2.1 HD.out.2.2.2.1 HD.out.2.2.2.2.1 rfl rfl (by omega) (by have := hg.size; omega) ?_; intro v7 w7 hA7 hg7 hob7) | fail)
            have hg57 : w5.grownBy w7 (some mb) := grown_own hg hg7 (fun b hb hlt2 => by have := hob.out b hb; omega)
            have hS7 := hS.kept hg7 (fun e => by have := hob.out mb e.symm; omega)
            have hx7 : Ints (fun b => mb < b) w7 (.slice ax x.length cx) x := Ints.mono hxE2.ints (fun b hb hlt2 => ⟨(HD.out.2.2.2.2.2 b hb).2, Nat.lt_of_lt_of_le hlt2 hg7.size, hg7.block b hlt2 (fun e => by have := hob.out b e.symm; have := (HD.out.2.2.2.2.2 b hb).1; omega)⟩)
            have hob8 : ∀ b, v7.ownBlock = some b → w5.heap.size ≤ b := fun b hb => by
              rcases hob7 with h | h
              · exact hob.out b (by rw [← h]; exact hb)
              · have := h b hb; have := hg.size; omega
            have HOB := Lib.hid hob8; clear hob8 hob7 hob
            rw [← HD.out.1] at hA7
            have hS70 : Seen w7 mb (rowM P A B x 0 ++ dcM P H K k) := hS7
            have hm7 : w5.heap.size ≤ w7.heap.size := hg57.size
            clear hO hS hg hg7 hxE2 hlook hS7
            go_wp2
            go_loopw [47] (fun jv wr => ∃ j : Nat, jv = .int .i64 j ∧ j ≤ A.length ∧ w7.grownBy wr (some mb) ∧ Seen wr mb (rowM P A B x j ++ dcM P H K k)) (fun jv _ => A.length - (intOf jv).toNat)
            case atStart => exact ⟨0, rfl, by omega, grown_refl _ _, hS70⟩
            case round =>
              clear hS70
              obtain ⟨j, rfl, hj, hgj, hS⟩ := hrel
              have hg5r := grown_trans hg57 hgj
              have hg0j : Ext w0 wr := grown_own hg05 hg5r (fun b hb hlt => by cases hb; omega)
              by_cases hltj : j < A.length
              · have hltj' : (j : Int) < A.length := by omega
                have hAr : Rows2 Any wr (.slice aA A.length capA) A := Rows2.mono hA5 (frame_of hg5r (fun b hb _ => ⟨trivial, fun e => by cases e; omega⟩))
                obtain ⟨b1, o1, a1, c1, rfl, _, _, hca, hra⟩ := Rows2.at hAr j hltj
                have hxr : Ints Any wr (.slice ax x.length cx) x := Ints.mono hx7 (frame_of hgj (fun b hb _ => ⟨trivial, fun e => by cases e; omega⟩))
                have hyV := HV.out.1 _ (gtMem hltj)
                have hmV := G.mulV hyV HX.out.1
                have hmT := G.tv_eq hyV HX.out.1
                obtain ⟨y, hy⟩ : ∃ y, y = rMul P (gt A j) x := ⟨_, rfl⟩
                rw [← hy] at hmV hmT
                have hml : y.length ≤ 6 := by rw [hmV.1]; exact hn6
                have hrow : rowM P A B x (j + 1) = innM P y B B.length ++ rowM P A B x j := by rw [hy]; rfl
                have hM1 := rowM_len P A B x j
                have hM2 := HV.out.2.2.2.2.2.2.1 k
                have hM3 : j * B.length ≤ 729 * 729 := Nat.mul_le_mul (by omega) hlb
                have hM4 : k * (A.length * B.length) ≤ 128 * (729 * 729) := Nat.mul_le_mul (by omega) (Nat.mul_le_mul hla hlb)
                have hML : (rowM P A B x j ++ dcM P H K k).length ≤ 500000000 := by rw [List.length_append]; omega
                obtain ⟨R, hR⟩ : ∃ R, R = rowM P A B x j ++ dcM P H K k := ⟨_, rfl⟩
                have hrow2 : rowM P A B x (j + 1) ++ dcM P H K k = innM P y B B.length ++ R := by rw [hrow, hR, List.append_assoc]
                rw [← hR] at hS hML
                have HY := Lib.hid (And.intro hyV (And.intro hmV (And.intro hmT (And.intro hml (And.intro hrow2 (And.intro hR hML)))))); clear hy hyV hmV hmT hml hrow hrow2 hR hML hM1 hM2 hM3 hM4
                go_wp2_with fail
                refine Calls.mono (multiply_ok P hP wr _ _ _ (gt A j) x Any Any Any (hp0.ext hg0j) hra hxr HY.out.1 HX.out.1) ?_
                rintro eC wC ⟨vC, rfl, hgC, hOC⟩
                rw [HY.out.2.2.1] at hOC
                have hCi : Ints (fun b => mb < b) wC vC y := ints_of_own hOC (by have := HY.out.2.2.2.1; omega) (fun b hb => by have h1 := (hOC.lt b hb).1; have := hgj.size; omega)
                obtain ⟨aC, capC, hvC, _, _⟩ := hCi.shape
                subst hvC
                have hg7C : w7.grownBy wC (some mb) := grown_trans hgj (grown_of_ext _ hgC)
                have hSC : Seen wC mb (innM P y B 0 ++ R) := hS.kept hgC (by simp)
                have hm7C : w7.heap.size ≤ wC.heap.size := hg7C.size
                clear hS hgj hg5r hg0j hAr hra hxr hca hgC hOC
                go_wp2
                go_loopw [56] (fun tv wr => ∃ t : Nat, tv = .int .i64 t ∧ t ≤ B.length ∧ wC.grownBy wr (some mb) ∧ Seen wr mb (innM P y B t ++ R)) (fun tv _ => B.length - (intOf tv).toNat)
                case atStart => exact ⟨0, rfl, by omega, grown_refl _ _, hSC⟩
                case round =>
                  clear hSC
                  obtain ⟨t, rfl, ht, hgt, hS⟩ := hrel
                  have hg7r := grown_trans hg7C hgt
                  have hg5r := grown_trans hg57 hg7r
                  have hg0t : Ext w0 wr := grown_own hg05 hg5r (fun b hb hlt => by cases hb; omega)
                  by_cases hltt : t < B.length
                  · have hltt' : (t : Int) < B.length := by omega
                    have hBr : Rows2 Any wr (.slice aB B.length capB) B := Rows2.mono hB5 (frame_of hg5r (fun b hb _ => ⟨trivial, fun e => by cases e; omega⟩))
                    obtain ⟨b2, o2, a2, c2, rfl, _, _, hcb, hrb⟩ := Rows2.at hBr t hltt
                    have hyr : Ints Any wr (.slice aC y.length capC) y := Ints.mono hCi (frame_of hgt (fun b hb _ => ⟨trivial, fun e => by cases e; omega⟩))
                    have hzV := HV.out.2.1 _ (gtMem hltt)
                    have hpV := G.mulV HY.out.2.1 hzV
                    have hpT := G.tv_eq HY.out.2.1 hzV
                    obtain ⟨z, hz⟩ : ∃ z, z = rMul P y (gt B t) := ⟨_, rfl⟩
                    rw [← hz] at hpV hpT
                    have hzl : z.length ≤ 6 := by rw [hpV.1]; exact hn6
                    have hinn : innM P y B (t + 1) ++ R = num P z :: (innM P y B t ++ R) := by rw [hz]; rfl
                    have hil := innM_len P y B t
                    have hIL : (innM P y B t ++ R).length ≤ 1000000000 := by rw [List.length_append]; have := HY.out.2.2.2.2.2.2; omega
                    obtain ⟨m, hm⟩ : ∃ m, m = num P z := ⟨_, rfl⟩
                    have hwfm : (Lit.int .i64 m).wf = true := by rw [hm]; exact num_wf2 hP hpV
                    have HZ := Lib.hid (And.intro hzV (And.intro hpV (And.intro hpT (And.intro hzl (And.intro hinn (And.intro hIL (And.intro hm hwfm))))))); clear hzV hpV hpT hz hzl hinn hil hIL hm hwfm
                    go_wp2_with fail
                    refine Calls.mono (multiply_ok P hP wr _ _ _ y (gt B t) Any Any Any (hp0.ext hg0t) hyr hrb HY.out.2.1 HZ.out.1) ?_
                    rintro eD wD ⟨vD, rfl, hgD, hOD⟩
                    rw [HZ.out.2.2.1] at hOD
                    have hDi : Ints Any wD vD z := ints_of_own hOD (by have := HZ.out.2.2.2.1; omega) (fun _ _ => trivial)
                    obtain ⟨aD, capD, hvD, _, _⟩ := hDi.shape
                    subst hvD
                    go_wp2_with fail
                    refine Calls.mono (numberOf_ok P hP wD _ _ z _ _ (hp0.ext (grown_trans hg0t hgD)) hDi HZ.out.2.1) ?_
                    rintro eF wF ⟨rfl, rfl⟩
                    rw [← HZ.out.2.2.2.2.2.2.1]
                    obtain ⟨wU, hrun, hSU, hgU⟩ := (hS.kept hgD (by simp)).updateL m HZ.out.2.2.2.2.2.2.2 HZ.out.2.2.2.2.2.1
                    have hSU2 : Seen wU mb (innM P y B (t + 1) ++ R) := by rw [HZ.out.2.2.2.2.1, ← HZ.out.2.2.2.2.2.2.1]; exact hSU
                    have hgn : wC.grownBy wU (some mb) := grown_trans (grown_trans hgt (grown_of_ext _ hgD)) hgU
                    clear hSU hgU hOD hDi hyr hrb hcb hBr hg0t hg5r hg7r
                    go_wp2
                    clear hrun
                    go_roundw
                    case rel => exact ⟨t + 1, by go_num, by omega, hgn, hSU2⟩
                    case measure => simp [intOf]; omega
                  · have hte : t = B.length := by omega
                    subst hte
                    rw [← HY.out.2.2.2.2.1] at hS
                    go_wp2
                    go_roundw
                    case rel => exact ⟨j + 1, by go_num, by omega, hg7r, hS⟩
                    case measure => simp [intOf]; omega
              · have hje : j = A.length := by omega
                rw [hje, ← HD.out.2.1] at hS
                have hA9 : SlOA OwnIn 22 w4.heap.size (fun b => b = mb ∨ Rest w5.heap.size F (k + 1) N b) w7 v7 (dcTo P H K (k + 1)) := hA7.with_low (by omega)
                have hA10 := (hA9.kept rdOwn hgj (.inl rfl)).less (A' := Rest w5.heap.size F (k + 1) N) (fun b hb => .inr hb)
                go_wp2
                go_roundw
                case rel => exact ⟨k + 1, v7, rfl, by go_num, by omega, hg5r, hA10, hS, HOB⟩
                case measure => simp [intOf]; omega
        · have hke : k = N := by omega
          have hOR : RowsO w.heap.size wr v9 (dcsL P U V) := by
            rw [HC.out.2, ← HHK.out.1, ← HHK.out.2.1, ← HNo.out.1, ← hke]
            exact hO.o.weak (by omega)
          obtain ⟨az, capz, hvz, _, _⟩ := SlD.shape (hO.o.toD (by omega))
          subst hvz
          go_wp2
          go_ret2
          exact ⟨_, rfl, grown_trans hg0 hg0r, _, _, _, by rw [HC.out.1]; rfl, hOR⟩

end Go.Proofs.YtchbegeklckgnaaGreat
