/-
  spec.l14Double: the row of marks of a double coset.
-/
import Derived.Test.YtchbegeklckgnaaGreatSDcsLaw
namespace Go.Proofs.YtchbegeklckgnaaGreat
open Go.RowKit

/-- the marks of a list of numbers -/
def markL (N : Nat) (ns : List Int) : List Bool := (List.range N).map (fun i : Nat => decide ((i : Int) ∈ ns))
theorem markL_len (N : Nat) (ns : List Int) : (markL N ns).length = N := by unfold markL; simp
theorem markL_set {N : Nat} {a : Int} {ns : List Int} (h0 : 0 ≤ a) : (markL N ns).set a.toNat true = markL N (a :: ns) := by
  refine List.ext_getElem (by simp [markL]) (fun i h1 h2 => ?_)
  have hi : i < N := by rw [markL_len] at h2; exact h2
  rw [List.getElem_set]
  unfold markL
  simp only [List.getElem_map, List.getElem_range, List.mem_cons]
  by_cases he : a.toNat = i
  · have : (i : Int) = a := by omega
    simp [he, this]
  · have : ¬ (i : Int) = a := by omega
    simp [he, this]

theorem markL_nil (N : Nat) : markL N [] = List.replicate N false := by
  refine List.ext_getElem (by simp [markL]) (fun i h1 h2 => ?_)
  simp [markL]

set_option maxRecDepth 100000 in
set_option maxHeartbeats 8000000 in
theorem l14Double_ok (P : Pr) (G : Grp P) (w : World) (pv uv vv xv : Value) (H K : List Int → Prop) (X : List Int) (Sp Su Sv Sx : Nat → Prop) (S : Sub P H) (R : Sub P K) (hpv : PresV Sp w pv P) (hu : Rows2 Su w uv (cseq P H)) (hv : Rows2 Sv w vv (cseq P K)) (hx : Ints Sx w xv X) (hX : Vec P.orders X) :
    Calls Tryz.prog 81 #[pv, uv, vv, xv] w (Ret w fun w' v => BOwn w.heap.size w' v (markL (ordP P).toNat (rowM P (elemsIn P H) (elemsIn P K) X (elemsIn P H).length))) := by
  have hP := G.v
  have hn6 := hP.n6
  have h729 : ordP P ≤ 729 := hP.le729
  have hpos := hP.ordP_pos
  obtain ⟨vo, vp, vc, rfl, h3⟩ := hpv
  have hp0 := PresP.box h3 32
  have hg0 : Ext w (w.alloc (.cells #[vo, vp, vc] 32)) := World.grownBy_alloc _ _ _
  have hu0 := Rows2.ext hu hg0
  have hv0 := Rows2.ext hv hg0
  have hx0 := hx.ext hg0
  have hs0 : (w.alloc (.cells #[vo, vp, vc] 32)).heap.size = w.heap.size + 1 := by simp
  obtain ⟨au, capu, rfl, _, _⟩ := Sl.shape hu
  obtain ⟨av, capv, rfl, _, _⟩ := Sl.shape hv
  obtain ⟨ax, capx, rfl, _, _⟩ := hx.shape
  obtain ⟨vo6, vp6, vc6, _, _, hc0, hc1, hc2, h36⟩ := hp0.at
  simp only [Nat.zero_add] at hc1 hc2
  have hbx : ∀ w', Ext (w.alloc (.cells #[vo, vp, vc] 32)) w' → w'.cell? ⟨w.heap.size, 0, none⟩ = some vo6 ∧ w'.cell? ⟨w.heap.size, 1, none⟩ = some vp6 ∧ w'.cell? ⟨w.heap.size, 2, none⟩ = some vc6 := fun w' h => ⟨h.cell hc0 (by simp), h.cell hc1 (by simp), h.cell hc2 (by simp)⟩
  have HB := Lib.hid hbx; clear hbx
  have hE := l10Order_ok (w.alloc (.cells #[vo, vp, vc] 32)) _ P Any hP ⟨_, _, _, rfl, h36⟩
  have HX := Lib.hid hX; clear hX hp0 hu hv hx
  go_enter Tryz.func81, Tryz.ntmps81
  go_wp2_with fail
  have HS := Lib.hid hs0; clear hs0 hc0 hc1 hc2
  generalize hw0 : w.alloc (.cells #[vo, vp, vc] 32) = w0 at *
  clear hw0
  refine Calls.mono hE ?_
  rintro e2 w2 ⟨v2, rfl, hg2, rfl⟩
  clear hE
  have hle2 := hg2.size
  obtain ⟨N, hN⟩ : ∃ N, N = (ordP P).toNat := ⟨_, rfl⟩
  have hNo : (N : Int) = ordP P := by omega
  rw [← hNo]
  have HNo := Lib.hid (And.intro hN hNo)
  have hN729 : N ≤ 729 := by omega
  clear hN hNo
  go_wp2_with (first | (at_make; refine wp_make_bools rfl _ _ rfl w2.heap.size N w2.heap.size rfl (N : Int) rfl rfl rfl (by omega) (Nat.le_refl _) ?_; intro w3 hM3 hg3 hlt3) | fail)
  have hg03 := grown_trans hg2 hg3
  obtain ⟨hc0, hc1, hc2⟩ := HB.out w3 hg03
  have hs2 : w.heap.size < w2.heap.size := by have := HS.out; omega
  have f1 : ∀ w', Ext w3 w' → w'.cell? ⟨w.heap.size, 0, none⟩ = some vo6 := fun w' h => h.cell hc0 (by simp)
  have f2 : ∀ w', Ext w3 w' → w'.cell? ⟨w.heap.size, 1, none⟩ = some vp6 := fun w' h => h.cell hc1 (by simp)
  have f3 : ∀ w', Ext w3 w' → w'.cell? ⟨w.heap.size, 2, none⟩ = some vc6 := fun w' h => h.cell hc2 (by simp)
  clear hc0 hc1 hc2
  have hla := elemsIn_len hP H
  have hlb := elemsIn_len hP K
  go_wp2
  go_region_held3 (fun w' => Ext w3 w') (first | exact grown_drew _ _ | assumption)
    (first
      | (revert hgA; intro hgA; go_at_call 60; refine Calls.mono (Calls.rel2 (w0 := w3) (by assumption) (l12Elements_ok P G _ _ _ K Any Any R ⟨_, _, _, rfl, Pres3.ext h36 (grown_trans hg03 (by assumption))⟩ (Rows2.sub (Rows2.ext hv0 (grown_trans hg03 (by assumption))) (fun _ _ _ => trivial)))) ?_; rintro eB wB ⟨vB, rfl, hgB, hgB2, hsB, hOB⟩; obtain ⟨aB, capB, hvB, _, _⟩ := SlD.shape (hOB.toD (by omega)); subst hvB)
      | (go_at_call 60; refine Calls.mono (Calls.rel (w0 := w3) (by assumption) (l12Elements_ok P G _ _ _ H Any Any S ⟨_, _, _, rfl, Pres3.ext h36 (grown_trans hg03 (by assumption))⟩ (Rows2.sub (Rows2.ext hu0 (grown_trans hg03 (by assumption))) (fun _ _ _ => trivial)))) ?_; rintro eA wA ⟨vA, rfl, hgA, hsA, hOA⟩; obtain ⟨aA, capA, hvA, _, _⟩ := SlD.shape (hOA.toD (by omega)); subst hvA))
  clear f1 f2 f3
  have hge : w2.heap.size < w3.heap.size := hlt3
  have hsA3 : w3.heap.size ≤ w3.drew.heap.size := (grown_drew w3 none).size
  have hA5 : Rows2 (fun k => w2.heap.size < k) wB (.slice aA (elemsIn P H).length capA) (elemsIn P H) := Rows2.sub (Rows2.ext (RowsD.rows (hOA.toD (by omega))) hgB2) (fun k hk _ => by have : _ ≤ k := hk; omega)
  have hB5 : Rows2 (fun k => w2.heap.size < k) wB (.slice aB (elemsIn P K).length capB) (elemsIn P K) := Rows2.sub (RowsD.rows (hOB.toD (by omega))) (fun k hk _ => by have h1 : _ ≤ k := hk; have := hgA.size; omega)
  have hVA : ∀ z ∈ elemsIn P H, Vec P.orders z := fun z hz => S.vec z ((elemsIn_mem hP S.vec z).1 hz)
  have hVB : ∀ z ∈ elemsIn P K, Vec P.orders z := fun z hz => R.vec z ((elemsIn_mem hP R.vec z).1 hz)
  obtain ⟨A, hA⟩ : ∃ A, A = elemsIn P H := ⟨_, rfl⟩
  obtain ⟨B, hB⟩ : ∃ B, B = elemsIn P K := ⟨_, rfl⟩
  rw [← hA] at hla hA5 hVA ⊢
  rw [← hB] at hlb hB5 hVB ⊢
  have HAB := Lib.hid (And.intro hA (And.intro hB (And.intro hVA hVB))); clear hA hB hVA hVB hOA hOB
  have hM5 : BOwn w2.heap.size wB (.slice (some ⟨w2.heap.size, 0, none⟩) N N) (markL N (rowM P A B X 0)) := by
    have := hM3.ext0 hgB
    rw [← markL_nil] at this; exact this
  have hE25 := grown_trans hg3 hgB
  have hsz5 : w3.heap.size ≤ wB.heap.size := hgB.size
  clear hM3 hgA hgB hgB2 hsA hsB hsA3
  go_wp2
  go_loopw [12] (fun iv wr => ∃ i : Nat, iv = .int .i64 i ∧ i ≤ A.length ∧ wB.grownBy wr (some w2.heap.size) ∧ BOwn w2.heap.size wr (.slice (some ⟨w2.heap.size, 0, none⟩) N N) (markL N (rowM P A B X i))) (fun iv _ => A.length - (intOf iv).toNat)
  case atStart => exact ⟨0, rfl, by omega, grown_refl _ _, hM5⟩
  case round =>
    clear hM5
    obtain ⟨i, rfl, hi, hgi, hM⟩ := hrel
    have hE2r : Ext w2 wr := grown_own hE25 hgi (fun j hj hlt => by cases hj; omega)
    have hE0r := grown_trans hg2 hE2r
    by_cases hlt : i < A.length
    · have hlt' : (i : Int) < A.length := by omega
      have hAr : Rows2 Any wr (.slice aA A.length capA) A := Rows2.mono hA5 (frame_of hgi (fun j hj _ => ⟨trivial, fun e => by cases e; omega⟩))
      have hyV := HAB.out.2.2.1 _ (gtMem hlt)
      have hmV := G.mulV hyV HX.out
      obtain ⟨y, hy⟩ : ∃ y, y = rMul P (gt A i) X := ⟨_, rfl⟩
      rw [← hy] at hmV
      have hml : y.length ≤ 6 := by rw [hmV.1]; exact hn6
      have hrow : rowM P A B X (i + 1) = innM P y B B.length ++ rowM P A B X i := by rw [hy]; rfl
      have HY := Lib.hid (And.intro hy (And.intro hyV (And.intro hmV (And.intro hml hrow)))); clear hy hyV hmV hml hrow
      obtain ⟨b1, o1, a1, c1, rfl, _, _, hca, hra⟩ := Rows2.at hAr i hlt
      obtain ⟨hc0, hc1, hc2⟩ := HB.out wr hE0r
      have f1 : ∀ w', Ext wr w' → w'.cell? ⟨w.heap.size, 0, none⟩ = some vo6 := fun w' h => h.cell hc0 (by simp)
      have f2 : ∀ w', Ext wr w' → w'.cell? ⟨w.heap.size, 1, none⟩ = some vp6 := fun w' h => h.cell hc1 (by simp)
      have f3 : ∀ w', Ext wr w' → w'.cell? ⟨w.heap.size, 2, none⟩ = some vc6 := fun w' h => h.cell hc2 (by simp)
      have f4 : ∀ w', Ext wr w' → w'.cell? ⟨b1, o1 + i, none⟩ = some (.slice a1 (gt A i).length c1) := fun w' h => h.cell hca (by simp)
      clear hc0 hc1 hc2 hca
      go_wp2
      go_region_held3 (fun w' => Ext wr w') (first | exact grown_drew _ _ | assumption)
        (first
          | (go_at_call 129; refine Calls.mono (Calls.rel (w0 := wr) (by assumption) (l08Mul_ok P hP _ _ _ _ (gt A i) X Any Any Any ⟨_, _, _, rfl, Pres3.ext h36 (grown_trans hE0r (by assumption))⟩ (Ints.sub (Ints.ext hra (by assumption)) (fun _ _ _ => trivial)) (Ints.sub (Ints.ext hx0 (grown_trans hE0r (by assumption))) (fun _ _ _ => trivial)) HY.out.2.1 HX.out)) ?_; rintro eC wC ⟨vC, rfl, hgC, hsC, hOC⟩; rw [← HY.out.1] at hOC; have hCi : Ints (fun k => w2.heap.size < k) wC vC y := ints_of_own hOC (by have := HY.out.2.2.2.1; omega) (fun k hk => by have h1 := (hOC.lt k hk).1; have h2 := hgi.size; have h3 : wr.heap.size ≤ wr.drew.heap.size := (grown_drew wr none).size; omega); obtain ⟨aC, capC, hvC, _, _⟩ := hCi.shape; subst hvC))
      clear f1 f2 f3 f4
      have hgwC : wB.grownBy wC (some w2.heap.size) := grown_trans hgi (grown_of_ext _ hgC)
      have hMC : BOwn w2.heap.size wC (.slice (some ⟨w2.heap.size, 0, none⟩) N N) (markL N (innM P y B 0 ++ rowM P A B X i)) := hM.ext0 hgC
      have hE2C := grown_trans hE2r hgC
      clear hM hOC hsC hgC hgi hAr hra hE2r hE0r
      go_wp2
      go_loopw [14] (fun jv wr => ∃ j : Nat, jv = .int .i64 j ∧ j ≤ B.length ∧ wC.grownBy wr (some w2.heap.size) ∧ BOwn w2.heap.size wr (.slice (some ⟨w2.heap.size, 0, none⟩) N N) (markL N (innM P y B j ++ rowM P A B X i))) (fun jv _ => B.length - (intOf jv).toNat)
      case atStart => exact ⟨0, rfl, by omega, grown_refl _ _, hMC⟩
      case round =>
        clear hMC
        obtain ⟨j, rfl, hj, hgj, hM⟩ := hrel
        have hE2r : Ext w2 wr := grown_own hE2C hgj (fun k hk hlt => by cases hk; omega)
        have hE0r := grown_trans hg2 hE2r
        have hgB := grown_trans hgwC hgj
        by_cases hltj : j < B.length
        · have hltj' : (j : Int) < B.length := by omega
          have hBr : Rows2 (fun k => w2.heap.size < k) wr (.slice aB B.length capB) B := Rows2.mono hB5 (frame_of hgB (fun k hk _ => ⟨hk, fun e => by cases e; omega⟩))
          have hyr : Ints Any wr (.slice aC y.length capC) y := Ints.mono hCi (frame_of hgj (fun k hk _ => ⟨trivial, fun e => by cases e; omega⟩))
          obtain ⟨b1, o1, a1, c1, rfl, hb1s, _, hcb, hrb⟩ := Rows2.at hBr j hltj
          have hb1s : w2.heap.size < b1 := hb1s
          have hzV := HAB.out.2.2.2 _ (gtMem hltj)
          have hpV := G.mulV HY.out.2.2.1 hzV
          have hpl : (rMul P y (gt B j)).length ≤ 6 := by rw [hpV.1]; exact hn6
          obtain ⟨n0, n1⟩ := num_bd hP hpV
          obtain ⟨m, hm⟩ : ∃ m, m = num P (rMul P y (gt B j)) := ⟨_, rfl⟩
          rw [← hm] at n0 n1
          have hst : markL N (innM P y B (j + 1) ++ rowM P A B X i) = (markL N (innM P y B j ++ rowM P A B X i)).set m.toNat true := by rw [markL_set n0, hm]; rfl
          have hmN : m < N := by have := HNo.out.2; omega
          have hcel := hM.cell m.toNat (by rw [markL_len]; omega)
          have hfr := hM.frozen m.toNat
          have HZ := Lib.hid (And.intro hzV (And.intro hpV (And.intro hpl (And.intro hm hst)))); clear hzV hpV hpl hm hst
          obtain ⟨hc0, hc1, hc2⟩ := HB.out wr hE0r
          have e1 : ∀ w', Near wr w2.heap.size w' → w'.cell? ⟨w.heap.size, 0, none⟩ = some vo6 := fun w' h => h.cell hc0 (by simp; omega)
          have e2 : ∀ w', Near wr w2.heap.size w' → w'.cell? ⟨w.heap.size, 1, none⟩ = some vp6 := fun w' h => h.cell hc1 (by simp; omega)
          have e3 : ∀ w', Near wr w2.heap.size w' → w'.cell? ⟨w.heap.size, 2, none⟩ = some vc6 := fun w' h => h.cell hc2 (by simp; omega)
          have e4 : ∀ w', Near wr w2.heap.size w' → w'.cell? ⟨b1, o1 + j, none⟩ = some (.slice a1 (gt B j).length c1) := fun w' h => h.cell hcb (by simp; omega)
          clear hc0 hc1 hc2 hcb
          have h3r := Pres3.ext h36 hE0r
          go_wp2
          go_region_held3 (fun w' => Near wr w2.heap.size w') (first | exact Near.of (grown_drew _ _) | exact Near.of (by assumption) | exact Near.store (by assumption) | assumption)
            (first
              | (go_at_call 129; refine Calls.mono (Calls.rel (w0 := wr) (by first | exact grown_drew _ _ | assumption) (l08Mul_ok P hP _ _ _ _ y (gt B j) Any Any Any ⟨_, _, _, rfl, Pres3.ext h3r (by first | exact grown_drew _ _ | assumption)⟩ (Ints.ext hyr (by first | exact grown_drew _ _ | assumption)) (Ints.sub (Ints.ext hrb (by first | exact grown_drew _ _ | assumption)) (fun _ _ _ => trivial)) HY.out.2.2.1 HZ.out.1)) ?_; rintro eF wF ⟨vF, rfl, hgF, hsF, hOF⟩; have hFi := hOF.ints (by have := HZ.out.2.2.1; omega))
              | (go_at_call 109; refine Calls.mono (Calls.rel (w0 := wr) (by assumption) (l10Number_ok P hP _ _ _ _ Any Any ⟨_, _, _, rfl, Pres3.ext h3r (by assumption)⟩ hFi HZ.out.2.1)) ?_; rintro eG wG ⟨vG, rfl, hgG, hsG, hvG⟩; rw [← HZ.out.2.2.2.1] at hvG; subst hvG; have hcel2 := hgG.cell hcel (by simp); have hfr2 := (hM.ext0 hgG).frozen m.toNat))
          clear e1 e2 e3 e4
          obtain ⟨hO3, hgs⟩ := (hM.ext0 hgG).store m.toNat true
          have hgn : wC.grownBy (wG.setCell ⟨w2.heap.size, m.toNat, none⟩ (.bool true)) (some w2.heap.size) := grown_trans (grown_trans hgj (grown_of_ext _ hgG)) hgs
          rw [← HZ.out.2.2.2.2] at hO3
          clear hcel hcel2 hfr hfr2 hgs
          go_wp2
          go_roundw
          case rel => exact ⟨j + 1, by go_num, by omega, hgn, hO3⟩
          case measure => simp [intOf]; omega
        · have hje : j = B.length := by omega
          subst hje
          rw [← HY.out.2.2.2.2] at hM
          go_wp2
          go_roundw
          case rel => exact ⟨i + 1, by go_num, by omega, hgB, hM⟩
          case measure => simp [intOf]; omega
    · have hie : i = A.length := by omega
      have HIE := Lib.hid hie; clear hie
      go_wp2
      go_ret
      exact ⟨_, rfl, grown_trans hg0 hE0r, by
        rw [← HNo.out.1, ← HAB.out.1, ← HAB.out.2.1, ← HIE.out]
        exact hM.weak (by omega)⟩

end Go.Proofs.YtchbegeklckgnaaGreat
