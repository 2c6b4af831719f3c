/-
  spec.l19Sequence: the sequence of the subgroup that a mask tells.
  What a run does to the count of draws: it never falls.
  impl.pivots and impl.sizeOf again: the count of draws does not fall. (Printed from PivW and SizeW.)
  slices.Concat at integers: the numbers of all rows, in order. cmp.Or at int.
  The library's sort at [][]int64, laid from the shelf.
  A row that the call has built, sorted by the library: any elements of one cell. (After the library's Sort/OwnSortedInts, at a general reading.)
  The order of subgroups as a comparison: by order, then by the entries.
  impl.compareSubgroups, impl.latticeOf$1, cmp.Or at int.
  spec.l03Flat, spec.l01Less, spec.l19Before.
  Maps that a call makes, by a general reading: what stands under each key.
  impl.keyOf: the bytes of all entries, each row closed by a semicolon.
  The lattice's maps: masks seen; the mask of a key.
  Moebius values of a list of masks in ascending order.
  laws.toPresentation: a copy of a presentation, each part in blocks of its own.
  The laws' comparisons: laws.eqInt64SS, eqInt64SSS, eqPresentation.
-/
import Derived.Test.YtigbpdaomgagiaaGreatK7
import Derived.Test.YtigbpdaomgagiaaGreatK6
import Derived.Test.YtigbpdaomgagiaaGreatK5
import Derived.Test.YtigbpdaomgagiaaGreatK1
import Derived.Shelf.Spec.SlicesGrow
import Derived.Shelf.SlSortCmp.NoneTotal
import Derived.Sort.OwnSortedInts
import Derived.Test.YtigbpdaomgagiaaGreatK4
import Derived.Maps.OwnSet
import Derived.Maps.StringElems
import Derived.StringKeys
import Derived.Laws.BytesArg
import Derived.Deep.RegionHeld3
/- spec.l19Sequence: the sequence of the subgroup that a mask tells. -/
namespace Go.Proofs.YtigbpdaomgagiaaGreat
open Go.RowKit

def dmk (n : Nat) (L : List (List Int)) : List Bool := (List.range n).map (fun d => L.any (fun y => dep y == d))
theorem dmk_len (n : Nat) (L : List (List Int)) : (dmk n L).length = n := by unfold dmk; simp
theorem dmk_nil (n : Nat) : dmk n [] = List.replicate n false := by
  refine List.ext_getElem (by simp [dmk]) (fun i h1 h2 => ?_)
  simp [dmk]
theorem dmk_app (n : Nat) (L : List (List Int)) (x : List Int) : (dmk n L).set (dep x) true = dmk n (L ++ [x]) := by
  refine List.ext_getElem (by simp [dmk]) (fun i h1 h2 => ?_)
  rw [List.getElem_set]
  unfold dmk
  simp only [List.getElem_map, List.getElem_range, List.any_append, List.any_cons, List.any_nil, Bool.or_false]
  by_cases he : dep x = i
  · simp [he]
  · have : (dep x == i) = false := by simpa using he
    rw [if_neg he, this, Bool.or_false]
theorem dmk_at {n d : Nat} {L : List (List Int)} (hd : d < n) : gt (dmk n L) d = true ↔ ∃ y ∈ L, dep y = d := by
  rw [gt_eq _ _ (by rw [dmk_len]; exact hd)]
  simp [dmk]

theorem ShQ.rowsB {bad : Nat → Prop} {B : Nat} {w : World} {v : Value} {xs : List (List Int)} (h : ShQ bad B w v xs) (hb : ∀ k, bad k → k < B) : Rows2 (fun k => ¬ bad k) w v xs := by
  obtain ⟨vs, hl, hq, hr⟩ := h
  rcases hq with ⟨rfl, rfl⟩ | ⟨g, off, cap, cur, rfl, hB, hg, hnc, hcm, hsz, hc⟩
  · have : xs = [] := List.eq_nil_of_length_eq_zero (by simpa using hl.symm)
    subst this
    exact ⟨none, 0, rfl, ⟨by simp, by simp, fun _ => rfl⟩, fun i hi => by simp at hi⟩
  · have hgs : g < w.heap.size := (Array.getElem?_eq_some_iff.1 hg).1
    have hcm2 : cap ≤ 9223372036854775807 := by unfold maxLen at hcm; omega
    refine ⟨_, cap, by rw [hl], ⟨by omega, by omega, fun h => by cases h⟩, fun i hi => ⟨g, off, gt vs i, rfl, fun h => by have := hb g h; omega, hgs, ?_, Ints.sub (hr i hi) (fun k hk _ => hk.1)⟩⟩
    simp only [World.cell?, hg, Option.isSome_none, Bool.false_eq_true, if_false]
    exact hc i (by omega)

/-- fits as far as the depths below e tell -/
def FitE (L : List (List Int)) (d : Nat) (x : List Int) (e : Nat) : Prop := dep x = d ∧ gt x d = 1 ∧ ∀ e', d < e' → e' < e → (∃ y ∈ L, dep y = e') → gt x e' = 0
theorem fitE_end (P : Pr) (L : List (List Int)) (d : Nat) (x : List Int) : FitE L d x P.orders.length ↔ Fits P L d x := Iff.rfl
theorem fitE_step {L : List (List Int)} {d : Nat} {x : List Int} {e : Nat} (hde : d < e) : FitE L d x (e + 1) ↔ FitE L d x e ∧ ((∃ y ∈ L, dep y = e) → gt x e = 0) :=
  ⟨fun ⟨h1, h2, h3⟩ => ⟨⟨h1, h2, fun e' a b => h3 e' a (by omega)⟩, h3 e hde (by omega)⟩, fun ⟨⟨h1, h2, h3⟩, h4⟩ => ⟨h1, h2, fun e' a b => by
    rcases Nat.lt_succ_iff_lt_or_eq.1 b with h | h
    · exact h3 e' a h
    · subst h; exact h4⟩⟩

open Classical in
noncomputable def fitT (P : Pr) (L : List (List Int)) (d k : Nat) : List (List Int) := (L.take k).filter (fun x => decide (Fits P L d x))
theorem fitT_yes {P : Pr} {L : List (List Int)} {d k : Nat} (hk : k < L.length) (h : Fits P L d (gt L k)) : fitT P L d (k + 1) = fitT P L d k ++ [gt L k] := by
  unfold fitT; rw [take_succ_gt L k hk, List.filter_append]; simp [h]
theorem fitT_no {P : Pr} {L : List (List Int)} {d k : Nat} (hk : k < L.length) (h : ¬ Fits P L d (gt L k)) : fitT P L d (k + 1) = fitT P L d k := by
  unfold fitT; rw [take_succ_gt L k hk, List.filter_append]; simp [h]
theorem fitT_all (P : Pr) (L : List (List Int)) (d : Nat) : seqTo P L d ++ fitT P L d L.length = seqTo P L (d + 1) := by
  unfold fitT; rw [List.take_length]; rfl
open Classical in
theorem fitT_len (P : Pr) (L : List (List Int)) (d k : Nat) : (fitT P L d k).length ≤ k := by
  unfold fitT
  have := List.length_filter_le (fun x => decide (Fits P L d x)) (L.take k)
  rw [List.length_take] at this
  omega
theorem seqTo_len (P : Pr) (L : List (List Int)) (d : Nat) : (seqTo P L d).length ≤ d * L.length := by
  induction d with
  | zero => simp [seqTo]
  | succ d ih =>
    have := fitT_len P L d L.length
    rw [← fitT_all, List.length_append, Nat.succ_mul]; omega

set_option maxRecDepth 100000 in
set_option maxHeartbeats 8000000 in
theorem l19Sequence_ok (P : Pr) (G : Grp P) (w : World) (pv : Value) (H : List Int → Prop) (Sp : Nat → Prop) (S : Sub P H) (h32 : ordP P ≤ 32) (hpv : PresV Sp w pv P) :
    Calls Tryz.prog 132 #[pv, .int .i64 ((msk P H : Nat) : Int)] w (Ret w fun w' v => Rows2 (From w.heap.size) w' v (cseq P H)) := by
  have hP := G.v
  have hn6 := hP.n6
  have hpos := hP.ordP_pos
  obtain ⟨n, hn⟩ : ∃ n, n = P.orders.length := ⟨_, rfl⟩
  rw [← hn] at hn6
  have HN2 := Lib.hid hn
  obtain ⟨vo, vp, vc, rfl, h3⟩ := hpv
  obtain ⟨ao, capo, hvo, _, _⟩ := h3.o.shape
  rw [← hn] at hvo
  subst hvo
  clear hn
  have hp0 := PresP.box h3 31
  have hg0 : Ext w (w.alloc (.cells #[.slice ao n capo, vp, vc] 31)) := World.grownBy_alloc _ _ _
  obtain ⟨vo6, vp6, vc6, _, _, hc0, hc1, hc2, h36⟩ := hp0.at
  simp only [Nat.zero_add] at hc1 hc2
  have hbx : ∀ w', Ext (w.alloc (.cells #[.slice ao n capo, vp, vc] 31)) w' → w'.cell? ⟨w.heap.size, 0, none⟩ = some vo6 ∧ w'.cell? ⟨w.heap.size, 1, none⟩ = some vp6 ∧ w'.cell? ⟨w.heap.size, 2, none⟩ = some vc6 := fun w' h => ⟨h.cell hc0 (by simp), h.cell hc1 (by simp), h.cell hc2 (by simp)⟩
  have hs0 : (w.alloc (.cells #[.slice ao n capo, vp, vc] 31)).heap.size = w.heap.size + 1 := by simp
  have HB := Lib.hid (And.intro hbx hs0); clear hbx hs0 hp0
  obtain ⟨N, hN⟩ : ∃ N, N = (ordP P).toNat := ⟨_, rfl⟩
  have hNo : ordP P = (N : Int) := by omega
  have hN32 : N ≤ 32 := by omega
  have hNpos : 1 ≤ N := by omega
  have hfin := G.seqTo_eq S
  obtain ⟨m, hm⟩ : ∃ m, m = msk P H := ⟨_, rfl⟩
  rw [← hm, ← hN] at hfin
  rw [← hm]
  have HN := Lib.hid (And.intro hN (And.intro hNo (And.intro hm hfin))); clear hN hNo hm hfin hpos h32
  go_enter Tryz.func132, Tryz.ntmps132
  have hs1 : ((w.alloc (.cells #[.slice ao n capo, vp, vc] 31)).alloc (.cells #[] 22)).heap.size = w.heap.size + 1 + 1 := by simp
  have hg1 : Ext (w.alloc (.cells #[.slice ao n capo, vp, vc] 31)) ((w.alloc (.cells #[.slice ao n capo, vp, vc] 31)).alloc (.cells #[] 22)) := World.grownBy_alloc _ _ _
  have hL1 : SlOA OwnIn 22 (w.heap.size + 1) (fun k => k = w.heap.size + 1 + 1) ((w.alloc (.cells #[.slice ao n capo, vp, vc] 31)).alloc (.cells #[] 22)) (.slice (some ⟨w.heap.size + 1, 0, none⟩) 0 0) [] := by
    refine ⟨[], fun _ _ => False, rfl, ?_, by simp, by simp, by simp, by simp, fun k hk => by have := own_blk hk; omega⟩
    have : OwnV (w.alloc (.cells #[.slice ao n capo, vp, vc] 31)).heap.size 22 ((w.alloc (.cells #[.slice ao n capo, vp, vc] 31)).alloc (.cells #[] 22)) (.slice (some ⟨(w.alloc (.cells #[.slice ao n capo, vp, vc] 31)).heap.size, 0, none⟩) 0 0) [] := World.ownsRow_lit (w.alloc (.cells #[.slice ao n capo, vp, vc] 31)) #[] 0 (Nat.le_refl _) (by decide) rfl
    rw [HB.out.2] at this; exact this
  have HL1 := Lib.hid (And.intro hs1 (And.intro hg1 hL1)); clear hs1 hg1 hL1
  go_wp2_with (first | (at_make; refine wp_make_bools rfl _ _ rfl (w.heap.size + 1 + 1) n (w.heap.size + 1 + 1) HL1.out.1 (n : Int) rfl rfl rfl (by omega) (Nat.le_refl _) ?_; intro w3 hM3 hg3 hlt3) | fail)
  clear hc0 hc1 hc2
  generalize hw0 : w.alloc (.cells #[.slice ao n capo, vp, vc] 31) = w0 at *
  clear hw0
  have hg03 := grown_trans HL1.out.2.1 hg3
  have hL3 := HL1.out.2.2.ext rdOwn hg3
  have hlo : w0.heap.size = w.heap.size + 1 := HB.out.2
  obtain ⟨db, hdb⟩ : ∃ db, db = w.heap.size + 1 + 1 := ⟨_, rfl⟩
  rw [← hdb] at hM3 hL3 hlt3
  rw [← hdb]
  have hdb1 : w.heap.size + 1 < db := by omega
  clear hdb
  have HDB := Lib.hid (And.intro hL3 hM3); clear hL3 hM3
  go_loopw [5, 7] (fun ov tv wr => ∃ (t : Nat) (v5 : Value), v5 = ov ∧ tv = .int .i64 t ∧ 1 ≤ t ∧ t ≤ N ∧ Ext w0 wr ∧ db < wr.heap.size ∧ SlOA OwnIn 22 (w.heap.size + 1) (fun k => k = db) wr v5 (memL P m t) ∧ BOwn db wr (.slice (some ⟨db, 0, none⟩) n n) (dmk n (memL P m t))) (fun _ tv _ => N - (intOf tv).toNat)
  case atStart => exact ⟨1, _, rfl, rfl, by omega, hNpos, hg03, hlt3, HDB.out.1, by rw [show memL P m 1 = [] from rfl, dmk_nil]; exact HDB.out.2⟩
  case round =>
    clear HDB
    obtain ⟨t, v5, rfl, rfl, ht1, ht, hg, hdl, hL, hD⟩ := hrel
    obtain ⟨hc0, hc1, hc2⟩ := HB.out.1 wr hg
    have hor := l10Order_ok wr _ P Any hP ⟨_, _, _, rfl, Pres3.ext h36 hg⟩
    rw [HN.out.2.1] at hor
    have hml := memL_len P m t
    go_wp2_with fail
    clear hc0 hc1 hc2
    refine Calls.mono hor ?_
    rintro eo wo ⟨vo', rfl, hgo, rfl⟩
    clear hor
    have hgo0 := grown_trans hg hgo
    have hLo := hL.ext rdOwn hgo
    have hDo := hD.ext0 hgo
    have hdo : db < wo.heap.size := Nat.lt_of_lt_of_le hdl hgo.size
    clear hL hD hdl
    by_cases hlt : t < N
    · have hlt' : (t : Int) < N := by omega
      have hrem := bit_rem m t
      cases hb : m.testBit t with
      | false =>
        rw [hb] at hrem
        have hrem : ((m : Int) / 2 ^ t).tmod 2 = 0 := hrem
        have hst : memL P m (t + 1) = memL P m t := by rw [memL, if_neg (by rw [hb]; simp)]
        have HS := Lib.hid hst; clear hst hb
        go_wp2
        clear hrem
        go_roundw
        case rel => exact ⟨t + 1, v5, rfl, by go_num, by omega, by omega, hgo0, hdo, by rw [HS.out]; exact hLo, by rw [HS.out]; exact hDo⟩
        case measure => simp [intOf]; omega
      | true =>
        rw [hb] at hrem
        have hrem : ((m : Int) / 2 ^ t).tmod 2 = 1 := hrem
        have hst : memL P m (t + 1) = memL P m t ++ [elAt P (t : Int)] := by rw [memL, if_pos ⟨by omega, hb⟩]
        have htN : t < (ordP P).toNat := by have := HN.out.1; omega
        have hxV : Vec P.orders (elAt P (t : Int)) := G.elAtV htN
        have hxn : dep (elAt P (t : Int)) < n := by
          have h1 := dep_le (elAt P (t : Int))
          rw [hxV.1] at h1
          rcases Nat.lt_or_ge (dep (elAt P (t : Int))) P.orders.length with h2 | h2
          · rw [HN2.out]; exact h2
          · have h4 := (dep_top hP hxV).1 (by omega)
            have h5 := G.num_el htN
            rw [h4, num_zeros hP] at h5
            omega
        have hdset := dmk_app n (memL P m t) (elAt P (t : Int))
        obtain ⟨x, hx⟩ : ∃ x, x = elAt P (t : Int) := ⟨_, rfl⟩
        have hxl : x.length ≤ 6 := by rw [hx, hxV.1, ← HN2.out]; exact hn6
        rw [← hx] at hst hxV hxn hdset
        obtain ⟨d, hd⟩ : ∃ d, d = dep x := ⟨_, rfl⟩
        rw [← hd] at hxn hdset
        rw [← hst] at hdset
        have HS := Lib.hid (And.intro hst (And.intro hxV (And.intro hdset (And.intro hx (And.intro hd hxl))))); clear hst hb hdset hxV hx hd hxl
        obtain ⟨hc0, hc1, hc2⟩ := HB.out.1 wo hgo0
        go_wp2_with fail
        clear hrem hc0 hc1 hc2
        refine Calls.mono (l10At_ok P hP wo _ (t : Int) Any ⟨_, _, _, rfl, Pres3.ext h36 hgo0⟩ (by omega) (by omega)) ?_
        rintro eX wX ⟨xv, rfl, hgX, hOX⟩
        rw [← HS.out.2.2.2.1] at hOX
        have hXI : OwnIn (From wo.heap.size) wX xv x := OwnIn.of hOX (by have := HS.out.2.2.2.2.2; omega) (fun k h1 _ => h1)
        obtain ⟨xa, xc, hxv, _, _⟩ := hXI.ints.shape
        subst hxv
        have hml2 : (memL P m t).length ≤ 1000000 := by omega
        go_wp2_with (first | (at_builtin; refine wp_app_rowA rfl _ _ rfl (w.heap.size + 1) (fun k => k = db) wo wX v5 _ (memL P m t) x rfl hLo (fun k hk => by omega) none hgX (fun k hk => by cases hk) hXI rfl rfl hml2 (by have := hgo0.size; omega) ?_; intro v8 w8 hL8 hg8) | fail)
        have hav := hLo.avoids
        have hg08 : Ext w0 w8 := grown_own (grown_trans hgo0 hgX) hg8 (fun b hb hlt => by have := (hav b hb).2.1; omega)
        have hD8 : BOwn db w8 (.slice (some ⟨db, 0, none⟩) n n) (dmk n (memL P m t)) := by
          have h1 := hDo.ext0 hgX
          cases hv : v5.ownBlock with
          | none => rw [hv] at hg8; exact h1.ext0 hg8
          | some r => rw [hv] at hg8; exact h1.keep hg8 (fun e => (hav r hv).1 e.symm)
        have hX8 : Ints Any w8 (.slice xa x.length xc) x := Ints.mono hXI.ints (frame_of hg8 (fun k hk _ => ⟨trivial, fun e => by
          have h1 : wo.heap.size ≤ k := hk
          have := (hav k e).2.2; omega⟩))
        have hd8 : db < w8.heap.size := Nat.lt_of_lt_of_le hdo (Nat.le_trans hgX.size hg8.size)
        clear hLo hDo hg8 hgX hXI hOX
        refine Calls.mono (l12Depth_ok _ x w8 Any hX8) ?_
        rintro eD wD ⟨dv, rfl, hgD, hdv⟩
        rw [← HS.out.2.2.2.2.1] at hdv
        subst hdv
        have hDD := hD8.ext0 hgD
        have hLD := hL8.ext rdOwn hgD
        have hcel := hDD.cell d (by rw [dmk_len]; exact hxn)
        have hfr := hDD.frozen d
        have hxn' : (d : Int) < n := by omega
        obtain ⟨hD9, hgs⟩ := hDD.store d true
        have hL9 := hLD.kept rdOwn hgs rfl
        have hg09 := grown_own (grown_trans hg08 hgD) hgs (fun b hb hlt => by cases hb; omega)
        rw [HS.out.2.2.1] at hD9
        rw [← HS.out.1] at hL9
        have hd9 : db < (wD.setCell ⟨db, d, none⟩ (.bool true)).heap.size := by have := hgs.size; have := hgD.size; omega
        have HF := Lib.hid (And.intro hD9 (And.intro hL9 (And.intro hg09 hd9))); clear hD9 hL9 hg09 hd9 hgs hLD hDD hL8 hD8 hX8
        go_wp2
        clear hcel hfr
        go_roundw
        case rel => exact ⟨t + 1, v8, rfl, by go_num, by omega, by omega, HF.out.2.2.1, HF.out.2.2.2, HF.out.2.1, HF.out.1⟩
        case measure => simp [intOf]; omega
    · have hte : t = N := by omega
      rw [hte] at hLo hDo
      have hml3 := memL_len P m N
      obtain ⟨L, hLd⟩ : ∃ L, L = memL P m N := ⟨_, rfl⟩
      rw [← hLd] at hLo hDo hml3
      have hLV : ∀ x ∈ L, x.length = n := fun x hx => by
        rw [hLd] at hx
        obtain ⟨t', h1, _, _, rfl⟩ := memL_mem.1 hx
        rw [(G.elAtV (by have := HN.out.1; omega)).1, HN2.out]
      have hfin := HN.out.2.2.2
      rw [← hLd, ← HN2.out] at hfin
      have hsl : ∀ d k, d ≤ n → k ≤ L.length → (seqTo P L d ++ fitT P L d k).length ≤ 1000000 := fun d k hd hk => by
        have h1 := seqTo_len P L d
        have h2 := fitT_len P L d k
        have h3 : d * L.length ≤ 6 * 32 := Nat.mul_le_mul (by omega) (by omega)
        rw [List.length_append]; omega
      have hR0 := RowsD.rows (hLo.o.toD (by omega))
      obtain ⟨al, capl, hvl, _, _⟩ := Sl.shape hR0
      subst hvl
      have HL := Lib.hid (And.intro hLV (And.intro hfin hsl)); clear hLV hfin hsl hLd hml hLo
      have hnt : ¬ (t : Int) < N := by omega
      have hR0 : Rows2 (From (w.heap.size + 1)) wo (.slice al L.length capl) L := hR0
      go_wp2
      clear hnt hte hlt ht ht1 hg hgo
      obtain ⟨wL, rfl⟩ : ∃ wL : World, wL = wo := ⟨_, rfl⟩
      go_loopw [9, 10] (fun ov dv wr => ∃ (d : Nat) (v9 : Value), v9 = ov ∧ dv = .int .i64 d ∧ d ≤ n ∧ Ext wL wr ∧ ShQ (fun k => k < w.heap.size) wL.heap.size wr v9 (seqTo P L d)) (fun _ dv _ => n - (intOf dv).toNat)
      case atStart => exact ⟨0, _, rfl, rfl, by omega, World.grownBy_alloc _ _ _, ShQ.lit _ _ _ (Nat.le_refl _)⟩
      case round =>
        obtain ⟨d, v9, rfl, rfl, hd, hg, hQ⟩ := hrel
        by_cases hltd : d < n
        · have hltd' : (d : Int) < n := by omega
          go_wp2
          go_loopw [9, 11] (fun ov kv wr => ∃ (k : Nat) (v9 : Value), v9 = ov ∧ kv = .int .i64 k ∧ k ≤ L.length ∧ Ext wL wr ∧ ShQ (fun k => k < w.heap.size) wL.heap.size wr v9 (seqTo P L d ++ fitT P L d k)) (fun _ kv _ => L.length - (intOf kv).toNat)
          case atStart => exact ⟨0, v9, rfl, rfl, by omega, hg, by rw [show fitT P L d 0 = [] by simp [fitT], List.append_nil]; exact hQ⟩
          case round =>
            clear hg hQ
            obtain ⟨k, v9, rfl, rfl, hk, hg, hQ⟩ := hrel
            by_cases hlt : k < L.length
            · have hlt' : (k : Int) < L.length := by omega
              obtain ⟨bb, off, a2, cap2, hal, _, _, hc, hr⟩ := Rows2.at hR0 k hlt
              subst hal
              have hcr := hg.cell hc (by simp)
              have hxl := HL.out.1 _ (gtMem hlt)
              have hyes := fitT_yes (P := P) (d := d) hlt
              have hno := fitT_no (P := P) (d := d) hlt
              have hsl := HL.out.2.2 d k hd hk
              obtain ⟨x, hx⟩ : ∃ x, x = gt L k := ⟨_, rfl⟩
              rw [← hx] at hc hcr hr hxl hyes hno
              rw [hxl] at hc hcr
              have hrn : Ints (From (w.heap.size + 1)) wL (.slice a2 n cap2) x := by rw [← hxl]; exact hr
              have HX := Lib.hid (And.intro hxl (And.intro hyes (And.intro hno (And.intro hsl hx)))); clear hyes hno hsl hr hx hc
              go_wp2_with fail
              clear hcr
              refine Calls.mono (l12Depth_ok _ x wr _ (Ints.ext hrn hg)) ?_
              rintro eD wD ⟨dv, rfl, hgD, rfl⟩
              have hgLD := grown_trans hg hgD
              have hrD := Ints.ext hrn hgLD
              have hQD := hQ.ext hgD
              obtain ⟨bd, od, hbd, _, _, hcd⟩ := Ints.at hrD d (by omega)
              subst hbd
              have hDD := hDo.ext0 hgLD
              have hcs : (dep x = d ∧ gt x d = 1) ∨ (dep x = d ∧ ¬ gt x d = 1) ∨ ¬ dep x = d := by omega
              clear hQ hg
              rcases hcs with ⟨h1, h2⟩ | ⟨h1, h2⟩ | h1
              have HF0 : Hid ((true = true) ↔ FitE L d x (d + 1)) := Lib.hid ⟨fun _ => ⟨h1, h2, fun e' a b => by omega⟩, fun _ => rfl⟩
              have h1' : ((dep x : Nat) : Int) = (d : Int) := by omega
              clear h1
              go_wp2
              rotate_left
              have HF0 : Hid ((false = true) ↔ FitE L d x (d + 1)) := Lib.hid ⟨fun h => (by cases h), fun h => absurd h.2.1 h2⟩
              have h2 : (gt x d == 1) = false := by simpa using h2
              have h1' : ((dep x : Nat) : Int) = (d : Int) := by omega
              clear h1
              go_wp2
              rotate_left
              have HF0 : Hid ((false = true) ↔ FitE L d x (d + 1)) := Lib.hid ⟨fun h => (by cases h), fun h => absurd h.1 h1⟩
              have h1' : ¬ ((dep x : Nat) : Int) = (d : Int) := by omega
              have h2 : True := trivial
              clear h1
              go_wp2
              rotate_left
              all_goals
                clear hcd
                go_loopw [13, 14] (fun fv ev wr => ∃ (f : Bool) (e : Nat), fv = .bool f ∧ ev = .int .i64 e ∧ d + 1 ≤ e ∧ e ≤ n ∧ wr = wD ∧ Hid (f = true ↔ FitE L d x e)) (fun _ ev _ => n - (intOf ev).toNat)
                case atStart => exact ⟨_, d + 1, rfl, rfl, by omega, by omega, rfl, by first | exact HF0 | exact Lib.hid (by have h3 := HF0.out; simpa using h3) | exact Lib.hid (by have h3 := HF0.out; rw [h2]; exact h3)⟩
                case round =>
                  clear HF0 h1' h2
                  obtain ⟨f, e, rfl, rfl, he1, he2, hw, hF⟩ := hrel
                  subst hw
                  by_cases hlte : e < n
                  · have hlte' : (e : Int) < n := by omega
                    have hce := hDD.cell e (by rw [dmk_len]; exact hlte)
                    obtain ⟨bx, ox, hbx, _, _, hcx⟩ := Ints.at hrD e (by omega)
                    cases hbx
                    have hdk := dmk_at (L := L) hlte
                    have hfs := fitE_step (L := L) (x := x) (show d < e by omega)
                    cases f with
                    | false =>
                      have HF1 : Hid ((false = true) ↔ FitE L d x (e + 1)) := Lib.hid ⟨fun h => (by cases h), fun h => hF.out.2 (hfs.1 h).1⟩
                      clear hdk hfs hF hce hcx
                      go_wp2
                      go_roundw
                      case rel => exact ⟨false, e + 1, rfl, by go_num, by omega, by omega, by first | rfl | trivial, HF1⟩
                      case measure => simp [intOf]; omega
                    | true =>
                      cases hb : gt (dmk n L) e with
                      | false =>
                        rw [hb] at hce
                        have HF1 : Hid ((true = true) ↔ FitE L d x (e + 1)) := Lib.hid ⟨fun _ => hfs.2 ⟨hF.out.1 rfl, fun h => by rw [hdk.2 h] at hb; cases hb⟩, fun _ => rfl⟩
                        clear hdk hfs hF hb hcx
                        go_wp2
                        clear hce
                        go_roundw
                        case rel => exact ⟨true, e + 1, rfl, by go_num, by omega, by omega, by first | rfl | trivial, HF1⟩
                        case measure => simp [intOf]; omega
                      | true =>
                        rw [hb] at hce
                        have hex := hdk.1 hb
                        obtain ⟨q2, hq2⟩ : ∃ q2, q2 = gt x e := ⟨_, rfl⟩
                        rw [← hq2] at hcx hfs
                        by_cases hz : q2 = 0
                        · have HF1 : Hid ((true = true) ↔ FitE L d x (e + 1)) := Lib.hid ⟨fun _ => hfs.2 ⟨hF.out.1 rfl, fun _ => hz⟩, fun _ => rfl⟩
                          clear hdk hfs hF hb hq2 hex
                          subst hz
                          go_wp2
                          clear hce hcx
                          go_roundw
                          case rel => exact ⟨true, e + 1, rfl, by go_num, by omega, by omega, by first | rfl | trivial, HF1⟩
                          case measure => simp [intOf]; omega
                        · have HF1 : Hid ((false = true) ↔ FitE L d x (e + 1)) := Lib.hid ⟨fun h => (by cases h), fun h => absurd ((hfs.1 h).2 hex) hz⟩
                          clear hdk hfs hF hb hq2 hex
                          have hz' : (q2 == 0) = false := by simpa using hz
                          go_wp2
                          clear hce hcx
                          go_roundw
                          case rel => exact ⟨false, e + 1, rfl, by go_num, by omega, by omega, by first | rfl | trivial, HF1⟩
                          case measure => simp [intOf]; omega
                  · have hen : e = n := by omega
                    have hfit := hF.out
                    rw [hen, HN2.out, fitE_end] at hfit
                    have hnl : ¬ (e : Int) < n := by omega
                    cases f with
                    | true =>
                      have hst := HX.out.2.1 (hfit.1 rfl)
                      have HST := Lib.hid hst; clear hst hfit hF hen
                      have hrA : Ints (fun k => ¬ k < w.heap.size ∧ v9.ownBlock ≠ some k) wr (.slice (some ⟨bd, od, none⟩) n cap2) x := Ints.mono hrn (fun k hk hlt => ⟨⟨by have : w.heap.size + 1 ≤ k := hk; omega, fun e => by have := (hQD.lt k e).1; omega⟩, Nat.lt_of_lt_of_le hlt hgLD.size, hgLD.block k hlt (by simp)⟩)
                      go_wp2_with (first | (at_builtin; refine wp_shq_app rfl _ _ rfl (fun k => k < w.heap.size) wL.heap.size v9 _ (seqTo P L d ++ fitT P L d k) x rfl wr hQD rfl hrA rfl HX.out.2.2.2.1 hgLD.size ?_; intro v5 w5 hQ5 hg5 hb5; have hgw5 := grown_own hgLD hg5 (fun j hj hlt => by have := (hQD.lt j hj).1; omega)) | fail)
                      go_roundw
                      case rel => exact ⟨k + 1, v5, rfl, by go_num, by omega, hgw5, by rw [HST.out, ← List.append_assoc]; exact hQ5⟩
                      case measure => simp [intOf]; omega
                    | false =>
                      have hst := HX.out.2.2.1 (fun h => (by have := hfit.2 h; cases this))
                      have HST := Lib.hid hst; clear hst hfit hF hen
                      go_wp2
                      go_roundw
                      case rel => exact ⟨k + 1, v9, rfl, by go_num, by omega, hgLD, by rw [HST.out]; exact hQD⟩
                      case measure => simp [intOf]; omega
            · have hke : k = L.length := by omega
              rw [hke, fitT_all] at hQ
              have hnl : ¬ (k : Int) < L.length := by omega
              clear hke
              go_wp2
              go_roundw
              case rel => exact ⟨d + 1, v9, rfl, by go_num, by omega, hg, hQ⟩
              case measure => simp [intOf]; omega
        · have hde : d = n := by omega
          rw [hde, HL.out.2.1] at hQ
          have hrows := hQ.rowsB (fun k hk => by have := hgo0.size; omega)
          have hrows2 : Rows2 (From w.heap.size) wr v9 (cseq P H) := Rows2.sub hrows (fun k hk _ => by
            have h : ¬ k < w.heap.size := hk
            show w.heap.size ≤ k; omega)
          obtain ⟨az, capz, hvz, _, _⟩ := Sl.shape hrows2
          subst hvz
          have hnl : ¬ (d : Int) < n := by omega
          have HR := Lib.hid hrows2; clear hrows hrows2 hde hQ
          go_wp2
          go_ret
          exact ⟨_, rfl, grown_trans hg0 (grown_trans hgo0 hg), HR.out⟩

end Go.Proofs.YtigbpdaomgagiaaGreat

/- What a run does to the count of draws: it never falls. -/
namespace Go.Proofs.YtigbpdaomgagiaaGreat

theorem freeze_drawn (w : World) (a : Addr) (n : Nat) : (w.freeze a n).drawn = w.drawn := by
  unfold World.freeze; split <;> rfl

theorem ask_drawn {α : Type} (q : Ask α) : ∀ w : World, w.drawn ≤ (w.ask q).2.drawn := by
  induction q with
  | done a => intro w; exact Nat.le_refl _
  | ask what range k ih =>
    intro w
    unfold World.ask
    dsimp only
    split
    · exact ih _ _
    · exact Nat.le_trans (Nat.le_succ _) (ih _ { w with drawn := w.drawn + 1 })

theorem sys_drawn (w : World) (c : Sys) : w.drawn ≤ (w.sys c).2.drawn := by
  unfold World.sys
  have h := ask_drawn (Kernel.perform c w.os) w
  revert h
  generalize w.ask (Kernel.perform c w.os) = r
  intro h
  split
  · exact Nat.le_refl _
  · exact h

theorem setCell_drawn (w : World) (a : Addr) (v : Value) : (w.setCell a v).drawn = w.drawn := rfl

theorem viewStore_drawn (p : Program) (w : World) (at_ : Addr) (u : TypeId) (k : Addr) (v : Value) (atomic : Bool) (r : World × List Addr) (h : w.viewStore p at_ u k v atomic = .ok r) : r.1.drawn = w.drawn := by
  unfold World.viewStore at h
  simp only [bind, Except.bind, pure, Except.pure] at h
  repeat' split at h
  all_goals first | (cases h; done) | (cases h; rfl)

theorem farStore_drawn (p : Program) (w : World) (a : Addr) (v : Value) (atomic : Bool) (r : World × List Addr) (h : w.farStore p a v atomic = .ok r) : r.1.drawn = w.drawn := by
  unfold World.farStore at h
  split at h
  · split at h
    · rename_i hv
      cases h
      exact viewStore_drawn _ _ _ _ _ _ _ _ hv
    · cases h
  · cases h

theorem run_drawn {α : Type} (p : Program) (s : Sem α) : ∀ (w w' : World) (a : α), s.run p w = .ok a w' → w.drawn ≤ w'.drawn := by
  induction s with
  | pure a => intro w w' b h; cases h; exact Nat.le_refl _
  | load m a k ih =>
    intro w w' b h
    unfold Sem.run at h
    split at h
    · exact ih _ _ _ _ h
    · split at h
      · exact ih _ _ _ _ h
      · cases h
  | store m a v k ih =>
    intro w w' b h
    cases v <;> simp only [Sem.run] at h
    all_goals try (cases h; done)
    all_goals
      split at h
      · split at h
        · cases h
        · exact ih (w.setCell a _) _ _ h
      · split at h
        · rename_i w1 l hf
          have h1 := farStore_drawn _ _ _ _ _ _ hf
          have h2 := ih _ _ _ h
          dsimp only at h1
          omega
        · cases h
  | new o k ih => intro w w' b h; exact ih _ { w with heap := w.heap.push o } _ _ h
  | shape r k ih => intro w w' b h; exact ih _ _ _ _ h
  | freeze a n k ih => intro w w' b h; have := ih _ _ _ h; rw [freeze_drawn] at this; exact this
  | frozen a k ih => intro w w' b h; exact ih _ _ _ _ h
  | getObj r k ih =>
    intro w w' b h
    unfold Sem.run at h
    split at h
    · cases h
    · exact ih _ _ _ _ h
    · cases h
  | setObj r o k ih =>
    intro w w' b h
    unfold Sem.run at h
    split at h
    · cases h
    · exact ih { w with heap := w.heap.setIfInBounds r o } _ _ h
    · cases h
  | choose q k ih =>
    intro w w' b h
    unfold Sem.run at h
    split at h
    · exact ih _ _ _ _ h
    · exact Nat.le_trans (Nat.le_succ _) (ih _ _ _ _ h)
  | sys c k ih => intro w w' b h; exact Nat.le_trans (sys_drawn w c) (ih _ _ _ _ h)
  | program k ih => intro w w' b h; exact ih _ _ _ _ h
  | mark m k ih => intro w w' b h; exact ih _ _ _ h
  | halt hh => intro w w' b h; cases h

/-- an operation that hands back a value: its run never lets the count of draws fall -/
theorem wpList_drawn {P : Program} {ops : Array Oper} {rest : List Oper} {o : Oper} {a : Act} {Q : Exit → Act → World → Prop} {w : World} {Φ : Act → World → Prop} (hgd : o.guard = none)
    (hnc : ∀ f args w', (execOp a.eval o).run P w ≠ .ok (.enter f args) w') (hnr : ∀ r args w', (execOp a.eval o).run P w ≠ .ok (.row r args) w')
    (h : wpList P ops (fun e a' w' => e = .normal ∧ Φ a' w') [o] a w) (k : ∀ a' w', Φ a' w' → w.drawn ≤ w'.drawn → wpList P ops Q rest a' w') :
    wpList P ops Q (o :: rest) a w := by
  have hw : Region.wanted o (yielded ops a.tmps) = true := by simp [Region.wanted, hgd]
  unfold wpList at h ⊢
  rw [if_pos hw] at h ⊢
  rcases h with h | ⟨_, ⟨_, _, he, _⟩⟩
  · left
    unfold Oper.wp at h ⊢
    cases hr : (execOp a.eval o).run P w with
    | ok n w' =>
      have hd := run_drawn _ _ _ _ _ hr
      rw [hr] at h
      cases n with
      | value v => exact k _ _ h.2 hd
      | skip => exact k _ _ h.2 hd
      | defer d => exact k _ _ h.2 hd
      | enter f args => exact absurd hr (hnc _ _ _)
      | row r args => exact absurd hr (hnr _ _ _)
      | _ => exact h.elim
    | halt hh w' =>
      rw [hr] at h
      cases hh with
      | panic v => cases h.1
      | _ => exact h.elim
  · cases he

theorem run_value_only (P : Program) (s : Sem Value) (w w' : World) (n : Next) (h : Sem.run P (do pure (Next.value (← s))) w = .ok n w') : ∃ v, n = .value v := by
  rw [Sem.run_bind] at h
  cases hs : Sem.run P s w with
  | ok v w1 => rw [hs] at h; cases h; exact ⟨v, rfl⟩
  | halt hh w1 => rw [hs] at h; cases h

theorem append_value {P : Program} {o : Oper} {a : Act} {w w' : World} {n : Next} {args : Array Operand} {tys : Array TypeId} (ho : o.op = Op.call { callee := Callee.builtin Builtin.append, args := args, argTypes := tys })
    (h : (execOp a.eval o).run P w = .ok n w') : ∃ v, n = .value v := by
  unfold execOp at h
  rw [ho] at h
  exact run_value_only P (Builtin.append_ tys o.type (args.map a.eval)) w w' n h

/-- the builtin append does not let the count of draws fall -/
theorem append_drawn {P : Program} {ops : Array Oper} {rest : List Oper} {o : Oper} {a : Act} {Q : Exit → Act → World → Prop} {w : World} {Φ : Act → World → Prop} (hgd : o.guard = none) {args : Array Operand} {tys : Array TypeId}
    (ho : o.op = Op.call { callee := Callee.builtin Builtin.append, args := args, argTypes := tys })
    (h : wpList P ops (fun e a' w' => e = .normal ∧ Φ a' w') [o] a w) (k : ∀ a' w', Φ a' w' → w.drawn ≤ w'.drawn → wpList P ops Q rest a' w') :
    wpList P ops Q (o :: rest) a w :=
  wpList_drawn hgd (fun f x w' hr => by obtain ⟨v, hv⟩ := append_value ho hr; cases hv) (fun f x w' hr => by obtain ⟨v, hv⟩ := append_value ho hr; cases hv) h k

end Go.Proofs.YtigbpdaomgagiaaGreat

/- impl.pivots and impl.sizeOf again: the count of draws does not fall. (Printed from PivW and SizeW.) -/
namespace Go.Proofs.YtigbpdaomgagiaaGreat
open Go.RowKit

theorem wp_app_valD (T E : Nat) (z : Value) (bytes : Nat) (hT : Tryz.prog.underlying T = some (.slice E)) (hE : (Tryz.prog.info? E).map (fun i => (i.zero, i.size, i.bytes)) = some (some z, 1, bytes))
    (hzs : z.cells.size = 1) (hbt : bytes ≤ 64) {ops : Array Oper} {rest : List Oper} {o : Oper} {a : Act} {Q : Exit → Act → World → Prop} {w : World} (hgd : o.guard = none) (s x : Operand)
    (ho : o.op = Op.call { callee := Callee.builtin Builtin.append, args := #[s, x], argTypes := #[T, T] }) (B : Nat) (v u : Value) (xs : List Value) (hs : a.eval s = v) (w0 : World) (hown : OwnV B E w0 v xs) (hw : w = w0.alloc (.cells #[u] E)) (h1 : u.oneCell' = true)
    (hx : a.eval x = .slice (some ⟨w0.heap.size, 0, none⟩) 1 1) (hlen : xs.length ≤ 1000000) (hbase : B ≤ w0.heap.size)
    (h : ∀ v' w', OwnV B E w' v' (xs ++ [u]) → w0.grownBy w' v.ownBlock → w0.drawn ≤ w'.drawn → wpList Tryz.prog ops Q rest (a.put o.dst v') w') :
    wpList Tryz.prog ops Q (o :: rest) a w := by
  refine append_drawn (Φ := fun a' w' => ∃ v', OwnV B E w' v' (xs ++ [u]) ∧ w0.grownBy w' v.ownBlock ∧ a' = a.put o.dst v') hgd ho ?_ ?_
  · exact wp_app_val T E z bytes hT hE hzs hbt hgd s x ho B v u xs hs w0 hown hw h1 hx hlen hbase (fun v' w' k1 k2 => ⟨rfl, v', k1, k2, rfl⟩)
  · rintro a' w' ⟨v', k1, k2, rfl⟩ hd
    subst hw
    exact h v' w' k1 k2 hd

set_option maxHeartbeats 1000000 in
theorem pivotsD_ok (v : Value) (U : List (List Int)) (w : World) (S : Nat → Prop) (h : Rows2 S w v U) (hU : ∀ z ∈ U, dep z < z.length) (hl : U.length ≤ 100000) :
    Calls Tryz.prog 123 #[v] w (Ret w fun w' r => OwnV w.heap.size 3 w' r (depV U) ∧ w.drawn ≤ w'.drawn) := by
  obtain ⟨a, cap, rfl, _, _⟩ := Sl.shape h
  have HU := Lib.hid hU; clear hU
  go_enter Tryz.func123, Tryz.ntmps123
  go_wp2
  go_loopw [3, 8] (fun ov iv wr => ∃ (k : Nat) (v4 : Value), v4 = ov ∧ iv = .int .i64 k ∧ k ≤ U.length ∧ Ext w wr ∧ OwnV w.heap.size 3 wr v4 (depV (U.take k)) ∧ w.drawn ≤ wr.drawn) (fun _ iv _ => U.length - (intOf iv).toNat)
  case atStart => exact ⟨0, _, rfl, rfl, by omega, Ext.refl _, World.ownsRow_nil _ _ _ _, Nat.le_refl _⟩
  case round =>
    obtain ⟨k, v4, rfl, rfl, hk, hg, hO, hdr⟩ := hrel
    by_cases hlt : k < U.length
    · obtain ⟨b, off, a2, cap2, rfl, _, _, hc, hi⟩ := Rows2.at (Rows2.ext h hg) k hlt
      have hstep : depV (U.take (k + 1)) = depV (U.take k) ++ [.int .i64 (dep (gt U k))] := by unfold depV; rw [take_succ_gt U k hlt, List.map_append]; rfl
      have hdl : (depV (U.take k)).length ≤ 1000000 := by unfold depV; rw [List.length_map, List.length_take]; omega
      have HS := Lib.hid hstep; clear hstep
      have hlt' : (k : Int) < U.length := by omega
      go_wp2_with fail
      refine Calls.mono (idxNz_ok _ (gt U k) wr _ hi (HU.out _ (gtMem hlt))) ?_
      rintro e1 w1 ⟨rfl, rfl⟩
      go_wp2_with (first | (at_builtin; refine wp_app_valD 113 3 (.int .i64 0) 8 und_intsG Tryz.infoIntG rfl (by decide) rfl _ _ rfl w.heap.size v4 _ (depV (U.take k)) rfl wr hO rfl rfl rfl hdl hg.size ?_; intro v5 w5 hO5 hg5 hd5) | fail)
      have hg6 : Ext w w5 := grown_own hg hg5 (fun j hj hlt => by have := (hO.lt j hj).1; omega)
      go_roundw
      case rel => exact ⟨k + 1, v5, rfl, by go_num, by omega, hg6, by rw [HS.out]; exact hO5, Nat.le_trans hdr hd5⟩
      case measure => simp [intOf]; omega
    · have hke : k = U.length := by omega
      subst hke
      rw [List.take_length] at hO
      have hsh : ∃ az capz, v4 = .slice az U.length capz := by
        rcases hO.form with ⟨h1, h2⟩ | ⟨g, cp, h1, _⟩
        · have h3 : U.length = 0 := by unfold depV at h2; rw [List.map_eq_nil_iff] at h2; rw [h2]; rfl
          exact ⟨none, 0, by rw [h1, h3]⟩
        · exact ⟨_, _, by rw [h1]; unfold depV; rw [List.length_map]⟩
      obtain ⟨az, capz, rfl⟩ := hsh
      go_wp2
      go_ret
      exact ⟨_, rfl, hg, hO, hdr⟩

set_option maxHeartbeats 1000000 in
theorem sizeOfD_ok (P : Pr) (hP : Valid P) (w : World) (p uv : Value) (U : List (List Int)) (Sp Su : Nat → Prop) (hp : PresP Sp w p P) (hu : Rows2 Su w uv U) (hU : SeqOk P U) (hl : U.length ≤ 100) :
    Calls Tryz.prog 69 #[p, uv] w (Ret w fun w' v => v = .int .i64 (prodU P U U.length) ∧ w.drawn ≤ w'.drawn) := by
  have hn6 := hP.n6
  obtain ⟨pb, po, rfl⟩ := hp.shape
  obtain ⟨ao, capo, hco0, hoi⟩ := hp.ordAt
  obtain ⟨au, capu, rfl, _, _⟩ := Sl.shape hu
  have hUz : ∀ z ∈ U, dep z < z.length := fun z hz => by have := hU.1 z hz; rw [this.1.1]; exact this.2.1
  have HU := Lib.hid hU; clear hU
  go_enter Tryz.func69, Tryz.ntmps69
  go_wp2_with fail
  refine Calls.mono (pivotsD_ok _ U w Su hu hUz (by omega)) ?_
  rintro e1 w1 ⟨pv, rfl, hg1, hV1, hd1⟩
  have hpvs : ∃ az capz, pv = .slice az U.length capz := by
    rcases hV1.form with ⟨h1, h2⟩ | ⟨g, cp, h1, _⟩
    · have h3 : U.length = 0 := by unfold depV at h2; rw [List.map_eq_nil_iff] at h2; rw [h2]; rfl
      exact ⟨none, 0, by rw [h1, h3]⟩
    · exact ⟨_, _, by rw [h1]; unfold depV; rw [List.length_map]⟩
  obtain ⟨ap, capp, rfl⟩ := hpvs
  go_wp2
  go_loopw [5, 11] (fun mv iv wr => ∃ i : Nat, mv = .int .i64 (prodU P U i) ∧ iv = .int .i64 i ∧ i ≤ U.length ∧ w1 = wr) (fun _ iv _ => U.length - (intOf iv).toNat)
  case atStart => exact ⟨0, rfl, rfl, by omega, rfl⟩
  case round =>
    obtain ⟨i, rfl, rfl, hi, rfl⟩ := hrel
    by_cases hlt : i < U.length
    · have hlt' : (i : Int) < U.length := by omega
      have hdi : gt (depV U) i = .int .i64 (dep (gt U i)) := by unfold depV; rw [gt_map _ _ _ hlt]
      have hpf : ∃ g, ap = some ⟨g, 0, none⟩ := by
        rcases hV1.form with ⟨h1, h2⟩ | ⟨g, cp, h1, _⟩
        · unfold depV at h2; rw [List.map_eq_nil_iff] at h2; rw [h2] at hlt; simp at hlt
        · simp only [Value.slice.injEq] at h1; exact ⟨g, h1.1⟩
      obtain ⟨gp, rfl⟩ := hpf
      have hcp := hV1.cell i (by unfold depV; rw [List.length_map]; exact hlt)
      rw [hdi] at hcp
      clear hdi
      have hst : prodU P U (i + 1) = prodU P U i * gt P.orders (dep (gt U i)) := rfl
      have hb := prodU_729 hP HU.out (i + 1) hlt
      rw [hst] at hb
      obtain ⟨d, hd⟩ : ∃ d, d = dep (gt U i) := ⟨_, rfl⟩
      rw [← hd] at hcp hst hb
      have hdn : d < P.orders.length := by rw [hd]; exact (HU.out.1 _ (gtMem hlt)).2.1
      clear hd
      have hdn' : (d : Int) < P.orders.length := by omega
      obtain ⟨b, off, rfl, _, _, hco⟩ := Ints.at (hoi.ext hg1) d hdn
      have hc0 := hg1.cell hco0 (by simp)
      have hw : IntKind.i64.wrap (prodU P U i * gt P.orders d) = prodU P U i * gt P.orders d := IntWalk.i64_in _ (by omega)
      have HS := Lib.hid hst; clear hst hb
      go_wp2
      go_roundw
      case rel => exact ⟨i + 1, by rw [HS.out], by go_num, by omega, trivial⟩
      case measure => simp [intOf]; omega
    · have hie : i = U.length := by omega
      subst hie
      go_wp2
      go_ret
      exact ⟨_, rfl, hg1, rfl, hd1⟩

end Go.Proofs.YtigbpdaomgagiaaGreat

/- slices.Concat at integers: the numbers of all rows, in order. cmp.Or at int. -/
namespace Go.Proofs.YtigbpdaomgagiaaGreat
open Go.Proofs Go.Shelf Go.RowKit
section
open Go.Lib
def Tryz.growInts_ren : Go.Shelf.Ren := ⟨fun | 4 => 239 | n => n, fun | 22 => 22 | 25 => 2 | 3 => 3 | 4 => 4 | 9 => 9 | 20 => 20 | 0 => 0 | n => n, fun | n => n⟩
theorem Tryz.growInts : Go.Proofs.Lays8.n4 Tryz.prog Tryz.growInts_ren := {
  mixed := by kernel_rfl
  f4 := ⟨Tryz.f239.name, by decide, Tryz.func239.trans (congrArg some (by kernel_rfl))⟩
  t0 := Tryz.underlying0
  a0 := Tryz.isAgg0
  z0 := Tryz.sizeOf0
  v0 := Tryz.zeroValue0
  t3 := Tryz.underlying3
  a3 := Tryz.isAgg3
  z3 := Tryz.sizeOf3
  v3 := Tryz.zeroValue3
  t4 := Tryz.underlying4
  a4 := Tryz.isAgg4
  z4 := Tryz.sizeOf4
  v4 := Tryz.zeroValue4
  t9 := Tryz.underlying9
  a9 := Tryz.isAgg9
  z9 := Tryz.sizeOf9
  v9 := Tryz.zeroValue9
  t20 := Tryz.underlying20
  a20 := Tryz.isAgg20
  z20 := Tryz.sizeOf20
  v20 := Tryz.zeroValue20
  t22 := Tryz.underlying22
  a22 := Tryz.isAgg22
  z22 := Tryz.sizeOf22
  v22 := Tryz.zeroValue22 }

theorem growInts_ok (n : Nat) (hn : n ≤ 1000000) (w : World) : Calls Tryz.prog 239 #[.slice none 0 0, .int .i64 n] w (Ret w fun w' v => Own w.heap.size w' v [] ∧ w.drawn ≤ w'.drawn) := by
  rcases Nat.eq_zero_or_pos n with rfl | h0
  · have h := Any8.slices_Grow_room Tryz.growInts none 0 0 0 w (by omega) (by omega) (by omega) (by omega)
    change Calls Tryz.prog 239 _ _ _ at h
    refine h.mono ?_
    rintro e w' ⟨rfl, rfl⟩
    exact ⟨_, rfl, Ext.refl _, Own.of (World.ownsRow_nil _ _ _ _), Nat.le_refl _⟩
  · obtain ⟨i0, hi, hz0, hz1, hz2⟩ := info_parts Tryz.infoInt
    have hmax : 0 + n ≤ maxLen := by unfold maxLen; omega
    have h := Any8.slices_Grow_grow Tryz.growInts i0 (.int .i64 0) hi hz0 (by rw [hz1]; decide) none 0 0 n [] w (by omega) (by omega) (by rw [hz2]; omega) (by omega) (by simp) (fun _ => rfl) (fun a ha => by cases ha)
    change Calls Tryz.prog 239 _ _ _ at h
    refine h.mono ?_
    rintro e w' ⟨rfl, rfl⟩
    have hge := grownCap_ge w (0 + n) 0 2
    have hle := grownCap_le_maxLen w (0 + n) 0 2 hmax
    refine ⟨_, rfl, grown_trans (grown_drew w none) (World.grownBy_alloc _ _ _), Own.of ⟨rfl, .inr ⟨w.heap.size, _, _, rfl, Nat.le_refl _, Array.getElem?_push_size (xs := w.heap), Nat.zero_le _, hle, ?_, by simp⟩⟩, by first | exact Nat.le_refl _ | exact Nat.le_succ _⟩
    simp only [Array.size_append, size_zeroCells, List.size_toArray, List.length_nil]
    have e1 : (Value.cells (.int .i64 0)).size = 1 := rfl
    have hge2 : 0 + n ≤ grownCap w (0 + n) 0 2 := hge
    rw [e1]
    show 0 + (0 + n - 0) * 1 + (grownCap w (0 + n) 0 2 - (0 + n)) * 1 = grownCap w (0 + n) 0 2 * 1
    omega

end
theorem wp_app_intsD {ops : Array Oper} {rest : List Oper} {o : Oper} {a : Act} {Q : Exit → Act → World → Prop} {w : World} (hgd : o.guard = none) (s x : Operand)
    (ho : o.op = Op.call { callee := Callee.builtin Builtin.append, args := #[s, x], argTypes := #[22, 22] }) (base : Nat) (v : Value) (l : List Int) (hs : a.eval s = v) (hown : Own base w v l)
    (u : Value) (m : List Int) (hx : a.eval x = u) (S : Nat → Prop) (hu : Ints S w u m) (hlen : l.length + m.length ≤ 2147483648) (hbase : base ≤ w.heap.size)
    (h : ∀ v' w', Own base w' v' (l ++ m) → w.grownBy w' v.ownBlock → w.drawn ≤ w'.drawn → wpList Tryz.prog ops Q rest (a.put o.dst v') w') :
    wpList Tryz.prog ops Q (o :: rest) a w := by
  refine append_drawn (Φ := fun a' w' => ∃ v', Own base w' v' (l ++ m) ∧ w.grownBy w' v.ownBlock ∧ a' = a.put o.dst v') hgd ho ?_ ?_
  · exact wp_app_ints hgd s x ho base v l hs hown u m hx S hu hlen hbase (fun v' w' k1 k2 _ => ⟨rfl, v', k1, k2, rfl⟩)
  · rintro a' w' ⟨v', k1, k2, rfl⟩ hd
    exact h v' w' k1 k2 hd

/-- the numbers of the first k rows -/
def rowsTo (us : List (List Int)) : Nat → List Int
  | 0 => []
  | k + 1 => rowsTo us k ++ gt us k

theorem rowsTo_len (us : List (List Int)) (b : Nat) (h : ∀ u ∈ us, u.length ≤ b) (k : Nat) (hk : k ≤ us.length) : (rowsTo us k).length ≤ b * k := by
  induction k with
  | zero => simp [rowsTo]
  | succ k ih =>
    have h1 := ih (by omega)
    have h2 := h _ (gt_mem (l := us) (i := k) (by omega))
    simp only [rowsTo, List.length_append, Nat.mul_succ]; omega

theorem rowsTo_take (us : List (List Int)) (k : Nat) (hk : k ≤ us.length) : rowsTo us k = (us.take k).flatten := by
  induction k with
  | zero => simp [rowsTo]
  | succ k ih =>
    have hlt : k < us.length := by omega
    rw [rowsTo, ih (by omega), List.take_succ_eq_append_getElem hlt, List.flatten_append]
    simp [gt, hlt]

theorem rowsTo_all (us : List (List Int)) : rowsTo us us.length = us.flatten := by
  rw [rowsTo_take us _ (Nat.le_refl _), List.take_length]

set_option maxRecDepth 100000 in
set_option maxHeartbeats 4000000 in
theorem concatInts_ok (w : World) (lv : Value) (us : List (List Int)) (Sr : Nat → Prop) (hl : Rows2 Sr w lv us) (hb : ∀ u ∈ us, u.length ≤ 1000) (hn : us.length ≤ 100) :
    Calls Tryz.prog 200 #[lv] w (Ret w fun w' v => Own w.heap.size w' v us.flatten ∧ w.drawn ≤ w'.drawn) := by
  obtain ⟨al, capl, rfl, _, _⟩ := Sl.shape hl
  have hfl : ∀ k, k ≤ us.length → (rowsTo us k).length ≤ 100000 := fun k hk => by have := rowsTo_len us 1000 hb k hk; omega
  have HF := Lib.hid (And.intro hfl hb); clear hfl hb
  rw [← rowsTo_all]
  go_enter Tryz.func200, Tryz.ntmps200
  go_wp2
  go_loopw [3, 11] (fun sv iv wr => ∃ k : Nat, sv = .int .i64 ((rowsTo us k).length : Nat) ∧ iv = .int .i64 k ∧ k ≤ us.length ∧ w = wr) (fun _ iv _ => us.length - (intOf iv).toNat)
  case atStart => exact ⟨0, rfl, rfl, by omega, rfl⟩
  case round =>
    obtain ⟨k, rfl, rfl, hk, rfl⟩ := hrel
    have hfk := HF.out.1 k hk
    by_cases hlt : k < us.length
    · have hlt' : (k : Int) < us.length := by omega
      obtain ⟨b, off, a2, cap2, rfl, _, _, hc, hr⟩ := Rows2.at hl k hlt
      have hfk2 := HF.out.1 (k + 1) hlt
      have hst : (rowsTo us (k + 1)).length = (rowsTo us k).length + (gt us k).length := by simp only [rowsTo, List.length_append]
      obtain ⟨m, hm⟩ : ∃ m, m = (rowsTo us k).length := ⟨_, rfl⟩
      obtain ⟨m2, hm2⟩ : ∃ m2, m2 = (gt us k).length := ⟨_, rfl⟩
      rw [← hm] at hfk hst ⊢
      rw [← hm2] at hc hr hst
      have hmm : m + m2 ≤ 100000 := by omega
      have hw : IntKind.i64.wrap ((m : Int) + (m2 : Int)) = ((m + m2 : Nat) : Int) := by rw [IntWalk.i64_in _ (by omega)]; omega
      have hnn : ¬ ((m + m2 : Nat) : Int) < 0 := by omega
      have HS := Lib.hid (And.intro hst (And.intro hm hm2)); clear hst hm hm2 hfk2
      go_wp2
      go_roundw
      case rel => exact ⟨k + 1, by rw [HS.out.1, Int.natCast_add], by go_num, by omega, trivial⟩
      case measure => simp [intOf]; omega
    · have hke : k = us.length := by omega
      subst hke
      obtain ⟨m, hm⟩ : ∃ m, m = (rowsTo us us.length).length := ⟨_, rfl⟩
      rw [← hm] at hfk ⊢
      clear hm
      go_wp2_with fail
      refine Calls.mono (growInts_ok m (by omega) w) ?_
      rintro e1 w1 ⟨v1, rfl, hg1, hO1, hd1⟩
      go_wp2
      go_loopw [6, 27] (fun ov iv wr => ∃ (k : Nat) (v4 : Value), v4 = ov ∧ iv = .int .i64 k ∧ k ≤ us.length ∧ Ext w wr ∧ Own w.heap.size wr v4 (rowsTo us k) ∧ w.drawn ≤ wr.drawn) (fun _ iv _ => us.length - (intOf iv).toNat)
      case atStart => exact ⟨0, v1, rfl, rfl, by omega, hg1, hO1, hd1⟩
      case round =>
        clear hO1
        obtain ⟨k, v4, rfl, rfl, hk, hg, hO, hdr⟩ := hrel
        by_cases hlt : k < us.length
        · have hlt' : (k : Int) < us.length := by omega
          obtain ⟨b, off, a2, cap2, rfl, _, _, hc, hr⟩ := Rows2.at hl k hlt
          have hcr := hg.cell hc (by simp)
          have hr2 := Ints.ext hr hg
          have hlk := HF.out.2 _ (gt_mem hlt)
          have hfk := HF.out.1 k hk
          have hlen : (rowsTo us k).length + (gt us k).length ≤ 2147483648 := by omega
          have HN := Lib.hid (And.intro hr2 hlen); clear hlen hr2 hlk hfk hc
          go_wp2_with (first | (at_builtin; refine wp_app_intsD rfl _ _ rfl w.heap.size _ (rowsTo us k) rfl hO _ (gt us k) rfl _ HN.out.1 HN.out.2 hg.size ?_; intro v5 w5 hO5 hg5 hd5; have hgw5 := grown_own hg hg5 (fun j hj hlt => by have := (hO.lt j hj).1; omega)) | fail)
          clear hcr
          go_roundw
          case rel => exact ⟨k + 1, v5, rfl, by go_num, by omega, hgw5, hO5, Nat.le_trans hdr hd5⟩
          case measure => simp [intOf]; omega
        · have hke : k = us.length := by omega
          subst hke
          obtain ⟨az, capz, nz, hvz⟩ : ∃ az capz nz, v4 = .slice az nz capz := by
            rcases hO.2 with ⟨h1, _⟩ | ⟨g, cp, _, h1, _⟩
            · exact ⟨_, _, _, h1⟩
            · exact ⟨_, _, _, h1⟩
          subst hvz
          go_wp2
          go_ret
          exact ⟨_, rfl, hg, hO, hdr⟩

end Go.Proofs.YtigbpdaomgagiaaGreat

/- The library's sort at [][]int64, laid from the shelf. -/
namespace Go.Proofs.YtigbpdaomgagiaaGreat
open Go.Proofs Go.Shelf Go.RowKit Go.Lib Go.Sort
def Tryz.sortRows_ren : Go.Shelf.Ren := ⟨fun | 6 => 208 | 15 => 196 | 14 => 243 | 28 => 236 | 29 => 237 | 20 => 253 | 21 => 254 | 22 => 255 | 23 => 256 | 24 => 257 | 25 => 258 | 26 => 259 | 27 => 260 | 46 => 263 | 47 => 249 | 48 => 250 | 49 => 264 | 50 => 265 | 57 => 266 | n => n, fun | 22 => 23 | 24 => 22 | 25 => 173 | 3 => 3 | 39 => 121 | 0 => 0 | 53 => 199 | 55 => 101 | 4 => 4 | 46 => 192 | 45 => 191 | 50 => 196 | 5 => 5 | 9 => 9 | 66 => 206 | 70 => 210 | 76 => 218 | 77 => 219 | n => n, fun | n => n⟩
theorem Tryz.sortRows : Go.Proofs.SlLaysF.n6 Tryz.prog Tryz.sortRows_ren := {
  mixed := by kernel_rfl
  f6 := ⟨Tryz.f208.name, by decide, Tryz.func208.trans (congrArg some (by kernel_rfl))⟩
  f14 := ⟨Tryz.f243.name, by decide, Tryz.func243.trans (congrArg some (by kernel_rfl))⟩
  f15 := Tryz.func196.trans (congrArg some (by kernel_rfl))
  f20 := ⟨Tryz.f253.name, by decide, Tryz.func253.trans (congrArg some (by kernel_rfl))⟩
  f21 := ⟨Tryz.f254.name, by decide, Tryz.func254.trans (congrArg some (by kernel_rfl))⟩
  f22 := ⟨Tryz.f255.name, by decide, Tryz.func255.trans (congrArg some (by kernel_rfl))⟩
  f23 := ⟨Tryz.f256.name, by decide, Tryz.func256.trans (congrArg some (by kernel_rfl))⟩
  f24 := ⟨Tryz.f257.name, by decide, Tryz.func257.trans (congrArg some (by kernel_rfl))⟩
  f25 := ⟨Tryz.f258.name, by decide, Tryz.func258.trans (congrArg some (by kernel_rfl))⟩
  f26 := ⟨Tryz.f259.name, by decide, Tryz.func259.trans (congrArg some (by kernel_rfl))⟩
  f27 := ⟨Tryz.f260.name, by decide, Tryz.func260.trans (congrArg some (by kernel_rfl))⟩
  f28 := Tryz.func236.trans (congrArg some (by kernel_rfl))
  f29 := Tryz.func237.trans (congrArg some (by kernel_rfl))
  f46 := ⟨Tryz.f263.name, by decide, Tryz.func263.trans (congrArg some (by kernel_rfl))⟩
  f47 := Tryz.func249.trans (congrArg some (by kernel_rfl))
  f48 := Tryz.func250.trans (congrArg some (by kernel_rfl))
  f49 := ⟨Tryz.f264.name, by decide, Tryz.func264.trans (congrArg some (by kernel_rfl))⟩
  f50 := ⟨Tryz.f265.name, by decide, Tryz.func265.trans (congrArg some (by kernel_rfl))⟩
  f57 := ⟨Tryz.f266.name, by decide, Tryz.func266.trans (congrArg some (by kernel_rfl))⟩
  t0 := Tryz.underlying0
  a0 := Tryz.isAgg0
  z0 := Tryz.sizeOf0
  v0 := Tryz.zeroValue0
  t3 := Tryz.underlying3
  a3 := Tryz.isAgg3
  z3 := Tryz.sizeOf3
  v3 := Tryz.zeroValue3
  t4 := Tryz.underlying4
  a4 := Tryz.isAgg4
  z4 := Tryz.sizeOf4
  v4 := Tryz.zeroValue4
  t5 := Tryz.underlying5
  a5 := Tryz.isAgg5
  z5 := Tryz.sizeOf5
  v5 := Tryz.zeroValue5
  t9 := Tryz.underlying9
  a9 := Tryz.isAgg9
  z9 := Tryz.sizeOf9
  v9 := Tryz.zeroValue9
  t22 := Tryz.underlying23
  a22 := Tryz.isAgg23
  z22 := Tryz.sizeOf23
  v22 := Tryz.zeroValue23
  a24 := Tryz.isAgg22
  z24 := Tryz.sizeOf22
  t25 := Tryz.underlying173
  a25 := Tryz.isAgg173
  z25 := Tryz.sizeOf173
  v25 := Tryz.zeroValue173
  t39 := Tryz.underlying121
  a39 := Tryz.isAgg121
  z39 := Tryz.sizeOf121
  v39 := Tryz.zeroValue121
  t45 := Tryz.underlying191
  a45 := Tryz.isAgg191
  z45 := Tryz.sizeOf191
  v45 := Tryz.zeroValue191
  t46 := Tryz.underlying192
  a46 := Tryz.isAgg192
  z46 := Tryz.sizeOf192
  v46 := Tryz.zeroValue192
  t50 := Tryz.underlying196
  a50 := Tryz.isAgg196
  z50 := Tryz.sizeOf196
  v50 := Tryz.zeroValue196
  t53 := Tryz.underlying199
  a53 := Tryz.isAgg199
  z53 := Tryz.sizeOf199
  v53 := Tryz.zeroValue199
  t55 := Tryz.underlying101
  a55 := Tryz.isAgg101
  z55 := Tryz.sizeOf101
  v55 := Tryz.zeroValue101
  t66 := Tryz.underlying206
  a66 := Tryz.isAgg206
  z66 := Tryz.sizeOf206
  v66 := Tryz.zeroValue206
  t70 := Tryz.underlying210
  a70 := Tryz.isAgg210
  z70 := Tryz.sizeOf210
  v70 := Tryz.zeroValue210
  t76 := Tryz.underlying218
  a76 := Tryz.isAgg218
  z76 := Tryz.sizeOf218
  v76 := Tryz.zeroValue218
  t77 := Tryz.underlying219
  a77 := Tryz.isAgg219
  z77 := Tryz.sizeOf219
  v77 := Tryz.zeroValue219 }
end Go.Proofs.YtigbpdaomgagiaaGreat

/- A row that the call has built, sorted by the library: any elements of one cell. (After the library's Sort/OwnSortedInts, at a general reading.) -/
namespace Go.Proofs.YtigbpdaomgagiaaGreat
open Go.Proofs Go.Shelf Go.RowKit Go.Lib Go.Sort

section
variable {α : Type} [Inhabited α] {enc : α → Value}
theorem holds_of_blockV {w : World} {g : Nat} {cur : Array Value} {e : TypeId} {ss : List α} (hb : w.heap[g]? = some (.cells cur e (0, 0))) (ht : cur.toList.take ss.length = ss.map enc) : Go.Sort.Holds enc w g 0 ss.toArray := by
  intro j hj
  have hj' : j < ss.length := by simpa using hj
  refine ⟨?_, by simp [World.frozen?, hb]⟩
  have h1 : (cur.toList.take ss.length)[j]? = (ss.map enc)[j]? := by rw [ht]
  rw [List.getElem?_take_of_lt hj'] at h1
  simp only [World.cell?, hb, Nat.zero_add]
  simp only [Option.isSome_none, Bool.false_eq_true, if_false]
  rw [← Array.getElem?_toList, h1]
  simp [hj']

theorem heap_sortedV {w : World} {g n : Nat} {os : Array Obj} {cur : Array Value} {e : TypeId} {fr : Nat × Nat} (d : Array α) (hb : w.heap[g]? = some (.cells cur e fr)) :
    (sortWorld enc w g 0 n d os).heap[g]? = some (.cells (putCells enc 0 d cur) e fr) := by
  have hg : g < w.heap.size := (Array.getElem?_eq_some_iff.1 hb).1
  unfold sortWorld
  rw [heap_grow_old _ _ (by simpa using hg)]
  simp [putRow, mapBlock, Sort.ahead, Array.getElem?_modify, hb, onCells]

theorem grownBy_sortedV {w : World} {g n : Nat} {os : Array Obj} (d : Array α) : w.grownBy (sortWorld enc w g 0 n d os) (some g) := by
  unfold sortWorld
  refine ⟨rfl, rfl, rfl, by simp, fun k hk hne => ?_⟩
  rw [heap_grow_old _ _ (by simpa using hk)]
  have : g ≠ k := fun e => hne (by rw [e])
  simp [putRow, mapBlock, Sort.ahead, Array.getElem?_modify, this]

theorem take_putCellsV (cur : Array Value) (ts : List α) (h : ts.length ≤ cur.size) : (putCells enc 0 ts.toArray cur).toList.take ts.length = ts.map enc := by
  apply List.ext_getElem?
  intro j
  by_cases hj : j < ts.length
  · rw [List.getElem?_take_of_lt hj, Array.getElem?_toList]
    simp [putCells, hj, show j < cur.size by omega]
  · rw [List.getElem?_take_eq_none (by omega), List.getElem?_eq_none (by simp; omega)]

theorem ownsRow_sortedV {w : World} {base g cap n : Nat} {e : TypeId} {os : Array Obj} {cur : Array Value} {ss ts : List α} (hl : ts.length = ss.length) (hbase : base ≤ g) (hb : w.heap[g]? = some (.cells cur e (0, 0)))
    (h1 : ss.length ≤ cap) (h2 : cap ≤ maxLen) (h3 : cur.size = cap * 1) :
    (sortWorld enc w g 0 n ts.toArray os).ownsRow base e 1 (.slice (some ⟨g, 0, none⟩) ss.length cap) ss.length (ts.map enc) :=
  ⟨by simp [hl], .inr ⟨g, cap, _, rfl, hbase, heap_sortedV _ hb, h1, h2, by simp [putCells, h3], by rw [Nat.mul_one, ← hl]; exact take_putCellsV cur ts (by omega)⟩⟩
end

/-- a slice value of the row, nil beyond it -/
def encAt (vs : List Value) (k : Nat) : Value := if k < vs.length then gt vs k else .slice none 0 0
def cfAt (L : List (List Int)) (i j : Nat) : Int := cmpL (gt L i) (gt L j)

theorem ltOf_true {L : List (List Int)} {x y : Nat} : ltOf (cfAt L) x y = true ↔ cmpL (gt L x) (gt L y) < 0 := by unfold ltOf; rw [decide_eq_true_iff]; rfl
theorem ltOf_false {L : List (List Int)} {x y : Nat} : ltOf (cfAt L) x y = false ↔ 0 ≤ cmpL (gt L x) (gt L y) := by
  unfold ltOf; rw [decide_eq_false_iff_not]; show ¬ (cmpL (gt L x) (gt L y) < 0) ↔ _; omega

theorem swo_cfAt (L : List (List Int)) : SWO (ltOf (cfAt L)) where
  irrefl x := by
    have := (cmpL_zero (gt L x) (gt L x)).2 rfl
    rw [ltOf_false]; omega
  trans x y z h k := by
    rw [ltOf_true] at *
    have h1 := cmpL_le_trans (gt L x) (gt L y) (gt L z) (by omega) (by omega)
    have h2 : cmpL (gt L x) (gt L z) ≠ 0 := by
      intro e
      rw [cmpL_zero] at e
      rw [e] at h
      have := cmpL_swap (gt L z) (gt L y)
      omega
    omega
  ntrans x y z h k := by
    rw [ltOf_false] at *
    have h1 := cmpL_swap (gt L x) (gt L y)
    have h2 := cmpL_swap (gt L y) (gt L z)
    have h3 := cmpL_swap (gt L x) (gt L z)
    have h4 := cmpL_le_trans (gt L z) (gt L y) (gt L x) (by omega) (by omega)
    omega

theorem encAt_one {vs : List Value} (h : ∀ i, i < vs.length → (gt vs i).oneCell' = true) : OneCell (encAt vs) := by
  intro k
  unfold encAt
  split
  · exact h k (by assumption)
  · rfl

theorem gt_inj {α : Type} [Inhabited α] {l : List α} (h : l.Nodup) {i j : Nat} (hi : i < l.length) (hj : j < l.length) (he : gt l i = gt l j) : i = j := by
  simp only [gt, List.getD_eq_getElem?_getD, List.getElem?_eq_getElem hi, List.getElem?_eq_getElem hj, Option.getD_some] at he
  rcases Nat.lt_trichotomy i j with h1 | h1 | h1
  · exact absurd he (List.pairwise_iff_getElem.1 h i j hi hj h1)
  · exact h1
  · exact absurd he.symm (List.pairwise_iff_getElem.1 h j i hj hi h1)

/-- slices.SortFunc with slices.Compare on rows that the call has built -/
theorem sortRows_ok (w : World) (v : Value) (L : List (List Int)) (B : Nat) (hL : RowsO B w v L) (hne : 0 < L.length) (hlen : L.length ≤ 1000000) :
    Calls Tryz.prog 208 #[v, .func (.func 199) #[] #[]] w fun e w' => e = .returned (.tuple #[]) ∧ RowsO B w' v (sortL L) ∧ w.grownBy w' v.ownBlock := by
  obtain ⟨vs, G, hvl, hO, hG, hd, hE⟩ := hL
  obtain ⟨_, ⟨rfl, h0⟩ | ⟨g, cap, cur, rfl, hBg, hb, hnc, hcm, hsz, hx⟩⟩ := hO
  · omega
  have hgs : g < w.heap.size := (Array.getElem?_eq_some_iff.1 hb).1
  have hone : OneCell (encAt vs) := encAt_one fun i hi => by
    exact rdOwn.one (hE i (by omega))
  have hmap : (List.range L.length).map (encAt vs) = vs := by
    apply List.ext_getElem (by simp [hvl])
    intro j h1 h2
    simp [encAt, gt, h2]
  have hH : Go.Sort.Holds (encAt vs) w g 0 (List.range L.length).toArray := holds_of_blockV hb (by rw [hmap, List.length_range, ← hvl]; simpa using hx)
  have eg : ∀ args w, (callFunc 199 args).run Tryz.prog w = .ok (.enter 199 args) w := enters_of Tryz.func199 (by kernel_rfl) rfl
  have hcmp : CmpReads Tryz.prog 199 #[] (encAt vs) (cfAt L) g 0 (List.range L.length).toArray.size w := by
    intro m os dk _ x y
    have hgr : w.grownBy (sortWorld (encAt vs) w g 0 m dk os) (some g) := grownBy_sortedV dk
    have hread : ∀ k, Ints Any (sortWorld (encAt vs) w g 0 m dk os) (encAt vs k) (gt L k) := by
      intro k
      by_cases hk : k < vs.length
      · have he := (hE k (by omega)).ints
        unfold encAt
        rw [if_pos hk]
        exact Ints.mono he (fun b hb2 hlt => ⟨trivial, Nat.lt_of_lt_of_le hlt hgr.size, hgr.block b hlt (fun e => (hG k b (by omega) hb2).2.1 (by cases e; rfl))⟩)
      · have h1 : gt L k = [] := by simp [gt, show ¬ k < L.length by omega]; rfl
        unfold encAt
        rw [if_neg hk, h1]
        exact ⟨none, 0, rfl, ⟨by simp, by simp, fun _ => rfl⟩, fun i hi => by simp at hi⟩
    refine (sCompare_ok _ _ _ _ _ _ _ (hread x) (hread y)).mono ?_
    rintro e w' ⟨rfl, rfl⟩
    exact ⟨rfl, 0, rfl⟩
  have hcon := Any.slices_SortFunc Tryz.sortRows (encAt vs) hone (cfAt L) (swo_cfAt L) 199 #[] g 0 cap (List.range L.length).toArray w eg hcmp.lays hH hgs (by simp; omega)
  change Calls Tryz.prog 208 _ _ _ at hcon
  have hsz2 : (List.range L.length).toArray.size = vs.length := by simp [hvl]
  rw [hsz2] at hcon
  refine hcon.mono ?_
  rintro e w' ⟨he, d', n, os, ⟨hs1, _, hperm⟩, hsorted, rfl⟩
  have hts : d'.toList.length = L.length := by simpa [hvl] using hs1
  have hP : d'.toList.Perm (List.range L.length) := by
    have h1 : d'.extract 0 vs.length = d' := by
      apply Array.ext'
      rw [hvl, ← hts]; simp
    have h2 : (List.range L.length).toArray.extract 0 vs.length = (List.range L.length).toArray := by
      apply Array.ext'
      rw [hvl]; simp
    rw [h1, h2] at hperm
    simpa using hperm
  have hin : ∀ i, i < L.length → gt d'.toList i < L.length := fun i hi => by
    have := hP.subset (gt_mem (l := d'.toList) (i := i) (by omega))
    simpa using this
  have hnd : d'.toList.Nodup := hP.symm.nodup List.nodup_range
  have hmapL : (List.range L.length).map (gt L) = L := by
    apply List.ext_getElem (by simp)
    intro j h1 h2
    simp [gt, h2]
  have hsort : d'.toList.map (gt L) = sortL L := by
    refine sortL_unique ?_ ?_
    · have := hP.map (gt L)
      rwa [hmapL] at this
    · refine List.pairwise_iff_getElem.2 ?_
      intro i j hi hj hij
      have hi' : i < d'.size := by simpa using hi
      have hj' : j < d'.size := by simpa using hj
      have h1 := hsorted i j (Nat.zero_le _) hij (by rw [hs1, hsz2] at hj'; exact hj')
      rw [ltOf_false, getElem!_pos d' i hi', getElem!_pos d' j hj'] at h1
      have h2 := cmpL_swap (gt L d'[j]) (gt L d'[i])
      simp only [List.getElem_map, Array.getElem_toList]
      omega
  have hgr : w.grownBy (sortWorld (encAt vs) w g 0 n d' os) (some g) := grownBy_sortedV d'
  have hgv : ∀ i, i < L.length → gt (d'.toList.map (encAt vs)) i = gt vs (gt d'.toList i) := fun i hi => by
    have h1 : gt (d'.toList.map (encAt vs)) i = encAt vs (gt d'.toList i) := gt_map _ _ _ (by omega)
    rw [h1]; unfold encAt; rw [if_pos (by rw [hvl]; exact hin i hi)]
  have hgL : ∀ i, i < L.length → gt (sortL L) i = gt L (gt d'.toList i) := fun i hi => by
    rw [← hsort]; exact gt_map _ _ _ (by omega)
  have hsl : (sortL L).length = L.length := (sortL_perm L).length_eq
  refine ⟨he, ⟨d'.toList.map (encAt vs), fun i k => G (gt d'.toList i) k, by simp [hsl, ← hts], ?_, ?_, ?_, ?_⟩, hgr⟩
  · have := ownsRow_sortedV (enc := encAt vs) (n := n) (os := os) (ss := List.range L.length) (ts := d'.toList) (by rw [hts, List.length_range]) hBg hb (by rw [List.length_range, ← hvl]; exact hnc) hcm hsz
    rw [List.length_range, ← hvl] at this
    unfold OwnV
    rw [show (d'.toList.map (encAt vs)).length = vs.length by rw [List.length_map, hts, hvl]]
    simpa using this
  · intro i k hi hk
    obtain ⟨a1, a2, a3⟩ := hG _ k (hin i (by omega)) hk
    exact ⟨a1, a2, Nat.lt_of_lt_of_le a3 hgr.size⟩
  · intro i j k hi hj hk hk'
    exact gt_inj hnd (by omega) (by omega) (hd _ _ k (hin i (by omega)) (hin j (by omega)) hk hk')
  · intro i hi
    show OwnIn _ _ _ _
    rw [hgv i (by omega), hgL i (by omega)]
    have he := hE _ (hin i (by omega))
    exact rdOwn.mono he (fun b hb2 hlt => ⟨hb2, Nat.lt_of_lt_of_le hlt hgr.size, hgr.block b hlt (fun e => (hG _ b (hin i (by omega)) hb2).2.1 (by cases e; rfl))⟩)

end Go.Proofs.YtigbpdaomgagiaaGreat

/- The order of subgroups as a comparison: by order, then by the entries. -/
namespace Go.Proofs.YtigbpdaomgagiaaGreat
open Go.Proofs Go.Shelf Go.RowKit Go.Lib Go.Sort

def cmpS (P : Pr) (u v : List (List Int)) : Int := if cmpI (prodU P u u.length) (prodU P v v.length) = 0 then cmpL u.flatten v.flatten else cmpI (prodU P u u.length) (prodU P v v.length)

theorem cmpS_neg {P : Pr} {u v : List (List Int)} : cmpS P u v < 0 ↔ subLt P u v := by
  unfold cmpS subLt
  rcases cmpI_cases (prodU P u u.length) (prodU P v v.length) with ⟨h, k⟩ | ⟨h, k⟩ | ⟨h, k⟩ <;> rw [h]
  · rw [if_neg (by omega)]; exact ⟨fun _ => .inl k, fun _ => by omega⟩
  · rw [if_pos rfl]; exact ⟨fun h => .inr ⟨k, h⟩, fun h => by rcases h with h | h; · omega
                                                              · exact h.2⟩
  · rw [if_neg (by omega)]; exact ⟨fun h => by omega, fun h => by omega⟩

theorem cmpS_swap (P : Pr) (u v : List (List Int)) : cmpS P v u = - cmpS P u v := by
  unfold cmpS
  rw [cmpL_swap u.flatten v.flatten]
  rcases cmpI_cases (prodU P u u.length) (prodU P v v.length) with ⟨h, k⟩ | ⟨h, k⟩ | ⟨h, k⟩ <;> rcases cmpI_cases (prodU P v v.length) (prodU P u u.length) with ⟨h', k'⟩ | ⟨h', k'⟩ | ⟨h', k'⟩ <;> rw [h, h']
  all_goals first | omega | rfl

theorem swo_cmpS (P : Pr) : SWO (ltOf (cmpS P)) where
  irrefl x := by
    have := cmpS_swap P x x
    unfold ltOf; rw [decide_eq_false_iff_not]; omega
  trans x y z h k := by
    unfold ltOf at *
    rw [decide_eq_true_iff] at *
    exact cmpS_neg.2 (subLt_trans (cmpS_neg.1 h) (cmpS_neg.1 k))
  ntrans x y z h k := by
    unfold ltOf at *
    rw [decide_eq_false_iff_not] at *
    intro hz
    have hz' := cmpS_neg.1 hz
    unfold subLt at hz'
    rw [cmpS_neg] at h k
    unfold subLt at h k
    have h1 := cmpL_swap x.flatten y.flatten
    have h2 := cmpL_swap y.flatten z.flatten
    have h3 := cmpL_swap x.flatten z.flatten
    rcases hz' with hz' | ⟨e, hz'⟩
    · have : ¬ prodU P x x.length < prodU P y y.length := fun hh => h (.inl hh)
      have : ¬ prodU P y y.length < prodU P z z.length := fun hh => k (.inl hh)
      omega
    · have hx : ¬ prodU P x x.length < prodU P y y.length := fun hh => h (.inl hh)
      have hy : ¬ prodU P y y.length < prodU P z z.length := fun hh => k (.inl hh)
      have e1 : prodU P x x.length = prodU P y y.length := by omega
      have e2 : prodU P y y.length = prodU P z z.length := by omega
      have c1 : ¬ cmpL x.flatten y.flatten < 0 := fun hh => h (.inr ⟨e1, hh⟩)
      have c2 : ¬ cmpL y.flatten z.flatten < 0 := fun hh => k (.inr ⟨e2, hh⟩)
      have h4 := cmpL_le_trans z.flatten y.flatten x.flatten (by omega) (by omega)
      omega

/-- a list of all subgroups, each once, that the comparison calls sorted -/
theorem latL_of {P : Pr} (G : Grp P) {L L' : List (List (List Int))} (hp : L'.Perm L) (hs : L'.Pairwise (fun x y => 0 ≤ cmpS P y x)) (hn : L.Nodup) (hm : ∀ u, u ∈ L ↔ SubB P u) : LatL P L' := by
  refine ⟨?_, fun u => (hp.mem_iff).trans (hm u)⟩
  have hn' : L'.Nodup := hp.symm.nodup hn
  have hmem : ∀ u ∈ L', SubB P u := fun u hu => (hm u).1 (hp.mem_iff.1 hu)
  refine List.pairwise_iff_getElem.2 fun i j hi hj hij => ?_
  have h1 := List.pairwise_iff_getElem.1 hs i j hi hj hij
  have h2 := List.pairwise_iff_getElem.1 hn' i j hi hj hij
  refine Classical.byContradiction fun hc => ?_
  have := subLt_total G (hmem _ (List.getElem_mem hi)) (hmem _ (List.getElem_mem hj)) h2 hc
  rw [← cmpS_neg] at this
  omega

end Go.Proofs.YtigbpdaomgagiaaGreat

/- impl.compareSubgroups, impl.latticeOf$1, cmp.Or at int. -/
namespace Go.Proofs.YtigbpdaomgagiaaGreat
open Go.RowKit

set_option maxHeartbeats 1000000 in
theorem orInt_ok (a b : Int) (w : World) (v : Value) (S : Nat → Prop) (h : Ints S w v [a, b]) :
    Calls Tryz.prog 197 #[v] w fun e w' => e = .returned (.int .i64 (if a = 0 then b else a)) ∧ w' = w := by
  obtain ⟨av, capv, rfl, _, _⟩ := h.shape
  obtain ⟨b0, o0, rfl, _, _, hc0⟩ := Ints.at h 0 (by simp)
  have hc1 : w.cell? ⟨b0, o0 + 1, none⟩ = some (.int .i64 b) := by
    obtain ⟨b1, o1, e, _, _, hc1⟩ := Ints.at h 1 (by simp)
    cases e; exact hc1
  have hc0' : w.cell? ⟨b0, o0, none⟩ = some (.int .i64 a) := hc0
  clear hc0 h
  have hln : (([a, b] : List Int).length : Int) = 2 := rfl
  rw [show ([a, b] : List Int).length = 2 from rfl]
  clear hln
  go_enter Tryz.func197, Tryz.ntmps197
  go_wp2
  go_loopw [8] (fun iv wr => ∃ k : Nat, iv = .int .i64 k ∧ k ≤ 2 ∧ wr = w ∧ (1 ≤ k → a = 0) ∧ (2 ≤ k → b = 0)) (fun iv _ => 2 - (intOf iv).toNat)
  case atStart => exact ⟨0, rfl, by omega, rfl, fun h => by omega, fun h => by omega⟩
  case round =>
    obtain ⟨k, rfl, hk, rfl, ha, hb⟩ := hrel
    by_cases h0 : k = 0
    · subst h0
      clear ha hb hk
      by_cases hz : a = 0
      · subst hz
        go_wp2
        go_roundw
        case rel => exact ⟨1, by go_num, by omega, trivial, by simp, by omega⟩
        case measure => simp [intOf]
      · go_wp2
        exact bodyPost_ret (v := .int .i64 a) (by simp [results, Tryz.results197, go_sem]) rfl ⟨rfl, rfl⟩
    · by_cases h1 : k = 1
      · subst h1
        have ha' := ha (by omega)
        subst ha'
        clear ha hb hk h0
        by_cases hz : b = 0
        · subst hz
          go_wp2
          go_roundw
          case rel => exact ⟨2, by go_num, by omega, trivial, by simp, by simp⟩
          case measure => simp [intOf]
        · go_wp2
          exact bodyPost_ret (v := .int .i64 b) (by simp [results, Tryz.results197, go_sem]) rfl ⟨rfl, rfl⟩
      · have h2 : k = 2 := by omega
        subst h2
        have ha' := ha (by omega)
        have hb' := hb (by omega)
        subst ha'; subst hb'
        clear ha hb hk h0 h1
        go_wp2
        exact bodyPost_ret (v := .int .i64 0) (by simp [results, Tryz.results197, go_sem]) rfl ⟨rfl, rfl⟩

theorem seqOk_row {P : Pr} {U : List (List Int)} (hU : SeqOk P U) : ∀ u ∈ U, u.length = P.orders.length := fun u hu => (hU.1 u hu).1.1

set_option maxRecDepth 100000 in
set_option maxHeartbeats 2000000 in
theorem compareSubgroups_ok (P : Pr) (hP : Valid P) (w : World) (p uv vv : Value) (U V : List (List Int)) (Sp Su Sv : Nat → Prop) (hp : PresP Sp w p P) (hu : Rows2 Su w uv U) (hv : Rows2 Sv w vv V) (hU : SeqOk P U) (hV : SeqOk P V) (hlu : U.length ≤ 100) (hlv : V.length ≤ 100) :
    Calls Tryz.prog 141 #[p, uv, vv] w (Ret w fun w' v => v = .int .i64 (cmpS P U V) ∧ w.drawn ≤ w'.drawn) := by
  have hn6 := hP.n6
  obtain ⟨pb, po, rfl⟩ := hp.shape
  obtain ⟨au, capu, rfl, _, _⟩ := Sl.shape hu
  obtain ⟨av, capv, rfl, _, _⟩ := Sl.shape hv
  have hUl : ∀ u ∈ U, u.length ≤ 1000 := fun u h => by have := seqOk_row hU u h; omega
  have hVl : ∀ u ∈ V, u.length ≤ 1000 := fun u h => by have := seqOk_row hV u h; omega
  have hUf : U.flatten.length ≤ 100000 := by have := rowsTo_len U 1000 hUl _ (Nat.le_refl _); rw [rowsTo_all] at this; omega
  have hVf : V.flatten.length ≤ 100000 := by have := rowsTo_len V 1000 hVl _ (Nat.le_refl _); rw [rowsTo_all] at this; omega
  have hdef : cmpS P U V = if cmpI (prodU P U U.length) (prodU P V V.length) = 0 then cmpL U.flatten V.flatten else cmpI (prodU P U U.length) (prodU P V V.length) := rfl
  have HH := Lib.hid (And.intro (And.intro hU hV) (And.intro (And.intro hUl hVl) (And.intro hUf (And.intro hVf hdef)))); clear hU hV hUl hVl hUf hVf hdef
  go_enter Tryz.func141, Tryz.ntmps141
  go_wp2_with fail
  refine Calls.mono (sizeOfD_ok P hP w _ _ U Sp Su hp hu HH.out.1.1 hlu) ?_
  rintro e1 w1 ⟨v1, rfl, hg1, rfl, hd1⟩
  obtain ⟨a, ha⟩ : ∃ a, a = prodU P U U.length := ⟨_, rfl⟩
  rw [← ha]
  have HA := Lib.hid (And.intro ha hd1); clear ha hd1
  go_wp2_with fail
  refine Calls.mono (sizeOfD_ok P hP w1 _ _ V Sp Sv (hp.ext hg1) (Rows2.ext hv hg1) HH.out.1.2 hlv) ?_
  rintro e2 w2 ⟨v2, rfl, hg2, rfl, hd2⟩
  obtain ⟨b, hb⟩ : ∃ b, b = prodU P V V.length := ⟨_, rfl⟩
  rw [← hb]
  have hdef := HH.out.2.2.2.2
  rw [← HA.out.1, ← hb] at hdef
  have HD := Lib.hid (And.intro hdef hd2); clear hdef hb hd2
  go_wp2_with fail
  refine Calls.mono (cmpI_ok a b w2) ?_
  rintro e3 w3 ⟨rfl, rfl⟩
  obtain ⟨c, hc⟩ : ∃ c, c = cmpI a b := ⟨_, rfl⟩
  rw [← hc]
  have hdef := HD.out.1
  rw [← hc] at hdef
  have HD2 := Lib.hid hdef; clear hdef hc
  have hg12 := grown_trans hg1 hg2
  go_wp2_with fail
  refine Calls.mono (concatInts_ok w3 _ U Su (Rows2.ext hu hg12) HH.out.2.1.1 hlu) ?_
  rintro e4 w4 ⟨v4, rfl, hg4, hO4, hd4⟩
  have hg14 := grown_trans hg12 hg4
  have HD4 := Lib.hid hd4; clear hd4
  go_wp2_with fail
  refine Calls.mono (concatInts_ok w4 _ V Sv (Rows2.ext hv hg14) HH.out.2.1.2 hlv) ?_
  rintro e5 w5 ⟨v5, rfl, hg5, hO5, hd5⟩
  have hI4 : Ints Any w5 v4 U.flatten := Ints.sub (Ints.ext (ints_of_own (S := Any) hO4 (by have := HH.out.2.2.1; omega) (fun _ _ => trivial)) hg5) (fun _ _ _ => trivial)
  have hI5 : Ints Any w5 v5 V.flatten := ints_of_own (S := Any) hO5 (by have := HH.out.2.2.2.1; omega) (fun _ _ => trivial)
  have HI := Lib.hid (And.intro hI4 hI5); clear hI4 hI5 hO4 hO5
  have HD5 := Lib.hid hd5; clear hd5
  go_wp2_with fail
  refine Calls.mono (sCompare_ok v4 v5 U.flatten V.flatten w5 Any Any HI.out.1 HI.out.2) ?_
  rintro e6 w6 ⟨rfl, rfl⟩
  obtain ⟨d, hd⟩ : ∃ d, d = cmpL U.flatten V.flatten := ⟨_, rfl⟩
  rw [← hd]
  have hdef := HD2.out
  rw [← hd] at hdef
  have HD3 := Lib.hid hdef; clear hdef hd HD2 HH HI
  have hga : Ext w6 (w6.alloc (.cells #[.int .i64 c, .int .i64 d] 3)) := World.grownBy_alloc _ _ _
  have hO7 : OwnV w6.heap.size 3 (w6.alloc (.cells #[.int .i64 c, .int .i64 d] 3)) (.slice (some ⟨w6.heap.size, 0, none⟩) 2 2) [.int .i64 c, .int .i64 d] := World.ownsRow_lit w6 #[.int .i64 c, .int .i64 d] 2 (Nat.le_refl _) (by decide) rfl
  have hI7 : Ints Any (w6.alloc (.cells #[.int .i64 c, .int .i64 d] 3)) (.slice (some ⟨w6.heap.size, 0, none⟩) 2 2) [c, d] := by
    refine ⟨_, _, rfl, ⟨by simp, by simp, fun h => by cases h⟩, fun i hi => ⟨w6.heap.size, 0, .int .i64 (gt [c, d] i), rfl, trivial, by simp, ?_, rfl⟩⟩
    have := hO7.cell i (by simpa using hi)
    rw [Nat.zero_add, this]
    have hi2 : i < 2 := by simpa using hi
    have : i = 0 ∨ i = 1 := by omega
    rcases this with rfl | rfl <;> rfl
  have H7 := Lib.hid hI7; clear hI7 hO7
  go_wp2_with fail
  refine Calls.mono (orInt_ok c d _ _ Any H7.out) ?_
  rintro e8 w8 ⟨rfl, rfl⟩
  rw [← HD3.out]
  go_wp2
  go_ret
  exact ⟨_, rfl, grown_trans hg14 (grown_trans hg5 hga), rfl, Nat.le_trans (Nat.le_trans HA.out.2 HD.out.2) (Nat.le_trans HD4.out HD5.out)⟩

set_option maxHeartbeats 1000000 in
theorem latCmp_ok (P : Pr) (hP : Valid P) (w : World) (bx pb po : Nat) (uv vv : Value) (U V : List (List Int)) (Sp Su Sv : Nat → Prop) (hc : w.cell? ⟨bx, 0, none⟩ = some (.pointer (some ⟨pb, po, none⟩))) (hp : PresP Sp w (.pointer (some ⟨pb, po, none⟩)) P)
    (hu : Rows2 Su w uv U) (hv : Rows2 Sv w vv V) (hU : SeqOk P U) (hV : SeqOk P V) (hlu : U.length ≤ 100) (hlv : V.length ≤ 100) :
    Calls Tryz.prog 140 #[uv, vv, .pointer (some ⟨bx, 0, none⟩)] w (Ret w fun w' v => v = .int .i64 (cmpS P U V) ∧ w.drawn ≤ w'.drawn) := by
  go_enter Tryz.func140, Tryz.ntmps140
  go_wp2_with fail
  refine Calls.mono (compareSubgroups_ok P hP w _ uv vv U V Sp Su Sv hp hu hv hU hV hlu hlv) ?_
  rintro e1 w1 ⟨v1, rfl, hg1, rfl, hd1⟩
  obtain ⟨c, hc⟩ : ∃ c, c = cmpS P U V := ⟨_, rfl⟩
  rw [← hc]
  have HC := Lib.hid (And.intro hc hd1); clear hc hd1
  go_wp2
  go_ret
  exact ⟨_, rfl, hg1, congrArg (Value.int .i64) HC.out.1, HC.out.2⟩

end Go.Proofs.YtigbpdaomgagiaaGreat

/- spec.l03Flat, spec.l01Less, spec.l19Before. -/
namespace Go.Proofs.YtigbpdaomgagiaaGreat
open Go.RowKit

set_option maxRecDepth 100000 in
set_option maxHeartbeats 2000000 in
theorem l03Flat_ok (w : World) (lv : Value) (us : List (List Int)) (Sr : Nat → Prop) (hl : Rows2 Sr w lv us) (hb : ∀ u ∈ us, u.length ≤ 1000) (hn : us.length ≤ 100) :
    Calls Tryz.prog 225 #[lv] w (Ret w fun w' v => Own w.heap.size w' v us.flatten) := by
  obtain ⟨al, capl, rfl, _, _⟩ := Sl.shape hl
  have hfl : ∀ k, k ≤ us.length → (rowsTo us k).length ≤ 100000 := fun k hk => by have := rowsTo_len us 1000 hb k hk; omega
  have HF := Lib.hid (And.intro hfl hb); clear hfl hb
  rw [← rowsTo_all]
  go_enter Tryz.func225, Tryz.ntmps225
  go_wp2
  go_loopw [3, 4] (fun ov iv wr => ∃ (k : Nat) (v4 : Value), v4 = ov ∧ iv = .int .i64 k ∧ k ≤ us.length ∧ Ext w wr ∧ Own w.heap.size wr v4 (rowsTo us k)) (fun _ iv _ => us.length - (intOf iv).toNat)
  case atStart => exact ⟨0, _, rfl, rfl, by omega, World.grownBy_alloc _ _ _, World.ownsRow_lit w #[] 0 (Nat.le_refl _) (by decide) rfl⟩
  case round =>
    obtain ⟨k, v4, rfl, rfl, hk, hg, hO⟩ := hrel
    by_cases hlt : k < us.length
    · have hlt' : (k : Int) < us.length := by omega
      obtain ⟨b, off, a2, cap2, rfl, _, _, hc, hr⟩ := Rows2.at hl k hlt
      have hcr := hg.cell hc (by simp)
      have hr2 := Ints.ext hr hg
      have hlk := HF.out.2 _ (gt_mem hlt)
      have hfk := HF.out.1 k hk
      have hlen : (rowsTo us k).length + (gt us k).length ≤ 2147483648 := by omega
      have HN := Lib.hid (And.intro hr2 hlen); clear hlen hr2 hlk hfk hc
      go_wp2_with (first | (at_builtin; refine wp_app_ints rfl _ _ rfl w.heap.size _ (rowsTo us k) rfl hO _ (gt us k) rfl _ HN.out.1 HN.out.2 hg.size ?_; intro v5 w5 hO5 hg5 _; have hgw5 := grown_own hg hg5 (fun j hj hlt => by have := (hO.lt j hj).1; omega)) | fail)
      clear hcr
      go_roundw
      case rel => exact ⟨k + 1, v5, rfl, by go_num, by omega, hgw5, hO5⟩
      case measure => simp [intOf]; omega
    · have hke : k = us.length := by omega
      subst hke
      obtain ⟨az, nz, capz, hvz⟩ : ∃ az nz capz, v4 = .slice az nz capz := by
        rcases hO.2 with ⟨h1, _⟩ | ⟨g, cp, _, h1, _⟩
        · exact ⟨_, _, _, h1⟩
        · exact ⟨_, _, _, h1⟩
      subst hvz
      go_wp2
      go_ret
      exact ⟨_, rfl, hg, hO⟩

theorem cmpL_end {X Y : List Int} {k : Nat} (hx : k ≤ X.length) (hy : k ≤ Y.length) (h : k = X.length ∨ k = Y.length) : (cmpL (X.drop k) (Y.drop k) < 0 ↔ X.length < Y.length) := by
  by_cases h1 : k < X.length
  · have h2 : k = Y.length := by omega
    rw [drop_gt h1, List.drop_eq_nil_of_le (show Y.length ≤ k by omega)]
    simp only [cmpL]; omega
  · rw [List.drop_eq_nil_of_le (show X.length ≤ k by omega)]
    by_cases h2 : k < Y.length
    · rw [drop_gt h2]; simp only [cmpL]; omega
    · rw [List.drop_eq_nil_of_le (show Y.length ≤ k by omega)]
      simp only [cmpL]; omega

set_option maxRecDepth 100000 in
set_option maxHeartbeats 4000000 in
theorem l01Less_ok (a b : Value) (X Y : List Int) (w : World) (Sa Sb : Nat → Prop) (ha : Ints Sa w a X) (hb : Ints Sb w b Y) :
    Calls Tryz.prog 224 #[a, b] w (Ret w fun _ v => v = .bool (decide (cmpL X Y < 0))) := by
  obtain ⟨aa, capa, rfl, hla, _⟩ := ha.shape
  obtain ⟨ab, capb, rfl, hlb, _⟩ := hb.shape
  go_enter Tryz.func224, Tryz.ntmps224
  go_wp2
  go_loopw [5] (fun v wr => ∃ k : Nat, v = .int .i64 k ∧ k ≤ X.length ∧ k ≤ Y.length ∧ Ext w wr ∧ Hid (cmpL X Y = cmpL (X.drop k) (Y.drop k))) (fun v _ => X.length - (intOf v).toNat)
  case atStart => exact ⟨0, rfl, by omega, by omega, Ext.refl _, Lib.hid (by simp)⟩
  case round =>
    obtain ⟨k, rfl, hk, hkY, hg, hcmp⟩ := hrel
    by_cases hlt : k < X.length
    · obtain ⟨ba, oa, rfl, _, _, hca⟩ := Ints.at (Ints.ext ha hg) k hlt
      have hlt' : (k : Int) < X.length := by omega
      by_cases hltY : k < Y.length
      · obtain ⟨bb, ob, rfl, _, _, hcb⟩ := Ints.at (Ints.ext hb hg) k hltY
        have hltY' : (k : Int) < Y.length := by omega
        have hc2 := hcmp.out
        rw [drop_gt hlt, drop_gt hltY] at hc2
        simp only [cmpL] at hc2
        obtain ⟨x, hx⟩ : ∃ x, x = gt X k := ⟨_, rfl⟩
        obtain ⟨y, hy⟩ : ∃ y, y = gt Y k := ⟨_, rfl⟩
        rw [← hx] at hca hc2
        rw [← hy] at hcb hc2
        have HC := Lib.hid hc2; clear hc2 hcmp hx hy
        go_wp2
        go_quiet (fail)
        rename_i nq _
        have hgq : Ext w (wr.drewN nq) := grown_trans hg (grown_drewN _ _ _)
        have hca2 : (wr.drewN nq).cell? ⟨ba, oa + k, none⟩ = some (.int .i64 x) := hca
        have hcb2 : (wr.drewN nq).cell? ⟨bb, ob + k, none⟩ = some (.int .i64 y) := hcb
        clear hca hcb
        generalize wr.drewN nq = wq at *
        by_cases hz : x = y
        · subst hz
          have hcn := HC.out
          have h0 : cmpI x x = 0 := by unfold cmpI; simp
          rw [if_pos h0] at hcn
          have HC2 := Lib.hid hcn; clear hcn HC h0
          go_wp2
          go_roundw
          case rel => exact ⟨k + 1, by go_num, by omega, by omega, hgq, HC2⟩
          case measure => simp [intOf]; omega
        · have hcn := HC.out
          have h1 : cmpI x y ≠ 0 := by
            rcases cmpI_cases x y with ⟨h, k⟩ | ⟨h, k⟩ | ⟨h, k⟩ <;> omega
          rw [if_neg h1] at hcn
          have h2 : (decide (cmpL X Y < 0)) = decide (x < y) := by
            rw [hcn]
            rcases cmpI_cases x y with ⟨h, k⟩ | ⟨h, k⟩ | ⟨h, k⟩
            · rw [h]; simp [k]
            · exact absurd k hz
            · rw [h]; simp; omega
          have HC2 := Lib.hid h2; clear hcn HC h1 h2
          have hne : (x != y) = true := by simpa using hz
          go_wp2
          go_quiet (fail)
          rename_i nq2 _
          go_wp2
          go_ret
          exact ⟨_, rfl, grown_trans hgq (grown_drewN _ _ _), congrArg Value.bool HC2.out.symm⟩
      · have hend := cmpL_end hk hkY (.inr (by omega))
        have h2 : (decide (cmpL X Y < 0)) = decide (X.length < Y.length) := by rw [hcmp.out]; exact decide_eq_decide.2 hend
        have HC2 := Lib.hid h2; clear h2 hend hcmp
        have hltY' : ¬ (k : Int) < Y.length := by omega
        go_wp2
        go_ret
        exact ⟨_, rfl, hg, congrArg Value.bool HC2.out.symm⟩
    · have hend := cmpL_end hk hkY (.inl (by omega))
      have h2 : (decide (cmpL X Y < 0)) = decide (X.length < Y.length) := by rw [hcmp.out]; exact decide_eq_decide.2 hend
      have HC2 := Lib.hid h2; clear h2 hend hcmp
      have hlt' : ¬ (k : Int) < X.length := by omega
      go_wp2
      go_ret
      exact ⟨_, rfl, hg, congrArg Value.bool HC2.out.symm⟩

def ltB (P : Pr) (u v : List (List Int)) : Bool := decide (cmpS P u v < 0)
theorem ltB_iff {P : Pr} {u v : List (List Int)} : ltB P u v = true ↔ subLt P u v := by unfold ltB; rw [decide_eq_true_iff]; exact cmpS_neg

set_option maxRecDepth 100000 in
set_option maxHeartbeats 4000000 in
theorem l19Before_ok (P : Pr) (hP : Valid P) (w : World) (pv uv vv : Value) (U V : List (List Int)) (Sp Su Sv : Nat → Prop) (hpv : PresV Sp w pv P) (hu : Rows2 Su w uv U) (hv : Rows2 Sv w vv V) (hU : SeqOk P U) (hV : SeqOk P V) (hlu : U.length ≤ 100) (hlv : V.length ≤ 100) :
    Calls Tryz.prog 192 #[pv, uv, vv] w (Ret w fun _ v => v = .bool (ltB P U V)) := by
  have hn6 := hP.n6
  obtain ⟨vo, vp, vc, rfl, h3⟩ := hpv
  have hp0 := PresP.box h3 31
  have hg0 : Ext w (w.alloc (.cells #[vo, vp, vc] 31)) := World.grownBy_alloc _ _ _
  obtain ⟨vo6, vp6, vc6, _, _, hc0, hc1, hc2, h36⟩ := hp0.at
  simp only [Nat.zero_add] at hc1 hc2
  have hbx : ∀ w', Ext (w.alloc (.cells #[vo, vp, vc] 31)) w' → w'.cell? ⟨w.heap.size, 0, none⟩ = some vo6 ∧ w'.cell? ⟨w.heap.size, 1, none⟩ = some vp6 ∧ w'.cell? ⟨w.heap.size, 2, none⟩ = some vc6 := fun w' h => ⟨h.cell hc0 (by simp), h.cell hc1 (by simp), h.cell hc2 (by simp)⟩
  have HB := Lib.hid hbx; clear hbx hp0
  obtain ⟨au, capu, rfl, _, _⟩ := Sl.shape hu
  obtain ⟨av, capv, rfl, _, _⟩ := Sl.shape hv
  have hUl : ∀ u ∈ U, u.length ≤ 1000 := fun u h => by have := seqOk_row hU u h; omega
  have hVl : ∀ u ∈ V, u.length ≤ 1000 := fun u h => by have := seqOk_row hV u h; omega
  have hUf : U.flatten.length ≤ 100000 := by have := rowsTo_len U 1000 hUl _ (Nat.le_refl _); rw [rowsTo_all] at this; omega
  have hVf : V.flatten.length ≤ 100000 := by have := rowsTo_len V 1000 hVl _ (Nat.le_refl _); rw [rowsTo_all] at this; omega
  have hdef : ltB P U V = decide ((if cmpI (prodU P U U.length) (prodU P V V.length) = 0 then cmpL U.flatten V.flatten else cmpI (prodU P U U.length) (prodU P V V.length)) < 0) := rfl
  have hu0 := Rows2.ext hu hg0
  have hv0 := Rows2.ext hv hg0
  have HH := Lib.hid (And.intro (And.intro hU hV) (And.intro (And.intro hUl hVl) (And.intro hUf (And.intro hVf hdef)))); clear hU hV hUl hVl hUf hVf hdef hu hv
  go_enter Tryz.func192, Tryz.ntmps192
  go_wp2
  clear hc0 hc1 hc2
  generalize hw0 : w.alloc (.cells #[vo, vp, vc] 31) = w0 at *
  clear hw0
  obtain ⟨a, ha⟩ : ∃ a, a = prodU P U U.length := ⟨_, rfl⟩
  obtain ⟨b, hb⟩ : ∃ b, b = prodU P V V.length := ⟨_, rfl⟩
  have hdef := HH.out.2.2.2.2
  rw [← ha, ← hb] at hdef
  have HD := Lib.hid (And.intro hdef (And.intro ha hb)); clear hdef ha hb
  have e1 : ∀ w', Ext w0 w' → w'.cell? ⟨w.heap.size, 0, none⟩ = some vo6 := fun w' h => (HB.out w' h).1
  have e2 : ∀ w', Ext w0 w' → w'.cell? ⟨w.heap.size, 1, none⟩ = some vp6 := fun w' h => (HB.out w' h).2.1
  have e3 : ∀ w', Ext w0 w' → w'.cell? ⟨w.heap.size, 2, none⟩ = some vc6 := fun w' h => (HB.out w' h).2.2
  go_region_held3 (fun w' => Ext w0 w') (first | exact grown_drew _ _ | assumption)
    (first
      | (revert hgA; intro hgA; go_at_call 60; refine Calls.mono (Calls.rel (w0 := w0) (by assumption) (l12Order_ok P hP _ _ _ V Any Any ⟨_, _, _, rfl, Pres3.ext h36 (by assumption)⟩ (Rows2.sub (Rows2.ext hv0 (by assumption)) (fun _ _ _ => trivial)) HH.out.1.2 (by omega))) ?_; rintro eB wB ⟨vB, rfl, hgB, hsB, hvB⟩; rw [← HD.out.2.2] at hvB; subst hvB)
      | (go_at_call 60; refine Calls.mono (Calls.rel (w0 := w0) (by assumption) (l12Order_ok P hP _ _ _ U Any Any ⟨_, _, _, rfl, Pres3.ext h36 (by assumption)⟩ (Rows2.sub (Rows2.ext hu0 (by assumption)) (fun _ _ _ => trivial)) HH.out.1.1 (by omega))) ?_; rintro eA wA ⟨vA, rfl, hgA, hsA, hvA⟩; rw [← HD.out.2.1] at hvA; subst hvA))
  clear e1 e2 e3 hgA hsA hsB
  by_cases hab : a = b
  · subst hab
    have h0 : cmpI a a = 0 := by unfold cmpI; simp
    have hd := HD.out.1
    rw [if_pos h0] at hd
    have HD2 := Lib.hid hd; clear hd h0
    go_wp2_with fail
    refine Calls.mono (l03Flat_ok wB _ U Any (Rows2.sub (Rows2.ext hu0 hgB) (fun _ _ _ => trivial)) HH.out.2.1.1 hlu) ?_
    rintro e4 w4 ⟨v4, rfl, hg4, hO4⟩
    have hg04 := grown_trans hgB hg4
    go_wp2_with fail
    refine Calls.mono (l03Flat_ok w4 _ V Any (Rows2.sub (Rows2.ext hv0 hg04) (fun _ _ _ => trivial)) HH.out.2.1.2 hlv) ?_
    rintro e5 w5 ⟨v5, rfl, hg5, hO5⟩
    have hI4 : Ints Any w5 v4 U.flatten := Ints.sub (Ints.ext (ints_of_own (S := Any) hO4 (by have := HH.out.2.2.1; omega) (fun _ _ => trivial)) hg5) (fun _ _ _ => trivial)
    have hI5 : Ints Any w5 v5 V.flatten := ints_of_own (S := Any) hO5 (by have := HH.out.2.2.2.1; omega) (fun _ _ => trivial)
    have HI := Lib.hid (And.intro hI4 hI5); clear hI4 hI5 hO4 hO5
    go_wp2_with fail
    refine Calls.mono (l01Less_ok v4 v5 U.flatten V.flatten w5 Any Any HI.out.1 HI.out.2) ?_
    rintro e6 w6 ⟨v6, rfl, hg6, hv6⟩
    rw [← HD2.out] at hv6
    obtain ⟨r, hr⟩ : ∃ r, r = ltB P U V := ⟨_, rfl⟩
    rw [← hr] at hv6
    subst hv6
    have HR := Lib.hid hr; clear hr
    go_wp2
    go_ret
    exact ⟨_, rfl, grown_trans hg0 (grown_trans hg04 (grown_trans hg5 hg6)), congrArg Value.bool HR.out⟩
  · have hd := HD.out.1
    have h1 : cmpI a b ≠ 0 := by
      rcases cmpI_cases a b with ⟨h, k⟩ | ⟨h, k⟩ | ⟨h, k⟩ <;> omega
    rw [if_neg h1] at hd
    have hd2 : ltB P U V = decide (a < b) := by
      rw [hd]
      rcases cmpI_cases a b with ⟨h, k⟩ | ⟨h, k⟩ | ⟨h, k⟩
      · rw [h]; simp [k]
      · exact absurd k hab
      · rw [h]; simp; omega
    have HD2 := Lib.hid hd2; clear hd2 hd h1
    have hne : (a != b) = true := by simpa using hab
    go_wp2
    go_ret
    exact ⟨_, rfl, grown_trans hg0 hgB, congrArg Value.bool HD2.out.symm⟩

end Go.Proofs.YtigbpdaomgagiaaGreat

/- Maps that a call makes, by a general reading: what stands under each key. -/
namespace Go.Proofs.YtigbpdaomgagiaaGreat
open Go.RowKit
open Go.Maps (Keyed)

/-- a kind of maps: keys κ, elements ν -/
structure MapK (κ ν : Type) where
  t : TypeId
  k : TypeId
  e : TypeId
  kv : κ → Value
  kl : κ → Lit
  okK : κ → Prop
  ev : ν → Value
  el : ν → Lit
  okV : ν → Prop
  z : ν
  keyed : Keyed Tryz.prog k
  und : Tryz.prog.underlying t = some (.map k e)
  key : ∀ a, okK a → keyOf Tryz.prog k (kv a) = some (kl a)
  inj : ∀ a c, kl a = kl c → a = c
  isKey : ∀ a, WideAt.IsKeyLit (kl a)
  elem : ∀ x, okV x → plainElem (H := Unit) Tryz.prog e (ev x) = some (.lit (el x), [])
  inv : ∀ v x ps, plainElem (H := Unit) Tryz.prog e v = some (.lit (el x), ps) → v = ev x
  zero : ∀ w, (zeroValue e).run Tryz.prog w = .ok (ev z) w
  okz : okV z

variable {κ ν : Type}

/-- the map in block b: under each key a stands f a; at most m keys -/
def MapAt (M : MapK κ ν) (w : World) (b : Nat) (f : κ → ν) (m : Nat) : Prop :=
  ∃ (n : Nat) (D : DataW Unit), w.ownsMap Tryz.prog M.k (plainElem Tryz.prog M.e) b n D ∧ n ≤ m ∧ Maps.IsMap D ∧ ∀ a, M.okK a → D.atKey (M.kl a) (.lit (M.el M.z)) = .lit (M.el (f a))

theorem MapAt.made (M : MapK κ ν) (w : World) : MapAt M (w.alloc (.map #[] 0)) w.heap.size (fun _ => M.z) 0 :=
  ⟨0, .map [], World.ownsMap_made _ _ _ _, Nat.le_refl _, Maps.isMap_empty, fun a _ => by simp [WideAt.atKey_none]⟩
theorem MapAt.lt {M : MapK κ ν} {w : World} {b : Nat} {f : κ → ν} {m : Nat} (h : MapAt M w b f m) : b < w.heap.size := by
  obtain ⟨n, D, h, _⟩ := h
  exact h.lt
theorem MapAt.kept {M : MapK κ ν} {w w' : World} {b : Nat} {f : κ → ν} {m : Nat} {r : Option Nat} (h : MapAt M w b f m) (hg : w.grownBy w' r) (hne : some b ≠ r) : MapAt M w' b f m := by
  obtain ⟨n, D, h, h2⟩ := h
  exact ⟨n, D, h.kept hg hne, h2⟩
theorem MapAt.ext {M : MapK κ ν} {w w' : World} {b : Nat} {f : κ → ν} {m : Nat} (h : MapAt M w b f m) (hg : Ext w w') : MapAt M w' b f m := h.kept hg (by simp)
theorem MapAt.le {M : MapK κ ν} {w : World} {b : Nat} {f : κ → ν} {m m' : Nat} (h : MapAt M w b f m) (hm : m ≤ m') : MapAt M w b f m' := by
  obtain ⟨n, D, h, h2, h3⟩ := h
  exact ⟨n, D, h, Nat.le_trans h2 hm, h3⟩
theorem MapAt.look {M : MapK κ ν} {w : World} {b : Nat} {f : κ → ν} {m : Nat} (h : MapAt M w b f m) (a : κ) (ha : M.okK a) :
    (Instr.lookup M.t (.map (some b)) (M.kv a) false).run Tryz.prog w = .ok (M.ev (f a)) w := by
  obtain ⟨n, D, h, _, _, hat⟩ := h
  obtain ⟨v, ps, hrun, hv⟩ := h.lookup M.keyed M.und (M.zero w) (M.elem M.z M.okz) (M.key a ha)
  rw [hat a ha] at hv
  rw [hrun, M.inv _ _ _ hv]
theorem MapAt.update [DecidableEq κ] {M : MapK κ ν} {w : World} {b : Nat} {f : κ → ν} {m : Nat} (h : MapAt M w b f m) (a : κ) (ha : M.okK a) (x : ν) (hx : M.okV x) (hl : m ≤ 1048576) :
    ∃ w', (Instr.mapUpdate M.t (.map (some b)) (M.kv a) (M.ev x)).run Tryz.prog w = .ok () w' ∧ MapAt M w' b (fun c => if c = a then x else f c) (m + 1) ∧ w.grownBy w' (some b) := by
  obtain ⟨n, D, h, hn, hM, hat⟩ := h
  obtain ⟨w', hrun, hown, hg⟩ := h.update M.keyed M.und (by unfold maxLen; omega) (M.key a ha) (M.elem x hx)
  refine ⟨w', hrun, ⟨n + 1, _, hown, by omega, hM.put _ _, ?_⟩, hg⟩
  intro c hc
  by_cases he : c = a
  · subst he
    rw [Maps.atKey_put_same hM (M.isKey c)]; simp
  · rw [Maps.atKey_put_other (fun e => he (M.inj _ _ e)), hat c hc]; simp [he]
end Go.Proofs.YtigbpdaomgagiaaGreat

/- impl.keyOf: the bytes of all entries, each row closed by a semicolon. -/
namespace Go.Proofs.YtigbpdaomgagiaaGreat
open Go.RowKit

def keyRow (x : List Int) : List Int := x ++ [59]
def keyL (u : List (List Int)) : List Int := (u.map keyRow).flatten
def keyS (u : List (List Int)) : ByteArray := strOfNums (keyL u)
/-- the bytes as cells -/
def byV (l : List Int) : List Value := l.map (Value.int .u8)

theorem keyL_take (u : List (List Int)) (k : Nat) (h : k < u.length) : keyL (u.take (k + 1)) = keyL (u.take k) ++ keyRow (gt u k) := by
  unfold keyL
  rw [take_succ_gt u k h, List.map_append, List.flatten_append]
  simp

theorem keyL_len (u : List (List Int)) (b : Nat) (h : ∀ x ∈ u, x.length ≤ b) : (keyL u).length ≤ (b + 1) * u.length := by
  induction u with
  | nil => simp [keyL]
  | cons x u ih =>
    have h1 := ih (fun y hy => h y (List.mem_cons_of_mem _ hy))
    have h2 := h x (List.mem_cons_self ..)
    unfold keyL at h1 ⊢
    simp only [List.map_cons, List.flatten_cons, List.length_append, List.length_cons, keyRow, List.length_nil, Nat.mul_succ]
    omega

theorem keyS_size (u : List (List Int)) : (keyS u).size = (keyL u).length := strOfNums_size _

theorem und_bytes : Tryz.prog.underlying 168 = some (.slice 5) := by kernel_rfl
theorem und_byte : Tryz.prog.underlying 5 = some (.int .u8) := by kernel_rfl
theorem und_str : Tryz.prog.underlying 9 = some .string := by kernel_rfl
theorem Tryz.infoByte : (Tryz.prog.info? 5).map (fun i => (i.zero, i.size, i.bytes)) = some (some (.int .u8 0), 1, 1) := by kernel_rfl

theorem conv_bytes {B : Nat} {w : World} {v : Value} {l : List Int} (h : OwnV B 5 w v (byV l)) : (convert 168 9 v).run Tryz.prog w = .ok (.string (strOfNums l)) w := by
  rcases h.form with ⟨rfl, h2⟩ | ⟨g, cap, rfl, _⟩
  · have : l = [] := by unfold byV at h2; rw [List.map_eq_nil_iff] at h2; exact h2
    subst this
    rw [run_convert_bytes_nil w _ _ und_bytes und_byte 0 0 _ und_str]
    rfl
  · have hl : (byV l).length = l.length := by unfold byV; rw [List.length_map]
    rw [hl]
    refine run_convert_bytes_arg w _ _ und_bytes und_byte g 0 l.length cap l rfl (fun i hi => ?_) _ und_str
    have := h.cell i (by rw [hl]; exact hi)
    rw [Nat.zero_add, this]
    unfold byV
    rw [gt_map _ _ _ hi]; rfl

set_option maxHeartbeats 4000000 in
theorem keyOf_ok (u : List (List Int)) (w : World) (uv : Value) (S : Nat → Prop) (h : Rows2 S w uv u) (hb : ∀ x ∈ u, ∀ e ∈ x, 0 ≤ e ∧ e < 256) (hr : ∀ x ∈ u, x.length ≤ 1000) (hn : u.length ≤ 100) :
    Calls Tryz.prog 138 #[uv] w (Ret w fun _ v => v = .string (keyS u)) := by
  obtain ⟨au, capu, rfl, _, _⟩ := Sl.shape h
  have hlen : ∀ k, (keyL (u.take k)).length ≤ 1001 * 100 := fun k => by
    have h1 := keyL_len (u.take k) 1000 (fun x hx => hr x (List.mem_of_mem_take hx))
    have : (u.take k).length ≤ 100 := by rw [List.length_take]; omega
    have := Nat.mul_le_mul_left 1001 this
    omega
  have HB := Lib.hid (And.intro hb (And.intro hr hlen)); clear hb hr hlen
  go_enter Tryz.func138, Tryz.ntmps138
  go_wp2
  go_loopw [3, 10] (fun ov iv wr => ∃ (k : Nat) (v4 : Value), v4 = ov ∧ iv = .int .i64 k ∧ k ≤ u.length ∧ Ext w wr ∧ OwnV w.heap.size 5 wr v4 (byV (keyL (u.take k)))) (fun _ iv _ => u.length - (intOf iv).toNat)
  case atStart => exact ⟨0, _, rfl, rfl, by omega, Ext.refl _, World.ownsRow_nil _ _ _ _⟩
  case round =>
    obtain ⟨k, v4, rfl, rfl, hk, hg, hO⟩ := hrel
    by_cases hlt : k < u.length
    · have hlt' : (k : Int) < u.length := by omega
      obtain ⟨b, off, a2, cap2, rfl, _, _, hc0, hi⟩ := Rows2.at h k hlt
      have hc := hg.cell hc0 (by simp)
      clear hc0
      have hx := HB.out.1 _ (gtMem hlt)
      have hxl := HB.out.2.1 _ (gtMem hlt)
      have hstep := keyL_take u k hlt
      have hlk := HB.out.2.2 k
      obtain ⟨x, hxd⟩ : ∃ x, x = gt u k := ⟨_, rfl⟩
      rw [← hxd] at hx hxl hstep hc hi
      obtain ⟨l0, hl0⟩ : ∃ l0, l0 = keyL (u.take k) := ⟨_, rfl⟩
      rw [← hl0] at hstep hlk hO
      have HX := Lib.hid (And.intro hx (And.intro hxl (And.intro hstep (And.intro hlk (And.intro hxd hl0))))); clear hx hxl hstep hlk hxd hl0
      have hxl2 : x.length ≤ 1000 := HX.out.2.1
      go_wp2
      clear hc
      go_loopw [3, 16] (fun ov jv wr => ∃ (j : Nat) (v4 : Value), v4 = ov ∧ jv = .int .i64 j ∧ j ≤ x.length ∧ Ext w wr ∧ OwnV w.heap.size 5 wr v4 (byV (l0 ++ x.take j))) (fun _ jv _ => x.length - (intOf jv).toNat)
      case atStart => exact ⟨0, v4, rfl, rfl, by omega, hg, by rw [List.take_zero, List.append_nil]; exact hO⟩
      case round =>
        clear hO hg
        obtain ⟨j, v4, rfl, rfl, hj, hg, hO⟩ := hrel
        by_cases hltj : j < x.length
        · have hltj' : (j : Int) < x.length := by omega
          obtain ⟨b2, off2, rfl, _, _, hcj⟩ := Ints.at (Ints.ext hi hg) j hltj
          have hx := HX.out.1 _ (gtMem hltj)
          have hst : byV (l0 ++ x.take (j + 1)) = byV (l0 ++ x.take j) ++ [.int .u8 (gt x j)] := by
            unfold byV
            rw [take_succ_gt x j hltj, ← List.append_assoc, List.map_append]; rfl
          have hlen : (byV (l0 ++ x.take j)).length ≤ 1000000 := by
            have h1 := HX.out.2.1
            have h2 := HX.out.2.2.2.1
            unfold byV
            rw [List.length_map, List.length_append, List.length_take]; omega
          obtain ⟨e, he⟩ : ∃ e, e = gt x j := ⟨_, rfl⟩
          rw [← he] at hx hst hcj
          have hw8 : IntKind.u8.wrap e = e := by
            simp only [IntKind.wrap, IntKind.signed, IntKind.bits]
            simp; omega
          have HS := Lib.hid (And.intro hst (And.intro hlen (And.intro he hx))); clear hst hlen he hx
          go_wp2_with (first | (at_builtin; refine wp_app_val 168 5 (.int .u8 0) 1 und_bytes Tryz.infoByte rfl (by decide) rfl _ _ rfl w.heap.size v4 _ (byV (l0 ++ x.take j)) rfl wr hO rfl rfl rfl HS.out.2.1 hg.size ?_; intro v5 w5 hO5 hg5; have hg6 : Ext w w5 := grown_own hg hg5 (fun j hj hlt => by have := (hO.lt j hj).1; omega)) | fail)
          go_roundw
          case rel => exact ⟨j + 1, v5, rfl, by go_num, by omega, hg6, by rw [HS.out.1]; exact hO5⟩
          case measure => simp [intOf]; omega
        · have hje : j = x.length := by omega
          subst hje
          rw [List.take_length] at hO
          have hst : byV (keyL (u.take (k + 1))) = byV (l0 ++ x) ++ [.int .u8 59] := by
            rw [HX.out.2.2.1]
            unfold byV keyRow
            rw [← List.append_assoc, List.map_append (l₂ := [59])]; rfl
          have hlen : (byV (l0 ++ x)).length ≤ 1000000 := by
            have h1 := HX.out.2.1
            have h2 := HX.out.2.2.2.1
            unfold byV
            rw [List.length_map, List.length_append]; omega
          have HS := Lib.hid (And.intro hst hlen); clear hst hlen
          go_wp2_with (first | (at_builtin; refine wp_app_val 168 5 (.int .u8 0) 1 und_bytes Tryz.infoByte rfl (by decide) rfl _ _ rfl w.heap.size v4 _ (byV (l0 ++ x)) rfl wr hO rfl rfl rfl HS.out.2 hg.size ?_; intro v5 w5 hO5 hg5; have hg6 : Ext w w5 := grown_own hg hg5 (fun j hj hlt => by have := (hO.lt j hj).1; omega)) | fail)
          go_roundw
          case rel => exact ⟨k + 1, v5, rfl, by go_num, by omega, hg6, by rw [HS.out.1]; exact hO5⟩
          case measure => simp [intOf]; omega
    · have hke : k = u.length := by omega
      subst hke
      rw [List.take_length] at hO
      have hcv := conv_bytes hO
      have hsh : ∃ az nz capz, v4 = .slice az nz capz := by
        rcases hO.form with ⟨h1, _⟩ | ⟨g, cp, h1, _⟩
        · exact ⟨_, _, _, h1⟩
        · exact ⟨_, _, _, h1⟩
      obtain ⟨az, nz, capz, rfl⟩ := hsh
      go_wp2
      go_ret
      exact ⟨_, rfl, hg, rfl⟩

end Go.Proofs.YtigbpdaomgagiaaGreat

/- The lattice's maps: masks seen; the mask of a key. -/
namespace Go.Proofs.YtigbpdaomgagiaaGreat
open Go.RowKit
open Go.Maps (Keyed)

theorem und_u64 : Tryz.prog.underlying 101 = some (.int .u64) := by kernel_rfl
theorem und_boolL : Tryz.prog.underlying 4 = some .bool := by kernel_rfl
theorem und_mapUB : Tryz.prog.underlying 128 = some (.map 101 4) := by kernel_rfl
theorem und_mapSU : Tryz.prog.underlying 130 = some (.map 9 101) := by kernel_rfl

theorem u64_wf {a : Nat} (h : a < 2 ^ 64) : (Lit.int .u64 (a : Int)).wf = true := by
  have h' : a < 18446744073709551616 := h
  have h1 : IntKind.u64.min = 0 := by decide
  have h2 : IntKind.u64.max = 18446744073709551615 := by decide
  simp only [Lit.wf, h1, h2]
  simp
  omega

/-- map[uint64]bool -/
def mapUB : MapK Nat Bool where
  t := 128
  k := 101
  e := 4
  kv a := .int .u64 (a : Int)
  kl a := .int .u64 (a : Int)
  okK a := a < 2 ^ 64
  ev x := .bool x
  el x := .bool x
  okV _ := True
  z := false
  keyed := Maps.int_keyed und_u64
  und := und_mapUB
  key a ha := Maps.keyOf_int_mk und_u64 (u64_wf ha)
  inj a c h := by simp at h; omega
  isKey _ := trivial
  elem x _ := plainElem_bool und_boolL x
  inv v x ps h := by
    unfold plainElem at h
    rw [und_boolL] at h
    cases v <;> simp at h
    rw [h.1]
  zero w := by kernel_rfl
  okz := trivial

/-- map[string]uint64 -/
def mapSU : MapK ByteArray Nat where
  t := 130
  k := 9
  e := 101
  kv s := .string s
  kl s := .string s.data.toList
  okK s := s.size ≤ maxLen
  ev x := .int .u64 (x : Int)
  el x := .int .u64 (x : Int)
  okV x := x < 2 ^ 64
  z := 0
  keyed := Maps.string_keyed und_str
  und := und_mapSU
  key s hs := WideMaps.keyOf_string_mk und_str hs
  inj a c h := by
    cases a with | mk a => cases c with | mk c =>
    simp only [Lit.string.injEq] at h
    rw [Array.toList_inj.1 h]
  isKey _ := trivial
  elem x hx := plainElem_int und_u64 (u64_wf hx)
  inv v x ps h := by
    obtain ⟨c, rfl, hc, _⟩ := plainElem_int_inv und_u64 h
    simp only [Prod.mk.injEq, DataW.lit.injEq, Lit.int.injEq, true_and] at hc
    rw [hc.1]
  zero w := by kernel_rfl
  okz := by decide

/-- a map's block is no slice's -/
theorem MapAt.ne {κ ν : Type} {M : MapK κ ν} {w : World} {b B E m : Nat} {f : κ → ν} {v : Value} {xs : List Value} (h : MapAt M w b f m) (hO : OwnV B E w v xs) : some b ≠ v.ownBlock := by
  obtain ⟨n, D, ⟨es, clock, hb, _⟩, _⟩ := h
  obtain ⟨_, ⟨rfl, _⟩ | ⟨g, cap, cur, rfl, _, hc, _⟩⟩ := hO
  · intro e; cases e
  · intro e
    cases e
    rw [hc] at hb; cases hb

end Go.Proofs.YtigbpdaomgagiaaGreat

/- Moebius values of a list of masks in ascending order. -/
namespace Go.Proofs.YtigbpdaomgagiaaGreat
open Go.RowKit

/-- a mask within another -/
def inM (a b : Nat) : Bool := decide (a &&& b = a)

/-- the sum of the values behind place i whose masks hold the one at i, the first j of them -/
def sumTo (ms : List Nat) (vs : List Int) (i : Nat) : Nat → Int
  | 0 => 0
  | j + 1 => sumTo ms vs i j + (if inM (gt ms i) (gt ms (i + 1 + j)) then gt vs (i + 1 + j) else 0)

def mobL : List Nat → List Int
  | [] => []
  | m :: ms => (if ms = [] then 1 else - sumTo (m :: ms) (0 :: mobL ms) 0 ms.length) :: mobL ms

theorem mobL_len : ∀ ms, (mobL ms).length = ms.length
  | [] => rfl
  | m :: ms => by simp [mobL, mobL_len ms]

theorem sumTo_cons (a : Nat) (b : Int) (ms : List Nat) (vs : List Int) (i j : Nat) : sumTo (a :: ms) (b :: vs) (i + 1) j = sumTo ms vs i j := by
  induction j with
  | zero => rfl
  | succ j ih =>
    have e : i + 1 + 1 + j = (i + 1 + j) + 1 := by omega
    simp only [sumTo, ih, e]
    simp [gt]

theorem sumTo_head (m : Nat) (b c : Int) (ms : List Nat) (vs : List Int) (j : Nat) : sumTo (m :: ms) (b :: vs) 0 j = sumTo (m :: ms) (c :: vs) 0 j := by
  induction j with
  | zero => rfl
  | succ j ih =>
    have e : 0 + 1 + j = j + 1 := by omega
    simp only [sumTo, ih, e]
    simp [gt]

/-- the values, from the last place to the first -/
theorem gt_mobL : ∀ (ms : List Nat) (i : Nat), i < ms.length → gt (mobL ms) i = if i + 1 = ms.length then 1 else - sumTo ms (mobL ms) i (ms.length - (i + 1))
  | [], i, h => by simp at h
  | m :: ms, 0, h => by
    have h1 : gt (mobL (m :: ms)) 0 = (if ms = [] then 1 else - sumTo (m :: ms) (0 :: mobL ms) 0 ms.length) := rfl
    rw [h1]
    by_cases hn : ms = []
    · subst hn; rfl
    · have : ¬ (0 + 1 = (m :: ms).length) := by simp; omega
      rw [if_neg hn, if_neg this]
      have e : (m :: ms).length - (0 + 1) = ms.length := by simp
      rw [e]
      congr 1
      exact sumTo_head _ _ _ _ _ _
  | m :: ms, i + 1, h => by
    have ih := gt_mobL ms i (by simpa using h)
    have h1 : gt (mobL (m :: ms)) (i + 1) = gt (mobL ms) i := by simp [mobL, gt]
    rw [h1, ih]
    have e1 : (i + 1 + 1 = (m :: ms).length) ↔ (i + 1 = ms.length) := by simp
    have e2 : (m :: ms).length - (i + 1 + 1) = ms.length - (i + 1) := by simp
    by_cases hc : i + 1 = ms.length
    · rw [if_pos hc, if_pos (e1.2 hc)]
    · rw [if_neg hc, if_neg (fun h => hc (e1.1 h)), e2]
      congr 1
      exact (sumTo_cons _ _ _ _ _ _).symm

/-- wrapping is a ring's map -/
theorem wrap_cong {x y : Int} (k : Int) (h : x = y + 18446744073709551616 * k) : IntKind.i64.wrap x = IntKind.i64.wrap y := by
  have : x % 18446744073709551616 = y % 18446744073709551616 := by omega
  have e : x % (2 ^ IntKind.i64.bits : Int) = y % (2 ^ IntKind.i64.bits : Int) := this
  unfold IntKind.wrap
  rw [e]
theorem wrap_off (a : Int) : ∃ k, IntKind.i64.wrap a = a + 18446744073709551616 * k := by
  have e : a % (2 ^ IntKind.i64.bits : Int) = a % 18446744073709551616 := rfl
  have e2 : (2 ^ IntKind.i64.bits : Int) = 18446744073709551616 := rfl
  unfold IntKind.wrap
  simp only [e2]
  split
  · exact ⟨- (a / 18446744073709551616) - 1, by omega⟩
  · exact ⟨- (a / 18446744073709551616), by omega⟩
theorem wrap_sub (a b : Int) : IntKind.i64.wrap (IntKind.i64.wrap a - IntKind.i64.wrap b) = IntKind.i64.wrap (a - b) := by
  obtain ⟨k, hk⟩ := wrap_off a
  obtain ⟨l, hl⟩ := wrap_off b
  exact wrap_cong (k - l) (by rw [hk, hl]; omega)
theorem wrap_add (a b : Int) : IntKind.i64.wrap (IntKind.i64.wrap a + IntKind.i64.wrap b) = IntKind.i64.wrap (a + b) := by
  obtain ⟨k, hk⟩ := wrap_off a
  obtain ⟨l, hl⟩ := wrap_off b
  exact wrap_cong (k + l) (by rw [hk, hl]; omega)
theorem wrap_neg (a : Int) : IntKind.i64.wrap (- IntKind.i64.wrap a) = IntKind.i64.wrap (- a) := by
  obtain ⟨k, hk⟩ := wrap_off a
  exact wrap_cong (- k) (by rw [hk]; omega)
theorem wrap_mul (a b : Int) : IntKind.i64.wrap (IntKind.i64.wrap a * IntKind.i64.wrap b) = IntKind.i64.wrap (a * b) := by
  obtain ⟨k, hk⟩ := wrap_off a
  obtain ⟨l, hl⟩ := wrap_off b
  refine wrap_cong (k * b + a * l + 18446744073709551616 * (k * l)) ?_
  rw [hk, hl, Int.add_mul, Int.mul_add, Int.mul_add, Int.mul_add, Int.mul_add]
  have e1 : a * (18446744073709551616 * l) = 18446744073709551616 * (a * l) := Int.mul_left_comm _ _ _
  have e2 : 18446744073709551616 * k * b = 18446744073709551616 * (k * b) := Int.mul_assoc _ _ _
  have e3 : 18446744073709551616 * k * (18446744073709551616 * l) = 18446744073709551616 * (18446744073709551616 * (k * l)) := by
    rw [Int.mul_assoc, Int.mul_left_comm k]
  rw [e1, e2, e3]
  omega

end Go.Proofs.YtigbpdaomgagiaaGreat

/- laws.toPresentation: a copy of a presentation, each part in blocks of its own. -/
namespace Go.Proofs.YtigbpdaomgagiaaGreat
open Go.RowKit

/-- a presentation by value whose parts lie in blocks of their own, all in F -/
def PresW (F : Nat → Prop) (w : World) (v : Value) (P : Pr) : Prop :=
  ∃ vo vp vc Fo Fp Fc, v = .agg #[vo, vp, vc] ∧ OwnIn Fo w vo P.orders ∧ RowsW Fp w vp P.powers ∧ Rows3W Fc w vc P.conj ∧
    (∀ k, Fo k → F k ∧ ¬ Fp k ∧ ¬ Fc k) ∧ (∀ k, Fp k → F k ∧ ¬ Fc k) ∧ (∀ k, Fc k → F k)

theorem PresW.mono {F F' : Nat → Prop} {w w' : World} {v : Value} {P : Pr} (h : PresW F w v P) (hb : ∀ k, F k → k < w.heap.size → F' k ∧ k < w'.heap.size ∧ w'.heap[k]? = w.heap[k]?) : PresW F' w' v P := by
  obtain ⟨vo, vp, vc, Fo, Fp, Fc, rfl, h1, h2, h3, h4, h5, h6⟩ := h
  refine ⟨vo, vp, vc, fun k => Fo k ∧ k < w.heap.size, fun k => Fp k ∧ k < w.heap.size, fun k => Fc k ∧ k < w.heap.size, rfl, rdOwn.mono h1 (fun k hk hlt => ⟨⟨hk, hlt⟩, (hb k (h4 k hk).1 hlt).2⟩),
    rdRowsW.mono h2 (fun k hk hlt => ⟨⟨hk, hlt⟩, (hb k (h5 k hk).1 hlt).2⟩), SlD.mono rdRowsW h3 (fun k hk hlt => ⟨⟨hk, hlt⟩, (hb k (h6 k hk) hlt).2⟩), fun k hk => ?_, fun k hk => ?_, fun k hk => ?_⟩
  · exact ⟨(hb k (h4 k hk.1).1 hk.2).1, fun h => (h4 k hk.1).2.1 h.1, fun h => (h4 k hk.1).2.2 h.1⟩
  · exact ⟨(hb k (h5 k hk.1).1 hk.2).1, fun h => (h5 k hk.1).2 h.1⟩
  · exact (hb k (h6 k hk.1) hk.2).1

theorem PresW.ext {F : Nat → Prop} {w w' : World} {v : Value} {P : Pr} (h : PresW F w v P) (hg : Ext w w') : PresW F w' v P := h.mono (frame_ext hg)

theorem PresW.v {F : Nat → Prop} {w : World} {v : Value} {P : Pr} (h : PresW F w v P) : PresV F w v P := by
  obtain ⟨vo, vp, vc, Fo, Fp, Fc, rfl, h1, h2, h3, h4, h5, h6⟩ := h
  exact ⟨vo, vp, vc, rfl, ⟨Ints.sub h1.ints (fun k hk _ => (h4 k hk).1), Rows2.sub (RowsD.rows (RowsW.d h2)) (fun k hk _ => (h5 k hk).1), Rows3.sub (Rows3D.rows (Rows3W.d h3)) (fun k hk _ => h6 k hk)⟩⟩

theorem PresW.shape {F : Nat → Prop} {w : World} {v : Value} {P : Pr} (h : PresW F w v P) : ∃ a c a2 c2 a3 c3, v = .agg #[.slice a P.orders.length c, .slice a2 P.powers.length c2, .slice a3 P.conj.length c3] := by
  obtain ⟨vo, vp, vc, Fo, Fp, Fc, rfl, h1, h2, h3, _⟩ := h
  obtain ⟨a, c, rfl, _⟩ := h1.ints.shape
  obtain ⟨a2, c2, rfl, _⟩ := SlD.shape h2
  obtain ⟨a3, c3, rfl, _⟩ := SlD.shape h3
  exact ⟨_, _, _, _, _, _, rfl⟩

theorem ext_store {w wB : World} {rc : Nat} (hg : Ext w wB) (hrc : w.heap.size ≤ rc) (k : Nat) (v : Value) : Ext w (wB.setCell ⟨rc, k, none⟩ v) :=
  grown_own hg ⟨rfl, rfl, rfl, by simp [World.setCell], fun j _ hj => Below.heap_setCell _ _ _ _ (by intro e; exact hj (by rw [e]))⟩ (q := some rc) (fun j hj hlt => by cases hj; omega)

/-- a struct of three cells that may be written -/
def Box3 (W : World) (b : Nat) (x0 x1 x2 : Value) : Prop :=
  b < W.heap.size ∧ W.cell? ⟨b, 0, none⟩ = some x0 ∧ W.cell? ⟨b, 1, none⟩ = some x1 ∧ W.cell? ⟨b, 2, none⟩ = some x2 ∧ ∀ k, W.frozen? ⟨b, k, none⟩ = false
theorem Box3.ext {W W' : World} {b : Nat} {x0 x1 x2 : Value} (h : Box3 W b x0 x1 x2) (hg : Ext W W') : Box3 W' b x0 x1 x2 := by
  obtain ⟨h0, h1, h2, h3, h4⟩ := h
  exact ⟨Nat.lt_of_lt_of_le h0 hg.size, hg.cell h1 (by simp), hg.cell h2 (by simp), hg.cell h3 (by simp), fun k => (World.frozen?_of_block (w := W) (hg.block b h0 (by simp))).trans (h4 k)⟩
theorem Box3.far {W : World} {b c j : Nat} {x0 x1 x2 v : Value} (h : Box3 W b x0 x1 x2) (hne : b ≠ c) : Box3 (W.setCell ⟨c, j, none⟩ v) b x0 x1 x2 := by
  obtain ⟨h0, h1, h2, h3, h4⟩ := h
  have e : (W.setCell ⟨c, j, none⟩ v).heap[b]? = W.heap[b]? := Below.heap_setCell _ _ _ _ (by simpa using hne)
  exact ⟨by simpa [World.setCell] using h0, (World.cell?_of_block (w := W) e).trans h1, (World.cell?_of_block (w := W) e).trans h2, (World.cell?_of_block (w := W) e).trans h3, fun k => (World.frozen?_of_block (w := W) e).trans (h4 k)⟩
theorem Box3.put {W : World} {b : Nat} {x0 x1 x2 : Value} (h : Box3 W b x0 x1 x2) (v : Value) :
    Box3 (W.setCell ⟨b, 0, none⟩ v) b v x1 x2 ∧ Box3 (W.setCell ⟨b, 1, none⟩ v) b x0 v x2 ∧ Box3 (W.setCell ⟨b, 2, none⟩ v) b x0 x1 v := by
  obtain ⟨h0, h1, h2, h3, h4⟩ := h
  have hs : ∀ k, b < (W.setCell ⟨b, k, none⟩ v).heap.size := fun k => by simpa [World.setCell] using h0
  refine ⟨⟨hs 0, World.cell?_setCell_same _ _ _ h1, ?_, ?_, fun k => by simp [h4]⟩, ⟨hs 1, ?_, World.cell?_setCell_same _ _ _ h2, ?_, fun k => by simp [h4]⟩, ⟨hs 2, ?_, ?_, World.cell?_setCell_same _ _ _ h3, fun k => by simp [h4]⟩⟩
  all_goals first
    | exact (World.cell?_setCell_other _ _ _ _ (by simp)).trans h1
    | exact (World.cell?_setCell_other _ _ _ _ (by simp)).trans h2
    | exact (World.cell?_setCell_other _ _ _ _ (by simp)).trans h3
theorem Box3.made (w : World) (T : Nat) (x0 x1 x2 : Value) : Box3 (w.alloc (.cells #[x0, x1, x2] T)) w.heap.size x0 x1 x2 := by
  refine ⟨by simp, ?_, ?_, ?_, fun k => World.frozen?_alloc_at _ _ _ _ rfl⟩ <;> (rw [World.cell?_alloc_at _ _ _ _ rfl]; rfl)

set_option maxRecDepth 100000 in
set_option maxHeartbeats 4000000 in
theorem toPresentation_ok (v : Value) (P : Pr) (w : World) (S : Nat → Prop) (h : PresV S w v P) (hl : sizeP P ≤ 1048576) :
    Calls Tryz.prog 18 #[v] w (Ret w fun w' r => PresW (From w.heap.size) w' r P) := by
  obtain ⟨vo, vp, vc, rfl, h3⟩ := h
  have hso : P.orders.length ≤ 1048576 := by unfold sizeP at hl; omega
  have hsp : size2 P.powers ≤ 1048576 := by unfold sizeP at hl; omega
  have hsc : size3 P.conj ≤ 1048576 := by unfold sizeP at hl; omega
  have HS := Lib.hid (And.intro hso (And.intro hsp hsc)); clear hso hsp hsc hl
  go_enter Tryz.func18, Tryz.ntmps18
  have hg0 : Ext w (((w.alloc (.cells #[vo, vp, vc] 26)).alloc (.cells #[.slice none 0 0, .slice none 0 0, .slice none 0 0] 31)).alloc (.cells #[.slice none 0 0, .slice none 0 0, .slice none 0 0] 31)) :=
    grown_trans (World.grownBy_alloc _ _ _) (grown_trans (World.grownBy_alloc _ _ _) (World.grownBy_alloc _ _ _))
  have hA0 : Box3 (((w.alloc (.cells #[vo, vp, vc] 26)).alloc (.cells #[.slice none 0 0, .slice none 0 0, .slice none 0 0] 31)).alloc (.cells #[.slice none 0 0, .slice none 0 0, .slice none 0 0] 31)) w.heap.size vo vp vc :=
    ((Box3.made w _ vo vp vc).ext (World.grownBy_alloc _ _ _)).ext (World.grownBy_alloc _ _ _)
  have hR0 := (Box3.made (w.alloc (.cells #[vo, vp, vc] 26)) 31 (.slice none 0 0) (.slice none 0 0) (.slice none 0 0)).ext (World.grownBy_alloc _ (.cells #[.slice none 0 0, .slice none 0 0, .slice none 0 0] 31) _)
  have hO0 := Box3.made ((w.alloc (.cells #[vo, vp, vc] 26)).alloc (.cells #[.slice none 0 0, .slice none 0 0, .slice none 0 0] 31)) 31 (.slice none 0 0) (.slice none 0 0) (.slice none 0 0)
  have hs1 : (w.alloc (.cells #[vo, vp, vc] 26)).heap.size = w.heap.size + 1 := by simp
  have hs2 : ((w.alloc (.cells #[vo, vp, vc] 26)).alloc (.cells #[.slice none 0 0, .slice none 0 0, .slice none 0 0] 31)).heap.size = w.heap.size + 1 + 1 := by simp
  rw [hs1] at hR0
  rw [hs2] at hO0
  have HB := Lib.hid (And.intro hA0 (And.intro hR0 hO0)); clear hA0 hR0 hO0 hs1 hs2
  go_wp2_with fail
  generalize hw0 : ((w.alloc (.cells #[vo, vp, vc] 26)).alloc (.cells #[.slice none 0 0, .slice none 0 0, .slice none 0 0] 31)).alloc (.cells #[.slice none 0 0, .slice none 0 0, .slice none 0 0] 31) = w0 at *
  clear hw0
  have hsz0 : w.heap.size + 1 + 1 < w0.heap.size := HB.out.2.2.1
  refine Calls.mono (toInt64S_ok _ _ _ _ (h3.o.ext hg0) HS.out.1) ?_
  rintro eA wA ⟨vA, rfl, hgA, hA⟩
  have hAi := hA.ints (by have := HS.out.1; omega)
  obtain ⟨aA, capA, rfl, _, _⟩ := hAi.shape
  clear hAi
  have a1 := (HB.out.1.ext hgA)
  have r1 := (HB.out.2.1.ext hgA)
  have o1 := (HB.out.2.2.ext hgA)
  have hgwA := grown_trans hg0 hgA
  have hgw1 := ext_store hgwA (show w.heap.size ≤ w.heap.size + 1 + 1 by omega) 0 (.slice aA P.orders.length capA)
  have hlA := hgA.size
  have o2 := (o1.put (.slice aA P.orders.length capA)).1
  have a2 := a1.far (c := w.heap.size + 1 + 1) (j := 0) (v := .slice aA P.orders.length capA) (by omega)
  have r2 := r1.far (c := w.heap.size + 1 + 1) (j := 0) (v := .slice aA P.orders.length capA) (by omega)
  have hA2 : OwnIn (fun k => w0.heap.size ≤ k ∧ k < wA.heap.size) (wA.setCell ⟨w.heap.size + 1 + 1, 0, none⟩ (.slice aA P.orders.length capA)) (.slice aA P.orders.length capA) P.orders :=
    rdOwn.mono (OwnIn.of (F := fun k => w0.heap.size ≤ k ∧ k < wA.heap.size) hA (by have := HS.out.1; omega) (fun k h1 h2 => ⟨h1, h2⟩)) (fun k hk hlt => ⟨hk, by simpa [World.setCell] using hlt, Below.heap_setCell _ _ _ _ (by have := hk.1; simp; omega)⟩)
  have HW := Lib.hid (And.intro a2 (And.intro r2 (And.intro o2 hA2))); clear a2 r2 o2 hA2 hA
  obtain ⟨_, ca0, ca1, ca2, _⟩ := a1
  obtain ⟨_, co0, co1, co2, cof⟩ := o1
  clear r1
  go_wp2_with fail
  clear ca0 ca1 ca2 co0 co1 co2 cof
  have hszs : (wA.setCell ⟨w.heap.size + 1 + 1, 0, none⟩ (.slice aA P.orders.length capA)).heap.size = wA.heap.size := by simp [World.setCell]
  generalize wA.setCell ⟨w.heap.size + 1 + 1, 0, none⟩ (.slice aA P.orders.length capA) = w1 at *
  have HSZ := Lib.hid hszs; clear hszs
  refine Calls.mono (toInt64SS_ok _ _ _ _ (Rows2.ext h3.p hgw1) HS.out.2.1) ?_
  rintro eB wB ⟨vB, rfl, hgB, hB⟩
  have hlpp : P.powers.length ≤ 1048576 := by have := HS.out.2.1; unfold size2 at this; omega
  have hBd := SlO.toD hB (by omega)
  obtain ⟨aB, capB, rfl, _, _⟩ := SlD.shape hBd
  have a1 := (HW.out.1.ext hgB)
  have r1 := (HW.out.2.1.ext hgB)
  have o1 := (HW.out.2.2.1.ext hgB)
  have hgwB := grown_trans hgw1 hgB
  have hgw2 := ext_store hgwB (show w.heap.size ≤ w.heap.size + 1 + 1 by omega) 1 (.slice aB P.powers.length capB)
  have hlB := hgB.size
  have hsA := HSZ.out
  have o2 := (o1.put (.slice aB P.powers.length capB)).2.1
  have a2 := a1.far (c := w.heap.size + 1 + 1) (j := 1) (v := .slice aB P.powers.length capB) (by omega)
  have r2 := r1.far (c := w.heap.size + 1 + 1) (j := 1) (v := .slice aB P.powers.length capB) (by omega)
  have hA2 : OwnIn (fun k => w0.heap.size ≤ k ∧ k < wA.heap.size) (wB.setCell ⟨w.heap.size + 1 + 1, 1, none⟩ (.slice aB P.powers.length capB)) (.slice aA P.orders.length capA) P.orders :=
    rdOwn.mono HW.out.2.2.2 (fun k hk hlt => ⟨hk, by simp [World.setCell]; omega, (Below.heap_setCell _ _ _ _ (by have := hk.1; simp; omega)).trans (hgB.block k hlt (by simp))⟩)
  have hB2 : RowsW (fun k => w1.heap.size ≤ k ∧ k < wB.heap.size) (wB.setCell ⟨w.heap.size + 1 + 1, 1, none⟩ (.slice aB P.powers.length capB)) (.slice aB P.powers.length capB) P.powers :=
    rdRowsW.mono hBd (fun k hk hlt => ⟨⟨hk, hlt⟩, by simpa [World.setCell] using hlt, Below.heap_setCell _ _ _ _ (by have hk : w1.heap.size ≤ k := hk; simp; omega)⟩)
  have HW2 := Lib.hid (And.intro a2 (And.intro r2 (And.intro o2 (And.intro hA2 hB2)))); clear a2 r2 o2 hA2 hB2 hB hBd HW
  obtain ⟨_, ca0, ca1, ca2, _⟩ := a1
  obtain ⟨_, co0, co1, co2, cof⟩ := o1
  clear r1
  go_wp2_with fail
  clear ca0 ca1 ca2 co0 co1 co2 cof
  have hszs : (wB.setCell ⟨w.heap.size + 1 + 1, 1, none⟩ (.slice aB P.powers.length capB)).heap.size = wB.heap.size := by simp [World.setCell]
  generalize wB.setCell ⟨w.heap.size + 1 + 1, 1, none⟩ (.slice aB P.powers.length capB) = w2 at *
  have HSZ2 := Lib.hid hszs; clear hszs
  refine Calls.mono (toInt64SSS_ok _ _ _ _ (Rows3.ext h3.c hgw2) HS.out.2.2) ?_
  rintro eC wC ⟨vC, rfl, hgC, hC⟩
  have hlcc : P.conj.length ≤ 1048576 := by have := HS.out.2.2; unfold size3 at this; omega
  have hCd := SlO.toD hC (by omega)
  obtain ⟨aC, capC, rfl, _, _⟩ := SlD.shape hCd
  have a1 := (HW2.out.1.ext hgC)
  have r1 := (HW2.out.2.1.ext hgC)
  have o1 := (HW2.out.2.2.1.ext hgC)
  have hgwC := grown_trans hgw2 hgC
  have hlC := hgC.size
  have hsB := HSZ2.out
  have hg3 := ext_store hgwC (show w.heap.size ≤ w.heap.size + 1 + 1 by omega) 2 (.slice aC P.conj.length capC)
  have hA2 := HW2.out.2.2.2.1
  have hB2 := HW2.out.2.2.2.2
  clear hC HW2
  obtain ⟨_, ca0, ca1, ca2, _⟩ := a1
  obtain ⟨_, co0, co1, co2, cof⟩ := o1
  obtain ⟨_, cr0, cr1, cr2, crf⟩ := r1
  have HX := Lib.hid (And.intro hA2 (And.intro hB2 hCd)); clear hA2 hB2 hCd
  go_wp2
  refine bodyPost_ret (v := .agg #[.slice aA P.orders.length capA, .slice aB P.powers.length capB, .slice aC P.conj.length capC]) (by simp [results, Tryz.results18, go_sem, cr0, cr1, cr2]) rfl ⟨_, rfl, ext_store (ext_store (ext_store hg3 (by omega) _ _) (by omega) _ _) (by omega) _ _, ?_⟩
  have hblk : ∀ k, w.heap.size + 1 + 1 < k → ((((wC.setCell ⟨w.heap.size + 1 + 1, 2, none⟩ (.slice aC P.conj.length capC)).setCell ⟨w.heap.size + 1, 0, none⟩ (.slice aA P.orders.length capA)).setCell ⟨w.heap.size + 1, 1, none⟩ (.slice aB P.powers.length capB)).setCell ⟨w.heap.size + 1, 2, none⟩ (.slice aC P.conj.length capC)).heap[k]? = wC.heap[k]? := fun k hk => by
    rw [Below.heap_setCell _ _ _ _ (by simp; omega), Below.heap_setCell _ _ _ _ (by simp; omega), Below.heap_setCell _ _ _ _ (by simp; omega), Below.heap_setCell _ _ _ _ (by simp; omega)]
  have hsz : ((((wC.setCell ⟨w.heap.size + 1 + 1, 2, none⟩ (.slice aC P.conj.length capC)).setCell ⟨w.heap.size + 1, 0, none⟩ (.slice aA P.orders.length capA)).setCell ⟨w.heap.size + 1, 1, none⟩ (.slice aB P.powers.length capB)).setCell ⟨w.heap.size + 1, 2, none⟩ (.slice aC P.conj.length capC)).heap.size = wC.heap.size := by simp [World.setCell]
  have hsz3 := HSZ.out
  have hsz4 := HSZ2.out
  refine ⟨_, _, _, fun k => w0.heap.size ≤ k ∧ k < wA.heap.size, fun k => w1.heap.size ≤ k ∧ k < wB.heap.size, fun k => w2.heap.size ≤ k, rfl, rdOwn.mono HX.out.1 (fun k hk hlt => ⟨hk, by rw [hsz]; omega, (hblk k (by omega)).trans (hgC.block k hlt (by simp))⟩),
    rdRowsW.mono HX.out.2.1 (fun k hk hlt => ⟨hk, by rw [hsz]; omega, (hblk k (by omega)).trans (hgC.block k hlt (by simp))⟩), SlD.mono rdRowsW HX.out.2.2 (fun k hk hlt => ⟨hk, by rw [hsz]; exact hlt, hblk k (by have hk : w2.heap.size ≤ k := hk; omega)⟩), fun k hk => ?_, fun k hk => ?_, fun k hk => ?_⟩
  · exact ⟨by show w.heap.size ≤ k; omega, by omega, by omega⟩
  · exact ⟨by show w.heap.size ≤ k; omega, by omega⟩
  · show w.heap.size ≤ k; omega

end Go.Proofs.YtigbpdaomgagiaaGreat

/- The laws' comparisons: laws.eqInt64SS, eqInt64SSS, eqPresentation. -/
namespace Go.Proofs.YtigbpdaomgagiaaGreat
open Go.RowKit

theorem Ints.extA {S : Nat → Prop} {w w' : World} {v : Value} {xs : List Int} (h : Ints S w v xs) (hg : Ext w w') : Ints Any w' v xs := Ints.sub (Ints.ext h hg) (fun _ _ _ => trivial)
theorem Rows2.extA {S : Nat → Prop} {w w' : World} {v : Value} {xs : List (List Int)} (h : Rows2 S w v xs) (hg : Ext w w') : Rows2 Any w' v xs := Rows2.sub (Rows2.ext h hg) (fun _ _ _ => trivial)

set_option maxRecDepth 100000 in
set_option maxHeartbeats 2000000 in
theorem eqInt64SS_ok (v1 v2 : Value) (l1 l2 : List (List Int)) (w : World) (S1 S2 : Nat → Prop) (h1 : Rows2 S1 w v1 l1) (h2 : Rows2 S2 w v2 l2) :
    Calls Tryz.prog 45 #[v1, v2] w (Ret w fun _ v => v = .bool (eqB l1 l2)) := by
  obtain ⟨a, cap, rfl, _, _⟩ := Sl.shape h1
  obtain ⟨a2, cap2, rfl, _, _⟩ := Sl.shape h2
  by_cases hl : l1.length = l2.length
  · have hd : ((l1.length : Int) != (l2.length : Int)) = false := by simp [hl]
    have hl1 : l1.length ≤ l2.length ∧ l2.length ≤ l1.length := by omega
    have HL := Lib.hid hl; clear hl
    go_enter Tryz.func45, Tryz.ntmps45
    go_wp2
    go_loopw [5] (fun i wr => ∃ k : Nat, i = .int .i64 k ∧ k ≤ l1.length ∧ Ext w wr ∧ ∀ i, i < k → gt l1 i = gt l2 i) (fun i _ => l1.length - (intOf i).toNat)
    case atStart => exact ⟨0, rfl, by omega, Ext.refl _, fun i hi => by omega⟩
    case round =>
      obtain ⟨k, rfl, hk, hg, hz⟩ := hrel
      have HZ := Lib.hid hz; clear hz
      by_cases hlt : k < l1.length
      · obtain ⟨b, off, x1, c1, rfl, _, _, hc, hi1⟩ := Rows2.at (Rows2.ext h1 hg) k hlt
        obtain ⟨b2, off2, x2, c2, rfl, _, _, hc2, hi2⟩ := Rows2.at (Rows2.ext h2 hg) k (by omega)
        have e1 : ∀ w', Ext wr w' → w'.cell? ⟨b, off + k, none⟩ = some (.slice x1 (gt l1 k).length c1) := fun w' h => h.cell hc (by simp)
        have e2 : ∀ w', Ext wr w' → w'.cell? ⟨b2, off2 + k, none⟩ = some (.slice x2 (gt l2 k).length c2) := fun w' h => h.cell hc2 (by simp)
        clear hc hc2
        have hlt2 : k < l2.length := by omega
        go_wp2
        cases hx : eqB (gt l1 k) (gt l2 k) with
        | true =>
          have hx2 := Lib.hid hx
          go_region_held3 (fun w' => Ext wr w') (first | exact grown_drew _ _ | assumption)
            (first
              | (go_at_call 36; refine Calls.mono (Calls.rel (w0 := wr) (by assumption) (eqInt64S_ok _ _ _ _ _ Any Any ((Ints.extA hi1 (by assumption))) (Ints.extA hi2 (by assumption)))) ?_; rintro eA wA ⟨vA, rfl, hgA, hsA, rfl⟩))
          clear e1 e2
          go_wp2
          go_roundw
          case rel => exact ⟨k + 1, by go_num, by omega, grown_trans hg hgA, fun i hi => by
            rcases Nat.lt_or_ge i k with h1 | h1
            · exact HZ.out i h1
            · have : i = k := by omega
              rw [this]; exact eqB_true.1 hx2.out⟩
          case measure => simp [intOf]; omega
        | false =>
          have hx2 := Lib.hid hx
          go_region_held3 (fun w' => Ext wr w') (first | exact grown_drew _ _ | assumption)
            (first
              | (go_at_call 36; refine Calls.mono (Calls.rel (w0 := wr) (by assumption) (eqInt64S_ok _ _ _ _ _ Any Any (Ints.extA hi1 (by assumption)) (Ints.extA hi2 (by assumption)))) ?_; rintro eA wA ⟨vA, rfl, hgA, hsA, rfl⟩))
          clear e1 e2
          go_wp2
          go_ret
          exact ret_bool (grown_trans hg hgA) (by rw [eqB_false_at (hx := eqB_false.1 hx2.out)])
      · go_wp2
        go_ret
        exact ret_bool hg (by rw [eqB_true.2 (ext_gt HL.out (fun i hi => HZ.out i (by omega)))])
  · have hd : ((l1.length : Int) != (l2.length : Int)) = true := by simp; omega
    have HL := Lib.hid hl; clear hl
    go_enter Tryz.func45, Tryz.ntmps45
    go_wp2
    go_ret
    exact ret_bool (Ext.refl _) (by rw [eqB_false.2 (fun e => HL.out (by rw [e]))])

set_option maxRecDepth 100000 in
set_option maxHeartbeats 2000000 in
theorem eqInt64SSS_ok (v1 v2 : Value) (l1 l2 : List (List (List Int))) (w : World) (S1 S2 : Nat → Prop) (h1 : Rows3 S1 w v1 l1) (h2 : Rows3 S2 w v2 l2) :
    Calls Tryz.prog 22 #[v1, v2] w (Ret w fun _ v => v = .bool (eqB l1 l2)) := by
  obtain ⟨a, cap, rfl, _, _⟩ := Sl.shape h1
  obtain ⟨a2, cap2, rfl, _, _⟩ := Sl.shape h2
  by_cases hl : l1.length = l2.length
  · have hd : ((l1.length : Int) != (l2.length : Int)) = false := by simp [hl]
    have hl1 : l1.length ≤ l2.length ∧ l2.length ≤ l1.length := by omega
    have HL := Lib.hid hl; clear hl
    go_enter Tryz.func22, Tryz.ntmps22
    go_wp2
    go_loopw [5] (fun i wr => ∃ k : Nat, i = .int .i64 k ∧ k ≤ l1.length ∧ Ext w wr ∧ ∀ i, i < k → gt l1 i = gt l2 i) (fun i _ => l1.length - (intOf i).toNat)
    case atStart => exact ⟨0, rfl, by omega, Ext.refl _, fun i hi => by omega⟩
    case round =>
      obtain ⟨k, rfl, hk, hg, hz⟩ := hrel
      have HZ := Lib.hid hz; clear hz
      by_cases hlt : k < l1.length
      · obtain ⟨b, off, x1, c1, rfl, _, _, hc, hi1⟩ := Rows3.at (Rows3.ext h1 hg) k hlt
        obtain ⟨b2, off2, x2, c2, rfl, _, _, hc2, hi2⟩ := Rows3.at (Rows3.ext h2 hg) k (by omega)
        have e1 : ∀ w', Ext wr w' → w'.cell? ⟨b, off + k, none⟩ = some (.slice x1 (gt l1 k).length c1) := fun w' h => h.cell hc (by simp)
        have e2 : ∀ w', Ext wr w' → w'.cell? ⟨b2, off2 + k, none⟩ = some (.slice x2 (gt l2 k).length c2) := fun w' h => h.cell hc2 (by simp)
        clear hc hc2
        have hlt2 : k < l2.length := by omega
        go_wp2
        cases hx : eqB (gt l1 k) (gt l2 k) with
        | true =>
          have hx2 := Lib.hid hx
          go_region_held3 (fun w' => Ext wr w') (first | exact grown_drew _ _ | assumption)
            (first
              | (go_at_call 45; refine Calls.mono (Calls.rel (w0 := wr) (by assumption) (eqInt64SS_ok _ _ _ _ _ Any Any ((Rows2.extA hi1 (by assumption))) (Rows2.extA hi2 (by assumption)))) ?_; rintro eA wA ⟨vA, rfl, hgA, hsA, rfl⟩))
          clear e1 e2
          go_wp2
          go_roundw
          case rel => exact ⟨k + 1, by go_num, by omega, grown_trans hg hgA, fun i hi => by
            rcases Nat.lt_or_ge i k with h1 | h1
            · exact HZ.out i h1
            · have : i = k := by omega
              rw [this]; exact eqB_true.1 hx2.out⟩
          case measure => simp [intOf]; omega
        | false =>
          have hx2 := Lib.hid hx
          go_region_held3 (fun w' => Ext wr w') (first | exact grown_drew _ _ | assumption)
            (first
              | (go_at_call 45; refine Calls.mono (Calls.rel (w0 := wr) (by assumption) (eqInt64SS_ok _ _ _ _ _ Any Any (Rows2.extA hi1 (by assumption)) (Rows2.extA hi2 (by assumption)))) ?_; rintro eA wA ⟨vA, rfl, hgA, hsA, rfl⟩))
          clear e1 e2
          go_wp2
          go_ret
          exact ret_bool (grown_trans hg hgA) (by rw [eqB_false_at (hx := eqB_false.1 hx2.out)])
      · go_wp2
        go_ret
        exact ret_bool hg (by rw [eqB_true.2 (ext_gt HL.out (fun i hi => HZ.out i (by omega)))])
  · have hd : ((l1.length : Int) != (l2.length : Int)) = true := by simp; omega
    have HL := Lib.hid hl; clear hl
    go_enter Tryz.func22, Tryz.ntmps22
    go_wp2
    go_ret
    exact ret_bool (Ext.refl _) (by rw [eqB_false.2 (fun e => HL.out (by rw [e]))])

set_option maxRecDepth 100000 in
set_option maxHeartbeats 2000000 in
theorem eqPresentation_ok (v1 v2 : Value) (P : Pr) (w : World) (S1 S2 : Nat → Prop) (h1 : PresV S1 w v1 P) (h2 : PresV S2 w v2 P) :
    Calls Tryz.prog 21 #[v1, v2] w (Ret w fun _ v => v = .bool true) := by
  obtain ⟨vo, vp, vc, rfl, h3⟩ := h1
  obtain ⟨uo, up, uc, rfl, k3⟩ := h2
  have hg0 : Ext w ((w.alloc (.cells #[vo, vp, vc] 31)).alloc (.cells #[uo, up, uc] 31)) := grown_trans (World.grownBy_alloc _ _ _) (World.grownBy_alloc _ _ _)
  have hs1 : (w.alloc (.cells #[vo, vp, vc] 31)).heap.size = w.heap.size + 1 := by simp
  have b1 := (Box3.made w 31 vo vp vc).ext (World.grownBy_alloc _ (.cells #[uo, up, uc] 31) none)
  have b2 := Box3.made (w.alloc (.cells #[vo, vp, vc] 31)) 31 uo up uc
  rw [hs1] at b2
  have HB := Lib.hid (And.intro b1 b2); clear b1 b2 hs1
  go_enter Tryz.func21, Tryz.ntmps21
  go_wp2_with fail
  generalize (w.alloc (.cells #[vo, vp, vc] 31)).alloc (.cells #[uo, up, uc] 31) = w0 at *
  refine Calls.mono (eqInt64S_ok _ _ _ _ _ S1 S2 (h3.o.ext hg0) (k3.o.ext hg0)) ?_
  rintro eA wA ⟨vA, rfl, hgA, rfl⟩
  have hgwA := grown_trans hg0 hgA
  obtain ⟨_, a0, a1, a2, _⟩ := HB.out.1.ext hgA
  obtain ⟨_, c0, c1, c2, _⟩ := HB.out.2.ext hgA
  have e1 : eqB P.orders P.orders = true := eqB_true.2 rfl
  go_wp2_with fail
  clear a0 a1 a2 c0 c1 c2 e1
  refine Calls.mono (eqInt64SS_ok _ _ _ _ _ S1 S2 (Rows2.ext h3.p hgwA) (Rows2.ext k3.p hgwA)) ?_
  rintro eB wB ⟨vB, rfl, hgB, rfl⟩
  have hgwB := grown_trans hgwA hgB
  obtain ⟨_, a0, a1, a2, _⟩ := HB.out.1.ext (grown_trans hgA hgB)
  obtain ⟨_, c0, c1, c2, _⟩ := HB.out.2.ext (grown_trans hgA hgB)
  have e1 : eqB P.powers P.powers = true := eqB_true.2 rfl
  go_wp2_with fail
  clear a0 a1 a2 c0 c1 c2 e1
  refine Calls.mono (eqInt64SSS_ok _ _ _ _ _ S1 S2 (Rows3.ext h3.c hgwB) (Rows3.ext k3.c hgwB)) ?_
  rintro eC wC ⟨vC, rfl, hgC, rfl⟩
  have e1 : eqB P.conj P.conj = true := eqB_true.2 rfl
  go_wp2
  go_ret
  exact ⟨_, rfl, grown_trans hgwB hgC, rfl⟩

end Go.Proofs.YtigbpdaomgagiaaGreat
