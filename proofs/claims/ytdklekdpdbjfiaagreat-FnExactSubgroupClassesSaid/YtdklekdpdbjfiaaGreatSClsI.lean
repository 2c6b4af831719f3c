/-
  (*impl.lattice).classes: the first subgroups of the classes of conjugate subgroups, and the sizes.
-/
import Derived.Test.YtdklekdpdbjfiaaGreatK9
import Derived.Test.YtdklekdpdbjfiaaGreatK4
import Derived.Test.YtdklekdpdbjfiaaGreatK6
namespace Go.Proofs.YtdklekdpdbjfiaaGreat
open Go.RowKit
open Go.Maps (Keyed)

theorem und_mapSB : Tryz.prog.underlying 123 = some (.map 9 4) := by kernel_rfl
theorem makeSB (w : World) : (Instr.makeMap 123 none).run Tryz.prog w = .ok (.map (some w.heap.size)) (w.alloc (.map #[] 0)) := by kernel_rfl

/-- map[string]bool -/
def mapSB : MapK ByteArray Bool where
  t := 123
  k := 9
  e := 4
  kv s := .string s
  kl s := .string s.data.toList
  okK s := s.size ≤ maxLen
  ev x := .bool x
  el x := .bool x
  okV _ := True
  z := false
  keyed := Maps.string_keyed und_str
  und := und_mapSB
  key s hs := WideMaps.keyOf_string_mk und_str hs
  inj a c h := by
    cases a with | mk a => cases c with | mk c =>
    simp only [Lit.string.injEq] at h
    rw [Array.toList_inj.1 h]
  isKey _ := trivial
  elem x _ := plainElem_bool und_boolL x
  inv v x ps h := by
    unfold plainElem at h
    rw [und_boolL] at h
    cases v <;> simp at h
    rw [h.1]
  zero w := by kernel_rfl
  okz := trivial

theorem allEl_len (P : Pr) : (allEl P).length = (ordP P).toNat := by unfold allEl; rw [List.length_map, List.length_range]
theorem gt_allEl {P : Pr} {t : Nat} (h : t < (ordP P).toNat) : gt (allEl P) t = elAt P (t : Int) := by
  unfold allEl
  rw [gt_map _ _ _ (by rw [List.length_range]; exact h)]
  congr 2
  simp [gt, h]

/-- the keys of what was seen -/
def keyIn (S : List (List (List Int))) (s : ByteArray) : Bool := S.any (fun v => decide (keyS v = s))
theorem keyIn_iff {P : Pr} (hP : Valid P) {S : List (List (List Int))} (hS : ∀ v ∈ S, SubB P v) {u : List (List Int)} (hu : SubB P u) : keyIn S (keyS u) = decide (u ∈ S) := by
  rw [Bool.eq_iff_iff, decide_eq_true_iff]
  unfold keyIn
  rw [List.any_eq_true]
  constructor
  · rintro ⟨v, hv, h⟩
    rw [← subB_key hP (hS v hv) hu (of_decide_eq_true h)]; exact hv
  · intro h; exact ⟨u, h, by simp⟩
theorem keyIn_app (S : List (List (List Int))) (u : List (List Int)) (s : ByteArray) : (if s = keyS u then true else keyIn S s) = keyIn (S ++ [u]) s := by
  unfold keyIn
  rw [List.any_append, List.any_cons, List.any_nil, Bool.or_false]
  by_cases h : s = keyS u
  · rw [if_pos h, h]; simp
  · rw [if_neg h]
    have : decide (keyS u = s) = false := by simpa using fun e => h e.symm
    rw [this, Bool.or_false]
theorem subB_bytes {P : Pr} (G : Grp P) {u : List (List Int)} (hu : SubB P u) : (keyS u).size ≤ maxLen ∧ (∀ x ∈ u, ∀ e ∈ x, 0 ≤ e ∧ e < 256) ∧ (∀ x ∈ u, x.length ≤ 1000) ∧ u.length ≤ 100 := by
  have hn6 := G.v.n6
  have hul := G.sub_len hu
  have hkl := keyL_len u 6 (fun z hz => by rw [(hu.1 z hz).1]; exact hn6)
  have hks := keyS_size u
  refine ⟨by unfold maxLen; have : (6 + 1) * u.length ≤ 100 := by omega
             omega, fun z hz => (vec_bytes G.v (hu.1 z hz)).2, fun z hz => by rw [(hu.1 z hz).1]; omega, by omega⟩

set_option maxRecDepth 100000 in
set_option maxHeartbeats 8000000 in
theorem classes_ok (P : Pr) (G : Grp P) (h32 : ordP P ≤ 32) (L : List (List (List Int))) (hL : LatL P L) (w : World) (B lb : Nat) (p lv mv : Value) (Sp : Nat → Prop) (hX : Box3 w lb p lv mv) (hp : PresP Sp w p P)
    (hLv : SlO (fun F w u (x : List (List Int)) => RowsD F w u x) 23 B w lv L) (hB : B ≤ w.heap.size) :
    Calls Tryz.prog 82 #[.pointer (some ⟨lb, 0, none⟩)] w (Ret w fun w' v => ∃ a n c za zn zc, v = .tuple #[.slice a n c, .slice za zn zc] ∧
      SlOA (fun F w u (x : List (List Int)) => RowsD F w u x) 23 B (fun b => (Value.slice za zn zc).ownBlock = some b) w' (.slice a n c) (clS P L L.length).firsts ∧ Own w.heap.size w' (.slice za zn zc) (natI (clS P L L.length).sizes)) := by
  have hP := G.v
  have hn6 := hP.n6
  have hlen := G.lat_len h32 hL
  obtain ⟨pb, po, rfl⟩ := hp.shape
  obtain ⟨vs, Gb, hvl, hOv, hGb, hd, hE⟩ := hLv
  obtain ⟨la, lc, hlv⟩ : ∃ a c, lv = .slice a L.length c := by
    rcases hOv.form with ⟨e1, e2⟩ | ⟨g, cp, e1, _⟩
    · have : L.length = 0 := by rw [← hvl, e2]; rfl
      exact ⟨none, 0, by rw [e1, this]⟩
    · exact ⟨_, _, by rw [e1, hvl]⟩
  subst hlv
  have hsub : ∀ u ∈ L, SubB P u := fun u hu => (hL.2 u).1 hu
  have hbx : ∀ w', Ext w w' → w'.cell? ⟨lb, 0, none⟩ = some (.pointer (some ⟨pb, po, none⟩)) := fun w' h => (hX.ext h).2.1
  obtain ⟨hx0, hx1, hx2, hx3, hx4⟩ := id hX
  have hpos := hP.ordP_pos
  obtain ⟨N, hN⟩ : ∃ N, N = (ordP P).toNat := ⟨_, rfl⟩
  have hN32 : N ≤ 32 := by omega
  have hMs := MapAt.made mapSB w
  have hmk := makeSB w
  have hgm : Ext w (w.alloc (.map #[] 0)) := World.grownBy_alloc _ _ _
  have hMs' : MapAt mapSB (w.alloc (.map #[] 0)) w.heap.size (keyIn []) 0 := hMs
  have HL := Lib.hid (And.intro hsub (And.intro hbx (And.intro hN (And.intro hL hX)))); clear hsub hbx hN hL hX
  have HM := Lib.hid (And.intro hgm hMs'); clear hgm hMs' hMs hpos
  go_enter Tryz.func82, Tryz.ntmps82
  go_wp2
  clear hx1 hx2 hx3 hx4 hmk
  go_loopw [4, 5, 19] (fun ov zv iv wr => ∃ (k : Nat) (v4 v5 : Value), v4 = ov ∧ v5 = zv ∧ iv = .int .i64 k ∧ k ≤ L.length ∧ Ext w wr ∧
    SlOA (fun F w u (x : List (List Int)) => RowsD F w u x) 23 B (fun b => b = w.heap.size ∨ v5.ownBlock = some b ∨ ∃ j, k ≤ j ∧ j < L.length ∧ Gb j b) wr v4 (clS P L k).firsts ∧
    Own w.heap.size wr v5 (natI (clS P L k).sizes) ∧ MapAt mapSB wr w.heap.size (keyIn (clS P L k).seen) (clS P L k).seen.length ∧ Hid ((∀ b, v4.ownBlock = some b → w.heap.size ≤ b) ∧ v5.ownBlock ≠ some w.heap.size)) (fun _ _ iv _ => L.length - (intOf iv).toNat)
  case atStart => exact ⟨0, _, _, rfl, rfl, rfl, by omega, HM.out.1, ⟨[], fun _ _ => False, rfl, World.ownsRow_nil _ _ _ _, by simp, by simp, by simp [clS], by simp, by simp [Value.ownBlock]⟩, World.ownsRow_nil _ _ _ _, HM.out.2, Lib.hid (by simp [Value.ownBlock])⟩
  case round =>
    clear HM
    obtain ⟨k, v4, v5, rfl, rfl, rfl, hk, hg, hO, hZ, hM, hob⟩ := hrel
    have hseen := G.clS_seen HL.out.1 k hk
    have hsl := G.seen_len h32 hseen
    obtain ⟨hfl, hzl⟩ := clS_len P L k
    have hyes := @clS_yes P L k
    have hno := @clS_no P L k
    obtain ⟨st, hst⟩ : ∃ st, st = clS P L k := ⟨_, rfl⟩
    rw [← hst] at hO hZ hM hseen hfl hzl hsl hyes hno
    have HCL := Lib.hid (And.intro hyes (And.intro hno hst)); clear hyes hno hst
    by_cases hlt : k < L.length
    · have hlt' : (k : Int) < L.length := by omega
      obtain ⟨gl, hla⟩ : ∃ gl, la = some ⟨gl, 0, none⟩ := by
        rcases hOv.form with ⟨e1, e2⟩ | ⟨g, cp, e1, _⟩
        · have : L.length = 0 := by rw [← hvl, e2]; rfl
          omega
        · simp only [Value.slice.injEq] at e1; exact ⟨g, e1.1⟩
      subst hla
      have hc := hg.cell (hOv.cell k (by omega)) (by simp)
      have hEk := hE k hlt
      obtain ⟨ua, uc, hvu, _, _⟩ := SlD.shape hEk
      rw [hvu] at hc hEk
      have huB := HL.out.1 _ (gt_mem hlt)
      have huR : RowsD (Gb k) wr (.slice ua (gt L k).length uc) (gt L k) := rdRows.mono hEk (fun b hb hlt => ⟨hb, Nat.lt_of_lt_of_le hlt hg.size, hg.block b hlt (by simp)⟩)
      obtain ⟨hb1, hb2, hb3, hb4⟩ := subB_bytes G huB
      have hkey := keyOf_ok (gt L k) wr _ _ (RowsD.rows huR) hb2 hb3 hb4
      have hlook0 : ∀ w', Ext wr w' → (Instr.lookup 123 (.map (some w.heap.size)) (.string (keyS (gt L k))) false).run Tryz.prog w' = .ok (.bool (keyIn st.seen (keyS (gt L k)))) w' := fun w' h => (hM.ext h).look _ hb1
      have hki := keyIn_iff hP hseen.sub huB
      obtain ⟨u, hu⟩ : ∃ u, u = gt L k := ⟨_, rfl⟩
      rw [← hu] at hc huR huB hb1 hb2 hb3 hb4 hkey hlook0 hki
      obtain ⟨s, hs⟩ : ∃ s, s = keyS u := ⟨_, rfl⟩
      rw [← hs] at hkey hlook0 hki
      obtain ⟨r, hr⟩ : ∃ r, r = keyIn st.seen s := ⟨_, rfl⟩
      rw [← hr] at hlook0 hki
      have HU := Lib.hid (And.intro hu (And.intro huB (And.intro hki (And.intro hseen hEk)))); clear hu huB hki hs hr hseen hEk hb1 hb2 hb3 hb4 hvu
      go_wp2_with fail
      refine Calls.mono hkey ?_
      rintro e7 w7 ⟨v7, rfl, hg7, rfl⟩
      clear hkey hc
      have hlook := hlook0 w7 hg7
      clear hlook0
      have hg07 := grown_trans hg hg7
      have hO7 := hO.ext rdRows hg7
      have hZ7 := hZ.ext0 hg7
      have hM7 := hM.ext hg7
      clear hO hZ hM
      cases r with
      | true =>
        have hin : u ∈ st.seen := of_decide_eq_true HU.out.2.2.1.symm
        have hnx := HCL.out.2.1 (by rw [← HU.out.1]; exact hin)
        have hO8 := hO7.less (A' := fun b => b = w.heap.size ∨ v5.ownBlock = some b ∨ ∃ j, k + 1 ≤ j ∧ j < L.length ∧ Gb j b) (fun b h => h.imp id (fun h => h.imp id (fun ⟨j, h1, h2, h3⟩ => ⟨j, by omega, h2, h3⟩)))
        have HX := Lib.hid (And.intro hnx (And.intro hO8 (And.intro hZ7 hM7))); clear hin hnx hO7 hO8 hZ7 hM7
        go_wp2
        clear hlook
        go_roundw
        case rel => exact ⟨k + 1, v4, v5, rfl, rfl, by go_num, by omega, hg07, by rw [HX.out.1]; exact HX.out.2.1, by rw [HX.out.1]; exact HX.out.2.2.1, by rw [HX.out.1]; exact HX.out.2.2.2, hob⟩
        case measure => simp [intOf]; omega
      | false =>
        have hin : ¬ u ∈ st.seen := fun h => by
          have := HU.out.2.2.1
          rw [decide_eq_true h] at this; cases this
        have hnx := HCL.out.1 (by rw [← HU.out.1]; exact hin)
        have hb0 := HL.out.2.1 w7 hg07
        have hall := allElements_ok P hP w7 _ Sp (hp.ext hg07)
        have HX := Lib.hid (And.intro hnx (And.intro hO7 (And.intro hZ7 (And.intro hM7 huR)))); clear hin hnx hO7 hZ7 hM7 huR
        go_wp2_with fail
        clear hlook hb0
        refine Calls.mono hall ?_
        rintro e8 w8 ⟨v8, rfl, hg8, hA⟩
        clear hall
        have hg08 := grown_trans hg07 hg8
        have hg78 := grown_trans hg7 hg8
        have hAl : (allEl P).length = N := by rw [allEl_len, HL.out.2.2.1]
        have hAR := RowsD.rows (hA.toD (by omega))
        obtain ⟨ea, ec, hev, _, _⟩ := Sl.shape hAR
        subst hev
        rw [hAl]
        have hAR' : Rows2 (From w7.heap.size) w8 (.slice ea N ec) (allEl P) := by rw [← hAl]; exact hAR
        have HA := Lib.hid (And.intro hAl hAR'); clear hAl hAR hAR' hA
        have hmb7 := HX.out.2.2.2.1.lt
        have hM8 := HX.out.2.2.2.1.ext hg8
        go_wp2
        go_loopw [9, 33] (fun cv tv wr => ∃ t : Nat, cv = .int .i64 (((cnS P u st.seen t).2 : Nat) : Int) ∧ tv = .int .i64 t ∧ t ≤ N ∧ w8.grownBy wr (some w.heap.size) ∧ MapAt mapSB wr w.heap.size (keyIn (cnS P u st.seen t).1) (cnS P u st.seen t).1.length) (fun _ tv _ => N - (intOf tv).toNat)
        case atStart => exact ⟨0, rfl, by go_num, by omega, grown_refl _ _, hM8⟩
        case round =>
          clear hM8
          obtain ⟨t, rfl, rfl, ht, hgt, hMt⟩ := hrel
          have hgwr : Ext w wr := grown_own hg08 hgt (fun b hb hlt => by cases hb; omega)
          have hcl := cnS_le P u st.seen t
          have hsn := G.cnS_seen HU.out.2.1 HU.out.2.2.2.1 t (by rw [← HL.out.2.2.1]; exact ht)
          have hsnl := G.seen_len h32 hsn
          have hyes := @cnS_yes P u st.seen t
          have hno := @cnS_no P u st.seen t
          obtain ⟨cn, hcn⟩ : ∃ cn, cn = cnS P u st.seen t := ⟨_, rfl⟩
          rw [← hcn] at hMt hcl hsn hsnl hyes hno
          rw [← hcn]
          have HY := Lib.hid (And.intro hyes (And.intro hno (And.intro hcn (And.intro hsn hcl)))); clear hyes hno hsn
          by_cases htl : t < N
          · have htl' : (t : Int) < N := by omega
            have hXV : Vec P.orders (elAt P (t : Int)) := G.elAtV (by rw [← HL.out.2.2.1]; exact htl)
            have hAr : Rows2 Any wr (.slice ea N ec) (allEl P) := Rows2.mono HA.out.2 (fun j hj hlt => ⟨trivial, Nat.lt_of_lt_of_le hlt hgt.size, hgt.block j hlt (fun e => by
              have h1 : w7.heap.size ≤ j := hj
              cases e; omega)⟩)
            obtain ⟨bt, ot, a2, cap2, hbt, _, _, hct, hrt⟩ := Rows2.at hAr t (by rw [HA.out.1]; exact htl)
            cases hbt
            rw [gt_allEl (by rw [← HL.out.2.2.1]; exact htl)] at hct hrt
            have huW : Rows2 (Gb k) wr (.slice ua u.length uc) u := RowsD.rows (rdRows.mono HX.out.2.2.2.2 (fun j hj hlt => ⟨hj, Nat.lt_of_lt_of_le hlt (Nat.le_trans hg78.size hgt.size), (hgt.block j (Nat.lt_of_lt_of_le hlt hg78.size) (fun e => by
              have := (hGb k j (by assumption) hj).2.2
              cases e; omega)).trans (hg78.block j hlt (by simp))⟩))
            have hb0 := HL.out.2.1 wr hgwr
            have hul := G.sub_len HU.out.2.1
            have hcj := conjugateSubgroup_ok P G wr _ _ _ u (elAt P (t : Int)) Sp _ _ (hp.ext hgwr) huW HU.out.2.1.1 (by omega) hrt hXV
            have hcB := G.cjU_subB HU.out.2.1 hXV
            have HXV := Lib.hid hXV
            obtain ⟨X, hXe⟩ : ∃ X, X = elAt P (t : Int) := ⟨_, rfl⟩
            rw [← hXe] at hct hcj hcB
            obtain ⟨cj, hcje⟩ : ∃ cj, cj = cjU P u X := ⟨_, rfl⟩
            have hcje' : cseq P (genP P (fun z => z ∈ conjL P u X)) = cj := by rw [hcje]; rfl
            rw [hcje'] at hcj
            rw [← hcje] at hcB
            have HCJ := Lib.hid (And.intro hXe hcje); clear hXe hcje hcje' hXV hrt huW hAr
            go_wp2_with fail
            clear hct hb0
            refine Calls.mono hcj ?_
            rintro e9 w9 ⟨v9, rfl, hg9, hR9⟩
            clear hcj
            obtain ⟨hb1, hb2, hb3, hb4⟩ := subB_bytes G hcB
            have hRR := RowsD.rows (hR9.toD (by omega))
            obtain ⟨ja, jc, hjv, _, _⟩ := Sl.shape hRR
            subst hjv
            have hkey := keyOf_ok cj w9 _ _ hRR hb2 hb3 hb4
            have hM9 := hMt.ext hg9
            have hlook0 : ∀ w', Ext w9 w' → (Instr.lookup 123 (.map (some w.heap.size)) (.string (keyS cj)) false).run Tryz.prog w' = .ok (.bool (keyIn cn.1 (keyS cj))) w' := fun w' h => (hM9.ext h).look _ hb1
            have hki := keyIn_iff hP HY.out.2.2.2.1.sub hcB
            have happ := keyIn_app cn.1 cj
            obtain ⟨s2, hs2⟩ : ∃ s2, s2 = keyS cj := ⟨_, rfl⟩
            rw [← hs2] at hkey hlook0 hki happ hb1
            obtain ⟨r, hr⟩ : ∃ r, r = keyIn cn.1 s2 := ⟨_, rfl⟩
            rw [← hr] at hlook0 hki
            have HK := Lib.hid (And.intro hki (And.intro happ hb1)); clear hki happ hs2 hr hb1 hb2 hb3 hb4 hRR hR9 hcB
            go_wp2_with fail
            refine Calls.mono hkey ?_
            rintro eA wA ⟨vA, rfl, hgA, rfl⟩
            clear hkey
            have hlook := hlook0 wA hgA
            clear hlook0
            have hMA := hM9.ext hgA
            have hgtA : w8.grownBy wA (some w.heap.size) := grown_trans hgt (grown_of_ext _ (grown_trans hg9 hgA))
            clear hMt hM9
            cases r with
            | true =>
              have hin : cj ∈ cn.1 := of_decide_eq_true HK.out.1.symm
              have hnx := HY.out.2.1 (by rw [← HCJ.out.1, ← HCJ.out.2]; exact hin)
              have HX2 := Lib.hid (And.intro hnx hMA); clear hin hnx hMA
              go_wp2
              clear hlook
              go_roundw
              case rel => exact ⟨t + 1, by rw [HX2.out.1, HY.out.2.2.1], by go_num, by omega, hgtA, by rw [HX2.out.1]; exact HX2.out.2⟩
              case measure => simp [intOf]; omega
            | false =>
              have hin : ¬ cj ∈ cn.1 := fun h => by
                have := HK.out.1
                rw [decide_eq_true h] at this; cases this
              have hnx := HY.out.1 (by rw [← HCJ.out.1, ← HCJ.out.2]; exact hin)
              rw [← HCJ.out.1, ← HCJ.out.2] at hnx
              obtain ⟨wU, hrun, hMU, hgU⟩ := hMA.update s2 HK.out.2.2 true trivial (by omega)
              have hrun2 : (Instr.mapUpdate 123 (.map (some w.heap.size)) (.string s2) (.bool true)).run Tryz.prog wA = .ok () wU := hrun
              have hMU2 : MapAt mapSB wU w.heap.size (keyIn (cn.1 ++ [cj])) (cn.1 ++ [cj]).length := by
                rw [List.length_append, List.length_singleton]
                exact hMU.congr (fun s => HK.out.2.1 s)
              have hgtU := grown_trans hgtA hgU
              have hw1 : wrap64 ((cn.2 : Nat) + 1 : Int) = ((cn.2 + 1 : Nat) : Int) := by rw [IntWalk.wrap64_in _ (by omega)]; omega
              have HX2 := Lib.hid (And.intro hnx hMU2); clear hin hnx hMA hMU hMU2 hrun hgU
              go_wp2
              clear hlook hrun2
              go_roundw
              case rel => exact ⟨t + 1, by rw [HX2.out.1, ← HY.out.2.2.1]; exact congrArg (Value.int .i64) hw1, by go_num, by omega, hgtU, by rw [HX2.out.1]; exact HX2.out.2⟩
              case measure => simp [intOf]; omega
          · have hte : t = N := by omega
            have hnx := HX.out.1
            rw [← HU.out.1, ← HL.out.2.2.1, ← hte, ← hcn] at hnx
            have hnl : ¬ (t : Int) < N := by omega
            have hcl2 : cn.2 ≤ 32 := by omega
            have hO8 := (HX.out.2.1.ext rdRows hg8).kept rdRows hgt (.inl rfl)
            have hZ8 := (HX.out.2.2.1.ext0 hg8).ext hgt (by
              rcases hz : v5.ownBlock with _ | b
              · exact .inl rfl
              · exact .inr (fun e => hob.out.2 (by rw [hz]; exact e)))
            have hv5 : ∀ b, v5.ownBlock = some b → w.heap.size ≤ b ∧ b < wr.heap.size := fun b hb => hZ8.lt b hb
            have hmbr := hMt.lt
            have hav := hO8.avoids
            have hO9 := hO8.less (A' := fun b => (b = w.heap.size ∨ v5.ownBlock = some b ∨ ∃ j, k ≤ j ∧ j < L.length ∧ Gb j b) ∧ b < wr.heap.size) (fun b h => h.1)
            have huA : RowsD (Gb k) wr (.slice ua u.length uc) u := rdRows.mono HX.out.2.2.2.2 (fun j hj hlt => ⟨hj, Nat.lt_of_lt_of_le hlt (Nat.le_trans hg78.size hgt.size), (hgt.block j (Nat.lt_of_lt_of_le hlt hg78.size) (fun e => by
              have := (hGb k j (by assumption) hj).2.2
              cases e; omega)).trans (hg78.block j hlt (by simp))⟩)
            have hF1 : ∀ b, Gb k b → b < wr.heap.size → ((b = w.heap.size ∨ v5.ownBlock = some b ∨ ∃ j, k ≤ j ∧ j < L.length ∧ Gb j b) ∧ b < wr.heap.size) ∧ B ≤ b := fun b hb hlt2 => ⟨⟨.inr (.inr ⟨k, by omega, by assumption, hb⟩), hlt2⟩, (hGb k b (by assumption) hb).1⟩
            have hF2 : ∀ b, (b = w.heap.size ∨ v5.ownBlock = some b ∨ ∃ j, k + 1 ≤ j ∧ j < L.length ∧ Gb j b) → ((b = w.heap.size ∨ v5.ownBlock = some b ∨ ∃ j, k ≤ j ∧ j < L.length ∧ Gb j b) ∧ b < wr.heap.size) ∧ ¬ Gb k b := fun b h => by
              have hgk : Gb k b → b < w.heap.size := fun h => (hGb k b (by assumption) h).2.2
              rcases h with h | h | ⟨j, h1, h2, h3⟩
              · exact ⟨⟨.inl h, by omega⟩, fun h4 => by have := hgk h4; omega⟩
              · have := hv5 b h
                exact ⟨⟨.inr (.inl h), this.2⟩, fun h4 => by have := hgk h4; omega⟩
              · have h5 := (hGb j b h2 h3).2.2
                have h6 := hgwr.size
                exact ⟨⟨.inr (.inr ⟨j, by omega, h2, h3⟩), by omega⟩, fun h4 => by have := hd j k b h2 (by assumption) h3 h4; omega⟩
            have hn1 : st.firsts.length ≤ 1000000 := by omega
            have hzn1 : (natI st.sizes).length ≤ 1000000 := by rw [natI_len]; omega
            have happ := natI_app st.sizes cn.2
            have HX2 := Lib.hid (And.intro hnx (And.intro hO9 (And.intro hZ8 (And.intro hMt (And.intro huA (And.intro hF1 (And.intro hF2 (And.intro hzn1 happ)))))))); clear hnx hO8 hO9 hZ8 hMt huA hF1 hF2 hzn1 happ hcn hte
            go_wp2_with (first
              | (at_builtin; refine wp_app_take3 rfl _ _ rfl B (fun b => (b = w.heap.size ∨ v5.ownBlock = some b ∨ ∃ j, k ≤ j ∧ j < L.length ∧ Gb j b) ∧ b < wr.heap.size) (fun b => b = w.heap.size ∨ v5.ownBlock = some b ∨ ∃ j, k + 1 ≤ j ∧ j < L.length ∧ Gb j b) (Gb k) wr v4 _ st.firsts u rfl HX2.out.2.1 HX2.out.2.2.2.2.1 HX2.out.2.2.2.2.2.1 HX2.out.2.2.2.2.2.2.1 (fun b hb => hb.2) rfl rfl hn1 (by have := hgwr.size; omega) ?_; intro vB wB hOB hgB hkB
                 have hZB := HX2.out.2.2.1.ext hgB (by
                   rcases hz : v5.ownBlock with _ | b
                   · exact .inl rfl
                   · exact .inr (fun e => (hav b e.symm).1 (.inr (.inl hz))))
                 have hMB := HX2.out.2.2.2.1.kept hgB (fun e => (hav _ e.symm).1 (.inl rfl))
                 have HX3 := Lib.hid (And.intro hOB (And.intro hZB hMB)); clear hOB hZB hMB)
              | (at_builtin; refine wp_app_intA rfl _ _ rfl w.heap.size _ (natI st.sizes) ((cn.2 : Nat) : Int) rfl wB HX3.out.2.1 rfl rfl HX2.out.2.2.2.2.2.2.2.1 (Nat.le_trans hgwr.size hgB.size) ?_; intro vC wC hOC hgC hkC)
              | fail)
            have hgC : wB.grownBy wC v5.ownBlock := hgC
            have hgwB : Ext w wB := grown_own hgwr hgB (fun b hb hlt => by have := hob.out.1 b hb; omega)
            have hgwC : Ext w wC := grown_own hgwB hgC (fun b hb hlt => by have := (HX3.out.2.1.lt b hb).1; omega)
            have hLB := HX3.out.1.more (A' := fun b => b = w.heap.size ∨ (v5.ownBlock = some b ∨ vC.ownBlock = some b) ∨ ∃ j, k + 1 ≤ j ∧ j < L.length ∧ Gb j b) (fun b h => by
              rcases h with h | (h | h) | h
              · exact .inl (.inl h)
              · exact .inl (.inr (.inl h))
              · rcases hkC b h with h | h
                · exact .inl (.inr (.inl h))
                · exact .inr h
              · exact .inl (.inr (.inr h)))
            have hLC : SlOA (fun F w u (x : List (List Int)) => RowsD F w u x) 23 B (fun b => b = w.heap.size ∨ (v5.ownBlock = some b ∨ vC.ownBlock = some b) ∨ ∃ j, k + 1 ≤ j ∧ j < L.length ∧ Gb j b) wC vB (st.firsts ++ [u]) := by
              rcases hz : v5.ownBlock with _ | b
              · rw [hz] at hgC hLB
                exact hLB.ext rdRows hgC
              · rw [hz] at hgC hLB
                exact hLB.kept rdRows hgC (.inr (.inl (.inl rfl)))
            have hLC2 := hLC.less (A' := fun b => b = w.heap.size ∨ vC.ownBlock = some b ∨ ∃ j, k + 1 ≤ j ∧ j < L.length ∧ Gb j b) (fun b h => h.imp id (fun h => h.imp .inr id))
            have hMC := HX3.out.2.2.kept hgC (fun e => hob.out.2 e.symm)
            have hmbB := Nat.lt_of_lt_of_le hmbr hgB.size
            have hobC : (∀ b, vB.ownBlock = some b → w.heap.size ≤ b) ∧ vC.ownBlock ≠ some w.heap.size := ⟨fun b hb => by
              rcases hkB with h | h
              · exact hob.out.1 b (by rw [← h]; exact hb)
              · have := h b hb; have := hgwr.size; omega, fun e => by
              rcases hkC _ e with h | h
              · exact hob.out.2 h
              · omega⟩
            have HC := Lib.hid (And.intro hobC (And.intro hLC2 hMC)); clear hobC hLC hLC2 hMC hLB
            go_roundw
            case rel => exact ⟨k + 1, vB, vC, rfl, rfl, by go_num, by omega, hgwC, by rw [HX2.out.1]; exact HC.out.2.1, by rw [HX2.out.1, HX2.out.2.2.2.2.2.2.2.2]; exact hOC, by rw [HX2.out.1]; exact HC.out.2.2, Lib.hid HC.out.1⟩
            case measure => simp [intOf]; omega
    · have hke : k = L.length := by omega
      have hnl : ¬ (k : Int) < L.length := by omega
      have hst := HCL.out.2.2
      rw [hke] at hst
      have hO2 := hO.less (A' := fun b => v5.ownBlock = some b) (fun b h => .inr (.inl h))
      rw [hst] at hO2 hZ
      obtain ⟨fa, fn, fc, hfv⟩ : ∃ a n c, v4 = .slice a n c := by
        obtain ⟨a, c, h, _⟩ := SlD.shape (hO.o.toD (by omega)); exact ⟨_, _, _, h⟩
      obtain ⟨za, zn, zc, hzv⟩ : ∃ a n c, v5 = .slice a n c := by
        rcases hZ.v.form with ⟨h1, _⟩ | ⟨g, cp, h1, _⟩ <;> exact ⟨_, _, _, h1⟩
      subst hfv hzv
      have HE := Lib.hid (And.intro hO2 hZ); clear hO hO2 hZ hM hst hke
      go_wp2
      refine bodyPost_ret (v := .tuple #[.slice fa fn fc, .slice za zn zc]) (by simp [results, Tryz.results82, go_sem]) rfl ?_
      exact ⟨_, rfl, hg, _, _, _, _, _, _, rfl, HE.out.1, HE.out.2⟩

end Go.Proofs.YtdklekdpdbjfiaaGreat
