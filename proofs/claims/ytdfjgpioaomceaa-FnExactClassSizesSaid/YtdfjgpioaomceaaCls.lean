/-
  impl.classesOf, impl.ClassSizes.
-/
import Derived.Test.YtdfjgpioaomceaaClsOf
namespace Go.Proofs.Ytdfjgpioaomceaa
open Go.Proofs Go.RowKit

abbrev Rows3O (B : Nat) (w : World) (v : Value) (xs : List (List (List Int))) : Prop := SlO (fun F w u (x : List (List Int)) => RowsD F w u x) 23 B w v xs

/-- the classes that the program has found among the first k elements -/
def iClsTo (P : Pr) : Nat → List (List (List Int))
  | 0 => []
  | k + 1 => if (iClsTo P k).any (fun C => bsFound C (elAt P (k : Int))) then iClsTo P k else iClsTo P k ++ [sortL (orb P (elAt P (k : Int)))]
def iCls (P : Pr) : List (List (List Int)) := iClsTo P (ordP P).toNat

theorem iClsTo_len (P : Pr) (k : Nat) : (iClsTo P k).length ≤ k := by
  induction k with
  | zero => simp [iClsTo]
  | succ k ih =>
    simp only [iClsTo]; split
    · omega
    · rw [List.length_append]; simp; omega

theorem orb_len {P : Pr} (hP : Valid P) {X : List Int} (hX : Vec P.orders X) : (orb P X).length ≤ (ordP P).toNat := by
  have : ∀ (f i : Nat) (L : List (List Int)), OrbI P L → (orbTo P f i L).length ≤ (ordP P).toNat := by
    intro f
    induction f with
    | zero => intro i L h; exact h.len hP
    | succ f ih =>
      intro i L h
      simp only [orbTo]
      split
      · rename_i hi
        exact ih _ _ (h.inn hP (h.vec _ (gt_mem hi)) _)
      · exact h.len hP
  exact this _ _ _ (OrbI.single hX)

theorem iClsTo_rows {P : Pr} (hP : Valid P) (k : Nat) : ∀ C ∈ iClsTo P k, C.length ≤ (ordP P).toNat := by
  induction k with
  | zero => simp [iClsTo]
  | succ k ih =>
    intro C hC
    simp only [iClsTo] at hC
    split at hC
    · exact ih C hC
    · rcases List.mem_append.1 hC with h | h
      · exact ih C h
      · rw [List.mem_singleton.1 h, (sortL_perm _).length_eq]
        exact orb_len hP (elAt_vec hP _ (by omega))

theorem firstAt_any {CC : List (List (List Int))} {X : List Int} {r : Int} (h : FirstAt (fun i => bsFound (gt CC i) X) CC.length r) : (r < 0 ↔ CC.any (fun C => bsFound C X) = false) := by
  rcases h with ⟨k, rfl, hk, hp, _⟩ | ⟨rfl, hno⟩
  · constructor
    · intro h; omega
    · intro h
      rw [List.any_eq_false] at h
      exact absurd hp (h _ (gt_mem hk))
  · constructor
    · intro _
      rw [List.any_eq_false]
      intro C hC
      obtain ⟨i, hi, rfl⟩ := mem_gt hC
      simp [hno i hi]
    · intro _; omega

theorem und_rows3 : Try.prog.underlying 24 = some (.slice 23) := by kernel_rfl
theorem Try.infoRow2 : (Try.prog.info? 23).map (fun i => (i.zero, i.size, i.bytes)) = some (some (.slice none 0 0), 1, 24) := by kernel_rfl

open Classical in
set_option maxRecDepth 100000 in
set_option maxHeartbeats 8000000 in
theorem classesOf_ok (P : Pr) (w : World) (p : Value) (Sp : Nat → Prop) (hp : PresP Sp w p P) :
    Calls Try.prog 21 #[p] w (Ret w fun w' v => ∃ r, v = .tuple #[r, .int .i64 (clsCode P (iconsB P))] ∧ ((clsCode P (iconsB P) ≠ 0 ∧ r = .slice none 0 0) ∨ (clsCode P (iconsB P) = 0 ∧ Rows3O w.heap.size w' r (iCls P)))) := by
  obtain ⟨pb, po, rfl⟩ := hp.shape
  obtain ⟨vo, vp, vc, _, _, hb1, hb2, hb3, h3⟩ := hp.at
  go_enter Try.func21, Try.ntmps21
  go_wp2_with fail
  refine Calls.mono (isConsistent_ok P _ _ _ ⟨_, _, _, rfl, h3⟩) ?_
  rintro eA wA ⟨vA, rfl, hgA, rfl⟩
  clear hb1 hb2 hb3 h3
  cases hr : iconsB P with
  | false =>
    go_wp2
    exact bodyPost_ret (v := .tuple #[.slice none 0 0, .int .i64 1]) (by simp [results, Try.results21, go_sem]) rfl ⟨_, rfl, hgA, _, by simp [clsCode, hr], .inl ⟨by simp [clsCode, hr], rfl⟩⟩
  | true =>
    have hP : Valid P := by
      unfold iconsB at hr
      exact (of_decide_eq_true hr).1
    have h729 : ordP P ≤ 729 := hP.le729
    have hpos := hP.ordP_pos
    have hn6 := hP.n6
    go_wp2_with fail
    refine (orderOf_ok _ _ P Sp hP (hp.ext hgA)).mono ?_
    rintro eB wB ⟨rfl, rfl⟩
    by_cases hb : ordP P > 128
    · have hb' : 128 < ordP P := hb
      go_wp2
      exact bodyPost_ret (v := .tuple #[.slice none 0 0, .int .i64 3]) (by simp [results, Try.results21, go_sem]) rfl ⟨_, rfl, hgA, _, by simp [clsCode, hr, hb'], .inl ⟨by simp [clsCode, hr, hb'], rfl⟩⟩
    · have hb' : ordP P ≤ 128 := by omega
      have hz : clsCode P (iconsB P) = 0 := by simp [clsCode, hr]; omega
      have HZ := Lib.hid hz; clear hz hr
      go_wp2_with fail
      refine Calls.mono (allElements_ok P hP _ _ Sp (hp.ext hgA)) ?_
      rintro eC wC ⟨vC, rfl, hgC, hC⟩
      have hal : (allEl P).length = (ordP P).toNat := by simp [allEl]
      have hCd := RowsD.rows (hC.toD (by omega))
      obtain ⟨ac, capc, rfl, _, _⟩ := Sl.shape hCd
      rw [hal] at hCd
      have HAL := Lib.hid hal
      simp only [hal]
      clear hal
      have hgwC := grown_trans hgA hgC
      go_wp2
      go_loopw [4, 18] (fun v kv wr => ∃ k : Nat, kv = .int .i64 k ∧ k ≤ (ordP P).toNat ∧ Ext wC wr ∧ Rows3O wC.heap.size wr v (iClsTo P k)) (fun _ kv _ => (ordP P).toNat - (intOf kv).toNat)
      case atStart => exact ⟨0, rfl, by omega, Ext.refl _, SlO.nil _ _ _ _⟩
      case round =>
        obtain ⟨k, rfl, hk, hg, hL⟩ := hrel
        have hkl := iClsTo_len P k
        have hLd := Rows3D.rows (hL.toD (by omega))
        obtain ⟨aL, capL, rfl, _, _⟩ := Sl.shape hLd
        by_cases hlt : k < (ordP P).toNat
        · have hlt' : (k : Int) < ordP P := by omega
          have hlt'' : (k : Int) < max (ordP P) 0 := by omega
          obtain ⟨be, oe, ae2, cape2, rfl, _, _, hce, hie⟩ := Rows2.at (hCd.ext hg) k (by rw [HAL.out]; omega)
          have hge : gt (allEl P) k = elAt P (k : Int) := by simp [allEl, gt, hlt]
          rw [hge] at hce hie
          have hvE := elAt_vec hP (k : Int) (by omega)
          have HV := Lib.hid (And.intro hvE hge); clear hvE hge
          go_wp2_with fail
          refine Calls.mono (classNumber_ok _ _ (iClsTo P k) (elAt P (k : Int)) wr _ _ hLd hie (fun i hi => by have := iClsTo_rows hP k _ (gt_mem hi); omega)) ?_
          rintro eN wN ⟨vN, rfl, hgN, r, rfl, hr⟩
          have hany := firstAt_any hr
          have HS := Lib.hid (show iClsTo P (k + 1) = if (iClsTo P k).any (fun C => bsFound C (elAt P (k : Int))) then iClsTo P k else iClsTo P k ++ [sortL (orb P (elAt P (k : Int)))] from rfl)
          have hgN' := grown_trans hg hgN
          have hL2 := hL.ext rdRows hgN
          clear hce hr
          by_cases hneg : r < 0
          · have ha := hany.1 hneg
            have hs := HS.out
            rw [ha] at hs
            simp only [if_false, Bool.false_eq_true] at hs
            have HS2 := Lib.hid hs; clear hs ha hany
            go_wp2_with fail
            refine Calls.mono (classOf_ok P hP wN _ _ (elAt P (k : Int)) Sp _ (hp.ext (grown_trans hgwC hgN')) (hie.ext hgN) HV.out.1) ?_
            rintro eX wX ⟨vX, rfl, hgX, hX⟩
            have hXl : (sortL (orb P (elAt P (k : Int)))).length ≤ 1000000 := by
              rw [(sortL_perm _).length_eq]
              have := orb_len hP HV.out.1
              omega
            have hXd : RowsD (From wN.heap.size) wX vX (sortL (orb P (elAt P (k : Int)))) := hX.toD (by omega)
            obtain ⟨aX, capX, rfl, _, _⟩ := SlD.shape hXd
            clear hXl
            go_wp2_with (at_builtin; go_must (refine wp_app_one rdRows 24 23 (.slice none 0 0) 24 und_rows3 Try.infoRow2 rfl (by decide) rfl _ _ rfl wC.heap.size wN wX _ _ _ (sortL (orb P (elAt P (k : Int)))) rfl hL2 hgX hXd rfl rfl (by omega) hgN'.size ?_); intro v5 w5 hL5 hg5 hg6)
            have hgx := hL2.extw hgN' (Nat.le_refl _) hg5
            go_roundw
            case rel => exact ⟨k + 1, by go_num, by omega, hgx, by rw [HS2.out]; exact hL5⟩
            case measure => simp [intOf]; omega
          · have hneg' : 0 ≤ r := by omega
            have ha : (iClsTo P k).any (fun C => bsFound C (elAt P (k : Int))) = true := by
              cases h : (iClsTo P k).any (fun C => bsFound C (elAt P (k : Int)))
              · exact absurd (hany.2 h) hneg
              · rfl
            have hs := HS.out
            rw [if_pos ha] at hs
            have HS2 := Lib.hid hs; clear hs ha hany
            go_wp2
            go_roundw
            case rel => exact ⟨k + 1, by go_num, by omega, hgN', by rw [HS2.out]; exact hL2⟩
            case measure => simp [intOf]; omega
        · have hke : k = (ordP P).toNat := by omega
          subst hke
          go_wp2
          exact bodyPost_ret (v := .tuple #[.slice aL (iClsTo P (ordP P).toNat).length capL, .int .i64 0]) (by simp [results, Try.results21, go_sem]) rfl ⟨_, rfl, grown_trans hgwC hg, _, by rw [HZ.out], .inr ⟨HZ.out, hL.weak hgwC.size⟩⟩

def iSizes (P : Pr) : List Int := (iCls P).map (fun C => (C.length : Int))

set_option maxRecDepth 100000 in
set_option maxHeartbeats 8000000 in
theorem iClassSizes_ok (P : Pr) (w : World) (pv : Value) (Sp : Nat → Prop) (hpv : PresV Sp w pv P) :
    Calls Try.prog 7 #[pv] w (Ret w fun w' v => ∃ r, v = .tuple #[r, .int .i64 (clsCode P (iconsB P))] ∧ ((clsCode P (iconsB P) ≠ 0 ∧ r = .slice none 0 0) ∨ (clsCode P (iconsB P) = 0 ∧ Own w.heap.size w' r (iSizes P)))) := by
  obtain ⟨vo, vp, vc, rfl, h3⟩ := hpv
  have hp0 := PresP.box h3 30
  have hg0 : Ext w (w.alloc (.cells #[vo, vp, vc] 30)) := World.grownBy_alloc _ _ _
  go_enter Try.func7, Try.ntmps7
  go_wp2_with fail
  refine Calls.mono (classesOf_ok P _ _ _ hp0) ?_
  rintro eA wA ⟨vA, rfl, hgA, r, rfl, hr⟩
  have hgw := grown_trans hg0 hgA
  rcases hr with ⟨hz, rfl⟩ | ⟨hz, hC⟩
  · have hz' : (clsCode P (iconsB P) != 0) = true := by simpa using hz
    go_wp2
    exact bodyPost_ret (v := .tuple #[.slice none 0 0, .int .i64 (clsCode P (iconsB P))]) (by simp [results, Try.results7, go_sem]) rfl ⟨_, rfl, hgw, _, rfl, .inl ⟨hz, rfl⟩⟩
  · have hlen : (iCls P).length ≤ (ordP P).toNat := iClsTo_len P _
    have h128 : ordP P ≤ 128 := by
      cases hi : iconsB P with
      | false => rw [hi] at hz; simp [clsCode] at hz
      | true => rw [hi] at hz; simp only [clsCode, if_true] at hz; split at hz <;> omega
    have hCd := Rows3D.rows (hC.toD (by omega))
    obtain ⟨ac, capc, rfl, _, _⟩ := Sl.shape hCd
    have HZ := Lib.hid hz
    rw [hz]
    clear hz
    go_wp2
    go_loopw [6, 18] (fun v kv wr => ∃ k : Nat, kv = .int .i64 k ∧ k ≤ (iCls P).length ∧ Ext wA wr ∧ Own wA.heap.size wr v ((iSizes P).take k)) (fun _ kv _ => (iCls P).length - (intOf kv).toNat)
    case atStart => exact ⟨0, rfl, by omega, Ext.refl _, World.ownsRow_nil _ _ _ _⟩
    case round =>
      obtain ⟨k, rfl, hk, hg, hO⟩ := hrel
      by_cases hlt : k < (iCls P).length
      · have hlt' : (k : Int) < (iCls P).length := by omega
        obtain ⟨b3, o3, a3, c3, rfl, _, _, hc3, hi3⟩ := Rows3.at (hCd.ext hg) k hlt
        have hsl : (iSizes P).length = (iCls P).length := by simp [iSizes]
        have hsz : gt (iSizes P) k = ((gt (iCls P) k).length : Int) := gt_map _ _ _ hlt
        have htk : (iSizes P).take (k + 1) = (iSizes P).take k ++ [((gt (iCls P) k).length : Int)] := by
          rw [← hsz, List.take_add_one]; simp [gt, show k < (iSizes P).length by omega]
        have HT := Lib.hid (And.intro htk hsl); clear htk hsl hsz
        clear hi3
        go_wp2_with (at_builtin; go_must (refine wp_app_ints rfl _ _ rfl wA.heap.size _ ((iSizes P).take k) rfl (hO.ext0 (World.grownBy_alloc _ _ _)) _ [((gt (iCls P) k).length : Int)] rfl Any (Own.ints (World.ownsRow_lit wr #[.int .i64 ((gt (iCls P) k).length : Int)] 1 (Nat.zero_le _) (by decide) rfl) (by simp)) (by simp; omega) (by have := hg.size; simp; omega) ?_); intro v5 w5 hO5 hg5 _)
        have hgx : Ext wA w5 := grown_own (grown_trans hg (World.grownBy_alloc _ _ _)) hg5 (fun j hj hlt => by have := (hO.lt j hj).1; omega)
        go_roundw
        case rel => exact ⟨k + 1, by go_num, by omega, hgx, by rw [HT.out.1]; exact hO5⟩
        case measure => simp [intOf]; omega
      · have hke : k = (iCls P).length := by omega
        subst hke
        have htk : (iSizes P).take (iCls P).length = iSizes P := List.take_of_length_le (by simp [iSizes])
        rw [htk] at hO
        clear htk
        obtain ⟨az, caps, rfl, _, _⟩ := (hO.ints (by simp [iSizes]; omega)).shape
        go_wp2
        exact bodyPost_ret (v := .tuple #[.slice az (iSizes P).length caps, .int .i64 0]) (by simp [results, Try.results7, go_sem]) rfl ⟨_, rfl, grown_trans hgw hg, _, by rw [HZ.out], .inr ⟨HZ.out, hO.weak hgw.size⟩⟩

end Go.Proofs.Ytdfjgpioaomceaa
