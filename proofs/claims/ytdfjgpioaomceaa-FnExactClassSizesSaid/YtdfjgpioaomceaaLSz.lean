/-
  The laws' measure of an argument: laws.szInt64S, szInt64SS, szInt64SSS, szPresentation.
-/
import Derived.Test.YtdfjgpioaomceaaRowsO
namespace Go.Proofs.Ytdfjgpioaomceaa
open Go.RowKit

/-- what a measure answers: what is left, or -1 -/
def SzR (L : Int) (n : Nat) (v : Value) : Prop := ((n : Int) ≤ L ∧ v = .int .i64 (L - n)) ∨ (L < n ∧ v = .int .i64 (-1))

set_option maxHeartbeats 400000 in
theorem szInt64S_ok (v : Value) (l : List Int) (L : Int) (w : World) (S : Nat → Prop) (h : Ints S w v l) (hL : 0 ≤ L ∧ L ≤ 1048576) :
    Calls Try.prog 13 #[v, .int .i64 L] w (Ret w fun _ r => SzR L l.length r) := by
  obtain ⟨a, cap, rfl, _, hlen⟩ := h.shape
  have hwr : IntKind.i64.wrap (L - (l.length : Int)) = L - l.length := IntWalk.i64_in _ (by omega)
  by_cases hc : (l.length : Int) ≤ L
  · have h0 : ¬ (L - (l.length : Int) < 0) := by omega
    have h1 : 0 ≤ L - (l.length : Int) := by omega
    go_enter Try.func13, Try.ntmps13
    go_wp2
    go_ret
    exact ⟨_, rfl, Ext.refl _, .inl ⟨hc, rfl⟩⟩
  · have h0 : L - (l.length : Int) < 0 := by omega
    go_enter Try.func13, Try.ntmps13
    go_wp2
    go_ret
    exact ⟨_, rfl, Ext.refl _, .inr ⟨by omega, rfl⟩⟩

/-- places in the first k rows -/
def szTo {α : Type} [Inhabited α] (sz : α → Nat) (xs : List α) : Nat → Nat
  | 0 => 0
  | k + 1 => szTo sz xs k + sz (gt xs k)
theorem szTo_mono {α : Type} [Inhabited α] (sz : α → Nat) (xs : List α) {k n : Nat} (h : k ≤ n) : szTo sz xs k ≤ szTo sz xs n := by
  induction n with
  | zero => have : k = 0 := by omega
            subst this; exact Nat.le_refl _
  | succ n ih =>
    rcases Nat.lt_or_ge n k with h1 | h1
    · have : k = n + 1 := by omega
      subst this; exact Nat.le_refl _
    · exact Nat.le_trans (ih h1) (Nat.le_add_right _ _)
def size2 (xs : List (List Int)) : Nat := xs.length + szTo List.length xs xs.length
def size3 (xs : List (List (List Int))) : Nat := xs.length + szTo size2 xs xs.length
def sizeP (P : Pr) : Nat := P.orders.length + size2 P.powers + size3 P.conj

-- rows

set_option maxHeartbeats 1000000 in
theorem szInt64SS_ok (v : Value) (xs : List (List Int)) (L : Int) (w : World) (S : Nat → Prop) (h : Rows2 S w v xs) (hL : 0 ≤ L ∧ L ≤ 1048576) :
    Calls Try.prog 14 #[v, .int .i64 L] w (Ret w fun _ r => SzR L (size2 xs) r) := by
  obtain ⟨a, cap, rfl, _, hlen⟩ := Sl.shape h
  have hwr : IntKind.i64.wrap (L - (xs.length : Int)) = L - xs.length := IntWalk.i64_in _ (by omega)
  by_cases hc : (xs.length : Int) ≤ L
  · have h0 : ¬ (L - (xs.length : Int) < 0) := by omega
    have h1 : 0 ≤ L - (xs.length : Int) := by omega
    go_enter Try.func14, Try.ntmps14
    go_wp2
    clear hwr h0 h1
    go_loopw [1, 5] (fun lv iv wr => ∃ k : Nat, iv = .int .i64 k ∧ lv = .int .i64 (L - xs.length - szTo List.length xs k) ∧ k ≤ xs.length ∧ Ext w wr ∧ 0 ≤ L - xs.length - szTo List.length xs k) (fun _ iv _ => xs.length - (intOf iv).toNat)
    case atStart => exact ⟨0, rfl, by simp [szTo], by omega, Ext.refl _, by simp [szTo]; omega⟩
    case round =>
      obtain ⟨k, rfl, rfl, hk, hg, hp⟩ := hrel
      by_cases hlt : k < xs.length
      · obtain ⟨b, off, a2, cap2, rfl, _, _, hc2, hi2⟩ := Rows2.at ((Rows2.ext h hg)) k hlt
        have hm := szTo_mono List.length xs (show k + 1 ≤ xs.length by omega)
        have hsz : L - xs.length - szTo List.length xs k ≤ 1048576 := by omega
        have HH := Lib.hid (And.intro hm hsz); clear hm hsz
        go_wp2_with fail
        refine Calls.mono (szInt64S_ok _ _ (L - xs.length - szTo List.length xs k) wr S hi2 ⟨hp, HH.out.2⟩) ?_
        rintro eA wA ⟨vA, rfl, hgA, ⟨hA, rfl⟩ | ⟨hA, rfl⟩⟩
        · have h0 : ¬ (L - xs.length - szTo List.length xs k - (List.length (gt xs k) : Nat) < 0) := by omega
          have h1 : 0 ≤ L - xs.length - szTo List.length xs k - (List.length (gt xs k) : Nat) := by omega
          clear hc2 hi2 hA
          go_wp2
          go_roundw
          case rel => exact ⟨k + 1, by go_num, by simp [szTo]; omega, by omega, grown_trans hg hgA, by simp [szTo]; omega⟩
          case measure => simp [intOf]; omega
        · clear hc2 hi2
          go_wp2
          go_ret
          exact ⟨_, rfl, grown_trans hg hgA, .inr ⟨by
            have h3 := HH.out.1
            simp only [szTo] at h3
            unfold size2; omega, rfl⟩⟩
      · have hke : k = xs.length := by omega
        subst hke
        go_wp2
        go_ret
        exact ⟨_, rfl, hg, .inl ⟨by unfold size2; omega, congrArg (Value.int .i64) (by unfold size2; omega)⟩⟩
  · have h0 : L - (xs.length : Int) < 0 := by omega
    go_enter Try.func14, Try.ntmps14
    go_wp2
    go_ret
    exact ⟨_, rfl, Ext.refl _, .inr ⟨by unfold size2; omega, rfl⟩⟩

set_option maxHeartbeats 1000000 in
theorem szInt64SSS_ok (v : Value) (xs : List (List (List Int))) (L : Int) (w : World) (S : Nat → Prop) (h : Rows3 S w v xs) (hL : 0 ≤ L ∧ L ≤ 1048576) :
    Calls Try.prog 15 #[v, .int .i64 L] w (Ret w fun _ r => SzR L (size3 xs) r) := by
  obtain ⟨a, cap, rfl, _, hlen⟩ := Sl.shape h
  have hwr : IntKind.i64.wrap (L - (xs.length : Int)) = L - xs.length := IntWalk.i64_in _ (by omega)
  by_cases hc : (xs.length : Int) ≤ L
  · have h0 : ¬ (L - (xs.length : Int) < 0) := by omega
    have h1 : 0 ≤ L - (xs.length : Int) := by omega
    go_enter Try.func15, Try.ntmps15
    go_wp2
    clear hwr h0 h1
    go_loopw [1, 5] (fun lv iv wr => ∃ k : Nat, iv = .int .i64 k ∧ lv = .int .i64 (L - xs.length - szTo size2 xs k) ∧ k ≤ xs.length ∧ Ext w wr ∧ 0 ≤ L - xs.length - szTo size2 xs k) (fun _ iv _ => xs.length - (intOf iv).toNat)
    case atStart => exact ⟨0, rfl, by simp [szTo], by omega, Ext.refl _, by simp [szTo]; omega⟩
    case round =>
      obtain ⟨k, rfl, rfl, hk, hg, hp⟩ := hrel
      by_cases hlt : k < xs.length
      · obtain ⟨b, off, a2, cap2, rfl, _, _, hc2, hi2⟩ := Rows3.at ((Rows3.ext h hg)) k hlt
        have hm := szTo_mono size2 xs (show k + 1 ≤ xs.length by omega)
        have hsz : L - xs.length - szTo size2 xs k ≤ 1048576 := by omega
        have HH := Lib.hid (And.intro hm hsz); clear hm hsz
        go_wp2_with fail
        refine Calls.mono (szInt64SS_ok _ _ (L - xs.length - szTo size2 xs k) wr S hi2 ⟨hp, HH.out.2⟩) ?_
        rintro eA wA ⟨vA, rfl, hgA, ⟨hA, rfl⟩ | ⟨hA, rfl⟩⟩
        · have h0 : ¬ (L - xs.length - szTo size2 xs k - (size2 (gt xs k) : Nat) < 0) := by omega
          have h1 : 0 ≤ L - xs.length - szTo size2 xs k - (size2 (gt xs k) : Nat) := by omega
          clear hc2 hi2 hA
          go_wp2
          go_roundw
          case rel => exact ⟨k + 1, by go_num, by simp [szTo]; omega, by omega, grown_trans hg hgA, by simp [szTo]; omega⟩
          case measure => simp [intOf]; omega
        · clear hc2 hi2
          go_wp2
          go_ret
          exact ⟨_, rfl, grown_trans hg hgA, .inr ⟨by
            have h3 := HH.out.1
            simp only [szTo] at h3
            unfold size3; omega, rfl⟩⟩
      · have hke : k = xs.length := by omega
        subst hke
        go_wp2
        go_ret
        exact ⟨_, rfl, hg, .inl ⟨by unfold size3; omega, congrArg (Value.int .i64) (by unfold size3; omega)⟩⟩
  · have h0 : L - (xs.length : Int) < 0 := by omega
    go_enter Try.func15, Try.ntmps15
    go_wp2
    go_ret
    exact ⟨_, rfl, Ext.refl _, .inr ⟨by unfold size3; omega, rfl⟩⟩

set_option maxHeartbeats 1000000 in
theorem szPresentation_ok (v : Value) (P : Pr) (L : Int) (w : World) (S : Nat → Prop) (h : PresV S w v P) (hL : 0 ≤ L ∧ L ≤ 1048576) :
    Calls Try.prog 4 #[v, .int .i64 L] w (Ret w fun _ r => SzR L (sizeP P) r) := by
  obtain ⟨vo, vp, vc, rfl, h3⟩ := h
  have hp0 := PresP.box h3 26
  have hg0 : Ext w (w.alloc (.cells #[vo, vp, vc] 26)) := World.grownBy_alloc _ _ _
  go_enter Try.func4, Try.ntmps4
  go_wp2_with fail
  refine Calls.mono (szInt64S_ok _ _ L _ _ (h3.o.ext hg0) hL) ?_
  rintro eA wA ⟨vA, rfl, hgA, ⟨hA, rfl⟩ | ⟨hA, rfl⟩⟩
  · obtain ⟨vo5, vp5, vc5, _, _, hb1, hb2A, hb3A, h3r⟩ := (hp0.ext hgA).at
    simp at hb2A hb3A
    have h0 : ¬ (L - (P.orders.length : Int) < 0) := by omega
    have h1 : 0 ≤ L - (P.orders.length : Int) := by omega
    clear hb1
    go_wp2_with fail
    refine Calls.mono (szInt64SS_ok _ _ (L - (P.orders.length : Int)) _ _ h3r.p (by omega)) ?_
    rintro eB wB ⟨vB, rfl, hgB, ⟨hB, rfl⟩ | ⟨hB, rfl⟩⟩
    · have hb3B := hgB.cell hb3A (by simp)
      have h2 : ¬ (L - (P.orders.length : Int) - (size2 P.powers : Nat) < 0) := by omega
      have h4 : 0 ≤ L - (P.orders.length : Int) - (size2 P.powers : Nat) := by omega
      clear hb2A hb3A h0 h1
      go_wp2_with fail
      refine Calls.mono (szInt64SSS_ok _ _ (L - (P.orders.length : Int) - (size2 P.powers : Nat)) _ _ (Rows3.ext h3r.c hgB) (by omega)) ?_
      rintro eC wC ⟨vC, rfl, hgC, ⟨hC, rfl⟩ | ⟨hC, rfl⟩⟩
      · have h5 : ¬ (L - (P.orders.length : Int) - (size2 P.powers : Nat) - (size3 P.conj : Nat) < 0) := by omega
        have h6 : 0 ≤ L - (P.orders.length : Int) - (size2 P.powers : Nat) - (size3 P.conj : Nat) := by omega
        clear hb3B h2 h4
        go_wp2
        go_ret
        exact ⟨_, rfl, grown_trans hg0 (grown_trans hgA (grown_trans hgB hgC)), .inl ⟨by unfold sizeP; omega, congrArg (Value.int .i64) (by unfold sizeP; omega)⟩⟩
      · go_wp2
        go_ret
        exact ⟨_, rfl, grown_trans hg0 (grown_trans hgA (grown_trans hgB hgC)), .inr ⟨by unfold sizeP; omega, rfl⟩⟩
    · go_wp2
      go_ret
      exact ⟨_, rfl, grown_trans hg0 (grown_trans hgA hgB), .inr ⟨by unfold sizeP; omega, rfl⟩⟩
  · go_wp2
    go_ret
    exact ⟨_, rfl, grown_trans hg0 hgA, .inr ⟨by unfold sizeP; omega, rfl⟩⟩

end Go.Proofs.Ytdfjgpioaomceaa
