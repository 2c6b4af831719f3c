/-
  The laws' marks: laws.markInt64S.., heldInt64S..: each place of a value is given a number of its own, and looked at again.
-/
import Derived.Test.YtdfjgpioaomceaaLEq
namespace Go.Proofs.Ytdfjgpioaomceaa
open Go.RowKit

/-- k, k + 1, .., n of them -/
def upFrom (k : Int) (n : Nat) : List Int := (List.range n).map (fun i : Nat => k + i)
theorem upFrom_len (k : Int) (n : Nat) : (upFrom k n).length = n := by simp [upFrom]
theorem gt_upFrom (k : Int) (n i : Nat) (h : i < n) : gt (upFrom k n) i = k + i := by simp [upFrom, gt, h]

/-- only blocks in F have turned -/
structure Touch (F : Nat → Prop) (w w' : World) : Prop where
  os : w'.os = w.os
  tape : w'.tape = w.tape
  output : w'.output = w.output
  size : w.heap.size ≤ w'.heap.size
  block : ∀ k, k < w.heap.size → ¬ F k → w'.heap[k]? = w.heap[k]?
theorem Touch.refl (F : Nat → Prop) (w : World) : Touch F w w := ⟨rfl, rfl, rfl, Nat.le_refl _, fun _ _ _ => rfl⟩
theorem Touch.of {F : Nat → Prop} {w w' : World} {r : Option Nat} (h : w.grownBy w' r) (hr : ∀ k, r = some k → F k) : Touch F w w' :=
  ⟨h.os, h.tape, h.output, h.size, fun k hk hF => h.block k hk (fun e => hF (hr k e.symm))⟩
theorem Touch.trans {F F1 F2 : Nat → Prop} {a b c : World} (h : Touch F1 a b) (k : Touch F2 b c) (h1 : ∀ i, F1 i → F i) (h2 : ∀ i, F2 i → F i) : Touch F a c :=
  ⟨k.os.trans h.os, k.tape.trans h.tape, k.output.trans h.output, Nat.le_trans h.size k.size,
   fun i hi hF => (k.block i (Nat.lt_of_lt_of_le hi h.size) (fun e => hF (h2 i e))).trans (h.block i hi (fun e => hF (h1 i e)))⟩
/-- blocks behind a world may turn -/
theorem Touch.ext {F : Nat → Prop} {w w1 w2 : World} (h : Ext w w1) (k : Touch F w1 w2) (hF : ∀ i, F i → w.heap.size ≤ i) : Ext w w2 :=
  ⟨k.os.trans h.os, k.tape.trans h.tape, k.output.trans h.output, Nat.le_trans h.size k.size,
   fun i hi _ => (k.block i (Nat.lt_of_lt_of_le hi h.size) (fun e => by have := hF i e; omega)).trans (h.block i hi (by simp))⟩
theorem Touch.frame {F S : Nat → Prop} {w w' : World} (h : Touch F w w') (hS : ∀ k, S k → ¬ F k) : ∀ k, S k → k < w.heap.size → S k ∧ k < w'.heap.size ∧ w'.heap[k]? = w.heap[k]? :=
  fun k hk hlt => ⟨hk, Nat.lt_of_lt_of_le hlt h.size, h.block k hlt (hS k hk)⟩
theorem Touch.cell {F : Nat → Prop} {w w' : World} (h : Touch F w w') {a : Addr} {v : Value} (hc : w.cell? a = some v) (hF : ¬ F a.block) : w'.cell? a = some v :=
  (World.cell?_of_block (h.block a.block (World.block_lt_of_cell? w a hc) hF)).trans hc

set_option maxHeartbeats 1000000 in
theorem markInt64S_ok (v : Value) (l : List Int) (q : Int) (w : World) (F : Nat → Prop) (h : OwnIn F w v l) (hq : 0 ≤ q ∧ q + l.length ≤ 1000000000) :
    Calls Try.prog 11 #[v, .int .i64 q] w fun e w' => e = .returned (.int .i64 (q + l.length)) ∧ Touch F w w' ∧ OwnIn F w' v (upFrom q l.length) := by
  obtain ⟨hO, hF, hl⟩ := h
  rcases (Own.v hO).form with ⟨rfl, hnil⟩ | ⟨g, cap, rfl, hcap, _, hgs⟩
  · have hl0 : l = [] := by cases l <;> simp_all
    subst hl0
    clear hnil hO
    go_enter Try.func11, Try.ntmps11
    go_wp2
    go_loopw [1, 5] (fun qv iv wr => qv = .int .i64 q ∧ iv = .int .i64 0 ∧ wr = w) (fun _ _ _ => 0)
    case atStart => exact ⟨rfl, rfl, rfl⟩
    case round =>
      obtain ⟨rfl, rfl, rfl⟩ := hrel
      go_wp2
      go_ret
      exact ⟨by simp, Touch.refl _ _, OwnIn.nil _ _⟩
  · rw [List.length_map] at hcap
    rw [List.length_map] at hO ⊢
    clear hcap
    go_enter Try.func11, Try.ntmps11
    go_wp2
    go_loopw [1, 5] (fun qv iv wr => ∃ k : Nat, iv = .int .i64 k ∧ qv = .int .i64 (q + k) ∧ k ≤ l.length ∧ w.grownBy wr (some g) ∧ ∃ l', l'.length = l.length ∧ Own 0 wr (.slice (some ⟨g, 0, none⟩) l.length cap) l' ∧ ∀ i, i < k → gt l' i = q + i) (fun _ iv _ => l.length - (intOf iv).toNat)
    case atStart => exact ⟨0, rfl, by simp, by omega, grown_refl _ _, l, rfl, hO, fun i hi => by omega⟩
    case round =>
      obtain ⟨k, rfl, rfl, hk, hg, l', hl', hO', hm⟩ := hrel
      have HM := Lib.hid (And.intro hl' hm); clear hm hl'
      by_cases hlt : k < l.length
      · have hc := hO'.cell k (by rw [HM.out.1]; exact hlt)
        have hf := hO'.frozen k
        obtain ⟨hs1, hs2⟩ := hO'.store k (q + k)
        have hgn := grown_trans hg hs2
        have hwr : IntKind.i64.wrap (q + (k : Int) + 1) = q + k + 1 := IntWalk.i64_in _ (by omega)
        clear hs2
        go_wp2
        go_roundw
        case rel => exact ⟨k + 1, by go_num, by simp; omega, by omega, hgn, l'.set k (q + k), by rw [List.length_set, HM.out.1], hs1, fun i hi => by
          by_cases e : k = i
          · subst e; exact gt_set_eq _ _ _ (by rw [HM.out.1]; exact hlt)
          · rw [gt_set_ne _ _ _ _ e]; exact HM.out.2 i (by omega)⟩
        case measure => simp [intOf]; omega
      · have hke : k = l.length := by omega
        subst hke
        go_wp2
        go_ret
        have e : l' = upFrom q l.length := ext_gt (by rw [HM.out.1, upFrom_len]) (fun i hi => by
          rw [HM.out.1] at hi
          rw [HM.out.2 i hi, gt_upFrom _ _ _ hi])
        exact ⟨rfl, Touch.of hg (fun j hj => by cases hj; exact hF g rfl), by rw [← e]; exact hO', hF, by rw [upFrom_len]; exact hl⟩

set_option maxHeartbeats 1000000 in
theorem heldInt64S_ok (v : Value) (n : Nat) (q : Int) (w : World) (S : Nat → Prop) (h : Ints S w v (upFrom q n)) (hq : 0 ≤ q ∧ q + n ≤ 1000000000) :
    Calls Try.prog 12 #[v, .int .i64 q] w (Ret w fun _ r => r = .int .i64 (q + n)) := by
  obtain ⟨a, cap, rfl, hcap, _⟩ := h.shape
  rw [upFrom_len] at h ⊢
  go_enter Try.func12, Try.ntmps12
  go_wp2
  go_loopw [1, 5] (fun qv iv wr => ∃ k : Nat, iv = .int .i64 k ∧ qv = .int .i64 (q + k) ∧ k ≤ n ∧ Ext w wr) (fun _ iv _ => n - (intOf iv).toNat)
  case atStart => exact ⟨0, rfl, by simp, by omega, Ext.refl _⟩
  case round =>
    obtain ⟨k, rfl, rfl, hk, hg⟩ := hrel
    by_cases hlt : k < n
    · obtain ⟨b, off, rfl, _, _, hc⟩ := Ints.at (h.ext hg) k (by rw [upFrom_len]; exact hlt)
      rw [gt_upFrom _ _ _ hlt] at hc
      have hwr : IntKind.i64.wrap (q + (k : Int) + 1) = q + k + 1 := IntWalk.i64_in _ (by omega)
      go_wp2
      go_roundw
      case rel => exact ⟨k + 1, by go_num, by simp; omega, by omega, hg⟩
      case measure => simp [intOf]; omega
    · have hke : k = n := by omega
      subst hke
      go_wp2
      go_ret
      exact ⟨_, rfl, hg, rfl⟩

/-- a slice whose elements lie in blocks that are named -/
def SlG {α : Type} [Inhabited α] (El : (Nat → Prop) → World → Value → α → Prop) (G : Nat → Nat → Prop) (H : Nat → Prop) (w : World) (v : Value) (xs : List α) : Prop :=
  ∃ a cap, v = .slice a xs.length cap ∧ (xs.length ≤ cap ∧ xs.length ≤ 9223372036854775807 ∧ (a = none → cap = 0)) ∧
      ∀ i, i < xs.length → ∃ b off u, a = some ⟨b, off, none⟩ ∧ H b ∧ b < w.heap.size ∧ w.cell? ⟨b, off + i, none⟩ = some u ∧ El (G i) w u (gt xs i)
def Apart (F : Nat → Prop) (G : Nat → Nat → Prop) (H : Nat → Prop) (n : Nat) : Prop :=
  (∀ k, H k → F k) ∧ (∀ i k, i < n → G i k → F k ∧ ¬ H k) ∧ (∀ i j k, i < n → j < n → G i k → G j k → i = j)
theorem SlD.g {α : Type} [Inhabited α] {El : (Nat → Prop) → World → Value → α → Prop} {F : Nat → Prop} {w : World} {v : Value} {xs : List α} (h : SlD El F w v xs) : ∃ G H, Apart F G H xs.length ∧ SlG El G H w v xs := by
  obtain ⟨G, H, h1, h2, h3, r⟩ := h
  exact ⟨G, H, ⟨h1, h2, h3⟩, r⟩
theorem SlG.d {α : Type} [Inhabited α] {El : (Nat → Prop) → World → Value → α → Prop} {F : Nat → Prop} {G : Nat → Nat → Prop} {H : Nat → Prop} {w : World} {v : Value} {xs : List α} (h : SlG El G H w v xs) (hA : Apart F G H xs.length) : SlD El F w v xs :=
  ⟨G, H, hA.1, hA.2.1, hA.2.2, h⟩

/-- one element is turned -/
theorem SlG.turn {α : Type} [Inhabited α] {El : (Nat → Prop) → World → Value → α → Prop} (hEl : RdOk El) {F : Nat → Prop} {G : Nat → Nat → Prop} {H : Nat → Prop} {w w' : World} {b off n cap j : Nat} {u : Value} {y : α} {xs : List α}
    (hA : Apart F G H n) (hn : xs.length = n) (h : SlG El G H w (.slice (some ⟨b, off, none⟩) n cap) xs) (hj : j < n) (hc : w.cell? ⟨b, off + j, none⟩ = some u) (ht : Touch (G j) w w') (hy : El (G j) w' u y) :
    SlG El G H w' (.slice (some ⟨b, off, none⟩) n cap) (xs.set j y) := by
  obtain ⟨a', cap', hv, hl, hcell⟩ := h
  cases hv
  refine ⟨_, cap, by rw [List.length_set], by rw [List.length_set]; exact hl, fun i hi => ?_⟩
  rw [List.length_set] at hi
  obtain ⟨b2, off2, u2, e1, e2, e3, e4, e5⟩ := hcell i hi
  cases e1
  have hnb : ¬ G j b := fun h => (hA.2.1 j b hj h).2 e2
  by_cases e : j = i
  · subst e
    rw [gt_set_eq _ _ _ hi]
    exact ⟨b, off, u, rfl, e2, Nat.lt_of_lt_of_le e3 ht.size, ht.cell hc hnb, hy⟩
  · rw [gt_set_ne _ _ _ _ e]
    exact ⟨b, off, u2, rfl, e2, Nat.lt_of_lt_of_le e3 ht.size, ht.cell e4 hnb, hEl.mono e5 (ht.frame (fun k hk hk' => e (hA.2.2 i j k (by omega) hj hk hk').symm))⟩

/-- the first j elements turned by up -/
def mixTo {α : Type} [Inhabited α] (up : Int → α → α) (sz : α → Nat) (q : Int) (xs : List α) : Nat → List α
  | 0 => xs
  | j + 1 => (mixTo up sz q xs j).set j (up (q + szTo sz xs j) (gt xs j))
theorem mixTo_len {α : Type} [Inhabited α] (up : Int → α → α) (sz : α → Nat) (q : Int) (xs : List α) (j : Nat) : (mixTo up sz q xs j).length = xs.length := by
  induction j with
  | zero => rfl
  | succ j ih => simp only [mixTo]; rw [List.length_set, ih]
theorem gt_mixTo {α : Type} [Inhabited α] (up : Int → α → α) (sz : α → Nat) (q : Int) (xs : List α) (j : Nat) : ∀ i, i < xs.length → gt (mixTo up sz q xs j) i = if i < j then up (q + szTo sz xs i) (gt xs i) else gt xs i := by
  induction j with
  | zero => intro i _; rw [if_neg (by omega)]; rfl
  | succ j ih =>
    intro i hi
    simp only [mixTo]
    by_cases e : j = i
    · subst e; rw [gt_set_eq _ _ _ (by rw [mixTo_len]; exact hi), if_pos (by omega)]
    · rw [gt_set_ne _ _ _ _ e, ih i hi]
      by_cases h : i < j
      · rw [if_pos h, if_pos (by omega)]
      · rw [if_neg h, if_neg (by omega)]
def up1 (q : Int) (l : List Int) : List Int := upFrom q l.length
def up2 (q : Int) (xs : List (List Int)) : List (List Int) := mixTo up1 List.length q xs xs.length
def tot2 (xs : List (List Int)) : Nat := szTo List.length xs xs.length
def tot3 (xs : List (List (List Int))) : Nat := szTo tot2 xs xs.length
def up3 (q : Int) (xs : List (List (List Int))) : List (List (List Int)) := mixTo up2 tot2 q xs xs.length

set_option maxHeartbeats 1000000 in
theorem markInt64SS_ok (v : Value) (xs : List (List Int)) (q : Int) (w : World) (F : Nat → Prop) (h : RowsW F w v xs) (hq0 : 0 ≤ q ∧ q + tot2 xs ≤ 1000000000) :
    Calls Try.prog 24 #[v, .int .i64 q] w fun e w' => e = .returned (.int .i64 (q + tot2 xs)) ∧ Touch F w w' ∧ RowsW F w' v (up2 q xs) := by
  have hq : 0 ≤ q ∧ q + szTo List.length xs xs.length ≤ 1000000000 := hq0
  clear hq0
  obtain ⟨G, H, hA, hG⟩ := SlD.g h
  obtain ⟨a, cap, rfl, hlen⟩ := (show ∃ a cap, v = .slice a xs.length cap ∧ xs.length ≤ 9223372036854775807 by obtain ⟨a, cap, hv, hl, _⟩ := hG; exact ⟨a, cap, hv, hl.2.1⟩)
  clear h
  go_enter Try.func24, Try.ntmps24
  go_wp2
  go_loopw [1, 5] (fun qv iv wr => ∃ k : Nat, iv = .int .i64 k ∧ qv = .int .i64 (q + szTo List.length xs k) ∧ k ≤ xs.length ∧ Touch F w wr ∧ SlG OwnIn G H wr (.slice a xs.length cap) (mixTo up1 List.length q xs k)) (fun _ iv _ => xs.length - (intOf iv).toNat)
  case atStart => exact ⟨0, rfl, by simp [szTo], by omega, Touch.refl _ _, hG⟩
  case round =>
    clear hG
    obtain ⟨k, rfl, rfl, hk, ht, hM⟩ := hrel
    have hM2 := hM
    obtain ⟨a', cap', hv, _, hcell⟩ := hM2
    rw [mixTo_len] at hv hcell
    cases hv
    by_cases hlt : k < xs.length
    · obtain ⟨b, off, u, rfl, hHb, hbs, hc, hE⟩ := hcell k hlt
      rw [gt_mixTo _ _ _ _ _ _ hlt, if_neg (by omega)] at hE
      have hm := szTo_mono List.length xs (show k + 1 ≤ xs.length by omega)
      have hst : szTo List.length xs (k + 1) = szTo List.length xs k + List.length (gt xs k) := rfl
      have hqk : 0 ≤ q + (szTo List.length xs k : Nat) ∧ q + (szTo List.length xs k : Nat) + (List.length (gt xs k) : Nat) ≤ 1000000000 := by omega
      have HQ := Lib.hid (And.intro hqk (And.intro hm hst)); clear hqk hm hst hcell
      obtain ⟨au, nu, cu, rfl⟩ : ∃ au nu cu, u = .slice au nu cu := by obtain ⟨au, cu, hu, _⟩ := hE.ints.shape; exact ⟨_, _, _, hu⟩
      go_wp2_with fail
      refine Calls.mono (markInt64S_ok _ _ (q + (szTo List.length xs k : Nat)) wr (G k) hE HQ.out.1) ?_
      rintro eA wA ⟨rfl, htA, hEA⟩
      have hM3 := SlG.turn rdOwn hA (mixTo_len _ _ _ _ _) hM hlt hc htA hEA
      have ht3 : Touch F w wA := ht.trans htA (fun _ h => h) (fun i hi => (hA.2.1 k i hlt hi).1)
      clear hc hE hEA hM
      go_wp2
      go_roundw
      case rel => exact ⟨k + 1, by go_num, by simp [szTo]; omega, by omega, ht3, hM3⟩
      case measure => simp [intOf]; omega
    · have hke : k = xs.length := by omega
      subst hke
      clear hcell
      go_wp2
      go_ret
      exact ⟨rfl, ht, SlG.d hM (by have := mixTo_len up1 List.length q xs xs.length; unfold up2; rw [this]; exact hA)⟩

set_option maxHeartbeats 1000000 in
theorem markInt64SSS_ok (v : Value) (xs : List (List (List Int))) (q : Int) (w : World) (F : Nat → Prop) (h : Rows3W F w v xs) (hq0 : 0 ≤ q ∧ q + tot3 xs ≤ 1000000000) :
    Calls Try.prog 25 #[v, .int .i64 q] w fun e w' => e = .returned (.int .i64 (q + tot3 xs)) ∧ Touch F w w' ∧ Rows3W F w' v (up3 q xs) := by
  have hq : 0 ≤ q ∧ q + szTo tot2 xs xs.length ≤ 1000000000 := hq0
  clear hq0
  obtain ⟨G, H, hA, hG⟩ := SlD.g h
  obtain ⟨a, cap, rfl, hlen⟩ := (show ∃ a cap, v = .slice a xs.length cap ∧ xs.length ≤ 9223372036854775807 by obtain ⟨a, cap, hv, hl, _⟩ := hG; exact ⟨a, cap, hv, hl.2.1⟩)
  clear h
  go_enter Try.func25, Try.ntmps25
  go_wp2
  go_loopw [1, 5] (fun qv iv wr => ∃ k : Nat, iv = .int .i64 k ∧ qv = .int .i64 (q + szTo tot2 xs k) ∧ k ≤ xs.length ∧ Touch F w wr ∧ SlG (fun F w u (x : List (List Int)) => RowsW F w u x) G H wr (.slice a xs.length cap) (mixTo up2 tot2 q xs k)) (fun _ iv _ => xs.length - (intOf iv).toNat)
  case atStart => exact ⟨0, rfl, by simp [szTo], by omega, Touch.refl _ _, hG⟩
  case round =>
    clear hG
    obtain ⟨k, rfl, rfl, hk, ht, hM⟩ := hrel
    have hM2 := hM
    obtain ⟨a', cap', hv, _, hcell⟩ := hM2
    rw [mixTo_len] at hv hcell
    cases hv
    by_cases hlt : k < xs.length
    · obtain ⟨b, off, u, rfl, hHb, hbs, hc, hE⟩ := hcell k hlt
      rw [gt_mixTo _ _ _ _ _ _ hlt, if_neg (by omega)] at hE
      have hm := szTo_mono tot2 xs (show k + 1 ≤ xs.length by omega)
      have hst : szTo tot2 xs (k + 1) = szTo tot2 xs k + tot2 (gt xs k) := rfl
      have hqk : 0 ≤ q + (szTo tot2 xs k : Nat) ∧ q + (szTo tot2 xs k : Nat) + (tot2 (gt xs k) : Nat) ≤ 1000000000 := by omega
      have HQ := Lib.hid (And.intro hqk (And.intro hm hst)); clear hqk hm hst hcell
      obtain ⟨au, nu, cu, rfl⟩ : ∃ au nu cu, u = .slice au nu cu := by obtain ⟨au, cu, hu, _⟩ := SlD.shape hE; exact ⟨_, _, _, hu⟩
      go_wp2_with fail
      refine Calls.mono (markInt64SS_ok _ _ (q + (szTo tot2 xs k : Nat)) wr (G k) hE HQ.out.1) ?_
      rintro eA wA ⟨rfl, htA, hEA⟩
      have hM3 := SlG.turn rdRowsW hA (mixTo_len _ _ _ _ _) hM hlt hc htA hEA
      have ht3 : Touch F w wA := ht.trans htA (fun _ h => h) (fun i hi => (hA.2.1 k i hlt hi).1)
      clear hc hE hEA hM
      go_wp2
      go_roundw
      case rel => exact ⟨k + 1, by go_num, by simp [szTo]; omega, by omega, ht3, hM3⟩
      case measure => simp [intOf]; omega
    · have hke : k = xs.length := by omega
      subst hke
      clear hcell
      go_wp2
      go_ret
      exact ⟨rfl, ht, SlG.d hM (by have := mixTo_len up2 tot2 q xs xs.length; unfold up3; rw [this]; exact hA)⟩

theorem szTo_le (xs : List (List Int)) : tot2 xs ≤ size2 xs := by unfold tot2 size2; omega
theorem szTo_le_of {α : Type} [Inhabited α] (f g : α → Nat) (h : ∀ x, f x ≤ g x) (xs : List α) (k : Nat) : szTo f xs k ≤ szTo g xs k := by
  induction k with
  | zero => exact Nat.le_refl _
  | succ k ih => simp only [szTo]; have := h (gt xs k); omega
theorem tot3_le (xs : List (List (List Int))) : tot3 xs ≤ size3 xs := by
  unfold tot3 size3
  have := szTo_le_of tot2 size2 szTo_le xs xs.length
  omega

set_option maxHeartbeats 2000000 in
theorem markPresentation_ok (v : Value) (P : Pr) (w : World) (F : Nat → Prop) (h : PresW F w v P) (hl : sizeP P ≤ 1048576) :
    Calls Try.prog 10 #[v, .int .i64 1] w fun e w' => ∃ q : Int, 0 ≤ q ∧ e = .returned (.int .i64 q) ∧ Touch (fun k => F k ∨ w.heap.size ≤ k) w w' := by
  obtain ⟨vo, vp, vc, Fo, Fp, Fc, rfl, h1, h2, h3, h4, h5, h6⟩ := h
  have ho : P.orders.length ≤ 1048576 := by unfold sizeP at hl; omega
  have hp : tot2 P.powers ≤ 1048576 := by have := szTo_le P.powers; unfold sizeP at hl; omega
  have hc : tot3 P.conj ≤ 1048576 := by have := tot3_le P.conj; unfold sizeP at hl; omega
  have HS := Lib.hid (And.intro ho (And.intro hp hc)); clear ho hp hc hl
  have hg0 : Ext w (w.alloc (.cells #[vo, vp, vc] 30)) := World.grownBy_alloc _ _ _
  have b1 := Box3.made w 30 vo vp vc
  have hfr : ∀ (G : Nat → Prop) k, G k → k < w.heap.size → (G k ∧ k < w.heap.size) ∧ k < (w.alloc (.cells #[vo, vp, vc] 30)).heap.size ∧ (w.alloc (.cells #[vo, vp, vc] 30)).heap[k]? = w.heap[k]? := fun G k hk hlt => ⟨⟨hk, hlt⟩, Nat.lt_of_lt_of_le hlt hg0.size, hg0.block k hlt (by simp)⟩
  have g1 := rdOwn.mono h1 (hfr Fo)
  have g2 := rdRowsW.mono h2 (hfr Fp)
  have g3 := SlD.mono rdRowsW h3 (hfr Fc)
  have HF := Lib.hid (And.intro g1 (And.intro g2 (And.intro g3 (And.intro h4 (And.intro h5 h6))))); clear g1 g2 g3 h1 h2 h3 h4 h5 h6 hfr
  have HB := Lib.hid b1; clear b1
  have hsz : (w.alloc (.cells #[vo, vp, vc] 30)).heap.size = w.heap.size + 1 := by simp
  have HZ := Lib.hid hsz; clear hsz
  have hvo : ∃ a n c, vo = .slice a n c := by obtain ⟨a, c, hv, _⟩ := HF.out.1.ints.shape; exact ⟨_, _, _, hv⟩
  have hvp : ∃ a n c, vp = .slice a n c := by obtain ⟨a, c, hv, _⟩ := SlD.shape HF.out.2.1; exact ⟨_, _, _, hv⟩
  have hvc : ∃ a n c, vc = .slice a n c := by obtain ⟨a, c, hv, _⟩ := SlD.shape HF.out.2.2.1; exact ⟨_, _, _, hv⟩
  obtain ⟨oa, on, oc, rfl⟩ := hvo
  obtain ⟨pa, pn, pc, rfl⟩ := hvp
  obtain ⟨ca, cn, cc, rfl⟩ := hvc
  go_enter Try.func10, Try.ntmps10
  go_wp2_with fail
  generalize w.alloc (.cells #[.slice oa on oc, .slice pa pn pc, .slice ca cn cc] 30) = w0 at *
  have hbox : ∀ (G : Nat → Prop) (u1 u2 : World), Touch (fun k => G k ∧ k < w.heap.size) u1 u2 → Box3 u1 w.heap.size (.slice oa on oc) (.slice pa pn pc) (.slice ca cn cc) → Box3 u2 w.heap.size (.slice oa on oc) (.slice pa pn pc) (.slice ca cn cc) := fun G u1 u2 ht hb => by
    obtain ⟨c0, c1, c2, c3, c4⟩ := hb
    have e := ht.block w.heap.size c0 (fun h => by have := h.2; omega)
    exact ⟨Nat.lt_of_lt_of_le c0 ht.size, (World.cell?_of_block (w := u1) e).trans c1, (World.cell?_of_block (w := u1) e).trans c2, (World.cell?_of_block (w := u1) e).trans c3, fun k => (World.frozen?_of_block (w := u1) e).trans (c4 k)⟩
  have HX := Lib.hid hbox; clear hbox
  refine Calls.mono (markInt64S_ok _ _ 1 _ _ HF.out.1 ⟨by omega, by have := HS.out.1; omega⟩) ?_
  rintro eA wA ⟨rfl, hTA, _⟩
  have BA := HX.out _ _ _ hTA HB.out
  obtain ⟨_, a0, a1, a2, _⟩ := id BA
  have hpA := rdRowsW.mono HF.out.2.1 (hTA.frame (S := fun k => Fp k ∧ k < w.heap.size) (fun k hk hk' => (HF.out.2.2.2.1 k hk'.1).2.1 hk.1))
  have hcA := SlD.mono rdRowsW HF.out.2.2.1 (hTA.frame (S := fun k => Fc k ∧ k < w.heap.size) (fun k hk hk' => (HF.out.2.2.2.1 k hk'.1).2.2 hk.1))
  go_wp2_with fail
  clear a0 a1 a2
  refine Calls.mono (markInt64SS_ok _ _ (1 + (P.orders.length : Int)) _ _ hpA ⟨by omega, by have := HS.out; omega⟩) ?_
  rintro eB wB ⟨rfl, hTB, _⟩
  have BB := HX.out _ _ _ hTB BA
  obtain ⟨_, a0, a1, a2, _⟩ := id BB
  have hcB := SlD.mono rdRowsW hcA (hTB.frame (S := fun k => Fc k ∧ k < w.heap.size) (fun k hk hk' => (HF.out.2.2.2.2.1 k hk'.1).2 hk.1))
  go_wp2_with fail
  clear a0 a1 a2
  refine Calls.mono (markInt64SSS_ok _ _ (1 + (P.orders.length : Int) + (tot2 P.powers : Nat)) _ _ hcB ⟨by omega, by have := HS.out; omega⟩) ?_
  rintro eC wC ⟨rfl, hTC, _⟩
  go_wp2
  go_ret
  have t0 : Touch (fun k => F k ∨ w.heap.size ≤ k) w w0 := Touch.of hg0 (fun k hk => by cases hk)
  have t1 : Touch (fun k => F k ∨ w.heap.size ≤ k) w wA := t0.trans hTA (fun _ h => h) (fun k hk => .inl (HF.out.2.2.2.1 k hk.1).1)
  have t2 : Touch (fun k => F k ∨ w.heap.size ≤ k) w wB := t1.trans hTB (fun _ h => h) (fun k hk => .inl (HF.out.2.2.2.2.1 k hk.1).1)
  have t3 : Touch (fun k => F k ∨ w.heap.size ≤ k) w wC := t2.trans hTC (fun _ h => h) (fun k hk => .inl (HF.out.2.2.2.2.2 k hk.1))
  exact ⟨_, by omega, rfl, t3⟩

end Go.Proofs.Ytdfjgpioaomceaa
