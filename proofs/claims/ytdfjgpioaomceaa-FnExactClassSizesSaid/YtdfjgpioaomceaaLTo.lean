/-
  The laws' copies of an argument: laws.toInt64S, toInt64SS, toInt64SSS, toPresentation: each part in blocks of its own.
-/
import Derived.Test.YtdfjgpioaomceaaLSz
import Derived.Test.YtdfjgpioaomceaaAllEl
namespace Go.Proofs.Ytdfjgpioaomceaa
open Go.RowKit

/-- a list of integers in a block that may be written -/
def OwnIn (F : Nat → Prop) (w : World) (v : Value) (l : List Int) : Prop := Own 0 w v l ∧ (∀ k, v.ownBlock = some k → F k) ∧ l.length ≤ 9223372036854775807

theorem ownsRow_move {base base' E : Nat} {w w' : World} {v : Value} {n : Nat} {xs : List Value} (h : w.ownsRow base E 1 v n xs) (hb : ∀ k, v.ownBlock = some k → w'.heap[k]? = w.heap[k]? ∧ base' ≤ k) : w'.ownsRow base' E 1 v n xs := by
  obtain ⟨h1, h2⟩ := h
  refine ⟨h1, ?_⟩
  rcases h2 with h | ⟨g, cap, cur, rfl, hg, hc, r⟩
  · exact .inl h
  · exact .inr ⟨g, cap, cur, rfl, (hb g rfl).2, by rw [(hb g rfl).1]; exact hc, r⟩

theorem rdOwn : RdOk OwnIn := by
  refine ⟨fun {F F' w w' u x} h hb => ?_, fun {F w u x} h => ?_⟩
  · obtain ⟨h1, h2, h3⟩ := h
    have hlt := h1.lt
    exact ⟨ownsRow_move h1 (fun k hk => ⟨(hb k (h2 k hk) (hlt k hk).2).2.2, Nat.zero_le _⟩), fun k hk => (hb k (h2 k hk) (hlt k hk).2).1, h3⟩
  · obtain ⟨⟨_, h | ⟨g, cap, cur, hv, _⟩⟩, _⟩ := h
    · rw [h.1]; rfl
    · rw [hv]; rfl

theorem OwnIn.ints {F : Nat → Prop} {w : World} {v : Value} {l : List Int} (h : OwnIn F w v l) : Ints F w v l := ints_of_own h.1 h.2.2 h.2.1
theorem OwnIn.of {base : Nat} {F : Nat → Prop} {w : World} {v : Value} {l : List Int} (h : Own base w v l) (hl : l.length ≤ 9223372036854775807) (hF : ∀ k, base ≤ k → k < w.heap.size → F k) : OwnIn F w v l :=
  ⟨h.weak (Nat.zero_le _), fun k hk => hF k (h.lt k hk).1 (h.lt k hk).2, hl⟩
theorem OwnIn.nil (F : Nat → Prop) (w : World) : OwnIn F w (.slice none 0 0) [] := ⟨World.ownsRow_nil _ _ _ _, by simp [Value.ownBlock], by simp⟩

theorem SlD.nil {α : Type} [Inhabited α] (El : (Nat → Prop) → World → Value → α → Prop) (F : Nat → Prop) (w : World) : SlD El F w (.slice none 0 0) ([] : List α) :=
  ⟨fun _ _ => False, fun _ => False, by simp, by simp, by simp, none, 0, rfl, ⟨by simp, by simp, fun _ => rfl⟩, by simp⟩

theorem SlD.map {α : Type} [Inhabited α] {El El' : (Nat → Prop) → World → Value → α → Prop} (h0 : ∀ F w u x, El F w u x → El' F w u x) {F : Nat → Prop} {w : World} {v : Value} {xs : List α} (h : SlD El F w v xs) : SlD El' F w v xs := by
  obtain ⟨G, H, h1, h2, h3, a, cap, hv, hl, hc⟩ := h
  exact ⟨G, H, h1, h2, h3, a, cap, hv, hl, fun i hi => by
    obtain ⟨b, off, u, e1, e2, e3, e4, e5⟩ := hc i hi
    exact ⟨b, off, u, e1, e2, e3, e4, h0 _ _ _ _ e5⟩⟩
theorem SlO.map {α : Type} [Inhabited α] {El El' : (Nat → Prop) → World → Value → α → Prop} (h0 : ∀ F w u x, El F w u x → El' F w u x) {E B : Nat} {w : World} {v : Value} {xs : List α} (h : SlO El E B w v xs) : SlO El' E B w v xs := by
  obtain ⟨vs, G, a, b, c, d, e⟩ := h
  exact ⟨vs, G, a, b, c, d, fun i hi => h0 _ _ _ _ (e i hi)⟩

abbrev RowsW (F : Nat → Prop) (w : World) (v : Value) (xs : List (List Int)) : Prop := SlD OwnIn F w v xs
theorem rdRowsW : RdOk (fun F w u (x : List (List Int)) => RowsW F w u x) :=
  ⟨fun h hb => SlD.mono rdOwn h hb, fun h => by obtain ⟨_, _, _, _, _, a, cap, rfl, _⟩ := h; rfl⟩
abbrev Rows3W (F : Nat → Prop) (w : World) (v : Value) (xs : List (List (List Int))) : Prop := SlD (fun F w u (x : List (List Int)) => RowsW F w u x) F w v xs
abbrev RowsM (B : Nat) (w : World) (v : Value) (xs : List (List Int)) : Prop := SlO OwnIn 22 B w v xs
abbrev Rows3M (B : Nat) (w : World) (v : Value) (xs : List (List (List Int))) : Prop := SlO (fun F w u (x : List (List Int)) => RowsW F w u x) 23 B w v xs
theorem RowsW.d {F : Nat → Prop} {w : World} {v : Value} {xs : List (List Int)} (h : RowsW F w v xs) : RowsD F w v xs := SlD.map (fun _ _ _ _ h => h.ints) h
theorem Rows3W.d {F : Nat → Prop} {w : World} {v : Value} {xs : List (List (List Int))} (h : Rows3W F w v xs) : Rows3D F w v xs := SlD.map (fun _ _ _ _ h => RowsW.d h) h

/-- one element is put in its place -/
theorem SlO.store {α : Type} [Inhabited α] {El : (Nat → Prop) → World → Value → α → Prop} (hEl : RdOk El) {E B g n cap : Nat} {w1 w2 : World} {xs : List α} {u : Value} {y : α} (h : SlO El E B w1 (.slice (some ⟨g, 0, none⟩) n cap) xs)
    (hg : Ext w1 w2) (hu : El (From w1.heap.size) w2 u y) (j : Nat) :
    SlO El E B (w2.setCell ⟨g, j, none⟩ u) (.slice (some ⟨g, 0, none⟩) n cap) (xs.set j y) ∧ w2.grownBy (w2.setCell ⟨g, j, none⟩ u) (some g) := by
  obtain ⟨vs, G, hvl, hO, hG, hd, hE⟩ := h
  have hgl := hO.lt g rfl
  have hO2 : OwnV B E w2 (.slice (some ⟨g, 0, none⟩) n cap) vs := hO.kept hg (by simp [Value.ownBlock])
  have hn : n = vs.length := by
    obtain ⟨_, ⟨h, _⟩ | ⟨_, _, _, h, _⟩⟩ := hO2 <;> cases h; rfl
  subst hn
  obtain ⟨h1, h2⟩ := World.ownsRow.stored hO2 j u
  have hsz : (w2.setCell ⟨g, j, none⟩ u).heap.size = w2.heap.size := by simp [World.setCell]
  have hblk : ∀ k, k ≠ g → (w2.setCell ⟨g, j, none⟩ u).heap[k]? = w2.heap[k]? := fun k hk => Below.heap_setCell _ _ _ _ (by simpa using hk)
  have hB1 : B ≤ w1.heap.size := by omega
  refine ⟨⟨vs.set j u, fun i k => if i = j then w1.heap.size ≤ k ∧ k < w2.heap.size else G i k ∧ k < w1.heap.size, by simp [hvl], ?_, ?_, ?_, ?_⟩, h2⟩
  · unfold OwnV; rw [List.length_set]; exact h1
  · intro i k hi hk
    rw [List.length_set] at hi
    simp only [Value.ownBlock]
    split at hk
    · exact ⟨by omega, by intro e; cases e; omega, by omega⟩
    · obtain ⟨a1, a2, a3⟩ := hG i k hi hk.1
      exact ⟨a1, a2, by have := hg.size; omega⟩
  · intro i i' k hi hi' hk hk'
    rw [List.length_set] at hi hi'
    split at hk <;> split at hk'
    · omega
    · omega
    · omega
    · exact hd i i' k hi hi' hk.1 hk'.1
  · intro i hi
    rw [List.length_set] at hi
    by_cases e : j = i
    · subst e
      rw [gt_set_eq _ _ _ (by omega), gt_set_eq _ _ _ hi]
      simp only [if_true]
      exact hEl.mono hu (fun k hk hlt => ⟨⟨hk, hlt⟩, by omega, hblk k (by have hk : w1.heap.size ≤ k := hk; omega)⟩)
    · rw [gt_set_ne _ _ _ _ e, gt_set_ne _ _ _ _ e]
      simp only [if_neg (fun h : i = j => e h.symm)]
      refine hEl.mono (hE i hi) (fun k hk hlt => ⟨⟨hk, hlt⟩, by have := hg.size; omega, ?_⟩)
      rw [hblk k (fun e => (hG i k hi hk).2.1 (by rw [e]; rfl))]
      exact hg.block k hlt (by simp)

/-- make([]T, n) for elements that are slices -/
theorem wp_make_sl {α : Type} {El : (Nat → Prop) → World → Value → List α → Prop} (T E : Nat) (hT : Try.prog.underlying T = some (.slice E)) (hEi : (Try.prog.info? E).map (fun i => (i.zero, i.size, i.bytes)) = some (some (.slice none 0 0), 1, 24))
    (h0 : ∀ w, El (fun _ => False) w (.slice none 0 0) [])
    {ops : Array Oper} {rest : List Oper} {o : Oper} {a : Act} {Q : Exit → Act → World → Prop} {w : World} (hgd : o.guard = none) (l c : Operand)
    (ho : o.op = Op.makeSlice T l c) (base n H : Nat) (hH : w.heap.size = H) (L : Int) (hl : a.eval l = .int .i64 L) (hc : a.eval c = .int .i64 L) (hL : L = n) (hn : n ≤ 2147483648) (hbase : base ≤ H)
    (h : ∀ w', SlO El E base w' (.slice (some ⟨H, 0, none⟩) n n) (List.replicate n ([] : List α)) → Ext w w' → H < w'.heap.size → wpList Try.prog ops Q rest (a.put o.dst (.slice (some ⟨H, 0, none⟩) n n)) w') :
    wpList Try.prog ops Q (o :: rest) a w := by
  subst hH
  obtain ⟨i0, hi, hz0, hz1, hz2⟩ := info_parts hEi
  refine wpList_make_full w hgd l c T ho base E i0 (.slice none 0 0) 1 hT hi hz0 hz1 .i64 .i64 L L n hl hc hL hL (by rw [hz2]; omega) (by unfold maxLen; omega) hbase ?_
  intro w' h1 h2
  refine h w' ?_ h2 (h1.lt w.heap.size rfl).2
  have e : (madeCells (Value.cells (.slice none 0 0)) (n * 1)).toList = List.replicate n (Value.slice none 0 0) := by
    rw [show Value.cells (.slice none 0 0) = #[.slice none 0 0] from rfl, toList_madeCells_one]; simp
  rw [e] at h1
  refine ⟨List.replicate n (.slice none 0 0), fun _ _ => False, by simp, ?_, by simp, by simp, fun i hi => ?_⟩
  · unfold OwnV; rw [List.length_replicate]; exact h1
  · rw [List.length_replicate] at hi
    have e1 : gt (List.replicate n (Value.slice none 0 0)) i = .slice none 0 0 := by simp [gt, hi]
    have e2 : gt (List.replicate n ([] : List α)) i = [] := by simp [gt, hi]
    rw [e1, e2]; exact h0 w'

/-- the first k elements of l, behind them z -/
def cpTo {α : Type} (l : List α) (z : α) (k : Nat) : List α := l.take k ++ List.replicate (l.length - k) z
theorem cpTo_len {α : Type} (l : List α) (z : α) (k : Nat) (hk : k ≤ l.length) : (cpTo l z k).length = l.length := by unfold cpTo; simp; omega
theorem cpTo_zero {α : Type} (l : List α) (z : α) : cpTo l z 0 = List.replicate l.length z := by simp [cpTo]
theorem cpTo_all {α : Type} (l : List α) (z : α) : cpTo l z l.length = l := by simp [cpTo]
theorem cpTo_step {α : Type} [Inhabited α] (l : List α) (z : α) (k : Nat) (hk : k < l.length) : (cpTo l z k).set k (gt l k) = cpTo l z (k + 1) := by
  unfold cpTo
  rw [List.set_append, if_neg (by simp; omega), show k - (l.take k).length = 0 by simp; omega, show l.length - k = (l.length - (k + 1)) + 1 by omega, List.replicate_succ, List.set_cons_zero, take_succ_gt l k hk, List.append_assoc]
  rfl

set_option maxHeartbeats 400000 in
theorem toInt64S_ok (v : Value) (l : List Int) (w : World) (S : Nat → Prop) (h : Ints S w v l) (hl : l.length ≤ 1048576) :
    Calls Try.prog 18 #[v] w (Ret w fun w' r => Own w.heap.size w' r l) := by
  obtain ⟨a, cap, rfl, _, hlen⟩ := h.shape
  go_enter Try.func18, Try.ntmps18
  go_wp2_with (at_make; refine wp_make_ints rfl _ _ rfl w.heap.size l.length w.heap.size rfl _ rfl rfl rfl (by omega) (Nat.le_refl _) ?_; intro w1 ho1 hg1 hlt1)
  rw [← cpTo_zero] at ho1
  go_loopw [4] (fun iv wr => ∃ k : Nat, iv = .int .i64 k ∧ k ≤ l.length ∧ Ext w wr ∧ Own w.heap.size wr (.slice (some ⟨w.heap.size, 0, none⟩) l.length l.length) (cpTo l 0 k)) (fun iv _ => l.length - (intOf iv).toNat)
  case atStart => exact ⟨0, rfl, by omega, hg1, ho1⟩
  case round =>
    obtain ⟨k, rfl, hk, hg, hO⟩ := hrel
    by_cases hlt : k < l.length
    · obtain ⟨b, off, rfl, _, hbl, hc⟩ := Ints.at (h.ext hg) k hlt
      have hcw := hO.cell k (by rw [cpTo_len _ _ _ hk]; exact hlt)
      have hfr := hO.frozen k
      obtain ⟨hs1, hs2⟩ := hO.store k (gt l k)
      have hgn : Ext w (wr.setCell ⟨w.heap.size, k, none⟩ (.int .i64 (gt l k))) := grown_own hg hs2 (fun j hj hlt => by cases hj; omega)
      rw [cpTo_step l 0 k hlt] at hs1
      clear hs2
      go_wp2
      go_roundw
      case rel => exact ⟨k + 1, by go_num, by omega, hgn, hs1⟩
      case measure => simp [intOf]; omega
    · have hke : k = l.length := by omega
      subst hke
      rw [cpTo_all] at hO
      go_wp2
      go_ret
      exact ⟨_, rfl, hg, hO⟩

-- rows

/-- a place of an own row may be written -/
theorem SlO.place {α : Type} [Inhabited α] {El : (Nat → Prop) → World → Value → α → Prop} {E B g n cap : Nat} {w : World} {xs : List α} (h : SlO El E B w (.slice (some ⟨g, 0, none⟩) n cap) xs) (k : Nat) (hk : k < xs.length) :
    (∃ z, w.cell? ⟨g, k, none⟩ = some z) ∧ w.frozen? ⟨g, k, none⟩ = false := by
  obtain ⟨vs, G, hvl, hO, _⟩ := h
  refine ⟨⟨_, hO.cell k (by omega)⟩, ?_⟩
  have hn : n = vs.length := by
    obtain ⟨_, ⟨h, _⟩ | ⟨_, _, _, h, _⟩⟩ := hO <;> cases h; rfl
  subst hn
  exact World.ownsRow.frozenAt hO k
theorem Try.infoRows : (Try.prog.info? 23).map (fun i => (i.zero, i.size, i.bytes)) = some (some (.slice none 0 0), 1, 24) := by kernel_rfl
theorem und_rows3 : Try.prog.underlying 24 = some (.slice 23) := by kernel_rfl

set_option maxHeartbeats 1000000 in
theorem toInt64SS_ok (v : Value) (xs : List (List Int)) (w : World) (S : Nat → Prop) (h : Rows2 S w v xs) (hl : size2 xs ≤ 1048576) :
    Calls Try.prog 19 #[v] w (Ret w fun w' r => SlO OwnIn 22 w.heap.size w' r xs) := by
  obtain ⟨a, cap, rfl, _, hlen⟩ := Sl.shape h
  have hlx : xs.length ≤ 1048576 := by unfold size2 at hl; omega
  have hsub : ∀ k, k < xs.length → List.length (gt xs k) ≤ 1048576 := fun k hk => by
    have := szTo_mono List.length xs (show k + 1 ≤ xs.length by omega)
    simp only [szTo] at this
    unfold size2 at hl; omega
  have HS := Lib.hid hsub; clear hsub hl
  go_enter Try.func19, Try.ntmps19
  go_wp2_with (at_make; refine wp_make_sl (El := OwnIn) 23 22 und_rows Try.infoRow (fun w => OwnIn.nil _ w) rfl _ _ rfl w.heap.size xs.length w.heap.size rfl _ rfl rfl rfl (by omega) (Nat.le_refl _) ?_; intro w1 ho1 hg1 hlt1)
  rw [← cpTo_zero] at ho1
  go_loopw [4] (fun iv wr => ∃ k : Nat, iv = .int .i64 k ∧ k ≤ xs.length ∧ Ext w wr ∧ SlO OwnIn 22 w.heap.size wr (.slice (some ⟨w.heap.size, 0, none⟩) xs.length xs.length) (cpTo xs [] k)) (fun iv _ => xs.length - (intOf iv).toNat)
  case atStart => exact ⟨0, rfl, by omega, hg1, ho1⟩
  case round =>
    obtain ⟨k, rfl, hk, hg, hO⟩ := hrel
    by_cases hlt : k < xs.length
    · obtain ⟨b, off, a2, cap2, rfl, _, _, hc2, hi2⟩ := Rows2.at (Rows2.ext h hg) k hlt
      go_wp2_with fail
      refine Calls.mono (toInt64S_ok _ _ wr S hi2 (HS.out k hlt)) ?_
      rintro eA wA ⟨vA, rfl, hgA, hA⟩
      have hEl := OwnIn.of (F := From wr.heap.size) hA (by have := HS.out k hlt; omega) (fun j hj _ => hj)
      obtain ⟨aA, capA, rfl, _, _⟩ := hEl.ints.shape
      obtain ⟨⟨z, hcw⟩, hfr⟩ := (hO.ext rdOwn hgA).place k (by rw [cpTo_len _ _ _ hk]; exact hlt)
      obtain ⟨hs1, hs2⟩ := hO.store rdOwn hgA hEl k
      have hgn : Ext w (wA.setCell ⟨w.heap.size, k, none⟩ (.slice aA (gt xs k).length capA)) := grown_own (grown_trans hg hgA) hs2 (fun j hj hlt => by cases hj; omega)
      rw [cpTo_step xs [] k hlt] at hs1
      clear hs2 hc2 hi2 hA hEl hO
      go_wp2
      go_roundw
      case rel => exact ⟨k + 1, by go_num, by omega, hgn, hs1⟩
      case measure => simp [intOf]; omega
    · have hke : k = xs.length := by omega
      subst hke
      rw [cpTo_all] at hO
      go_wp2
      go_ret
      exact ⟨_, rfl, hg, hO⟩

set_option maxHeartbeats 1000000 in
theorem toInt64SSS_ok (v : Value) (xs : List (List (List Int))) (w : World) (S : Nat → Prop) (h : Rows3 S w v xs) (hl : size3 xs ≤ 1048576) :
    Calls Try.prog 20 #[v] w (Ret w fun w' r => SlO (fun F w u (x : List (List Int)) => RowsW F w u x) 23 w.heap.size w' r xs) := by
  obtain ⟨a, cap, rfl, _, hlen⟩ := Sl.shape h
  have hlx : xs.length ≤ 1048576 := by unfold size3 at hl; omega
  have hsub : ∀ k, k < xs.length → size2 (gt xs k) ≤ 1048576 := fun k hk => by
    have := szTo_mono size2 xs (show k + 1 ≤ xs.length by omega)
    simp only [szTo] at this
    unfold size3 at hl; omega
  have HS := Lib.hid hsub; clear hsub hl
  go_enter Try.func20, Try.ntmps20
  go_wp2_with (at_make; refine wp_make_sl (El := (fun F w u (x : List (List Int)) => RowsW F w u x)) 24 23 und_rows3 Try.infoRows (fun w => SlD.nil _ _ w) rfl _ _ rfl w.heap.size xs.length w.heap.size rfl _ rfl rfl rfl (by omega) (Nat.le_refl _) ?_; intro w1 ho1 hg1 hlt1)
  rw [← cpTo_zero] at ho1
  go_loopw [4] (fun iv wr => ∃ k : Nat, iv = .int .i64 k ∧ k ≤ xs.length ∧ Ext w wr ∧ SlO (fun F w u (x : List (List Int)) => RowsW F w u x) 23 w.heap.size wr (.slice (some ⟨w.heap.size, 0, none⟩) xs.length xs.length) (cpTo xs [] k)) (fun iv _ => xs.length - (intOf iv).toNat)
  case atStart => exact ⟨0, rfl, by omega, hg1, ho1⟩
  case round =>
    obtain ⟨k, rfl, hk, hg, hO⟩ := hrel
    by_cases hlt : k < xs.length
    · obtain ⟨b, off, a2, cap2, rfl, _, _, hc2, hi2⟩ := Rows3.at (Rows3.ext h hg) k hlt
      go_wp2_with fail
      refine Calls.mono (toInt64SS_ok _ _ wr S hi2 (HS.out k hlt)) ?_
      rintro eA wA ⟨vA, rfl, hgA, hA⟩
      have hEl := SlO.toD hA (by have := HS.out k hlt; unfold size2 at this; omega)
      obtain ⟨aA, capA, rfl, _, _⟩ := SlD.shape hEl
      obtain ⟨⟨z, hcw⟩, hfr⟩ := (hO.ext rdRowsW hgA).place k (by rw [cpTo_len _ _ _ hk]; exact hlt)
      obtain ⟨hs1, hs2⟩ := hO.store rdRowsW hgA hEl k
      have hgn : Ext w (wA.setCell ⟨w.heap.size, k, none⟩ (.slice aA (gt xs k).length capA)) := grown_own (grown_trans hg hgA) hs2 (fun j hj hlt => by cases hj; omega)
      rw [cpTo_step xs [] k hlt] at hs1
      clear hs2 hc2 hi2 hA hEl hO
      go_wp2
      go_roundw
      case rel => exact ⟨k + 1, by go_num, by omega, hgn, hs1⟩
      case measure => simp [intOf]; omega
    · have hke : k = xs.length := by omega
      subst hke
      rw [cpTo_all] at hO
      go_wp2
      go_ret
      exact ⟨_, rfl, hg, hO⟩

end Go.Proofs.Ytdfjgpioaomceaa
