/-
  slices.Clone at a list of integers: a new list of the same elements.
-/
import Derived.Test.YtdfjgpioaomceaaPc
namespace Go.Proofs.Ytdfjgpioaomceaa
open Go.RowKit

/-- v[l:h] for elements of one cell -/
def subSl (v : Value) (l h : Nat) : Value := match v with | .slice a _ cap => .slice (if cap = l then a else a.map (·.add l)) (h - l) (cap - l) | v => v

theorem subSl_ints {S : Nat → Prop} {w : World} {v : Value} {xs : List Int} (h : Ints S w v xs) (i j : Nat) (hij : i ≤ j) (hj : j ≤ xs.length) : Ints S w (subSl v i j) ((xs.take j).drop i) := by
  obtain ⟨a, cap, rfl, hl, hc⟩ := h
  have hlen : ((xs.take j).drop i).length = j - i := by simp; omega
  refine ⟨(if cap = i then a else a.map (·.add i)), cap - i, by rw [hlen]; rfl, ⟨by omega, by omega, ?_⟩, fun k hk => ?_⟩
  · intro ha
    split at ha
    · omega
    · have : a = none := by simpa using ha
      have := hl.2.2 this; omega
  obtain ⟨b, off, u, rfl, hS, hlt, hu, hx⟩ := hc (i + k) (by omega)
  by_cases e : cap = i
  · omega
  · rw [if_neg e]
    refine ⟨b, off + i, u, by simp [Addr.add], hS, hlt, by rw [Nat.add_assoc]; exact hu, ?_⟩
    have : gt ((xs.take j).drop i) k = gt xs (i + k) := by
      simp only [gt, List.getD_eq_getElem?_getD, List.getElem?_drop, List.getElem?_take]; rw [if_pos (by omega)]
    rw [this]; exact hx

theorem und_ints : Try.prog.underlying 22 = some (.slice 2) := by kernel_rfl

/-- append onto a list of integers of the call's own -/
theorem wp_app_ints {ops : Array Oper} {rest : List Oper} {o : Oper} {a : Act} {Q : Exit → Act → World → Prop} {w : World} (hgd : o.guard = none) (s x : Operand)
    (ho : o.op = Op.call { callee := Callee.builtin Builtin.append, args := #[s, x], argTypes := #[22, 22] }) (base : Nat) (v : Value) (l : List Int) (hs : a.eval s = v) (hown : Own base w v l)
    (u : Value) (m : List Int) (hx : a.eval x = u) (S : Nat → Prop) (hu : Ints S w u m) (hlen : l.length + m.length ≤ 2147483648) (hbase : base ≤ w.heap.size)
    (h : ∀ v' w', Own base w' v' (l ++ m) → w.grownBy w' v.ownBlock → (v' = .slice none 0 0 ↔ v = .slice none 0 0 ∧ m.length = 0) → wpList Try.prog ops Q rest (a.put o.dst v') w') :
    wpList Try.prog ops Q (o :: rest) a w := by
  obtain ⟨sa, cap, rfl, ⟨_, _, hn⟩, hc⟩ := hu
  refine wp_app 22 2 (.int .i64 0) 8 und_ints Try.infoInt rfl (by decide) hgd s x ho base v (l.map (Value.int .i64)) hs hown.v sa m.length cap (m.map (Value.int .i64)) hx (by simp) hn ?_ ?_ (by simpa using hlen) hbase ?_
  · intro j hj
    obtain ⟨b, off, u, h1, _, _, h2, h3⟩ := hc j hj
    exact ⟨b, off, h1, by rw [h2, h3]; simp [gt, hj]⟩
  · intro u hu
    simp at hu
    obtain ⟨x, _, rfl⟩ := hu; rfl
  · intro v' w' h1 h2 h3 _
    exact h v' w' (Own.of (by rw [List.map_append]; exact h1)) h2 h3

/-- make([]int64, n) -/
theorem wp_make_ints {ops : Array Oper} {rest : List Oper} {o : Oper} {a : Act} {Q : Exit → Act → World → Prop} {w : World} (hgd : o.guard = none) (l c : Operand)
    (ho : o.op = Op.makeSlice 22 l c) (base n H : Nat) (hH : w.heap.size = H) (L : Int) (hl : a.eval l = .int .i64 L) (hc : a.eval c = .int .i64 L) (hL : L = n) (hn : n ≤ 2147483648) (hbase : base ≤ H)
    (h : ∀ w', Own base w' (.slice (some ⟨H, 0, none⟩) n n) (List.replicate n 0) → Ext w w' → H < w'.heap.size → wpList Try.prog ops Q rest (a.put o.dst (.slice (some ⟨H, 0, none⟩) n n)) w') :
    wpList Try.prog ops Q (o :: rest) a w := by
  subst hH
  obtain ⟨i0, hi, hz0, hz1, hz2⟩ := info_parts Try.infoInt
  refine wpList_make_full w hgd l c 22 ho base 2 i0 (.int .i64 0) 1 und_ints hi hz0 hz1 .i64 .i64 L L n hl hc hL hL (by rw [hz2]; omega) (by unfold maxLen; omega) hbase ?_
  intro w' h1 h2
  refine h w' ?_ h2 (h1.lt w.heap.size rfl).2
  have e : (madeCells (Value.cells (.int .i64 0)) (n * 1)).toList = (List.replicate n (0 : Int)).map (Value.int .i64) := by
    rw [show Value.cells (.int .i64 0) = #[.int .i64 0] from rfl, toList_madeCells_one]; simp
  rw [e] at h1
  show World.ownsRow _ _ _ _ _ _ _
  rw [List.length_replicate]; exact h1

/-- v[l:] at a list of integers -/
theorem run_tail (w : World) (a : Option Addr) (n cap : Nat) (k : Int) (h0 : 0 ≤ k) (h1 : k ≤ n) :
    (Instr.slice 22 (.slice a n cap) (some (.int .i64 k)) none none).run Try.prog w = .ok (subSl (.slice a n cap) k.toNat n) w := by
  rw [run_slice_l w 22 a n cap (by kernel_rfl) .i64 k h0 h1]
  have : (sizeOf (Try.prog.elem 22)).run Try.prog w = .ok 1 w := by kernel_rfl
  rw [this]
  simp [Result.andThen, sliced, subSl]

/-- the value of a vector of the call's own that is not empty -/
theorem Own.form {base : Nat} {w : World} {v : Value} {l : List Int} (h : Own base w v l) (hl : 0 < l.length) : ∃ g cap, v = .slice (some ⟨g, 0, none⟩) l.length cap ∧ base ≤ g ∧ g < w.heap.size := by
  have hlt := h.lt
  obtain ⟨_, h | ⟨g, cap, cur, hv, hg, _⟩⟩ := h
  · omega
  · exact ⟨g, cap, hv, hg, (hlt g (by rw [hv]; rfl)).2⟩

theorem Own.cell {base g cap n : Nat} {w : World} {l : List Int} (h : Own base w (.slice (some ⟨g, 0, none⟩) n cap) l) (j : Nat) (hj : j < l.length) : w.cell? ⟨g, j, none⟩ = some (.int .i64 (gt l j)) := by
  have hn : n = l.length := by
    obtain ⟨_, ⟨h, _⟩ | ⟨_, _, _, h, _⟩⟩ := h <;> cases h; rfl
  subst hn
  have := World.ownsRow.cellAt h j (by omega)
  rw [this]; simp [gt, hj]

theorem Own.frozen {base g cap n : Nat} {w : World} {l : List Int} (h : Own base w (.slice (some ⟨g, 0, none⟩) n cap) l) (j : Nat) : w.frozen? ⟨g, j, none⟩ = false := by
  have hn : n = l.length := by
    obtain ⟨_, ⟨h, _⟩ | ⟨_, _, _, h, _⟩⟩ := h <;> cases h; rfl
  subst hn
  exact World.ownsRow.frozenAt h j

theorem Own.store {base g cap n : Nat} {w : World} {l : List Int} (h : Own base w (.slice (some ⟨g, 0, none⟩) n cap) l) (j : Nat) (x : Int) :
    Own base (w.setCell ⟨g, j, none⟩ (.int .i64 x)) (.slice (some ⟨g, 0, none⟩) n cap) (l.set j x) ∧ w.grownBy (w.setCell ⟨g, j, none⟩ (.int .i64 x)) (some g) := by
  have hn : n = l.length := by
    obtain ⟨_, ⟨h, _⟩ | ⟨_, _, _, h, _⟩⟩ := h <;> cases h; rfl
  subst hn
  obtain ⟨h1, h2⟩ := World.ownsRow.stored h j (.int .i64 x)
  refine ⟨?_, h2⟩
  show World.ownsRow _ _ _ _ _ _ _
  rw [List.length_set, List.map_set]; exact h1

theorem Own.ext {base : Nat} {w w' : World} {v : Value} {l : List Int} {r : Option Nat} (h : Own base w v l) (hg : w.grownBy w' r) (hne : v.ownBlock = none ∨ v.ownBlock ≠ r) : Own base w' v l := h.kept hg hne

set_option maxHeartbeats 400000 in
theorem clone_ok (w : World) (v : Value) (l : List Int) (S : Nat → Prop) (hv : Ints S w v l) (hl : l.length ≤ 1048576) :
    Calls Try.prog 47 #[v] w (Ret w fun w' r => Own w.heap.size w' r l) := by
  obtain ⟨a, cap, rfl, _, _⟩ := hv.shape
  have he := fun n => Lib.run_eql_slice_nil (P := Try.prog) w 22 2 a n cap 0 0 (by kernel_rfl)
  cases a with
  | none =>
    obtain ⟨rfl, rfl⟩ := hv.nil_of_none
    clear hv hl
    go_enter Try.func47, Try.ntmps47
    go_wp2_with fail
    go_ret
    exact ⟨_, rfl, Ext.refl _, World.ownsRow_nil _ _ _ _⟩
  | some a =>
    go_enter Try.func47, Try.ntmps47
    go_wp2_with (at_builtin; refine wp_app_ints rfl _ _ rfl w.heap.size _ [] rfl (World.ownsRow_lit w #[] 0 (Nat.le_refl _) (by decide) rfl) _ l rfl S (hv.ext (World.grownBy_alloc _ _ _)) (by simp; omega) (by simp) ?_; intro v' w1 ho1 hg1 hn1)
    go_ret
    exact ⟨_, rfl, grown_own (World.grownBy_alloc _ _ _) hg1 (fun j hj hlt => by have := own_blk hj; omega), ho1⟩

theorem PresP.box {w : World} {vo vp vc : Value} {P : Pr} {S : Nat → Prop} (h : Pres3 S w vo vp vc P) (T : Nat) :
    PresP Any (w.alloc (.cells #[vo, vp, vc] T)) (.pointer (some ⟨w.heap.size, 0, none⟩)) P := by
  have h2 := h.ext (World.grownBy_alloc w (.cells #[vo, vp, vc] T) none)
  refine ⟨_, _, vo, vp, vc, rfl, trivial, by simp, ?_, ?_, ?_, h2.mono (fun k _ hk => ⟨trivial, hk, rfl⟩)⟩
  · rw [World.cell?_alloc_at _ _ _ _ rfl]; rfl
  · rw [World.cell?_alloc_at _ _ _ _ rfl]; rfl
  · rw [World.cell?_alloc_at _ _ _ _ rfl]; rfl

theorem Own.ext0 {base : Nat} {w w' : World} {v : Value} {l : List Int} (h : Own base w v l) (hg : Ext w w') : Own base w' v l :=
  h.ext hg (by cases hv : v.ownBlock <;> simp)

theorem Own.weak {base base' : Nat} {w : World} {v : Value} {l : List Int} (h : Own base w v l) (hb : base' ≤ base) : Own base' w v l := by
  obtain ⟨h1, h2⟩ := h
  refine ⟨h1, ?_⟩
  rcases h2 with h | ⟨g, cap, cur, hv, hg, r⟩
  · exact .inl h
  · exact .inr ⟨g, cap, cur, hv, Nat.le_trans hb hg, r⟩

theorem Own.ints {base : Nat} {w : World} {v : Value} {l : List Int} (h : Own base w v l) (hl : l.length ≤ 9223372036854775807) : Ints Any w v l := ints_of_own h hl (fun _ _ => trivial)

theorem Calls.rel2 {f : FuncId} {args : Array Value} {w w0 : World} {φ : World → Value → Prop} (h0 : Ext w0 w) (h : Calls Try.prog f args w (Ret w φ)) :
    Calls Try.prog f args w fun e w' => ∃ v, e = .returned v ∧ Ext w0 w' ∧ Ext w w' ∧ w0.heap.size ≤ w.heap.size ∧ φ w' v :=
  h.mono fun _ _ ⟨v, he, hg, hv⟩ => ⟨v, he, grown_trans h0 hg, hg, h0.size, hv⟩

end Go.Proofs.Ytdfjgpioaomceaa
