/-
  impl.allElements, impl.generators.
-/
import Derived.Test.YtdfjgpioaomceaaElts
namespace Go.Proofs.Ytdfjgpioaomceaa
open Go.RowKit

theorem und_rows : Try.prog.underlying 23 = some (.slice 22) := by kernel_rfl
theorem Try.infoRow : (Try.prog.info? 22).map (fun i => (i.zero, i.size, i.bytes)) = some (some (.slice none 0 0), 1, 24) := by kernel_rfl

/-- append(rows, row), the row made since -/
theorem wp_app_row {ops : Array Oper} {rest : List Oper} {o : Oper} {a : Act} {Q : Exit → Act → World → Prop} {w : World} (hgd : o.guard = none) (s x : Operand)
    (ho : o.op = Op.call { callee := Callee.builtin Builtin.append, args := #[s, x], argTypes := #[23, 23] }) (B : Nat) (w1 w2 : World) (v u : Value) (xs : List (List Int)) (y : List Int) (hs : a.eval s = v) (hown : RowsO B w1 v xs)
    (hg : Ext w1 w2) (hu : Ints (From w1.heap.size) w2 u y) (hw : w = w2.alloc (.cells #[u] 22)) (hx : a.eval x = .slice (some ⟨w2.heap.size, 0, none⟩) 1 1) (hlen : xs.length ≤ 1000000) (hbase : B ≤ w1.heap.size)
    (h : ∀ v' w', RowsO B w' v' (xs ++ [y]) → w1.grownBy w' v.ownBlock → w2.grownBy w' v.ownBlock → wpList Try.prog ops Q rest (a.put o.dst v') w') :
    wpList Try.prog ops Q (o :: rest) a w :=
  wp_app_one rdInts 23 22 (.slice none 0 0) 24 und_rows Try.infoRow rfl (by decide) hgd s x ho B w1 w2 v u xs y hs hown hg hu hw hx hlen hbase h

theorem SlO.lt {α : Type} [Inhabited α] {El : (Nat → Prop) → World → Value → α → Prop} {E B : Nat} {w : World} {v : Value} {xs : List α} (h : SlO El E B w v xs) (k : Nat) (hk : v.ownBlock = some k) : B ≤ k ∧ k < w.heap.size := by
  obtain ⟨vs, G, _, hO, _⟩ := h
  exact hO.lt k hk

theorem SlO.extw {α : Type} [Inhabited α] {El : (Nat → Prop) → World → Value → α → Prop} {E B : Nat} {w w1 w2 : World} {v : Value} {xs : List α} (h : SlO El E B w1 v xs) (hg : Ext w w1) (hB : w.heap.size ≤ B) (k : w1.grownBy w2 v.ownBlock) : Ext w w2 :=
  grown_own hg k (fun j hj hlt => by have := (h.lt j hj).1; omega)

def allEl (P : Pr) : List (List Int) := (List.range (ordP P).toNat).map (fun k : Nat => elAt P (k : Int))

theorem range_map_succ {α : Type} (f : Nat → α) (k : Nat) : (List.range (k + 1)).map f = (List.range k).map f ++ [f k] := by
  rw [List.range_succ, List.map_append]; rfl

set_option maxHeartbeats 400000 in
theorem allElements_ok (P : Pr) (hP : Valid P) (w : World) (p : Value) (Sp : Nat → Prop) (hp : PresP Sp w p P) :
    Calls Try.prog 32 #[p] w (Ret w fun w' v => RowsO w.heap.size w' v (allEl P)) := by
  have h729 : ordP P ≤ 729 := hP.le729
  have hpos := hP.ordP_pos
  go_enter Try.func32, Try.ntmps32
  go_wp2_with (go_at_call 31; refine (orderOf_ok _ _ P Sp hP hp).mono ?_; rintro e1 w1 ⟨rfl, rfl⟩)
  go_loopw [3, 7] (fun v i wr => ∃ k : Nat, i = .int .i64 k ∧ k ≤ (ordP P).toNat ∧ Ext w wr ∧ RowsO w.heap.size wr v ((List.range k).map (fun k : Nat => elAt P (k : Int)))) (fun _ i _ => (ordP P).toNat - (intOf i).toNat)
  case atStart => exact ⟨0, rfl, by omega, Ext.refl _, SlO.nil _ _ _ _⟩
  case round =>
    obtain ⟨k, rfl, hk, hg, hO⟩ := hrel
    by_cases hlt : (k : Int) < ordP P
    · go_wp2_with fail
      refine Calls.mono (elementAt_ok P hP wr p k Sp (hp.ext hg) (by omega) (by omega)) ?_
      rintro e2 w2 ⟨r, rfl, hg2, hR⟩
      have hv := elAt_vec hP (k : Int) (by omega)
      have hRi : Ints (From wr.heap.size) w2 r (elAt P k) := ints_of_own hR (by rw [hv.1]; have := hP.n6; omega) (fun j hj => (hR.lt j hj).1)
      clear hv
      obtain ⟨ar, capr, rfl, _, _⟩ := hRi.shape
      go_wp2_with (at_builtin; go_must (refine wp_app_row rfl _ _ rfl w.heap.size wr w2 _ _ _ (elAt P k) rfl hO hg2 hRi rfl rfl (by simp; omega) hg.size ?_); intro v3 w3 hO3 hg3 hg4)
      have hgx := hO.extw hg (Nat.le_refl _) hg3
      rw [← range_map_succ (fun k : Nat => elAt P (k : Int))] at hO3
      go_roundw
      case rel => exact ⟨k + 1, by go_num, by omega, hgx, hO3⟩
      case measure => simp [intOf]; omega
    · have hke : k = (ordP P).toNat := by omega
      subst hke
      go_wp2
      go_ret
      exact ⟨_, rfl, hg, hO⟩

/-- the generators of a group -/
def gensOf (n : Nat) : List (List Int) := (List.range n).map (fun k : Nat => unitV n k)

set_option maxHeartbeats 400000 in
theorem generators_ok (P : Pr) (hP : Valid P) (w : World) (p : Value) (Sp : Nat → Prop) (hp : PresP Sp w p P) :
    Calls Try.prog 49 #[p] w (Ret w fun w' v => RowsO w.heap.size w' v (gensOf P.orders.length)) := by
  have hn6 := hP.n6
  obtain ⟨pb, po, rfl⟩ := hp.shape
  obtain ⟨ao, capo, hco0, hoi⟩ := hp.ordAt
  have hco := hco0
  go_enter Try.func49, Try.ntmps49
  go_wp2
  clear hco
  have HCO := Lib.hid hco0; clear hco0
  go_loopw [3, 10] (fun v i wr => ∃ k : Nat, i = .int .i64 k ∧ k ≤ P.orders.length ∧ Ext w wr ∧ RowsO w.heap.size wr v ((List.range k).map (fun k : Nat => unitV P.orders.length k))) (fun _ i _ => P.orders.length - (intOf i).toNat)
  case atStart => exact ⟨0, rfl, by omega, Ext.refl _, SlO.nil _ _ _ _⟩
  case round =>
    obtain ⟨k, rfl, hk, hg, hO⟩ := hrel
    by_cases hlt : k < P.orders.length
    · have hco := hg.cell HCO.out (by simp)
      go_wp2_with fail
      refine Calls.mono (unitVector_ok P.orders.length k wr hlt (by omega)) ?_
      rintro e2 w2 ⟨r, rfl, hg2, hR⟩
      have hRi : Ints (From wr.heap.size) w2 r (unitV P.orders.length k) := ints_of_own hR (by simp [unitV]; omega) (fun j hj => (hR.lt j hj).1)
      obtain ⟨ar, capr, rfl, _, _⟩ := hRi.shape
      go_wp2_with (at_builtin; go_must (refine wp_app_row rfl _ _ rfl w.heap.size wr w2 _ _ _ (unitV P.orders.length k) rfl hO hg2 hRi rfl rfl (by simp; omega) hg.size ?_); intro v3 w3 hO3 hg3 hg4)
      have hgx := hO.extw hg (Nat.le_refl _) hg3
      rw [← range_map_succ (fun k : Nat => unitV P.orders.length k)] at hO3
      go_roundw
      case rel => exact ⟨k + 1, by go_num, by omega, hgx, hO3⟩
      case measure => simp [intOf]; omega
    · have hke : k = P.orders.length := by omega
      subst hke
      go_wp2
      go_ret
      exact ⟨_, rfl, hg, hO⟩

end Go.Proofs.Ytdfjgpioaomceaa
