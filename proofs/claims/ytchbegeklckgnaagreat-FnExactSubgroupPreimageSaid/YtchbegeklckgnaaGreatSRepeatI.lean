/-
  slices.Repeat at a list of one integer.
-/
import Derived.Test.YtchbegeklckgnaaGreatSWords2
import Derived.Laws.CopyOwn
import Derived.Deep.RegionLaw
import Derived.Shelf.Bits.Mul64
namespace Go.Proofs.YtchbegeklckgnaaGreat
section
open Go.Proofs Go.Shelf Go.RowKit Go.Lib
def Tryz.bitsMul_ren : Go.Shelf.Ren := ⟨fun | 212 => 186 | 263 => 205 | 264 => 206 | n => n, fun | 46 => 141 | 51 => 174 | 146 => 180 | 53 => 176 | 148 => 182 | n => n, fun | n => n⟩
theorem Tryz.bitsMul : Go.Proofs.Lays.n212 Tryz.prog Tryz.bitsMul_ren := {
  mixed := by kernel_rfl
  f212 := Tryz.func186.trans (congrArg some (by kernel_rfl))
  f263 := Tryz.func205.trans (congrArg some (by kernel_rfl))
  f264 := Tryz.func206.trans (congrArg some (by kernel_rfl))
  t46 := Tryz.underlying141
  a46 := Tryz.isAgg141
  z46 := Tryz.sizeOf141
  v46 := Tryz.zeroValue141
  t51 := Tryz.underlying174
  a51 := Tryz.isAgg174
  z51 := Tryz.sizeOf174
  v51 := Tryz.zeroValue174
  t53 := Tryz.underlying176
  a53 := Tryz.isAgg176
  z53 := Tryz.sizeOf176
  v53 := Tryz.zeroValue176
  t146 := Tryz.underlying180
  a146 := Tryz.isAgg180
  z146 := Tryz.sizeOf180
  v146 := Tryz.zeroValue180
  t148 := Tryz.underlying182
  a148 := Tryz.isAgg182
  z148 := Tryz.sizeOf182
  v148 := Tryz.zeroValue182 }

theorem bitsMul_ok (c : Nat) (w : World) (hc : c ≤ 1000) : Calls Tryz.prog 186 #[.int .u64 1, .int .u64 (c : Int)] w fun e w' => e = .returned (.tuple #[.int .u64 0, .int .u64 (c : Int)]) ∧ w' = w := by
  have h := Any.bits_Mul Tryz.bitsMul 1 c (by omega) (by omega) w
  change Calls Tryz.prog 186 _ _ _ at h
  refine h.mono ?_
  rintro e w' ⟨rfl, rfl⟩
  rw [Nat.one_mul, Nat.div_eq_of_lt (by omega), Nat.mod_eq_of_lt (by omega)]
  exact ⟨rfl, rfl⟩
end
open Go.RowKit

/-- a row of c cells, the first n of which hold y -/
def repC (y : Int) (c n : Nat) : List Value := List.replicate n (.int .i64 y) ++ List.replicate (c - n) (.int .i64 0)
theorem repC_len {y : Int} {c n : Nat} (h : n ≤ c) : (repC y c n).length = c := by unfold repC; simp; omega
theorem repC_splice {y : Int} {c n m : Nat} (h : n + m ≤ c) : splice (repC y c n) n (List.replicate m (.int .i64 y)) = repC y c (n + m) := by
  unfold splice repC
  rw [List.take_append_of_le_length (by simp), List.take_of_length_le (by simp), List.drop_append, List.length_replicate, List.length_replicate, List.drop_replicate, List.drop_replicate, ← List.append_assoc, ← List.append_assoc]
  rw [show n - (n + m) = 0 by omega, show c - n - (n + m - n) = c - (n + m) by omega]
  simp [List.replicate_append_replicate]

theorem ext_of_below {w w' : World} (h : Below w.heap.size w w') : Ext w w' := ⟨h.os, h.tape, h.output, h.size, fun k hk _ => h.block k hk⟩

theorem srcOne {w : World} {b off : Nat} {u : Value} (h : w.cell? ⟨b, off, none⟩ = some u) : ∀ j v, ([u] : List Value)[j]? = some v → w.cell? ((⟨b, off, none⟩ : Addr).add j) = some v := fun j v hj => by
  have h0 : j = 0 := by
    have := (List.getElem?_eq_some_iff.1 hj).1
    simpa using this
  subst h0
  have : u = v := by simpa using hj
  subst this
  simpa [Addr.add] using h

theorem srcRep {w : World} {H c n m : Nat} {y : Int} {T : Nat} (h : w.heap[H]? = some (.cells (repC y c n).toArray T (0, 0))) (hm : m ≤ n) :
    ∀ j v, (List.replicate m (Value.int .i64 y))[j]? = some v → w.cell? ((⟨H, 0, none⟩ : Addr).add j) = some v := fun j v hj => by
  have hjm : j < m := by
    have := (List.getElem?_eq_some_iff.1 hj).1
    simpa using this
  have : Value.int .i64 y = v := by
    rw [List.getElem?_eq_getElem (by simpa using hjm)] at hj
    simpa using hj
  subst this
  have e : (repC y c n)[j]? = some (.int .i64 y) := by
    unfold repC
    rw [List.getElem?_append_left (by simp; omega), List.getElem?_eq_getElem (by simp; omega)]
    simp
  have e2 : w.cell? ⟨H, 0 + j, none⟩ = some (.int .i64 y) := by
    simp only [World.cell?, h, Nat.zero_add, Option.isSome_none, Bool.false_eq_true, if_false]
    rw [← Array.getElem?_toList]; exact e
  unfold Addr.add
  split
  · rename_i hj0; subst hj0; exact e2
  · exact e2

theorem rowOf {base H c : Nat} {w : World} (h : Own base w (.slice (some ⟨H, 0, none⟩) c c) (List.replicate c 0)) : ∃ cur : Array Value, w.heap[H]? = some (.cells cur 2 (0, 0)) ∧ ∀ y, cur = (repC y c 0).toArray := by
  obtain ⟨_, h | ⟨g, cp, cur, hv, _, hb, _, _, hsz, ht⟩⟩ := h
  · exact absurd h.1 (by simp)
  simp only [Value.slice.injEq, Option.some.injEq, Addr.mk.injEq] at hv
  obtain ⟨⟨rfl, _⟩, _, rfl⟩ := hv
  refine ⟨cur, hb, fun y => ?_⟩
  apply Array.ext'
  have hl : cur.toList.length = c := by simpa using hsz
  rw [List.length_replicate, List.take_of_length_le (by omega)] at ht
  rw [ht]
  simp [repC]

set_option maxRecDepth 100000 in
set_option maxHeartbeats 400000 in
theorem repeatI_ok (w : World) (v : Value) (y : Int) (c : Nat) (S : Nat → Prop) (hv : Ints S w v [y]) (hc : 1 ≤ c ∧ c ≤ 1000) :
    Calls Tryz.prog 146 #[v, .int .i64 (c : Int)] w (Ret w fun w' r => Own w.heap.size w' r (List.replicate c y)) := by
  obtain ⟨a, cap, rfl, hcap, _⟩ := hv.shape
  obtain ⟨b, off, rfl, _, _, hcell⟩ := Ints.at hv 0 (by simp)
  have hcap : 1 ≤ cap := hcap
  have hy : gt [y] 0 = y := rfl
  rw [hy, Nat.add_zero] at hcell
  have hl1 : [y].length = 1 := rfl
  rw [hl1]
  go_enter Tryz.func146, Tryz.ntmps146
  go_wp2_with fail
  refine Calls.mono (bitsMul_ok c w hc.2) ?_
  rintro e1 w1 ⟨rfl, rfl⟩
  go_wp2_with (first | (at_make; refine wp_make_ints rfl _ _ rfl w1.heap.size c w1.heap.size rfl (c : Int) rfl rfl rfl (by omega) (Nat.le_refl _) ?_; intro w2 hO2 hg2 hlt2; obtain ⟨cur, hb2, hcur⟩ := rowOf hO2; rw [hcur y] at hb2; have hcl := hg2.cell hcell (by simp); clear hO2 hcur) | (refine wpList_copy_splice rfl _ _ _ _ rfl 2 (by kernel_rfl) (by kernel_rfl) (some ⟨w1.heap.size, 0, none⟩) (some ⟨b, off, none⟩) c c 1 cap rfl rfl w1.heap.size 0 (repC y c 0) 2 hb2 [.int .i64 y] (Nat.min_eq_left hc.1).symm (fun _ => ⟨rfl, _, rfl, srcOne hcl⟩) (by rw [repC_len (by omega)]; simp; omega) (by simp; rfl) w1.heap.size w1 hg2.below (Nat.le_refl _) ?_; intro w3 hb3 hB3) | fail)
  have hb30 : Hid (w3.heap[w1.heap.size]? = some (.cells (repC y c 1).toArray 2 (0, 0))) := by
    have := hb3
    rw [show ([.int .i64 y] : List Value) = List.replicate 1 (.int .i64 y) from rfl, repC_splice (by omega)] at this
    exact this
  have hE3 : Ext w1 w3 := ext_of_below hB3
  clear hb3 hB3 hb2 hcl
  go_wp2
  go_loopw [8] (fun nv wr => ∃ n : Nat, nv = .int .i64 n ∧ 1 ≤ n ∧ n ≤ c ∧ Ext w1 wr ∧ Hid (wr.heap[w1.heap.size]? = some (.cells (repC y c n).toArray 2 (0, 0)))) (fun nv _ => c - (intOf nv).toNat)
  case atStart => exact ⟨1, rfl, by omega, by omega, hE3, hb30⟩
  case round =>
    clear hE3 hb30
    obtain ⟨n, rfl, h1, hn, hE, hb⟩ := hrel
    by_cases hlt : n < c
    · have hlt' : (n : Int) < c := by omega
      obtain ⟨m, hm⟩ : ∃ m, m = Nat.min n (c - n) := ⟨_, rfl⟩
      have hm1 : m ≤ n ∧ m ≤ c - n ∧ 1 ≤ m := ⟨by rw [hm]; exact Nat.min_le_left _ _, by rw [hm]; exact Nat.min_le_right _ _, by rw [hm]; exact Nat.le_min.2 ⟨h1, by omega⟩⟩
      have hcs : (List.replicate m (Value.int .i64 y)).length = Nat.min n (c - n) := by rw [List.length_replicate, hm]
      have hE2 : Below w1.heap.size w1 wr.drew := Ext.below (grown_trans hE (grown_drew wr none))
      have hne : ¬ c = n := by omega
      have hbd : wr.drew.heap[w1.heap.size]? = some (.cells (repC y c n).toArray 2 (0, 0)) := hb.out
      have HM := Lib.hid (And.intro hcs (And.intro hE2 (And.intro hne hbd))); clear hm hcs hE2 hne hbd
      go_wp2
      go_region_law (refine step_copy_splice rfl _ _ _ _ rfl 2 (by kernel_rfl) (by kernel_rfl) (if c = n then some ⟨w1.heap.size, 0, none⟩ else some ⟨w1.heap.size, n, none⟩) (some ⟨w1.heap.size, 0, none⟩) (c - n) (c - n) n c (by kernel_rfl) (by kernel_rfl) w1.heap.size n (repC y c n) 2 HM.out.2.2.2 (List.replicate m (.int .i64 y)) HM.out.1 (fun _ => ⟨if_neg HM.out.2.2.1, _, rfl, srcRep HM.out.2.2.2 hm1.1⟩) (by rw [repC_len hn, List.length_replicate]; omega) (fun v hv => by rw [(List.mem_replicate.1 hv).2]; rfl) w1.heap.size w1 HM.out.2.1 (Nat.le_refl _) ?_; intro w4 hb4 hB4)
      have hb5 : Hid (w4.heap[w1.heap.size]? = some (.cells (repC y c (n + m)).toArray 2 (0, 0))) := by
        have := hb4
        rw [repC_splice (by omega)] at this
        exact this
      have hE4 := ext_of_below hB4
      have hml : (List.replicate m (Value.int .i64 y)).length = m := List.length_replicate
      have hwm : IntKind.i64.wrap ((n : Int) + m) = n + m := IntWalk.i64_in _ (by omega)
      clear hb4 hB4 hE hb
      go_wp2
      go_roundw
      case rel => exact ⟨n + m, by omega, by omega, by omega, hb5⟩
      case measure => simp [intOf]; omega
    · have hne : n = c := by omega
      subst hne
      have hO : Own w1.heap.size wr (.slice (some ⟨w1.heap.size, 0, none⟩) n n) (List.replicate n y) := by
        refine ⟨by simp, .inr ⟨w1.heap.size, n, _, by rw [List.length_replicate], Nat.le_refl _, hb.out, by simp, by unfold maxLen; omega, by rw [List.size_toArray, repC_len (Nat.le_refl _)]; omega, by simp [repC]⟩⟩
      go_wp2
      go_ret
      exact ⟨_, rfl, hE, hO⟩

end Go.Proofs.YtchbegeklckgnaaGreat
