/-
  Drawing: spec.l07Vector.
  Drawing: spec.l06Parse.
  Drawing: spec.l01Split.
  Drawing: spec.l01Value.
  Drawing: spec.l07Orders.
  Texts: spec.l06Text, l07Letter, l01Dec (of a digit), l07Text.
  Drawing: spec.l07Relation.
  Words: impl.abs, normalWord, invertWord, slices.Reverse; spec.l07Word, l06Invert.
  Words: spec.l07Word, l06Invert.
  Texts: spec.l07Text.
  Drawing: spec.CyclicPresentation.
  Drawing: spec.ParsePresentation, l07Table.
  Drawing: spec.l07Table.
-/
import Derived.Test.YtldheeicjnncoaaGreatE1
import Derived.Test.YtldheeicjnncoaaGreatE2
import Derived.Test.YtldheeicjnncoaaGreatE4
import Derived.Test.YtldheeicjnncoaaGreatE6
import Derived.Test.YtldheeicjnncoaaGreatE9
import Derived.Deep.QuietTactic
import Derived.Deep.RegionHeld3
namespace Go.Proofs.YtldheeicjnncoaaGreat
open Go.RowKit
attribute [local go_sem ↓] Go.wp_at_zero Go.wp_at_succ

/-- letters over n generators -/
def LetW (n : Nat) (w : List Int) : Prop := ∀ x ∈ w, x ≠ 0 ∧ -n ≤ x ∧ x ≤ n
/-- a vector of n entries between 0 and M, or a fault -/
def VecR (n M B : Nat) (w' : World) (v : Value) : Prop := ∃ (a : Option Addr) (k c : Nat) (r : Bool), v = .tuple #[.slice a k c, .bool r] ∧ (r = true → ∃ l, l.length = n ∧ k = n ∧ (∀ x ∈ l, 0 ≤ x ∧ x ≤ (M : Int)) ∧ Own B w' (.slice a k c) l)

theorem i64_1000 (x : Int) (h : 0 ≤ x ∧ x ≤ 100000) : IntKind.i64.wrap x = x := IntWalk.i64_in _ (by omega)
theorem w64_1000 (x : Int) (h : 0 ≤ x ∧ x ≤ 100000) : wrap64 x = x := IntWalk.wrap64_in _ (by omega)

set_option maxRecDepth 100000 in
set_option maxHeartbeats 4000000 in
theorem l07Vector_ok (w : World) (n : Nat) (lv : Value) (L : List Int) (S : Nat → Prop) (hL : Ints S w lv L) (hw : LetW n L) (hn : n ≤ 100) (hl : L.length ≤ 1000) :
    Calls Tryz.prog 382 #[.int .i64 n, lv] w (Ret w (VecR n L.length w.heap.size)) := by
  obtain ⟨al, capl, rfl, _, _⟩ := hL.shape
  have HW := Lib.hid hw; clear hw
  go_enter Tryz.func382, Tryz.ntmps382
  go_wp2_with (at_make; refine wp_make_ints rfl _ _ rfl w.heap.size n w.heap.size rfl _ rfl rfl rfl (by omega) (Nat.le_refl _) ?_; intro w1 ho1 hg1 hlt1)
  go_loopw [7] (fun iv wr => ∃ (i : Nat) (l : List Int), iv = .int .i64 i ∧ i ≤ L.length ∧ l.length = n ∧ (∀ x ∈ l, 0 ≤ x ∧ x ≤ i) ∧ Ext w wr ∧ Own w.heap.size wr (.slice (some ⟨w.heap.size, 0, none⟩) n n) l) (fun iv _ => L.length - (intOf iv).toNat)
  case atStart => exact ⟨0, _, rfl, by omega, by simp, (fun x hx => by rw [List.eq_of_mem_replicate hx]; omega), hg1, ho1⟩
  case round =>
    clear ho1 hg1
    obtain ⟨i, l, rfl, hi, hln, hlb, hg, hO⟩ := hrel
    by_cases hlt : i < L.length
    · have hlt' : (i : Int) < L.length := by omega
      obtain ⟨b, off, rfl, _, _, hc⟩ := Ints.at (Ints.ext hL hg) i hlt
      have hx := HW.out _ (gtMem hlt)
      obtain ⟨x, hxe⟩ : ∃ x, x = gt L i := ⟨_, rfl⟩
      rw [← hxe] at hc hx
      clear hxe
      by_cases hneg : x < 0
      · have HL := Lib.hid (And.intro hln (And.intro hlb hx)); clear hln hlb hx
        go_wp2
        exact bodyPost_ret (v := .tuple #[.slice none 0 0, .bool false]) (by simp [results, Tryz.results382, go_sem]) rfl ⟨_, rfl, hg, none, 0, 0, false, rfl, fun h => by cases h⟩
      · obtain ⟨J, hJx⟩ := Int.eq_ofNat_of_zero_le (show 0 ≤ x - 1 by omega)
        obtain rfl : x = (J : Int) + 1 := by omega
        clear hJx
        have hJ : J < n := by omega
        have hJn : (J : Int) < n := by omega
        have hy := hlb _ (gtMem (show J < l.length by omega))
        have hco := hO.cell J (by omega)
        have hfo := hO.frozen J
        obtain ⟨y, hye⟩ : ∃ y, y = gt l J := ⟨_, rfl⟩
        rw [← hye] at hy hco
        obtain ⟨hO3, hgs⟩ := hO.store J (y + 1)
        have hgn := grown_own hg hgs (fun k hk hlt => by cases hk; omega)
        have hl3 : (l.set J (y + 1)).length = n := by rw [List.length_set]; exact hln
        have hb3 : ∀ z ∈ l.set J (y + 1), 0 ≤ z ∧ z ≤ ((i + 1 : Nat) : Int) := fun z hz => by
          rcases List.mem_or_eq_of_mem_set hz with h | h
          · have := hlb z h; omega
          · omega
        have hOd := hO3.ext0 (grown_drew (wr.setCell ⟨w.heap.size, J, none⟩ (.int .i64 (y + 1))) none)
        have hgd := grown_trans hgn (grown_drew (wr.setCell ⟨w.heap.size, J, none⟩ (.int .i64 (y + 1))) none)
        have hw1 := i64_1000 (J : Int) (by omega)
        have hw2 := i64_1000 (y + 1) (by clear hw1; omega)
        have hw3 := w64_1000 (J : Int) (by clear hw1 hw2; omega)
        have hw4 := w64_1000 (y + 1) (by clear hw1 hw2 hw3; omega)
        have HQ := Lib.hid (And.intro hOd (And.intro hgd (And.intro hl3 (And.intro hb3 (And.intro hw1 (And.intro hw2 (And.intro hw3 hw4))))))); clear hOd hgd hl3 hb3 hw1 hw2 hw3 hw4 hgs hgn hO3 hye hln hlb hx
        have c1 : wr.drew.cell? ⟨w.heap.size, J, none⟩ = some (.int .i64 y) := hco
        have c2 : wr.drew.cell? ⟨b, off + i, none⟩ = some (.int .i64 ((J : Int) + 1)) := hc
        have c3 : wr.drew.frozen? ⟨w.heap.size, J, none⟩ = false := hfo
        clear hco hfo hO
        go_wp2
        clear hc
        have hw1 := HQ.out.2.2.2.2.1
        have hw2 := HQ.out.2.2.2.2.2.1
        have hw3 := HQ.out.2.2.2.2.2.2.1
        have hw4 := HQ.out.2.2.2.2.2.2.2
        go_still_tail 16, (by kernel_rfl)
        change wpList _ _ _ _ _ wr.drew
        go_wp2
        clear hw1 hw2 hw3 hw4
        go_roundw
        case rel => exact ⟨i + 1, _, by go_num, by omega, HQ.out.2.2.1, HQ.out.2.2.2.1, HQ.out.2.1, HQ.out.1⟩
        case measure => simp [intOf]; omega
    · have hie : i = L.length := by omega
      subst hie
      have HL := Lib.hid (And.intro hln hlb); clear hln hlb
      go_wp2
      exact bodyPost_ret (v := .tuple #[.slice (some ⟨w.heap.size, 0, none⟩) n n, .bool true]) (by simp [results, Tryz.results382, go_sem]) rfl ⟨_, rfl, hg, _, _, _, true, rfl, fun _ => ⟨l, HL.out.1, rfl, HL.out.2, hO⟩⟩

end Go.Proofs.YtldheeicjnncoaaGreat
namespace Go.Proofs.YtldheeicjnncoaaGreat
open Go.RowKit
attribute [local go_sem ↓] Go.wp_at_zero Go.wp_at_succ

/-- a word over k letters, or a fault -/
def ParR (k M B : Nat) (w' : World) (v : Value) : Prop := ∃ (a : Option Addr) (n c : Nat) (r : Bool), v = .tuple #[.slice a n c, .bool r] ∧ (r = true → ∃ l, l.length ≤ M ∧ n = l.length ∧ LetW k l ∧ Own B w' (.slice a n c) l)

set_option maxRecDepth 100000 in
set_option maxHeartbeats 4000000 in
theorem l06Parse_ok (w : World) (k : Nat) (s : ByteArray) (hk : k ≤ 100) (hs : s.size ≤ 1000) :
    Calls Tryz.prog 381 #[.int .i64 k, .string s] w (Ret w (ParR k s.size w.heap.size)) := by
  rcases h1 : (s.toList == [49]) with _ | _
  case' true =>
    go_enter Tryz.func381, Tryz.ntmps381
    go_wp2
    exact bodyPost_ret (v := .tuple #[.slice (some ⟨w.heap.size, 0, none⟩) 0 0, .bool true]) (by simp [results, Tryz.results381, go_sem]) rfl ⟨_, rfl, World.grownBy_alloc _ _ _, _, _, _, true, rfl, fun _ => ⟨[], by simp, rfl, (fun x hx => by cases hx), World.ownsRow_lit w #[] 0 (Nat.le_refl _) (by decide) rfl⟩⟩
  go_enter Tryz.func381, Tryz.ntmps381
  go_wp2
  go_loopw [6, 7] (fun ov iv wr => ∃ (i : Nat) (l : List Int) (v4 : Value), v4 = ov ∧ iv = .int .i64 i ∧ i ≤ s.size ∧ l.length = i ∧ LetW k l ∧ Ext w wr ∧ Own w.heap.size wr v4 l) (fun _ iv _ => s.size - (intOf iv).toNat)
  case atStart => exact ⟨0, [], _, rfl, rfl, by omega, rfl, (fun x hx => by cases hx), World.grownBy_alloc _ _ _, World.ownsRow_lit w #[] 0 (Nat.le_refl _) (by decide) rfl⟩
  case round =>
    obtain ⟨i, l, v4, rfl, rfl, hi, hli, hlw, hg, hO⟩ := hrel
    by_cases hlt : i < s.size
    · have hlt' : (i : Int) < s.size := by omega
      have HL := Lib.hid (And.intro hli hlw); clear hli hlw
      go_wp2
      go_quiet (fail)
      rename_i nq
      generalize wrap64 (wrap64 (wrap64 (s[i].toNat : Int) - 97) + 1) = sm
      generalize wrap64 (wrap64 (wrap64 (s[i].toNat : Int) - 65) + 1) = lg
      obtain ⟨wq, hwq⟩ : ∃ wq, wq = wr.drewN nq := ⟨_, rfl⟩
      have hgq0 : Ext wr wq := by rw [hwq]; exact grown_drewN _ _ _
      rw [← hwq]
      have hgq := grown_trans hg hgq0
      have hOq := hO.ext0 hgq0
      clear hwq hgq0 hO hg
      have hl1 : l.length ≤ 1000000 := by have := HL.out.1; omega
      go_wp2_with fail
      refine Calls.mono (l01In_ok sm 1 k wq) ?_
      rintro _ _ ⟨rfl, rfl⟩
      rcases hb1 : inB sm 1 k with _ | _
      · go_wp2_with fail
        refine Calls.mono (l01In_ok lg 1 k wq) ?_
        rintro _ _ ⟨rfl, rfl⟩
        rcases hb2 : inB lg 1 k with _ | _
        · go_wp2
          exact bodyPost_ret (v := .tuple #[.slice none 0 0, .bool false]) (by simp [results, Tryz.results381, go_sem]) rfl ⟨_, rfl, hgq, none, 0, 0, false, rfl, fun h => by cases h⟩
        · have hlg : 1 ≤ lg ∧ lg ≤ k := by simpa [inB] using hb2
          have hneg : wrap64 (-lg) = -lg := IntWalk.wrap64_in _ (by omega)
          have HG := Lib.hid hlg; clear hlg hb1 hb2
          go_wp2_with (first | (at_builtin; refine wp_app_int rfl _ _ rfl w.heap.size v4 l (-lg) rfl wq hOq rfl rfl hl1 hgq.size ?_; intro v5 w5 hO5 hg5; have hgw5 := grown_own hgq hg5 (fun j hj hlt => by have := (hOq.lt j hj).1; omega)) | fail)
          clear hneg
          go_roundw
          case rel => exact ⟨i + 1, _, v5, rfl, by go_num, by omega, by rw [List.length_append, HL.out.1]; rfl, (fun x hx => by
            rcases List.mem_append.1 hx with h | h
            · exact HL.out.2 x h
            · rw [List.mem_singleton.1 h]; have := HG.out; omega), hgw5, hO5⟩
          case measure => simp [intOf]; omega
      · have hsm : 1 ≤ sm ∧ sm ≤ k := by simpa [inB] using hb1
        have HG := Lib.hid hsm; clear hsm hb1
        go_wp2_with (first | (at_builtin; refine wp_app_int rfl _ _ rfl w.heap.size v4 l sm rfl wq hOq rfl rfl hl1 hgq.size ?_; intro v5 w5 hO5 hg5; have hgw5 := grown_own hgq hg5 (fun j hj hlt => by have := (hOq.lt j hj).1; omega)) | fail)
        go_roundw
        case rel => exact ⟨i + 1, _, v5, rfl, by go_num, by omega, by rw [List.length_append, HL.out.1]; rfl, (fun x hx => by
          rcases List.mem_append.1 hx with h | h
          · exact HL.out.2 x h
          · rw [List.mem_singleton.1 h]; have := HG.out; omega), hgw5, hO5⟩
        case measure => simp [intOf]; omega
    · have hie : i = s.size := by omega
      have hlt' : ¬ ((i : Int) < s.size) := by omega
      obtain ⟨a8, c8, hv8, _⟩ := (hO.ints (by omega)).shape
      subst hv8
      have HL := Lib.hid (And.intro hli hlw); clear hli hlw hie
      go_wp2
      exact bodyPost_ret (v := .tuple #[.slice a8 l.length c8, .bool (decide ((0 : Int) < l.length))]) (by simp [results, Tryz.results381, go_sem]) rfl ⟨_, rfl, hg, a8, l.length, c8, _, rfl, fun _ => ⟨l, by have := HL.out.1; omega, rfl, HL.out.2, hO⟩⟩

end Go.Proofs.YtldheeicjnncoaaGreat
namespace Go.Proofs.YtldheeicjnncoaaGreat
open Go.RowKit

theorem und_strs : Tryz.prog.underlying 250 = some (.slice 9) := by kernel_rfl
theorem Tryz.infoStr : (Tryz.prog.info? 9).map (fun i => (i.zero, i.size, i.bytes)) = some (some (.string ⟨#[]⟩), 1, 16) := by kernel_rfl

/-- texts of bounded size in a row of the call's own -/
def StrsR (M B : Nat) (w' : World) (v : Value) : Prop := ∃ (a : Option Addr) (c : Nat) (ts : List ByteArray), v = .slice a ts.length c ∧ 1 ≤ ts.length ∧ ts.length ≤ M + 1 ∧ (∀ t ∈ ts, t.size ≤ M) ∧ OwnV B 9 w' (.slice a ts.length c) (ts.map Value.string)

theorem ext_size_le (s : ByteArray) (a b : Nat) (M : Nat) (h : s.size ≤ M) : (s.extract a b).size ≤ M := by
  simp [ByteArray.size_extract]; omega

set_option maxRecDepth 100000 in
set_option maxHeartbeats 4000000 in
theorem l01Split_ok (w : World) (s : ByteArray) (b : Int) (hs : s.size ≤ 1000) :
    Calls Tryz.prog 356 #[.string s, .int .u8 b] w (Ret w (StrsR s.size w.heap.size)) := by
  go_enter Tryz.func356, Tryz.ntmps356
  go_wp2
  go_loopw [5, 6, 7] (fun ov fv iv wr => ∃ (i f : Nat) (ts : List ByteArray) (v4 : Value), v4 = ov ∧ fv = .int .i64 f ∧ iv = .int .i64 i ∧ i ≤ s.size ∧ f ≤ i ∧ ts.length ≤ i ∧ (∀ t ∈ ts, t.size ≤ s.size) ∧ Ext w wr ∧ OwnV w.heap.size 9 wr v4 (ts.map Value.string)) (fun _ _ iv _ => s.size - (intOf iv).toNat)
  case atStart => exact ⟨0, 0, [], _, rfl, rfl, rfl, by omega, by omega, by simp, (fun x hx => by cases hx), World.grownBy_alloc _ _ _, World.ownsRow_lit w #[] 0 (Nat.le_refl _) (by decide) rfl⟩
  case round =>
    obtain ⟨i, f, ts, v4, rfl, rfl, rfl, hi, hf, htl, hts, hg, hO⟩ := hrel
    have hfi : (f : Int) ≤ i := by omega
    have hl1 : (ts.map Value.string).length ≤ 1000000 := by rw [List.length_map]; omega
    have HL := Lib.hid (And.intro htl (And.intro hts hl1)); clear htl hts hl1
    by_cases hlt : i < s.size
    · have hlt' : (i : Int) < s.size := by omega
      go_wp2_with (first | (at_builtin; refine wp_app_v 250 9 (.string ⟨#[]⟩) 16 und_strs Tryz.infoStr rfl (by decide) rfl _ _ rfl w.heap.size wr v4 _ (ts.map Value.string) rfl hO rfl rfl rfl HL.out.2.2 hg.size ?_; intro v5 w5 hO5 hg5; have hgw5 := grown_own hg hg5 (fun j hj hlt => by have := (hO.lt j hj).1; omega)) | fail)
      · go_roundw
        case rel => exact ⟨i + 1, i + 1, ts ++ [s.extract f i], v5, rfl, by go_num, by go_num, by omega, by omega, by rw [List.length_append, List.length_singleton]; have := HL.out.1; omega, (fun t ht => by
          rcases List.mem_append.1 ht with h | h
          · exact HL.out.2.1 t h
          · rw [List.mem_singleton.1 h]; exact ext_size_le s f i _ (Nat.le_refl _)), hgw5, by rw [List.map_append]; exact hO5⟩
        case measure => simp [intOf]; omega
      · go_roundw
        case rel => exact ⟨i + 1, f, ts, v4, rfl, rfl, by go_num, by omega, by omega, by have := HL.out.1; omega, HL.out.2.1, hg, hO⟩
        case measure => simp [intOf]; omega
    · have hlt' : ¬ ((i : Int) < s.size) := by omega
      go_wp2_with (first | (at_builtin; refine wp_app_v 250 9 (.string ⟨#[]⟩) 16 und_strs Tryz.infoStr rfl (by decide) rfl _ _ rfl w.heap.size wr v4 _ (ts.map Value.string) rfl hO rfl rfl rfl HL.out.2.2 hg.size ?_; intro v5 w5 hO5 hg5; have hgw5 := grown_own hg hg5 (fun j hj hlt => by have := (hO.lt j hj).1; omega)) | fail)
      have hll : (ts ++ [s.extract f s.size]).length = ts.length + 1 := by simp
      have hO6 : OwnV w.heap.size 9 w5 v5 ((ts ++ [s.extract f s.size]).map Value.string) := by rw [List.map_append]; exact hO5
      obtain ⟨a5, c5, rfl⟩ : ∃ a c, v5 = .slice a (ts ++ [s.extract f s.size]).length c := by
        rcases hO6.form with ⟨rfl, hn⟩ | ⟨g, cap, rfl, _, _, _⟩
        · have := congrArg List.length hn; simp at this
        · exact ⟨_, _, by rw [List.length_map]⟩
      go_ret
      exact ⟨_, rfl, hgw5, a5, c5, ts ++ [s.extract f s.size], rfl, by omega, by have := HL.out.1; omega, (fun t ht => by
          rcases List.mem_append.1 ht with h | h
          · exact HL.out.2.1 t h
          · rw [List.mem_singleton.1 h]; exact ext_size_le s f _ _ (Nat.le_refl _)), hO6⟩

end Go.Proofs.YtldheeicjnncoaaGreat
namespace Go.Proofs.YtldheeicjnncoaaGreat
open Go.RowKit
attribute [local go_sem ↓] Go.wp_at_zero Go.wp_at_succ

set_option maxRecDepth 100000 in
set_option maxHeartbeats 4000000 in
theorem l01Value_ok (w : World) (s : ByteArray) (hs : s.size ≤ 1000) :
    Calls Tryz.prog 380 #[.string s] w (Ret w fun _ v => ∃ x : Int, v = .int .i64 x) := by
  have hfin : (Ret w fun (_ : World) v => ∃ x : Int, v = .int .i64 x) (.returned (.int .i64 (-1))) w := ⟨_, rfl, Ext.refl _, _, rfl⟩
  by_cases h0 : s.size = 0
  · go_enter Tryz.func380, Tryz.ntmps380
    go_wp2
    go_ret
    exact ⟨_, rfl, Ext.refl _, _, rfl⟩
  by_cases h6 : 6 < s.size
  · go_enter Tryz.func380, Tryz.ntmps380
    go_wp2
    go_ret
    exact ⟨_, rfl, Ext.refl _, _, rfl⟩
  clear hfin
  go_enter Tryz.func380, Tryz.ntmps380
  go_wp2
  all_goals first
    | (go_ret; exact ⟨_, rfl, Ext.refl _, _, rfl⟩)
    | skip
  all_goals
    (try generalize (((s[0]'(by assumption)).toNat : Int) == 48) = z2)
    (try generalize (s[0]'(by assumption)).toNat = c0)
    (try generalize ((s.size : Int) == 0) = z0)
    (try generalize decide ((6 : Int) < s.size) = z1)
    go_loopw [3, 4] (fun nv iv wx => ∃ (i : Nat) (x : Int), nv = .int .i64 x ∧ iv = .int .i64 i ∧ i ≤ s.size ∧ wx = w) (fun _ iv _ => s.size - (intOf iv).toNat)
    case atStart => exact ⟨0, 0, rfl, rfl, by omega, rfl⟩
    case round =>
      obtain ⟨i, x, rfl, rfl, hi, rfl⟩ := hrel
      by_cases hlt : i < s.size
      · have hlt' : (i : Int) < s.size := by omega
        go_wp2
        all_goals first
          | (go_ret; exact ⟨_, rfl, Ext.refl _, _, rfl⟩)
          | skip
        all_goals
          go_roundw
          case rel => exact ⟨i + 1, _, rfl, by go_num, by omega, trivial⟩
          case measure => simp [intOf]; omega
      · have hlt' : ¬ ((i : Int) < s.size) := by omega
        go_wp2
        go_ret
        exact ⟨_, rfl, Ext.refl _, _, rfl⟩

end Go.Proofs.YtldheeicjnncoaaGreat
namespace Go.Proofs.YtldheeicjnncoaaGreat
open Go.RowKit

/-- at most 6 primes, or a fault -/
def OrdsR (B : Nat) (w' : World) (v : Value) : Prop := ∃ (a : Option Addr) (n c : Nat) (r : Bool), v = .tuple #[.slice a n c, .bool r] ∧ (r = true → ∃ o, n = o.length ∧ o.length ≤ 6 ∧ (∀ x ∈ o, primeB x = true) ∧ Own B w' (.slice a n c) o)

theorem StrsR.at {B : Nat} {w : World} {a : Option Addr} {c : Nat} {ts : List ByteArray} (h : OwnV B 9 w (.slice a ts.length c) (ts.map Value.string)) (i : Nat) (hi : i < ts.length) :
    ∃ b, a = some ⟨b, 0, none⟩ ∧ w.cell? ⟨b, i, none⟩ = some (.string (gt ts i)) := by
  rcases h.form with ⟨e, hn⟩ | ⟨g, cap, e, _, _, _⟩
  · have : ts = [] := by simpa using hn
    subst this; simp at hi
  · simp only [Value.slice.injEq] at e
    obtain ⟨rfl, _, _⟩ := e
    refine ⟨g, rfl, ?_⟩
    have := h.cell i (by rw [List.length_map]; exact hi)
    rw [gt_map _ _ _ hi] at this
    exact this

theorem prime_bd {x : Int} (h : primeB x = true) : 1 ≤ x ∧ x ≤ 7 := by
  unfold primeB at h; simp at h; omega

set_option maxRecDepth 100000 in
set_option maxHeartbeats 4000000 in
theorem l07Orders_ok (w : World) (s : ByteArray) (hs : s.size ≤ 1000) :
    Calls Tryz.prog 357 #[.string s] w (Ret w (OrdsR w.heap.size)) := by
  rcases h1 : (s.toList == [49]) with _ | _
  case' true =>
    go_enter Tryz.func357, Tryz.ntmps357
    go_wp2
    go_ret2
    exact ⟨_, rfl, World.grownBy_alloc _ _ _, _, _, _, true, rfl, fun _ => ⟨[], rfl, by simp, (fun x hx => by cases hx), World.ownsRow_lit w #[] 0 (Nat.le_refl _) (by decide) rfl⟩⟩
  go_enter Tryz.func357, Tryz.ntmps357
  go_wp2_with fail
  have hg0 : Ext w (w.alloc (.cells #[] 2)) := World.grownBy_alloc _ _ _
  have hS0 : (w.alloc (.cells #[] 2)).heap.size = w.heap.size + 1 := by simp
  have hS0 := Lib.hid hS0
  have hO0 : Own w.heap.size (w.alloc (.cells #[] 2)) (.slice (some ⟨w.heap.size, 0, none⟩) 0 0) [] := World.ownsRow_lit w #[] 0 (Nat.le_refl _) (by decide) rfl
  generalize w.alloc (.cells #[] 2) = w0 at *
  refine Calls.mono (l01Split_ok w0 s 32 hs) ?_
  rintro e1 w1 ⟨v1, rfl, hg1, a1, c1, ts, rfl, hl1, hlM, hts, hT⟩
  have hO1 := hO0.ext0 hg1
  have hg01 := grown_trans hg0 hg1
  have HL := Lib.hid (And.intro hl1 (And.intro hlM hts)); clear hl1 hlM hts hO0
  go_wp2_with fail
  go_loopw [4, 6] (fun ov iv wr => ∃ (i : Nat) (o : List Int) (v4 : Value), v4 = ov ∧ iv = .int .i64 i ∧ i ≤ ts.length ∧ o.length = i ∧ o.length ≤ 6 ∧ (∀ x ∈ o, primeB x = true) ∧ Ext w wr ∧ Own w.heap.size wr v4 o ∧ w1.grownBy wr (some w.heap.size) ∧ (∀ k, v4.ownBlock = some k → k = w.heap.size ∨ w1.heap.size ≤ k)) (fun _ iv _ => ts.length - (intOf iv).toNat)
  case atStart => exact ⟨0, [], _, rfl, rfl, by omega, rfl, by simp, (fun x hx => by cases hx), hg01, hO1, grown_refl _ _, fun k hk => .inl (own_blk hk)⟩
  case round =>
    clear hO1
    obtain ⟨i, o, v4, rfl, rfl, hi, hoi, ho6, hop, hg, hO, hgr, hob⟩ := hrel
    have ho1 : o.length ≤ 1000000 := by omega
    have HO := Lib.hid (And.intro hoi hop); clear hoi hop
    by_cases hlt : i < ts.length
    · have hlt' : (i : Int) < ts.length := by omega
      obtain ⟨b, rfl, hc0⟩ := StrsR.at hT i hlt
      have hbl := hT.lt b rfl
      have hs0 := hS0.out
      have hc := hgr.cell hc0 (by simp; omega)
      have hsz : (gt ts i).size ≤ 1000 := by have := HL.out.2.2 _ (gtMem hlt); omega
      clear hc0
      go_wp2_with fail
      refine Calls.mono (l01Value_ok wr (gt ts i) hsz) ?_
      rintro e2 w2 ⟨v2, rfl, hg2, x, rfl⟩
      have hO2 := hO.ext0 hg2
      have hgw2 := grown_trans hg hg2
      have hgr2 := grown_trans hgr (grown_of_ext _ hg2)
      have hsz2 := hgr2.size
      have HOB := Lib.hid (And.intro hob hbl); clear hob hbl
      clear hc hO
      go_wp2_with fail
      refine Calls.mono (l01Prime_ok x w2) ?_
      rintro _ _ ⟨rfl, rfl⟩
      rcases hp : primeB x with _ | _
      · go_wp2_with fail
        go_ret2
        exact ⟨_, rfl, hgw2, none, 0, 0, false, rfl, fun h => by cases h⟩
      · by_cases h6 : 6 ≤ i
        · have h6' : (6 : Int) ≤ i := by omega
          go_wp2_with fail
          go_ret2
          exact ⟨_, rfl, hgw2, none, 0, 0, false, rfl, fun h => by cases h⟩
        · have h6' : ¬ (6 : Int) ≤ i := by omega
          go_wp2_with (first | (at_builtin; refine wp_app_intb rfl _ _ rfl w.heap.size v4 o x rfl w2 hO2 rfl rfl ho1 hgw2.size ?_; intro v5 w5 hO5 hg5 hb5; have hgw5 := grown_own hgw2 hg5 (fun j hj hlt => by have := (hO2.lt j hj).1; omega)) | fail)
          have hgr5 : w1.grownBy w5 (some w.heap.size) := grown_own hgr2 hg5 (fun j hj hlt => by rcases HOB.out.1 j hj with h | h; rw [h]; omega)
          have hll : (o ++ [x]).length = o.length + 1 := by simp
          go_roundw
          case rel => exact ⟨i + 1, o ++ [x], v5, rfl, by go_num, by omega, by have := HO.out.1; omega, by have := HO.out.1; omega, (fun y hy => by
            rcases List.mem_append.1 hy with h | h
            · exact HO.out.2 y h
            · rw [List.mem_singleton.1 h]; exact hp), hgw5, hO5, hgr5, (fun k hk => by
              rcases hb5 with h | h
              · rw [h] at hk; exact HOB.out.1 k hk
              · have := h k hk; omega)⟩
          case measure => simp [intOf]; omega
    · have hlt' : ¬ ((i : Int) < ts.length) := by omega
      have hcon := l07Product_ok wr v4 o _ (hO.ints (by omega)) (fun j hj => prime_bd (HO.out.2 _ (gtMem hj)))
      go_wp2_with fail
      refine Calls.mono hcon ?_
      rintro _ _ ⟨rfl, rfl⟩
      clear hcon
      obtain ⟨a4, c4, hv4, _⟩ := (hO.ints (by omega)).shape
      subst hv4
      go_wp2_with fail
      go_ret2
      exact ⟨_, rfl, hg, _, _, _, _, rfl, fun _ => ⟨o, rfl, ho6, HO.out.2, hO⟩⟩

end Go.Proofs.YtldheeicjnncoaaGreat
namespace Go.Proofs.YtldheeicjnncoaaGreat
open Go.RowKit

/-- the letter of a generator or its inverse -/
def letN (x : Int) : Int := if 0 < x then 96 + x else 64 - x
/-- the text of a word -/
def wtx (W : List Int) : List Int := if W = [] then [49] else W.map letN
theorem wtx_len (W : List Int) (n : Nat) (h : W.length ≤ n) : (wtx W).length ≤ n + 1 := by
  unfold wtx; split <;> simp; omega

theorem wp_app_byte {ops : Array Oper} {rest : List Oper} {o : Oper} {a : Act} {Q : Exit → Act → World → Prop} {w : World} (hgd : o.guard = none) (s x : Operand)
    (ho : o.op = Op.call { callee := Callee.builtin Builtin.append, args := #[s, x], argTypes := #[22, 22] }) (B : Nat) (v : Value) (l : List Int) (y : Int) (hs : a.eval s = v) (w2 : World) (hown : OwnV B 5 w2 v (byV l))
    (hw : w = w2.alloc (.cells #[.int .u8 y] 5)) (hx : a.eval x = .slice (some ⟨w2.heap.size, 0, none⟩) 1 1) (hlen : l.length ≤ 1000000) (hbase : B ≤ w2.heap.size)
    (h : ∀ v' w', OwnV B 5 w' v' (byV (l ++ [y])) → w2.grownBy w' v.ownBlock → wpList Tryz.prog ops Q rest (a.put o.dst v') w') :
    wpList Tryz.prog ops Q (o :: rest) a w :=
  wp_app_v 22 5 (.int .u8 0) 1 und_bytes Tryz.infoByte rfl (by decide) hgd s x ho B w2 v (.int .u8 y) (byV l) hs hown hw rfl hx (by unfold byV; rw [List.length_map]; exact hlen) hbase
    (fun v' w' h1 h2 => h v' w' (by unfold byV at h1 ⊢; rw [List.map_append]; exact h1) h2)

theorem u8_in (x : Int) (h : 0 ≤ x ∧ x ≤ 255) : IntKind.u8.wrap x = x := by
  simp only [IntKind.wrap, IntKind.signed, IntKind.bits]
  simp; omega

set_option maxRecDepth 100000 in
set_option maxHeartbeats 4000000 in
theorem l06Text_ok (w : World) (v : Value) (W : List Int) (S : Nat → Prop) (hW : Ints S w v W) (hb : ∀ x ∈ W, -26 ≤ x ∧ x ≤ 26) (hl : W.length ≤ 1000) :
    Calls Tryz.prog 385 #[v] w (Ret w fun _ r => r = .string (strOfNums (wtx W))) := by
  obtain ⟨a, cap, rfl, _, _⟩ := hW.shape
  by_cases h0 : W.length = 0
  · have hn : W = [] := List.eq_nil_of_length_eq_zero h0
    subst hn
    go_enter Tryz.func385, Tryz.ntmps385
    go_wp2
    go_ret
    exact ⟨_, rfl, Ext.refl _, rfl⟩
  have hz : ((W.length : Int) == 0) = false := by simp; intro h; apply h0; rw [h]; rfl
  have hwt : wtx W = W.map letN := by unfold wtx; rw [if_neg (fun h => h0 (by rw [h]; rfl))]
  have HB := Lib.hid (And.intro hb hwt); clear hb hwt h0
  go_enter Tryz.func385, Tryz.ntmps385
  go_wp2
  go_loopw [3, 4] (fun ov iv wr => ∃ (i : Nat) (v4 : Value), v4 = ov ∧ iv = .int .i64 i ∧ i ≤ W.length ∧ Ext w wr ∧ OwnV w.heap.size 5 wr v4 (byV ((W.take i).map letN))) (fun _ iv _ => W.length - (intOf iv).toNat)
  case atStart => exact ⟨0, _, rfl, rfl, by omega, World.grownBy_alloc _ _ _, World.ownsRow_lit w #[] 0 (Nat.le_refl _) (by decide) rfl⟩
  case round =>
    obtain ⟨i, v4, rfl, rfl, hi, hg, hO⟩ := hrel
    by_cases hlt : i < W.length
    · have hlt' : (i : Int) < W.length := by omega
      obtain ⟨b, off, rfl, _, _, hc⟩ := Ints.at (Ints.ext hW hg) i hlt
      have hx := HB.out.1 _ (gtMem hlt)
      have hst : (W.take (i + 1)).map letN = (W.take i).map letN ++ [letN (gt W i)] := by rw [take_succ_gt W i hlt, List.map_append]; rfl
      have hll : ((W.take i).map letN).length ≤ 1000000 := by rw [List.length_map, List.length_take]; omega
      obtain ⟨x, hxe⟩ : ∃ x, x = gt W i := ⟨_, rfl⟩
      rw [← hxe] at hx hst hc
      clear hxe
      by_cases hp : 0 < x
      · have hle : letN x = 97 + x - 1 := by unfold letN; rw [if_pos hp]; omega
        rw [hle] at hst
        have hu : IntKind.u8.wrap (97 + x - 1) = 97 + x - 1 := u8_in _ (by omega)
        have HS := Lib.hid (And.intro hst hll); clear hst hll hle
        go_wp2_with (first | (at_builtin; refine wp_app_byte rfl _ _ rfl w.heap.size v4 ((W.take i).map letN) (97 + x - 1) rfl wr hO rfl rfl HS.out.2 hg.size ?_; intro v5 w5 hO5 hg5; have hgw5 := grown_own hg hg5 (fun j hj hlt => by have := (hO.lt j hj).1; omega)) | fail)
        clear hu
        go_roundw
        case rel => exact ⟨i + 1, v5, rfl, by go_num, by omega, hgw5, by rw [HS.out.1]; exact hO5⟩
        case measure => simp [intOf]; omega
      · have hle : letN x = 65 - x - 1 := by unfold letN; rw [if_neg hp]; omega
        rw [hle] at hst
        have hu : IntKind.u8.wrap (65 - x - 1) = 65 - x - 1 := u8_in _ (by omega)
        have HS := Lib.hid (And.intro hst hll); clear hst hll hle
        go_wp2_with (first | (at_builtin; refine wp_app_byte rfl _ _ rfl w.heap.size v4 ((W.take i).map letN) (65 - x - 1) rfl wr hO rfl rfl HS.out.2 hg.size ?_; intro v5 w5 hO5 hg5; have hgw5 := grown_own hg hg5 (fun j hj hlt => by have := (hO.lt j hj).1; omega)) | fail)
        clear hu
        go_roundw
        case rel => exact ⟨i + 1, v5, rfl, by go_num, by omega, hgw5, by rw [HS.out.1]; exact hO5⟩
        case measure => simp [intOf]; omega
    · have hie : i = W.length := by omega
      subst hie
      rw [List.take_length] at hO
      have hcv := conv_bytes hO
      go_wp2
      go_ret
      exact ⟨_, rfl, hg, by rw [HB.out.2]; rfl⟩

set_option maxHeartbeats 4000000 in
theorem l07Letter_ok (w : World) (i : Nat) (hi : i < 26) :
    Calls Tryz.prog 384 #[.int .i64 i] w (Ret w fun _ r => r = .string (strOfNums [97 + (i : Int)])) := by
  have hw2 : IntKind.i64.wrap ((i : Int) + 1) = (i : Int) + 1 := IntWalk.i64_in _ (by omega)
  have hlt : wtx [(i : Int) + 1] = [97 + (i : Int)] := by
    unfold wtx; rw [if_neg (by simp)]
    simp only [List.map_cons, List.map_nil, letN]
    rw [if_pos (by omega), show (96 : Int) + ((i : Int) + 1) = 97 + (i : Int) by omega]
  have hI : Ints Any (w.alloc (.cells #[.int .i64 ((i : Int) + 1)] 2)) (.slice (some ⟨w.heap.size, 0, none⟩) 1 1) [(i : Int) + 1] :=
    ints_of_own (show Own 0 _ _ [(i : Int) + 1] from World.ownsRow_lit w #[.int .i64 ((i : Int) + 1)] 1 (Nat.zero_le _) (by decide) rfl) (by simp) (fun _ _ => trivial)
  have hcon := l06Text_ok _ _ [(i : Int) + 1] Any hI (fun x hx => by simp at hx; omega) (by simp)
  rw [hlt] at hcon
  have HC := Lib.hid hcon; clear hcon hlt hI
  go_enter Tryz.func384, Tryz.ntmps384
  go_wp2_with fail
  refine Calls.mono HC.out ?_
  rintro e1 w1 ⟨v1, rfl, hg1, rfl⟩
  clear hw2
  go_wp2
  go_ret
  exact ⟨_, rfl, grown_trans (World.grownBy_alloc _ _ _) hg1, rfl⟩

set_option maxHeartbeats 4000000 in
theorem l01Dec_ok (w : World) (n : Int) (h0 : 0 ≤ n) (h9 : n < 10) :
    Calls Tryz.prog 383 #[.int .i64 n] w (Ret w fun _ r => r = .string (strOfNums [48 + n])) := by
  have hu : IntKind.u8.wrap (48 + n) = 48 + n := u8_in _ (by omega)
  have hcv : ∀ w0 : World, (convert 22 9 (.slice (some ⟨w0.heap.size, 0, none⟩) 1 1)).run Tryz.prog (w0.alloc (.cells #[.int .u8 (48 + n)] 5)) = .ok (.string (strOfNums [48 + n])) (w0.alloc (.cells #[.int .u8 (48 + n)] 5)) := fun w0 =>
    conv_bytes (B := 0) (l := [48 + n]) (World.ownsRow_lit w0 #[.int .u8 (48 + n)] 1 (Nat.zero_le _) (by decide) rfl)
  go_enter Tryz.func383, Tryz.ntmps383
  go_wp2
  go_ret
  exact ⟨_, rfl, World.grownBy_alloc _ _ _, rfl⟩

end Go.Proofs.YtldheeicjnncoaaGreat
namespace Go.Proofs.YtldheeicjnncoaaGreat
open Go.RowKit
attribute [local go_sem ↓] Go.wp_at_zero Go.wp_at_succ

/-- some presentation with the same orders, and whether a relation was read -/
def RelR (F : Nat → Prop) (B : Nat) (P : Pr) (w' : World) (v : Value) : Prop := ∃ (vo vp vc : Value) (r : Bool) (Q : Pr), v = .tuple #[.agg #[vo, vp, vc], .bool r] ∧ Shp 6 Q ∧ Q.orders = P.orders ∧ Pres3 (fun k => F k ∨ B ≤ k) w' vo vp vc Q

theorem rel_ret {w w1 : World} {F F' : Nat → Prop} {br : Nat} {x y z : Value} {P Q : Pr} {r : Bool} (hgw : Ext w w1) (hbr : w.heap.size ≤ br) (h3 : Pres3 F' w1 x y z Q) (hF : ∀ k, F' k → k < w1.heap.size → (F k ∨ w.heap.size ≤ k) ∧ k ≠ br) (hS : Shp 6 Q) (ho : Q.orders = P.orders) :
    Ret w (RelR F w.heap.size P) (.returned (.tuple #[.agg #[x, y, z], .bool r])) (((w1.setCell ⟨br, 0, none⟩ x).setCell ⟨br, 1, none⟩ y).setCell ⟨br, 2, none⟩ z) := by
  have hT := grown_set3 w1 br x y z
  exact ⟨_, rfl, grown_own hgw hT (fun j hj hlt => by cases hj; omega), x, y, z, r, Q, rfl, hS, ho, h3.mono (fun k hk hlt => ⟨(hF k hk hlt).1, Nat.lt_of_lt_of_le hlt hT.size, hT.block k hlt (fun e => (hF k hk hlt).2 (by cases e; rfl))⟩)⟩
/-- p itself is handed back -/
theorem relP_ret {w w1 : World} {F : Nat → Prop} {br : Nat} {x y z : Value} {P : Pr} {r : Bool} (hgw : Ext w w1) (hbr : w.heap.size ≤ br) (h3 : Pres3 F w x y z P) (hS : Shp 6 P) :
    Ret w (RelR F w.heap.size P) (.returned (.tuple #[.agg #[x, y, z], .bool r])) (((w1.setCell ⟨br, 0, none⟩ x).setCell ⟨br, 1, none⟩ y).setCell ⟨br, 2, none⟩ z) :=
  rel_ret hgw hbr (F' := fun k => F k ∧ k < w.heap.size) (h3.mono (fun k hk hlt => ⟨⟨hk, hlt⟩, Nat.lt_of_lt_of_le hlt hgw.size, hgw.block k hlt (by simp)⟩)) (fun k hk _ => ⟨.inl hk.1, by omega⟩) hS rfl

set_option maxRecDepth 100000 in
set_option maxHeartbeats 8000000 in
theorem l07Relation_ok (w : World) (pv : Value) (P : Pr) (F : Nat → Prop) (s : ByteArray) (hp : PresV F w pv P) (hS : Shp 6 P) (hpr : ∀ x ∈ P.orders, primeB x = true) (hs : s.size ≤ 1000) :
    Calls Tryz.prog 358 #[pv, .string s] w (Ret w (RelR F w.heap.size P)) := by
  obtain ⟨vo, vp, vc, rfl, h3⟩ := hp
  obtain ⟨ao, co, hvo, _, _⟩ := h3.o.shape
  obtain ⟨ap, cp, hvp, _, _⟩ := Sl.shape h3.p
  obtain ⟨ac, cc, hvc, _, _⟩ := Sl.shape h3.c
  rw [hS.p] at hvp
  rw [hS.c] at hvc
  subst hvo hvp hvc
  obtain ⟨n, hn⟩ : ∃ n, n = P.orders.length := ⟨_, rfl⟩
  rw [← hn] at h3
  rw [← hn]
  have hn6 : n ≤ 6 := by rw [hn]; exact hS.n
  have hgA : Ext w (w.alloc (.cells #[.slice ao n co, .slice ap n cp, .slice ac n cc] 28)) := World.grownBy_alloc _ _ _
  have hsA : (w.alloc (.cells #[.slice ao n co, .slice ap n cp, .slice ac n cc] 28)).heap.size = w.heap.size + 1 := by simp
  have hbA := Box3.made w 28 (.slice ao n co) (.slice ap n cp) (.slice ac n cc)
  have HH := Lib.hid (And.intro hS (And.intro hpr hn)); clear hS hpr hn
  go_enter Tryz.func358, Tryz.ntmps358
  go_wp2_with fail
  generalize w.alloc (.cells #[.slice ao n co, .slice ap n cp, .slice ac n cc] 28) = wA at *
  have hgB : Ext wA (wA.alloc (.cells #[.slice none 0 0, .slice none 0 0, .slice none 0 0] 28)) := World.grownBy_alloc _ _ _
  have hbB := Box3.made wA 28 (.slice none 0 0) (.slice none 0 0) (.slice none 0 0)
  have hbA := hbA.ext hgB
  have hg0 := grown_trans hgA hgB
  have hsB : (wA.alloc (.cells #[.slice none 0 0, .slice none 0 0, .slice none 0 0] 28)).heap.size = w.heap.size + 2 := by simp [hsA]
  rw [hsA] at hbB
  generalize wA.alloc (.cells #[.slice none 0 0, .slice none 0 0, .slice none 0 0] 28) = w0 at *
  clear hgB hgA
  refine Calls.mono (l01Split_ok w0 s 61 hs) ?_
  rintro e1 w1 ⟨v1, rfl, hg1, av, cv, ts, rfl, hl1, hlM, hts, hT⟩
  have hgw := grown_trans hg0 hg1
  have hbA1 := hbA.ext hg1
  have hbB1 := hbB.ext hg1
  obtain ⟨a0, a1, a2, a3, a4⟩ := id hbA1
  obtain ⟨b0, b1, b2, b3, b4⟩ := id hbB1
  have hZ1 := hbB1.all (.slice ao n co) (.slice ap n cp) (.slice ac n cc)
  obtain ⟨-, z0, z1, z2, -⟩ := id hZ1
  have hs12 : w.heap.size + 2 ≤ w1.heap.size := by have := hg1.size; omega
  have HL := Lib.hid (And.intro hlM (And.intro hts hsB)); clear hlM hts hsB hZ1 hbA hbB
  by_cases ht2 : ts.length = 2
  case neg =>
    have ht2' : ((ts.length : Int) != 2) = true := by simp; omega
    clear ht2
    go_wp2_with fail
    refine bodyPost_ret (v := .tuple #[.agg #[.slice ao n co, .slice ap n cp, .slice ac n cc], .bool false]) (by simp [results, Tryz.results358, go_sem, z0, z1, z2]) rfl ?_
    exact relP_ret hgw (by omega) h3 HH.out.1
  obtain ⟨bt, rfl, hc0⟩ := StrsR.at hT 0 (by omega)
  obtain ⟨_, hbt, hc1⟩ := StrsR.at hT 1 (by omega)
  cases hbt
  have hm0 := HL.out.2.1 _ (gtMem (show 0 < ts.length by omega))
  have hm1 := HL.out.2.1 _ (gtMem (show 1 < ts.length by omega))
  obtain ⟨t0, ht0⟩ : ∃ t0, t0 = gt ts 0 := ⟨_, rfl⟩
  obtain ⟨t1, ht1⟩ : ∃ t1, t1 = gt ts 1 := ⟨_, rfl⟩
  rw [← ht0] at hc0 hm0
  rw [← ht1] at hc1 hm1
  have hbtl := (hT.lt bt rfl).2
  clear hT ht0 ht1 HL
  rw [ht2]
  clear ht2 hl1
  by_cases h4 : t0.size = 4
  case neg =>
    have h4' : ((t0.size : Int) != 4) = true := by simp; omega
    clear h4
    go_wp2_with fail
    refine bodyPost_ret (v := .tuple #[.agg #[.slice ao n co, .slice ap n cp, .slice ac n cc], .bool false]) (by simp [results, Tryz.results358, go_sem, z0, z1, z2]) rfl ?_
    exact relP_ret hgw (by omega) h3 HH.out.1
  have h4' : ((t0.size : Int) != 4) = false := by simp; omega
  have h40 : 0 < t0.size := by omega
  have h42 : 2 < t0.size := by omega
  rcases hq0 : ((((t0[0]'(h40)).toNat : Nat) : Int) != 32) with _ | _
  case' true =>
    go_wp2_with fail
    refine bodyPost_ret (v := .tuple #[.agg #[.slice ao n co, .slice ap n cp, .slice ac n cc], .bool false]) (by simp [results, Tryz.results358, go_sem, z0, z1, z2]) rfl ?_
    exact relP_ret hgw (by omega) h3 HH.out.1
  rcases hq2 : ((((t0[2]'(h42)).toNat : Nat) : Int) != 94) with _ | _
  case' true =>
    go_wp2_with fail
    refine bodyPost_ret (v := .tuple #[.agg #[.slice ao n co, .slice ap n cp, .slice ac n cc], .bool false]) (by simp [results, Tryz.results358, go_sem, z0, z1, z2]) rfl ?_
    exact relP_ret hgw (by omega) h3 HH.out.1
  go_wp2_with fail
  refine Calls.mono (l06Parse_ok w1 n t1 (by omega) (by omega)) ?_
  rintro e2 w2 ⟨v2, rfl, hg2, aw, nw, cw, r2, rfl, hW2⟩
  clear a0 a1 a2 a3 a4 b0 b1 b2 b3 b4 z0 z1 z2
  have hbA2 := hbA1.ext hg2
  have hbB2 := hbB1.ext hg2
  clear hbA1 hbB1
  obtain ⟨a0, a1, a2, a3, a4⟩ := id hbA2
  obtain ⟨b0, b1, b2, b3, b4⟩ := id hbB2
  have hZ2 := hbB2.all (.slice ao n co) (.slice ap n cp) (.slice ac n cc)
  obtain ⟨-, z0, z1, z2, -⟩ := id hZ2
  clear hZ2
  have hgw2 := grown_trans hgw hg2
  have hc02 := hg2.cell hc0 (by simp)
  clear hc0 hc1
  cases r2
  case' false =>
    go_wp2_with fail
    refine bodyPost_ret (v := .tuple #[.agg #[.slice ao n co, .slice ap n cp, .slice ac n cc], .bool false]) (by simp [results, Tryz.results358, go_sem, z0, z1, z2]) rfl ?_
    exact relP_ret hgw2 (by omega) h3 HH.out.1
  obtain ⟨W, hWl, hnw, hWm, hOW⟩ := hW2 rfl
  subst hnw
  clear hW2
  have HW := Lib.hid (And.intro hWm hWl); clear hWm hWl
  go_wp2_with fail
  refine Calls.mono (l07Vector_ok w2 n _ W _ (hOW.ints (by have := HW.out.2; omega)) HW.out.1 (by omega) (by have := HW.out.2; omega)) ?_
  rintro e3 w3 ⟨v3, rfl, hg3, ax, nx, cx, r3, rfl, hV3⟩
  clear a0 a1 a2 a3 a4 b0 b1 b2 b3 b4 z0 z1 z2
  have hbA3 := hbA2.ext hg3
  have hbB3 := hbB2.ext hg3
  clear hbA2 hbB2
  obtain ⟨a0, a1, a2, a3, a4⟩ := id hbA3
  obtain ⟨b0, b1, b2, b3, b4⟩ := id hbB3
  have hZ3 := hbB3.all (.slice ao n co) (.slice ap n cp) (.slice ac n cc)
  obtain ⟨-, z0, z1, z2, -⟩ := id hZ3
  clear hZ3
  have hgw3 := grown_trans hgw2 hg3
  have hc03 := hg3.cell hc02 (by simp)
  clear hc02 hOW
  have h41 : 1 < t0.size := by omega
  have h43 : 3 < t0.size := by omega
  go_wp2_with fail
  go_quiet (fail)
  rename_i nq
  have hg4 : Ext w3 (w3.drewN nq) := grown_drewN _ _ _
  clear a0 a1 a2 a3 a4 b0 b1 b2 b3 b4 z0 z1 z2
  generalize w3.drewN nq = w4 at *
  generalize wrap64 (wrap64 ((t0[1]'(h41)).toNat : Int) - 97) = x
  generalize wrap64 (wrap64 ((t0[3]'(h43)).toNat : Int) - 97) = y
  have hbA4 := hbA3.ext hg4
  have hbB4 := hbB3.ext hg4
  clear hbA3 hbB3
  obtain ⟨a0, a1, a2, a3, a4⟩ := id hbA4
  obtain ⟨b0, b1, b2, b3, b4⟩ := id hbB4
  have hZ4 := hbB4.all (.slice ao n co) (.slice ap n cp) (.slice ac n cc)
  obtain ⟨-, z0, z1, z2, -⟩ := id hZ4
  clear hZ4
  have hgw4 := grown_trans hgw3 hg4
  have hc04 := hg4.cell hc03 (by simp)
  clear hc03
  cases r3
  case' false =>
    go_wp2_with fail
    refine bodyPost_ret (v := .tuple #[.agg #[.slice ao n co, .slice ap n cp, .slice ac n cc], .bool false]) (by simp [results, Tryz.results358, go_sem, z0, z1, z2]) rfl ?_
    exact relP_ret hgw4 (by omega) h3 HH.out.1
  obtain ⟨V, hVl, hnx, hVb, hOV⟩ := hV3 rfl
  have hnx := hnx.symm
  subst hnx
  have hOV4 := hOV.ext0 hg4
  clear hV3 hOV
  by_cases hx0 : x < 0
  case' pos =>
    go_wp2_with fail
    refine bodyPost_ret (v := .tuple #[.agg #[.slice ao n co, .slice ap n cp, .slice ac n cc], .bool false]) (by simp [results, Tryz.results358, go_sem, z0, z1, z2]) rfl ?_
    exact relP_ret hgw4 (by omega) h3 HH.out.1
  by_cases hxn : (n : Int) ≤ x
  case' pos =>
    go_wp2_with fail
    refine bodyPost_ret (v := .tuple #[.agg #[.slice ao n co, .slice ap n cp, .slice ac n cc], .bool false]) (by simp [results, Tryz.results358, go_sem, z0, z1, z2]) rfl ?_
    exact relP_ret hgw4 (by omega) h3 HH.out.1
  obtain ⟨X, rfl⟩ := Int.eq_ofNat_of_zero_le (show 0 ≤ x by omega)
  have hXn : (X : Int) < n := by omega
  have h3_4 := h3.mono (frame_of hgw4 (fun k hk _ => ⟨hk, by simp⟩))
  have hh3 : Pres3 F w4 (.slice ao n co) (.slice ap n cp) (.slice ac n cc) P := h3_4
  clear h3_4 hnx
  have HV := Lib.hid (And.intro hVl (And.intro hVb hOV4)); clear hVl hVb hOV4
  go_wp2_with fail
  clear a0 a1 a2 a3 a4 b0 b1 b2 b3 b4 z0 z1 z2
  refine Calls.mono (l07Own_ok w4 _ P F 6 ⟨_, _, _, rfl, hh3⟩ HH.out.1 (by omega)) ?_
  rintro e5 w5 ⟨v5, rfl, hg5, qo, qp, qc, rfl, hX5⟩
  obtain ⟨ao2, co2, ap2, cp2, ac2, cc2, e1, e2, e3⟩ := hX5.shape
  rw [HH.out.1.p] at e2
  rw [HH.out.1.c] at e3
  rw [← HH.out.2.2] at e1 e2 e3
  subst e1 e2 e3
  have hgq : Ext w5 (w5.alloc (.cells #[.slice ao2 n co2, .slice ap2 n cp2, .slice ac2 n cc2] 28)) := World.grownBy_alloc _ _ _
  have hbQ := Box3.made w5 28 (.slice ao2 n co2) (.slice ap2 n cp2) (.slice ac2 n cc2)
  have hs5 := hg5.size
  have hX6 : PresX (fun k => w4.heap.size ≤ k ∧ k < w5.heap.size) (w5.alloc (.cells #[.slice ao2 n co2, .slice ap2 n cp2, .slice ac2 n cc2] 28)) (.slice ao2 n co2) (.slice ap2 n cp2) (.slice ac2 n cc2) P := hX5.mono (fun k hk hlt => ⟨⟨hk, hlt⟩, Nat.lt_of_lt_of_le hlt hgq.size, hgq.block k hlt (by simp)⟩)
  have hg46 := grown_trans hg5 hgq
  go_wp2_with fail
  generalize w5.alloc (.cells #[.slice ao2 n co2, .slice ap2 n cp2, .slice ac2 n cc2] 28) = w6 at *
  clear hX5 hg5 hgq
  have hbA6 := hbA4.ext hg46
  have hbB6 := hbB4.ext hg46
  have hgw6 := grown_trans hgw4 hg46
  have hc06 := hg46.cell hc04 (by simp)
  obtain ⟨bo, oo, hao, _, hbl, hco⟩ := Ints.at (hh3.o.ext hg46) X (by rw [← HH.out.2.2]; omega)
  subst hao
  have hop := HH.out.2.1 _ (gtMem (show X < P.orders.length by rw [← HH.out.2.2]; omega))
  obtain ⟨o, ho⟩ : ∃ o, o = gt P.orders X := ⟨_, rfl⟩
  rw [← ho] at hco hop
  have ho7 := prime_bd hop
  clear ho hop hbA4 hbB4 hc04
  have f1 : ∀ w', Ext w6 w' → w'.cell? ⟨w.heap.size, 0, none⟩ = some (.slice (some ⟨bo, oo, none⟩) n co) := fun w' h => (hbA6.ext h).2.1
  have f2 : ∀ w', Ext w6 w' → w'.cell? ⟨bo, oo + X, none⟩ = some (.int .i64 o) := fun w' h => h.cell hco (by simp)
  have f3 : ∀ w', Ext w6 w' → w'.cell? ⟨bt, 0, none⟩ = some (.string t0) := fun w' h => h.cell hc06 (by simp)
  have h34 : (3 : Int) ≤ t0.size := by omega
  clear hco hc06
  go_region_held3 (fun w' => Ext w6 w') (first | exact grown_drew _ _ | assumption)
    (first
      | (go_at_call 383; refine Calls.mono (Calls.rel (w0 := w6) (by first | exact grown_drew _ _ | assumption) (l01Dec_ok _ o (by omega) (by omega))) ?_; rintro eD wD ⟨vD, rfl, hgD, hsD, rfl⟩))
  have hs6 := hg46.size
  have hs22 : w.heap.size + 2 ≤ w2.heap.size := by have := hg2.size; omega
  have hs42 : w2.heap.size ≤ w4.heap.size := by have := hg3.size; have := hg4.size; omega
  have hsw6 := hgw6.size
  have hbQD := hbQ.ext hgD
  have hbBD := hbB6.ext hgD
  have hgwD := grown_trans hgw6 hgD
  have hXD : PresX (fun k => w4.heap.size ≤ k ∧ k < w5.heap.size) wD (.slice ao2 n co2) (.slice ap2 n cp2) (.slice ac2 n cc2) P := hX6.mono (fun k hk hlt => ⟨hk, Nat.lt_of_lt_of_le hlt hgD.size, hgD.block k hlt (by simp)⟩)
  have hVI : Ints (fun k => w2.heap.size ≤ k ∧ k < w4.heap.size) wD (.slice ax n cx) V := (ints_of_own HV.out.2.2 (by have := HV.out.1; omega) (fun k hk => ⟨(HV.out.2.2.lt k hk).1, (HV.out.2.2.lt k hk).2⟩)).ext (grown_trans hg46 hgD)
  have hsw2 := hgw2.size
  have hbAD := hbA6.ext hgD
  have HC := Lib.hid (And.intro hXD hVI)
  have HV0 := Lib.hid HV.out.1
  clear hXD hVI f1 f2 f3 hX6 hbQ hbB6 hbA6 hh3
  rcases hbt : ((t0.extract 3 4).toList == (strOfNums [48 + o]).toList) with _ | _
  case' false =>
    clear hbt
    by_cases hy0 : y < 0
    case' pos =>
      obtain ⟨a0, a1, a2, a3, a4⟩ := id hbAD
      obtain ⟨b0, b1, b2, b3, b4⟩ := id hbBD
      have hZD := hbBD.all (.slice (some ⟨bo, oo, none⟩) n co) (.slice ap n cp) (.slice ac n cc)
      obtain ⟨-, z0, z1, z2, -⟩ := id hZD
      clear hZD HC HV
      go_wp2_with fail
      refine bodyPost_ret (v := .tuple #[.agg #[.slice (some ⟨bo, oo, none⟩) n co, .slice ap n cp, .slice ac n cc], .bool false]) (by simp [results, Tryz.results358, go_sem, z0, z1, z2]) rfl ?_
      exact relP_ret hgwD (by omega) h3 HH.out.1
    by_cases hyX : (X : Int) ≤ y
    case' pos =>
      obtain ⟨a0, a1, a2, a3, a4⟩ := id hbAD
      obtain ⟨b0, b1, b2, b3, b4⟩ := id hbBD
      have hZD := hbBD.all (.slice (some ⟨bo, oo, none⟩) n co) (.slice ap n cp) (.slice ac n cc)
      obtain ⟨-, z0, z1, z2, -⟩ := id hZD
      clear hZD HC HV
      go_wp2_with fail
      refine bodyPost_ret (v := .tuple #[.agg #[.slice (some ⟨bo, oo, none⟩) n co, .slice ap n cp, .slice ac n cc], .bool false]) (by simp [results, Tryz.results358, go_sem, z0, z1, z2]) rfl ?_
      exact relP_ret hgwD (by omega) h3 HH.out.1
    obtain ⟨Y, rfl⟩ := Int.eq_ofNat_of_zero_le (show 0 ≤ y by omega)
    have hnP := HH.out.2.2
    have hcl := HH.out.1.cl Y (by omega)
    have hcc := HH.out.1.c
    have hYX : Y < X := by omega
    obtain ⟨K, hK⟩ : ∃ K, K = X - Y - 1 := ⟨_, rfl⟩
    have hKl : K < (gt P.conj Y).length := by rw [hcl]; omega
    obtain ⟨g, capg, b, capb, z, hvc, ⟨hgB, hg5⟩, hgl, hcg, ⟨hbB, hb5⟩, hbg, hbl', hcb, hfb, hP3⟩ := PresX.putC HC.out.1 Y K (by omega) hKl HC.out.2 (fun k hk h => by omega)
    obtain ⟨rfl, rfl⟩ : ac2 = some ⟨g, 0, none⟩ ∧ cc2 = capg := by cases hvc; exact ⟨rfl, rfl⟩
    rw [hcl, ← hnP] at hcg
    obtain ⟨m, hm⟩ : ∃ m, m = n - 1 - Y := ⟨_, rfl⟩
    rw [← hm] at hcg
    have hKi : (X : Int) - (Y : Int) - 1 = (K : Int) := by omega
    have hKm : (K : Int) < m := by omega
    have hYn : (Y : Int) < n := by omega
    have hT := grown_set1 wD b K (.slice ax n cx)
    have hgwS : Ext w (wD.setCell ⟨b, K, none⟩ (.slice ax n cx)) := grown_own hgwD hT (fun j hj hlt => by cases hj; omega)
    have hbBS := Box3.keep hbBD hT.size (hT.block _ hbBD.1 (fun e => by cases e; omega))
    have hbQS := Box3.keep hbQD hT.size (hT.block _ hbQD.1 (fun e => by cases e; omega))
    have hZS := hbBS.all (.slice ao2 n co2) (.slice ap2 n cp2) (.slice (some ⟨g, 0, none⟩) n cc2)
    obtain ⟨q0, q1, q2, q3, q4⟩ := id hbQD
    obtain ⟨r0, r1, r2, r3, r4⟩ := id hbQS
    obtain ⟨b0, b1, b2, b3, b4⟩ := id hbBS
    obtain ⟨-, z0, z1, z2, -⟩ := id hZS
    have HR := Lib.hid (And.intro hP3 (And.intro hgwS (And.intro hvc (And.intro hcl (And.intro hcc hnP)))))
    clear hZS hP3 hgwS hvc hcl hcc hnP hT hbBS hbQS hm hK hbQD hbBD hbAD HC HV
    go_wp2_with fail
    refine bodyPost_ret (v := .tuple #[.agg #[.slice ao2 n co2, .slice ap2 n cp2, .slice (some ⟨g, 0, none⟩) n cc2], .bool true]) (by simp [results, Tryz.results358, go_sem, z0, z1, z2]) rfl ?_
    exact rel_ret HR.out.2.1 (by omega) HR.out.1 (fun k hk hlt => ⟨.inr (by rcases hk with hk | hk <;> omega), by rcases hk with hk | hk <;> omega⟩) (HH.out.1.setC Y K (by have := HR.out.2.2.2.2.2; omega) (by have := HV0.out; omega)) rfl
  case' true =>
    clear hbt
    have hnP := HH.out.2.2
    have hcp := HH.out.1.p
    obtain ⟨g, capg, z, hvp, ⟨hgB, hg5⟩, hgl, hcg, hfg, hP3⟩ := PresX.putP HC.out.1 X (by omega) HC.out.2 (fun k hk h => by omega)
    obtain ⟨rfl, rfl⟩ : ap2 = some ⟨g, 0, none⟩ ∧ cp2 = capg := by cases hvp; exact ⟨rfl, rfl⟩
    have hT := grown_set1 wD g X (.slice ax n cx)
    have hgwS : Ext w (wD.setCell ⟨g, X, none⟩ (.slice ax n cx)) := grown_own hgwD hT (fun j hj hlt => by cases hj; omega)
    have hbBS := Box3.keep hbBD hT.size (hT.block _ hbBD.1 (fun e => by cases e; omega))
    have hbQS := Box3.keep hbQD hT.size (hT.block _ hbQD.1 (fun e => by cases e; omega))
    have hZS := hbBS.all (.slice ao2 n co2) (.slice (some ⟨g, 0, none⟩) n cp2) (.slice ac2 n cc2)
    obtain ⟨q0, q1, q2, q3, q4⟩ := id hbQD
    obtain ⟨r0, r1, r2, r3, r4⟩ := id hbQS
    obtain ⟨b0, b1, b2, b3, b4⟩ := id hbBS
    obtain ⟨-, z0, z1, z2, -⟩ := id hZS
    have HR := Lib.hid (And.intro hP3 (And.intro hgwS (And.intro hvp (And.intro hcp hnP))))
    clear hZS hP3 hgwS hvp hcp hnP hT hbBS hbQS hbQD hbBD hbAD HC HV
    go_wp2_with fail
    refine bodyPost_ret (v := .tuple #[.agg #[.slice ao2 n co2, .slice (some ⟨g, 0, none⟩) n cp2, .slice ac2 n cc2], .bool true]) (by simp [results, Tryz.results358, go_sem, z0, z1, z2]) rfl ?_
    exact rel_ret HR.out.2.1 (by omega) HR.out.1 (fun k hk hlt => ⟨.inr (by rcases hk with hk | hk <;> omega), by rcases hk with hk | hk <;> omega⟩) (HH.out.1.setP X (by have := HV0.out; omega)) rfl

end Go.Proofs.YtldheeicjnncoaaGreat
namespace Go.Proofs.YtldheeicjnncoaaGreat
open Go.RowKit

/-- the world where one integer is laid by a literal, and the list that it makes -/
theorem ints_lit (w : World) (y : Int) : Ints Any (w.alloc (.cells #[.int .i64 y] 2)) (.slice (some ⟨w.heap.size, 0, none⟩) 1 1) [y] := by
  refine ⟨some ⟨w.heap.size, 0, none⟩, 1, rfl, ⟨by simp, by simp, fun h => by cases h⟩, fun i hi => ⟨w.heap.size, 0, .int .i64 y, rfl, trivial, by simp, ?_, ?_⟩⟩
  · have : i = 0 := by simpa using hi
    subst this
    rw [World.cell?_alloc_at _ _ _ _ rfl]; rfl
  · have : i = 0 := by simpa using hi
    subst this; rfl

end Go.Proofs.YtldheeicjnncoaaGreat
namespace Go.Proofs.YtldheeicjnncoaaGreat
open Go.RowKit

set_option maxHeartbeats 1000000 in
theorem l07Word_ok (w : World) (v : Value) (e : List Int) (S : Nat → Prop) (hv : Ints S w v e) (hn : e.length ≤ 6) (he : ∀ i, i < e.length → 0 ≤ gt e i ∧ gt e i ≤ 7) :
    Calls Tryz.prog 355 #[v] w (Ret w fun w' r => Own w.heap.size w' r (nWord e e.length)) := by
  obtain ⟨a, cap, rfl, _, _⟩ := hv.shape
  have hb : ∀ i, gt e i ≤ 7 := fun i => by
    by_cases h : i < e.length
    · exact (he i h).2
    · rw [gt_big (by omega)]; decide
  have HB := Lib.hid (And.intro hb he); clear hb he
  go_enter Tryz.func355, Tryz.ntmps355
  go_wp2
  go_loopw [3, 4] (fun ov iv wr => ∃ (i : Nat) (v3 : Value), v3 = ov ∧ iv = .int .i64 i ∧ i ≤ e.length ∧ Ext w wr ∧ Own w.heap.size wr v3 (nWord e i)) (fun _ iv _ => e.length - (intOf iv).toNat)
  case atStart => exact ⟨0, _, rfl, rfl, by omega, World.grownBy_alloc _ _ _, World.ownsRow_lit w #[] 0 (Nat.le_refl _) (by decide) rfl⟩
  case round =>
    obtain ⟨i, v3, rfl, rfl, hi, hg, hO⟩ := hrel
    by_cases hlt : i < e.length
    · have hlt' : (i : Int) < e.length := by omega
      obtain ⟨b, off, rfl, _, _, hc⟩ := Ints.at hv i hlt
      obtain ⟨x, hx⟩ : ∃ x, x = (gt e i).toNat := ⟨_, rfl⟩
      have hx0 := HB.out.2 i hlt
      have hxe : gt e i = (x : Int) := by omega
      have hx7 : x ≤ 7 := by omega
      have hnw : nWord e (i + 1) = nWord e i ++ List.replicate x ((i : Int) + 1) := by rw [nWord, hx]
      have hwl := nWord_len HB.out.1 i
      rw [hxe] at hc
      have HX := Lib.hid (And.intro hnw hwl); clear hnw hwl hx0 hxe hx
      go_wp2
      have hO0 : Own w.heap.size wr v3 (nWord e i ++ List.replicate 0 ((i : Int) + 1)) := by simpa using hO
      clear hO
      go_loopw [3, 5] (fun ov kv wr => ∃ (k : Nat) (v4 : Value), v4 = ov ∧ kv = .int .i64 k ∧ k ≤ x ∧ Ext w wr ∧ Own w.heap.size wr v4 (nWord e i ++ List.replicate k ((i : Int) + 1))) (fun _ kv _ => x - (intOf kv).toNat)
      case atStart => exact ⟨0, _, rfl, rfl, by omega, hg, hO0⟩
      case round =>
        clear hO0 hg
        obtain ⟨k, v4, rfl, rfl, hk, hg, hO⟩ := hrel
        have hcr := hg.cell hc (by simp)
        by_cases hltk : k < x
        · have hltk' : (k : Int) < x := by omega
          have hlen : (nWord e i ++ List.replicate k ((i : Int) + 1)).length ≤ 1000 := by rw [List.length_append, List.length_replicate]; have := HX.out.2; omega
          have HL := Lib.hid hlen; clear hlen
          go_wp2_with (first | (at_builtin; refine wp_app_ints rfl _ _ rfl w.heap.size v4 _ rfl (hO.ext0 (World.grownBy_alloc _ _ _)) _ _ rfl Any (ints_lit wr _) (by have := HL.out; simp only [List.length_cons, List.length_nil]; omega) (by have := hg.size; simp; omega) ?_; intro v5 w5 hO5 hg5 _) | fail)
          have hg5' : wr.grownBy w5 v4.ownBlock := grown_trans (grown_of_ext _ (World.grownBy_alloc _ _ _)) hg5
          have hge : Ext w w5 := grown_own hg hg5' (fun b hb hlt => by have := (hO.lt b hb).1; omega)
          rw [List.append_assoc, ← List.replicate_succ'] at hO5
          clear hO hg5 hg5' hcr
          go_roundw
          case rel => exact ⟨k + 1, v5, rfl, by go_num, by omega, hge, hO5⟩
          case measure => simp [intOf]; omega
        · have hke : k = x := by omega
          subst hke
          rw [← HX.out.1] at hO
          go_wp2
          clear hcr
          go_roundw
          case rel => exact ⟨i + 1, v4, rfl, by go_num, by omega, hg, hO⟩
          case measure => simp [intOf]; omega
    · have hie : i = e.length := by omega
      subst hie
      go_wp2
      go_ret
      exact ⟨_, rfl, hg, hO⟩

end Go.Proofs.YtldheeicjnncoaaGreat
namespace Go.Proofs.YtldheeicjnncoaaGreat
open Go.RowKit
attribute [local go_sem ↓] Go.wp_at_zero Go.wp_at_succ

theorem Own.ints' {B : Nat} {w : World} {v : Value} {l : List Int} (h : Own B w v l) (hl : l.length ≤ 1000000) : Ints Any w v l := ints_of_own h (by omega) (fun _ _ => trivial)

theorem strOfNums_app (a b : List Int) : strOfNums (a ++ b) = strOfNums a ++ strOfNums b := by
  apply ByteArray.ext
  simp [strOfNums, ByteArray.data_append]

def ordT (o : List Int) : Nat → List Int
  | 0 => []
  | k + 1 => ordT o k ++ ((if 0 < k then [32] else []) ++ [48 + gt o k])
def powE (P : Pr) (k : Nat) : List Int := [59, 32] ++ ([97 + (k : Int)] ++ ([94] ++ ([48 + gt P.orders k] ++ ([61] ++ wtx (nWord (gt P.powers k) P.orders.length)))))
def powT (P : Pr) : Nat → List Int
  | 0 => []
  | k + 1 => powT P k ++ (if isZeroB (gt P.powers k) then [] else powE P k)
def cnjE (P : Pr) (i k : Nat) : List Int := [59, 32] ++ ([97 + ((i + 1 + k : Nat) : Int)] ++ ([94] ++ ([97 + (i : Int)] ++ ([61] ++ wtx (nWord (gt (gt P.conj i) k) P.orders.length)))))
def cnjR (P : Pr) (i : Nat) : Nat → List Int
  | 0 => []
  | k + 1 => cnjR P i k ++ (if eqB (gt (gt P.conj i) k) (unitV P.orders.length (i + 1 + k)) then [] else cnjE P i k)
def cnjT (P : Pr) : Nat → List Int
  | 0 => []
  | i + 1 => cnjT P i ++ cnjR P i (P.orders.length - 1 - i)
def textP (P : Pr) : List Int := if P.orders.length = 0 then [49] else ordT P.orders P.orders.length ++ (powT P P.orders.length ++ cnjT P P.orders.length)

theorem nWord_mem {e : List Int} {n : Nat} {x : Int} (h : x ∈ nWord e n) : 1 ≤ x ∧ x ≤ n := by
  induction n with
  | zero => simp [nWord] at h
  | succ n ih =>
    rcases List.mem_append.1 h with h | h
    · have := ih h; omega
    · have := List.eq_of_mem_replicate h; omega

theorem ordT_len (o : List Int) : ∀ k, (ordT o k).length ≤ 2 * k
  | 0 => by simp [ordT]
  | k + 1 => by
    have := ordT_len o k
    simp only [ordT, List.length_append, List.length_singleton]
    split <;> simp <;> omega

section
variable {P : Pr} (hP : Valid P)
include hP
theorem vec7 {e : List Int} (he : Vec P.orders e) : ∀ i, gt e i ≤ 7 := fun i => by
  by_cases h : i < P.orders.length
  · have := he.2 i h; have := hP.ord7 i h; omega
  · rw [show gt e i = 0 by simp [gt, show e.length ≤ i by rw [he.1]; omega]]; omega
theorem wtx_bd {e : List Int} (he : Vec P.orders e) : (wtx (nWord e P.orders.length)).length ≤ 43 := by
  have hn := hP.n6
  refine wtx_len _ 42 (Nat.le_trans (nWord_len (fun i => ?_) _) (by omega))
  by_cases h : i < P.orders.length
  · have := he.2 i h; have := hP.ord7 i h; omega
  · rw [show gt e i = 0 by simp [gt, show e.length ≤ i by rw [he.1]; omega]]; omega
theorem powT_len : ∀ k, k ≤ P.orders.length → (powT P k).length ≤ 50 * k
  | 0, _ => by simp [powT]
  | k + 1, h => by
    have h1 := powT_len k (by omega)
    have h2 := wtx_bd hP (hP.pv k (by omega)).1
    simp only [powT, List.length_append]
    split
    · simp; omega
    · simp only [powE, List.length_append, List.length_cons, List.length_nil]; omega
theorem cnjR_len {i : Nat} (hi : i < P.orders.length) : ∀ k, k ≤ P.orders.length - 1 - i → (cnjR P i k).length ≤ 50 * k
  | 0, _ => by simp [cnjR]
  | k + 1, h => by
    have h1 := cnjR_len hi k (by omega)
    have h2 := wtx_bd hP ((hP.cv i hi).2 k (by omega)).1
    simp only [cnjR, List.length_append]
    split
    · simp; omega
    · simp only [cnjE, List.length_append, List.length_cons, List.length_nil]; omega
theorem cnjT_len : ∀ i, i ≤ P.orders.length → (cnjT P i).length ≤ 300 * i
  | 0, _ => by simp [cnjT]
  | i + 1, h => by
    have h1 := cnjT_len i (by omega)
    have h2 := cnjR_len hP (show i < P.orders.length by omega) (P.orders.length - 1 - i) (Nat.le_refl _)
    have := hP.n6
    simp only [cnjT, List.length_append]; omega
end

set_option maxRecDepth 100000 in
set_option maxHeartbeats 8000000 in
theorem l07Text_ok (P : Pr) (hP : Valid P) (w : World) (pv : Value) (S : Nat → Prop) (hpv : PresV S w pv P) :
    Calls Tryz.prog 359 #[pv] w (Ret w fun _ r => r = .string (strOfNums (textP P))) := by
  have hn6 := hP.n6
  obtain ⟨vo, vp, vc, rfl, h3⟩ := hpv
  have hp0 := PresP.box h3 28
  have hg0 : Ext w (w.alloc (.cells #[vo, vp, vc] 28)) := World.grownBy_alloc _ _ _
  obtain ⟨vo6, vp6, vc6, _, _, hc0, hc1, hc2, h36⟩ := hp0.at
  simp only [Nat.zero_add] at hc1 hc2
  obtain ⟨ao, co, rfl, _, _⟩ := h36.o.shape
  obtain ⟨ap, cp, hvp, _, _⟩ := Sl.shape h36.p
  obtain ⟨ac, cc, hvc, _, _⟩ := Sl.shape h36.c
  rw [hP.pl] at hvp
  rw [hP.cl] at hvc
  subst hvp hvc
  by_cases hn : P.orders.length = 0
  · have ht : textP P = [49] := by unfold textP; rw [if_pos hn]
    have hni : ((P.orders.length : Int) == 0) = true := by rw [hn]; rfl
    have HT := Lib.hid ht; clear ht
    go_enter Tryz.func359, Tryz.ntmps359
    go_wp2
    go_ret
    exact ⟨_, rfl, hg0, by rw [HT.out]; rfl⟩
  have ht : textP P = ordT P.orders P.orders.length ++ (powT P P.orders.length ++ cnjT P P.orders.length) := by unfold textP; rw [if_neg hn]
  have hni : ((P.orders.length : Int) == 0) = false := by simp; intro h; exact hn (by rw [h]; rfl)
  have HT := Lib.hid (And.intro ht hn); clear ht hn
  go_enter Tryz.func359, Tryz.ntmps359
  go_wp2
  generalize w.alloc (.cells #[vo, vp, vc] 28) = w0 at *
  have hb0 : ∀ w', Ext w0 w' → w'.cell? ⟨w.heap.size, 0, none⟩ = some (.slice ao P.orders.length co) := fun w' h => h.cell hc0 (by simp)
  have hb1 : ∀ w', Ext w0 w' → w'.cell? ⟨w.heap.size, 1, none⟩ = some (.slice ap P.orders.length cp) := fun w' h => h.cell hc1 (by simp)
  have hb2 : ∀ w', Ext w0 w' → w'.cell? ⟨w.heap.size, 2, none⟩ = some (.slice ac P.orders.length cc) := fun w' h => h.cell hc2 (by simp)
  have HB := Lib.hid (And.intro hb0 (And.intro hb1 hb2)); clear hb0 hb1 hb2 hc0 hc1 hc2
  go_loopw [4, 5] (fun ov iv wr => ∃ (i : Nat), ov = .string (strOfNums (ordT P.orders i)) ∧ iv = .int .i64 i ∧ i ≤ P.orders.length ∧ Ext w0 wr) (fun _ iv _ => P.orders.length - (intOf iv).toNat)
  case atStart => exact ⟨0, rfl, rfl, by omega, Ext.refl _⟩
  case round =>
    obtain ⟨i, rfl, rfl, hi, hg⟩ := hrel
    have hol := ordT_len P.orders i
    by_cases hlt : i < P.orders.length
    · have hlt' : (i : Int) < P.orders.length := by omega
      obtain ⟨bo, oo, rfl, _, _, hco⟩ := Ints.at (Ints.ext h36.o hg) i hlt
      have h7 := hP.ord7 i hlt
      have hb0 := HB.out.1 wr hg
      obtain ⟨y, hy⟩ : ∃ y, y = gt P.orders i := ⟨_, rfl⟩
      have hst : ordT P.orders (i + 1) = ordT P.orders i ++ ((if 0 < i then [32] else []) ++ [48 + y]) := by rw [hy]; rfl
      rw [← hy] at hco h7
      obtain ⟨l, hl⟩ : ∃ l, l = ordT P.orders i := ⟨_, rfl⟩
      rw [← hl] at hst hol
      have hl2 : l.length ≤ 1000 := by omega
      have HS := Lib.hid (And.intro hst (And.intro hl hy)); clear hst hy hl hol
      rw [show strOfNums (ordT P.orders i) = strOfNums l by rw [HS.out.2.1]]
      have hsz := strOfNums_size l
      rcases hb : decide (0 < i) with _ | _
      · have hsn : strOfNums (ordT P.orders (i + 1)) = strOfNums l ++ strOfNums [48 + y] := by
          have : ¬ 0 < i := by simpa using hb
          rw [HS.out.1, if_neg this, List.nil_append, strOfNums_app]
        have HN := Lib.hid hsn; clear hsn
        go_wp2_with fail
        refine Calls.mono (l01Dec_ok wr y (by omega) (by omega)) ?_
        rintro e1 w1 ⟨v1, rfl, hg1, rfl⟩
        have hs1 := strOfNums_size [48 + y]
        clear hco
        go_wp2_with fail
        go_roundw
        case rel => exact ⟨i + 1, by rw [HN.out], by go_num, by omega, grown_trans hg hg1⟩
        case measure => simp [intOf]; omega
      · have hsn : strOfNums (ordT P.orders (i + 1)) = strOfNums l ++ ⟨#[32]⟩ ++ strOfNums [48 + y] := by
          have : 0 < i := by simpa using hb
          rw [HS.out.1, if_pos this, strOfNums_app, strOfNums_app, ByteArray.append_assoc]; rfl
        have HN := Lib.hid hsn; clear hsn
        go_wp2_with fail
        refine Calls.mono (l01Dec_ok wr y (by omega) (by omega)) ?_
        rintro e1 w1 ⟨v1, rfl, hg1, rfl⟩
        have hs1 := strOfNums_size [48 + y]
        clear hco
        go_wp2_with fail
        go_roundw
        case rel => exact ⟨i + 1, by rw [HN.out], by go_num, by omega, grown_trans hg hg1⟩
        case measure => simp [intOf]; omega
    · have hie : i = P.orders.length := by omega
      subst hie
      go_wp2
      clear hlt hol
      have hgx := hg
      clear hg
      go_loopw [4, 6] (fun ov iv wr => ∃ (i : Nat), ov = .string (strOfNums (ordT P.orders P.orders.length ++ powT P i)) ∧ iv = .int .i64 i ∧ i ≤ P.orders.length ∧ Ext w0 wr) (fun _ iv _ => P.orders.length - (intOf iv).toNat)
      case atStart => exact ⟨0, by rw [show powT P 0 = [] from rfl, List.append_nil], rfl, by omega, hgx⟩
      case round =>
        clear hgx
        obtain ⟨i, rfl, rfl, hi, hg⟩ := hrel
        have hol := ordT_len P.orders P.orders.length
        have hpl := powT_len hP i hi
        by_cases hlt : i < P.orders.length
        · have hlt' : (i : Int) < P.orders.length := by omega
          obtain ⟨bp, op, ae, ce, rfl, _, _, hcp, hre⟩ := Rows2.at (Rows2.ext h36.p hg) i (by rw [hP.pl]; exact hlt)
          have hb1 := HB.out.2.1 wr hg
          have hpv := (hP.pv i hlt).1
          obtain ⟨e, he⟩ : ∃ e, e = gt P.powers i := ⟨_, rfl⟩
          rw [← he] at hcp hre hpv
          have hel := hpv.1
          obtain ⟨l, hl⟩ : ∃ l, l = ordT P.orders P.orders.length ++ powT P i := ⟨_, rfl⟩
          have hl2 : l.length ≤ 1000 := by rw [hl, List.length_append]; omega
          rw [← hl]
          rcases hz : isZeroB e with _ | _
          · have hst : ordT P.orders P.orders.length ++ powT P (i + 1) = l ++ powE P i := by
              rw [hl, List.append_assoc, powT, ← he, hz]; rfl
            obtain ⟨bo, oo, rfl, _, _, hco⟩ := Ints.at (Ints.ext h36.o hg) i hlt
            have h7 := hP.ord7 i hlt
            have hwb := wtx_bd hP hpv
            have hee : powE P i = [59, 32] ++ ([97 + (i : Int)] ++ ([94] ++ ([48 + gt P.orders i] ++ ([61] ++ wtx (nWord e P.orders.length))))) := by rw [he]; rfl
            obtain ⟨y, hy⟩ : ∃ y, y = gt P.orders i := ⟨_, rfl⟩
            rw [← hy] at hco h7 hee
            obtain ⟨W, hW⟩ : ∃ W, W = nWord e P.orders.length := ⟨_, rfl⟩
            have hwl : W.length ≤ 42 := by rw [hW]; exact Nat.le_trans (nWord_len (vec7 hP hpv) _) (by omega)
            have hwm : ∀ x ∈ W, -26 ≤ x ∧ x ≤ 26 := by rw [hW]; exact fun x hx => by have := nWord_mem hx; omega
            rw [← hW] at hee hwb
            have hsn : strOfNums (ordT P.orders P.orders.length ++ powT P (i + 1)) = strOfNums l ++ ⟨#[59, 32]⟩ ++ strOfNums [97 + (i : Int)] ++ ⟨#[94]⟩ ++ strOfNums [48 + y] ++ ⟨#[61]⟩ ++ strOfNums (wtx W) := by
              rw [hst, hee]
              simp only [strOfNums_app, ByteArray.append_assoc]; rfl
            have hwo : ∀ j, j < e.length → 0 ≤ gt e j ∧ gt e j ≤ 7 := fun j hj => by have := hpv.2 j (by omega); have := hP.ord7 j (by omega); omega
            have HS := Lib.hid (And.intro hsn (And.intro hwl (And.intro hwm (And.intro hwo (And.intro hel hW))))); clear hst hpv he hl hel hol hpl hee hy hW hwl hwm hsn hwo
            have hcz := l01Zero_ok _ e wr _ hre
            rw [hz] at hcz
            clear hz
            go_wp2_with fail
            refine Calls.mono hcz ?_
            rintro _ _ ⟨rfl, rfl⟩
            clear hcz
            have hcp0 := hcp
            clear hcp
            have e0 : ∀ w', Ext wr w' → w'.cell? ⟨w.heap.size, 0, none⟩ = some (.slice (some ⟨bo, oo, none⟩) P.orders.length co) := fun w' h => HB.out.1 w' (grown_trans hg h)
            have e1 : ∀ w', Ext wr w' → w'.cell? ⟨w.heap.size, 1, none⟩ = some (.slice (some ⟨bp, op, none⟩) P.orders.length cp) := fun w' h => HB.out.2.1 w' (grown_trans hg h)
            have e2 : ∀ w', Ext wr w' → w'.cell? ⟨bo, oo + i, none⟩ = some (.int .i64 y) := fun w' h => h.cell hco (by simp)
            have e3 : ∀ w', Ext wr w' → w'.cell? ⟨bp, op + i, none⟩ = some (.slice ae e.length ce) := fun w' h => h.cell hcp0 (by simp)
            have z0 := strOfNums_size l
            have z1 := strOfNums_size [97 + (i : Int)]
            have z2 := strOfNums_size [48 + y]
            have z3 := strOfNums_size (wtx W)
            have q1 : ¬ 9223372036854775807 < l.length + 2 := by omega
            have q2 : ¬ 9223372036854775807 < l.length + 2 + 1 := by omega
            have q3 : ¬ 9223372036854775807 < l.length + 2 + 1 + 1 := by omega
            have q4 : ¬ 9223372036854775807 < l.length + 2 + 1 + 1 + 1 := by omega
            have q5 : ¬ 9223372036854775807 < l.length + 2 + 1 + 1 + 1 + 1 := by omega
            have q6 : ¬ 9223372036854775807 < l.length + 2 + 1 + 1 + 1 + 1 + (wtx W).length := by omega
            clear hco hcp0
            go_wp2_with fail
            go_region_held3 (fun w' => Ext wr w') (first | exact grown_drew _ _ | assumption)
              (first
                | (go_at_call 385; refine Calls.mono (Calls.rel (w0 := wr) (by assumption) (l06Text_ok _ _ W Any hWI HS.out.2.2.1 (by have := HS.out.2.1; omega))) ?_; rintro eD wD ⟨vD, rfl, hgD, hsD, rfl⟩)
                | (go_at_call 355; refine Calls.mono (Calls.rel (w0 := wr) (by assumption) (l07Word_ok _ _ e Any (Ints.sub (Ints.ext hre (by assumption)) (fun _ _ _ => trivial)) (by have := HS.out.2.2.2.2.1; omega) HS.out.2.2.2.1)) ?_; rintro eC wC ⟨vC, rfl, hgC, hsC, hOC⟩; rw [HS.out.2.2.2.2.1, ← HS.out.2.2.2.2.2] at hOC; have hWI : Ints Any wC vC W := hOC.ints' (by have := HS.out.2.1; omega))
                | (go_at_call 383; refine Calls.mono (Calls.rel (w0 := wr) (by assumption) (l01Dec_ok _ y (by omega) (by omega))) ?_; rintro eB wB ⟨vB, rfl, hgB, hsB, rfl⟩)
                | (go_at_call 384; refine Calls.mono (Calls.rel (w0 := wr) (by first | exact grown_drew _ _ | assumption) (l07Letter_ok _ i (by omega))) ?_; rintro eA wA ⟨vA, rfl, hgA, hsA, rfl⟩))
            clear e0 e1 e2 e3 z0 z1 z2 z3 q1 q2 q3 q4 q5 q6
            go_wp2
            go_roundw
            case rel => exact ⟨i + 1, by rw [HS.out.1], by go_num, by omega, grown_trans hg hgD⟩
            case measure => simp [intOf]; omega
          · have hst : ordT P.orders P.orders.length ++ powT P (i + 1) = l := by
              rw [hl, powT, ← he, hz]; simp
            have HS := Lib.hid (And.intro hst (And.intro hpv (And.intro he hl))); clear hst hpv he hl hel hol hpl
            have hcz := l01Zero_ok _ e wr _ hre
            rw [hz] at hcz
            clear hz
            go_wp2_with fail
            refine Calls.mono hcz ?_
            rintro _ _ ⟨rfl, rfl⟩
            clear hcz hcp
            go_wp2_with fail
            go_roundw
            case rel => exact ⟨i + 1, by rw [HS.out.1], by go_num, by omega, hg⟩
            case measure => simp [intOf]; omega
        · have hie : i = P.orders.length := by omega
          subst hie
          go_wp2
          clear hlt hol hpl
          have hgx := hg
          clear hg
          obtain ⟨l0, hl0⟩ : ∃ l0, l0 = ordT P.orders P.orders.length ++ powT P P.orders.length := ⟨_, rfl⟩
          have hl0l : l0.length ≤ 400 := by
            have h1 := ordT_len P.orders P.orders.length
            have h2 := powT_len hP P.orders.length (Nat.le_refl _)
            rw [hl0, List.length_append]; omega
          rw [← hl0]
          have HL0 := Lib.hid hl0; clear hl0
          go_loopw [4, 7] (fun ov iv wr => ∃ (i : Nat), ov = .string (strOfNums (l0 ++ cnjT P i)) ∧ iv = .int .i64 i ∧ i ≤ P.orders.length ∧ Ext w0 wr) (fun _ iv _ => P.orders.length - (intOf iv).toNat)
          case atStart => exact ⟨0, by rw [show cnjT P 0 = [] from rfl, List.append_nil], rfl, by omega, hgx⟩
          case round =>
            clear hgx
            obtain ⟨i, rfl, rfl, hi, hg⟩ := hrel
            by_cases hlt : i < P.orders.length
            · have hlt' : (i : Int) < P.orders.length := by omega
              obtain ⟨wo, rfl⟩ : ∃ wo : World, wo = wr := ⟨_, rfl⟩
              have hcl := cnjT_len hP i hi
              obtain ⟨l1, hl1⟩ : ∃ l1, l1 = l0 ++ cnjT P i := ⟨_, rfl⟩
              have hl1l : l1.length ≤ 2200 := by rw [hl1, List.length_append]; omega
              rw [← hl1]
              have HL1 := Lib.hid hl1; clear hl1 hcl
              go_wp2
              go_loopw [4, 8] (fun ov jv wr => ∃ (k j : Nat), ov = .string (strOfNums (l1 ++ cnjR P i k)) ∧ jv = .int .i64 j ∧ Hid (j = i + 1 + k ∧ k ≤ P.orders.length - 1 - i) ∧ j ≤ P.orders.length ∧ Ext w0 wr) (fun _ jv _ => P.orders.length - (intOf jv).toNat)
              case atStart => exact ⟨0, i + 1, by rw [show cnjR P i 0 = [] from rfl, List.append_nil], by go_num, Lib.hid ⟨rfl, by omega⟩, by omega, hg⟩
              case round =>
                have hgo := hg
                clear hg
                obtain ⟨k, j, rfl, rfl, HJ, hj, hg⟩ := hrel
                by_cases hltj : j < P.orders.length
                · have hltj' : (j : Int) < P.orders.length := by omega
                  have hk : k < P.orders.length - 1 - i := by have := HJ.out; omega
                  obtain ⟨bc, oc, ar, cr, rfl, _, _, hcc, hrr⟩ := Rows3.at (Rows3.ext h36.c hg) i (by rw [hP.cl]; exact hlt)
                  have hrl := (hP.cv i hlt).1
                  have hcv := (hP.cv i hlt).2 k hk
                  rw [hrl] at hcc
                  obtain ⟨be, oe, ae, ce, rfl, _, _, hce, hre⟩ := Rows2.at hrr k (by rw [hrl]; exact hk)
                  obtain ⟨e, he⟩ : ∃ e, e = gt (gt P.conj i) k := ⟨_, rfl⟩
                  rw [← he] at hce hre hcv
                  have hel := hcv.1.1
                  have hwb := wtx_bd hP hcv.1
                  have hRl := cnjR_len hP hlt k (by omega)
                  have hjk := HJ.out.1
                  obtain ⟨l, hl⟩ : ∃ l, l = l1 ++ cnjR P i k := ⟨_, rfl⟩
                  have hl2 : l.length ≤ 3000 := by rw [hl, List.length_append]; omega
                  rw [← hl]
                  obtain ⟨m, hm⟩ : ∃ m, m = P.orders.length - 1 - i := ⟨_, rfl⟩
                  rw [← hm] at hcc hk
                  have hki : (k : Int) < m := by omega
                  have hs1 : IntKind.i64.wrap ((j : Int) - (i : Int)) = (k : Int) + 1 := by rw [show (j : Int) - (i : Int) = (k : Int) + 1 by omega]; exact IntWalk.i64_in _ (by omega)
                  have hs2 : IntKind.i64.wrap (k : Int) = (k : Int) := IntWalk.i64_in _ (by omega)
                  have e0 : ∀ w', Ext wr w' → w'.cell? ⟨w.heap.size, 2, none⟩ = some (.slice (some ⟨bc, oc, none⟩) P.orders.length cc) := fun w' h => HB.out.2.2 w' (grown_trans hg h)
                  have e1 : ∀ w', Ext wr w' → w'.cell? ⟨bc, oc + i, none⟩ = some (.slice (some ⟨be, oe, none⟩) m cr) := fun w' h => h.cell hcc (by simp)
                  have e2 : ∀ w', Ext wr w' → w'.cell? ⟨be, oe + k, none⟩ = some (.slice ae e.length ce) := fun w' h => h.cell hce (by simp)
                  have HS := Lib.hid (And.intro hel (And.intro hcv (And.intro he (And.intro hl (And.intro hm (And.intro hwb (And.intro hjk hrl))))))); clear hel hcv he hl hm hwb hRl hjk hrl hcc hce
                  have HE := Lib.hid (And.intro e0 (And.intro e1 e2))
                  go_wp2
                  go_region_held3 (fun w' => Ext wr w') (first | exact grown_drew _ _ | assumption)
                    (first
                      | (go_at_call 250; refine Calls.mono (Calls.rel (w0 := wr) (by assumption) (l01Same_ok _ _ e (unitV P.orders.length j) _ Any Any (Ints.sub (Ints.ext hre (by assumption)) (fun _ _ _ => trivial)) hUI)) ?_; rintro eB wB ⟨vB, rfl, hgB, hsB, rfl⟩)
                      | (go_at_call 149; refine Calls.mono (Calls.rel (w0 := wr) (by first | exact grown_drew _ _ | assumption) (l07Unit_ok P.orders.length j _ hltj (by omega))) ?_; rintro eA wA ⟨vA, rfl, hgA, hsA, hOA⟩; have hUI : Ints Any wA vA (unitV P.orders.length j) := hOA.ints' (by rw [unitV_len]; omega)))
                  clear e0 e1 e2 hs1 hs2
                  rcases hq : eqB e (unitV P.orders.length j) with _ | _
                  · have hee : cnjE P i k = [59, 32] ++ ([97 + (j : Int)] ++ ([94] ++ ([97 + (i : Int)] ++ ([61] ++ wtx (nWord e P.orders.length))))) := by
                      unfold cnjE; rw [← HS.out.2.2.1, ← HS.out.2.2.2.2.2.2.1]
                    obtain ⟨W, hW⟩ : ∃ W, W = nWord e P.orders.length := ⟨_, rfl⟩
                    rw [← hW] at hee
                    have hwl : W.length ≤ 42 := by rw [hW]; exact Nat.le_trans (nWord_len (vec7 hP HS.out.2.1.1) _) (by omega)
                    have hwm : ∀ x ∈ W, -26 ≤ x ∧ x ≤ 26 := by rw [hW]; exact fun x hx => by have := nWord_mem hx; omega
                    have hwb : (wtx W).length ≤ 43 := by rw [hW]; exact HS.out.2.2.2.2.2.1
                    have hsn : strOfNums (l1 ++ cnjR P i (k + 1)) = strOfNums l ++ ⟨#[59, 32]⟩ ++ strOfNums [97 + (j : Int)] ++ ⟨#[94]⟩ ++ strOfNums [97 + (i : Int)] ++ ⟨#[61]⟩ ++ strOfNums (wtx W) := by
                      have h1 : cnjR P i (k + 1) = cnjR P i k ++ cnjE P i k := by rw [cnjR, ← HS.out.2.2.1, ← HS.out.2.2.2.2.2.2.1, hq]; rfl
                      rw [h1, ← List.append_assoc, ← HS.out.2.2.2.1, hee]
                      simp only [strOfNums_app, ByteArray.append_assoc]; rfl
                    have hwo : ∀ j, j < e.length → 0 ≤ gt e j ∧ gt e j ≤ 7 := fun j hj => by have := HS.out.2.1.1.2 j (by have := HS.out.1; omega); have := hP.ord7 j (by have := HS.out.1; omega); omega
                    have HW := Lib.hid (And.intro hsn (And.intro hwl (And.intro hwm (And.intro hwo hW)))); clear hee hW hwl hwm hsn hwo
                    have hs1 : IntKind.i64.wrap ((j : Int) - (i : Int)) = (k : Int) + 1 := by have := HS.out.2.2.2.2.2.2.1; rw [show (j : Int) - (i : Int) = (k : Int) + 1 by omega]; exact IntWalk.i64_in _ (by omega)
                    have hs2 : IntKind.i64.wrap (k : Int) = (k : Int) := IntWalk.i64_in _ (by have := HS.out.2.2.2.2.1; omega)
                    have z0 := strOfNums_size l
                    have z1 := strOfNums_size [97 + (i : Int)]
                    have z2 := strOfNums_size [97 + (j : Int)]
                    have z3 := strOfNums_size (wtx W)
                    have q1 : ¬ 9223372036854775807 < l.length + 2 := by omega
                    have q2 : ¬ 9223372036854775807 < l.length + 2 + 1 := by omega
                    have q3 : ¬ 9223372036854775807 < l.length + 2 + 1 + 1 := by omega
                    have q4 : ¬ 9223372036854775807 < l.length + 2 + 1 + 1 + 1 := by omega
                    have q5 : ¬ 9223372036854775807 < l.length + 2 + 1 + 1 + 1 + 1 := by omega
                    have q6 : ¬ 9223372036854775807 < l.length + 2 + 1 + 1 + 1 + 1 + (wtx W).length := by omega
                    go_wp2_with fail
                    have e0 := HE.out.1
                    have e1 := HE.out.2.1
                    have e2 := HE.out.2.2
                    go_region_held3 (fun w' => Ext wr w') (first | exact grown_trans hgB (grown_drew _ _) | assumption)
                      (first
                        | (go_at_call 385; refine Calls.mono (Calls.rel (w0 := wr) (by assumption) (l06Text_ok _ _ W Any hWI HW.out.2.2.1 (by have := HW.out.2.1; omega))) ?_; rintro eD wD ⟨vD, rfl, hgD, hsD, rfl⟩)
                        | (go_at_call 355; refine Calls.mono (Calls.rel (w0 := wr) (by assumption) (l07Word_ok _ _ e Any (Ints.sub (Ints.ext hre (by assumption)) (fun _ _ _ => trivial)) (by have := HS.out.1; omega) HW.out.2.2.2.1)) ?_; rintro eC wC ⟨vC, rfl, hgC, hsC, hOC⟩; rw [HS.out.1, ← HW.out.2.2.2.2] at hOC; have hWI : Ints Any wC vC W := hOC.ints' (by have := HW.out.2.1; omega))
                        | (go_at_call 384; refine Calls.mono (Calls.rel (w0 := wr) (by first | exact grown_trans hgB (grown_drew _ _) | assumption) (l07Letter_ok _ j (by omega))) ?_; rintro eL wL ⟨vL, rfl, hgL, hsL, rfl⟩)
                        | (go_at_call 384; refine Calls.mono (Calls.rel (w0 := wr) (by first | exact grown_trans hgB (grown_drew _ _) | assumption) (l07Letter_ok _ i (by omega))) ?_; rintro eM wM ⟨vM, rfl, hgM, hsM, rfl⟩))
                    clear e0 e1 e2 z0 z1 z2 z3 q1 q2 q3 q4 q5 q6 hs1 hs2
                    go_wp2
                    go_roundw
                    case rel => exact ⟨k + 1, j + 1, by rw [HW.out.1], by go_num, Lib.hid ⟨by have := HS.out.2.2.2.2.2.2.1; omega, by have := HS.out.2.2.2.2.1; omega⟩, by omega, grown_trans hg hgD⟩
                    case measure => simp [intOf]; omega
                  · have hsn : strOfNums (l1 ++ cnjR P i (k + 1)) = strOfNums l := by
                      rw [cnjR, ← HS.out.2.2.1, ← HS.out.2.2.2.2.2.2.1, hq, ← List.append_assoc, ← HS.out.2.2.2.1]; simp
                    have HN := Lib.hid hsn; clear hsn
                    go_wp2_with fail
                    go_roundw
                    case rel => exact ⟨k + 1, j + 1, by rw [HN.out], by go_num, Lib.hid ⟨by have := HS.out.2.2.2.2.2.2.1; omega, by have := HS.out.2.2.2.2.1; omega⟩, by omega, grown_trans hg hgB⟩
                    case measure => simp [intOf]; omega
                · have hfin : strOfNums (l1 ++ cnjR P i k) = strOfNums (l0 ++ cnjT P (i + 1)) := by
                    have := HJ.out
                    rw [HL1.out, cnjT, show k = P.orders.length - 1 - i by omega, List.append_assoc]
                  have HF := Lib.hid hfin; clear hfin
                  have hltj' : ¬ ((j : Int) < P.orders.length) := by omega
                  go_wp2
                  go_roundw
                  case rel => exact ⟨i + 1, by rw [HF.out], by go_num, by omega, hg⟩
                  case measure => simp [intOf]; omega
            · have hie : i = P.orders.length := by omega
              subst hie
              have hfin : strOfNums (l0 ++ cnjT P P.orders.length) = strOfNums (textP P) := by rw [HT.out.1, HL0.out, List.append_assoc]
              have HF := Lib.hid hfin; clear hfin
              go_wp2
              go_ret
              exact ⟨_, rfl, grown_trans hg0 hg, by rw [← HF.out]; rfl⟩

end Go.Proofs.YtldheeicjnncoaaGreat
namespace Go.Proofs.YtldheeicjnncoaaGreat
open Go.RowKit
attribute [local go_sem ↓] Go.wp_at_zero Go.wp_at_succ

/-- the empty presentation -/
theorem presN_nil (N B : Nat) (w : World) : PresN N B w (.agg #[.slice none 0 0, .slice none 0 0, .slice none 0 0]) :=
  ⟨⟨[], [], []⟩, ⟨Nat.zero_le _, rfl, rfl, fun i h => absurd h (by simp), by simp, by simp⟩, _, _, _, rfl, fun _ => False, fun _ => False, fun _ => False,
    ⟨World.ownsRow_nil _ _ _ _, by simp [Value.ownBlock], by simp⟩,
    ⟨[], fun _ _ => False, rfl, by simp, World.ownsRow_nil _ _ _ _, by simp [Value.ownBlock], by simp, by simp, by simp⟩, ⟨[], fun _ _ => False, rfl, by simp, World.ownsRow_nil _ _ _ _, by simp [Value.ownBlock], by simp, by simp, by simp⟩,
    fun _ h => h.elim, fun _ h => h.elim, fun _ h => h.elim⟩

/-- a presentation and a code -/
def PresC (N B : Nat) (w' : World) (v : Value) : Prop := ∃ (vo vp vc : Value) (c : Int), v = .tuple #[.agg #[vo, vp, vc], .int .i64 c] ∧ PresN N B w' (.agg #[vo, vp, vc])

set_option maxRecDepth 100000 in
set_option maxHeartbeats 4000000 in
theorem CyclicPresentation_ok (w : World) (n : Nat) (hn : 1 ≤ n ∧ n ≤ 729) :
    Calls Tryz.prog 327 #[.int .i64 n] w (Ret w (PresC 9 w.heap.size)) := by
  have hz0 : ∀ w', Ext (w.alloc (.cells #[.slice none 0 0, .slice none 0 0, .slice none 0 0] 28)) w' → Box3 w' w.heap.size (.slice none 0 0) (.slice none 0 0) (.slice none 0 0) := fun w' h => (Box3.made w 28 _ _ _).ext h
  have hg0 : Ext w (w.alloc (.cells #[.slice none 0 0, .slice none 0 0, .slice none 0 0] 28)) := World.grownBy_alloc _ _ _
  have hs0 : (w.alloc (.cells #[.slice none 0 0, .slice none 0 0, .slice none 0 0] 28)).heap.size = w.heap.size + 1 := by simp
  have hin : inB n 1 729 = true := by simp [inB]; omega
  have HN := Lib.hid (And.intro hn (And.intro hz0 (And.intro hg0 hs0))); clear hn hz0 hs0
  go_enter Tryz.func327, Tryz.ntmps327
  go_wp2_with fail
  generalize w.alloc (.cells #[.slice none 0 0, .slice none 0 0, .slice none 0 0] 28) = w0 at *
  refine Calls.mono (l01In_ok n 1 729 w0) ?_
  rintro _ _ ⟨rfl, rfl⟩
  rw [hin]
  clear hin
  go_wp2_with fail
  refine Calls.mono (l07Factors_ok w0 n HN.out.1) ?_
  rintro e1 w1 ⟨v1, rfl, hg1, a1, c1, l, r, rfl, hO1, hl9, hlx⟩
  have HL := Lib.hid (And.intro hO1 (And.intro hlx hl9)); clear hO1 hlx
  have hz1 := HN.out.2.1 w1 hg1
  obtain ⟨k0, k1, k2, k3, k4⟩ := id hz1
  cases r
  · go_wp2_with fail
    have hZ := hz1.all (.slice none 0 0) (.slice none 0 0) (.slice none 0 0)
    have hT := grown_set3 w1 w.heap.size (.slice none 0 0) (.slice none 0 0) (.slice none 0 0)
    obtain ⟨_, z0, z1, z2, _⟩ := id hZ
    have HT := Lib.hid hT; clear hT hZ
    go_wp2
    refine bodyPost_ret (v := .tuple #[.agg #[.slice none 0 0, .slice none 0 0, .slice none 0 0], .int .i64 2]) (by simp [results, Tryz.results327, go_sem, z0, z1, z2]) rfl ?_
    exact ⟨_, rfl, grown_own (grown_trans hg0 hg1) HT.out (fun j hj hlt => by cases hj; omega), _, _, _, _, rfl, presN_nil 9 _ _⟩
  by_cases h6 : 6 < l.length
  · go_wp2_with fail
    have hZ := hz1.all (.slice none 0 0) (.slice none 0 0) (.slice none 0 0)
    have hT := grown_set3 w1 w.heap.size (.slice none 0 0) (.slice none 0 0) (.slice none 0 0)
    obtain ⟨_, z0, z1, z2, _⟩ := id hZ
    have HT := Lib.hid hT; clear hT hZ
    go_wp2
    refine bodyPost_ret (v := .tuple #[.agg #[.slice none 0 0, .slice none 0 0, .slice none 0 0], .int .i64 3]) (by simp [results, Tryz.results327, go_sem, z0, z1, z2]) rfl ?_
    exact ⟨_, rfl, grown_own (grown_trans hg0 hg1) HT.out (fun j hj hlt => by cases hj; omega), _, _, _, _, rfl, presN_nil 9 _ _⟩
  clear k0 k1 k2 k3 k4
  go_wp2_with fail
  refine Calls.mono (l07Trivial_ok w1 _ l _ (HL.out.1.ints (by omega)) (by omega)) ?_
  rintro e2 w2 ⟨v2, rfl, hg2, vo, vp, vc, rfl, hX2⟩
  obtain ⟨ao, co, ap, cp, ac, cc, rfl, rfl, rfl⟩ := trivX_shape hX2
  go_wp2_with fail
  have hs2 := hg2.size
  have hs1 := hg1.size
  have hgA : Ext w2 (w2.alloc (.cells #[.slice ao l.length co, .slice ap l.length cp, .slice ac l.length cc] 28)) := World.grownBy_alloc _ _ _
  have hX := BX.start (N := 9) (B := w1.heap.size) (by omega) hX2 hgA (Box3.made w2 28 (.slice ao l.length co) (.slice ap l.length cp) (.slice ac l.length cc)) hs2
  generalize w2.alloc (.cells #[.slice ao l.length co, .slice ap l.length cp, .slice ac l.length cc] 28) = w3 at *
  have hg3 : Ext w1 w3 := grown_trans hg2 hgA
  clear hX2 hg2
  go_loopw [7] (fun iv wr => ∃ i : Nat, iv = .int .i64 i ∧ i ≤ l.length ∧ Ext w1 wr ∧ BX 9 l w1.heap.size w2.heap.size wr (.slice ao l.length co) (.slice ap l.length cp) (.slice ac l.length cc)) (fun iv _ => l.length - (intOf iv).toNat)
  case atStart => exact ⟨0, rfl, by omega, hg3, hX⟩
  case round =>
    clear hX hg3
    obtain ⟨i, rfl, hi, hg, hX⟩ := hrel
    by_cases hlt : i + 1 < l.length
    · have hlt' : (i : Int) + 1 < l.length := by omega
      obtain ⟨g, cap, z, hvg, hgB, hgp, hgl, hcc, hst⟩ := hX.storeP i (by omega)
      obtain ⟨rfl, rfl⟩ : ap = some ⟨g, 0, none⟩ ∧ cp = cap := by cases hvg; exact ⟨rfl, rfl⟩
      clear hvg
      have e1 : ∀ w', Near wr g w' → w'.cell? ⟨w2.heap.size, 1, none⟩ = some (.slice (some ⟨g, 0, none⟩) l.length cp) := fun w' h => h.cell hX.box.2.2.1 (by simp; omega)
      have hcon : ∀ w, Calls Tryz.prog 149 #[.int .i64 l.length, .int .i64 ((i : Int) + 1)] w (Ret w fun w' v => Own w.heap.size w' v (unitV l.length (i + 1))) := fun w => by
        have h := l07Unit_ok l.length (i + 1) w (by omega) (by omega)
        rwa [show ((i + 1 : Nat) : Int) = (i : Int) + 1 by omega] at h
      have HX := Lib.hid (And.intro hX (And.intro hst hcc)); clear hX hst hcc
      have hl2 : (i : Int) < l.length := by omega
      have hwi : IntKind.i64.wrap ((i : Int) + 1) = (i : Int) + 1 := IntWalk.i64_in _ (by omega)
      have hwj : wrap64 ((i : Int) + 1) = (i : Int) + 1 := IntWalk.wrap64_in _ (by omega)
      go_wp2
      go_region_held3 (fun w' => Near wr g w') (first | exact Near.of (grown_drew _ _) | exact Near.of (by assumption) | exact Near.store (by assumption) | assumption)
        (first
          | (go_at_call 149; refine Calls.mono (Calls.rel (w0 := wr) (by first | exact grown_drew _ _ | assumption) (hcon _)) ?_; rintro eE wE ⟨vE, rfl, hgE, hsE, hOE⟩; obtain ⟨aE, cE, hvE, _⟩ := (hOE.ints (by rw [unitV_len]; omega)).shape; subst hvE; have hcl := (HX.out.2.2 wE hgE).1; have hfr := (HX.out.2.2 wE hgE).2))
      have hsz := hgE.size
      have hX5 := HX.out.2.1 wE _ (unitV l.length (i + 1)) hgE (OwnIn.of hOE (by rw [unitV_len]; omega) (fun k hk _ => Nat.le_trans (by assumption) hk)) (by rw [unitV_len]; omega)
      have hgn : Ext w1 (wE.setCell ⟨g, i, none⟩ (.slice aE (unitV l.length (i + 1)).length cE)) := grown_own (grown_trans hg hgE) (grown_set1 _ _ _ _) (fun j hj hlt => by cases hj; omega)
      clear hcl hfr e1
      go_wp2
      go_roundw
      case rel => exact ⟨i + 1, by go_num, by omega, hgn, hX5⟩
      case measure => simp [intOf]; omega
    · have hlt' : ¬ ((i : Int) + 1 < l.length) := by omega
      have hz := HN.out.2.1 wr (grown_trans hg1 hg)
      obtain ⟨h0, h1, h2, h3', h4⟩ := id hX.box
      obtain ⟨k0, k1, k2, k3, k4⟩ := id hz
      have hZ := hz.all (.slice ao l.length co) (.slice ap l.length cp) (.slice ac l.length cc)
      have hT := grown_set3 wr w.heap.size (.slice ao l.length co) (.slice ap l.length cp) (.slice ac l.length cc)
      obtain ⟨_, z0, z1, z2, _⟩ := id hZ
      have HT := Lib.hid (And.intro hT hX); clear hT hZ hX
      go_wp2
      refine bodyPost_ret (v := .tuple #[.agg #[.slice ao l.length co, .slice ap l.length cp, .slice ac l.length cc], .int .i64 0]) (by simp [results, Tryz.results327, go_sem, z0, z1, z2]) rfl ?_
      exact ⟨_, rfl, grown_own (grown_trans hg0 (grown_trans hg1 hg)) HT.out.1 (fun j hj hlt => by cases hj; omega), _, _, _, _, rfl, (HT.out.2.ret HT.out.1 (by have := HN.out.2.2.2; omega)).weak (by have := HN.out.2.2.2; omega)⟩

end Go.Proofs.YtldheeicjnncoaaGreat
namespace Go.Proofs.YtldheeicjnncoaaGreat
open Go.RowKit
attribute [local go_sem ↓] Go.wp_at_zero Go.wp_at_succ

/-- some presentation by value that can be read, of bounded shape, in new blocks -/
def PresN3 (N B : Nat) (w' : World) (vo vp vc : Value) : Prop := ∃ Q, Shp N Q ∧ Pres3 (From B) w' vo vp vc Q
def PresC3 (N B : Nat) (w' : World) (v : Value) : Prop := ∃ (vo vp vc : Value) (c : Int), v = .tuple #[.agg #[vo, vp, vc], .int .i64 c] ∧ PresN3 N B w' vo vp vc

theorem pres3_nil (S : Nat → Prop) (w : World) : Pres3 S w (.slice none 0 0) (.slice none 0 0) (.slice none 0 0) ⟨[], [], []⟩ :=
  ⟨⟨none, 0, rfl, ⟨by simp, by simp, fun _ => rfl⟩, fun i hi => by simp at hi⟩, ⟨none, 0, rfl, ⟨by simp, by simp, fun _ => rfl⟩, fun i hi => by simp at hi⟩, ⟨none, 0, rfl, ⟨by simp, by simp, fun _ => rfl⟩, fun i hi => by simp at hi⟩⟩
theorem shp_nil (N : Nat) : Shp N ⟨[], [], []⟩ := ⟨Nat.zero_le _, rfl, rfl, fun i h => absurd h (by simp), by simp, by simp⟩

set_option maxRecDepth 100000 in
set_option maxHeartbeats 8000000 in
theorem ParsePresentation_ok (w : World) (s : ByteArray) (hs : s.size ≤ 1000) :
    Calls Tryz.prog 316 #[.string s] w (Ret w (PresC3 6 w.heap.size)) := by
  have hbB := Box3.made w 28 (.slice none 0 0) (.slice none 0 0) (.slice none 0 0)
  have hg0 : Ext w (w.alloc (.cells #[.slice none 0 0, .slice none 0 0, .slice none 0 0] 28)) := World.grownBy_alloc _ _ _
  have hs0 : (w.alloc (.cells #[.slice none 0 0, .slice none 0 0, .slice none 0 0] 28)).heap.size = w.heap.size + 1 := by simp
  go_enter Tryz.func316, Tryz.ntmps316
  go_wp2_with fail
  generalize w.alloc (.cells #[.slice none 0 0, .slice none 0 0, .slice none 0 0] 28) = w0 at *
  refine Calls.mono (l01Split_ok w0 s 59 hs) ?_
  rintro e1 w1 ⟨v1, rfl, hg1, av, cv, ts, rfl, hl1, hlM, hts, hT⟩
  obtain ⟨bt, rfl, hc0⟩ := StrsR.at hT 0 (by omega)
  have hm0 := hts _ (gtMem (show 0 < ts.length by omega))
  have hli : (0 : Int) < ts.length := by omega
  have hgw1 := grown_trans hg0 hg1
  have hts1 : ts.length ≤ 1001 := by omega
  go_wp2_with fail
  refine Calls.mono (l07Orders_ok w1 _ (by omega)) ?_
  rintro e2 w2 ⟨v2, rfl, hg2, ao, n, co, r, rfl, hR⟩
  have hgw2 := grown_trans hgw1 hg2
  have hb2 := (hbB.ext hg1).ext hg2
  have hs2 : w.heap.size + 1 ≤ w2.heap.size := by have := hg1.size; have := hg2.size; omega
  have hTlt := (hT.lt bt rfl).2
  have HT := Lib.hid (And.intro hT (And.intro hts hlM)); clear hT hts hlM hc0
  cases r
  case' false =>
    obtain ⟨n0, n1, n2, n3, n4⟩ := id hb2
    have hZn := hb2.all (.slice none 0 0) (.slice none 0 0) (.slice none 0 0)
    obtain ⟨-, z0, z1, z2, -⟩ := id hZn
    have hTn := grown_set3 w2 w.heap.size (.slice none 0 0) (.slice none 0 0) (.slice none 0 0)
    have HTn := Lib.hid hTn; clear hZn hTn
    go_wp2_with fail
    refine bodyPost_ret (v := .tuple #[.agg #[.slice none 0 0, .slice none 0 0, .slice none 0 0], .int .i64 6]) (by simp [results, Tryz.results316, go_sem, z0, z1, z2]) rfl ?_
    exact ⟨_, rfl, grown_own hgw2 HTn.out (fun j hj hlt => by cases hj; omega), _, _, _, _, rfl, _, shp_nil 6, pres3_nil _ _⟩
  obtain ⟨o, hno, ho6, hop, hO⟩ := hR rfl
  have hno := hno
  subst hno
  clear hR
  have hO3 := hO.ints (by omega)
  have HO := Lib.hid (And.intro hop hO); clear hop hO
  go_wp2_with fail
  refine Calls.mono (l07Trivial_ok w2 _ o _ hO3 (by omega)) ?_
  rintro e3 w3 ⟨v3, rfl, hg3, vo, vp, vc, rfl, hX3⟩
  obtain ⟨a1, c1, a2, c2, a3, c3, rfl, rfl, rfl⟩ := trivX_shape hX3
  have hgq : Ext w3 (w3.alloc (.cells #[.slice a1 o.length c1, .slice a2 o.length c2, .slice a3 o.length c3] 28)) := World.grownBy_alloc _ _ _
  have hbq := Box3.made w3 28 (.slice a1 o.length c1) (.slice a2 o.length c2) (.slice a3 o.length c3)
  have hP4 : Pres3 (fun k => w2.heap.size ≤ k ∧ k ≠ w3.heap.size) (w3.alloc (.cells #[.slice a1 o.length c1, .slice a2 o.length c2, .slice a3 o.length c3] 28)) (.slice a1 o.length c1) (.slice a2 o.length c2) (.slice a3 o.length c3) (trivP o) :=
    hX3.p3.mono (fun k hk hlt => ⟨⟨hk, by omega⟩, Nat.lt_of_lt_of_le hlt hgq.size, hgq.block k hlt (by simp)⟩)
  have hs3 := hg3.size
  have hg24 := grown_trans hg3 hgq
  go_wp2_with fail
  generalize w3.alloc (.cells #[.slice a1 o.length c1, .slice a2 o.length c2, .slice a3 o.length c3] 28) = w4 at *
  clear hX3 hO3
  go_loopw [6, 8] (fun okv iv wr => ∃ (i : Nat) (qo qp qc : Value) (Q : Pr), okv = .bool true ∧ iv = .int .i64 i ∧ i ≤ ts.length ∧ Ext w2 wr ∧ Box3 wr w3.heap.size qo qp qc ∧ Shp 6 Q ∧ Q.orders = o ∧ Pres3 (fun k => w2.heap.size ≤ k ∧ k ≠ w3.heap.size) wr qo qp qc Q) (fun _ iv _ => ts.length - (intOf iv).toNat)
  case atStart => exact ⟨1, _, _, _, trivP o, rfl, rfl, by omega, hg24, hbq, trivP_shp o ho6, rfl, hP4⟩
  case round =>
    clear hP4 hbq hg24
    obtain ⟨i, qo, qp, qc, Q, rfl, rfl, hi, hg, hB, hQs, hQo, hQ⟩ := hrel
    have hgw := grown_trans hgw2 hg
    by_cases hlt : i < ts.length
    · have hlt' : (i : Int) < ts.length := by omega
      obtain ⟨_, hbe, hci⟩ := StrsR.at HT.out.1 i hlt
      cases hbe
      have hcr := (grown_trans hg2 hg).cell hci (by simp)
      clear hci
      have hsi := HT.out.2.1 _ (gtMem hlt)
      have hsM : (gt ts i).size ≤ 1000 := by omega
      obtain ⟨t0, ht0⟩ : ∃ t0, t0 = gt ts i := ⟨_, rfl⟩
      rw [← ht0] at hcr hsM
      clear hsi ht0
      have hop : ∀ x ∈ Q.orders, primeB x = true := by rw [hQo]; exact HO.out.1
      obtain ⟨a5, c5, hqo, _, _⟩ := hQ.o.shape
      obtain ⟨a6, c6, hqp, _, _⟩ := Sl.shape hQ.p
      obtain ⟨a7, c7, hqc, _, _⟩ := Sl.shape hQ.c
      subst hqo hqp hqc
      have hBd := hB.ext (grown_drew _ none)
      have hQd : Pres3 (fun k => w2.heap.size ≤ k ∧ k ≠ w3.heap.size) wr.drew _ _ _ Q := hQ.ext (grown_drew _ none)
      obtain ⟨d0, d1, d2, d3, d4⟩ := id hBd
      have f1 : wr.drew.cell? ⟨bt, i, none⟩ = some (.string t0) := hcr
      have HQ := Lib.hid (And.intro hQs (And.intro hQo (And.intro hop (And.intro hQd hB)))); clear hQs hQo hop hQd hB hQ hBd hcr
      go_wp2_with fail
      go_region_law (first
        | (go_simp; go_at_call 358; refine Calls.mono (l07Relation_ok _ _ Q _ t0 ⟨_, _, _, rfl, HQ.out.2.2.2.1⟩ HQ.out.1 HQ.out.2.2.1 hsM) ?_; rintro eC wC ⟨vC, rfl, hgC, yo, yp, yc, r, Q2, rfl, hS2, ho2, hP2⟩; have HO2 := Lib.hid ho2; clear ho2; obtain ⟨e5, k5, rfl, _, _⟩ := hP2.o.shape; obtain ⟨e6, k6, rfl, _, _⟩ := Sl.shape hP2.p; obtain ⟨e7, k7, rfl, _, _⟩ := Sl.shape hP2.c; have hBC := (HQ.out.2.2.2.2.ext (grown_drew _ none)).ext hgC; obtain ⟨g0, g1, g2, g3, g4⟩ := id hBC))
      all_goals
        have hgC2 : Ext wr wC := grown_trans (grown_drew _ _) hgC
        have hpbl := HQ.out.2.2.2.2.1
        have hsr := hg.size
        have hB9 := hBC.all (.slice e5 Q2.orders.length k5) (.slice e6 Q2.powers.length k6) (.slice e7 Q2.conj.length k7)
        have hT9 := grown_set3 wC w3.heap.size (.slice e5 Q2.orders.length k5) (.slice e6 Q2.powers.length k6) (.slice e7 Q2.conj.length k7)
        have hg9 : Ext w2 (((wC.setCell ⟨w3.heap.size, 0, none⟩ (.slice e5 Q2.orders.length k5)).setCell ⟨w3.heap.size, 1, none⟩ (.slice e6 Q2.powers.length k6)).setCell ⟨w3.heap.size, 2, none⟩ (.slice e7 Q2.conj.length k7)) := grown_own (grown_trans hg hgC2) hT9 (fun j hj hlt => by cases hj; omega)
        have hP9 : Pres3 (fun k => w2.heap.size ≤ k ∧ k ≠ w3.heap.size) (((wC.setCell ⟨w3.heap.size, 0, none⟩ (.slice e5 Q2.orders.length k5)).setCell ⟨w3.heap.size, 1, none⟩ (.slice e6 Q2.powers.length k6)).setCell ⟨w3.heap.size, 2, none⟩ (.slice e7 Q2.conj.length k7)) (.slice e5 Q2.orders.length k5) (.slice e6 Q2.powers.length k6) (.slice e7 Q2.conj.length k7) Q2 :=
          hP2.mono (fun k hk hlt => by
            have hk2 : w2.heap.size ≤ k ∧ k ≠ w3.heap.size := by
              have hd : wr.drew.heap.size = wr.heap.size := rfl
              rcases hk with hk | hk
              · exact hk
              · exact ⟨by omega, by omega⟩
            exact ⟨hk2, Nat.lt_of_lt_of_le hlt hT9.size, hT9.block k hlt (fun e => hk2.2 (by cases e; rfl))⟩)
        have HF := Lib.hid (And.intro hB9 (And.intro hP9 (And.intro hS2 HO2.out))); clear hB9 hP9 hS2 HO2 hP2 hT9 g0 g1 g2 g3 g4 hBC d0 d1 d2 d3 d4 f1
        generalize ((wC.setCell ⟨w3.heap.size, 0, none⟩ (.slice e5 Q2.orders.length k5)).setCell ⟨w3.heap.size, 1, none⟩ (.slice e6 Q2.powers.length k6)).setCell ⟨w3.heap.size, 2, none⟩ (.slice e7 Q2.conj.length k7) = w9 at *
        cases r
        case' false =>
          have hb9 := hb2.ext hg9
          have hgw9 := grown_trans hgw2 hg9
          obtain ⟨n0, n1, n2, n3, n4⟩ := id hb9
          have hZn := hb9.all (.slice none 0 0) (.slice none 0 0) (.slice none 0 0)
          obtain ⟨-, z0, z1, z2, -⟩ := id hZn
          have hTn := grown_set3 w9 w.heap.size (.slice none 0 0) (.slice none 0 0) (.slice none 0 0)
          have HTn := Lib.hid hTn; clear hZn hTn
          go_wp2_with fail
          refine bodyPost_ret (v := .tuple #[.agg #[.slice none 0 0, .slice none 0 0, .slice none 0 0], .int .i64 6]) (by simp [results, Tryz.results316, go_sem, z0, z1, z2]) rfl ?_
          exact ⟨_, rfl, grown_own hgw9 HTn.out (fun j hj hlt => by cases hj; omega), _, _, _, _, rfl, _, shp_nil 6, pres3_nil _ _⟩
        go_wp2_with fail
        go_roundw
        case rel => exact ⟨i + 1, _, _, _, Q2, rfl, by go_num, by omega, hg9, HF.out.1, HF.out.2.2.1, by rw [HF.out.2.2.2]; exact HQ.out.2.1, HF.out.2.1⟩
        case measure => simp [intOf]; omega
    · have hlt' : ¬ ((i : Int) < ts.length) := by omega
      obtain ⟨a5, c5, hqo, _, _⟩ := hQ.o.shape
      obtain ⟨a6, c6, hqp, _, _⟩ := Sl.shape hQ.p
      obtain ⟨a7, c7, hqc, _, _⟩ := Sl.shape hQ.c
      subst hqo hqp hqc
      obtain ⟨d0, d1, d2, d3, d4⟩ := id hB
      have HQ := Lib.hid (And.intro hQs (And.intro hQo (And.intro hQ hB))); clear hQs hQo hQ hB
      go_wp2_with fail
      refine Calls.mono (sIsPresentation_ok wr _ Q _ ⟨_, _, _, rfl, HQ.out.2.2.1⟩) ?_
      rintro e5 w5 ⟨v5, rfl, hg5, rfl⟩
      have hB5 := HQ.out.2.2.2.ext hg5
      obtain ⟨p0, p1, p2, p3, p4⟩ := id hB5
      have hg25 := grown_trans hg hg5
      rcases hv : validB Q with _ | _
      case' false =>
        have hb5 := hb2.ext hg25
        have hgw5 := grown_trans hgw2 hg25
        obtain ⟨n0, n1, n2, n3, n4⟩ := id hb5
        have hZn := hb5.all (.slice none 0 0) (.slice none 0 0) (.slice none 0 0)
        obtain ⟨-, z0, z1, z2, -⟩ := id hZn
        have hTn := grown_set3 w5 w.heap.size (.slice none 0 0) (.slice none 0 0) (.slice none 0 0)
        have HTn := Lib.hid hTn; clear hZn hTn
        go_wp2_with fail
        refine bodyPost_ret (v := .tuple #[.agg #[.slice none 0 0, .slice none 0 0, .slice none 0 0], .int .i64 6]) (by simp [results, Tryz.results316, go_sem, z0, z1, z2]) rfl ?_
        exact ⟨_, rfl, grown_own hgw5 HTn.out (fun j hj hlt => by cases hj; omega), _, _, _, _, rfl, _, shp_nil 6, pres3_nil _ _⟩
      have hV := valid_of hv
      clear hv
      have HV := Lib.hid hV; clear hV
      go_wp2_with fail
      refine Calls.mono (l07Text_ok Q HV.out w5 _ _ ⟨_, _, _, rfl, HQ.out.2.2.1.ext hg5⟩) ?_
      rintro e6 w6 ⟨v6, rfl, hg6, rfl⟩
      have hg26 := grown_trans hg25 hg6
      have hb6 := hb2.ext hg26
      have hgw6 := grown_trans hgw2 hg26
      have hB6 := hB5.ext hg6
      have hP6 := (HQ.out.2.2.1.ext hg5).ext hg6
      clear p0 p1 p2 p3 p4 d0 d1 d2 d3 d4 hB5
      rcases hcmp : ((strOfNums (textP Q)).toList == s.toList) with _ | _
      case' false =>
        obtain ⟨n0, n1, n2, n3, n4⟩ := id hb6
        have hZn := hb6.all (.slice none 0 0) (.slice none 0 0) (.slice none 0 0)
        obtain ⟨-, z0, z1, z2, -⟩ := id hZn
        have hTn := grown_set3 w6 w.heap.size (.slice none 0 0) (.slice none 0 0) (.slice none 0 0)
        have HTn := Lib.hid hTn; clear hZn hTn
        go_wp2_with fail
        refine bodyPost_ret (v := .tuple #[.agg #[.slice none 0 0, .slice none 0 0, .slice none 0 0], .int .i64 6]) (by simp [results, Tryz.results316, go_sem, z0, z1, z2]) rfl ?_
        exact ⟨_, rfl, grown_own hgw6 HTn.out (fun j hj hlt => by cases hj; omega), _, _, _, _, rfl, _, shp_nil 6, pres3_nil _ _⟩
      obtain ⟨p0, p1, p2, p3, p4⟩ := id hB6
      obtain ⟨n0, n1, n2, n3, n4⟩ := id hb6
      have hZn := hb6.all (.slice a5 Q.orders.length c5) (.slice a6 Q.powers.length c6) (.slice a7 Q.conj.length c7)
      obtain ⟨-, z0, z1, z2, -⟩ := id hZn
      have hTn := grown_set3 w6 w.heap.size (.slice a5 Q.orders.length c5) (.slice a6 Q.powers.length c6) (.slice a7 Q.conj.length c7)
      have HTn := Lib.hid (And.intro hTn hP6); clear hZn hTn hP6
      go_wp2_with fail
      refine bodyPost_ret (v := .tuple #[.agg #[.slice a5 Q.orders.length c5, .slice a6 Q.powers.length c6, .slice a7 Q.conj.length c7], .int .i64 0]) (by simp [results, Tryz.results316, go_sem, z0, z1, z2]) rfl ?_
      exact ⟨_, rfl, grown_own hgw6 HTn.out.1 (fun j hj hlt => by cases hj; omega), _, _, _, _, rfl, Q, HQ.out.1, HTn.out.2.mono (fun k hk hlt => ⟨(by show w.heap.size ≤ k; omega), Nat.lt_of_lt_of_le hlt HTn.out.1.size, HTn.out.1.block k hlt (fun e => by cases e; omega)⟩)⟩

end Go.Proofs.YtldheeicjnncoaaGreat
namespace Go.Proofs.YtldheeicjnncoaaGreat
open Go.RowKit
attribute [local go_sem ↓] Go.wp_at_zero Go.wp_at_succ

/-- some presentation by value that can be read, of bounded shape, in new blocks -/
def PresQ (N B : Nat) (w' : World) (v : Value) : Prop := ∃ (vo vp vc : Value), v = .agg #[vo, vp, vc] ∧ PresN3 N B w' vo vp vc
theorem PresN.q {N B : Nat} {w' : World} {v : Value} (h : PresN N B w' v) : PresQ N B w' v := by
  obtain ⟨P, h1, vo, vp, vc, rfl, h2⟩ := h
  exact ⟨_, _, _, rfl, P, h1, h2.p3⟩
theorem PresQ.mono {N M B B' : Nat} {w' : World} {v : Value} (h : PresQ N B w' v) (hN : N ≤ M) (hB : B' ≤ B) : PresQ M B' w' v := by
  obtain ⟨vo, vp, vc, rfl, P, h1, h2⟩ := h
  exact ⟨_, _, _, rfl, P, h1.mono hN, h2.mono (fun k hk hlt => ⟨Nat.le_trans hB hk, hlt, rfl⟩)⟩
theorem PresN3.shape {N B : Nat} {w' : World} {vo vp vc : Value} (h : PresN3 N B w' vo vp vc) : ∃ a n c a2 n2 c2 a3 n3 c3, vo = .slice a n c ∧ vp = .slice a2 n2 c2 ∧ vc = .slice a3 n3 c3 := by
  obtain ⟨Q, _, h2⟩ := h
  obtain ⟨a5, c5, hqo, _, _⟩ := h2.o.shape
  obtain ⟨a6, c6, hqp, _, _⟩ := Sl.shape h2.p
  obtain ⟨a7, c7, hqc, _, _⟩ := Sl.shape h2.c
  exact ⟨_, _, _, _, _, _, _, _, _, hqo, hqp, hqc⟩

/-- the result's box is written: what lies elsewhere reads on -/
theorem hQ3 {B r : Nat} {w w' : World} {vo vp vc : Value} {Q : Pr} (hT : w.grownBy w' (some r)) (h : Pres3 (fun k => B ≤ k ∧ k ≠ r) w vo vp vc Q) : Pres3 (From B) w' vo vp vc Q :=
  h.mono (fun k hk hlt => ⟨hk.1, Nat.lt_of_lt_of_le hlt hT.size, hT.block k hlt (fun e => hk.2 (by cases e; rfl))⟩)

set_option maxRecDepth 100000 in
set_option maxHeartbeats 8000000 in
theorem l07Table_ok (w : World) (k : Int) (h0 : 0 ≤ k) (h9 : k < 10) :
    Calls Tryz.prog 260 #[.int .i64 k] w (Ret w (PresQ 6 w.heap.size)) := by
  have hbB := Box3.made w 28 (.slice none 0 0) (.slice none 0 0) (.slice none 0 0)
  have hg0 : Ext w (w.alloc (.cells #[.slice none 0 0, .slice none 0 0, .slice none 0 0] 28)) := World.grownBy_alloc _ _ _
  have hs0 : (w.alloc (.cells #[.slice none 0 0, .slice none 0 0, .slice none 0 0] 28)).heap.size = w.heap.size + 1 := by simp
  rcases (show k = 0 ∨ k = 1 ∨ k = 2 ∨ k = 3 ∨ k = 4 ∨ k = 5 ∨ k = 6 ∨ k = 7 ∨ k = 8 ∨ k = 9 by omega) with rfl | rfl | rfl | rfl | rfl | rfl | rfl | rfl | rfl | rfl
  all_goals
    clear h0 h9
    go_enter Tryz.func260, Tryz.ntmps260
    go_wp2_with fail
    refine Calls.mono (ParsePresentation_ok _ _ (by decide)) ?_
    rintro e1 w1 ⟨v1, rfl, hg1, vo, vp, vc, c, rfl, hP⟩
    obtain ⟨a1, n1, c1, a2, n2, c2, a3, n3, c3, rfl, rfl, rfl⟩ := hP.shape
    have hg1 := grown_trans (World.grownBy_alloc _ _ _) hg1
    have hb1 := hbB.ext hg1
    have hgw1 := grown_trans hg0 hg1
    have hs1 := hg1.size
    clear hbB hg0 hg1
    generalize w.alloc (.cells #[.slice none 0 0, .slice none 0 0, .slice none 0 0] 28) = w0 at *
    have hP3 : ∃ Q, Shp 6 Q ∧ Pres3 (fun k => w.heap.size ≤ k ∧ k ≠ w.heap.size) w1 (.slice a1 n1 c1) (.slice a2 n2 c2) (.slice a3 n3 c3) Q := by
      obtain ⟨Q, q1, q2⟩ := hP
      exact ⟨Q, q1, q2.mono (fun k hk hlt => ⟨by have hk : _ ≤ k := hk; simp at hk; omega, hlt, rfl⟩)⟩
    have hs1w : w.heap.size + 1 ≤ w1.heap.size := by omega
    have hs0' := Lib.hid hs0
    clear hs0 hP hg1
    obtain ⟨q0, q1, q2, q3, q4⟩ := id hb1
    by_cases hc : c = 0
    · subst hc
      have hgA := World.grownBy_alloc (((w1.setCell ⟨w.heap.size, 0, none⟩ (.slice a1 n1 c1)).setCell ⟨w.heap.size, 1, none⟩ (.slice a2 n2 c2)).setCell ⟨w.heap.size, 2, none⟩ (.slice a3 n3 c3)) (.cells #[.slice a1 n1 c1, .slice a2 n2 c2, .slice a3 n3 c3] 28) none
      have hZn := (hb1.all (.slice a1 n1 c1) (.slice a2 n2 c2) (.slice a3 n3 c3)).ext hgA
      obtain ⟨-, z0, z1, z2, -⟩ := id hZn
      have hTn := grown_set3 w1 w.heap.size (.slice a1 n1 c1) (.slice a2 n2 c2) (.slice a3 n3 c3)
      have HTn := Lib.hid (And.intro hTn (And.intro hP3 hgA)); clear hZn hTn hP3 hgA
      go_wp2_with fail
      refine bodyPost_ret (v := .agg #[.slice a1 n1 c1, .slice a2 n2 c2, .slice a3 n3 c3]) (by simp [results, Tryz.results260, go_sem, z0, z1, z2]) rfl ?_
      obtain ⟨hTn, ⟨Q, k1, k2⟩, hgA⟩ := HTn.out
      exact ⟨_, rfl, grown_trans (grown_own hgw1 hTn (fun j hj hlt => by cases hj; omega)) hgA, _, _, _, rfl, Q, k1, (hQ3 hTn k2).ext hgA⟩
    · have hc' : (c != 0) = true := by simp [hc]
      clear hc
      have hgA : Ext w1 (w1.alloc (.cells #[.slice a1 n1 c1, .slice a2 n2 c2, .slice a3 n3 c3] 28)) := World.grownBy_alloc _ _ _
      have hbA := Box3.made w1 28 (.slice a1 n1 c1) (.slice a2 n2 c2) (.slice a3 n3 c3)
      have hsA : (w1.alloc (.cells #[.slice a1 n1 c1, .slice a2 n2 c2, .slice a3 n3 c3] 28)).heap.size = w1.heap.size + 1 := by simp
      go_wp2_with fail
      generalize w1.alloc (.cells #[.slice a1 n1 c1, .slice a2 n2 c2, .slice a3 n3 c3] 28) = w2 at *
      have hgL : Ext w2 (w2.alloc (.cells #[.int .i64 2] 2)) := World.grownBy_alloc _ _ _
      have hL : Ints Any (w2.alloc (.cells #[.int .i64 2] 2)) (.slice (some ⟨w2.heap.size, 0, none⟩) 1 1) [2] :=
        ints_of_own (show Own 0 _ _ [2] from World.ownsRow_lit w2 #[.int .i64 2] 1 (Nat.zero_le _) (by decide) rfl) (by simp) (fun _ _ => trivial)
      rw [hsA] at hL
      refine Calls.mono (l07Trivial_ok _ _ [2] _ hL (by simp)) ?_
      rintro e3 w3 ⟨v3, rfl, hg3, vo, vp, vc, rfl, hX3⟩
      obtain ⟨a4, c4, a5, c5, a6, c6, rfl, rfl, rfl⟩ := trivX_shape hX3
      have hg13 := grown_trans hgA (grown_trans hgL hg3)
      have hb3 := hb1.ext hg13
      have hbA3 := hbA.ext (grown_trans hgL hg3)
      have hgw3 := grown_trans hgw1 hg13
      have hX4 : Pres3 (fun k => w.heap.size ≤ k ∧ k ≠ w.heap.size) w3 (.slice a4 1 c4) (.slice a5 1 c5) (.slice a6 1 c6) (trivP [2]) := hX3.p3.mono (fun k hk hlt => ⟨by have hk : _ ≤ k := hk; simp at hk; omega, hlt, rfl⟩)
      have hX5 : Pres3 (fun k => w1.heap.size < k) w3 (.slice a4 1 c4) (.slice a5 1 c5) (.slice a6 1 c6) (trivP [2]) := hX3.p3.mono (fun k hk hlt => ⟨by have hk : _ ≤ k := hk; simp at hk; omega, hlt, rfl⟩)
      clear hX3 hX4 hL hbA hP3 q0 q1 q2 q3 q4 hg3 hgL
      obtain ⟨p0, p1, p2, p3, p4⟩ := id hbA3
      obtain ⟨q0, q1, q2, q3, q4⟩ := id hb3
      have hT1 := grown_set3 w3 w1.heap.size (.slice a4 1 c4) (.slice a5 1 c5) (.slice a6 1 c6)
      have hbA4 := hbA3.all (.slice a4 1 c4) (.slice a5 1 c5) (.slice a6 1 c6)
      have hb4 := Box3.keep hb3 hT1.size (hT1.block _ hb3.1 (fun e => by have := Option.some.inj e; omega))
      obtain ⟨r0, r1, r2, r3, r4⟩ := id hbA4
      obtain ⟨s0, s1, s2, s3, s4⟩ := id hb4
      have hZn := hb4.all (.slice a4 1 c4) (.slice a5 1 c5) (.slice a6 1 c6)
      obtain ⟨-, z0, z1, z2, -⟩ := id hZn
      have hTn := grown_set3 (((w3.setCell ⟨w1.heap.size, 0, none⟩ (.slice a4 1 c4)).setCell ⟨w1.heap.size, 1, none⟩ (.slice a5 1 c5)).setCell ⟨w1.heap.size, 2, none⟩ (.slice a6 1 c6)) w.heap.size (.slice a4 1 c4) (.slice a5 1 c5) (.slice a6 1 c6)
      have HTn := Lib.hid (And.intro hT1 (And.intro hTn hX5)); clear hZn hTn hT1 hX5 hb3 hbA3 hbA4 hb4
      go_wp2_with fail
      refine bodyPost_ret (v := .agg #[.slice a4 1 c4, .slice a5 1 c5, .slice a6 1 c6]) (by simp [results, Tryz.results260, go_sem, z0, z1, z2]) rfl ?_
      obtain ⟨hT1, hTn, hX5⟩ := HTn.out
      refine ⟨_, rfl, grown_own (grown_own hgw3 hT1 (fun j hj hlt => by have := Option.some.inj hj; omega)) hTn (fun j hj hlt => by have := Option.some.inj hj; omega), _, _, _, rfl, trivP [2], trivP_shp _ (by simp), hX5.mono (fun k hk hlt => ⟨(show w.heap.size ≤ k by omega), ?_, ?_⟩)⟩
      · exact Nat.lt_of_lt_of_le hlt (Nat.le_trans hT1.size hTn.size)
      · exact (hTn.block k (Nat.lt_of_lt_of_le hlt hT1.size) (fun e => by have := Option.some.inj e; omega)).trans (hT1.block k hlt (fun e => by have := Option.some.inj e; omega))

end Go.Proofs.YtldheeicjnncoaaGreat
