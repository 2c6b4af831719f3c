/-
  The source of drawn numbers: spec.l01Next.
  append(out, make([]int64, m)...): the builtin is handed the number m.
  Drawing: spec.l01Pick, l07Shift, l07Digits, l07Factors, l01Power.
  Slices of the call's own at every level, whose parts may be written: SlI; a presentation all of whose parts may be written: PresX.
  Plain: the shape of a presentation that is drawn; the trivial presentation.
  Drawing: spec.l07Trivial.
  Drawing: a presentation under way in a variable, of which only the shape counts.
-/
import Derived.Test.YtoakmefajbbggaaGreatQ5
import Derived.Lib.AppendZeros
import Derived.Deep.RegionLaw
import Derived.Deep.DrawnRows
namespace Go.Proofs.YtoakmefajbbggaaGreat
open Go.RowKit

/-- a cell of a byte -/
def ByteEl (_ : World) (u : Value) (x : Int) : Prop := u = .int .u8 x ∧ 0 ≤ x ∧ x ≤ 255
abbrev Bytes (S : Nat → Prop) (w : World) (v : Value) (l : List Int) : Prop := Sl ByteEl S w v l
theorem Bytes.at {S : Nat → Prop} {w : World} {a : Option Addr} {n cap : Nat} {xs : List Int} (h : Sl ByteEl S w (.slice a n cap) xs) (i : Nat) (hi : i < xs.length) :
    ∃ b off, a = some ⟨b, off, none⟩ ∧ S b ∧ b < w.heap.size ∧ w.cell? ⟨b, off + i, none⟩ = some (.int .u8 (gt xs i)) ∧ 0 ≤ gt xs i ∧ gt xs i ≤ 255 := by
  obtain ⟨b, off, u, h1, h2, h3, h4, h5⟩ := h.at i hi
  obtain ⟨h5, h6⟩ : u = .int .u8 (gt xs i) ∧ 0 ≤ gt xs i ∧ gt xs i ≤ 255 := h5
  exact ⟨b, off, h1, h2, h3, by rw [h4, h5], h6⟩

theorem Bytes.mono {S S' : Nat → Prop} {w w' : World} {v : Value} {xs : List Int} (h : Bytes S w v xs) (hb : ∀ k, S k → k < w.heap.size → S' k ∧ k < w'.heap.size ∧ w'.heap[k]? = w.heap[k]?) : Bytes S' w' v xs := Sl.mono h hb (fun _ _ h => h)
theorem Bytes.ext {S : Nat → Prop} {w w' : World} {v : Value} {xs : List Int} (h : Bytes S w v xs) (hg : Ext w w') : Bytes S w' v xs := h.mono (frame_ext hg)
theorem grown_set (w : World) (b j : Nat) (v : Value) : w.grownBy (w.setCell ⟨b, j, none⟩ v) (some b) := ⟨rfl, rfl, rfl, by simp [World.setCell], fun k _ hk => Below.heap_setCell _ _ _ _ (by intro e; exact hk (by rw [e]))⟩

/-- a source of numbers in the block sb; its bytes lie below B0 too -/
def Src (B0 : Nat) (w : World) (sb : Nat) : Prop := ∃ (cv : Value) (pos seed : Nat) (bs : List Int), Box3 w sb cv (.int .i64 pos) (.int .i64 seed) ∧ Bytes (fun k => k ≠ sb ∧ k < B0) w cv bs ∧ pos ≤ bs.length ∧ seed < 2147483647 ∧ sb < B0
theorem Src.keep {B0 : Nat} {w w' : World} {sb : Nat} (h : Src B0 w sb) (hs : w.heap.size ≤ w'.heap.size) (hb : ∀ k, k < B0 → k < w.heap.size → w'.heap[k]? = w.heap[k]?) : Src B0 w' sb := by
  obtain ⟨cv, pos, seed, bs, h1, h2, h3, h4, h5⟩ := h
  exact ⟨cv, pos, seed, bs, h1.keep hs (hb sb h5 h1.1), Sl.mono h2 (fun k hk hlt => ⟨hk, Nat.lt_of_lt_of_le hlt hs, hb k hk.2 hlt⟩) (fun _ _ h => h), h3, h4, h5⟩
theorem Src.ext {B0 : Nat} {w w' : World} {sb : Nat} (h : Src B0 w sb) (hg : Ext w w') : Src B0 w' sb := h.keep hg.size (fun k _ hlt => hg.block k hlt (by simp))
theorem Src.own {B0 : Nat} {w w' : World} {sb : Nat} {r : Option Nat} (h : Src B0 w sb) (hg : w.grownBy w' r) (hr : ∀ k, r = some k → B0 ≤ k) : Src B0 w' sb :=
  h.keep hg.size (fun k hk hlt => hg.block k hlt (fun e => by have := hr k e.symm; omega))
theorem Src.lt {B0 : Nat} {w : World} {sb : Nat} (h : Src B0 w sb) : sb < B0 ∧ sb < w.heap.size := by
  obtain ⟨cv, pos, seed, bs, h1, h2, h3, h4, h5⟩ := h; exact ⟨h5, h1.1⟩

/-- l01Next: a number below n, 0 for n < 2 -/
def NextR (B0 sb : Nat) (n : Int) (w' : World) (v : Value) : Prop := ∃ x : Int, v = .int .i64 x ∧ (n ≤ 1 → x = 0) ∧ (1 < n → 0 ≤ x ∧ x < n) ∧ Src B0 w' sb

set_option maxRecDepth 100000 in
set_option maxHeartbeats 2000000 in
theorem l01Next_ok (B0 : Nat) (w : World) (sb : Nat) (n : Int) (h : Src B0 w sb) :
    Calls Tryz.prog 84 #[.pointer (some ⟨sb, 0, none⟩), .int .i64 n] w (Mut w (some sb) (NextR B0 sb n)) := by
  have hS := h
  obtain ⟨cv, pos, seed, bs, hB, hby, hpos, hseed, hlt⟩ := h
  by_cases hn : n ≤ 1
  · go_enter Tryz.func84, Tryz.ntmps84
    go_wp2
    go_ret
    exact ⟨_, rfl, grown_refl _ _, 0, rfl, fun _ => rfl, fun h => by omega, hS⟩
  · have hn' : 1 < n := by omega
    obtain ⟨a, cap, rfl, _, hlen⟩ := hby.shape
    obtain ⟨s2, hs2⟩ : ∃ s2 : Nat, s2 = (seed * 48271 + 71) % 2147483647 := ⟨_, rfl⟩
    have hs2b : s2 < 2147483647 := by omega
    have hs2i : ((seed : Int) * 48271 + 71) % 2147483647 = (s2 : Int) := by omega
    have hB1 := (hB.put (.int .i64 (s2 : Nat))).2.2
    obtain ⟨h0, h1, h2, h3, h4⟩ := id hB
    go_enter Tryz.func84, Tryz.ntmps84
    have hg1 : w.grownBy (w.setCell ⟨sb, 2, none⟩ (.int .i64 (s2 : Nat))) (some sb) := grown_set _ _ _ _
    have hby1 : Bytes (fun k => k ≠ sb ∧ k < B0) (w.setCell ⟨sb, 2, none⟩ (.int .i64 (s2 : Nat))) (.slice a bs.length cap) bs := Bytes.mono hby (frame_of hg1 (fun k hk _ => ⟨hk, fun e => hk.1 (by cases e; rfl)⟩))
    have HB1 := Lib.hid (And.intro hB1 (And.intro hg1 hby1)); clear hB1 hB hs2 hby hS hg1 hby1
    go_wp2
    clear h0 h1 h2 h3 h4 hs2i
    obtain ⟨hB1, hg1, hby1⟩ := HB1.out
    clear HB1
    generalize w.setCell ⟨sb, 2, none⟩ (.int .i64 (s2 : Nat)) = w1 at *
    obtain ⟨h0, h1, h2, h3, h4⟩ := id hB1
    have HG := Lib.hid (And.intro hB1 (And.intro hg1 hby1)); clear hB1 hg1 hby1
    by_cases hp : pos < bs.length
    · obtain ⟨b, off, rfl, ⟨hbs, hbB⟩, hbl, hcb, hx0, hx1⟩ := Bytes.at HG.out.2.2 pos hp
      obtain ⟨x, hx⟩ : ∃ x, x = gt bs pos := ⟨_, rfl⟩
      rw [← hx] at hcb hx0 hx1
      have HX := Lib.hid hx; clear hx
      have hpi : (pos : Int) < bs.length := by omega
      have hp0 : (0 : Int) ≤ pos := by omega
      have hq0 : 0 ≤ (s2 : Int) / 47 ∧ (s2 : Int) / 47 ≤ 45691142 := by omega
      have hqw : IntKind.i64.wrap ((s2 : Int) / 47 + x) = (s2 : Int) / 47 + x := IntWalk.i64_in _ (by omega)
      go_quiet (fail)
      go_wp2
      have hq : Ext w1 (w1.drewN nq) := grown_drewN _ _ _
      have hcb' := hq.cell hcb (by simp)
      have h0' : sb < (w1.drewN nq).heap.size := Nat.lt_of_lt_of_le h0 hq.size
      have hG2 := And.intro (HG.out.1.ext hq) (And.intro (grown_trans HG.out.2.1 (grown_of_ext (some sb) hq)) (Bytes.ext HG.out.2.2 hq))
      have HG := Lib.hid hG2; clear hG2 hq hcb h0 h1 h2 h3 h4
      obtain ⟨h1, h2, h3, h4⟩ := HG.out.1.2
      generalize w1.drewN nq = w2 at *
      go_quiet (fail)
      have hq : Ext w2 (w2.drewN nq) := grown_drewN _ _ _
      have hcb := hq.cell hcb' (by simp)
      have h0 : sb < (w2.drewN nq).heap.size := Nat.lt_of_lt_of_le h0' hq.size
      have hG2 := And.intro (HG.out.1.ext hq) (And.intro (grown_trans HG.out.2.1 (grown_of_ext (some sb) hq)) (Bytes.ext HG.out.2.2 hq))
      have HG := Lib.hid hG2; clear hG2 hq hcb' h0' h1 h2 h3 h4
      obtain ⟨h1, h2, h3, h4⟩ := HG.out.1.2
      generalize w2.drewN nq = w3 at *
      have hB4 := (HG.out.1.put (.int .i64 ((pos : Int) + 1))).2.1
      have hg4 : w3.grownBy (w3.setCell ⟨sb, 1, none⟩ (.int .i64 ((pos : Int) + 1))) (some sb) := grown_set _ _ _ _
      have hby4 : Bytes (fun k => k ≠ sb ∧ k < B0) (w3.setCell ⟨sb, 1, none⟩ (.int .i64 ((pos : Int) + 1))) (.slice (some ⟨b, off, none⟩) bs.length cap) bs := Bytes.mono HG.out.2.2 (frame_of hg4 (fun k hk _ => ⟨hk, fun e => hk.1 (by cases e; rfl)⟩))
      have hcb4 : (w3.setCell ⟨sb, 1, none⟩ (.int .i64 ((pos : Int) + 1))).cell? ⟨b, off + pos, none⟩ = some (.int .u8 x) := (World.cell?_setCell_other _ _ _ _ (by first | exact fun e => hbs (congrArg Addr.block e) | exact fun e => hbs (congrArg Addr.block e).symm)).trans hcb
      have HB4 := Lib.hid (And.intro hB4 (And.intro (grown_trans HG.out.2.1 hg4) (And.intro hby4 hcb4))); clear hB4 hg4 hby4 hcb4 HG hqw
      have hpw : IntKind.i64.wrap ((pos : Int) + 1) = (pos : Int) + 1 := IntWalk.i64_in _ (by omega)
      by_cases hc : n ≤ 256 ∧ ((pos : Int) + 1) % 2 = 0
      · obtain ⟨hn6, hpar⟩ := hc
        go_wp2
        clear h0 h1 h2 h3 h4 hpw hcb
        obtain ⟨hB4, hg4, hby4, hcb4⟩ := HB4.out
        have hpw2 : IntKind.i64.wrap ((pos : Int) + 1 - 1) = (pos : Int) := by rw [show (pos : Int) + 1 - 1 = (pos : Int) by omega]; exact IntWalk.i64_in _ (by omega)
        clear HB4
        generalize w3.setCell ⟨sb, 1, none⟩ (.int .i64 ((pos : Int) + 1)) = w4 at *
        obtain ⟨h0, h1, h2, h3, h4⟩ := id hB4
        have HG := Lib.hid (And.intro hB4 (And.intro hg4 hby4)); clear hB4 hg4 hby4
        go_quiet (fail)
        have hq : Ext w4 (w4.drewN nq) := grown_drewN _ _ _
        have hm : 0 ≤ x % n ∧ x % n < n := ⟨Int.emod_nonneg _ (by omega), Int.emod_lt_of_pos _ (by omega)⟩
        go_wp2
        go_ret
        exact ⟨_, rfl, grown_trans HG.out.2.1 (grown_of_ext _ hq), _, rfl, fun h => by omega, fun _ => hm, _, pos + 1, s2, bs, HG.out.1.ext hq, HG.out.2.2.ext hq, by omega, hs2b, hlt⟩
      · have hm : 0 ≤ ((s2 : Int) / 47 + x) % n ∧ ((s2 : Int) / 47 + x) % n < n := ⟨Int.emod_nonneg _ (by omega), Int.emod_lt_of_pos _ (by omega)⟩
        by_cases hn6 : n ≤ 256
        · have hpar : (((pos : Int) + 1) % 2 == 0) = false := by simp; exact fun h => hc ⟨hn6, h⟩
          clear hc
          go_wp2
          go_ret
          exact ⟨_, rfl, HB4.out.2.1, _, rfl, fun h => by omega, fun _ => hm, _, pos + 1, s2, bs, HB4.out.1, HB4.out.2.2.1, by omega, hs2b, hlt⟩
        · clear hc
          go_wp2
          go_ret
          exact ⟨_, rfl, HB4.out.2.1, _, rfl, fun h => by omega, fun _ => hm, _, pos + 1, s2, bs, HB4.out.1, HB4.out.2.2.1, by omega, hs2b, hlt⟩
    · go_quiet (fail)
      go_wp2
      have hq : Ext w1 (w1.drewN nq) := grown_drewN _ _ _
      have hm : 0 ≤ (s2 : Int) / 47 % n ∧ (s2 : Int) / 47 % n < n := ⟨Int.emod_nonneg _ (by omega), Int.emod_lt_of_pos _ (by omega)⟩
      go_ret
      exact ⟨_, rfl, grown_trans HG.out.2.1 (grown_of_ext _ hq), _, rfl, fun h => by omega, fun _ => hm, _, pos, s2, bs, HG.out.1.ext hq, HG.out.2.2.ext hq, hpos, hs2b, hlt⟩

end Go.Proofs.YtoakmefajbbggaaGreat
namespace Go.Proofs.YtoakmefajbbggaaGreat
open Go.RowKit

theorem und_int : Tryz.prog.underlying 3 = some (.int .i64) := by kernel_rfl
theorem zeroCells_toList (m : Nat) : (Builtin.zeroCells #[Value.int .i64 0] m).toList = (List.replicate m (0 : Int)).map (Value.int .i64) := by
  apply List.ext_getElem
  · simp [Builtin.zeroCells]
  · intro i h1 h2
    simp [Builtin.zeroCells, Nat.mod_one]

set_option maxHeartbeats 1000000 in
theorem run_app_zeros (w : World) (base : Nat) (v : Value) (l : List Int) (hown : Own base w v l) (ty : TypeId) (m : Nat) (hlen : l.length + m ≤ 2147483648) (hbase : base ≤ w.heap.size) :
    ∃ v' w', (Builtin.append_ #[24, 3] ty #[v, .int .i64 m]).run Tryz.prog w = .ok v' w' ∧ Own base w' v' (l ++ List.replicate m 0) ∧ w.grownBy w' v.ownBlock := by
  obtain ⟨i0, hi, hz0, hz1, hz2⟩ := info_parts Tryz.infoInt
  have ht := und_ints
  have htn := und_int
  have hw : IntKind.i64.wrap (m : Int) = m := IntWalk.i64_in _ (by omega)
  have hw0 : IntKind.i64.wrap 0 = 0 := IntWalk.i64_in _ (by omega)
  have hneg : ¬ ((m : Int) < 0) := by omega
  have h48i : ¬ (281474976710656 < (m : Int) * (i0.bytes : Int)) := by rw [hz2]; omega
  have hzc : (Value.int IntKind.i64 0).cells = #[Value.int IntKind.i64 0] := rfl
  have hzl := zeroCells_toList m
  have hzs : (Builtin.zeroCells #[Value.int .i64 0] m).toList.length = m := by rw [hzl]; simp
  have hown' := hown
  obtain ⟨hl1, hown⟩ := hown
  rcases hown with ⟨rfl, hn⟩ | ⟨g, cap, cur, rfl, hbg, hg, hnc, hcm, hcs, htake⟩
  · have hl0 : l = [] := List.eq_nil_of_length_eq_zero hn
    subst hl0
    by_cases hm : m = 0
    · subst hm
      refine ⟨.slice none 0 0, w, ?_, World.ownsRow_nil _ _ _ _, grown_refl _ _⟩
      simp [Builtin.append_, run_underlying ht, run_underlying htn, sizeOf, typeInfo, hi, asInt, asIntOf, hw0]
    · have hr := Lib.run_append_nil_zeros (P := Tryz.prog) w 24 3 ty 2 i0 (.int .i64 0) .i64 .i64 ht htn hi hz0 m (by omega) (by omega) (by omega) (by rw [hz2]; omega)
      refine ⟨_, _, hr, ?_, ⟨rfl, rfl, rfl, by simp, fun k hk _ => heap_alloc_old w.drew _ hk⟩⟩
      have hge := grownCap_ge w m 0 2
      have hcm : grownCap w m 0 2 ≤ maxLen := grownCap_le_maxLen w m 0 2 (by unfold maxLen; omega)
      have hL : (([] : List Int) ++ List.replicate m 0).length = m := by simp
      refine ⟨by simp, .inr ⟨w.heap.size, _, _, by rw [hL], hbase, heap_alloc_new w.drew _, by rw [hL]; exact hge, hcm, ?_, ?_⟩⟩
      · rw [Array.size_append, hzc, ← Array.length_toList, hzs, ← Array.length_toList, zeroCells_toList]
        simp; omega
      · rw [Array.toList_append, hzc, hzl, List.nil_append]
        simp
  · by_cases hroom : l.length + m ≤ cap
    · by_cases hm : m = 0
      · subst hm
        refine ⟨_, w, ?_, by simpa using hown', grown_refl _ _⟩
        simp [Builtin.append_, run_underlying ht, run_underlying htn, sizeOf, typeInfo, hi, asInt, asIntOf, hw0, hnc, storeCells]
      · have hst := run_storeCells_at (P := Tryz.prog) g (l.length * 1) 2 (Builtin.zeroCells #[Value.int .i64 0] m).toList 0 cur w hg (by rw [hzs]; omega) (by rw [hzl]; intro u hu; obtain ⟨x, _, rfl⟩ := List.mem_map.1 hu; rfl)
        simp only [Nat.add_zero, Nat.mul_one] at hst
        rw [Nat.mul_one] at htake
        refine ⟨.slice (some ⟨g, 0, none⟩) (l.length + m) cap, w.setRow g (cur.toList.take l.length ++ (Builtin.zeroCells #[Value.int .i64 0] m).toList ++ cur.toList.drop (l.length + (Builtin.zeroCells #[Value.int .i64 0] m).toList.length)).toArray, ?_, ⟨by simp, .inr ⟨g, cap, _, by simp, hbg, setRow_heap w g cur _ _ _ hg, by simp; exact hroom, hcm, ?_, ?_⟩⟩, ⟨rfl, rfl, rfl, by simp, fun k _ hk => setRow_other w g k _ (fun e => hk (by simp [Value.ownBlock, e]))⟩⟩
        · generalize cur.toList.take l.length ++ (Builtin.zeroCells #[Value.int .i64 0] m).toList ++ cur.toList.drop (l.length + (Builtin.zeroCells #[Value.int .i64 0] m).toList.length) = Z at *
          simp [Builtin.append_, run_underlying ht, run_underlying htn, sizeOf, typeInfo, zeroValue, hi, hz0, hz1, asInt, asIntOf, hw, hneg, h48i, hroom, hm, hzc, Addr.add_lit, hst]
        · have hcl : cur.toList.length = cap := by rw [Array.length_toList]; omega
          simp only [List.size_toArray, List.length_append, List.length_take, List.length_drop, hzs, hcl]
          omega
        · rw [htake, hzl]
          simp only [List.length_append, List.length_replicate, Nat.mul_one, List.map_append]
          exact List.take_left' (by simp)
    · have hm : m ≠ 0 := by omega
      have holds := hown'.cells (g := g) rfl
      have hf := run_firstCells_some (P := Tryz.prog) w.drew 1 l.length ⟨g, 0, none⟩ l.length cap (l.map (Value.int .i64)) hl1 (by simpa using holds)
      have h63' : ¬ (9223372036854775807 < ((l.length : Int) + (m : Int))) := by omega
      have h48' : ¬ (281474976710656 < Builtin.nextslicecap (l.length + m) cap * i0.bytes) := by
        rw [hz2]
        have := nextslicecap_le (show cap < l.length + m by omega)
        omega
      refine ⟨.slice (some ⟨w.heap.size, 0, none⟩) (l.length + m) (grownCap w (l.length + m) cap 2), w.drew.alloc (.cells ((l.map (Value.int .i64)).toArray ++ Builtin.zeroCells #[Value.int .i64 0] m ++ Builtin.zeroCells #[Value.int .i64 0] (grownCap w (l.length + m) cap 2 - (l.length + m))) 2), ?_, ?_, ⟨rfl, rfl, rfl, by simp, fun k hk _ => heap_alloc_old w.drew _ hk⟩⟩
      · simp [Builtin.append_, run_underlying ht, run_underlying htn, sizeOf, typeInfo, zeroValue, hi, hz0, hz1, asInt, asIntOf, hw, hneg, h48i, hroom, hm, hzc, h63', h48', Question.forced, hf, newRow, grownCap]
        done
      · have hge := grownCap_ge w (l.length + m) cap 2
        have hcm2 : grownCap w (l.length + m) cap 2 ≤ maxLen := grownCap_le_maxLen w (l.length + m) cap 2 (by unfold maxLen; omega)
        refine ⟨by simp, .inr ⟨w.heap.size, _, _, by simp, hbase, heap_alloc_new w.drew _, by simp; exact hge, hcm2, ?_, ?_⟩⟩
        · simp only [Array.size_append]
          rw [← Array.length_toList (xs := Builtin.zeroCells #[Value.int .i64 0] m), hzs, ← Array.length_toList (xs := Builtin.zeroCells #[Value.int .i64 0] _), zeroCells_toList]
          simp; omega
        · rw [Array.toList_append, Array.toList_append, hzl]
          simp only [List.length_append, List.length_replicate, Nat.mul_one, List.map_append]
          exact List.take_left' (by simp)

/-- append(out, make([]int64, m)...) -/
theorem wp_app_zeros {ops : Array Oper} {rest : List Oper} {o : Oper} {a : Act} {Q : Exit → Act → World → Prop} {w : World} (hgd : o.guard = none) (s x : Operand)
    (ho : o.op = Op.call { callee := Callee.builtin Builtin.append, args := #[s, x], argTypes := #[24, 3] }) (base : Nat) (v : Value) (l : List Int) (hs : a.eval s = v) (hown : Own base w v l) (m : Nat) (hx : a.eval x = .int .i64 m)
    (hlen : l.length + m ≤ 2147483648) (hbase : base ≤ w.heap.size)
    (h : ∀ v' w', Own base w' v' (l ++ List.replicate m 0) → w.grownBy w' v.ownBlock → wpList Tryz.prog ops Q rest (a.put o.dst v') w') :
    wpList Tryz.prog ops Q (o :: rest) a w := by
  obtain ⟨v', w', hr, h1, h2⟩ := run_app_zeros w base v l hown o.type m hlen hbase
  exact Lib.wpList_append_run w hgd s x _ _ ho _ _ hs hx v' w' hr (h v' w' h1 h2)

end Go.Proofs.YtoakmefajbbggaaGreat
namespace Go.Proofs.YtoakmefajbbggaaGreat
open Go.RowKit

set_option maxHeartbeats 1000000 in
theorem l01Pick_ok (B0 : Nat) (w : World) (sb : Nat) (lv : Value) (L : List Int) (S : Nat → Prop) (h : Src B0 w sb) (hL : Ints S w lv L) (hS : ∀ k, S k → k ≠ sb) (hne : 0 < L.length) (hb : L.length ≤ 1000) :
    Calls Tryz.prog 113 #[.pointer (some ⟨sb, 0, none⟩), lv] w (Mut w (some sb) fun w' v => ∃ i, i < L.length ∧ v = .int .i64 (gt L i) ∧ Src B0 w' sb) := by
  obtain ⟨a, cap, rfl, _, _⟩ := hL.shape
  have hcon := l01Next_ok B0 w sb L.length h
  have HL := Lib.hid (And.intro hL hS); clear hL hS h
  go_enter Tryz.func113, Tryz.ntmps113
  go_wp2_with fail
  refine Calls.mono hcon ?_
  rintro e1 w1 ⟨v1, rfl, hg1, x, rfl, hx0, hx1, hs1⟩
  clear hcon
  obtain ⟨i, hi, hil⟩ : ∃ i : Nat, x = i ∧ i < L.length := ⟨x.toNat, by omega, by omega⟩
  subst hi
  have hil' : (i : Int) < L.length := by omega
  obtain ⟨b, off, rfl, hbS, _, hc⟩ := Ints.at (Ints.mono HL.out.1 (frame_of hg1 (fun k hk _ => ⟨hk, fun e => HL.out.2 k hk (by cases e; rfl)⟩))) i hil
  have HX := Lib.hid (And.intro hx0 (And.intro hx1 hs1)); clear hx0 hx1 hs1
  go_wp2
  go_ret
  exact ⟨_, rfl, hg1, i, hil, rfl, HX.out.2.2⟩

def shiftL (b : Nat) (v : List Int) (a : Nat) : List Int := (List.replicate b 0 ++ v) ++ List.replicate a 0
theorem shiftL_len (b : Nat) (v : List Int) (a : Nat) : (shiftL b v a).length = b + v.length + a := by unfold shiftL; simp; omega

set_option maxHeartbeats 1000000 in
theorem l07Shift_ok (w : World) (b : Nat) (vv : Value) (v : List Int) (a : Nat) (S : Nat → Prop) (hv : Ints S w vv v) (hb : b + v.length + a ≤ 1000) :
    Calls Tryz.prog 265 #[.int .i64 b, vv, .int .i64 a] w (Ret w fun w' r => Own w.heap.size w' r (shiftL b v a)) := by
  obtain ⟨av, capv, rfl, _, _⟩ := hv.shape
  go_enter Tryz.func265, Tryz.ntmps265
  go_wp2_with (first
    | (at_make; refine wp_make_ints rfl _ _ rfl w.heap.size b w.heap.size rfl _ rfl rfl rfl (by omega) (Nat.le_refl _) ?_; intro w1 ho1 hg1 hlt1)
    | (at_builtin; refine wp_app_ints rfl _ _ rfl w.heap.size _ (List.replicate b 0) rfl ho1 _ v rfl S (hv.ext hg1) (by simp; omega) hg1.size ?_; intro v2 w2 ho2 hg2 _; have hl2 : (List.replicate b (0 : Int) ++ v).length ≤ 1000 := by simp; omega)
    | (at_builtin; refine wp_app_zeros rfl _ _ rfl w.heap.size v2 (List.replicate b 0 ++ v) rfl ho2 a rfl (by simp; omega) (by have := hg1.size; have := hg2.size; omega) ?_; intro v3 w3 ho3 hg3))
  have hl3 : (shiftL b v a).length ≤ 9223372036854775807 := by rw [shiftL_len]; omega
  obtain ⟨a3, c3, hv3, _⟩ := (ho3.ints hl3).shape
  subst hv3
  go_wp2
  go_ret
  refine ⟨_, rfl, ?_, ho3⟩
  have h1 : Ext w w2 := grown_own hg1 hg2 (fun j hj hlt => by have := own_blk hj; omega)
  exact grown_own h1 hg3 (fun j hj hlt => by have := (ho2.lt j hj).1; omega)

/-- l07Digits: some vector of the length of the orders -/
theorem l07Digits_ok (w : World) (ov : Value) (o : List Int) (k : Nat) (x : Int) (S : Nat → Prop) (ho : Ints S w ov o) (hl : o.length ≤ 1000) (hp : ∀ i, i < o.length → 1 ≤ gt o i ∧ gt o i ≤ 7) (hx : 0 ≤ x ∧ x ≤ 1000000000) :
    Calls Tryz.prog 229 #[ov, .int .i64 k, .int .i64 x] w (Ret w fun w' r => ∃ l, l.length = o.length ∧ Own w.heap.size w' r l) := by
  obtain ⟨ao, capo, rfl, _, _⟩ := ho.shape
  have HP := Lib.hid (And.intro hp ho); clear hp
  go_enter Tryz.func229, Tryz.ntmps229
  go_wp2_with (at_make; refine wp_make_ints rfl _ _ rfl w.heap.size o.length w.heap.size rfl _ rfl rfl rfl (by omega) (Nat.le_refl _) ?_; intro w1 ho1 hg1 hlt1)
  go_loopw [2, 8] (fun xv iv wr => ∃ (i : Nat) (y : Int) (l : List Int), iv = .int .i64 i ∧ xv = .int .i64 y ∧ 0 ≤ y ∧ y ≤ 1000000000 ∧ l.length = o.length ∧ Ext w wr ∧ Own w.heap.size wr (.slice (some ⟨w.heap.size, 0, none⟩) o.length o.length) l) (fun _ iv _ => o.length - (intOf iv).toNat)
  case atStart => exact ⟨k, x, _, rfl, rfl, hx.1, hx.2, by simp, hg1, ho1⟩
  case round =>
    obtain ⟨i, y, l, rfl, rfl, hy0, hy1, hll, hg, hO⟩ := hrel
    clear ho1 hg1 hlt1
    by_cases hlt : i < o.length
    · have hlt' : (i : Int) < o.length := by omega
      obtain ⟨b, off, rfl, _, hbl, hc0⟩ := Ints.at HP.out.2 i hlt
      have hc := hg.cell hc0 (by simp)
      have hq := HP.out.1 i hlt
      obtain ⟨q, hqe⟩ : ∃ q, q = gt o i := ⟨_, rfl⟩
      rw [← hqe] at hc hq
      have hcw := hO.cell i (by omega)
      have hfr := hO.frozen i
      obtain ⟨hs1, hs2⟩ := hO.store i (y % q)
      have hgn : Ext w (wr.setCell ⟨w.heap.size, i, none⟩ (.int .i64 (y % q))) := grown_own hg hs2 (fun j hj hlt => by cases hj; omega)
      have hd0 : 0 ≤ y / q := Int.ediv_nonneg hy0 (by omega)
      have hd1 : y / q ≤ y := Int.ediv_le_self _ hy0
      have hcq : (wr.setCell ⟨w.heap.size, i, none⟩ (.int .i64 (y % q))).cell? ⟨b, off + i, none⟩ = some (.int .i64 q) := hgn.cell (by rw [hqe]; exact hc0) (by simp)
      have HS := Lib.hid (And.intro hs1 (And.intro hgn hll)); clear hs1 hs2 hgn hll hqe hc0
      go_wp2
      go_roundw
      case rel => exact ⟨i + 1, y / q, l.set i (y % q), by go_num, rfl, hd0, by omega, by rw [List.length_set]; exact HS.out.2.2, HS.out.2.1, HS.out.1⟩
      case measure => simp [intOf]; omega
    · go_wp2
      go_ret
      exact ⟨_, rfl, hg, l, hll, hO⟩

/-- l07Factors: some primes of a small number -/
def FacsR (B : Nat) (w' : World) (v : Value) : Prop := ∃ (a : Option Addr) (c : Nat) (l : List Int) (r : Bool), v = .tuple #[.slice a l.length c, .bool r] ∧ Own B w' (.slice a l.length c) l ∧ l.length ≤ 9 ∧ ∀ x ∈ l, 2 ≤ x ∧ x ≤ 7
set_option maxRecDepth 100000 in
set_option maxHeartbeats 2000000 in
theorem l07Factors_ok (w : World) (n : Nat) (hn : 1 ≤ n ∧ n ≤ 729) :
    Calls Tryz.prog 228 #[.int .i64 n] w (Ret w (FacsR w.heap.size)) := by
  go_enter Tryz.func228, Tryz.ntmps228
  go_wp2
  go_loopw [0, 4, 5] (fun nv fv dv wr => ∃ (m : Nat) (l : List Int) (d : Nat), nv = .int .i64 m ∧ dv = .int .i64 d ∧ 1 ≤ m ∧ 2 ≤ d ∧ d ≤ 8 ∧ m * 2 ^ l.length ≤ 729 ∧ (∀ x ∈ l, 2 ≤ x ∧ x ≤ 7) ∧ Ext w wr ∧ Own w.heap.size wr fv l) (fun _ _ dv _ => 8 - (intOf dv).toNat)
  case atStart => exact ⟨n, [], 2, rfl, rfl, hn.1, by omega, by omega, by simp; omega, by simp, World.grownBy_alloc _ _ _, World.ownsRow_lit w #[] 0 (Nat.le_refl _) (by decide) rfl⟩
  case round =>
    obtain ⟨m, l, d, rfl, rfl, hm1, hd2, hd8, hml, hlx, hg, hO⟩ := hrel
    have HL := Lib.hid (And.intro hml hlx); clear hml hlx
    by_cases hlt : d ≤ 7
    · have hlt' : (d : Int) ≤ 7 := by omega
      go_wp2
      go_loopw [0, 4] (fun nv fv wr => ∃ (m : Nat) (l : List Int), nv = .int .i64 m ∧ 1 ≤ m ∧ Hid (m * 2 ^ l.length ≤ 729 ∧ ∀ x ∈ l, (2 : Int) ≤ x ∧ x ≤ 7) ∧ Ext w wr ∧ Own w.heap.size wr fv l) (fun nv _ _ => (intOf nv).toNat)
      case atStart => exact ⟨m, l, rfl, hm1, HL, hg, hO⟩
      case round =>
        clear hm1 HL hg hO
        obtain ⟨m, l, rfl, hm1, HL, hg, hO⟩ := hrel
        have hd0 : 2 ≤ (d : Int) := by omega
        by_cases hp : primeB d = true
        · have hcon := l01Prime_ok d wr
          rw [hp] at hcon
          clear hp
          by_cases hm : m % d = 0
          · have hmi : (m : Int) % (d : Int) = 0 := by rw [← Int.natCast_emod, hm]; rfl
            have hdv : (m : Int) / (d : Int) = ((m / d : Nat) : Int) := by rw [Int.natCast_ediv]
            have hq1 : 1 ≤ m / d := Nat.div_pos (Nat.le_of_dvd hm1 (Nat.dvd_of_mod_eq_zero hm)) (by omega)
            have hq2 : m / d < m := Nat.div_lt_self hm1 (by omega)
            have hqd : m / d * d = m := Nat.div_mul_cancel (Nat.dvd_of_mod_eq_zero hm)
            have hll : l.length ≤ 1000000 := by
              have h2 := HL.out.1
              have h3 : 1 * 2 ^ l.length ≤ m * 2 ^ l.length := Nat.mul_le_mul_right _ hm1
              have h4 : l.length < 2 ^ l.length := Nat.lt_two_pow_self
              omega
            have hN : m / d * 2 ^ (l ++ [(d : Int)]).length ≤ 729 ∧ ∀ x ∈ l ++ [(d : Int)], (2 : Int) ≤ x ∧ x ≤ 7 := by
              refine ⟨?_, fun x hx => ?_⟩
              · have h2 := HL.out.1
                have h3 : m / d * 2 ≤ m := by
                  have := Nat.mul_le_mul_left (m / d) hd2
                  omega
                have h4 := Nat.mul_le_mul_right (2 ^ l.length) h3
                rw [List.length_append, List.length_singleton, Nat.pow_succ, Nat.mul_comm (2 ^ l.length) 2, ← Nat.mul_assoc]
                omega
              · rcases List.mem_append.1 hx with h | h
                · exact HL.out.2 x h
                · rw [List.mem_singleton.1 h]; omega
            have hm7 : m / d ≤ 729 := by
              have h1 := HL.out.1
              have h2 := Nat.le_mul_of_pos_right m (Nat.two_pow_pos l.length)
              omega
            obtain ⟨q, hq⟩ : ∃ q, q = m / d := ⟨_, rfl⟩
            rw [← hq] at hdv hq1 hq2 hN hm7
            have HN := Lib.hid hN; clear hN HL hqd hm hq
            go_wp2_with fail
            refine Calls.mono hcon ?_
            rintro e1 w1 ⟨rfl, rfl⟩
            clear hcon
            go_wp2_with (first | (at_builtin; refine wp_app_int rfl _ _ rfl w.heap.size u4 l (d : Int) rfl wr hO rfl rfl hll hg.size ?_; intro v5 w5 hO5 hg5) | fail)
            go_roundw
            case rel => exact ⟨q, _, rfl, hq1, HN, grown_own hg hg5 (fun j hj hlt => by have := (hO.lt j hj).1; omega), hO5⟩
            case measure => simp [intOf]; omega
          · have hmi : ((m : Int) % (d : Int) == 0) = false := by
              have : (m : Int) % (d : Int) = ((m % d : Nat) : Int) := by rw [Int.natCast_emod]
              rw [this]; simp; omega
            have hd1 : d + 1 ≤ 8 := by omega
            clear hm hlt hlt'
            go_wp2_with (first | (refine Calls.mono hcon ?_; rintro e1 w1 ⟨rfl, rfl⟩; clear hcon) | fail)
            go_roundw
            case rel => exact ⟨m, l, d + 1, rfl, by go_num, hm1, by omega, hd1, HL.out.1, HL.out.2, hg, hO⟩
            case measure => simp [intOf]; omega
        · have hcon := l01Prime_ok d wr
          rw [show primeB (d : Int) = false by simpa using hp] at hcon
          have hd1 : d + 1 ≤ 8 := by omega
          clear hp hlt hlt'
          go_wp2_with (first | (refine Calls.mono hcon ?_; rintro e1 w1 ⟨rfl, rfl⟩; clear hcon) | fail)
          go_roundw
          case rel => exact ⟨m, l, d + 1, rfl, by go_num, hm1, by omega, hd1, HL.out.1, HL.out.2, hg, hO⟩
          case measure => simp [intOf]; omega
    · have hlt' : ¬ (d : Int) ≤ 7 := by omega
      have hll : l.length ≤ 9 := by
        rcases Nat.lt_or_ge l.length 10 with h | h
        · omega
        · have h1 : 2 ^ 10 ≤ 2 ^ l.length := Nat.pow_le_pow_right (by omega) h
          have h2 := HL.out.1
          have h3 : 1 * 2 ^ l.length ≤ m * 2 ^ l.length := Nat.mul_le_mul_right _ hm1
          omega
      obtain ⟨af, cf, hfv, _⟩ := (hO.ints (by omega)).shape
      subst hfv
      go_wp2
      go_ret2
      exact ⟨_, rfl, hg, af, cf, l, ((m : Int) == 1), rfl, hO, hll, HL.out.2⟩

set_option maxRecDepth 100000 in
set_option maxHeartbeats 2000000 in
/-- l01Power: some residue -/
theorem l01Power_ok (w : World) (b e m : Int) (hb : 0 ≤ b ∧ b < 30000) (he : 0 ≤ e ∧ e ≤ 1000000000) (hm : 1 ≤ m ∧ m ≤ 30000) :
    Calls Tryz.prog 230 #[.int .i64 b, .int .i64 e, .int .i64 m] w (Ret w fun _ v => ∃ x : Int, v = .int .i64 x ∧ 0 ≤ x ∧ x < 30000) := by
  have hm0 : (1 : Int) % m < m := Int.emod_lt_of_pos _ (by omega)
  have hm1 : 0 ≤ (1 : Int) % m := Int.emod_nonneg _ (by omega)
  go_enter Tryz.func230, Tryz.ntmps230
  go_wp2
  go_loopw [0, 1, 7] (fun bv ev ov wr => ∃ (b e o : Int), bv = .int .i64 b ∧ ev = .int .i64 e ∧ ov = .int .i64 o ∧ 0 ≤ b ∧ b < 30000 ∧ 0 ≤ e ∧ e ≤ 1000000000 ∧ 0 ≤ o ∧ o < 30000 ∧ Ext w wr) (fun _ ev _ _ => (intOf ev).toNat)
  case atStart => exact ⟨b, e, _, rfl, rfl, rfl, hb.1, hb.2, he.1, he.2, hm1, by omega, Ext.refl _⟩
  case round =>
    clear hb he
    obtain ⟨b, e, o, rfl, rfl, rfl, hb0, hb1, he0, he1, ho0, ho1, hg⟩ := hrel
    by_cases hlt : 0 < e
    · have h1 : 0 ≤ o * b ∧ o * b ≤ 30000 * 30000 := ⟨Int.mul_nonneg ho0 hb0, Int.mul_le_mul (by omega) (by omega) hb0 (by omega)⟩
      have h2 : 0 ≤ b * b ∧ b * b ≤ 30000 * 30000 := ⟨Int.mul_nonneg hb0 hb0, Int.mul_le_mul (by omega) (by omega) hb0 (by omega)⟩
      have h3 : 0 ≤ o * b % m ∧ o * b % m < m := ⟨Int.emod_nonneg _ (by omega), Int.emod_lt_of_pos _ (by omega)⟩
      have h4 : 0 ≤ b * b % m ∧ b * b % m < m := ⟨Int.emod_nonneg _ (by omega), Int.emod_lt_of_pos _ (by omega)⟩
      have h5 : e / 2 < e := by omega
      by_cases hp : e % 2 = 1
      · have hpb : (e % 2 == 1) = true := by simp [hp]
        clear hp
        go_wp2
        go_roundw
        case rel => exact ⟨_, _, _, rfl, rfl, rfl, h4.1, by omega, by omega, by omega, h3.1, by omega, hg⟩
        case measure => simp [intOf]; omega
      · have hpb : (e % 2 == 1) = false := by simp [hp]
        clear hp
        go_wp2
        go_roundw
        case rel => exact ⟨_, _, _, rfl, rfl, rfl, h4.1, by omega, by omega, by omega, ho0, ho1, hg⟩
        case measure => simp [intOf]; omega
    · go_wp2
      go_ret
      exact ⟨_, rfl, hg, o, rfl, ho0, ho1⟩

end Go.Proofs.YtoakmefajbbggaaGreat
namespace Go.Proofs.YtoakmefajbbggaaGreat
open Go.RowKit

/-- a struct result is stored whole -/
theorem Box3.all {W : World} {b : Nat} {x0 x1 x2 : Value} (h : Box3 W b x0 x1 x2) (x y z : Value) : Box3 (((W.setCell ⟨b, 0, none⟩ x).setCell ⟨b, 1, none⟩ y).setCell ⟨b, 2, none⟩ z) b x y z :=
  ((((h.put x).1.put y).2.1).put z).2.2
theorem grown_set1 (w : World) (b j : Nat) (v : Value) : w.grownBy (w.setCell ⟨b, j, none⟩ v) (some b) := ⟨rfl, rfl, rfl, by simp [World.setCell], fun k _ hk => Below.heap_setCell _ _ _ _ (by intro e; exact hk (by rw [e]))⟩
theorem grown_set3 (w : World) (b : Nat) (x y z : Value) : w.grownBy (((w.setCell ⟨b, 0, none⟩ x).setCell ⟨b, 1, none⟩ y).setCell ⟨b, 2, none⟩ z) (some b) :=
  grown_trans (grown_set1 _ _ _ _) (grown_trans (grown_set1 _ _ _ _) (grown_set1 _ _ _ _))

/-- a slice that may be written, whose elements lie in blocks of their own; all in F -/
def SlI {α : Type} [Inhabited α] (El : (Nat → Prop) → World → Value → α → Prop) (E : Nat) (F : Nat → Prop) (w : World) (v : Value) (xs : List α) : Prop :=
  ∃ (vs : List Value) (G : Nat → Nat → Prop), vs.length = xs.length ∧ xs.length ≤ 9223372036854775807 ∧ OwnV 0 E w v vs ∧ (∀ k, v.ownBlock = some k → F k) ∧
    (∀ i k, i < xs.length → G i k → F k ∧ v.ownBlock ≠ some k ∧ k < w.heap.size) ∧
    (∀ i j k, i < xs.length → j < xs.length → G i k → G j k → i = j) ∧ ∀ i, i < xs.length → El (G i) w (gt vs i) (gt xs i)

section
variable {α : Type} [Inhabited α] {El : (Nat → Prop) → World → Value → α → Prop} {E : Nat}

theorem SlI.of {B : Nat} {F : Nat → Prop} {w : World} {v : Value} {xs : List α} (h : SlO El E B w v xs) (hl : xs.length ≤ 9223372036854775807) (hF : ∀ k, B ≤ k → k < w.heap.size → F k) : SlI El E F w v xs := by
  obtain ⟨vs, G, hvl, hO, hG, hd, hE⟩ := h
  exact ⟨vs, G, hvl, hl, ownsRow_move hO (fun _ _ => ⟨rfl, Nat.zero_le _⟩), fun k hk => hF k (hO.lt k hk).1 (hO.lt k hk).2, fun i k hi hk => ⟨hF k (hG i k hi hk).1 (hG i k hi hk).2.2, (hG i k hi hk).2⟩, hd, hE⟩

theorem SlI.d {F : Nat → Prop} {w : World} {v : Value} {xs : List α} (h : SlI El E F w v xs) : SlD El F w v xs := by
  obtain ⟨vs, G, hvl, hl, hO, hF, hG, hd, hE⟩ := h
  refine ⟨G, fun k => v.ownBlock = some k, fun k hk => hF k hk, fun i k hi hk => ⟨(hG i k hi hk).1, fun h => (hG i k hi hk).2.1 h⟩, hd, ?_⟩
  rcases hO.form with ⟨rfl, rfl⟩ | ⟨g, cap, rfl, hnc, hBg, hgs⟩
  · have : xs.length = 0 := by simpa using hvl.symm
    exact ⟨none, 0, by rw [this], ⟨by omega, by omega, fun _ => rfl⟩, fun i hi => by omega⟩
  · refine ⟨_, cap, by rw [hvl], ⟨by omega, hl, fun h => by cases h⟩, fun i hi => ⟨g, 0, gt vs i, rfl, rfl, hgs, ?_, hE i hi⟩⟩
    rw [Nat.zero_add]; exact hO.cell i (by omega)

theorem rdI (hEl : RdOk El) : RdOk (SlI El E) := by
  refine ⟨fun {F F' w w' u x} h hb => ?_, fun {F w u x} h => ?_⟩
  · obtain ⟨vs, G, hvl, hl, hO, hF, hG, hd, hE⟩ := h
    have hlt := hO.lt
    exact ⟨vs, G, hvl, hl, ownsRow_move hO (fun k hk => ⟨(hb k (hF k hk) (hlt k hk).2).2.2, Nat.zero_le _⟩), fun k hk => (hb k (hF k hk) (hlt k hk).2).1,
      fun i k hi hk => ⟨(hb k (hG i k hi hk).1 (hG i k hi hk).2.2).1, (hG i k hi hk).2.1, (hb k (hG i k hi hk).1 (hG i k hi hk).2.2).2.1⟩, hd,
      fun i hi => hEl.mono (hE i hi) (fun k hk hlt => ⟨hk, (hb k (hG i k hi hk).1 hlt).2⟩)⟩
  · obtain ⟨vs, G, _, _, ⟨_, h | ⟨g, cap, cur, hv, _⟩⟩, _⟩ := h
    · rw [h.1]; rfl
    · rw [hv]; rfl

theorem SlI.map {El' : (Nat → Prop) → World → Value → α → Prop} (h0 : ∀ F w u x, El F w u x → El' F w u x) {F : Nat → Prop} {w : World} {v : Value} {xs : List α} (h : SlI El E F w v xs) : SlI El' E F w v xs := by
  obtain ⟨vs, G, hvl, hl, hO, h1, hG, hd, hE⟩ := h
  exact ⟨vs, G, hvl, hl, hO, h1, hG, hd, fun i hi => h0 _ _ _ _ (hE i hi)⟩

theorem SlI.form {F : Nat → Prop} {w : World} {v : Value} {xs : List α} (h : SlI El E F w v xs) : (v = .slice none 0 0 ∧ xs = []) ∨ ∃ g cap, v = .slice (some ⟨g, 0, none⟩) xs.length cap ∧ F g ∧ g < w.heap.size := by
  obtain ⟨vs, G, hvl, hl, hO, h1, hG, hd, hE⟩ := h
  rcases hO.form with ⟨rfl, rfl⟩ | ⟨g, cap, rfl, hnc, hBg, hgs⟩
  · exact .inl ⟨rfl, List.eq_nil_of_length_eq_zero (by simpa using hvl.symm)⟩
  · exact .inr ⟨g, cap, by rw [hvl], h1 g rfl, hgs⟩

theorem SlI.place {F : Nat → Prop} {g n cap : Nat} {w : World} {xs : List α} (h : SlI El E F w (.slice (some ⟨g, 0, none⟩) n cap) xs) (k : Nat) (hk : k < xs.length) : (∃ z, w.cell? ⟨g, k, none⟩ = some z) ∧ w.frozen? ⟨g, k, none⟩ = false := by
  obtain ⟨vs, G, hvl, hl, hO, h1, hG, hd, hE⟩ := h
  refine ⟨⟨_, hO.cell k (by omega)⟩, ?_⟩
  have hn : n = vs.length := by
    obtain ⟨_, ⟨h, _⟩ | ⟨_, _, _, h, _⟩⟩ := hO <;> cases h; rfl
  subst hn
  exact World.ownsRow.frozenAt hO k

/-- a fresh element is put in its place -/
theorem SlI.store (hEl : RdOk El) {F : Nat → Prop} {g n cap : Nat} {w1 w2 : World} {xs : List α} {u : Value} {y : α} (h : SlI El E F w1 (.slice (some ⟨g, 0, none⟩) n cap) xs)
    (hg : Ext w1 w2) (hu : El (From w1.heap.size) w2 u y) (j : Nat) :
    SlI El E (fun k => F k ∨ w1.heap.size ≤ k) (w2.setCell ⟨g, j, none⟩ u) (.slice (some ⟨g, 0, none⟩) n cap) (xs.set j y) ∧ w2.grownBy (w2.setCell ⟨g, j, none⟩ u) (some g) := by
  obtain ⟨vs, G, hvl, hl, hO, hF, hG, hd, hE⟩ := h
  have hgl := hO.lt g rfl
  have hO2 : OwnV 0 E w2 (.slice (some ⟨g, 0, none⟩) n cap) vs := hO.kept hg (by simp [Value.ownBlock])
  have hn : n = vs.length := by
    obtain ⟨_, ⟨h, _⟩ | ⟨_, _, _, h, _⟩⟩ := hO2 <;> cases h; rfl
  subst hn
  obtain ⟨h1, h2⟩ := World.ownsRow.stored hO2 j u
  have hsz : (w2.setCell ⟨g, j, none⟩ u).heap.size = w2.heap.size := by simp [World.setCell]
  have hblk : ∀ k, k ≠ g → (w2.setCell ⟨g, j, none⟩ u).heap[k]? = w2.heap[k]? := fun k hk => Below.heap_setCell _ _ _ _ (by simpa using hk)
  refine ⟨⟨vs.set j u, fun i k => if i = j then w1.heap.size ≤ k ∧ k < w2.heap.size else G i k ∧ k < w1.heap.size, by simp [hvl], by rw [List.length_set]; exact hl, ?_, fun k hk => .inl (hF k hk), ?_, ?_, ?_⟩, h2⟩
  · unfold OwnV; rw [List.length_set]; exact h1
  · intro i k hi hk
    rw [List.length_set] at hi
    simp only [Value.ownBlock]
    split at hk
    · exact ⟨.inr hk.1, by intro e; cases e; omega, by omega⟩
    · obtain ⟨a1, a2, a3⟩ := hG i k hi hk.1
      exact ⟨.inl a1, a2, by have := hg.size; omega⟩
  · intro i i' k hi hi' hk hk'
    rw [List.length_set] at hi hi'
    split at hk <;> split at hk'
    · omega
    · omega
    · omega
    · exact hd i i' k hi hi' hk.1 hk'.1
  · intro i hi
    rw [List.length_set] at hi
    by_cases e : j = i
    · subst e
      rw [gt_set_eq _ _ _ (by omega), gt_set_eq _ _ _ hi]
      simp only [if_true]
      exact hEl.mono hu (fun k hk hlt => ⟨⟨hk, hlt⟩, by omega, hblk k (by have hk : w1.heap.size ≤ k := hk; omega)⟩)
    · rw [gt_set_ne _ _ _ _ e, gt_set_ne _ _ _ _ e]
      simp only [if_neg (fun h : i = j => e h.symm)]
      refine hEl.mono (hE i hi) (fun k hk hlt => ⟨⟨hk, hlt⟩, by have := hg.size; omega, ?_⟩)
      rw [hblk k (fun e => (hG i k hi hk).2.1 (by rw [e]; rfl))]
      exact hg.block k hlt (by simp)

/-- an element is opened; it may be turned in its own blocks, and in new ones -/
theorem SlI.turn (hEl : RdOk El) {F : Nat → Prop} {g n cap : Nat} {w : World} {xs : List α} (h : SlI El E F w (.slice (some ⟨g, 0, none⟩) n cap) xs) (j : Nat) (hj : j < xs.length) :
    ∃ (u : Value) (Gj : Nat → Prop), w.cell? ⟨g, j, none⟩ = some u ∧ El Gj w u (gt xs j) ∧ (∀ k, Gj k → F k ∧ k ≠ g ∧ k < w.heap.size) ∧
      ∀ w' y, Touch Gj w w' → El (fun k => Gj k ∨ w.heap.size ≤ k) w' u y → SlI El E (fun k => F k ∨ w.heap.size ≤ k) w' (.slice (some ⟨g, 0, none⟩) n cap) (xs.set j y) := by
  obtain ⟨vs, G, hvl, hl, hO, hF, hG, hd, hE⟩ := h
  have hgl := hO.lt g rfl
  refine ⟨gt vs j, G j, hO.cell j (by omega), hE j hj, fun k hk => ⟨(hG j k hj hk).1, fun e => (hG j k hj hk).2.1 (by rw [e]; rfl), (hG j k hj hk).2.2⟩, fun w' y hT hy => ?_⟩
  refine ⟨vs, fun i k => if i = j then (G j k ∨ w.heap.size ≤ k) ∧ k < w'.heap.size else G i k, by rw [List.length_set]; exact hvl, by rw [List.length_set]; exact hl, ownsRow_move hO (fun k hk => ⟨hT.block k (hO.lt k hk).2 (fun e => (hG j k hj e).2.1 hk), Nat.zero_le _⟩), fun k hk => .inl (hF k hk), ?_, ?_, ?_⟩
  · intro i k hi hk
    rw [List.length_set] at hi
    split at hk
    · rcases hk with ⟨hk | hk, hk2⟩
      · exact ⟨.inl (hG j k hj hk).1, (hG j k hj hk).2.1, hk2⟩
      · exact ⟨.inr hk, fun e => by have := (hO.lt k e).2; omega, hk2⟩
    · exact ⟨.inl (hG i k hi hk).1, (hG i k hi hk).2.1, by have := hT.size; have := (hG i k hi hk).2.2; omega⟩
  · intro i i' k hi hi' hk hk'
    rw [List.length_set] at hi hi'
    split at hk <;> split at hk'
    · omega
    · rcases hk.1 with h1 | h1
      · exact (by have := hd j i' k hj hi' h1 hk'; omega)
      · have := (hG i' k hi' hk').2.2; omega
    · rcases hk'.1 with h1 | h1
      · exact (by have := hd i j k hi hj hk h1; omega)
      · have := (hG i k hi hk).2.2; omega
    · exact hd i i' k hi hi' hk hk'
  · intro i hi
    rw [List.length_set] at hi
    by_cases e : j = i
    · subst e
      rw [gt_set_eq _ _ _ hi]
      simp only [if_true]
      exact hEl.mono hy (fun k hk hlt => ⟨⟨hk, hlt⟩, hlt, rfl⟩)
    · rw [gt_set_ne _ _ _ _ e]
      simp only [if_neg (fun h : i = j => e h.symm)]
      exact hEl.mono (hE i hi) (fun k hk hlt => ⟨hk, Nat.lt_of_lt_of_le hlt hT.size, hT.block k hlt (fun h2 => e (hd j i k hj hi h2 hk))⟩)
end

/-! ### append to such slices -/
section
variable {α : Type} [Inhabited α] {El : (Nat → Prop) → World → Value → α → Prop} {E : Nat}

theorem SlI.grow (hEl : RdOk El) {F : Nat → Prop} {w1 w2 w' : World} {v v' u : Value} {xs : List α} {y : α} {vs : List Value} {G : Nat → Nat → Prop} (hl : xs.length ≤ 1000000)
    (hvl : vs.length = xs.length) (hO : OwnV 0 E w1 v vs) (hF : ∀ k, v.ownBlock = some k → F k) (hG : ∀ i k, i < xs.length → G i k → F k ∧ v.ownBlock ≠ some k ∧ k < w1.heap.size)
    (hd : ∀ i j k, i < xs.length → j < xs.length → G i k → G j k → i = j) (hEx : ∀ i, i < xs.length → El (G i) w1 (gt vs i) (gt xs i))
    (hg : Ext w1 w2) (hu : El (From w1.heap.size) w2 u y) (h1 : OwnV 0 E w' v' (vs ++ [u])) (h2 : (w2.alloc (.cells #[u] E)).grownBy w' v.ownBlock) (hat : v'.ownBlock = v.ownBlock ∨ v'.ownBlock = some (w2.heap.size + 1)) :
    SlI El E (fun k => F k ∨ w1.heap.size ≤ k) w' v' (xs ++ [y]) ∧ w1.grownBy w' v.ownBlock ∧ w2.grownBy w' v.ownBlock := by
  have hga : Ext w2 (w2.alloc (.cells #[u] E)) := World.grownBy_alloc _ _ _
  have hvb : ∀ k, v.ownBlock = some k → k < w1.heap.size := fun k hk => (hO.lt k hk).2
  have hg2 : w2.grownBy w' v.ownBlock := grown_trans (grown_of_ext _ hga) h2
  have hg1 : w1.grownBy w' v.ownBlock := grown_trans (grown_of_ext _ hg) hg2
  have hv'b : ∀ k, v'.ownBlock = some k → v.ownBlock = some k ∨ w2.heap.size < k := by
    intro k hk
    rcases hat with h | h
    · exact .inl (by rw [← h]; exact hk)
    · rw [h] at hk; cases hk; exact .inr (by omega)
  have hsz2 := hg.size
  refine ⟨⟨vs ++ [u], fun i k => if i < xs.length then G i k ∧ k < w1.heap.size else w1.heap.size ≤ k ∧ k < w2.heap.size, by simp [hvl], by simp; omega, h1, ?_, ?_, ?_, ?_⟩, hg1, hg2⟩
  · intro k hk
    rcases hv'b k hk with h | h
    · exact .inl (hF k h)
    · exact .inr (by omega)
  · intro i k hi hk
    split at hk
    · rename_i hlt
      obtain ⟨a1, a2, a3⟩ := hG i k hlt hk.1
      refine ⟨.inl a1, fun hv' => ?_, Nat.lt_of_lt_of_le a3 hg1.size⟩
      rcases hv'b k hv' with h | h
      · exact a2 h
      · omega
    · refine ⟨.inr hk.1, fun hv' => ?_, Nat.lt_of_lt_of_le hk.2 hg2.size⟩
      rcases hv'b k hv' with h | h
      · have := hvb k h; omega
      · omega
  · intro i j k hi hj hk hk'
    simp only [List.length_append, List.length_singleton] at hi hj
    split at hk <;> split at hk'
    · exact hd i j k (by assumption) (by assumption) hk.1 hk'.1
    · omega
    · omega
    · omega
  · intro i hi
    simp only [List.length_append, List.length_singleton] at hi
    by_cases hlt : i < xs.length
    · rw [gt_append_left _ _ _ (by omega), gt_append_left _ _ _ hlt]
      simp only [if_pos hlt]
      exact hEl.mono (hEx i hlt) (fun k hk hkl => ⟨⟨hk, hkl⟩, Nat.lt_of_lt_of_le hkl hg1.size, hg1.block k hkl (fun e => (hG i k hlt hk).2.1 e.symm)⟩)
    · have hi2 : i = xs.length := by omega
      subst hi2
      rw [gt_concat, ← hvl, gt_concat]
      simp only [hvl, Nat.lt_irrefl, if_false]
      exact hEl.mono hu (fun k hk hkl => ⟨⟨hk, hkl⟩, Nat.lt_of_lt_of_le hkl hg2.size, hg2.block k hkl (fun e => by
        have hk : w1.heap.size ≤ k := hk
        have := hvb k e.symm; omega)⟩)

theorem wp_app_I (hEl : RdOk El) (T : Nat) (z : Value) (bytes : Nat) (hT : Tryz.prog.underlying T = some (.slice E))
    (hE : (Tryz.prog.info? E).map (fun i => (i.zero, i.size, i.bytes)) = some (some z, 1, bytes)) (hzs : z.cells.size = 1) (hbt : bytes ≤ 64)
    {ops : Array Oper} {rest : List Oper} {o : Oper} {a : Act} {Q : Exit → Act → World → Prop} {w : World} (hgd : o.guard = none) (s x : Operand)
    (ho : o.op = Op.call { callee := Callee.builtin Builtin.append, args := #[s, x], argTypes := #[T, T] }) (F : Nat → Prop) (w1 w2 : World) (v u : Value) (xs : List α) (y : α) (hs : a.eval s = v) (hown : SlI El E F w1 v xs)
    (hg : Ext w1 w2) (hu : El (From w1.heap.size) w2 u y) (hw : w = w2.alloc (.cells #[u] E)) (hx : a.eval x = .slice (some ⟨w2.heap.size, 0, none⟩) 1 1) (hlen : xs.length ≤ 1000000)
    (h : ∀ v' w', SlI El E (fun k => F k ∨ w1.heap.size ≤ k) w' v' (xs ++ [y]) → w1.grownBy w' v.ownBlock → w2.grownBy w' v.ownBlock → wpList Tryz.prog ops Q rest (a.put o.dst v') w') :
    wpList Tryz.prog ops Q (o :: rest) a w := by
  subst hw
  obtain ⟨vs, G, hvl, _, hO, hF, hG, hd, hEx⟩ := hown
  have hga : Ext w2 (w2.alloc (.cells #[u] E)) := World.grownBy_alloc _ _ _
  have hO2 : OwnV 0 E (w2.alloc (.cells #[u] E)) v vs := hO.kept (grown_trans hg hga) (by cases hv : v.ownBlock <;> simp)
  refine wp_app T E z bytes hT hE hzs hbt hgd s x ho 0 v vs hs hO2 (some ⟨w2.heap.size, 0, none⟩) 1 1 [u] hx rfl (by simp) ?_ ?_ (by omega) (by omega) ?_
  · intro j hj
    have : j = 0 := by omega
    subst this
    exact ⟨_, _, rfl, by rw [World.cell?_alloc_at _ _ _ _ rfl]; rfl⟩
  · intro u' hu'
    simp at hu'; subst hu'; exact hEl.one hu
  · intro v' w' k1 k2 _ k4
    obtain ⟨r1, r2, r3⟩ := SlI.grow hEl hlen hvl hO hF hG hd hEx hg hu k1 k2 (by rcases k4 with k | k; exact .inl k; exact .inr (by rw [k]; simp))
    exact h v' w' r1 r2 r3

theorem step_app_I (hEl : RdOk El) (T : Nat) (z : Value) (bytes : Nat) (hT : Tryz.prog.underlying T = some (.slice E))
    (hE : (Tryz.prog.info? E).map (fun i => (i.zero, i.size, i.bytes)) = some (some z, 1, bytes)) (hzs : z.cells.size = 1) (hbt : bytes ≤ 64)
    {ops : Array Oper} {o : Oper} {a : Act} {K : Act → World → Prop} {Q : Exit → Act → World → Prop} {Ex : Prop} {w : World} (hgd : o.guard = none) (s x : Operand)
    (ho : o.op = Op.call { callee := Callee.builtin Builtin.append, args := #[s, x], argTypes := #[T, T] }) (F : Nat → Prop) (w1 w2 : World) (v u : Value) (xs : List α) (y : α) (hs : a.eval s = v) (hown : SlI El E F w1 v xs)
    (hg : Ext w1 w2) (hu : El (From w1.heap.size) w2 u y) (hw : w = w2.alloc (.cells #[u] E)) (hx : a.eval x = .slice (some ⟨w2.heap.size, 0, none⟩) 1 1) (hlen : xs.length ≤ 1000000)
    (h : ∀ v' w', SlI El E (fun k => F k ∨ w1.heap.size ≤ k) w' v' (xs ++ [y]) → w1.grownBy w' v.ownBlock → w2.grownBy w' v.ownBlock → K (a.put o.dst v') w') :
    if Region.wanted o (yielded ops a.tmps) = true then Oper.wp Tryz.prog o a w K Q else Ex := by
  subst hw
  obtain ⟨vs, G, hvl, _, hO, hF, hG, hd, hEx⟩ := hown
  have hga : Ext w2 (w2.alloc (.cells #[u] E)) := World.grownBy_alloc _ _ _
  have hO2 : OwnV 0 E (w2.alloc (.cells #[u] E)) v vs := hO.kept (grown_trans hg hga) (by cases hv : v.ownBlock <;> simp)
  refine step_app T E z bytes hT hE hzs hbt hgd s x ho 0 v vs hs hO2 w2.heap.size u hx (by rw [World.cell?_alloc_at _ _ _ _ rfl]; rfl) (hEl.one hu) (by omega) (by omega) ?_
  intro v' w' k1 k2 k4
  obtain ⟨r1, r2, r3⟩ := SlI.grow hEl hlen hvl hO hF hG hd hEx hg hu k1 k2 (by rcases k4 with k | k; exact .inl k; exact .inr (by rw [k]; simp))
  exact h v' w' r1 r2 r3
end

/-- make([]int64, n), as a run: to be laid before a region that draws -/
theorem run_mk_ints (n : Nat) (hn : n ≤ 2147483648) (w : World) : (Instr.makeSlice 24 (.int .i64 (n : Int)) (.int .i64 (n : Int))).run Tryz.prog w = .ok (.slice (some ⟨w.heap.size, 0, none⟩) n n) (w.alloc (.cells (madeCells #[.int .i64 0] n) 2)) := by
  obtain ⟨i0, hi, hz0, hz1, hz2⟩ := info_parts Tryz.infoInt
  have hr := run_make (P := Tryz.prog) w 24 2 i0 (.int .i64 0) und_ints hi hz0 .i64 .i64 n n (by omega) (Int.le_refl _) (by rw [hz2]; omega) (by omega)
  simp only [Int.toNat_natCast, hz1, Nat.mul_one] at hr
  exact hr
theorem own_mk_ints (n : Nat) (hn : n ≤ 2147483648) (w : World) : Own w.heap.size (w.alloc (.cells (madeCells #[.int .i64 0] n) 2)) (.slice (some ⟨w.heap.size, 0, none⟩) n n) (List.replicate n 0) := by
  have h := World.ownsRow_lit (base := w.heap.size) (e := 2) (size := 1) w (madeCells #[.int .i64 0] n) n (Nat.le_refl _) (by unfold maxLen; omega) (by have := size_madeCells #[Value.int .i64 0] n; simpa using this)
  rw [toList_madeCells_one] at h
  show World.ownsRow _ _ _ _ _ _ _
  rw [List.length_replicate, List.map_replicate]; exact h

abbrev RowsI (F : Nat → Prop) (w : World) (v : Value) (xs : List (List Int)) : Prop := SlI OwnIn 24 F w v xs
abbrev Rows3I (F : Nat → Prop) (w : World) (v : Value) (xs : List (List (List Int))) : Prop := SlI (SlI OwnIn 24) 25 F w v xs
theorem rdRowsI : RdOk (fun F w u (x : List (List Int)) => RowsI F w u x) := rdI rdOwn
theorem rdRows3I : RdOk (fun F w u (x : List (List (List Int))) => Rows3I F w u x) := rdI (rdI rdOwn)
theorem RowsI.rows {F : Nat → Prop} {w : World} {v : Value} {xs : List (List Int)} (h : RowsI F w v xs) : Rows2 F w v xs := RowsD.rows (SlI.d h)
theorem Rows3I.rows {F : Nat → Prop} {w : World} {v : Value} {xs : List (List (List Int))} (h : Rows3I F w v xs) : Rows3 F w v xs := Rows3D.rows (SlI.d (SlI.map (fun _ _ _ _ h => SlI.d h) h))

/-- a presentation all of whose parts may be written -/
def PresX (F : Nat → Prop) (w : World) (vo vp vc : Value) (P : Pr) : Prop :=
  ∃ Fo Fp Fc : Nat → Prop, OwnIn Fo w vo P.orders ∧ RowsI Fp w vp P.powers ∧ Rows3I Fc w vc P.conj ∧ (∀ k, Fo k → F k ∧ ¬ Fp k ∧ ¬ Fc k) ∧ (∀ k, Fp k → F k ∧ ¬ Fc k) ∧ (∀ k, Fc k → F k)
theorem PresX.p3 {F : Nat → Prop} {w : World} {vo vp vc : Value} {P : Pr} (h : PresX F w vo vp vc P) : Pres3 F w vo vp vc P := by
  obtain ⟨Fo, Fp, Fc, h1, h2, h3, h4, h5, h6⟩ := h
  exact ⟨Ints.sub h1.ints (fun k hk _ => (h4 k hk).1), Rows2.sub (RowsI.rows h2) (fun k hk _ => (h5 k hk).1), Rows3.sub (Rows3I.rows h3) (fun k hk _ => h6 k hk)⟩
theorem PresX.mono {F F' : Nat → Prop} {w w' : World} {vo vp vc : Value} {P : Pr} (h : PresX F w vo vp vc P) (hb : ∀ k, F k → k < w.heap.size → F' k ∧ k < w'.heap.size ∧ w'.heap[k]? = w.heap[k]?) : PresX F' w' vo vp vc P := by
  obtain ⟨Fo, Fp, Fc, h1, h2, h3, h4, h5, h6⟩ := h
  refine ⟨fun k => Fo k ∧ k < w.heap.size, fun k => Fp k ∧ k < w.heap.size, fun k => Fc k ∧ k < w.heap.size, rdOwn.mono h1 (fun k hk hlt => ⟨⟨hk, hlt⟩, (hb k (h4 k hk).1 hlt).2⟩),
    rdRowsI.mono h2 (fun k hk hlt => ⟨⟨hk, hlt⟩, (hb k (h5 k hk).1 hlt).2⟩), rdRows3I.mono h3 (fun k hk hlt => ⟨⟨hk, hlt⟩, (hb k (h6 k hk) hlt).2⟩), fun k hk => ?_, fun k hk => ?_, fun k hk => ?_⟩
  · exact ⟨(hb k (h4 k hk.1).1 hk.2).1, fun h => (h4 k hk.1).2.1 h.1, fun h => (h4 k hk.1).2.2 h.1⟩
  · exact ⟨(hb k (h5 k hk.1).1 hk.2).1, fun h => (h5 k hk.1).2 h.1⟩
  · exact (hb k (h6 k hk.1) hk.2).1
theorem PresX.shape {F : Nat → Prop} {w : World} {vo vp vc : Value} {P : Pr} (h : PresX F w vo vp vc P) : ∃ a c a2 c2 a3 c3, vo = .slice a P.orders.length c ∧ vp = .slice a2 P.powers.length c2 ∧ vc = .slice a3 P.conj.length c3 := by
  obtain ⟨Fo, Fp, Fc, h1, h2, h3, _⟩ := h
  obtain ⟨a, c, rfl, _⟩ := h1.ints.shape
  obtain ⟨a2, c2, rfl, _⟩ := SlD.shape (SlI.d h2)
  obtain ⟨a3, c3, rfl, _⟩ := SlD.shape (SlI.d h3)
  exact ⟨_, _, _, _, _, _, rfl, rfl, rfl⟩

theorem PresX.wide {F F' : Nat → Prop} {w : World} {vo vp vc : Value} {P : Pr} (h : PresX F w vo vp vc P) (hF : ∀ k, F k → F' k) : PresX F' w vo vp vc P := by
  obtain ⟨Fo, Fp, Fc, h1, h2, h3, h4, h5, h6⟩ := h
  exact ⟨Fo, Fp, Fc, h1, h2, h3, fun k hk => ⟨hF k (h4 k hk).1, (h4 k hk).2⟩, fun k hk => ⟨hF k (h5 k hk).1, (h5 k hk).2⟩, fun k hk => hF k (h6 k hk)⟩

theorem PresX.put {F : Nat → Prop} {w w' : World} {vo vp vc : Value} {P' : Pr} {Fo Fp Fc Fo' Fp' Fc' : Nat → Prop} (r : Option Nat) (_hT : w.grownBy w' r)
    (h1 : OwnIn Fo' w' vo P'.orders) (h2 : RowsI Fp' w' vp P'.powers) (h3 : Rows3I Fc' w' vc P'.conj)
    (h4 : ∀ k, Fo k → F k ∧ ¬ Fp k ∧ ¬ Fc k) (h5 : ∀ k, Fp k → F k ∧ ¬ Fc k) (h6 : ∀ k, Fc k → F k)
    (k1 : (∀ k, Fo' k → Fo k ∧ k < w.heap.size)) (k2 : (∀ k, Fp' k → Fp k ∧ k < w.heap.size ∨ w.heap.size ≤ k)) (k3 : (∀ k, Fc' k → Fc k ∧ k < w.heap.size ∨ w.heap.size ≤ k)) (k4 : (∀ k, Fp' k → k < w.heap.size) ∨ (∀ k, Fc' k → k < w.heap.size)) :
    PresX (fun k => F k ∨ w.heap.size ≤ k) w' vo vp vc P' := by
  refine ⟨Fo', Fp', Fc', h1, h2, h3, fun k hk => ⟨.inl (h4 k (k1 k hk).1).1, fun e => ?_, fun e => ?_⟩, fun k hk => ⟨?_, fun e => ?_⟩, fun k hk => ?_⟩
  · rcases k2 k e with e | e
    · exact (h4 k (k1 k hk).1).2.1 e.1
    · have := (k1 k hk).2; omega
  · rcases k3 k e with e | e
    · exact (h4 k (k1 k hk).1).2.2 e.1
    · have := (k1 k hk).2; omega
  · rcases k2 k hk with e | e
    · exact .inl (h5 k e.1).1
    · exact .inr e
  · rcases k4 with k4 | k4
    · have a := k4 k hk
      rcases k2 k hk with b | b
      · rcases k3 k e with c | c
        · exact (h5 k b.1).2 c.1
        · omega
      · omega
    · have a := k4 k e
      rcases k3 k e with c | c
      · rcases k2 k hk with b | b
        · exact (h5 k b.1).2 c.1
        · omega
      · omega
  · rcases k3 k hk with e | e
    · exact .inl (h6 k e.1)
    · exact .inr e

/-- a power may be put in its place -/
theorem PresX.openP {F : Nat → Prop} {w1 : World} {vo vp vc : Value} {P : Pr} (h : PresX F w1 vo vp vc P) (i : Nat) (hi : i < P.powers.length) :
    ∃ g cap z, vp = .slice (some ⟨g, 0, none⟩) P.powers.length cap ∧ F g ∧ g < w1.heap.size ∧ w1.cell? ⟨g, i, none⟩ = some z ∧ (∀ j, j < P.powers.length → w1.frozen? ⟨g, j, none⟩ = false) ∧
      ∀ w2 u y, Ext w1 w2 → OwnIn (From w1.heap.size) w2 u y → PresX (fun k => F k ∨ w1.heap.size ≤ k) (w2.setCell ⟨g, i, none⟩ u) vo vp vc { P with powers := P.powers.set i y } := by
  obtain ⟨Fo, Fp, Fc, h1, h2, h3, h4, h5, h6⟩ := h
  rcases SlI.form h2 with ⟨_, e⟩ | ⟨g, cap, rfl, hFg, hgl⟩
  · rw [e] at hi; simp at hi
  obtain ⟨⟨z, hz⟩, _⟩ := SlI.place h2 i hi
  refine ⟨g, cap, z, rfl, (h5 g hFg).1, hgl, hz, fun j hj => (SlI.place h2 j hj).2, fun w2 u y hg hu => ?_⟩
  obtain ⟨s1, s2⟩ := SlI.store rdOwn h2 hg hu i
  have hT : w1.grownBy (w2.setCell ⟨g, i, none⟩ u) (some g) := grown_trans (grown_of_ext _ hg) s2
  exact PresX.put (Fo' := fun k => Fo k ∧ k < w1.heap.size) (Fp' := fun k => Fp k ∧ k < w1.heap.size ∨ w1.heap.size ≤ k) (Fc' := fun k => Fc k ∧ k < w1.heap.size) (some g) hT
    (rdOwn.mono h1 (fun k hk hlt => ⟨⟨hk, hlt⟩, Nat.lt_of_lt_of_le hlt hT.size, hT.block k hlt (fun e => (h4 k hk).2.1 (by cases e; exact hFg))⟩))
    (rdRowsI.mono s1 (fun k hk hlt => ⟨by
      rcases hk with hk | hk
      · rcases Nat.lt_or_ge k w1.heap.size with h | h
        · exact .inl ⟨hk, h⟩
        · exact .inr h
      · exact .inr hk, hlt, rfl⟩))
    (rdRows3I.mono h3 (fun k hk hlt => ⟨⟨hk, hlt⟩, Nat.lt_of_lt_of_le hlt hT.size, hT.block k hlt (fun e => (h5 g hFg).2 (by cases e; exact hk))⟩))
    h4 h5 h6 (fun _ h => h) (fun _ h => h) (fun _ h => .inl h) (.inr (fun _ h => h.2))

/-- a conjugate may be put in its place -/
theorem PresX.openC {F : Nat → Prop} {w1 : World} {vo vp vc : Value} {P : Pr} (h : PresX F w1 vo vp vc P) (i j : Nat) (hi : i < P.conj.length) (hj : j < (gt P.conj i).length) :
    ∃ g cap b cap2 z, vc = .slice (some ⟨g, 0, none⟩) P.conj.length cap ∧ F g ∧ g < w1.heap.size ∧ w1.cell? ⟨g, i, none⟩ = some (.slice (some ⟨b, 0, none⟩) (gt P.conj i).length cap2) ∧ F b ∧ b ≠ g ∧ b < w1.heap.size ∧
      w1.cell? ⟨b, j, none⟩ = some z ∧ w1.frozen? ⟨b, j, none⟩ = false ∧
      ∀ w2 u y, Ext w1 w2 → OwnIn (From w1.heap.size) w2 u y → PresX (fun k => F k ∨ w1.heap.size ≤ k) (w2.setCell ⟨b, j, none⟩ u) vo vp vc { P with conj := P.conj.set i ((gt P.conj i).set j y) } := by
  obtain ⟨Fo, Fp, Fc, h1, h2, h3, h4, h5, h6⟩ := h
  rcases SlI.form h3 with ⟨_, e⟩ | ⟨g, cap, rfl, hFg, hgl⟩
  · rw [e] at hi; simp at hi
  obtain ⟨v, Gj, hc, hEl, hGj, hturn⟩ := SlI.turn (rdI rdOwn) h3 i hi
  rcases SlI.form hEl with ⟨_, e⟩ | ⟨b, cap2, rfl, hGb, hbl⟩
  · rw [e] at hj; simp at hj
  obtain ⟨⟨z, hz⟩, hpf⟩ := SlI.place hEl j hj
  have hFb := (hGj b hGb).1
  refine ⟨g, cap, b, cap2, z, rfl, h6 g hFg, hgl, hc, h6 b hFb, (hGj b hGb).2.1, hbl, hz, hpf, fun w2 u y hg hu => ?_⟩
  obtain ⟨s1, s2⟩ := SlI.store rdOwn hEl hg hu j
  have hT : w1.grownBy (w2.setCell ⟨b, j, none⟩ u) (some b) := grown_trans (grown_of_ext _ hg) s2
  have hn := hturn (w2.setCell ⟨b, j, none⟩ u) _ (Touch.of hT (fun k hk => by cases hk; exact hGb)) s1
  exact PresX.put (Fo' := fun k => Fo k ∧ k < w1.heap.size) (Fp' := fun k => Fp k ∧ k < w1.heap.size) (Fc' := fun k => Fc k ∧ k < w1.heap.size ∨ w1.heap.size ≤ k) (some b) hT
    (rdOwn.mono h1 (fun k hk hlt => ⟨⟨hk, hlt⟩, Nat.lt_of_lt_of_le hlt hT.size, hT.block k hlt (fun e => (h4 k hk).2.2 (by cases e; exact hFb))⟩))
    (rdRowsI.mono h2 (fun k hk hlt => ⟨⟨hk, hlt⟩, Nat.lt_of_lt_of_le hlt hT.size, hT.block k hlt (fun e => (h5 k hk).2 (by cases e; exact hFb))⟩))
    (rdRows3I.mono hn (fun k hk hlt => ⟨by
      rcases hk with hk | hk
      · rcases Nat.lt_or_ge k w1.heap.size with h | h
        · exact .inl ⟨hk, h⟩
        · exact .inr h
      · exact .inr hk, hlt, rfl⟩))
    h4 h5 h6 (fun _ h => h) (fun _ h => .inl h) (fun _ h => h) (.inl (fun _ h => h.2))

/-- an integer of a power may be put in its place -/
theorem PresX.openPI {F : Nat → Prop} {w1 : World} {vo vp vc : Value} {P : Pr} (h : PresX F w1 vo vp vc P) (i j : Nat) (hi : i < P.powers.length) (hj : j < (gt P.powers i).length) :
    ∃ g cap b cap2, vp = .slice (some ⟨g, 0, none⟩) P.powers.length cap ∧ F g ∧ g < w1.heap.size ∧ w1.cell? ⟨g, i, none⟩ = some (.slice (some ⟨b, 0, none⟩) (gt P.powers i).length cap2) ∧ F b ∧ b ≠ g ∧ b < w1.heap.size ∧
      w1.cell? ⟨b, j, none⟩ = some (.int .i64 (gt (gt P.powers i) j)) ∧ (∀ w2, Ext w1 w2 → w2.frozen? ⟨b, j, none⟩ = false) ∧
      ∀ w2 x, Ext w1 w2 → PresX (fun k => F k ∨ w1.heap.size ≤ k) (w2.setCell ⟨b, j, none⟩ (.int .i64 x)) vo vp vc { P with powers := P.powers.set i ((gt P.powers i).set j x) } := by
  obtain ⟨Fo, Fp, Fc, h1, h2, h3, h4, h5, h6⟩ := h
  rcases SlI.form h2 with ⟨_, e⟩ | ⟨g, cap, rfl, hFg, hgl⟩
  · rw [e] at hi; simp at hi
  obtain ⟨v, Gj, hc, hEl, hGj, hturn⟩ := SlI.turn rdOwn h2 i hi
  obtain ⟨q1, q2, q3⟩ := hEl
  obtain ⟨b, cap2, rfl, _, hbl⟩ := q1.form (by omega)
  have hGb := q2 b rfl
  have hFb := (hGj b hGb).1
  refine ⟨g, cap, b, cap2, rfl, (h5 g hFg).1, hgl, hc, (h5 b hFb).1, (hGj b hGb).2.1, hbl, q1.cell j hj, fun w2 hg => (q1.ext0 hg).frozen j, fun w2 x hg => ?_⟩
  obtain ⟨s1, s2⟩ := (q1.ext0 hg).store j x
  have hT : w1.grownBy (w2.setCell ⟨b, j, none⟩ (.int .i64 x)) (some b) := grown_trans (grown_of_ext _ hg) s2
  have hn := hturn (w2.setCell ⟨b, j, none⟩ (.int .i64 x)) _ (Touch.of hT (fun k hk => by cases hk; exact hGb)) (⟨s1, fun k hk => .inl (q2 k hk), by rw [List.length_set]; exact q3⟩ : OwnIn (fun k => Gj k ∨ w1.heap.size ≤ k) _ _ ((gt P.powers i).set j x))
  exact PresX.put (Fo' := fun k => Fo k ∧ k < w1.heap.size) (Fp' := fun k => Fp k ∧ k < w1.heap.size ∨ w1.heap.size ≤ k) (Fc' := fun k => Fc k ∧ k < w1.heap.size) (some b) hT
    (rdOwn.mono h1 (fun k hk hlt => ⟨⟨hk, hlt⟩, Nat.lt_of_lt_of_le hlt hT.size, hT.block k hlt (fun e => (h4 k hk).2.1 (by cases e; exact hFb))⟩))
    (rdRowsI.mono hn (fun k hk hlt => ⟨by
      rcases hk with hk | hk
      · rcases Nat.lt_or_ge k w1.heap.size with h | h
        · exact .inl ⟨hk, h⟩
        · exact .inr h
      · exact .inr hk, hlt, rfl⟩))
    (rdRows3I.mono h3 (fun k hk hlt => ⟨⟨hk, hlt⟩, Nat.lt_of_lt_of_le hlt hT.size, hT.block k hlt (fun e => (h5 b hFb).2 (by cases e; exact hk))⟩))
    h4 h5 h6 (fun _ h => h) (fun _ h => h) (fun _ h => .inl h) (.inr (fun _ h => h.2))

/-- an integer of a conjugate may be put in its place -/
theorem PresX.openCI {F : Nat → Prop} {w1 : World} {vo vp vc : Value} {P : Pr} (h : PresX F w1 vo vp vc P) (i k j : Nat) (hi : i < P.conj.length) (hk : k < (gt P.conj i).length) (hj : j < (gt (gt P.conj i) k).length) :
    ∃ g cap e cap1 b cap2, vc = .slice (some ⟨g, 0, none⟩) P.conj.length cap ∧ F g ∧ g < w1.heap.size ∧ w1.cell? ⟨g, i, none⟩ = some (.slice (some ⟨e, 0, none⟩) (gt P.conj i).length cap1) ∧ F e ∧ e < w1.heap.size ∧
      w1.cell? ⟨e, k, none⟩ = some (.slice (some ⟨b, 0, none⟩) (gt (gt P.conj i) k).length cap2) ∧ F b ∧ b ≠ g ∧ b ≠ e ∧ b < w1.heap.size ∧ w1.cell? ⟨b, j, none⟩ = some (.int .i64 (gt (gt (gt P.conj i) k) j)) ∧ (∀ w2, Ext w1 w2 → w2.frozen? ⟨b, j, none⟩ = false) ∧
      ∀ w2 x, Ext w1 w2 → PresX (fun k => F k ∨ w1.heap.size ≤ k) (w2.setCell ⟨b, j, none⟩ (.int .i64 x)) vo vp vc { P with conj := P.conj.set i ((gt P.conj i).set k ((gt (gt P.conj i) k).set j x)) } := by
  obtain ⟨Fo, Fp, Fc, h1, h2, h3, h4, h5, h6⟩ := h
  rcases SlI.form h3 with ⟨_, e⟩ | ⟨g, cap, rfl, hFg, hgl⟩
  · rw [e] at hi; simp at hi
  obtain ⟨v, Gj, hc, hEl, hGj, hturn⟩ := SlI.turn (rdI rdOwn) h3 i hi
  rcases SlI.form hEl with ⟨_, e⟩ | ⟨e, cap1, rfl, hGe, hel⟩
  · rw [e] at hk; simp at hk
  obtain ⟨v2, Hj, hc2, hE2, hHj, hturn2⟩ := SlI.turn rdOwn hEl k hk
  obtain ⟨q1, q2, q3⟩ := hE2
  obtain ⟨b, cap2, rfl, _, hbl⟩ := q1.form (by omega)
  have hHb := q2 b rfl
  have hGb := (hHj b hHb).1
  have hFb := (hGj b hGb).1
  refine ⟨g, cap, e, cap1, b, cap2, rfl, h6 g hFg, hgl, hc, h6 e (hGj e hGe).1, hel, hc2, h6 b hFb, (hGj b hGb).2.1, (hHj b hHb).2.1, hbl, q1.cell j hj, fun w2 hg => (q1.ext0 hg).frozen j, fun w2 x hg => ?_⟩
  obtain ⟨s1, s2⟩ := (q1.ext0 hg).store j x
  have hT : w1.grownBy (w2.setCell ⟨b, j, none⟩ (.int .i64 x)) (some b) := grown_trans (grown_of_ext _ hg) s2
  have hn2 := hturn2 (w2.setCell ⟨b, j, none⟩ (.int .i64 x)) _ (Touch.of hT (fun k hk => by cases hk; exact hHb)) (⟨s1, fun k hk => .inl (q2 k hk), by rw [List.length_set]; exact q3⟩ : OwnIn (fun k => Hj k ∨ w1.heap.size ≤ k) _ _ ((gt (gt P.conj i) k).set j x))
  have hn := hturn (w2.setCell ⟨b, j, none⟩ (.int .i64 x)) _ (Touch.of hT (fun k hk => by cases hk; exact hGb)) hn2
  exact PresX.put (Fo' := fun k => Fo k ∧ k < w1.heap.size) (Fp' := fun k => Fp k ∧ k < w1.heap.size) (Fc' := fun k => Fc k ∧ k < w1.heap.size ∨ w1.heap.size ≤ k) (some b) hT
    (rdOwn.mono h1 (fun k hk hlt => ⟨⟨hk, hlt⟩, Nat.lt_of_lt_of_le hlt hT.size, hT.block k hlt (fun e => (h4 k hk).2.2 (by cases e; exact hFb))⟩))
    (rdRowsI.mono h2 (fun k hk hlt => ⟨⟨hk, hlt⟩, Nat.lt_of_lt_of_le hlt hT.size, hT.block k hlt (fun e => (h5 k hk).2 (by cases e; exact hFb))⟩))
    (rdRows3I.mono hn (fun k hk hlt => ⟨by
      rcases hk with hk | hk
      · rcases Nat.lt_or_ge k w1.heap.size with h | h
        · exact .inl ⟨hk, h⟩
        · exact .inr h
      · exact .inr hk, hlt, rfl⟩))
    h4 h5 h6 (fun _ h => h) (fun _ h => .inl h) (fun _ h => h) (.inl (fun _ h => h.2))

end Go.Proofs.YtoakmefajbbggaaGreat
namespace Go.Proofs.YtoakmefajbbggaaGreat
open Go.RowKit

/-- at most N generators, vectors of at most N places, lists of the lengths that n asks -/
structure Shp (N : Nat) (P : Pr) : Prop where
  n : P.orders.length ≤ N
  p : P.powers.length = P.orders.length
  c : P.conj.length = P.orders.length
  cl : ∀ i, i < P.orders.length → (gt P.conj i).length = P.orders.length - 1 - i
  pv : ∀ v ∈ P.powers, v.length ≤ N
  cv : ∀ r ∈ P.conj, ∀ v ∈ r, v.length ≤ N

def setP (P : Pr) (i : Nat) (v : List Int) : Pr := { P with powers := P.powers.set i v }
def setC (P : Pr) (i j : Nat) (v : List Int) : Pr := { P with conj := P.conj.set i ((gt P.conj i).set j v) }

theorem mem_set_or {α : Type} {l : List α} {i : Nat} {a b : α} (h : b ∈ l.set i a) : b = a ∨ b ∈ l := by
  rcases List.mem_or_eq_of_mem_set h with h | h
  · exact .inr h
  · exact .inl h

theorem Shp.setP {N : Nat} {P : Pr} (h : Shp N P) (i : Nat) {v : List Int} (hv : v.length ≤ N) : Shp N (setP P i v) :=
  ⟨h.n, by show (P.powers.set i v).length = _; rw [List.length_set]; exact h.p, h.c, h.cl, fun x hx => by
    rcases mem_set_or hx with e | e
    · rw [e]; exact hv
    · exact h.pv x e, h.cv⟩
theorem Shp.setC {N : Nat} {P : Pr} (h : Shp N P) (i j : Nat) (hi : i < P.orders.length) {v : List Int} (hv : v.length ≤ N) : Shp N (setC P i j v) := by
  have hic : i < P.conj.length := by rw [h.c]; exact hi
  refine ⟨h.n, h.p, by show (P.conj.set i _).length = _; rw [List.length_set]; exact h.c, fun k hk => ?_, h.pv, fun r hr x hx => ?_⟩
  · show (gt (P.conj.set i _) k).length = _
    by_cases e : i = k
    · subst e
      rw [gt_set_eq _ _ _ hic, List.length_set]; exact h.cl i hi
    · rw [gt_set_ne _ _ _ _ e]; exact h.cl k hk
  · rcases mem_set_or hr with e | e
    · rw [e] at hx
      rcases mem_set_or hx with e2 | e2
      · rw [e2]; exact hv
      · exact h.cv _ (by rw [gt_eq _ i hic]; exact List.getElem_mem hic) x e2
    · exact h.cv r e x hx

theorem Shp.mono {N M : Nat} {P : Pr} (h : Shp N P) (hm : N ≤ M) : Shp M P := ⟨Nat.le_trans h.n hm, h.p, h.c, h.cl, fun v hv => Nat.le_trans (h.pv v hv) hm, fun r hr v hv => Nat.le_trans (h.cv r hr v hv) hm⟩

/-- the conjugates of a trivial presentation -/
def trivC (n i : Nat) : List (List Int) := (List.range (n - 1 - i)).map (fun k => unitV n (i + 1 + k))
def trivP (o : List Int) : Pr := ⟨o, List.replicate o.length (zeros o.length), (List.range o.length).map (trivC o.length)⟩
theorem trivC_len (n i : Nat) : (trivC n i).length = n - 1 - i := by unfold trivC; simp
theorem unitV_len (n k : Nat) : (unitV n k).length = n := by unfold unitV; simp
theorem zeros_len (n : Nat) : (zeros n).length = n := by unfold zeros; simp
theorem trivP_shp (o : List Int) {N : Nat} (h : o.length ≤ N) : Shp N (trivP o) := by
  refine ⟨h, by simp [trivP], by simp [trivP], fun i hi => ?_, fun v hv => ?_, fun r hr v hv => ?_⟩
  · have hi' : i < o.length := hi
    show (gt ((List.range o.length).map (trivC o.length)) i).length = o.length - 1 - i
    rw [gt_map _ _ _ (by simpa using hi'), gt_eq _ _ (by simpa using hi'), List.getElem_range, trivC_len]
  · have := List.eq_of_mem_replicate hv
    rw [this, zeros_len]; exact h
  · obtain ⟨i, _, rfl⟩ := List.mem_map.1 hr
    obtain ⟨k, _, rfl⟩ := List.mem_map.1 hv
    rw [unitV_len]; exact h

end Go.Proofs.YtoakmefajbbggaaGreat
namespace Go.Proofs.YtoakmefajbbggaaGreat
open Go.RowKit
attribute [local go_sem ↓] Go.wp_at_zero Go.wp_at_succ

/-- a presentation by value all of whose parts lie in blocks from B on -/
def PresR (B : Nat) (P : Pr) (w' : World) (v : Value) : Prop := ∃ vo vp vc, v = .agg #[vo, vp, vc] ∧ PresX (From B) w' vo vp vc P

/-- the parts of a presentation under way -/
structure Part3 (F : Nat → Prop) (w : World) (vo vp vc : Value) (P : Pr) (Fo Fp Fc : Nat → Prop) : Prop where
  o : OwnIn Fo w vo P.orders
  p : RowsI Fp w vp P.powers
  c : Rows3I Fc w vc P.conj
  do_ : ∀ k, Fo k → F k ∧ ¬ Fp k ∧ ¬ Fc k
  dp : ∀ k, Fp k → F k ∧ ¬ Fc k
  dc : ∀ k, Fc k → F k
theorem PresX.part {F : Nat → Prop} {w : World} {vo vp vc : Value} {P : Pr} (h : PresX F w vo vp vc P) : ∃ Fo Fp Fc, Part3 F w vo vp vc P Fo Fp Fc := by
  obtain ⟨Fo, Fp, Fc, h1, h2, h3, h4, h5, h6⟩ := h
  exact ⟨Fo, Fp, Fc, h1, h2, h3, h4, h5, h6⟩

theorem SlI.sl {α : Type} [Inhabited α] {El : (Nat → Prop) → World → Value → α → Prop} {E : Nat} {F : Nat → Prop} {w : World} {v : Value} {xs : List α} (h : SlI El E F w v xs) : ∃ a n c, v = .slice a n c ∧ n = xs.length := by
  rcases h.form with ⟨rfl, rfl⟩ | ⟨g, cap, rfl, _⟩
  · exact ⟨_, _, _, rfl, rfl⟩
  · exact ⟨_, _, _, rfl, rfl⟩
theorem PresX.sh2 {F : Nat → Prop} {w : World} {vo vp vc : Value} {P : Pr} (h : PresX F w vo vp vc P) : ∃ a2 n2 c2 a3 n3 c3, vp = .slice a2 n2 c2 ∧ vc = .slice a3 n3 c3 ∧ n2 = P.powers.length ∧ n3 = P.conj.length := by
  obtain ⟨_, _, a2, c2, a3, c3, _, h2, h3⟩ := h.shape
  exact ⟨a2, _, c2, a3, _, c3, h2, h3, rfl, rfl⟩

/-- the powers are put anew -/
theorem Part3.newP {F : Nat → Prop} {w w' : World} {vo vp vc v' : Value} {P : Pr} {Fo Fp Fc : Nat → Prop} (h : Part3 F w vo vp vc P Fo Fp Fc) {L : List (List Int)} (hR : RowsI (fun k => Fp k ∨ w.heap.size ≤ k) w' v' L) (hT : w.grownBy w' vp.ownBlock) :
    PresX (fun k => F k ∨ w.heap.size ≤ k) w' vo v' vc { P with powers := L } := by
  have hv : ∀ k, vp.ownBlock = some k → Fp k := by
    obtain ⟨_, _, _, _, _, h1, _⟩ := h.p
    exact h1
  refine ⟨fun k => Fo k ∧ k < w.heap.size, fun k => Fp k ∧ k < w.heap.size ∨ w.heap.size ≤ k, fun k => Fc k ∧ k < w.heap.size,
    rdOwn.mono h.o (fun k hk hlt => ⟨⟨hk, hlt⟩, Nat.lt_of_lt_of_le hlt hT.size, hT.block k hlt (fun e => (h.do_ k hk).2.1 (hv k e.symm))⟩),
    rdRowsI.mono hR (fun k hk hlt => ⟨?_, hlt, rfl⟩),
    rdRows3I.mono h.c (fun k hk hlt => ⟨⟨hk, hlt⟩, Nat.lt_of_lt_of_le hlt hT.size, hT.block k hlt (fun e => (h.dp k (hv k e.symm)).2 hk)⟩),
    fun k hk => ⟨.inl (h.do_ k hk.1).1, fun e => ?_, fun e => (h.do_ k hk.1).2.2 e.1⟩, fun k hk => ⟨?_, fun e => ?_⟩, fun k hk => .inl (h.dc k hk.1)⟩
  · rcases hk with hk | hk
    · rcases Nat.lt_or_ge k w.heap.size with h | h
      · exact .inl ⟨hk, h⟩
      · exact .inr h
    · exact .inr hk
  · rcases e with e | e
    · exact (h.do_ k hk.1).2.1 e.1
    · omega
  · rcases hk with hk | hk
    · exact .inl (h.dp k hk.1).1
    · exact .inr hk
  · rcases hk with hk | hk
    · exact (h.dp k hk.1).2 e.1
    · omega
/-- the conjugates are put anew -/
theorem Part3.newC {F : Nat → Prop} {w w' : World} {vo vp vc v' : Value} {P : Pr} {Fo Fp Fc : Nat → Prop} (h : Part3 F w vo vp vc P Fo Fp Fc) {L : List (List (List Int))} (hR : Rows3I (fun k => Fc k ∨ w.heap.size ≤ k) w' v' L) (hT : w.grownBy w' vc.ownBlock) :
    PresX (fun k => F k ∨ w.heap.size ≤ k) w' vo vp v' { P with conj := L } := by
  have hv : ∀ k, vc.ownBlock = some k → Fc k := by
    obtain ⟨_, _, _, _, _, h1, _⟩ := h.c
    exact h1
  refine ⟨fun k => Fo k ∧ k < w.heap.size, fun k => Fp k ∧ k < w.heap.size, fun k => Fc k ∧ k < w.heap.size ∨ w.heap.size ≤ k,
    rdOwn.mono h.o (fun k hk hlt => ⟨⟨hk, hlt⟩, Nat.lt_of_lt_of_le hlt hT.size, hT.block k hlt (fun e => (h.do_ k hk).2.2 (hv k e.symm))⟩),
    rdRowsI.mono h.p (fun k hk hlt => ⟨⟨hk, hlt⟩, Nat.lt_of_lt_of_le hlt hT.size, hT.block k hlt (fun e => (h.dp k hk).2 (hv k e.symm))⟩),
    rdRows3I.mono hR (fun k hk hlt => ⟨?_, hlt, rfl⟩),
    fun k hk => ⟨.inl (h.do_ k hk.1).1, fun e => (h.do_ k hk.1).2.1 e.1, fun e => ?_⟩, fun k hk => ⟨.inl (h.dp k hk.1).1, fun e => ?_⟩, fun k hk => ?_⟩
  · rcases hk with hk | hk
    · rcases Nat.lt_or_ge k w.heap.size with h | h
      · exact .inl ⟨hk, h⟩
      · exact .inr h
    · exact .inr hk
  · rcases e with e | e
    · exact (h.do_ k hk.1).2.2 e.1
    · omega
  · rcases e with e | e
    · exact (h.dp k hk.1).2 e.1
    · omega
  · rcases hk with hk | hk
    · exact .inl (h.dc k hk.1)
    · exact .inr hk

theorem presX_start {w : World} {vo : Value} {o : List Int} {B : Nat} (h : Own B w vo o) (hl : o.length ≤ 1000) : PresX (From B) w vo (.slice none 0 0) (.slice none 0 0) ⟨o, [], []⟩ :=
  ⟨fun k => vo.ownBlock = some k, fun _ => False, fun _ => False, ⟨h.weak (Nat.zero_le _), fun _ hk => hk, by show o.length ≤ _; omega⟩,
    ⟨[], fun _ _ => False, rfl, by simp, World.ownsRow_nil _ _ _ _, by simp [Value.ownBlock], by simp, by simp, by simp⟩, ⟨[], fun _ _ => False, rfl, by simp, World.ownsRow_nil _ _ _ _, by simp [Value.ownBlock], by simp, by simp, by simp⟩,
    fun k hk => ⟨(h.lt k hk).1, fun h => h, fun h => h⟩, fun _ h => h.elim, fun _ h => h.elim⟩

set_option maxRecDepth 100000 in
set_option maxHeartbeats 2000000 in
theorem l07Trivial_ok (w : World) (ov : Value) (o : List Int) (S : Nat → Prop) (ho : Ints S w ov o) (hl : o.length ≤ 100) :
    Calls Tryz.prog 222 #[ov] w (Ret w (PresR w.heap.size (trivP o))) := by
  obtain ⟨ao, capo, rfl, _, _⟩ := ho.shape
  have hg0 : Ext w (w.alloc (.cells #[.slice none 0 0, .slice none 0 0, .slice none 0 0] 28)) := World.grownBy_alloc _ _ _
  have hR0 := Box3.made w 28 (.slice none 0 0) (.slice none 0 0) (.slice none 0 0)
  have hcon := l01Own_ok (w.alloc (.cells #[.slice none 0 0, .slice none 0 0, .slice none 0 0] 28)) _ o S (ho.ext hg0) (by omega)
  have HR0 := Lib.hid hR0; clear hR0
  go_enter Tryz.func222, Tryz.ntmps222
  go_wp2_with fail
  have hs0 : (w.alloc (.cells #[.slice none 0 0, .slice none 0 0, .slice none 0 0] 28)).heap.size = w.heap.size + 1 := by simp
  rw [hs0] at hcon
  generalize w.alloc (.cells #[.slice none 0 0, .slice none 0 0, .slice none 0 0] 28) = w0 at *
  refine Calls.mono hcon ?_
  rintro e1 w1 ⟨v1, rfl, hg1, hO1⟩
  clear hcon
  obtain ⟨a1, c1, hv1, _⟩ := (hO1.ints (by omega)).shape
  subst hv1
  go_wp2_with fail
  have hB2 := Box3.made w1 28 (.slice a1 o.length c1) (.slice none 0 0) (.slice none 0 0)
  have hg2 : Ext w1 (w1.alloc (.cells #[.slice a1 o.length c1, .slice none 0 0, .slice none 0 0] 28)) := World.grownBy_alloc _ _ _
  have hX2 : PresX (fun k => w.heap.size + 1 ≤ k ∧ k ≠ w1.heap.size) (w1.alloc (.cells #[.slice a1 o.length c1, .slice none 0 0, .slice none 0 0] 28)) (.slice a1 o.length c1) (.slice none 0 0) (.slice none 0 0) ⟨o, [], []⟩ :=
    (presX_start hO1 (by omega)).mono (fun k hk hlt => ⟨⟨hk, by omega⟩, Nat.lt_of_lt_of_le hlt hg2.size, hg2.block k hlt (by simp)⟩)
  have hs1 := hg1.size
  have HH := Lib.hid (And.intro hs0 hs1); clear hs0 hs1 hO1
  generalize w1.alloc (.cells #[.slice a1 o.length c1, .slice none 0 0, .slice none 0 0] 28) = w2 at *
  go_loopw [5] (fun iv wr => ∃ (i : Nat) (vp vc : Value), iv = .int .i64 i ∧ i ≤ o.length ∧ Ext w0 wr ∧ Box3 wr w1.heap.size (.slice a1 o.length c1) vp vc ∧
    PresX (fun k => w.heap.size + 1 ≤ k ∧ k ≠ w1.heap.size) wr (.slice a1 o.length c1) vp vc ⟨o, List.replicate i (zeros o.length), (List.range i).map (trivC o.length)⟩) (fun iv _ => o.length - (intOf iv).toNat)
  case atStart => exact ⟨0, _, _, rfl, by omega, grown_trans hg1 hg2, hB2, hX2⟩
  case round =>
    clear hB2 hX2
    obtain ⟨i, vp, vc, rfl, hi, hg, hB, hX⟩ := hrel
    by_cases hlt : i < o.length
    · have hlt' : (i : Int) < o.length := by omega
      obtain ⟨Fo, Fp, Fc, hP⟩ := hX.part
      obtain ⟨a2, n2, c2, a3, n3, c3, rfl, rfl, hn2, hn3⟩ := hX.sh2
      have hnb : (Value.slice a2 n2 c2).ownBlock ≠ some w1.heap.size := by
        obtain ⟨_, _, _, _, _, q1, _⟩ := hP.p
        exact fun e => (hP.dp _ (q1 _ e)).1.2 rfl
      have HN := Lib.hid (And.intro hn2 (And.intro hnb hn3)); clear hn2 hn3 hnb
      obtain ⟨h0, h1, h2, h3, h4⟩ := id hB
      have hmk := run_mk_ints o.length (by omega)
      have hgM : Ext wr (wr.alloc (.cells (madeCells #[.int .i64 0] o.length) 2)).drew := grown_trans (World.grownBy_alloc _ _ _) (grown_drew _ _)
      have hOM : OwnIn (From wr.heap.size) (wr.alloc (.cells (madeCells #[.int .i64 0] o.length) 2)).drew (.slice (some ⟨wr.heap.size, 0, none⟩) o.length o.length) (zeros o.length) := by
        have := (own_mk_ints o.length (by omega) wr).ext0 (grown_drew _ none)
        exact OwnIn.of this (by rw [zeros_len]; omega) (fun k hk _ => hk)
      have hpl : (List.replicate i (zeros o.length)).length ≤ 1000000 := by simp; omega
      have hxs : (Value.slice (some ⟨wr.heap.size + 1, 0, none⟩) 1 1) = .slice (some ⟨(wr.alloc (.cells (madeCells #[.int .i64 0] o.length) 2)).drew.heap.size, 0, none⟩) 1 1 := by simp
      have HM := Lib.hid (And.intro hgM (And.intro hOM (And.intro hpl hxs))); clear hgM hOM hpl hxs
      go_wp2_with fail
      go_region_law (refine step_app_I rdOwn 25 (.slice none 0 0) 24 und_rows Tryz.infoRow rfl (by decide) (by rfl) _ _ (by rfl) Fp wr (wr.alloc (.cells (madeCells #[.int .i64 0] o.length) 2)).drew _ _ (List.replicate i (zeros o.length)) (zeros o.length) (by rfl) hP.p HM.out.1 HM.out.2.1 (by rfl) (by exact HM.out.2.2.2) HM.out.2.2.1 ?_; intro v5 w5 hO5 hg5 hg6; obtain ⟨g5, m5, k5, rfl, hm5⟩ := SlI.sl hO5; have hm6 : m5 = i + 1 := (by rw [hm5]; simp); clear hm5; subst hm6; have hB5 := Box3.keep hB hg5.size (hg5.block _ hB.1 (fun e => HN.out.2.1 e.symm)); obtain ⟨f0, f1, f2, f3, f4⟩ := id hB5)
      all_goals
        have hB6 := (hB5.put (.slice g5 (i + 1) k5)).2.1
        have hT6 := grown_set w5 w1.heap.size 1 (.slice g5 (i + 1) k5)
        have hX6 : PresX (fun k => w.heap.size + 1 ≤ k ∧ k ≠ w1.heap.size) (w5.setCell ⟨w1.heap.size, 1, none⟩ (.slice g5 (i + 1) k5)) (.slice a1 o.length c1) (.slice g5 (i + 1) k5) (.slice a3 n3 c3) ⟨o, List.replicate (i + 1) (zeros o.length), (List.range i).map (trivC o.length)⟩ := by
          have hX5 := hP.newP hO5 hg5
          rw [show List.replicate (i + 1) (zeros o.length) = List.replicate i (zeros o.length) ++ [zeros o.length] from List.replicate_succ']
          exact hX5.mono (frame_of hT6 (fun k hk hlt => by
            have hk' : (w.heap.size + 1 ≤ k ∧ k ≠ w1.heap.size) ∨ wr.heap.size ≤ k := hk
            refine ⟨?_, fun e => ?_⟩
            · have := HH.out; have := hB.1
              omega
            · cases e; have := hB.1; omega))
        have hg06 : Ext w0 (w5.setCell ⟨w1.heap.size, 1, none⟩ (.slice g5 (i + 1) k5)) := grown_own (grown_own hg hg5 (fun j hj hlt => by
          obtain ⟨_, _, _, _, _, q1, _⟩ := hP.p
          have := (hP.dp _ (q1 _ hj)).1; have := HH.out; omega)) hT6 (fun j hj hlt => by cases hj; have := HH.out; omega)
        have hsz6 : w5.heap.size = (w5.setCell ⟨w1.heap.size, 1, none⟩ (.slice g5 (i + 1) k5)).heap.size := by simp
        have HZ6 := Lib.hid hsz6; clear hsz6
        have HM6 := Lib.hid (And.intro hB6 (And.intro hX6 hg06)); clear hB6 hX6 hg06 hT6 hB5 hO5 hg5 hg6 hP hX hB hg h0 h1 h2 h3 h4 HM HN hmk
        go_wp2
        clear f0 f1 f2 f3 f4
        generalize w5.setCell ⟨w1.heap.size, 1, none⟩ (.slice g5 (i + 1) k5) = w6 at *
        rw [HZ6.out]
        clear HZ6
        have hg7 : Ext w6 (w6.alloc (.cells #[] 24)) := World.grownBy_alloc _ _ _
        have hO7 : RowsO w6.heap.size (w6.alloc (.cells #[] 24)) (.slice (some ⟨w6.heap.size, 0, none⟩) 0 0) ((trivC o.length i).take 0) := ⟨[], fun _ _ => False, rfl, World.ownsRow_lit w6 #[] 0 (Nat.le_refl _) (by decide) rfl, by simp, by simp, by simp⟩
        have hcl := trivC_len o.length i
        have HC := Lib.hid hcl; clear hcl
        go_loopw [6, 7] (fun rv jv wr => ∃ (j : Nat) (v4 : Value), v4 = rv ∧ jv = .int .i64 ((i + 1 + j : Nat) : Int) ∧ i + 1 + j ≤ o.length ∧ Ext w6 wr ∧ RowsO w6.heap.size wr v4 ((trivC o.length i).take j)) (fun _ jv _ => o.length - (intOf jv).toNat)
        case atStart => exact ⟨0, _, rfl, by go_num, by omega, hg7, hO7⟩
        case round =>
          clear hO7 hg7
          obtain ⟨j, v4, rfl, rfl, hj, hgj, hO⟩ := hrel
          by_cases hltj : i + 1 + j < o.length
          · have hltj' : ((i + 1 + j : Nat) : Int) < o.length := by omega
            have hstep : (trivC o.length i).take (j + 1) = (trivC o.length i).take j ++ [unitV o.length (i + 1 + j)] := by
              rw [take_succ_gt _ j (by rw [HC.out]; omega)]
              unfold trivC
              rw [gt_map _ _ _ (by simp; omega), gt_eq _ _ (by simp; omega), List.getElem_range]
            have htl : ((trivC o.length i).take j).length ≤ 1000000 := by rw [List.length_take]; omega
            have HS := Lib.hid (And.intro hstep htl); clear hstep htl
            go_wp2_with fail
            refine Calls.mono (l07Unit_ok o.length (i + 1 + j) wr hltj (by omega)) ?_
            rintro eC wC ⟨vC, rfl, hgC, hOC⟩
            have hYO : OwnIn (From wr.heap.size) wC vC (unitV o.length (i + 1 + j)) := OwnIn.of hOC (by rw [unitV_len]; omega) (fun j h1 _ => h1)
            obtain ⟨ay, capy, hvy, _, _⟩ := hYO.ints.shape
            subst hvy
            go_wp2_with (first | (at_builtin; refine wp_app_row rfl _ _ rfl w6.heap.size wr wC v4 _ ((trivC o.length i).take j) (unitV o.length (i + 1 + j)) rfl hO hgC hYO rfl rfl HS.out.2 hgj.size ?_; intro v5 w5 hO5 hg5 hg6; have hgw5 := hO.extw hgj (Nat.le_refl _) hg5) | fail)
            go_roundw
            case rel => exact ⟨j + 1, v5, rfl, by go_num, by omega, hgw5, by rw [HS.out.1]; exact hO5⟩
            case measure => simp [intOf]; omega
          · have hje : j = o.length - 1 - i := by omega
            subst hje
            rw [List.take_of_length_le (by rw [HC.out]; exact Nat.le_refl _)] at hO
            have hRI : RowsI (From w6.heap.size) wr v4 (trivC o.length i) := SlI.of hO (by rw [HC.out]; omega) (fun k h _ => h)
            have hB7 := HM6.out.1.ext hgj
            obtain ⟨Fo, Fp, Fc, hP⟩ := HM6.out.2.1.part
            have hcl3 : ((List.range i).map (trivC o.length)).length ≤ 1000000 := by simp; omega
            obtain ⟨a4, n4, c4, rfl, hn4⟩ := SlI.sl hRI
            have hnb : (Value.slice a3 n3 c3).ownBlock ≠ some w1.heap.size := by
              obtain ⟨_, _, _, _, _, q1, _⟩ := hP.c
              exact fun e => (hP.dc _ (q1 _ e)).2 rfl
            have HR := Lib.hid (And.intro hcl3 (And.intro hn4 hnb)); clear hcl3 hn4 hO hnb
            obtain ⟨f0, f1, f2, f3, f4⟩ := id hB7
            go_wp2_with (first | (at_builtin; refine wp_app_I (rdI rdOwn) 26 (.slice none 0 0) 24 und_rows3 Tryz.infoRows rfl (by decide) rfl _ _ rfl Fc w6 wr _ _ ((List.range i).map (trivC o.length)) (trivC o.length i) rfl hP.c hgj hRI rfl rfl HR.out.1 ?_; intro v8 w8 hO8 hg8 hg9; obtain ⟨g8, m8, k8, rfl, hm8⟩ := SlI.sl hO8; clear hm8; have hB8 := Box3.keep hB7 hg9.size (hg9.block _ hB7.1 (fun e => HR.out.2.2 e.symm)); clear f0 f1 f2 f3 f4; obtain ⟨f0, f1, f2, f3, f4⟩ := id hB8) | fail)
            have hB9 := (hB8.put (.slice g8 m8 k8)).2.2
            have hT9 := grown_set w8 w1.heap.size 2 (.slice g8 m8 k8)
            have hX9 : PresX (fun k => w.heap.size + 1 ≤ k ∧ k ≠ w1.heap.size) (w8.setCell ⟨w1.heap.size, 2, none⟩ (.slice g8 m8 k8)) (.slice a1 o.length c1) (.slice g5 (i + 1) k5) (.slice g8 m8 k8) ⟨o, List.replicate (i + 1) (zeros o.length), (List.range (i + 1)).map (trivC o.length)⟩ := by
              have hX8 := hP.newC hO8 hg8
              rw [show (List.range (i + 1)).map (trivC o.length) = (List.range i).map (trivC o.length) ++ [trivC o.length i] by rw [List.range_succ, List.map_append]; rfl]
              exact hX8.mono (frame_of hT9 (fun k hk hlt => by
                have hk' : (w.heap.size + 1 ≤ k ∧ k ≠ w1.heap.size) ∨ w6.heap.size ≤ k := hk
                have h1 := HM6.out.1.1
                refine ⟨?_, fun e => ?_⟩
                · have := HH.out
                  omega
                · cases e; omega))
            have hg09 : Ext w0 (w8.setCell ⟨w1.heap.size, 2, none⟩ (.slice g8 m8 k8)) := grown_own (grown_own HM6.out.2.2 hg8 (fun j hj hlt => by
              obtain ⟨_, _, _, _, _, q1, _⟩ := hP.c
              have := hP.dc _ (q1 _ hj); have := HH.out; omega)) hT9 (fun j hj hlt => by cases hj; have := HH.out; omega)
            clear f0 f1 f2 f3 f4
            go_roundw
            case rel => exact ⟨i + 1, _, _, by go_num, by omega, hg09, hB9, hX9⟩
            case measure => simp [intOf]; omega
        done
    · have hie : i = o.length := by omega
      subst hie
      have hz := HR0.out.ext hg
      obtain ⟨a2, n2, c2, a3, n3, c3, rfl, rfl, hn2, hn3⟩ := hX.sh2
      clear hn2 hn3
      obtain ⟨h0, h1, h2, h3, h4⟩ := id hB
      obtain ⟨k0, k1, k2, k3, k4⟩ := id hz
      have hZ := hz.all (.slice a1 o.length c1) (.slice a2 n2 c2) (.slice a3 n3 c3)
      have hT := grown_set3 wr w.heap.size (.slice a1 o.length c1) (.slice a2 n2 c2) (.slice a3 n3 c3)
      obtain ⟨_, z0, z1, z2, _⟩ := id hZ
      have HT := Lib.hid hT; clear hT hZ
      go_wp2
      refine bodyPost_ret (v := .agg #[.slice a1 o.length c1, .slice a2 n2 c2, .slice a3 n3 c3]) (by simp [results, Tryz.results222, go_sem, z0, z1, z2]) rfl ?_
      exact ⟨_, rfl, grown_own (grown_trans hg0 hg) HT.out (fun j hj hlt => by cases hj; omega), _, _, _, rfl, hX.mono (frame_of HT.out (fun k hk _ => ⟨by show w.heap.size ≤ k; omega, fun e => by cases e; omega⟩))⟩

end Go.Proofs.YtoakmefajbbggaaGreat
namespace Go.Proofs.YtoakmefajbbggaaGreat
open Go.RowKit

/-- some presentation with given orders, all of whose parts may be written -/
def PX (N : Nat) (o : List Int) (F : Nat → Prop) (w : World) (vo vp vc : Value) : Prop := ∃ P, Shp N P ∧ P.orders = o ∧ PresX F w vo vp vc P

/-- it lies in the variable at pb -/
structure BX (N : Nat) (o : List Int) (B pb : Nat) (w : World) (vo vp vc : Value) : Prop where
  hB : B ≤ pb
  box : Box3 w pb vo vp vc
  px : PX N o (fun k => B ≤ k ∧ k ≠ pb) w vo vp vc

theorem PX.ext {N : Nat} {o : List Int} {F : Nat → Prop} {w w' : World} {vo vp vc : Value} (h : PX N o F w vo vp vc) (hg : Ext w w') : PX N o F w' vo vp vc := by
  obtain ⟨P, h1, h2, h3⟩ := h
  exact ⟨P, h1, h2, h3.mono (fun k hk hlt => ⟨hk, Nat.lt_of_lt_of_le hlt hg.size, hg.block k hlt (by simp)⟩)⟩
theorem BX.ext {N : Nat} {o : List Int} {B pb : Nat} {w w' : World} {vo vp vc : Value} (h : BX N o B pb w vo vp vc) (hg : Ext w w') : BX N o B pb w' vo vp vc := ⟨h.hB, h.box.ext hg, h.px.ext hg⟩
theorem BX.storeP {N : Nat} {o : List Int} {B pb : Nat} {w : World} {vo vp vc : Value} (h : BX N o B pb w vo vp vc) (i : Nat) (hi : i < o.length) :
    ∃ g cap z, vp = .slice (some ⟨g, 0, none⟩) o.length cap ∧ B ≤ g ∧ g ≠ pb ∧ g < w.heap.size ∧ (∀ w2, Ext w w2 → w2.cell? ⟨g, i, none⟩ = some z ∧ w2.frozen? ⟨g, i, none⟩ = false) ∧
      ∀ w2 u y, Ext w w2 → OwnIn (From w.heap.size) w2 u y → y.length ≤ N → BX N o B pb (w2.setCell ⟨g, i, none⟩ u) vo vp vc := by
  obtain ⟨P, h1, h2, h3⟩ := h.px
  obtain ⟨g, cap, z, e1, ⟨q1, q2⟩, q3, q4, q5, q6⟩ := h3.openP i (by rw [h1.p, h2]; exact hi)
  have hpb := h.box.1
  have hB := h.hB
  refine ⟨g, cap, z, by rw [e1, h1.p, h2], q1, q2, q3, fun w2 hg => ⟨hg.cell q4 (by simp), (World.frozen?_of_block (hg.block g q3 (by simp))).trans (q5 i (by rw [h1.p, h2]; exact hi))⟩, fun w2 u y hg hu hy => ⟨hB, Box3.keep h.box (grown_trans (grown_of_ext (some g) hg) (grown_set1 w2 g i u)).size ((grown_trans (grown_of_ext (some g) hg) (grown_set1 w2 g i u)).block _ hpb (fun e => q2 (by cases e; rfl))), setP P i y, h1.setP i hy, h2, ?_⟩⟩
  exact (q6 w2 u y hg hu).wide (fun k hk => by rcases hk with hk | hk; exact hk; exact ⟨by omega, by omega⟩)
theorem BX.storeC {N : Nat} {o : List Int} {B pb : Nat} {w : World} {vo vp vc : Value} (h : BX N o B pb w vo vp vc) (i j : Nat) (hi : i < o.length) (hj : j < o.length - 1 - i) :
    ∃ g cap b cap2 z, vc = .slice (some ⟨g, 0, none⟩) o.length cap ∧ B ≤ g ∧ g ≠ pb ∧ g < w.heap.size ∧ w.cell? ⟨g, i, none⟩ = some (.slice (some ⟨b, 0, none⟩) (o.length - 1 - i) cap2) ∧ B ≤ b ∧ b ≠ pb ∧ b ≠ g ∧ b < w.heap.size ∧
      (∀ w2, Ext w w2 → w2.cell? ⟨b, j, none⟩ = some z ∧ w2.frozen? ⟨b, j, none⟩ = false) ∧
      ∀ w2 u y, Ext w w2 → OwnIn (From w.heap.size) w2 u y → y.length ≤ N → BX N o B pb (w2.setCell ⟨b, j, none⟩ u) vo vp vc := by
  obtain ⟨P, h1, h2, h3⟩ := h.px
  have hiP : i < P.orders.length := by rw [h2]; exact hi
  have hl : (gt P.conj i).length = o.length - 1 - i := by rw [h1.cl i hiP, h2]
  obtain ⟨g, cap, b, cap2, z, e1, ⟨q1, q2⟩, q3, q4, ⟨r1, r2⟩, r3, r4, r5, r6, r7⟩ := h3.openC i j (by rw [h1.c]; exact hiP) (by rw [hl]; exact hj)
  have hpb := h.box.1
  have hB := h.hB
  rw [hl] at q4
  refine ⟨g, cap, b, cap2, z, by rw [e1, h1.c, h2], q1, q2, q3, q4, r1, r2, r3, r4, fun w2 hg => ⟨hg.cell r5 (by simp), (World.frozen?_of_block (hg.block b r4 (by simp))).trans r6⟩, fun w2 u y hg hu hy => ⟨hB, Box3.keep h.box (grown_trans (grown_of_ext (some b) hg) (grown_set1 w2 b j u)).size ((grown_trans (grown_of_ext (some b) hg) (grown_set1 w2 b j u)).block _ hpb (fun e => r2 (by cases e; rfl))), setC P i j y, h1.setC i j hiP hy, h2, ?_⟩⟩
  exact (r7 w2 u y hg hu).wide (fun k hk => by rcases hk with hk | hk; exact hk; exact ⟨by omega, by omega⟩)

/-- the answer: some presentation by value, of bounded shape, in new blocks -/
def PresN (N B : Nat) (w' : World) (v : Value) : Prop := ∃ P, Shp N P ∧ PresR B P w' v
theorem PresN.weak {N B B' : Nat} {w' : World} {v : Value} (h : PresN N B w' v) (hB : B' ≤ B) : PresN N B' w' v := by
  obtain ⟨P, h1, a, b, c, e, h2⟩ := h
  exact ⟨P, h1, a, b, c, e, h2.wide (fun k hk => Nat.le_trans hB hk)⟩
theorem BX.ret {N : Nat} {o : List Int} {B pb : Nat} {w : World} {vo vp vc : Value} (h : BX N o B pb w vo vp vc) {w' : World} {r : Nat} (hT : w.grownBy w' (some r)) (hr : r < B) : PresN N B w' (.agg #[vo, vp, vc]) := by
  obtain ⟨P, h1, h2, h3⟩ := h.px
  exact ⟨P, h1, _, _, _, rfl, h3.mono (frame_of hT (fun k hk _ => ⟨hk.1, fun e => by cases e; have : B ≤ r := hk.1; omega⟩))⟩
/-- the trivial presentation, put into a variable -/
theorem BX.start {N : Nat} {o : List Int} {B : Nat} {w w' : World} {vo vp vc : Value} (hl : o.length ≤ N) (h : PresX (From B) w vo vp vc (trivP o)) (hg : Ext w w') (hb : Box3 w' w.heap.size vo vp vc) (hB : B ≤ w.heap.size) : BX N o B w.heap.size w' vo vp vc :=
  ⟨hB, hb, trivP o, trivP_shp o hl, rfl, h.mono (fun k hk hlt => ⟨⟨hk, by omega⟩, Nat.lt_of_lt_of_le hlt hg.size, hg.block k hlt (by simp)⟩)⟩

/-- the same, the parts in blocks of F -/
structure BXF (N : Nat) (o : List Int) (F : Nat → Prop) (pb : Nat) (w : World) (vo vp vc : Value) : Prop where
  ne : ¬ F pb
  box : Box3 w pb vo vp vc
  px : PX N o F w vo vp vc
theorem BX.f {N : Nat} {o : List Int} {B pb : Nat} {w : World} {vo vp vc : Value} (h : BX N o B pb w vo vp vc) : BXF N o (fun k => B ≤ k ∧ k ≠ pb) pb w vo vp vc := ⟨fun h => h.2 rfl, h.box, h.px⟩
theorem BXF.ext {N : Nat} {o : List Int} {F : Nat → Prop} {pb : Nat} {w w' : World} {vo vp vc : Value} (h : BXF N o F pb w vo vp vc) (hg : Ext w w') : BXF N o F pb w' vo vp vc := ⟨h.ne, h.box.ext hg, h.px.ext hg⟩
/-- what lies in F now lies in F' -/
theorem BXF.turn {N : Nat} {o : List Int} {F F' : Nat → Prop} {pb : Nat} {w : World} {vo vp vc : Value} (h : BXF N o F pb w vo vp vc) (hF : ∀ k, F k → k < w.heap.size → F' k) (hn : ¬ F' pb) : BXF N o F' pb w vo vp vc := by
  obtain ⟨P, h1, h2, h3⟩ := h.px
  exact ⟨hn, h.box, P, h1, h2, h3.mono (fun k hk hlt => ⟨hF k hk hlt, hlt, rfl⟩)⟩
theorem BXF.bx {N : Nat} {o : List Int} {F : Nat → Prop} {B pb : Nat} {w : World} {vo vp vc : Value} (h : BXF N o F pb w vo vp vc) (hB : B ≤ pb) (hF : ∀ k, F k → B ≤ k) : BX N o B pb w vo vp vc := by
  obtain ⟨P, h1, h2, h3⟩ := h.px
  exact ⟨hB, h.box, P, h1, h2, h3.wide (fun k hk => ⟨hF k hk, fun e => h.ne (e ▸ hk)⟩)⟩
theorem BXF.storeC {N : Nat} {o : List Int} {F : Nat → Prop} {pb : Nat} {w : World} {vo vp vc : Value} (h : BXF N o F pb w vo vp vc) (i j : Nat) (hi : i < o.length) (hj : j < o.length - 1 - i) (hF : ∀ k, w.heap.size ≤ k → F k) :
    ∃ g cap b cap2 z, vc = .slice (some ⟨g, 0, none⟩) o.length cap ∧ F g ∧ g ≠ pb ∧ g < w.heap.size ∧ w.cell? ⟨g, i, none⟩ = some (.slice (some ⟨b, 0, none⟩) (o.length - 1 - i) cap2) ∧ F b ∧ b ≠ pb ∧ b ≠ g ∧ b < w.heap.size ∧
      (∀ w2, Ext w w2 → w2.cell? ⟨b, j, none⟩ = some z ∧ w2.frozen? ⟨b, j, none⟩ = false) ∧
      ∀ w2 u y, Ext w w2 → OwnIn (From w.heap.size) w2 u y → y.length ≤ N → BXF N o F pb (w2.setCell ⟨b, j, none⟩ u) vo vp vc := by
  obtain ⟨P, h1, h2, h3⟩ := h.px
  have hiP : i < P.orders.length := by rw [h2]; exact hi
  have hl : (gt P.conj i).length = o.length - 1 - i := by rw [h1.cl i hiP, h2]
  obtain ⟨g, cap, b, cap2, z, e1, q1, q3, q4, r1, r3, r4, r5, r6, r7⟩ := h3.openC i j (by rw [h1.c]; exact hiP) (by rw [hl]; exact hj)
  have hpb := h.box.1
  rw [hl] at q4
  have q2 : g ≠ pb := fun e => h.ne (e ▸ q1)
  have r2 : b ≠ pb := fun e => h.ne (e ▸ r1)
  refine ⟨g, cap, b, cap2, z, by rw [e1, h1.c, h2], q1, q2, q3, q4, r1, r2, r3, r4, fun w2 hg => ⟨hg.cell r5 (by simp), (World.frozen?_of_block (hg.block b r4 (by simp))).trans r6⟩, fun w2 u y hg hu hy => ⟨h.ne, Box3.keep h.box (grown_trans (grown_of_ext (some b) hg) (grown_set1 w2 b j u)).size ((grown_trans (grown_of_ext (some b) hg) (grown_set1 w2 b j u)).block _ hpb (fun e => r2 (by cases e; rfl))), setC P i j y, h1.setC i j hiP hy, h2, ?_⟩⟩
  exact (r7 w2 u y hg hu).wide (fun k hk => by rcases hk with hk | hk; exact hk; exact hF k hk)

theorem trivX_shape {F : Nat → Prop} {w : World} {vo vp vc : Value} {o : List Int} (h : PresX F w vo vp vc (trivP o)) : ∃ a c a2 c2 a3 c3, vo = .slice a o.length c ∧ vp = .slice a2 o.length c2 ∧ vc = .slice a3 o.length c3 := by
  obtain ⟨a, c, a2, c2, a3, c3, e1, e2, e3⟩ := h.shape
  exact ⟨a, c, a2, c2, a3, c3, e1, by rw [e2]; simp [trivP], by rw [e3]; simp [trivP]⟩

end Go.Proofs.YtoakmefajbbggaaGreat
