/-
  impl.keyOf: the bytes of all entries, each row closed by a semicolon.
  The lattice's maps: masks seen; the mask of a key.
  What a law over one presentation and one list keeps in view.
  append of one integer inside a region that draws its order.
  The lattice behind a pointer.
  The list of all subgroups as one value; its bounds.
  Plain: the conjugates of a subgroup, as sequences and as masks; the classes of conjugate subgroups.
  The key tells the subgroup.
  append of a subgroup that lay there before to a list of subgroups. (Printed from AppTake.)
  append of one value, of one integer, to a row of the call's own.
  impl.extendMask.
  impl.multiplicationTable.
  The reference's power with any exponent: spec.l10Pow.
  Rows of bools of the call's own; a region that ends in a store.
  The reference's tables by depths: spec.l02Lead, l12Depth, l12Table; how a table reads.
  The reference's coset representatives and membership: spec.l12Reduce, l12Sift, l12Has.
  The reference's membership and order: spec.l01Zero, l12Sift, l12Has, l12Order.
  Plain: the elements of a subgroup as products with exponents (for the reference's list of elements).
  The reference's reduced sequence: spec.l12Full.
  The reference's sifting: spec.l12Strip.
  The reference's closure: spec.l01Own2, l01Inv, l10Comm, l12Close.
  The reference's list of the elements of a subgroup: spec.l12Orders, l10At at orders alone, l12Product, l12Elements.
  The reference's list of the elements of a subgroup: spec.l12Product, l12Elements.
-/
import Derived.Test.YtdklekdpdbjfiaaGreatM4
import Derived.Laws.BytesArg
import Derived.Test.YtdklekdpdbjfiaaGreatM5
import Derived.Laws.BitsAllLaws
import Derived.Test.YtdklekdpdbjfiaaGreatM3
import Derived.Test.YtdklekdpdbjfiaaGreatM2
/- impl.keyOf: the bytes of all entries, each row closed by a semicolon. -/
namespace Go.Proofs.YtdklekdpdbjfiaaGreat
open Go.RowKit
def keyRow (x : List Int) : List Int := x ++ [59]
def keyL (u : List (List Int)) : List Int := (u.map keyRow).flatten
def keyS (u : List (List Int)) : ByteArray := strOfNums (keyL u)
def byV (l : List Int) : List Value := l.map (Value.int .u8)
theorem keyL_take (u : List (List Int)) (k : Nat) (h : k < u.length) : keyL (u.take (k + 1)) = keyL (u.take k) ++ keyRow (gt u k) := by
 unfold keyL
 rw [take_succ_gt u k h, List.map_append, List.flatten_append]
 simp
theorem keyL_len (u : List (List Int)) (b : Nat) (h : ∀ x ∈ u, x.length ≤ b) : (keyL u).length ≤ (b + 1) * u.length := by
 induction u with
 | nil => simp [keyL]
 | cons x u ih =>
  have h1 := ih (fun y hy => h y (List.mem_cons_of_mem _ hy))
  have h2 := h x (List.mem_cons_self ..)
  unfold keyL at h1 ⊢
  simp only [List.map_cons, List.flatten_cons, List.length_append, List.length_cons, keyRow, List.length_nil, Nat.mul_succ]
  omega
theorem keyS_size (u : List (List Int)) : (keyS u).size = (keyL u).length := strOfNums_size _
theorem und_bytes : Tryz.prog.underlying 165 = some (.slice 5) := by kernel_rfl
theorem und_byte : Tryz.prog.underlying 5 = some (.int .u8) := by kernel_rfl
theorem und_str : Tryz.prog.underlying 9 = some .string := by kernel_rfl
theorem Tryz.infoByte : (Tryz.prog.info? 5).map (fun i => (i.zero, i.size, i.bytes)) = some (some (.int .u8 0), 1, 1) := by kernel_rfl
theorem conv_bytes {B : Nat} {w : World} {v : Value} {l : List Int} (h : OwnV B 5 w v (byV l)) : (convert 165 9 v).run Tryz.prog w = .ok (.string (strOfNums l)) w := by
 rcases h.form with ⟨rfl, h2⟩ | ⟨g, cap, rfl, _⟩
 ·have : l = [] := by unfold byV at h2; rw [List.map_eq_nil_iff] at h2; exact h2
  subst this
  rw [run_convert_bytes_nil w _ _ und_bytes und_byte 0 0 _ und_str]
  rfl
 ·have hl : (byV l).length = l.length := by unfold byV; rw [List.length_map]
  rw [hl]
  refine run_convert_bytes_arg w _ _ und_bytes und_byte g 0 l.length cap l rfl (fun i hi => ?_) _ und_str
  have := h.cell i (by rw [hl]; exact hi)
  rw [Nat.zero_add, this]
  unfold byV
  rw [gt_map _ _ _ hi]; rfl
set_option maxHeartbeats 4000000 in
theorem keyOf_ok (u : List (List Int)) (w : World) (uv : Value) (S : Nat → Prop) (h : Rows2 S w uv u) (hb : ∀ x ∈ u, ∀ e ∈ x, 0 ≤ e ∧ e < 256) (hr : ∀ x ∈ u, x.length ≤ 1000) (hn : u.length ≤ 100) :
  Calls Tryz.prog 137 #[uv] w (Ret w fun _ v => v = .string (keyS u)) := by
 obtain ⟨au, capu, rfl, _, _⟩ := Sl.shape h
 have hlen : ∀ k, (keyL (u.take k)).length ≤ 1001 * 100 := fun k => by
  have h1 := keyL_len (u.take k) 1000 (fun x hx => hr x (List.mem_of_mem_take hx))
  have : (u.take k).length ≤ 100 := by rw [List.length_take]; omega
  have := Nat.mul_le_mul_left 1001 this
  omega
 have HB := Lib.hid (And.intro hb (And.intro hr hlen)); clear hb hr hlen
 go_enter Tryz.func137, Tryz.ntmps137
 go_wp2
 go_loopw [3, 10] (fun ov iv wr => ∃ (k : Nat) (v4 : Value), v4 = ov ∧ iv = .int .i64 k ∧ k ≤ u.length ∧ Ext w wr ∧ OwnV w.heap.size 5 wr v4 (byV (keyL (u.take k)))) (fun _ iv _ => u.length - (intOf iv).toNat)
 case atStart => exact ⟨0, _, rfl, rfl, by omega, Ext.refl _, World.ownsRow_nil _ _ _ _⟩
 case round =>
  obtain ⟨k, v4, rfl, rfl, hk, hg, hO⟩ := hrel
  by_cases hlt : k < u.length
  ·have hlt' : (k : Int) < u.length := by omega
   obtain ⟨b, off, a2, cap2, rfl, _, _, hc0, hi⟩ := Rows2.at h k hlt
   have hc := hg.cell hc0 (by simp)
   clear hc0
   have hx := HB.out.1 _ (gtMem hlt)
   have hxl := HB.out.2.1 _ (gtMem hlt)
   have hstep := keyL_take u k hlt
   have hlk := HB.out.2.2 k
   obtain ⟨x, hxd⟩ : ∃ x, x = gt u k := ⟨_, rfl⟩
   rw [← hxd] at hx hxl hstep hc hi
   obtain ⟨l0, hl0⟩ : ∃ l0, l0 = keyL (u.take k) := ⟨_, rfl⟩
   rw [← hl0] at hstep hlk hO
   have HX := Lib.hid (And.intro hx (And.intro hxl (And.intro hstep (And.intro hlk (And.intro hxd hl0))))); clear hx hxl hstep hlk hxd hl0
   have hxl2 : x.length ≤ 1000 := HX.out.2.1
   go_wp2
   clear hc
   go_loopw [3, 16] (fun ov jv wr => ∃ (j : Nat) (v4 : Value), v4 = ov ∧ jv = .int .i64 j ∧ j ≤ x.length ∧ Ext w wr ∧ OwnV w.heap.size 5 wr v4 (byV (l0 ++ x.take j))) (fun _ jv _ => x.length - (intOf jv).toNat)
   case atStart => exact ⟨0, v4, rfl, rfl, by omega, hg, by rw [List.take_zero, List.append_nil]; exact hO⟩
   case round =>
    clear hO hg
    obtain ⟨j, v4, rfl, rfl, hj, hg, hO⟩ := hrel
    by_cases hltj : j < x.length
    ·have hltj' : (j : Int) < x.length := by omega
     obtain ⟨b2, off2, rfl, _, _, hcj⟩ := Ints.at (Ints.ext hi hg) j hltj
     have hx := HX.out.1 _ (gtMem hltj)
     have hst : byV (l0 ++ x.take (j + 1)) = byV (l0 ++ x.take j) ++ [.int .u8 (gt x j)] := by
      unfold byV
      rw [take_succ_gt x j hltj, ← List.append_assoc, List.map_append]; rfl
     have hlen : (byV (l0 ++ x.take j)).length ≤ 1000000 := by
      have h1 := HX.out.2.1
      have h2 := HX.out.2.2.2.1
      unfold byV
      rw [List.length_map, List.length_append, List.length_take]; omega
     obtain ⟨e, he⟩ : ∃ e, e = gt x j := ⟨_, rfl⟩
     rw [← he] at hx hst hcj
     have hw8 : IntKind.u8.wrap e = e := by
      simp only [IntKind.wrap, IntKind.signed, IntKind.bits]
      simp; omega
     have HS := Lib.hid (And.intro hst (And.intro hlen (And.intro he hx))); clear hst hlen he hx
     go_wp2_with (first | (at_builtin; refine wp_app_val 165 5 (.int .u8 0) 1 und_bytes Tryz.infoByte rfl (by decide) rfl _ _ rfl w.heap.size v4 _ (byV (l0 ++ x.take j)) rfl wr hO rfl rfl rfl HS.out.2.1 hg.size ?_; intro v5 w5 hO5 hg5; have hg6 : Ext w w5 := grown_own hg hg5 (fun j hj hlt => by have := (hO.lt j hj).1; omega)) | fail)
     go_roundw
     case rel => exact ⟨j + 1, v5, rfl, by go_num, by omega, hg6, by rw [HS.out.1]; exact hO5⟩
     case measure => simp [intOf]; omega
    ·have hje : j = x.length := by omega
     subst hje
     rw [List.take_length] at hO
     have hst : byV (keyL (u.take (k + 1))) = byV (l0 ++ x) ++ [.int .u8 59] := by
      rw [HX.out.2.2.1]
      unfold byV keyRow
      rw [← List.append_assoc, List.map_append (l₂ := [59])]; rfl
     have hlen : (byV (l0 ++ x)).length ≤ 1000000 := by
      have h1 := HX.out.2.1
      have h2 := HX.out.2.2.2.1
      unfold byV
      rw [List.length_map, List.length_append]; omega
     have HS := Lib.hid (And.intro hst hlen); clear hst hlen
     go_wp2_with (first | (at_builtin; refine wp_app_val 165 5 (.int .u8 0) 1 und_bytes Tryz.infoByte rfl (by decide) rfl _ _ rfl w.heap.size v4 _ (byV (l0 ++ x)) rfl wr hO rfl rfl rfl HS.out.2 hg.size ?_; intro v5 w5 hO5 hg5; have hg6 : Ext w w5 := grown_own hg hg5 (fun j hj hlt => by have := (hO.lt j hj).1; omega)) | fail)
     go_roundw
     case rel => exact ⟨k + 1, v5, rfl, by go_num, by omega, hg6, by rw [HS.out.1]; exact hO5⟩
     case measure => simp [intOf]; omega
  ·have hke : k = u.length := by omega
   subst hke
   rw [List.take_length] at hO
   have hcv := conv_bytes hO
   have hsh : ∃ az nz capz, v4 = .slice az nz capz := by
    rcases hO.form with ⟨h1, _⟩ | ⟨g, cp, h1, _⟩
    ·exact ⟨_, _, _, h1⟩
    ·exact ⟨_, _, _, h1⟩
   obtain ⟨az, nz, capz, rfl⟩ := hsh
   go_wp2
   go_ret
   exact ⟨_, rfl, hg, rfl⟩
end Go.Proofs.YtdklekdpdbjfiaaGreat

/- The lattice's maps: masks seen; the mask of a key. -/
namespace Go.Proofs.YtdklekdpdbjfiaaGreat
open Go.RowKit
open Go.Maps (Keyed)
theorem und_u64 : Tryz.prog.underlying 95 = some (.int .u64) := by kernel_rfl
theorem und_boolL : Tryz.prog.underlying 4 = some .bool := by kernel_rfl
theorem und_mapUB : Tryz.prog.underlying 135 = some (.map 95 4) := by kernel_rfl
theorem und_mapSU : Tryz.prog.underlying 137 = some (.map 9 95) := by kernel_rfl
theorem u64_wf {a : Nat} (h : a < 2 ^ 64) : (Lit.int .u64 (a : Int)).wf = true := by
 have h' : a < 18446744073709551616 := h
 have h1 : IntKind.u64.min = 0 := by decide
 have h2 : IntKind.u64.max = 18446744073709551615 := by decide
 simp only [Lit.wf, h1, h2]
 simp
 omega
def mapUB : MapK Nat Bool where
 t := 135
 k := 95
 e := 4
 kv a := .int .u64 (a : Int)
 kl a := .int .u64 (a : Int)
 okK a := a < 2 ^ 64
 ev x := .bool x
 el x := .bool x
 okV _ := True
 z := false
 keyed := Maps.int_keyed und_u64
 und := und_mapUB
 key a ha := Maps.keyOf_int_mk und_u64 (u64_wf ha)
 inj a c h := by simp at h; omega
 isKey _ := trivial
 elem x _ := plainElem_bool und_boolL x
 inv v x ps h := by
  unfold plainElem at h
  rw [und_boolL] at h
  cases v <;> simp at h
  rw [h.1]
 zero w := by kernel_rfl
 okz := trivial
def mapSU : MapK ByteArray Nat where
 t := 137
 k := 9
 e := 95
 kv s := .string s
 kl s := .string s.data.toList
 okK s := s.size ≤ maxLen
 ev x := .int .u64 (x : Int)
 el x := .int .u64 (x : Int)
 okV x := x < 2 ^ 64
 z := 0
 keyed := Maps.string_keyed und_str
 und := und_mapSU
 key s hs := WideMaps.keyOf_string_mk und_str hs
 inj a c h := by
  cases a with | mk a => cases c with | mk c =>
  simp only [Lit.string.injEq] at h
  rw [Array.toList_inj.1 h]
 isKey _ := trivial
 elem x hx := plainElem_int und_u64 (u64_wf hx)
 inv v x ps h := by
  obtain ⟨c, rfl, hc, _⟩ := plainElem_int_inv und_u64 h
  simp only [Prod.mk.injEq, DataW.lit.injEq, Lit.int.injEq, true_and] at hc
  rw [hc.1]
 zero w := by kernel_rfl
 okz := by decide
theorem MapAt.ne {κ ν : Type} {M : MapK κ ν} {w : World} {b B E m : Nat} {f : κ → ν} {v : Value} {xs : List Value} (h : MapAt M w b f m) (hO : OwnV B E w v xs) : some b ≠ v.ownBlock := by
 obtain ⟨n, D, ⟨es, clock, hb, _⟩, _⟩ := h
 obtain ⟨_, ⟨rfl, _⟩ | ⟨g, cap, cur, rfl, _, hc, _⟩⟩ := hO
 ·intro e; cases e
 ·intro e
  cases e
  rw [hc] at hb; cases hb
end Go.Proofs.YtdklekdpdbjfiaaGreat

/- What a law over one presentation and one list keeps in view. -/
namespace Go.Proofs.YtdklekdpdbjfiaaGreat
open Go.RowKit
end Go.Proofs.YtdklekdpdbjfiaaGreat

/- append of one integer inside a region that draws its order. -/
namespace Go.Proofs.YtdklekdpdbjfiaaGreat
open Go.RowKit
theorem step_app_int {ops : Array Oper} {o : Oper} {a : Act} {K : Act → World → Prop} {Q : Exit → Act → World → Prop} {Ex : Prop} {w : World} (hgd : o.guard = none) (s x : Operand)
  (ho : o.op = Op.call { callee := Callee.builtin Builtin.append, args := #[s, x], argTypes := #[22, 22] }) (B : Nat) (v : Value) (l : List Int) (y : Int) (hs : a.eval s = v) (w2 : World) (hown : Own B w2 v l)
  (hw : w = w2.alloc (.cells #[.int .i64 y] 2)) (hx : a.eval x = .slice (some ⟨w2.heap.size, 0, none⟩) 1 1) (hlen : l.length ≤ 1000000) (hbase : B ≤ w2.heap.size)
  (h : ∀ v' w', Own B w' v' (l ++ [y]) → w2.grownBy w' v.ownBlock → K (a.put o.dst v') w') :
  if Region.wanted o (yielded ops a.tmps) = true then Oper.wp Tryz.prog o a w K Q else Ex := by
 subst hw
 have hga : Ext w2 (w2.alloc (.cells #[.int .i64 y] 2)) := World.grownBy_alloc _ _ _
 refine step_app 22 2 (.int .i64 0) 8 und_ints Tryz.infoInt rfl (by decide) hgd s x ho B v (l.map (Value.int .i64)) hs (hown.ext0 hga).v w2.heap.size (.int .i64 y) hx (by rw [World.cell?_alloc_at _ _ _ _ rfl]; rfl) rfl (by simpa using (by omega : l.length ≤ 2000000)) (by have := hga.size; omega) ?_
 intro v' w' h1 h2 _
 exact h v' w' (Own.of (by rw [List.map_append]; exact h1)) (grown_trans (grown_of_ext _ hga) h2)
end Go.Proofs.YtdklekdpdbjfiaaGreat

/- The lattice behind a pointer. -/
namespace Go.Proofs.YtdklekdpdbjfiaaGreat
open Go.RowKit
noncomputable def latC (P : Pr) : Int := if rconsB P = true then (if 32 < ordP P then 3 else 0) else 1
def uV (m : Nat) : Value := .int .u64 (m : Int)
theorem MapAt.congr {κ ν : Type} {M : MapK κ ν} {w : World} {b : Nat} {f f' : κ → ν} {m : Nat} (h : MapAt M w b f m) (he : ∀ a, f a = f' a) : MapAt M w b f' m := by
 have : f = f' := funext he
 rw [← this]; exact h
theorem und_u64s : Tryz.prog.underlying 88 = some (.slice 95) := by kernel_rfl
theorem Tryz.infoU64 : (Tryz.prog.info? 95).map (fun i => (i.zero, i.size, i.bytes)) = some (some (.int .u64 0), 1, 8) := by kernel_rfl
theorem uV_cell {B : Nat} {w : World} {g n cap i : Nat} {M : List Nat} (h : OwnV B 95 w (.slice (some ⟨g, 0, none⟩) n cap) (M.map uV)) (hi : i < M.length) : w.cell? ⟨g, i, none⟩ = some (.int .u64 ((gt M i : Nat) : Int)) := by
 have := h.cell i (by rw [List.length_map]; exact hi)
 rw [this, gt_map _ _ _ hi]; rfl
theorem uV_shape {B : Nat} {w : World} {v : Value} {M : List Nat} (h : OwnV B 95 w v (M.map uV)) (hne : 0 < M.length) : ∃ g cap, v = .slice (some ⟨g, 0, none⟩) M.length cap := by
 rcases h.form with ⟨_, h2⟩ | ⟨g, cp, h1, _⟩
 ·rw [List.map_eq_nil_iff] at h2; rw [h2] at hne; simp at hne
 ·exact ⟨g, cp, by rw [h1, List.length_map]⟩
theorem mask64 {P : Pr} {H : List Int → Prop} (h : ordP P ≤ 32) : msk P H < 2 ^ 64 :=
 Nat.lt_of_lt_of_le (msk_lt P H) (Nat.pow_le_pow_right (by decide) (by omega))
theorem grown_put (w : World) (a : Addr) (u : Value) : w.grownBy (w.setCell a u) (some a.block) :=
 ⟨rfl, rfl, rfl, by simp, fun k _ hk => heap_setCell_other w a k u (fun e => hk (by rw [e]))⟩
theorem und_r3 : Tryz.prog.underlying 24 = some (.slice 23) := by kernel_rfl
theorem Tryz.infoR3 : (Tryz.prog.info? 23).map (fun i => (i.zero, i.size, i.bytes)) = some (some (.slice none 0 0), 1, 24) := by kernel_rfl
theorem makeUB (w : World) : (Instr.makeMap 135 none).run Tryz.prog w = .ok (.map (some w.heap.size)) (w.alloc (.map #[] 0)) := by kernel_rfl
theorem makeSU (w : World) : (Instr.makeMap 137 none).run Tryz.prog w = .ok (.map (some w.heap.size)) (w.alloc (.map #[] 0)) := by kernel_rfl
theorem SlO.lit1 {α : Type} [Inhabited α] {El : (Nat → Prop) → World → Value → α → Prop} (hEl : RdOk El) {E B : Nat} {w : World} {u : Value} {y : α} (hu : El (From B) w u y) (hB : B ≤ w.heap.size) :
  SlO El E B (w.alloc (.cells #[u] E)) (.slice (some ⟨w.heap.size, 0, none⟩) 1 1) [y] := by
 have hg : Ext w (w.alloc (.cells #[u] E)) := World.grownBy_alloc _ _ _
 refine ⟨[u], fun _ k => B ≤ k ∧ k < w.heap.size, rfl, World.ownsRow_lit w #[u] 1 hB (by decide) rfl, ?_, ?_, ?_⟩
 ·intro i k _ hk
  refine ⟨hk.1, fun h => ?_, ?_⟩
  ·have : w.heap.size = k := Option.some.inj h
   omega
  ·have := hg.size; omega
 ·intro i j k hi hj _ _
  simp at hi hj; omega
 ·intro i hi
  have : i = 0 := by simpa using hi
  subst this
  exact hEl.mono hu (fun k hk hlt => ⟨⟨hk, hlt⟩, Nat.lt_of_lt_of_le hlt hg.size, hg.block k hlt (by simp)⟩)
theorem step_app_u {ops : Array Oper} {o : Oper} {a : Act} {K : Act → World → Prop} {Q : Exit → Act → World → Prop} {Ex : Prop} {w : World} (hgd : o.guard = none) (s x : Operand)
  (ho : o.op = Op.call { callee := Callee.builtin Builtin.append, args := #[s, x], argTypes := #[88, 88] }) (B : Nat) (v : Value) (vs : List Value) (y : Nat) (hs : a.eval s = v) (w2 : World) (hown : OwnV B 95 w2 v vs)
  (hw : w = w2.alloc (.cells #[.int .u64 (y : Int)] 95)) (hx : a.eval x = .slice (some ⟨w2.heap.size, 0, none⟩) 1 1) (hlen : vs.length ≤ 1000000) (hbase : B ≤ w2.heap.size)
  (h : ∀ v' w', OwnV B 95 w' v' (vs ++ [uV y]) → w2.grownBy w' v.ownBlock → K (a.put o.dst v') w') :
  if Region.wanted o (yielded ops a.tmps) = true then Oper.wp Tryz.prog o a w K Q else Ex := by
 subst hw
 have hga : Ext w2 (w2.alloc (.cells #[.int .u64 (y : Int)] 95)) := World.grownBy_alloc _ _ _
 refine step_app 88 95 (.int .u64 0) 8 und_u64s Tryz.infoU64 rfl (by decide) hgd s x ho B v vs hs (hown.kept hga (by cases hv : v.ownBlock <;> simp)) w2.heap.size (.int .u64 (y : Int)) hx (by rw [World.cell?_alloc_at _ _ _ _ rfl]; rfl) rfl (by omega) (by have := hga.size; omega) ?_
 intro v' w' h1 h2 _
 exact h v' w' h1 (grown_trans (grown_of_ext _ hga) h2)
structure LatAt (B : Nat) (P : Pr) (w : World) (lb : Nat) (p : Value) (L : List (List (List Int))) : Prop where
 lo : B ≤ lb
 ex : ∃ lv mv, Box3 w lb p lv mv ∧ SlO (fun F w u (x : List (List Int)) => RowsD F w u x) 23 B w lv L ∧ OwnV B 95 w mv (L.map fun u => uV (mskU P u))
end Go.Proofs.YtdklekdpdbjfiaaGreat

/- The list of all subgroups as one value; its bounds. -/
namespace Go.Proofs.YtdklekdpdbjfiaaGreat
open Go.RowKit
open Classical in
noncomputable def latL (P : Pr) : List (List (List Int)) := if h : ∃ L, LatL P L then Classical.choose h else []
theorem latL_eq {P : Pr} {L : List (List (List Int))} (h : LatL P L) : latL P = L := by
 have hx : ∃ L, LatL P L := ⟨L, h⟩
 unfold latL
 rw [dif_pos hx]
 exact LatL.one (Classical.choose_spec hx) h
theorem latC_zero {P : Pr} (h : latC P = 0) : rconsB P = true ∧ ordP P ≤ 32 := by
 unfold latC at h
 cases hr : rconsB P with
 | false => rw [hr] at h; simp at h
 | true =>
  rw [hr] at h
  simp only [if_true] at h
  refine ⟨rfl, ?_⟩
  split at h <;> omega
section
variable {P : Pr} (G : Grp P)
include G
theorem Grp.mskU_inj {u v : List (List Int)} (hu : SubB P u) (hv : SubB P v) (h : mskU P u = mskU P v) : u = v := by
 have := G.msk_inj (G.subB hu) (G.subB hv) h
 rw [hu.2, hv.2, this]
theorem Grp.lat_len (h32 : ordP P ≤ 32) {L : List (List (List Int))} (h : LatL P L) : L.length ≤ 17408 := by
 have hn : (L.map (mskU P)).Nodup := by
  refine List.nodup_iff_pairwise_ne.2 ?_
  rw [List.pairwise_map]
  refine h.1.imp_of_mem (fun {a b} ha hb hab e => ?_)
  have := G.mskU_inj ((h.2 a).1 ha) ((h.2 b).1 hb) e
  subst this
  exact subLt_irrefl hab
 have := G.few_subs h32 hn (fun m hm => by
  obtain ⟨u, hu, rfl⟩ := List.mem_map.1 hm
  exact ⟨_, G.subB ((h.2 u).1 hu), rfl⟩)
 rwa [List.length_map] at this
theorem Grp.lat_row {L : List (List (List Int))} (h : LatL P L) : ∀ u ∈ L, u.length ≤ 6 ∧ ∀ x ∈ u, x.length ≤ 6 := fun u hu => by
 have hb := (h.2 u).1 hu
 have := G.sub_len hb
 have := G.v.n6
 exact ⟨by omega, fun x hx => by rw [(hb.1 x hx).1]; omega⟩
end
end Go.Proofs.YtdklekdpdbjfiaaGreat

/- Plain: the conjugates of a subgroup, as sequences and as masks; the classes of conjugate subgroups. -/
namespace Go.Proofs.YtdklekdpdbjfiaaGreat
open Go.RowKit
noncomputable def cjU (P : Pr) (u : List (List Int)) (x : List Int) : List (List Int) := cseq P (genP P (fun z => z ∈ conjL P u x))
abbrev gP (P : Pr) (u : List (List Int)) : List Int → Prop := genP P (fun z => z ∈ u)
def mvN (P : Pr) (m t bk : Nat) : Nat → Nat
 | 0 => 0
 | k + 1 => if m.testBit k then mvN P m t bk k ||| 2 ^ tb P (tb P bk k) t else mvN P m t bk k
theorem mvN_bit (P : Pr) (m t bk : Nat) : ∀ k y, (mvN P m t bk k).testBit y = true ↔ ∃ x, x < k ∧ m.testBit x = true ∧ tb P (tb P bk x) t = y
 | 0, y => by simp [mvN]
 | k + 1, y => by
  unfold mvN
  by_cases hb : m.testBit k = true
  ·rw [if_pos hb, Nat.testBit_or, Bool.or_eq_true, mvN_bit P m t bk k y, bit_pow, decide_eq_true_iff]
   constructor
   ·rintro (⟨x, h1, h2, h3⟩ | h)
    ·exact ⟨x, by omega, h2, h3⟩
    ·exact ⟨k, by omega, hb, h⟩
   ·rintro ⟨x, h1, h2, h3⟩
    rcases Nat.lt_succ_iff_lt_or_eq.1 h1 with h | h
    ·exact .inl ⟨x, h, h2, h3⟩
    ·subst h; exact .inr h3
  ·rw [if_neg hb, mvN_bit P m t bk k y]
   constructor
   ·rintro ⟨x, h1, h2, h3⟩; exact ⟨x, by omega, h2, h3⟩
   ·rintro ⟨x, h1, h2, h3⟩
    rcases Nat.lt_succ_iff_lt_or_eq.1 h1 with h | h
    ·exact ⟨x, h, h2, h3⟩
    ·subst h; exact absurd h2 hb
section
variable {P : Pr} (G : Grp P)
include G
theorem Grp.cjU_gen {u : List (List Int)} (hu : SubB P u) {x : List Int} (hx : Vec P.orders x) : genP P (fun z => z ∈ conjL P u x) = cjS P (gP P u) x := by
 have h := G.genP_conjL (G.subB hu) hx
 rw [← hu.2] at h
 exact h
theorem Grp.cjU_eq {u : List (List Int)} (hu : SubB P u) {x : List Int} (hx : Vec P.orders x) : cjU P u x = cseq P (cjS P (gP P u) x) := by
 unfold cjU; rw [G.cjU_gen hu hx]
theorem Grp.cjU_subB {u : List (List Int)} (hu : SubB P u) {x : List Int} (hx : Vec P.orders x) : SubB P (cjU P u x) := by
 rw [G.cjU_eq hu hx]; exact G.subB_cseq (G.cj_sub (G.subB hu) hx)
theorem Grp.mskU_cjU {u : List (List Int)} (hu : SubB P u) {x : List Int} (hx : Vec P.orders x) : mskU P (cjU P u x) = msk P (cjS P (gP P u) x) := by
 rw [G.cjU_eq hu hx]; exact G.mskU_cseq (G.cj_sub (G.subB hu) hx)
theorem Grp.mvN_end {u : List (List Int)} (hu : SubB P u) {t bk : Nat} (ht : t < (ordP P).toNat) (hb : bk < (ordP P).toNat) (he : elAt P (bk : Int) = rInv P (elAt P (t : Int))) :
  mvN P (mskU P u) t bk (ordP P).toNat = mskU P (cjU P u (elAt P (t : Int))) := by
 have hT := G.elAtV ht
 rw [G.mskU_cjU hu hT]
 have S := G.subB hu
 have hel : ∀ x, x < (ordP P).toNat → tb P (tb P bk x) t < (ordP P).toNat ∧ elAt P ((tb P (tb P bk x) t : Nat) : Int) = rConj P (elAt P (x : Int)) (elAt P (t : Int)) := fun x hx => by
  have h1 := G.tb_lt hb hx
  have h2 := G.tb_lt h1.1 ht
  refine ⟨h2.1, ?_⟩
  rw [h2.2, h1.2, he]
  unfold rConj
  exact G.grp.ass _ _ _ (G.invV hT) (G.elAtV hx) hT
 refine msk_eq (fun y hy => ?_) (fun y hy => ?_)
 ·rw [mvN_bit]
  constructor
  ·rintro ⟨x, h1, h2, h3⟩
   have h4 := (hel x h1).2
   rw [h3] at h4
   exact ⟨elAt P (x : Int), (msk_bit h1).1 h2, h4⟩
  ·rintro ⟨z, hz, hzy⟩
   obtain ⟨h1, h2⟩ := G.num_lt (S.vec z hz)
   refine ⟨(num P z).toNat, h1, (msk_bit h1).2 (by rw [h2]; exact hz), ?_⟩
   have h4 := hel _ h1
   rw [h2, ← hzy] at h4
   have h5 := congrArg (fun z => (num P z).toNat) h4.2
   have h6 := G.num_el h4.1
   have h7 := G.num_el hy
   omega
 ·rw [Bool.eq_false_iff]
  intro h
  obtain ⟨x, h1, h2, h3⟩ := (mvN_bit P _ t bk _ y).1 h
  have := (hel x h1).1
  omega
end
open Classical in
noncomputable def cnS (P : Pr) (u : List (List Int)) (S : List (List (List Int))) : Nat → List (List (List Int)) × Nat
 | 0 => (S, 0)
 | t + 1 => if cjU P u (elAt P (t : Int)) ∈ (cnS P u S t).1 then cnS P u S t else ((cnS P u S t).1 ++ [cjU P u (elAt P (t : Int))], (cnS P u S t).2 + 1)
theorem cnS_no {P : Pr} {u : List (List Int)} {S : List (List (List Int))} {t : Nat} (h : cjU P u (elAt P (t : Int)) ∈ (cnS P u S t).1) : cnS P u S (t + 1) = cnS P u S t := by
 rw [cnS, if_pos h]
theorem cnS_yes {P : Pr} {u : List (List Int)} {S : List (List (List Int))} {t : Nat} (h : ¬ cjU P u (elAt P (t : Int)) ∈ (cnS P u S t).1) :
  cnS P u S (t + 1) = ((cnS P u S t).1 ++ [cjU P u (elAt P (t : Int))], (cnS P u S t).2 + 1) := by
 rw [cnS, if_neg h]
theorem cnS_le (P : Pr) (u : List (List Int)) (S : List (List (List Int))) : ∀ t, (cnS P u S t).2 ≤ t
 | 0 => Nat.le_refl _
 | t + 1 => by
  have := cnS_le P u S t
  unfold cnS
  split
  ·omega
  ·show (cnS P u S t).2 + 1 ≤ t + 1
   omega
structure SeenC (P : Pr) (S : List (List (List Int))) : Prop where
 sub : ∀ v ∈ S, SubB P v
 one : S.Nodup
theorem Grp.cnS_seen {P : Pr} (G : Grp P) {u : List (List Int)} (hu : SubB P u) {S : List (List (List Int))} (hS : SeenC P S) : ∀ t, t ≤ (ordP P).toNat → SeenC P (cnS P u S t).1
 | 0, _ => hS
 | t + 1, ht => by
  have ih := Grp.cnS_seen G hu hS t (by omega)
  by_cases h : cjU P u (elAt P (t : Int)) ∈ (cnS P u S t).1
  ·rw [cnS_no h]; exact ih
  ·rw [cnS_yes h]
   refine ⟨fun v hv => ?_, ?_⟩
   ·rcases List.mem_append.1 hv with hv | hv
    ·exact ih.sub v hv
    ·rw [List.mem_singleton.1 hv]; exact G.cjU_subB hu (G.elAtV (by omega))
   ·rw [List.nodup_append]
    exact ⟨ih.one, by simp, fun a ha b hb e => h (by rw [List.mem_singleton.1 hb] at e; rw [← e]; exact ha)⟩
theorem Grp.seen_len {P : Pr} (G : Grp P) (h32 : ordP P ≤ 32) {S : List (List (List Int))} (hS : SeenC P S) : S.length ≤ 17408 := by
 have hn : (S.map (mskU P)).Nodup := by
  refine List.nodup_iff_pairwise_ne.2 ?_
  rw [List.pairwise_map]
  refine (List.nodup_iff_pairwise_ne.1 hS.one).imp_of_mem (fun {a b} ha hb hab e => hab (G.mskU_inj (hS.sub a ha) (hS.sub b hb) e))
 have := G.few_subs h32 hn (fun m hm => by
  obtain ⟨u, hu, rfl⟩ := List.mem_map.1 hm
  exact ⟨_, G.subB (hS.sub u hu), rfl⟩)
 rwa [List.length_map] at this
structure ClsSt where
 seen : List (List (List Int))
 firsts : List (List (List Int))
 sizes : List Nat
open Classical in
noncomputable def clS (P : Pr) (L : List (List (List Int))) : Nat → ClsSt
 | 0 => ⟨[], [], []⟩
 | k + 1 => if gt L k ∈ (clS P L k).seen then clS P L k else
   ⟨(cnS P (gt L k) (clS P L k).seen (ordP P).toNat).1, (clS P L k).firsts ++ [gt L k], (clS P L k).sizes ++ [(cnS P (gt L k) (clS P L k).seen (ordP P).toNat).2]⟩
theorem clS_no {P : Pr} {L : List (List (List Int))} {k : Nat} (h : gt L k ∈ (clS P L k).seen) : clS P L (k + 1) = clS P L k := by rw [clS, if_pos h]
theorem clS_yes {P : Pr} {L : List (List (List Int))} {k : Nat} (h : ¬ gt L k ∈ (clS P L k).seen) :
  clS P L (k + 1) = ⟨(cnS P (gt L k) (clS P L k).seen (ordP P).toNat).1, (clS P L k).firsts ++ [gt L k], (clS P L k).sizes ++ [(cnS P (gt L k) (clS P L k).seen (ordP P).toNat).2]⟩ := by rw [clS, if_neg h]
theorem Grp.clS_seen {P : Pr} (G : Grp P) {L : List (List (List Int))} (hL : ∀ u ∈ L, SubB P u) : ∀ k, k ≤ L.length → SeenC P (clS P L k).seen
 | 0, _ => ⟨fun v (h : v ∈ []) => (by cases h), (List.nodup_nil : ([] : List (List (List Int))).Nodup)⟩
 | k + 1, hk => by
  have ih := Grp.clS_seen G hL k (by omega)
  by_cases h : gt L k ∈ (clS P L k).seen
  ·rw [clS_no h]; exact ih
  ·rw [clS_yes h]; exact G.cnS_seen (hL _ (gt_mem (by omega))) ih _ (Nat.le_refl _)
theorem clS_len (P : Pr) (L : List (List (List Int))) : ∀ k, (clS P L k).firsts.length ≤ k ∧ (clS P L k).sizes.length = (clS P L k).firsts.length
 | 0 => ⟨Nat.le_refl _, rfl⟩
 | k + 1 => by
  obtain ⟨h1, h2⟩ := clS_len P L k
  by_cases h : gt L k ∈ (clS P L k).seen
  ·rw [clS_no h]; exact ⟨by omega, h2⟩
  ·rw [clS_yes h]
   simp only [List.length_append, List.length_singleton]
   omega
theorem clS_mem (P : Pr) {L : List (List (List Int))} : ∀ {k : Nat}, k ≤ L.length → ∀ u ∈ (clS P L k).firsts, u ∈ L
 | 0, _, u, h => by cases h
 | k + 1, hk, u, hu => by
  by_cases h : gt L k ∈ (clS P L k).seen
  ·rw [clS_no h] at hu; exact clS_mem P (by omega) u hu
  ·rw [clS_yes h] at hu
   rcases List.mem_append.1 hu with hu | hu
   ·exact clS_mem P (by omega) u hu
   ·rw [List.mem_singleton.1 hu]; exact gt_mem (by omega)
end Go.Proofs.YtdklekdpdbjfiaaGreat

/- The key tells the subgroup. -/
namespace Go.Proofs.YtdklekdpdbjfiaaGreat
open Go.RowKit
theorem strOf_inj : ∀ {xs ys : List Int}, (∀ a ∈ xs, 0 ≤ a ∧ a < 256) → (∀ a ∈ ys, 0 ≤ a ∧ a < 256) → strOfNums xs = strOfNums ys → xs = ys := by
 intro xs ys hx hy h
 have h1 : xs.map (fun n => UInt8.ofNat n.toNat) = ys.map (fun n => UInt8.ofNat n.toNat) := by
  rw [← strOfNums_data, ← strOfNums_data, h]
 have key : ∀ {xs ys : List Int}, (∀ a ∈ xs, 0 ≤ a ∧ a < 256) → (∀ a ∈ ys, 0 ≤ a ∧ a < 256) → xs.map (fun n => UInt8.ofNat n.toNat) = ys.map (fun n => UInt8.ofNat n.toNat) → xs = ys := by
  intro xs
  induction xs with
  | nil => intro ys _ _ h; cases ys with
   | nil => rfl
   | cons => simp at h
  | cons x xs ih =>
   intro ys hx hy h
   cases ys with
   | nil => simp at h
   | cons y ys =>
    simp only [List.map_cons, List.cons.injEq] at h
    obtain ⟨a1, a2⟩ := hx x (List.mem_cons_self ..)
    obtain ⟨b1, b2⟩ := hy y (List.mem_cons_self ..)
    have he := congrArg UInt8.toNat h.1
    rw [UInt8.toNat_ofNat', UInt8.toNat_ofNat', Nat.mod_eq_of_lt (by omega), Nat.mod_eq_of_lt (by omega)] at he
    rw [show x = y by omega, ih (fun a ha => hx a (List.mem_cons_of_mem _ ha)) (fun a ha => hy a (List.mem_cons_of_mem _ ha)) h.2]
 exact key hx hy h1
theorem keyL_bytes {u : List (List Int)} (h : ∀ x ∈ u, ∀ e ∈ x, 0 ≤ e ∧ e < 256) : ∀ a ∈ keyL u, 0 ≤ a ∧ a < 256 := by
 intro a ha
 unfold keyL at ha
 obtain ⟨r, hr, har⟩ := List.mem_flatten.1 ha
 obtain ⟨x, hx, rfl⟩ := List.mem_map.1 hr
 rcases List.mem_append.1 har with h1 | h1
 ·exact h x hx a h1
 ·simp at h1; omega
theorem keyRow_inj {x y : List Int} (h : keyRow x = keyRow y) : x = y := List.append_cancel_right h
theorem keyS_inj {n : Nat} {u v : List (List Int)} (hu : ∀ x ∈ u, x.length = n ∧ ∀ e ∈ x, 0 ≤ e ∧ e < 256) (hv : ∀ x ∈ v, x.length = n ∧ ∀ e ∈ x, 0 ≤ e ∧ e < 256) (h : keyS u = keyS v) : u = v := by
 have h1 := strOf_inj (keyL_bytes fun x hx => (hu x hx).2) (keyL_bytes fun x hx => (hv x hx).2) h
 have h2 : u.map keyRow = v.map keyRow := flatten_inj (n := n + 1) (by omega)
  (fun r hr => by obtain ⟨x, hx, rfl⟩ := List.mem_map.1 hr; simp [keyRow, (hu x hx).1])
  (fun r hr => by obtain ⟨x, hx, rfl⟩ := List.mem_map.1 hr; simp [keyRow, (hv x hx).1]) h1
 have key : ∀ {u v : List (List Int)}, u.map keyRow = v.map keyRow → u = v := by
  intro u
  induction u with
  | nil => intro v h; cases v with
   | nil => rfl
   | cons => simp at h
  | cons x u ih =>
   intro v h
   cases v with
   | nil => simp at h
   | cons y v =>
    simp only [List.map_cons, List.cons.injEq] at h
    rw [keyRow_inj h.1, ih h.2]
 exact key h2
theorem vec_bytes {P : Pr} (hP : Valid P) {x : List Int} (hx : Vec P.orders x) : x.length = P.orders.length ∧ ∀ e ∈ x, 0 ≤ e ∧ e < 256 := by
 refine ⟨hx.1, fun e he => ?_⟩
 obtain ⟨i, hi, rfl⟩ := List.getElem_of_mem he
 have h1 := hx.2 i (by rw [← hx.1]; exact hi)
 rw [← gt_eq _ _ hi]
 have h2 := hP.ord7 i (by rw [← hx.1]; exact hi)
 omega
theorem subB_key {P : Pr} (hP : Valid P) {u v : List (List Int)} (hu : SubB P u) (hv : SubB P v) (h : keyS u = keyS v) : u = v :=
 keyS_inj (fun x hx => vec_bytes hP (hu.1 x hx)) (fun x hx => vec_bytes hP (hv.1 x hx)) h
end Go.Proofs.YtdklekdpdbjfiaaGreat

/- append of a subgroup that lay there before to a list of subgroups. (Printed from AppTake.) -/
namespace Go.Proofs.YtdklekdpdbjfiaaGreat
open Go.RowKit
theorem wp_app_take3 {ops : Array Oper} {rest : List Oper} {o : Oper} {a : Act} {Q : Exit → Act → World → Prop} {w : World} (hgd : o.guard = none) (s x : Operand)
  (ho : o.op = Op.call { callee := Callee.builtin Builtin.append, args := #[s, x], argTypes := #[24, 24] }) (B : Nat) (A A' F : Nat → Prop) (w0 : World) (v u : Value) (xs : List (List (List Int))) (y : List (List Int)) (hs : a.eval s = v)
  (hown : SlOA (fun F w u (x : List (List Int)) => RowsD F w u x) 23 B A w0 v xs) (hu : RowsD F w0 u y) (hF : ∀ k, F k → k < w0.heap.size → A k ∧ B ≤ k) (hA' : ∀ k, A' k → A k ∧ ¬ F k) (hAl : ∀ k, A k → k < w0.heap.size) (hw : w = w0.alloc (.cells #[u] 23))
  (hx : a.eval x = .slice (some ⟨w0.heap.size, 0, none⟩) 1 1) (hlen : xs.length ≤ 1000000) (hbase : B ≤ w0.heap.size)
  (h : ∀ v' w', SlOA (fun F w u (x : List (List Int)) => RowsD F w u x) 23 B A' w' v' (xs ++ [y]) → w0.grownBy w' v.ownBlock → (v'.ownBlock = v.ownBlock ∨ ∀ k, v'.ownBlock = some k → w0.heap.size ≤ k) → wpList Tryz.prog ops Q rest (a.put o.dst v') w') :
  wpList Tryz.prog ops Q (o :: rest) a w := by
 subst hw
 obtain ⟨vs, G, hvl, hO, hG, hd, hE, hr, hr2⟩ := hown
 have hga : Ext w0 (w0.alloc (.cells #[u] 23)) := World.grownBy_alloc _ _ _
 refine wp_app 24 23 (.slice none 0 0) 24 und_r3 Tryz.infoR3 rfl (by decide) hgd s x ho B v vs hs (hO.kept hga (by cases hv : v.ownBlock <;> simp)) (some ⟨w0.heap.size, 0, none⟩) 1 1 [u] hx rfl (by simp) ?_ ?_ (by simp; omega) (by have := hga.size; omega) ?_
 ·intro j hj
  have : j = 0 := by omega
  subst this
  exact ⟨_, _, rfl, by rw [World.cell?_alloc_at _ _ _ _ rfl]; rfl⟩
 ·intro u' hu'
  simp at hu'; subst hu'; exact rdRows.one hu
 ·intro v' w' k1 k2 _ k4
  have hg : w0.grownBy w' v.ownBlock := grown_trans (grown_of_ext _ hga) k2
  have hown2 : v'.ownBlock = v.ownBlock ∨ ∀ k, v'.ownBlock = some k → w0.heap.size ≤ k := by
   rcases k4 with h | h
   ·exact .inl h
   ·refine .inr (fun k hk => ?_)
    rw [h] at hk
    have : (w0.alloc (.cells #[u] 23)).heap.size = k := by simpa using hk
    simp at this
    omega
  have hown : ∀ k, v'.ownBlock = some k → v.ownBlock = some k ∨ w0.heap.size ≤ k := fun k hk => by
   rcases k4 with h | h
   ·exact .inl (by rw [← h]; exact hk)
   ·rw [h] at hk
    have : (w0.alloc (.cells #[u] 23)).heap.size = k := by simpa using hk
    simp at this
    exact .inr (by omega)
  refine h v' w' ⟨vs ++ [u], fun i k => if i < xs.length then G i k else F k ∧ k < w0.heap.size, by simp [hvl], k1, ?_, ?_, ?_, ?_, ?_⟩ hg hown2
  ·intro i k hi hk
   split at hk
   ·rename_i hlt
    obtain ⟨a1, a2, a3⟩ := hG i k hlt hk
    exact ⟨a1, fun e => (hown k e).elim a2 (fun h => by omega), Nat.lt_of_lt_of_le a3 hg.size⟩
   ·obtain ⟨b1, b2⟩ := hF k hk.1 hk.2
    exact ⟨b2, fun e => (hown k e).elim (fun h => hr2 k h b1) (fun h => by have := hk.2; omega), Nat.lt_of_lt_of_le hk.2 hg.size⟩
  ·intro i j k hi hj hk hk'
   simp only [List.length_append, List.length_singleton] at hi hj
   split at hk <;> split at hk'
   ·exact hd i j k (by assumption) (by assumption) hk hk'
   ·exact absurd (hF k hk'.1 hk'.2).1 (hr i k (by assumption) hk)
   ·exact absurd (hF k hk.1 hk.2).1 (hr j k (by assumption) hk')
   ·omega
  ·intro i hi
   simp only [List.length_append, List.length_singleton] at hi
   by_cases hlt : i < xs.length
   ·rw [gt_append_left _ _ _ (by omega), gt_append_left _ _ _ hlt]
    simp only [if_pos hlt]
    exact rdRows.mono (hE i hlt) (fun k hk hkl => ⟨hk, Nat.lt_of_lt_of_le hkl hg.size, hg.block k hkl (fun e => (hG i k hlt hk).2.1 e.symm)⟩)
   ·have hi2 : i = xs.length := by omega
    subst hi2
    rw [gt_concat, ← hvl, gt_concat]
    simp only [hvl, Nat.lt_irrefl, if_false]
    exact rdRows.mono hu (fun k hk hkl => ⟨⟨hk, hkl⟩, Nat.lt_of_lt_of_le hkl hg.size, hg.block k hkl (fun e => hr2 k e.symm (hF k hk hkl).1)⟩)
  ·intro i k hi hk ha
   obtain ⟨c1, c2⟩ := hA' k ha
   split at hk
   ·rename_i hlt; exact hr i k hlt hk c1
   ·exact c2 hk.1
  ·intro k hk ha
   obtain ⟨c1, _⟩ := hA' k ha
   rcases hown k hk with h | h
   ·exact hr2 k h c1
   ·have := hAl k c1; omega
end Go.Proofs.YtdklekdpdbjfiaaGreat

/- append of one value, of one integer, to a row of the call's own. -/
namespace Go.Proofs.YtdklekdpdbjfiaaGreat
open Go.RowKit
theorem wp_app_v (T E : Nat) (z : Value) (bytes : Nat) (hT : Tryz.prog.underlying T = some (.slice E)) (hE : (Tryz.prog.info? E).map (fun i => (i.zero, i.size, i.bytes)) = some (some z, 1, bytes))
  (hzs : z.cells.size = 1) (hbt : bytes ≤ 64) {ops : Array Oper} {rest : List Oper} {o : Oper} {a : Act} {Q : Exit → Act → World → Prop} {w : World} (hgd : o.guard = none) (s x : Operand)
  (ho : o.op = Op.call { callee := Callee.builtin Builtin.append, args := #[s, x], argTypes := #[T, T] }) (base : Nat) (w1 : World) (v u : Value) (xs : List Value) (hs : a.eval s = v) (hown : OwnV base E w1 v xs)
  (hw : w = w1.alloc (.cells #[u] E)) (hu : u.oneCell' = true) (hx : a.eval x = .slice (some ⟨w1.heap.size, 0, none⟩) 1 1) (hlen : xs.length ≤ 1000000) (hbase : base ≤ w1.heap.size)
  (h : ∀ v' w', OwnV base E w' v' (xs ++ [u]) → w1.grownBy w' v.ownBlock → wpList Tryz.prog ops Q rest (a.put o.dst v') w') :
  wpList Tryz.prog ops Q (o :: rest) a w := by
 subst hw
 have hga : Ext w1 (w1.alloc (.cells #[u] E)) := World.grownBy_alloc _ _ _
 refine wp_app T E z bytes hT hE hzs hbt hgd s x ho base v xs hs (hown.kept hga (by cases hv : v.ownBlock <;> simp)) (some ⟨w1.heap.size, 0, none⟩) 1 1 [u] hx rfl (by simp) ?_ ?_ (by omega) (by have := hga.size; omega) ?_
 ·intro j hj
  have : j = 0 := by omega
  subst this
  exact ⟨_, _, rfl, by rw [World.cell?_alloc_at _ _ _ _ rfl]; rfl⟩
 ·intro u' hu'
  simp at hu'; subst hu'; exact hu
 ·intro v' w' h1 h2 _ _
  exact h v' w' h1 (grown_trans (grown_of_ext _ hga) h2)
theorem wp_app_int {ops : Array Oper} {rest : List Oper} {o : Oper} {a : Act} {Q : Exit → Act → World → Prop} {w : World} (hgd : o.guard = none) (s x : Operand)
  (ho : o.op = Op.call { callee := Callee.builtin Builtin.append, args := #[s, x], argTypes := #[22, 22] }) (B : Nat) (v : Value) (l : List Int) (y : Int) (hs : a.eval s = v) (w2 : World) (hown : Own B w2 v l)
  (hw : w = w2.alloc (.cells #[.int .i64 y] 2)) (hx : a.eval x = .slice (some ⟨w2.heap.size, 0, none⟩) 1 1) (hlen : l.length ≤ 1000000) (hbase : B ≤ w2.heap.size)
  (h : ∀ v' w', Own B w' v' (l ++ [y]) → w2.grownBy w' v.ownBlock → wpList Tryz.prog ops Q rest (a.put o.dst v') w') :
  wpList Tryz.prog ops Q (o :: rest) a w :=
 wp_app_v 22 2 (.int .i64 0) 8 und_ints Tryz.infoInt rfl (by decide) hgd s x ho B w2 v (.int .i64 y) (l.map (Value.int .i64)) hs hown.v hw rfl hx (by rw [List.length_map]; exact hlen) hbase
  (fun v' w' h1 h2 => h v' w' (Own.of (by rw [List.map_append]; exact h1)) h2)
end Go.Proofs.YtdklekdpdbjfiaaGreat

/- impl.extendMask. -/
namespace Go.Proofs.YtdklekdpdbjfiaaGreat
open Go.RowKit
def tabL (P : Pr) : List (List Int) := (List.range (ordP P).toNat).map (fun a => (List.range (ordP P).toNat).map (fun b => (tb P a b : Int)))
theorem tabL_len (P : Pr) : (tabL P).length = (ordP P).toNat := by unfold tabL; simp
theorem tabL_row {P : Pr} {a : Nat} (ha : a < (ordP P).toNat) : gt (tabL P) a = (List.range (ordP P).toNat).map (fun b => (tb P a b : Int)) := by
 rw [gt_eq _ _ (by rw [tabL_len]; exact ha)]; simp [tabL]
theorem tabL_at {P : Pr} {a b : Nat} (ha : a < (ordP P).toNat) (hb : b < (ordP P).toNat) : gt (gt (tabL P) a) b = (tb P a b : Int) := by
 rw [tabL_row ha, gt_eq _ _ (by simpa using hb)]; simp
theorem bit_and (m t : Nat) (hm : m < 2 ^ 64) : bits .and .u64 ((m : Int) / 2 ^ t) 1 = if m.testBit t then 1 else 0 := by
 have e : ((m : Int) / 2 ^ t) = ((m / 2 ^ t : Nat) : Int) := by rw [Int.natCast_ediv, Int.natCast_pow]; rfl
 have hq : m / 2 ^ t < 18446744073709551616 := Nat.lt_of_le_of_lt (Nat.div_le_self _ _) (by simpa using hm)
 have h1 := u64_and_nat (m / 2 ^ t) 1 hq (by decide)
 rw [e, show (1 : Int) = ((1 : Nat) : Int) from rfl, h1, Nat.and_one_is_mod, Nat.testBit_eq_decide_div_mod_eq]
 by_cases h : m / 2 ^ t % 2 = 1
 ·simp [h]
 ·have : m / 2 ^ t % 2 = 0 := by omega
  simp [this]
theorem shl_one (t : Nat) (ht : t < 64) : IntKind.u64.wrap (2 ^ t) = ((2 ^ t : Nat) : Int) := by
 have h1 : (2 : Nat) ^ t < 2 ^ 64 := Nat.pow_lt_pow_right (by decide) ht
 have e : ((2 : Int) ^ t) = ((2 ^ t : Nat) : Int) := by rw [Int.natCast_pow]; rfl
 rw [e]
 obtain ⟨q, hq⟩ : ∃ q, q = 2 ^ t := ⟨_, rfl⟩
 rw [← hq] at h1 ⊢
 exact IntWalk.u64_in _ ⟨by omega, by omega⟩
theorem or_pow (n t : Nat) (hn : n < 2 ^ 64) (ht : t < 64) : bits .or .u64 (n : Int) ((2 ^ t : Nat) : Int) = ((n ||| 2 ^ t : Nat) : Int) := by
 have h1 : (2 : Nat) ^ t < 2 ^ 64 := Nat.pow_lt_pow_right (by decide) ht
 exact u64_or_nat n (2 ^ t) (by simpa using hn) (by simpa using h1)
theorem rowB_lt {P : Pr} (G : Grp P) {H : List Int → Prop} {x m N a n b q : Nat} (hB : Btw P H x m) (hN : N = (ordP P).toNat) (hb : b ≤ N) (hn : n = outA P N m a) (hq : q = rowB P m a n b) (ha : a < N := by omega) : q < 2 ^ N := by
 subst hN
 have hout : ∀ t, n.testBit t = true → t < (ordP P).toNat := fun t ht => by
  rw [hn, outA_bit] at ht
  rcases ht with h | ⟨a', b', h1, h2, _, _, h5⟩
  ·rcases Nat.lt_or_ge t (ordP P).toNat with h6 | h6
   ·exact h6
   ·rw [hB.high t h6] at h; cases h
  ·rw [← h5]; exact (G.tb_lt (by omega) h2).1
 apply Nat.lt_pow_two_of_testBit
 intro t ht
 rw [Bool.eq_false_iff]
 intro h
 rw [hq, rowB_bit] at h
 rcases h with h | ⟨b', h1, _, h3⟩
 ·have := hout t h; omega
 ·have := (G.tb_lt (a := a) (b := b') ha (by omega)).1; omega
set_option maxRecDepth 100000 in
set_option maxHeartbeats 2000000 in
theorem extendMask_ok (P : Pr) (G : Grp P) (w : World) (tv : Value) (S : Nat → Prop) (H : List Int → Prop) (SH : Sub P H) (x : Nat) (hx : x < (ordP P).toNat) (h32 : ordP P ≤ 32) (ht : Rows2 S w tv (tabL P)) :
  Calls Tryz.prog 146 #[tv, .int .u64 (msk P H : Nat), .int .i64 x] w (Ret w fun _ v => v = .int .u64 (msk P (extP P H (elAt P x)) : Nat)) := by
 obtain ⟨at', capt, rfl, _, _⟩ := Sl.shape ht
 have hpos := G.v.ordP_pos
 obtain ⟨N, hN⟩ : ∃ N, N = (ordP P).toNat := ⟨_, rfl⟩
 have hN32 : N ≤ 32 := by omega
 have hxN : x < N := by omega
 have hlen : (tabL P).length = N := by rw [tabL_len, hN]
 have htN : Rows2 S w (.slice at' N capt) (tabL P) := by rw [← hlen]; exact ht
 rw [hlen]
 have hB0 := btw_start (H := H) hx
 obtain ⟨m0, hm0⟩ : ∃ m0, m0 = msk P H := ⟨_, rfl⟩
 have hm64 : m0 < 2 ^ 64 := by rw [hm0]; exact Nat.lt_of_lt_of_le (msk_lt P H) (Nat.pow_le_pow_right (by decide) (by omega))
 rw [← hm0] at hB0 ⊢
 obtain ⟨p, hp⟩ : ∃ p, p = 2 ^ x := ⟨_, rfl⟩
 have hshl : IntKind.u64.wrap (2 ^ x) = (p : Int) := by rw [shl_one x (by omega), hp]
 obtain ⟨m1, hm1⟩ : ∃ m1, m1 = m0 ||| 2 ^ x := ⟨_, rfl⟩
 have hor : bits .or .u64 (m0 : Int) (p : Int) = (m1 : Int) := by rw [hp, or_pow m0 x hm64 (by omega), hm1]
 rw [← hm1] at hB0
 have HB := Lib.hid (And.intro hB0 (And.intro hN hlen)); clear hB0 hm0 hp hm1 hm64 hN hlen ht hpos h32
 go_enter Tryz.func146, Tryz.ntmps146
 go_wp2
 clear hshl hor
 go_loopw [1] (fun mv wr => ∃ m : Nat, mv = .int .u64 m ∧ wr = w ∧ Hid (Btw P H x m)) (fun mv _ => (4294967296 - intOf mv).toNat)
 case atStart => exact ⟨m1, rfl, rfl, Lib.hid HB.out.1⟩
 case round =>
  obtain ⟨m, rfl, rfl, hB⟩ := hrel
  have hmN : m < 2 ^ N := by rw [HB.out.2.1]; exact btw_lt hB.out
  have hp32 : (2 : Nat) ^ N ≤ 4294967296 := Nat.pow_le_pow_right (n := 2) (by decide) hN32
  have hm32 : m < 4294967296 := Nat.lt_of_lt_of_le hmN hp32
  have HM := Lib.hid (And.intro hmN hp32); clear hmN hp32
  go_wp2
  go_loopw [7, 17] (fun nv av wr' => ∃ (a n : Nat), nv = .int .u64 n ∧ av = .int .i64 a ∧ a ≤ N ∧ wr' = wr ∧ Hid (n = outA P N m a)) (fun _ av _ => N - (intOf av).toNat)
  case atStart => exact ⟨0, m, rfl, rfl, by omega, rfl, Lib.hid rfl⟩
  case round =>
   obtain ⟨a, n, rfl, rfl, ha, hw, hn⟩ := hrel
   subst hw
   by_cases hlt : a < N
   ·have hlt' : (a : Int) < N := by omega
    have hand := bit_and m a (by omega)
    cases hb : m.testBit a with
    | false =>
     rw [hb] at hand
     have hand : bits .and .u64 ((m : Int) / 2 ^ a) 1 = 0 := hand
     have hn2 : n = outA P N m (a + 1) := by rw [outA, hb]; exact hn.out
     have HN := Lib.hid hn2; clear hn2 hn hb
     go_wp2
     clear hand
     go_roundw
     case rel => exact ⟨a + 1, n, rfl, by go_num, by omega, trivial, HN⟩
     case measure => simp [intOf]; omega
    | true =>
     rw [hb] at hand
     have hand : bits .and .u64 ((m : Int) / 2 ^ a) 1 = 1 := hand
     have hn2 : ∀ q, q = rowB P m a n N → q = outA P N m (a + 1) := fun q hq => by rw [outA, hb, ← hn.out]; exact hq
     have hN := Lib.hid hn.out
     have HN := Lib.hid hn2; clear hn2 hn hb
     obtain ⟨ba, oa, a2, cap2, hab, _, _, hca, hra⟩ := Rows2.at htN a (by rw [HB.out.2.2]; exact hlt)
     subst hab
     have haP : a < (ordP P).toNat := by rw [← HB.out.2.1]; exact hlt
     have hrl : (gt (tabL P) a).length = N := by rw [tabL_row haP, HB.out.2.1]; simp
     rw [hrl] at hca
     have hra2 : Ints S wr (.slice a2 N cap2) (gt (tabL P) a) := by rw [← hrl]; exact hra
     have hrlo : N ≤ (gt (tabL P) a).length := by omega
     clear hrl hra
     go_wp2
     clear hand
     go_loopw [7, 27] (fun nv bv wr' => ∃ (b q : Nat), nv = .int .u64 q ∧ bv = .int .i64 b ∧ b ≤ N ∧ wr' = wr ∧ Hid (q = rowB P m a n b)) (fun _ bv _ => N - (intOf bv).toNat)
     case atStart => exact ⟨0, n, rfl, rfl, by omega, rfl, Lib.hid rfl⟩
     case round =>
      obtain ⟨b, q, rfl, rfl, hb, hw, hq⟩ := hrel
      subst hw
      by_cases hltb : b < N
      ·have hltb' : (b : Int) < N := by omega
       have hand := bit_and m b (by omega)
       cases hbb : m.testBit b with
       | false =>
        rw [hbb] at hand
        have hand : bits .and .u64 ((m : Int) / 2 ^ b) 1 = 0 := hand
        have hq2 : q = rowB P m a n (b + 1) := by rw [rowB, hbb]; exact hq.out
        have HQ := Lib.hid hq2; clear hq2 hq hbb
        go_wp2
        clear hand
        go_roundw
        case rel => exact ⟨b + 1, q, rfl, by go_num, by omega, trivial, HQ⟩
        case measure => simp [intOf]; omega
       | true =>
        rw [hbb] at hand
        have hand : bits .and .u64 ((m : Int) / 2 ^ b) 1 = 1 := hand
        have hbP : b < (ordP P).toNat := by rw [← HB.out.2.1]; exact hltb
        obtain ⟨bb, ob, hbe, _, _, hcb⟩ := Ints.at hra2 b (by omega)
        subst hbe
        rw [tabL_at haP hbP] at hcb
        have htb := (G.tb_lt haP hbP).1
        obtain ⟨c, hc⟩ : ∃ c, c = tb P a b := ⟨_, rfl⟩
        rw [← hc] at hcb htb
        have hc32 : c < N := by rw [HB.out.2.1]; exact htb
        have hq64 : q < 2 ^ 64 := Nat.lt_of_lt_of_le (rowB_lt G hB.out HB.out.2.1 (by omega) hN.out hq.out) (Nat.pow_le_pow_right (by decide) (by omega))
        obtain ⟨p, hp⟩ : ∃ p, p = 2 ^ c := ⟨_, rfl⟩
        have hshl : IntKind.u64.wrap (2 ^ c) = (p : Int) := by rw [shl_one c (by omega), hp]
        obtain ⟨q1, hq1⟩ : ∃ q1, q1 = q ||| 2 ^ c := ⟨_, rfl⟩
        have hor : bits .or .u64 (q : Int) (p : Int) = (q1 : Int) := by rw [hp, or_pow q c hq64 (by omega), hq1]
        have hq2 : q1 = rowB P m a n (b + 1) := by rw [rowB, hbb, hq1, hq.out, hc]; rfl
        have HQ := Lib.hid hq2; clear hq2 hq hbb hp hq1 hq64 hc htb
        go_wp2
        clear hand hshl hor hcb
        go_roundw
        case rel => exact ⟨b + 1, q1, rfl, by go_num, by omega, trivial, HQ⟩
        case measure => simp [intOf]; omega
      ·have hbe : b = N := by omega
       subst hbe
       have hfin := Lib.hid (HN.out q hq.out)
       clear hq
       go_wp2
       go_roundw
       case rel => exact ⟨a + 1, q, rfl, by go_num, by omega, trivial, hfin⟩
       case measure => simp [intOf]; omega
   ·have hae : a = N := by omega
    subst hae
    have hle : m ≤ n := by rw [hn.out]; exact outA_le _ _ _
    have hB2 : Btw P H x n := by
     have := G.btw_next SH hx hB.out
     rw [← HB.out.2.1] at this; rw [hn.out]; exact this
    by_cases he : n = m
    ·have hend := G.btw_end SH hx hB.out (by rw [← HB.out.2.1, ← hn.out]; exact he)
     have HE := Lib.hid hend; clear hend hB2 hn
     subst he
     go_wp2
     go_ret
     exact ⟨_, rfl, Ext.refl _, congrArg (fun z : Nat => Value.int .u64 (z : Int)) HE.out⟩
    ·have hnN : n < 2 ^ a := by rw [HB.out.2.1]; exact btw_lt hB2
     have hn32 : n < 4294967296 := Nat.lt_of_lt_of_le hnN HM.out.2
     have hne : ((n : Int) == (m : Int)) = false := by simp; omega
     have hmn : m < n := by omega
     have HB2 := Lib.hid hB2; clear hB2 hn hnN hle
     go_wp2
     go_roundw
     case rel => exact ⟨n, rfl, trivial, HB2⟩
     case measure => simp [intOf]; omega
end Go.Proofs.YtdklekdpdbjfiaaGreat

/- impl.multiplicationTable. -/
namespace Go.Proofs.YtdklekdpdbjfiaaGreat
open Go.RowKit
theorem und_intsN : Tryz.prog.underlying 110 = some (.slice 3) := by kernel_rfl
theorem und_rowsN : Tryz.prog.underlying 133 = some (.slice 110) := by kernel_rfl
theorem Tryz.infoIntN : (Tryz.prog.info? 3).map (fun i => (i.zero, i.size, i.bytes)) = some (some (.int .i64 0), 1, 8) := by kernel_rfl
theorem Tryz.infoRowN : (Tryz.prog.info? 110).map (fun i => (i.zero, i.size, i.bytes)) = some (some (.slice none 0 0), 1, 24) := by kernel_rfl
theorem ints_of_ownV {E base : Nat} {S : Nat → Prop} {w : World} {v : Value} {l : List Int} (h : OwnV base E w v (l.map (Value.int .i64))) (hl : l.length ≤ 9223372036854775807) (hS : ∀ k, v.ownBlock = some k → S k) : Ints S w v l := by
 rcases h.form with ⟨rfl, hn⟩ | ⟨g, cap, rfl, hc, _, hg⟩
 ·have : l = [] := by simpa using hn
  subst this
  exact ⟨none, 0, rfl, ⟨by simp, by simp, fun _ => rfl⟩, fun i hi => by simp at hi⟩
 ·rw [List.length_map] at h hc hS ⊢
  refine ⟨_, cap, rfl, ⟨hc, hl, fun h => by cases h⟩, fun i hi => ⟨g, 0, .int .i64 (gt l i), rfl, hS g rfl, hg, ?_, rfl⟩⟩
  rw [Nat.zero_add, h.cell i (by simpa using hi), gt_map _ _ _ hi]
theorem rows_of_slO {E B : Nat} {w : World} {v : Value} {xs : List (List Int)} (h : SlO (fun F w u (x : List Int) => Ints F w u x) E B w v xs) (hl : xs.length ≤ 9223372036854775807) : Rows2 (From B) w v xs := by
 obtain ⟨G, H, h1, h2, h3, a, cap, hv, hl, hc⟩ := h.toD hl
 refine ⟨a, cap, hv, hl, fun i hi => ?_⟩
 obtain ⟨b, off, u, e1, e2, e3, e4, e5⟩ := hc i hi
 exact ⟨b, off, u, e1, h1 b e2, e3, e4, Ints.sub e5 (fun k hk _ => (h2 i k hi hk).1)⟩
set_option maxRecDepth 100000 in
set_option maxHeartbeats 2000000 in
theorem multiplicationTable_ok (P : Pr) (G : Grp P) (w : World) (p : Value) (Sp : Nat → Prop) (hp : PresP Sp w p P) :
  Calls Tryz.prog 145 #[p] w (Ret w fun w' v => Rows2 (From w.heap.size) w' v (tabL P)) := by
 have hP := G.v
 have hn6 := hP.n6
 have h729 : ordP P ≤ 729 := hP.le729
 have hpos := hP.ordP_pos
 obtain ⟨pb, po, rfl⟩ := hp.shape
 go_enter Tryz.func145, Tryz.ntmps145
 go_wp2_with fail
 refine Calls.mono (allElements_ok P hP w _ Sp hp) ?_
 rintro e1 w1 ⟨v1, rfl, hg1, hE⟩
 have hel : (allEl P).length = (ordP P).toNat := by simp [allEl]
 have hER := RowsD.rows (SlO.toD hE (by omega))
 obtain ⟨aE, capE, hvE, _, _⟩ := Sl.shape hER
 subst hvE
 obtain ⟨N, hN⟩ : ∃ N, N = (ordP P).toNat := ⟨_, rfl⟩
 have hNl : (allEl P).length = N := by rw [hel, hN]
 rw [hNl]
 have hER2 : Rows2 (From w.heap.size) w1 (.slice aE N capE) (allEl P) := by rw [← hNl]; exact hER
 have hNb : N ≤ 729 := by omega
 have hat : ∀ i, i < N → gt (allEl P) i = elAt P i ∧ Vec P.orders (elAt P i) := fun i hi => ⟨by rw [gt_eq _ _ (by rw [hNl]; exact hi)]; simp [allEl], G.elAtV (by omega)⟩
 have HN := Lib.hid (And.intro hN (And.intro hNl hat)); clear hN hNl hat hel hE hER h729 hpos
 go_wp2
 go_loopw [4, 14] (fun ov iv wr => ∃ (i : Nat) (v4 : Value), v4 = ov ∧ iv = .int .i64 i ∧ i ≤ N ∧ Ext w1 wr ∧ SlO (fun F w u (x : List Int) => Ints F w u x) 110 w1.heap.size wr v4 ((tabL P).take i)) (fun _ iv _ => N - (intOf iv).toNat)
 case atStart => exact ⟨0, _, rfl, rfl, by omega, Ext.refl _, SlO.nil _ _ _ _⟩
 case round =>
  obtain ⟨i, v4, rfl, rfl, hi, hg, hO⟩ := hrel
  by_cases hlt : i < N
  ·have hlt' : (i : Int) < N := by omega
   obtain ⟨bx, ox, a2, cap2, hab, _, _, hcx, hrx⟩ := Rows2.at (Rows2.ext hER2 hg) i (by rw [HN.out.2.1]; exact hlt)
   subst hab
   obtain ⟨hxe, hxV⟩ := HN.out.2.2 i hlt
   rw [hxe] at hcx hrx
   obtain ⟨x, hx⟩ : ∃ x, x = elAt P (i : Int) := ⟨_, rfl⟩
   rw [← hx] at hcx hrx hxV
   have HX := Lib.hid (And.intro hx hxV); clear hx hxV hxe
   go_wp2
   clear hcx
   obtain ⟨wo, rfl⟩ : ∃ wo : World, wo = wr := ⟨_, rfl⟩
   have hgwo := grown_trans hg1 hg
   go_loopw [7, 20] (fun rv jv wr => ∃ (j : Nat) (v7 : Value), v7 = rv ∧ jv = .int .i64 j ∧ j ≤ N ∧ Ext wo wr ∧ OwnV wo.heap.size 3 wr v7 (((gt (tabL P) i).take j).map (Value.int .i64))) (fun _ jv _ => N - (intOf jv).toNat)
   case atStart => exact ⟨0, _, rfl, rfl, by omega, Ext.refl _, World.ownsRow_nil _ _ _ _⟩
   case round =>
    obtain ⟨j, v7, rfl, rfl, hj, hgj, hR⟩ := hrel
    have hgw := grown_trans hgwo hgj
    have hgw1 := grown_trans hg hgj
    have hTl : (gt (tabL P) i).length = N := by rw [tabL_row (by rw [← HN.out.1]; exact hlt), ← HN.out.1]; simp
    by_cases hltj : j < N
    ·have hltj' : (j : Int) < N := by omega
     obtain ⟨by', oy, a3, cap3, hab, _, _, hcy, hry⟩ := Rows2.at (Rows2.ext hER2 hgw1) j (by rw [HN.out.2.1]; exact hltj)
     have hrx2 := Ints.ext hrx hgj
     cases hab
     obtain ⟨hye, hyV⟩ := HN.out.2.2 j hltj
     rw [hye] at hcy hry
     obtain ⟨y, hy⟩ : ∃ y, y = elAt P (j : Int) := ⟨_, rfl⟩
     rw [← hy] at hcy hry hyV
     have htv := G.tv_eq HX.out.2 hyV
     have hmV := G.mulV HX.out.2 hyV
     have hml : (rMul P x y).length ≤ 6 := by rw [hmV.1]; exact hn6
     have hnb := num_bd hP hmV
     obtain ⟨q, hq⟩ : ∃ q, q = num P (rMul P x y) := ⟨_, rfl⟩
     have hstep : (gt (tabL P) i).take (j + 1) = (gt (tabL P) i).take j ++ [q] := by
      rw [take_succ_gt _ j (by omega), tabL_at (by rw [← HN.out.1]; exact hlt) (by rw [← HN.out.1]; exact hltj), hq, HX.out.1, hy]
      congr 2
      unfold tb
      have := num_bd hP (G.mulV (G.elAtV (t := i) (by rw [← HN.out.1]; exact hlt)) (G.elAtV (t := j) (by rw [← HN.out.1]; exact hltj)))
      omega
     have hlen : (((gt (tabL P) i).take j).map (Value.int .i64)).length ≤ 1000000 := by rw [List.length_map, List.length_take]; omega
     have HY := Lib.hid (And.intro hyV (And.intro htv (And.intro hmV (And.intro hml (And.intro hq (And.intro hstep hlen)))))); clear hyV htv hmV hml hnb hq hstep hlen hy hye hTl
     go_wp2_with fail
     clear hcy
     refine Calls.mono (multiply_ok P hP wr _ _ _ x y Sp Any Any (hp.ext hgw) (Ints.sub hrx2 (fun _ _ _ => trivial)) (Ints.sub hry (fun _ _ _ => trivial)) HX.out.2 HY.out.1) ?_
     rintro eA wA ⟨vA, rfl, hgA, hOA⟩
     rw [HY.out.2.1] at hOA
     have hAi := hOA.ints (by have := HY.out.2.2.2.1; omega)
     go_wp2_with fail
     refine Calls.mono (numberOf_ok P hP wA _ _ _ _ _ (hp.ext (grown_trans hgw hgA)) hAi HY.out.2.2.1) ?_
     rintro eB wB ⟨rfl, rfl⟩
     rw [← HY.out.2.2.2.2.1]
     have hgjA := grown_trans hgj hgA
     have hRA : OwnV wo.heap.size 3 wA v7 (((gt (tabL P) i).take j).map (Value.int .i64)) := hR.kept hgA (by cases hv : v7.ownBlock <;> simp)
     go_wp2_with (first | (at_builtin; refine wp_app_v 110 3 (.int .i64 0) 8 und_intsN Tryz.infoIntN rfl (by decide) rfl _ _ rfl wo.heap.size wA v7 (.int .i64 q) _ rfl hRA rfl rfl rfl HY.out.2.2.2.2.2.2 hgjA.size ?_; intro v8 w8 hR8 hg8) | fail)
     have hgj8 : Ext wo w8 := grown_own hgjA hg8 (fun b hb hlt => by have := (hRA.lt b hb).1; omega)
     have hR9 : OwnV wo.heap.size 3 w8 v8 (((gt (tabL P) i).take (j + 1)).map (Value.int .i64)) := by rw [HY.out.2.2.2.2.2.1, List.map_append]; exact hR8
     clear hR hRA hR8 hg8 hOA hAi hry hrx2
     go_roundw
     case rel => exact ⟨j + 1, v8, rfl, by go_num, by omega, hgj8, hR9⟩
     case measure => simp [intOf]; omega
    ·have hje : j = N := by omega
     subst hje
     have hR2 : OwnV wo.heap.size 3 wr v7 ((gt (tabL P) i).map (Value.int .i64)) := by rw [List.take_of_length_le (by omega)] at hR; exact hR
     have hrow : Ints (From wo.heap.size) wr v7 (gt (tabL P) i) := ints_of_ownV hR2 (by omega) (fun k hk => (hR2.lt k hk).1)
     obtain ⟨a7, c7, hv7, _, _⟩ := hrow.shape
     subst hv7
     have hstep : (tabL P).take (i + 1) = (tabL P).take i ++ [gt (tabL P) i] := take_succ_gt _ i (by rw [tabL_len, ← HN.out.1]; exact hlt)
     have hlen : ((tabL P).take i).length ≤ 1000000 := by rw [List.length_take]; omega
     have HZ := Lib.hid (And.intro hstep hlen); clear hstep hlen hTl hR
     go_wp2_with (first | (at_builtin; refine wp_app_one rdInts 133 110 (.slice none 0 0) 24 und_rowsN Tryz.infoRowN rfl (by decide) rfl _ _ rfl w1.heap.size wo wr v4 _ ((tabL P).take i) (gt (tabL P) i) rfl hO hgj hrow rfl rfl HZ.out.2 hg.size ?_; intro v5 w5 hO5 hg5 hg5b) | fail)
     have hgw5 : Ext w1 w5 := grown_own hg hg5 (fun b hb hlt => by have := (hO.lt b hb).1; omega)
     rw [← HZ.out.1] at hO5
     clear hO hrow hg5 hg5b hR2
     go_roundw
     case rel => exact ⟨i + 1, v5, rfl, by go_num, by omega, hgw5, hO5⟩
     case measure => simp [intOf]; omega
  ·have hie : i = N := by omega
   subst hie
   have hfin : SlO (fun F w u (x : List Int) => Ints F w u x) 110 w.heap.size wr v4 (tabL P) := by
    rw [List.take_of_length_le (by rw [tabL_len, ← HN.out.1]; exact Nat.le_refl _)] at hO
    exact hO.weak hg1.size
   have hrows : Rows2 (From w.heap.size) wr v4 (tabL P) := rows_of_slO hfin (by rw [tabL_len, ← HN.out.1]; omega)
   clear hO hfin
   go_wp2
   go_ret
   exact ⟨_, rfl, grown_trans hg1 hg, hrows⟩
end Go.Proofs.YtdklekdpdbjfiaaGreat

/- The reference's power with any exponent: spec.l10Pow. -/
namespace Go.Proofs.YtdklekdpdbjfiaaGreat
open Go.RowKit
theorem Grp.rRep_pw {P : Pr} (G : Grp P) {X : List Int} (hX : Vec P.orders X) (k : Nat) : rRep (rAt P P.orders.length 0) (zeros P.orders.length) X k = pw P X k :=
 G.lvl.rRep_eq (T_zero.2 hX) k
set_option maxHeartbeats 2000000 in
theorem l10Pow_ok (P : Pr) (G : Grp P) (w : World) (pv x : Value) (X : List Int) (k : Int) (Sp Sx : Nat → Prop) (hp : PresV Sp w pv P) (hx : Ints Sx w x X) (hX : Vec P.orders X) (hk : -1000000000 ≤ k ∧ k ≤ 1000000000) :
  Calls Tryz.prog 113 #[pv, x, .int .i64 k] w (Ret w fun w' v => Own w.heap.size w' v (pwZ P X k)) := by
 have hP := G.v
 have hn6 := hP.n6
 obtain ⟨vo, vp, vc, rfl, h3⟩ := hp
 have hBx := PresP.box h3 31
 have hg0 : Ext w (w.alloc (.cells #[vo, vp, vc] 31)) := World.grownBy_alloc _ _ _
 have hx0 := hx.ext hg0
 have hs0 : (w.alloc (.cells #[vo, vp, vc] 31)).heap.size = w.heap.size + 1 := by simp
 have HS := Lib.hid hs0; clear hs0 hx
 have hXl : X.length = P.orders.length := hX.1
 have HX := Lib.hid (And.intro hX hXl); clear hX hXl
 by_cases hneg : k < 0
 ·have e0 : pwZ P X k = pw P (rInv P X) (-k).toNat := by unfold pwZ; rw [if_pos hneg]
  have hiV := G.invV HX.out.1
  have hil : (rInv P X).length ≤ 6 := by rw [hiV.1]; omega
  have HE := Lib.hid (And.intro e0 hiV); clear e0 hiV
  have hwr : IntKind.i64.wrap (-k) = -k := IntWalk.i64_in _ (by omega)
  go_enter Tryz.func113, Tryz.ntmps113
  go_wp2
  generalize hw0 : w.alloc (.cells #[vo, vp, vc] 31) = w0 at *
  clear hw0
  obtain ⟨vo6, vp6, vc6, _, _, hc0, hc1, hc2, h36⟩ := hBx.at
  have e1 : ∀ w', Ext w0 w' → w'.cell? ⟨w.heap.size, 0, none⟩ = some vo6 := fun w' h => h.cell hc0 (by simp)
  have e2 : ∀ w', Ext w0 w' → w'.cell? ⟨w.heap.size, 1, none⟩ = some vp6 := fun w' h => h.cell (by simpa using hc1) (by simp)
  have e3 : ∀ w', Ext w0 w' → w'.cell? ⟨w.heap.size, 2, none⟩ = some vc6 := fun w' h => h.cell (by simpa using hc2) (by simp)
  clear hc0 hc1 hc2
  go_region_held3 (fun w' => Ext w0 w') (first | exact grown_drew _ _ | assumption)
   (first
    | (go_at_call 178; refine Calls.mono (Calls.rel (w0 := w0) (by assumption) (l10Inv_ok P hP _ _ _ _ Any Any ⟨_, _, _, rfl, Pres3.ext h36 (by assumption)⟩ (Ints.sub (Ints.ext hx0 (by assumption)) (fun _ _ _ => trivial)) HX.out.1)) ?_; rintro eA wA ⟨vA, rfl, hgA, hsA, hOA⟩; have hOA2 := hOA.ints (by omega))
    | (go_at_call 177; refine Calls.mono (Calls.rel (w0 := w0) (by assumption) (l08Repeat_ok P hP _ _ _ 0 P.orders.length (by omega) _ (-k) Any Any ⟨_, _, _, rfl, Pres3.ext h36 (by assumption)⟩ hOA2 HE.out.2 (by omega) (by omega))) ?_; rintro eB wB ⟨vB, rfl, hgB, hsB, hOB⟩))
  clear e1 e2 e3
  rw [G.rRep_pw HE.out.2, ← HE.out.1] at hOB
  go_wp2
  go_ret
  exact ⟨_, rfl, grown_trans hg0 hgB, hOB.weak (by have := HS.out; omega)⟩
 ·have e0 : pwZ P X k = pw P X k.toNat := by unfold pwZ; rw [if_neg hneg]
  have HE := Lib.hid e0; clear e0
  obtain ⟨vo6, vp6, vc6, _, _, hc0, hc1, hc2, h36⟩ := hBx.at
  go_enter Tryz.func113, Tryz.ntmps113
  go_wp2_with fail
  refine Calls.mono (l08Repeat_ok P hP _ _ _ 0 P.orders.length (by omega) X k Any Sx ⟨_, _, _, rfl, h36⟩ hx0 HX.out.1 (by omega) (by omega)) ?_
  rintro eB wB ⟨vB, rfl, hgB, hOB⟩
  rw [G.rRep_pw HX.out.1, ← HE.out] at hOB
  go_wp2
  go_ret
  exact ⟨_, rfl, grown_trans hg0 hgB, hOB.weak (by have := HS.out; omega)⟩
end Go.Proofs.YtdklekdpdbjfiaaGreat

/- Rows of bools of the call's own; a region that ends in a store. -/
namespace Go.Proofs.YtdklekdpdbjfiaaGreat
open Go.RowKit
/-! ### a row of bools of the call's own -/
abbrev BOwn (base : Nat) (w : World) (v : Value) (l : List Bool) : Prop := w.ownsRow base 4 1 v l.length (l.map Value.bool)
theorem und_bools : Tryz.prog.underlying 177 = some (.slice 4) := by kernel_rfl
theorem Tryz.infoBool : (Tryz.prog.info? 4).map (fun i => (i.zero, i.size, i.bytes)) = some (some (.bool false), 1, 1) := by kernel_rfl
theorem wp_make_bools {ops : Array Oper} {rest : List Oper} {o : Oper} {a : Act} {Q : Exit → Act → World → Prop} {w : World} (hgd : o.guard = none) (l c : Operand)
  (ho : o.op = Op.makeSlice 177 l c) (base n H : Nat) (hH : w.heap.size = H) (L : Int) (hl : a.eval l = .int .i64 L) (hc : a.eval c = .int .i64 L) (hL : L = n) (hn : n ≤ 2147483648) (hbase : base ≤ H)
  (h : ∀ w', BOwn base w' (.slice (some ⟨H, 0, none⟩) n n) (List.replicate n false) → Ext w w' → H < w'.heap.size → wpList Tryz.prog ops Q rest (a.put o.dst (.slice (some ⟨H, 0, none⟩) n n)) w') :
  wpList Tryz.prog ops Q (o :: rest) a w := by
 subst hH
 obtain ⟨i0, hi, hz0, hz1, hz2⟩ := info_parts Tryz.infoBool
 refine wpList_make_full w hgd l c 177 ho base 4 i0 (.bool false) 1 und_bools hi hz0 hz1 .i64 .i64 L L n hl hc hL hL (by rw [hz2]; omega) (by unfold maxLen; omega) hbase ?_
 intro w' h1 h2
 refine h w' ?_ h2 (h1.lt w.heap.size rfl).2
 have e : (madeCells (Value.cells (.bool false)) (n * 1)).toList = (List.replicate n false).map Value.bool := by
  rw [show Value.cells (.bool false) = #[.bool false] from rfl, toList_madeCells_one]; simp
 rw [e] at h1
 show World.ownsRow _ _ _ _ _ _ _
 rw [List.length_replicate]; exact h1
theorem BOwn.cell {base g cap n : Nat} {w : World} {l : List Bool} (h : BOwn base w (.slice (some ⟨g, 0, none⟩) n cap) l) (j : Nat) (hj : j < l.length) : w.cell? ⟨g, j, none⟩ = some (.bool (gt l j)) := by
 have hn : n = l.length := by
  obtain ⟨_, ⟨h, _⟩ | ⟨_, _, _, h, _⟩⟩ := h <;> cases h; rfl
 subst hn
 have := World.ownsRow.cellAt h j (by omega)
 rw [this]; simp [gt, hj]
theorem BOwn.frozen {base g cap n : Nat} {w : World} {l : List Bool} (h : BOwn base w (.slice (some ⟨g, 0, none⟩) n cap) l) (j : Nat) : w.frozen? ⟨g, j, none⟩ = false := by
 have hn : n = l.length := by
  obtain ⟨_, ⟨h, _⟩ | ⟨_, _, _, h, _⟩⟩ := h <;> cases h; rfl
 subst hn
 exact World.ownsRow.frozenAt h j
theorem BOwn.store {base g cap n : Nat} {w : World} {l : List Bool} (h : BOwn base w (.slice (some ⟨g, 0, none⟩) n cap) l) (j : Nat) (x : Bool) :
  BOwn base (w.setCell ⟨g, j, none⟩ (.bool x)) (.slice (some ⟨g, 0, none⟩) n cap) (l.set j x) ∧ w.grownBy (w.setCell ⟨g, j, none⟩ (.bool x)) (some g) := by
 have hn : n = l.length := by
  obtain ⟨_, ⟨h, _⟩ | ⟨_, _, _, h, _⟩⟩ := h <;> cases h; rfl
 subst hn
 obtain ⟨h1, h2⟩ := World.ownsRow.stored h j (.bool x)
 refine ⟨?_, h2⟩
 show World.ownsRow _ _ _ _ _ _ _
 rw [List.length_set, List.map_set]; exact h1
theorem BOwn.ext0 {base : Nat} {w w' : World} {v : Value} {l : List Bool} (h : BOwn base w v l) (hg : Ext w w') : BOwn base w' v l :=
 h.kept hg (by cases hv : v.ownBlock <;> simp)
theorem BOwn.form {base : Nat} {w : World} {v : Value} {l : List Bool} (h : BOwn base w v l) (hl : 0 < l.length) : ∃ g cap, v = .slice (some ⟨g, 0, none⟩) l.length cap ∧ base ≤ g ∧ g < w.heap.size := by
 have hlt := h.lt
 obtain ⟨_, h | ⟨g, cap, cur, hv, hg, _⟩⟩ := h
 ·omega
 ·exact ⟨g, cap, hv, hg, (hlt g (by rw [hv]; rfl)).2⟩
theorem BOwn.keep {base g n cap r : Nat} {w w' : World} {l : List Bool} (h : BOwn base w (.slice (some ⟨g, 0, none⟩) n cap) l) (hg : w.grownBy w' (some r)) (hne : g ≠ r) : BOwn base w' (.slice (some ⟨g, 0, none⟩) n cap) l :=
 h.kept hg (.inr (fun e => hne (by cases e; rfl)))
theorem BOwn.weak {base base' : Nat} {w : World} {v : Value} {l : List Bool} (h : BOwn base w v l) (hb : base' ≤ base) : BOwn base' w v l := by
 obtain ⟨h1, h2⟩ := h
 refine ⟨h1, ?_⟩
 rcases h2 with h | ⟨g, cap, cur, hv, hg, r⟩
 ·exact .inl h
 ·exact .inr ⟨g, cap, cur, hv, Nat.le_trans hb hg, r⟩
def Near (w : World) (g : Nat) (w' : World) : Prop := ∃ w1, Ext w w1 ∧ (w' = w1 ∨ ∃ j x, w' = w1.setCell ⟨g, j, none⟩ x)
theorem Near.of {w w' : World} {g : Nat} (h : Ext w w') : Near w g w' := ⟨w', h, .inl rfl⟩
theorem Near.store {w w' : World} {g j : Nat} {x : Value} (h : Ext w w') : Near w g (w'.setCell ⟨g, j, none⟩ x) := ⟨w', h, .inr ⟨j, x, rfl⟩⟩
theorem Near.cell {w w' : World} {g : Nat} (h : Near w g w') {a : Addr} {v : Value} (hc : w.cell? a = some v) (hne : a.block ≠ g) : w'.cell? a = some v := by
 obtain ⟨w1, h1, rfl | ⟨j, x, rfl⟩⟩ := h
 ·exact h1.cell hc (by simp)
 ·rw [World.cell?_setCell_far _ _ _ _ (by simpa using Ne.symm hne)]
  exact h1.cell hc (by simp)
end Go.Proofs.YtdklekdpdbjfiaaGreat

/- The reference's tables by depths: spec.l02Lead, l12Depth, l12Table; how a table reads. -/
namespace Go.Proofs.YtdklekdpdbjfiaaGreat
open Go.RowKit
set_option maxHeartbeats 400000 in
theorem l02Lead_ok (v : Value) (X : List Int) (w : World) (S : Nat → Prop) (h : Ints S w v X) :
  Calls Tryz.prog 175 #[v] w fun e w' => e = .returned (.int .i64 (dep X)) ∧ w = w' := by
 obtain ⟨a, cap, rfl, _, _⟩ := h.shape
 go_enter Tryz.func175, Tryz.ntmps175
 go_wp2
 go_loop [3] (fun i => ∃ k : Nat, i = .int .i64 k ∧ k ≤ X.length ∧ ∀ j, j < k → gt X j = 0) (fun i => X.length - (intOf i).toNat)
 case atStart => exact ⟨0, rfl, by omega, fun j hj => by omega⟩
 case round =>
  obtain ⟨k, rfl, hk, hz⟩ := hrel
  have HZ := Lib.hid hz; clear hz
  by_cases hlt : k < X.length
  ·obtain ⟨b, off, rfl, _, _, hc⟩ := Ints.at h k hlt
   by_cases hx : gt X k = 0
   ·have hb : (gt X k != 0) = false := by simp [hx]
    have HX := Lib.hid hx; clear hx
    go_wp2
    go_round
    case rel => exact ⟨k + 1, by go_num, by omega, fun j hj => by
     rcases Nat.lt_succ_iff_lt_or_eq.1 hj with h1 | h1
     ·exact HZ.out j h1
     ·rw [h1]; exact HX.out⟩
    case measure => simp [intOf]; omega
   ·have hb : (gt X k != 0) = true := by simp [hx]
    have he : dep X = k := dep_eq hlt HZ.out hx
    have HE := Lib.hid he; clear he hx
    go_wp2
    go_ret
    exact ⟨by rw [HE.out]; rfl, rfl⟩
  ·have hke : k = X.length := by omega
   have he : dep X = X.length := dep_all (fun j hj => HZ.out j (by omega))
   have HE := Lib.hid he; clear he
   go_wp2
   go_ret
   exact ⟨by rw [HE.out]; rfl, rfl⟩
theorem l12Depth_ok (v : Value) (X : List Int) (w : World) (S : Nat → Prop) (h : Ints S w v X) :
  Calls Tryz.prog 111 #[v] w (Ret w fun _ r => r = .int .i64 (dep X)) := by
 have hcon := l02Lead_ok v X w S h
 obtain ⟨a, cap, rfl, _, _⟩ := h.shape
 go_enter Tryz.func111, Tryz.ntmps111
 go_wp2_with fail
 refine Calls.mono hcon ?_
 rintro e1 w1 ⟨rfl, rfl⟩
 clear hcon
 go_wp2
 go_ret
 exact ⟨_, rfl, Ext.refl _, rfl⟩
theorem TabAt.rows {B gb n : Nat} {bad : Nat → Prop} {w : World} {b : List (List Int)} (h : TabAt B bad w gb n b) (hn : n ≤ 1000000) : Rows2 (fun k => k = gb ∨ (k ≠ gb ∧ ¬ bad k)) w (.slice (some ⟨gb, 0, none⟩) n n) b := by
 have hl := h.len
 have hlt := h.lt
 refine ⟨_, _, by rw [hl], ⟨by omega, by omega, fun h => by cases h⟩, fun i hi => ?_⟩
 obtain ⟨_, hc⟩ := h.at i (by omega)
 rcases hc with ⟨h0, hc⟩ | ⟨_, a, cap, hc, hI⟩
 ·refine ⟨gb, 0, _, rfl, .inl rfl, hlt.2, by rw [Nat.zero_add]; exact hc, ?_⟩
  rw [h0]
  exact ⟨none, 0, rfl, ⟨by simp, by simp, fun _ => rfl⟩, fun j hj => by simp at hj⟩
 ·exact ⟨gb, 0, _, rfl, .inl rfl, hlt.2, by rw [Nat.zero_add]; exact hc, Ints.sub hI (fun k hk _ => .inr hk)⟩
set_option maxRecDepth 100000 in
set_option maxHeartbeats 1000000 in
theorem l12Table_ok (P : Pr) (hP : Valid P) (w : World) (pv uv : Value) (U : List (List Int)) (Sp Su : Nat → Prop) (hpv : PresV Sp w pv P) (hu : Rows2 Su w uv U) (hU : SeqOk P U) (hl : U.length ≤ 6) :
  Calls Tryz.prog 245 #[pv, uv] w (Ret w fun w' v => Rows2 Any w' v (tabTo U P.orders.length U.length)) := by
 have hn6 := hP.n6
 obtain ⟨vo, vp, vc, rfl, h3⟩ := hpv
 have hp0 := PresP.box h3 31
 have hg0 : Ext w (w.alloc (.cells #[vo, vp, vc] 31)) := World.grownBy_alloc _ _ _
 obtain ⟨ao, capo, hco, hoi⟩ := hp0.ordAt
 obtain ⟨au, capu, rfl, _, _⟩ := Sl.shape hu
 have HU := Lib.hid hU; clear hU
 go_enter Tryz.func245, Tryz.ntmps245
 go_wp2_with (first | (at_make; refine wp_make_tab rfl _ _ rfl w.heap.size P.orders.length (w.heap.size + 1) (by simp) _ rfl rfl rfl (by omega) (by omega) ?_; intro w1 hT1 hg1 hlt1) | fail)
 have hgw := grown_trans hg0 hg1
 have hT := hT1 (fun _ => False)
 clear hT1 hco hoi hp0
 go_loopw [6] (fun iv wr => ∃ i : Nat, iv = .int .i64 i ∧ i ≤ U.length ∧ Ext w wr ∧ TabAt w.heap.size (fun _ => False) wr (w.heap.size + 1) P.orders.length (tabTo U P.orders.length i)) (fun iv _ => U.length - (intOf iv).toNat)
 case atStart => exact ⟨0, rfl, by omega, hgw, hT⟩
 case round =>
  clear hT hgw
  obtain ⟨i, rfl, hi, hg, hT⟩ := hrel
  by_cases hlt : i < U.length
  ·have hlt' : (i : Int) < U.length := by omega
   obtain ⟨b, off, a2, cap2, rfl, _, hbl0, hc0, hr⟩ := Rows2.at hu i hlt
   have hc := hg.cell hc0 (by simp)
   clear hc0
   obtain ⟨hzV, hzd, hz1⟩ := HU.out.1 _ (gtMem hlt)
   have hst : tabTo U P.orders.length (i + 1) = (tabTo U P.orders.length i).set (dep (gt U i)) (gt U i) := rfl
   obtain ⟨z, hz⟩ : ∃ z, z = gt U i := ⟨_, rfl⟩
   rw [← hz] at hc hr hzV hzd hz1 hst
   clear hz
   obtain ⟨d, hd⟩ : ∃ d, d = dep z := ⟨_, rfl⟩
   rw [← hd] at hzd hst hz1
   have HD := Lib.hid hd; clear hd
   have hbl : b < w.heap.size := hbl0
   have hr3 := Ints.ext hr hg
   have hzne : z ≠ [] := fun e => by have := hzV.1; rw [e] at this; simp at this; omega
   have hrS : Ints (fun k => k ≠ w.heap.size + 1 ∧ ¬ False) wr (.slice a2 z.length cap2) z := by
    have h1 : Ints (fun k => k < w.heap.size) w (.slice a2 z.length cap2) z := Ints.sub hr (fun _ _ h => h)
    exact h1.mono (fun k hk hlt => ⟨⟨by omega, id⟩, Nat.lt_of_lt_of_le hlt hg.size, hg.block k hlt (by simp)⟩)
   obtain ⟨hfr, hcc⟩ := hT.at d hzd
   have HS := Lib.hid (And.intro hst (And.intro hzne (And.intro hzV hz1))); clear hst hzne hzV hz1
   have hdn : (d : Int) < P.orders.length := by omega
   obtain ⟨u0, hu0⟩ : ∃ u0, wr.cell? ⟨w.heap.size + 1, d, none⟩ = some u0 := by rcases hcc with ⟨_, h⟩ | ⟨_, _, _, h, _⟩ <;> exact ⟨_, h⟩
   clear hcc hbl0
   have e1 : ∀ w', Near wr (w.heap.size + 1) w' → w'.cell? ⟨b, off + i, none⟩ = some (.slice a2 z.length cap2) := fun w' h => h.cell hc (by simp; omega)
   go_wp2
   go_region_held3 (fun w' => Near wr (w.heap.size + 1) w') (first | exact Near.of (grown_drew _ _) | exact Near.of (by assumption) | exact Near.store (by assumption) | assumption)
    (first
     | (go_at_call 111; refine Calls.mono (Calls.rel (w0 := wr) (by first | exact grown_drew _ _ | assumption) (l12Depth_ok _ z _ Any (Ints.sub (Ints.ext hr3 (by first | exact grown_drew _ _ | assumption)) (fun _ _ _ => trivial)))) ?_; rintro eE wE ⟨vE, rfl, hgE, hsE, hvE⟩; rw [← HD.out] at hvE; subst hvE; have hcel2 := hgE.cell hu0 (by simp); have hfr2 := ((hT.ext hgE).at d hzd).1))
   clear e1
   obtain ⟨hT5, hg5⟩ := (hT.ext hgE).put d (u := .slice a2 z.length cap2) (y := z) (Ints.ext hrS hgE) HS.out.2.1
   have hgn : Ext w (wE.setCell ⟨w.heap.size + 1, d, none⟩ (.slice a2 z.length cap2)) := grown_own (grown_trans hg hgE) hg5 (fun j hj hlt => by cases hj; omega)
   clear hcel2 hfr2 hg5
   go_wp2
   go_roundw
   case rel => exact ⟨i + 1, by go_num, by omega, hgn, by rw [HS.out.1]; exact hT5⟩
   case measure => simp [intOf]; omega
  ·have hie : i = U.length := by omega
   subst hie
   go_wp2
   go_ret
   exact ⟨_, rfl, hg, Rows2.sub (hT.rows (by omega)) (fun _ _ _ => trivial)⟩
end Go.Proofs.YtdklekdpdbjfiaaGreat

/- The reference's coset representatives and membership: spec.l12Reduce, l12Sift, l12Has. -/
namespace Go.Proofs.YtdklekdpdbjfiaaGreat
open Go.RowKit
set_option maxRecDepth 100000 in
set_option maxHeartbeats 2000000 in
theorem l12Reduce_ok (P : Pr) (G : Grp P) (w : World) (pv tv xv : Value) (b : List (List Int)) (X : List Int) (H : List Int → Prop) (Sp Sb Sx : Nat → Prop) (hpv : PresV Sp w pv P) (ht : Rows2 Sb w tv b) (hx : Ints Sx w xv X) (hX : Vec P.orders X)
  (hlb : b.length = P.orders.length) (hI : Ind P H (gt b)) :
  Calls Tryz.prog 244 #[pv, tv, xv] w (Ret w fun w' v => ∃ Y, Own w.heap.size w' v Y ∧ RedTo P H b X P.orders.length Y) := by
 have hP := G.v
 have hn6 := hP.n6
 obtain ⟨vo, vp, vc, rfl, h3⟩ := hpv
 have hp0 := PresP.box h3 31
 have hg0 : Ext w (w.alloc (.cells #[vo, vp, vc] 31)) := World.grownBy_alloc _ _ _
 have hx0 := hx.ext hg0
 have ht0 := Rows2.ext ht hg0
 have hXl : X.length ≤ 6 := by rw [hX.1]; omega
 have hs0 : (w.alloc (.cells #[vo, vp, vc] 31)).heap.size = w.heap.size + 1 := by simp
 obtain ⟨at_, capt, hvt, _, _⟩ := Sl.shape ht
 rw [hlb] at hvt
 subst hvt
 have HI := Lib.hid (And.intro hI (And.intro hX hlb)); clear hI hX hlb
 obtain ⟨vo6, vp6, vc6, _, _, hc0, hc1, hc2, h36⟩ := hp0.at
 simp only [Nat.zero_add] at hc1 hc2
 clear hp0
 go_enter Tryz.func244, Tryz.ntmps244
 go_wp2_with fail
 have HS := Lib.hid hs0; clear hs0
 generalize hw0 : w.alloc (.cells #[vo, vp, vc] 31) = w0 at *
 clear hw0
 refine Calls.mono (l01Own_ok w0 xv X Sx hx0 (by omega)) ?_
 rintro e1 w1 ⟨ov, rfl, hg1, hO1⟩
 go_wp2
 go_loopw [7, 8] (fun ov iv wr => ∃ (d : Nat) (Y : List Int), iv = .int .i64 d ∧ d ≤ P.orders.length ∧ Ext w0 wr ∧ Own w.heap.size wr ov Y ∧ Hid (RedTo P H b X d Y)) (fun _ iv _ => P.orders.length - (intOf iv).toNat)
 case atStart => exact ⟨0, X, rfl, by omega, hg1, hO1.weak (by have := HS.out; omega), Lib.hid (G.redTo_zero HI.out.1.sub HI.out.2.1)⟩
 case round =>
  clear hO1
  obtain ⟨d, Y, rfl, hd, hg, hO, hR⟩ := hrel
  have hYV := hR.out.vec
  have hYl : Y.length = P.orders.length := hYV.1
  have hYi := hO.ints (by omega)
  obtain ⟨ay, capy, hvy, _, _⟩ := hYi.shape
  rw [hYl] at hvy
  subst hvy
  by_cases hlt : d < P.orders.length
  ·have hlt' : (d : Int) < P.orders.length := by omega
   obtain ⟨bb, off, a2, cap2, rfl, _, _, hc, hr⟩ := Rows2.at (Rows2.ext ht0 hg) d (by rw [HI.out.2.2]; exact hlt)
   obtain ⟨by_, oy, rfl, _, _, hcy⟩ := Ints.at hYi d (by omega)
   by_cases hb : gt b d = []
   ·have hbl : ¬ (0 : Int) < (gt b d).length := by rw [hb]; simp
    have hR2 := Lib.hid (hR.out.skip (.inl hb)); clear hb hYV
    go_wp2
    go_roundw
    case rel => exact ⟨d + 1, Y, by go_num, by omega, hg, hO, hR2⟩
    case measure => simp [intOf]; omega
   ·have hbl : (0 : Int) < (gt b d).length := by
     have : 0 < (gt b d).length := List.length_pos_iff.2 hb
     omega
    by_cases hy : gt Y d = 0
    ·have hyb : (gt Y d != 0) = false := by simp [hy]
     have hR2 := Lib.hid (hR.out.skip (.inr hy)); clear hb hYV hy
     go_wp2
     go_roundw
     case rel => exact ⟨d + 1, Y, by go_num, by omega, hg, hO, hR2⟩
     case measure => simp [intOf]; omega
    ·have hyb : (gt Y d != 0) = true := by simp [hy]
     have hyd := hYV.2 d hlt
     have ho := hP.ord7 d hlt
     have hwn : IntKind.i64.wrap (-(gt Y d)) = -(gt Y d) := IntWalk.i64_in _ (by omega)
     obtain ⟨m1, m2, m3⟩ := HI.out.1.mem d hlt hb
     have hR2 := Lib.hid (G.redTo_step HI.out.1 HI.out.2.1 hlt hb hR.out)
     have hpV := G.pwZ_vec m2.1 (-(gt Y d))
     have hpl : (pwZ P (gt b d) (-(gt Y d))).length ≤ 6 := by rw [hpV.1]; omega
     have HB := Lib.hid (And.intro m2.1 (And.intro hpV (And.intro hpl (And.intro hYV (And.intro hyd ho))))); clear m1 m2 m3 hpV hpl hYV hyd ho hb hy
     have e1 : ∀ w', Ext wr w' → w'.cell? ⟨w.heap.size, 0, none⟩ = some vo6 := fun w' h => (grown_trans hg h).cell hc0 (by simp)
     have e2 : ∀ w', Ext wr w' → w'.cell? ⟨w.heap.size, 1, none⟩ = some vp6 := fun w' h => (grown_trans hg h).cell hc1 (by simp)
     have e3 : ∀ w', Ext wr w' → w'.cell? ⟨w.heap.size, 2, none⟩ = some vc6 := fun w' h => (grown_trans hg h).cell hc2 (by simp)
     have e4 : ∀ w', Ext wr w' → w'.cell? ⟨bb, off + d, none⟩ = some (.slice a2 (gt b d).length cap2) := fun w' h => h.cell hc (by simp)
     have e5 : ∀ w', Ext wr w' → w'.cell? ⟨by_, oy + d, none⟩ = some (.int .i64 (gt Y d)) := fun w' h => h.cell hcy (by simp)
     go_wp2
     clear hc hcy
     go_region_held3 (fun w' => Ext wr w') (first | exact grown_drew _ _ | assumption)
      (first
       | (go_at_call 113; refine Calls.mono (Calls.rel (w0 := wr) (by assumption) (l10Pow_ok P G _ _ _ (gt b d) _ Any Any ⟨_, _, _, rfl, Pres3.ext (Pres3.ext h36 hg) (by assumption)⟩ (Ints.sub (Ints.ext hr (by assumption)) (fun _ _ _ => trivial)) HB.out.1 (by have := HB.out.2.2.2.2.1; have := HB.out.2.2.2.2.2; omega))) ?_; rintro eA wA ⟨vA, rfl, hgA, hsA, hOA⟩; have hOA2 := hOA.ints (by have := HB.out.2.2.1; omega))
       | (go_at_call 176; refine Calls.mono (Calls.rel (w0 := wr) (by assumption) (l08Mul_ok P hP _ _ _ _ Y _ Any Any Any ⟨_, _, _, rfl, Pres3.ext (Pres3.ext h36 hg) (by assumption)⟩ (Ints.sub (Ints.ext hYi (by assumption)) (fun _ _ _ => trivial)) hOA2 HB.out.2.2.2.1 HB.out.2.1)) ?_; rintro eB wB ⟨vB, rfl, hgB, hsB, hOB⟩))
     clear e1 e2 e3 e4 e5
     go_wp2
     go_roundw
     case rel => exact ⟨d + 1, _, by go_num, by omega, grown_trans hg hgB, hOB.weak (by have := hg.size; have := HS.out; omega), hR2⟩
     case measure => simp [intOf]; omega
  ·have hde : d = P.orders.length := by omega
   subst hde
   go_wp2
   go_ret
   exact ⟨_, rfl, grown_trans hg0 hg, Y, hO, hR.out⟩
end Go.Proofs.YtdklekdpdbjfiaaGreat

/- The reference's membership and order: spec.l01Zero, l12Sift, l12Has, l12Order. -/
namespace Go.Proofs.YtdklekdpdbjfiaaGreat
open Go.RowKit
theorem l01Zero_ok (v : Value) (l : List Int) (w : World) (S : Nat → Prop) (h : Ints S w v l) :
  Calls Tryz.prog 212 #[v] w fun e w' => e = .returned (.bool (isZeroB l)) ∧ w = w' := by
 obtain ⟨a, cap, rfl, _, _⟩ := h.shape
 go_enter Tryz.func212, Tryz.ntmps212
 go_wp2
 go_loop [3] (fun i => ∃ k : Nat, i = .int .i64 k ∧ k ≤ l.length ∧ ∀ j, j < k → gt l j = 0) (fun i => l.length - (intOf i).toNat)
 case atStart => exact ⟨0, rfl, by omega, fun j hj => by omega⟩
 case round =>
  obtain ⟨k, rfl, hk, hz⟩ := hrel
  have HZ := Lib.hid hz; clear hz
  by_cases hlt : k < l.length
  ·obtain ⟨b, off, rfl, _, _, hc⟩ := Ints.at h k hlt
   by_cases hx : gt l k = 0
   ·have hb : (gt l k != 0) = false := by simp [hx]
    have HX := Lib.hid hx; clear hx
    go_wp2
    go_round
    case rel => exact ⟨k + 1, by go_num, by omega, fun j hj => by
     rcases Nat.lt_succ_iff_lt_or_eq.1 hj with h1 | h1
     ·exact HZ.out j h1
     ·rw [h1]; exact HX.out⟩
    case measure => simp [intOf]; omega
   ·have hb : (gt l k != 0) = true := by simp [hx]
    have he : isZeroB l = false := by
     cases hq : isZeroB l with
     | false => rfl
     | true => exact absurd (isZeroB_true.1 hq k hlt) hx
    have HE := Lib.hid he; clear he hx
    go_wp2
    go_ret
    exact ⟨by rw [HE.out]; rfl, rfl⟩
  ·have he : isZeroB l = true := isZeroB_true.2 (fun j hj => HZ.out j (by omega))
   have HE := Lib.hid he; clear he
   go_wp2
   go_ret
   exact ⟨by rw [HE.out]; rfl, rfl⟩
set_option maxRecDepth 100000 in
set_option maxHeartbeats 2000000 in
theorem l12Sift_ok (P : Pr) (G : Grp P) (w : World) (pv uv xv : Value) (H : List Int → Prop) (X : List Int) (Sp Su Sx : Nat → Prop) (S : Sub P H) (hpv : PresV Sp w pv P) (hu : Rows2 Su w uv (cseq P H)) (hx : Ints Sx w xv X) (hX : Vec P.orders X) :
  Calls Tryz.prog 213 #[pv, uv, xv] w (Ret w fun w' v => ∃ Y, Own w.heap.size w' v Y ∧ Rep P H (gt (tabTo (cseq P H) P.orders.length (cseq P H).length)) X Y) := by
 have hP := G.v
 have hn6 := hP.n6
 have hl := G.cseq_len S
 have hsq := (G.seq_facts S).1
 have hI := G.ind_tab S
 obtain ⟨vo, vp, vc, rfl, h3⟩ := hpv
 have hp0 := PresP.box h3 31
 have hg0 : Ext w (w.alloc (.cells #[vo, vp, vc] 31)) := World.grownBy_alloc _ _ _
 have hu0 := Rows2.ext hu hg0
 have hx0 := hx.ext hg0
 have hs0 : (w.alloc (.cells #[vo, vp, vc] 31)).heap.size = w.heap.size + 1 := by simp
 obtain ⟨au, capu, hvu, _, _⟩ := Sl.shape hu
 obtain ⟨ax, capx, hvx, _, _⟩ := hx.shape
 subst hvu hvx
 obtain ⟨vo6, vp6, vc6, _, _, hc0, hc1, hc2, h36⟩ := hp0.at
 simp only [Nat.zero_add] at hc1 hc2
 have HI := Lib.hid (And.intro hsq (And.intro hI (And.intro hX hl))); clear hsq hI hX hl hp0 hu hx
 go_enter Tryz.func213, Tryz.ntmps213
 go_wp2
 have HS := Lib.hid hs0; clear hs0
 generalize hw0 : w.alloc (.cells #[vo, vp, vc] 31) = w0 at *
 clear hw0
 have e1 : ∀ w', Ext w0 w' → w'.cell? ⟨w.heap.size, 0, none⟩ = some vo6 := fun w' h => h.cell hc0 (by simp)
 have e2 : ∀ w', Ext w0 w' → w'.cell? ⟨w.heap.size, 1, none⟩ = some vp6 := fun w' h => h.cell hc1 (by simp)
 have e3 : ∀ w', Ext w0 w' → w'.cell? ⟨w.heap.size, 2, none⟩ = some vc6 := fun w' h => h.cell hc2 (by simp)
 clear hc0 hc1 hc2
 go_region_held3 (fun w' => Ext w0 w') (first | exact grown_drew _ _ | assumption)
  (first
   | (go_at_call 245; refine Calls.mono (Calls.rel (w0 := w0) (by assumption) (l12Table_ok P hP _ _ _ (cseq P H) Any Any ⟨_, _, _, rfl, Pres3.ext h36 (by assumption)⟩ (Rows2.sub (Rows2.ext hu0 (by assumption)) (fun _ _ _ => trivial)) HI.out.1 (by have := HI.out.2.2.2; omega))) ?_; rintro eA wA ⟨tA, rfl, hgA, hsA, hTA⟩; obtain ⟨aA, capA, hvA, _, _⟩ := Sl.shape hTA; subst hvA)
   | (go_at_call 244; refine Calls.mono (Calls.rel (w0 := w0) (by assumption) (l12Reduce_ok P G _ _ _ _ _ X H Any Any Any ⟨_, _, _, rfl, Pres3.ext h36 (by assumption)⟩ hTA (Ints.sub (Ints.ext hx0 (by assumption)) (fun _ _ _ => trivial)) HI.out.2.2.1 (tabTo_len _ _ _) HI.out.2.1)) ?_; rintro eB wB ⟨vB, rfl, hgB, hsB, Y, hOB, hRB⟩))
 clear e1 e2 e3
 have HR := Lib.hid hRB; clear hRB
 go_wp2
 go_ret
 exact ⟨_, rfl, grown_trans hg0 hgB, Y, hOB.weak (by have := HS.out; omega), HR.out.rep⟩
set_option maxHeartbeats 1000000 in
theorem l12Has_ok (P : Pr) (G : Grp P) (w : World) (pv uv xv : Value) (H : List Int → Prop) (X : List Int) (Sp Su Sx : Nat → Prop) (S : Sub P H) (hpv : PresV Sp w pv P) (hu : Rows2 Su w uv (cseq P H)) (hx : Ints Sx w xv X) (hX : Vec P.orders X) :
  Calls Tryz.prog 153 #[pv, uv, xv] w (Ret w fun _ v => ∃ r : Bool, v = .bool r ∧ (r = true ↔ H X)) := by
 have hn6 := G.v.n6
 have hI := G.ind_tab S
 obtain ⟨vo, vp, vc, rfl, h3⟩ := hpv
 have hp0 := PresP.box h3 31
 have hg0 : Ext w (w.alloc (.cells #[vo, vp, vc] 31)) := World.grownBy_alloc _ _ _
 have hu0 := Rows2.ext hu hg0
 have hx0 := hx.ext hg0
 obtain ⟨au, capu, hvu, _, _⟩ := Sl.shape hu
 obtain ⟨ax, capx, hvx, _, _⟩ := hx.shape
 subst hvu hvx
 obtain ⟨vo6, vp6, vc6, _, _, hc0, hc1, hc2, h36⟩ := hp0.at
 simp only [Nat.zero_add] at hc1 hc2
 have hcon := l12Sift_ok P G (w.alloc (.cells #[vo, vp, vc] 31)) _ _ _ H X Any Su Sx S ⟨_, _, _, rfl, h36⟩ hu0 hx0 hX
 have HI := Lib.hid (And.intro hI hX); clear hI hX hp0 hu hx
 go_enter Tryz.func153, Tryz.ntmps153
 go_wp2_with fail
 clear hc0 hc1 hc2
 refine Calls.mono hcon ?_
 rintro e1 w1 ⟨v1, rfl, hg1, Y, hO, hR⟩
 clear hcon
 have hYi := hO.ints (by rw [hR.1.1]; omega)
 obtain ⟨ay, capy, rfl, _, _⟩ := hYi.shape
 have hiff := (isZeroB_zeros hR.1).trans (G.rep_mem HI.out.1 HI.out.2 hR)
 have hz := l01Zero_ok _ _ w1 Any hYi
 cases hb : isZeroB Y with
 | true =>
  rw [hb] at hiff hz
  have HF := Lib.hid hiff
  clear hiff hb hR
  go_wp2_with fail
  refine Calls.mono hz ?_
  rintro e2 w2 ⟨rfl, rfl⟩
  clear hz
  go_wp2
  go_ret
  exact ⟨_, rfl, grown_trans hg0 hg1, true, rfl, by simpa using HF.out⟩
 | false =>
  rw [hb] at hiff hz
  have HF := Lib.hid hiff
  clear hiff hb hR
  go_wp2_with fail
  refine Calls.mono hz ?_
  rintro e2 w2 ⟨rfl, rfl⟩
  clear hz
  go_wp2
  go_ret
  exact ⟨_, rfl, grown_trans hg0 hg1, false, rfl, by simpa using HF.out⟩
set_option maxRecDepth 100000 in
set_option maxHeartbeats 2000000 in
theorem l12Order_ok (P : Pr) (hP : Valid P) (w : World) (pv uv : Value) (U : List (List Int)) (Sp Su : Nat → Prop) (hpv : PresV Sp w pv P) (hu : Rows2 Su w uv U) (hU : SeqOk P U) (hl : U.length ≤ 100) :
  Calls Tryz.prog 61 #[pv, uv] w (Ret w fun _ v => v = .int .i64 (prodU P U U.length)) := by
 have hn6 := hP.n6
 obtain ⟨vo, vp, vc, rfl, h3⟩ := hpv
 have hp0 := PresP.box h3 31
 have hg0 : Ext w (w.alloc (.cells #[vo, vp, vc] 31)) := World.grownBy_alloc _ _ _
 have hu0 := Rows2.ext hu hg0
 obtain ⟨ao, capo, hco, hoi⟩ := hp0.ordAt
 obtain ⟨au, capu, rfl, _, _⟩ := Sl.shape hu
 have HU := Lib.hid hU; clear hU hp0 hu
 go_enter Tryz.func61, Tryz.ntmps61
 go_wp2
 generalize hw0 : w.alloc (.cells #[vo, vp, vc] 31) = w0 at *
 clear hw0
 go_loopw [5, 6] (fun mv iv wr => ∃ i : Nat, mv = .int .i64 (prodU P U i) ∧ iv = .int .i64 i ∧ i ≤ U.length ∧ Ext w0 wr) (fun _ iv _ => U.length - (intOf iv).toNat)
 case atStart => exact ⟨0, rfl, rfl, by omega, Ext.refl _⟩
 case round =>
  obtain ⟨i, rfl, rfl, hi, hg⟩ := hrel
  by_cases hlt : i < U.length
  ·have hlt' : (i : Int) < U.length := by omega
   obtain ⟨b, off, a2, cap2, rfl, _, _, hc, hr⟩ := Rows2.at (Rows2.ext hu0 hg) i hlt
   have hst : prodU P U (i + 1) = prodU P U i * gt P.orders (dep (gt U i)) := rfl
   have hb := prodU_729 hP HU.out (i + 1) hlt
   rw [hst] at hb
   obtain ⟨z, hz⟩ : ∃ z, z = gt U i := ⟨_, rfl⟩
   rw [← hz] at hc hr hst hb
   obtain ⟨d, hd⟩ : ∃ d, d = dep z := ⟨_, rfl⟩
   rw [← hd] at hst hb
   have hdn : d < P.orders.length := by rw [hd, hz]; exact (HU.out.1 _ (gtMem hlt)).2.1
   have HD := Lib.hid (And.intro hd hz); clear hd hz
   have hdn' : (d : Int) < P.orders.length := by omega
   obtain ⟨bo, oo, rfl, _, _, hcd⟩ := Ints.at (hoi.ext hg) d hdn
   have hw : IntKind.i64.wrap (prodU P U i * gt P.orders d) = prodU P U i * gt P.orders d := IntWalk.i64_in _ (by omega)
   have HS := Lib.hid hst; clear hst hb
   have e1 : ∀ w', Ext wr w' → w'.cell? ⟨w.heap.size, 0, none⟩ = some (.slice (some ⟨bo, oo, none⟩) P.orders.length capo) := fun w' h => (grown_trans hg h).cell hco (by simp)
   have e2 : ∀ w', Ext wr w' → w'.cell? ⟨b, off + i, none⟩ = some (.slice a2 z.length cap2) := fun w' h => h.cell hc (by simp)
   have e3 : ∀ w', Ext wr w' → w'.cell? ⟨bo, oo + d, none⟩ = some (.int .i64 (gt P.orders d)) := fun w' h => h.cell hcd (by simp)
   clear hc hcd
   go_wp2
   go_region_held3 (fun w' => Ext wr w') (first | exact grown_drew _ _ | assumption)
    (first
     | (go_at_call 111; refine Calls.mono (Calls.rel (w0 := wr) (by first | exact grown_drew _ _ | assumption) (l12Depth_ok _ z _ Any (Ints.sub (Ints.ext hr (by first | exact grown_drew _ _ | assumption)) (fun _ _ _ => trivial)))) ?_; rintro eE wE ⟨vE, rfl, hgE, hsE, hvE⟩; rw [← HD.out.1] at hvE; subst hvE))
   clear e1 e2 e3
   go_wp2
   go_roundw
   case rel => exact ⟨i + 1, by rw [HS.out], by go_num, by omega, grown_trans hg hgE⟩
   case measure => simp [intOf]; omega
  ·have hie : i = U.length := by omega
   subst hie
   go_wp2
   go_ret
   exact ⟨_, rfl, grown_trans hg0 hg, rfl⟩
end Go.Proofs.YtdklekdpdbjfiaaGreat

/- Plain: the elements of a subgroup as products with exponents (for the reference's list of elements). -/
namespace Go.Proofs.YtdklekdpdbjfiaaGreat
def ordsU (P : Pr) (U : List (List Int)) : List Int := U.map (fun z => gt P.orders (dep z))
theorem ordsU_len (P : Pr) (U : List (List Int)) : (ordsU P U).length = U.length := by unfold ordsU; rw [List.length_map]
theorem ordsU_at (P : Pr) (U : List (List Int)) (i : Nat) (hi : i < U.length) : gt (ordsU P U) i = gt P.orders (dep (gt U i)) := by unfold ordsU; rw [gt_map _ _ _ hi]
def prodR (P : Pr) (U : List (List Int)) (a : List Int) : Nat → List Int
 | 0 => zeros P.orders.length
 | k + 1 => rMul P (prodR P U a k) (pwZ P (gt U k) (gt a k))
def shapeP (o : List Int) : Pr := ⟨o, List.replicate o.length (zeros o.length), (List.range o.length).map (fun i => List.replicate (o.length - 1 - i) (zeros o.length))⟩
theorem gt_rep {α : Type} [Inhabited α] (n : Nat) (x : α) (i : Nat) (hi : i < n) : gt (List.replicate n x) i = x := by simp [gt, hi]
theorem shapeP_valid {o : List Int} (hn : o.length ≤ 6) (ho : ∀ i, i < o.length → gt o i = 2 ∨ gt o i = 3 ∨ gt o i = 5 ∨ gt o i = 7) (hp : prodTo o o.length ≤ 729) : Valid (shapeP o) := by
 have hz : Vec o (zeros o.length) := ⟨by simp [zeros], fun i hi => by
  have : gt (zeros o.length) i = 0 := gt_replicate _ _
  rw [this]; rcases ho i hi with h | h | h | h <;> rw [h] <;> decide⟩
 have hz0 : ∀ i, ZeroTo i (zeros o.length) := fun i j _ => gt_replicate _ _
 refine ⟨hp, hn, by simp [shapeP], by simp [shapeP], ho, fun i hi => ?_, fun i hi => ?_⟩
 ·show Vec o (gt (List.replicate o.length (zeros o.length)) i) ∧ ZeroTo i (gt (List.replicate o.length (zeros o.length)) i)
  rw [gt_rep o.length _ _ hi]
  exact ⟨hz, hz0 i⟩
 ·have e : gt (shapeP o).conj i = List.replicate (o.length - 1 - i) (zeros o.length) := by
   unfold shapeP
   have h2 : i < (List.range o.length).length := by rw [List.length_range]; exact hi
   have := gt_map (fun i => List.replicate (o.length - 1 - i) (zeros o.length)) (List.range o.length) i h2
   rw [this]
   simp [gt, show i < o.length from hi]
  rw [e]
  refine ⟨by simp [shapeP], fun k hk => ?_⟩
  rw [gt_rep (o.length - 1 - i) _ _ hk]
  exact ⟨hz, hz0 i⟩
theorem prodR_congr {P : Pr} {U : List (List Int)} {a a' : List Int} (k : Nat) (h : ∀ j, j < k → gt a j = gt a' j) : prodR P U a k = prodR P U a' k := by
 induction k with
 | zero => rfl
 | succ k ih =>
  simp only [prodR]
  rw [ih (fun j hj => h j (by omega)), h k (by omega)]
theorem prodTo_ordsU (P : Pr) (U : List (List Int)) (k : Nat) (hk : k ≤ U.length) : prodTo (ordsU P U) k = prodU P U k := by
 induction k with
 | zero => rfl
 | succ k ih => simp only [prodTo, prodU]; rw [ih (by omega), ordsU_at P U k (by omega)]
section
variable {P : Pr} (G : Grp P)
include G
theorem Grp.prodR_vec {U : List (List Int)} (hU : ∀ z ∈ U, Vec P.orders z) (a : List Int) (k : Nat) (hk : k ≤ U.length) : Vec P.orders (prodR P U a k) := by
 induction k with
 | zero => exact G.oneV
 | succ k ih => exact G.mulV (ih (by omega)) (G.pwZ_vec (hU _ (gtMem (by omega))) _)
theorem Grp.mem_elsP {U : List (List Int)} (hU : SeqOk P U) (x : List Int) : ∀ k, k ≤ U.length → (x ∈ elsP P U k ↔ ∃ a : List Int, a.length = U.length ∧ (∀ j, j < k → 0 ≤ gt a j ∧ gt a j < gt P.orders (dep (gt U j))) ∧ x = prodR P U a k) := by
 intro k
 induction k generalizing x with
 | zero =>
  intro _
  simp only [elsP, List.mem_singleton, prodR]
  exact ⟨fun h => ⟨List.replicate U.length 0, by simp, fun j hj => by omega, h⟩, fun ⟨_, _, _, h⟩ => h⟩
 | succ k ih =>
  intro hk
  have hd := (hU.1 _ (gtMem (show k < U.length by omega))).2.1
  have ho := G.v.ord7 _ hd
  simp only [elsP, List.mem_flatMap, stepE, List.mem_map, List.mem_range]
  constructor
  ·rintro ⟨y, hy, t, ht, rfl⟩
   obtain ⟨a, ha, hb, rfl⟩ := (ih y (by omega)).1 hy
   refine ⟨a.set k t, by simp [ha], fun j hj => ?_, ?_⟩
   ·rcases Nat.lt_succ_iff_lt_or_eq.1 hj with h | h
    ·rw [gt_set_ne _ _ _ _ (by omega)]; exact hb j h
    ·subst h; rw [gt_set_eq _ _ _ (by omega)]; omega
   ·simp only [prodR]
    rw [gt_set_eq _ _ _ (by omega), pwZ_nat _ _ _ (by omega), prodR_congr (a := a.set k t) (a' := a) k (fun j hj => gt_set_ne _ _ _ _ (by omega))]
    rfl
  ·rintro ⟨a, ha, hb, rfl⟩
   have hk2 := hb k (by omega)
   refine ⟨prodR P U a k, (ih _ (by omega)).2 ⟨a, ha, fun j hj => hb j (by omega), rfl⟩, (gt a k).toNat, by omega, ?_⟩
   simp only [prodR]
   rw [pwZ_nat _ _ _ hk2.1]
theorem Grp.mem_prods {H : List Int → Prop} (S : Sub P H) (x : List Int) : H x ↔ ∃ m : Int, 0 ≤ m ∧ m < prodU P (cseq P H) (cseq P H).length ∧ x = prodR P (cseq P H) (elAt (shapeP (ordsU P (cseq P H))) m) (cseq P H).length := by
 obtain ⟨h1, h2, h3⟩ := G.seq_facts S
 obtain ⟨U, hU⟩ : ∃ U, U = cseq P H := ⟨_, rfl⟩
 rw [← hU] at h1 h2 h3 ⊢
 have hlen : U.length ≤ P.orders.length := by rw [hU]; exact G.cseq_len S
 have hn6 := G.v.n6
 have hol := ordsU_len P U
 have hV : Valid (shapeP (ordsU P U)) := by
  refine shapeP_valid (by omega) (fun i hi => ?_) ?_
  ·rw [ordsU_at P U i (by omega)]
   exact G.v.ord _ (h1.1 _ (gtMem (by omega))).2.1
  ·rw [hol, prodTo_ordsU P U U.length (Nat.le_refl _)]
   exact (prodU_729 G.v h1 U.length (Nat.le_refl _)).2
 have hO : ordP (shapeP (ordsU P U)) = prodU P U U.length := by
  unfold ordP
  show prodTo (ordsU P U) (ordsU P U).length = _
  rw [hol]; exact prodTo_ordsU P U U.length (Nat.le_refl _)
 rw [← G.elsP_mem S h1 h2 h3 x, G.mem_elsP h1 x U.length (Nat.le_refl _)]
 constructor
 ·rintro ⟨a, ha, hb, rfl⟩
  have hav : Vec (shapeP (ordsU P U)).orders a := ⟨by rw [ha]; exact hol.symm, fun i hi => by
   have hi : i < (ordsU P U).length := hi
   show _ ∧ _ < gt (ordsU P U) i
   rw [ordsU_at P U i (by omega)]; exact hb i (by omega)⟩
  have hbd := num_bd hV hav
  refine ⟨num _ a, hbd.1, by rw [← hO]; exact hbd.2, ?_⟩
  rw [elAt_num hV hav]
 ·rintro ⟨m, h4, h5, rfl⟩
  have hv := elAt_vec hV m h4
  have hvl : (elAt (shapeP (ordsU P U)) m).length = (ordsU P U).length := hv.1
  refine ⟨_, by rw [hvl, hol], fun j hj => ?_, rfl⟩
  have h6 : 0 ≤ gt (elAt (shapeP (ordsU P U)) m) j ∧ gt (elAt (shapeP (ordsU P U)) m) j < gt (ordsU P U) j := hv.2 j (by show j < (ordsU P U).length; omega)
  rw [ordsU_at P U j hj] at h6; exact h6
end
end Go.Proofs.YtdklekdpdbjfiaaGreat

/- The reference's reduced sequence: spec.l12Full. -/
namespace Go.Proofs.YtdklekdpdbjfiaaGreat
open Go.RowKit
theorem seqOf_succ (n : Nat) (r : Nat → List Int) : seqOf (n + 1) r = seqOf n r ++ (if r n = [] then [] else [r n]) := by
 unfold seqOf
 rw [List.range_succ, List.filterMap_append]
 congr 1
 by_cases h : r n = [] <;> simp [h]
theorem seqOf_len (n : Nat) (r : Nat → List Int) : (seqOf n r).length ≤ n := by rw [sq_all]; exact sq_len _ _ _
theorem ShQ.rows {bad : Nat → Prop} {B : Nat} {w : World} {v : Value} {xs : List (List Int)} (h : ShQ bad B w v xs) : Rows2 Any w v xs := by
 obtain ⟨vs, hl, hq, hr⟩ := h
 rcases hq with ⟨rfl, rfl⟩ | ⟨g, off, cap, cur, rfl, hb, hg, hnc, hcm, hsz, hc⟩
 ·have : xs = [] := List.eq_nil_of_length_eq_zero (by simpa using hl.symm)
  subst this
  exact ⟨none, 0, rfl, ⟨by simp, by simp, fun _ => rfl⟩, fun i hi => by simp at hi⟩
 ·refine ⟨_, cap, by rw [hl], ⟨by omega, by unfold maxLen at hcm; omega, fun h => by cases h⟩, fun i hi => ⟨g, off, gt vs i, rfl, trivial, (Array.getElem?_eq_some_iff.1 hg).1, ?_, Ints.sub (hr i hi) (fun _ _ _ => trivial)⟩⟩
  simp only [World.cell?, hg, Option.isSome_none, Bool.false_eq_true, if_false]
  exact hc i (by omega)
theorem ShQ.lit (bad : Nat → Prop) (B : Nat) (w : World) (hB : B ≤ w.heap.size) : ShQ bad B (w.alloc (.cells #[] 22)) (.slice (some ⟨w.heap.size, 0, none⟩) 0 0) [] :=
 ⟨[], rfl, QOwn.of (World.ownsRow_lit w #[] 0 hB (by decide) rfl), fun i hi => by simp at hi⟩
theorem CanInv.congr {P : Pr} {H : List Int → Prop} {b r r' : Nat → List Int} {m : Nat} (h : CanInv P H b r m) (he : ∀ e, m ≤ e → e < P.orders.length → r' e = r e) : CanInv P H b r' m :=
 ⟨fun e h1 h2 => by rw [he e h1 h2]; exact h.nil e h1 h2, fun e h1 h2 h3 => by rw [he e h1 h2] at h3 ⊢; exact h.mem e h1 h2 h3,
  fun e e' h1 h2 h3 h4 h5 => by rw [he e h1 (by omega)] at h4 ⊢; rw [he e' (by omega) h3] at h5; exact h.red e e' h1 h2 h3 h4 h5⟩
theorem ShQ.weak {bad : Nat → Prop} {B B' : Nat} {w : World} {v : Value} {xs : List (List Int)} (h : ShQ bad B w v xs) (hb : B' ≤ B) : ShQ bad B' w v xs := by
 obtain ⟨vs, hl, hq, hr⟩ := h
 exact ⟨vs, hl, hq.weak hb, hr⟩
set_option maxRecDepth 100000 in
set_option maxHeartbeats 4000000 in
theorem l12FullF_ok (P : Pr) (G : Grp P) (w : World) (pv tv : Value) (b : List (List Int)) (H : List Int → Prop) (Sp Sb : Nat → Prop) (hpv : PresV Sp w pv P) (ht : Rows2 Sb w tv b) (hlb : b.length = P.orders.length) (hI : Ind P H (gt b)) (Av : Nat → Prop) (hAv : ∀ k, Av k → k < w.heap.size ∧ ¬ Sb k) :
  Calls Tryz.prog 116 #[pv, tv] w (Ret w fun w' v => ShQ Av w.heap.size w' v (cseq P H)) := by
 have hP := G.v
 have hn6 := hP.n6
 obtain ⟨vo, vp, vc, rfl, h3⟩ := hpv
 have hp0 := PresP.box h3 31
 have hg0 : Ext w (w.alloc (.cells #[vo, vp, vc] 31)) := World.grownBy_alloc _ _ _
 have hs0 : (w.alloc (.cells #[vo, vp, vc] 31)).heap.size = w.heap.size + 1 := by simp
 obtain ⟨at_, capt, hvt, _, _⟩ := Sl.shape ht
 rw [hlb] at hvt
 subst hvt
 have HI := Lib.hid (And.intro hI hlb); clear hI hlb
 obtain ⟨vo6, vp6, vc6, _, _, hc0, hc1, hc2, h36⟩ := hp0.at
 simp only [Nat.zero_add] at hc1 hc2
 clear hp0
 have hwn : IntKind.i64.wrap ((P.orders.length : Int) - 1) = (P.orders.length : Int) - 1 := IntWalk.i64_in _ (by omega)
 go_enter Tryz.func116, Tryz.ntmps116
 go_wp2_with (first | (at_make; refine wp_make_tab rfl _ _ rfl w.heap.size P.orders.length (w.heap.size + 1) (by simp) _ rfl rfl rfl (by omega) (by omega) ?_; intro w1 hT1 hg1 hlt1) | fail)
 clear hwn
 have HS := Lib.hid hs0; clear hs0
 generalize hw0 : w.alloc (.cells #[vo, vp, vc] 31) = w0 at *
 clear hw0
 have hT := hT1 Av
 clear hT1
 go_loopw [6] (fun dv wr => ∃ (m : Nat) (dl : List (List Int)), dv = .int .i64 ((m : Int) - 1) ∧ m ≤ P.orders.length ∧ Ext w0 wr ∧ TabAt w.heap.size Av wr (w.heap.size + 1) P.orders.length dl ∧ Hid (CanInv P H (gt b) (gt dl) m ∧ ∀ e, e < m → gt dl e = [])) (fun dv _ => (intOf dv + 1).toNat)
 case atStart => exact ⟨P.orders.length, _, rfl, Nat.le_refl _, hg1, hT, Lib.hid ⟨⟨fun e h1 h2 => by omega, fun e h1 h2 => by omega, fun e e' h1 h2 h3 => by omega⟩, fun e he => by simp [gt, he]⟩⟩
 case round =>
  clear hT
  obtain ⟨m, dl, rfl, hm, hg, hT, hC⟩ := hrel
  by_cases hm0 : m = 0
  ·subst hm0
   have hneg : ((0 : Nat) : Int) - 1 = -1 := rfl
   rw [hneg]
   have hend := G.can_end HI.out.1 hC.out.1
   rw [← sq_all] at hend
   have HE := Lib.hid hend; clear hend
   have hdl := hT.len
   have hrows := hT.rows (by omega)
   obtain ⟨wo, rfl⟩ : ∃ wo : World, wo = wr := ⟨_, rfl⟩
   go_wp2
   go_loopw [9, 10] (fun ov iv wr => ∃ (i : Nat) (v4 : Value), v4 = ov ∧ iv = .int .i64 i ∧ i ≤ P.orders.length ∧ Ext wo wr ∧ ShQ Av wo.heap.size wr v4 (seqOf i (gt dl))) (fun _ iv _ => P.orders.length - (intOf iv).toNat)
   case atStart => exact ⟨0, _, rfl, rfl, by omega, World.grownBy_alloc _ _ _, ShQ.lit _ _ _ (Nat.le_refl _)⟩
   case round =>
    obtain ⟨i, v4, rfl, rfl, hi, hgi, hQ⟩ := hrel
    by_cases hlt : i < P.orders.length
    ·have hlt' : (i : Int) < P.orders.length := by omega
     have hst := seqOf_succ i (gt dl)
     obtain ⟨_, hcc⟩ := hT.at i hlt
     rcases hcc with ⟨h0, hcell⟩ | ⟨hne, ab, capb, hcell, hbI⟩
     ·rw [if_pos h0, List.append_nil] at hst
      have HST := Lib.hid hst; clear hst h0
      have hcr := hgi.cell hcell (by simp)
      go_wp2
      go_roundw
      case rel => exact ⟨i + 1, v4, rfl, by go_num, by omega, hgi, by rw [HST.out]; exact hQ⟩
      case measure => simp [intOf]; omega
     ·rw [if_neg hne] at hst
      have hln : (0 : Int) < (gt dl i).length := by
       have : 0 < (gt dl i).length := List.length_pos_iff.2 hne
       omega
      have hsl := seqOf_len i (gt dl)
      have HST := Lib.hid hst; clear hst hne
      have hcr := hgi.cell hcell (by simp)
      have hrI : Ints (fun k => ¬ Av k ∧ v4.ownBlock ≠ some k) wr (.slice (some ab) (gt dl i).length capb) (gt dl i) := Ints.mono hbI (fun k hkb hk => ⟨⟨hkb.2, fun e => by have := (hQ.lt k e).1; omega⟩, Nat.lt_of_lt_of_le hk hgi.size, hgi.block k hk (by simp)⟩)
      go_wp2_with (first | (at_builtin; refine wp_shq_app rfl _ _ rfl Av wo.heap.size v4 _ (seqOf i (gt dl)) (gt dl i) rfl wr hQ rfl hrI rfl (by omega) hgi.size ?_; intro v5 w5 hQ5 hg5 hb5; have hgw5 := grown_own hgi hg5 (fun j hj hlt => by have := (hQ.lt j hj).1; omega)) | fail)
      go_roundw
      case rel => exact ⟨i + 1, v5, rfl, by go_num, by omega, hgw5, by rw [HST.out]; exact hQ5⟩
      case measure => simp [intOf]; omega
    ·have hie : i = P.orders.length := by omega
     subst hie
     rw [HE.out] at hQ
     obtain ⟨az, capz, hvz, _⟩ := hQ.shape
     subst hvz
     go_wp2
     go_ret
     exact ⟨_, rfl, grown_trans hg0 (grown_trans hg hgi), hQ.weak (grown_trans hg0 hg).size⟩
  ·obtain ⟨d, rfl⟩ : ∃ d, m = d + 1 := ⟨m - 1, by omega⟩
   rw [show (((d + 1 : Nat)) : Int) - 1 = d by omega]
   have hdn : d < P.orders.length := by omega
   have hdn' : (d : Int) < P.orders.length := by omega
   have hd0 : (0 : Int) ≤ d := by omega
   have hwd : IntKind.i64.wrap ((d : Int) - 1) = (d : Int) - 1 := IntWalk.i64_in _ (by omega)
   obtain ⟨bb, off, a2, cap2, hat, _, _, hc, hr⟩ := Rows2.at ht d (by rw [HI.out.2]; exact hdn)
   subst hat
   have hgw := grown_trans hg0 hg
   have hcr := hgw.cell hc (by simp)
   clear hc hm0
   by_cases hb : gt b d = []
   ·have hbl : ((((gt b d).length : Nat) : Int) == 0) = true := by rw [hb]; rfl
    have hC2 : CanInv P H (gt b) (gt dl) d := (can_skip (k := P.orders.length - (d + 1)) hC.out.1 hb).1.congr (fun e h1 h2 => by
     by_cases he : e = d
     ·subst he; rw [if_pos rfl]; exact hC.out.2 e (by omega)
     ·rw [if_neg he])
    have HC2 : Hid (CanInv P H (gt b) (gt dl) d ∧ ∀ e, e < d → gt dl e = []) := Lib.hid ⟨hC2, fun e he => hC.out.2 e (by omega)⟩
    clear hC2 hb
    go_wp2
    go_roundw
    case rel => exact ⟨d, dl, rfl, by omega, hg, hT, HC2⟩
    case measure => simp [intOf]
   ·have hbl : ((((gt b d).length : Nat) : Int) == 0) = false := by
     have : 0 < (gt b d).length := List.length_pos_iff.2 hb
     simp; omega
    have hXV : Vec P.orders (gt b d) := (HI.out.1.mem d hdn hb).2.1.1
    have hxI0 : Ints (fun k => k ≠ w.heap.size + 1 ∧ ¬ Av k) wr (.slice a2 (gt b d).length cap2) (gt b d) := Ints.mono hr (fun k hkS hk => ⟨⟨by omega, fun h => (hAv k h).2 hkS⟩, Nat.lt_of_lt_of_le hk hgw.size, hgw.block k hk (by simp)⟩)
    have HB := Lib.hid (And.intro hb hXV); clear hb hXV
    obtain ⟨wo, rfl⟩ : ∃ wo : World, wo = wr := ⟨_, rfl⟩
    go_wp2
    clear hbl hcr
    go_loopw [7, 8] (fun xv ev wr => ∃ (e : Nat) (Y : List Int), ev = .int .i64 e ∧ d + 1 ≤ e ∧ e ≤ P.orders.length ∧ Ext wo wr ∧ Ints (fun k => k ≠ w.heap.size + 1 ∧ ¬ Av k) wr xv Y ∧ Hid (FullTo P (gt dl) (d + 1) (gt b d) e Y)) (fun _ ev _ => P.orders.length - (intOf ev).toNat)
    case atStart => exact ⟨d + 1, _, by go_num, Nat.le_refl _, by omega, Ext.refl _, hxI0, Lib.hid (G.fullTo_zero HB.out.2)⟩
    case round =>
     clear hxI0
     obtain ⟨e, Y, rfl, hde, he, hge, hY, hF⟩ := hrel
     have hYV := hF.out.vec
     have hYl : Y.length = P.orders.length := hYV.1
     obtain ⟨ay, capy, hvy, _, _⟩ := hY.shape
     rw [hYl] at hvy
     subst hvy
     by_cases hlt : e < P.orders.length
     ·have hlt' : (e : Int) < P.orders.length := by omega
      have he0 : (0 : Int) ≤ e := by omega
      obtain ⟨by_, oy, rfl, _, _, hcy⟩ := Ints.at hY e (by omega)
      obtain ⟨_, hcc⟩ := hT.at e hlt
      rcases hcc with ⟨h0, hcell⟩ | ⟨hne, ab, capb, hcell, hbI⟩
      ·have hF2 := Lib.hid (hF.out.skip (.inl h0)); clear h0 hYV
       have hcr := hge.cell hcell (by simp)
       go_wp2
       go_roundw
       case rel => exact ⟨e + 1, Y, by go_num, by omega, by omega, hge, hY, hF2⟩
       case measure => simp [intOf]; omega
      ·have hln : (0 : Int) < (gt dl e).length := by
        have : 0 < (gt dl e).length := List.length_pos_iff.2 hne
        omega
       have hcr := hge.cell hcell (by simp)
       by_cases hy : gt Y e = 0
       ·have hyb : (gt Y e != 0) = false := by simp [hy]
        have hF2 := Lib.hid (hF.out.skip (.inr hy)); clear hYV hy hne
        go_wp2
        go_roundw
        case rel => exact ⟨e + 1, Y, by go_num, by omega, by omega, hge, hY, hF2⟩
        case measure => simp [intOf]; omega
       ·have hyb : (gt Y e != 0) = true := by simp [hy]
        have hyd := hYV.2 e hlt
        have ho := hP.ord7 e hlt
        have hwn : IntKind.i64.wrap (-(gt Y e)) = -(gt Y e) := IntWalk.i64_in _ (by omega)
        obtain ⟨_, m2, m3⟩ := hC.out.1.mem e (by omega) hlt hne
        have hF2 := Lib.hid (G.fullTo_step HB.out.2 (by omega) hlt hne ⟨m2, m3⟩ hF.out)
        have hpV := G.pwZ_vec m2.1 (-(gt Y e))
        have hpl : (pwZ P (gt dl e) (-(gt Y e))).length ≤ 6 := by rw [hpV.1]; omega
        have HD := Lib.hid (And.intro m2.1 (And.intro hpV (And.intro hpl (And.intro hYV (And.intro hyd ho))))); clear m2 m3 hpV hpl hYV hyd ho hne hy
        have hg0e := grown_trans hg hge
        have e1 : ∀ w', Ext wr w' → w'.cell? ⟨w.heap.size, 0, none⟩ = some vo6 := fun w' h => (grown_trans hg0e h).cell hc0 (by simp)
        have e2 : ∀ w', Ext wr w' → w'.cell? ⟨w.heap.size, 1, none⟩ = some vp6 := fun w' h => (grown_trans hg0e h).cell hc1 (by simp)
        have e3 : ∀ w', Ext wr w' → w'.cell? ⟨w.heap.size, 2, none⟩ = some vc6 := fun w' h => (grown_trans hg0e h).cell hc2 (by simp)
        have e4 : ∀ w', Ext wr w' → w'.cell? ⟨w.heap.size + 1, e, none⟩ = some (.slice (some ab) (gt dl e).length capb) := fun w' h => h.cell hcr (by simp)
        have e5 : ∀ w', Ext wr w' → w'.cell? ⟨by_, oy + e, none⟩ = some (.int .i64 (gt Y e)) := fun w' h => h.cell hcy (by simp)
        go_wp2
        clear hcr hcy hcell
        go_region_held3 (fun w' => Ext wr w') (first | exact grown_drew _ _ | assumption)
         (first
          | (go_at_call 113; refine Calls.mono (Calls.rel (w0 := wr) (by assumption) (l10Pow_ok P G _ _ _ (gt dl e) _ Any Any ⟨_, _, _, rfl, Pres3.ext (Pres3.ext h36 hg0e) (by assumption)⟩ (Ints.sub (Ints.ext (Ints.ext hbI hge) (by assumption)) (fun _ _ _ => trivial)) HD.out.1 (by have := HD.out.2.2.2.2.1; have := HD.out.2.2.2.2.2; omega))) ?_; rintro eA wA ⟨vA, rfl, hgA, hsA, hOA⟩; have hOA2 := hOA.ints (by have := HD.out.2.2.1; omega))
          | (go_at_call 176; refine Calls.mono (Calls.rel (w0 := wr) (by assumption) (l08Mul_ok P hP _ _ _ _ Y _ Any Any Any ⟨_, _, _, rfl, Pres3.ext (Pres3.ext h36 hg0e) (by assumption)⟩ (Ints.sub (Ints.ext hY (by assumption)) (fun _ _ _ => trivial)) hOA2 HD.out.2.2.2.1 HD.out.2.1)) ?_; rintro eB wB ⟨vB, rfl, hgB, hsB, hOB⟩))
        clear e1 e2 e3 e4 e5
        have hYB : Ints (fun k => k ≠ w.heap.size + 1 ∧ ¬ Av k) wB vB (rMul P Y (pwZ P (gt dl e) (-(gt Y e)))) := ints_of_own hOB (by rw [hF2.out.vec.1]; omega) (fun k hk => by have h1 := (hOB.lt k hk).1; have := hT.lt; have := hge.size; exact ⟨by omega, fun h => by have := (hAv k h).1; have := hg0.size; have := hg.size; omega⟩)
        go_wp2
        go_roundw
        case rel => exact ⟨e + 1, _, by go_num, by omega, by omega, grown_trans hge hgB, hYB, hF2⟩
        case measure => simp [intOf]; omega
     ·have hee : e = P.orders.length := by omega
      subst hee
      have hYne : Y ≠ [] := fun h => by rw [h] at hYl; simp at hYl; omega
      have hTr := hT.ext hge
      obtain ⟨hs5, hg5⟩ := hTr.put d (u := .slice ay P.orders.length capy) (y := Y) (Ints.sub hY (fun k hk _ => hk)) hYne
      obtain ⟨hfr, hcc⟩ := hTr.at d hdn
      have hcd : wr.cell? ⟨w.heap.size + 1, d, none⟩ = some (.slice none 0 0) := hcc.elim (fun h => h.2) (fun h => absurd (hC.out.2 d (by omega)) h.1)
      have hst := (G.can_step (k := P.orders.length - (d + 1)) HI.out.1 hC.out.1 (by omega) HB.out.1 (hF.out.repTo hC.out.1 (by omega))).1
      have hC2 : CanInv P H (gt b) (gt (dl.set d Y)) d := hst.congr (fun i h1 h2 => by
       by_cases hi : i = d
       ·subst hi; rw [if_pos rfl, gt_set_eq _ _ _ (by rw [hT.len]; omega)]
       ·rw [if_neg hi, gt_set_ne _ _ _ _ (fun h => hi h.symm)])
      have HC2 : Hid (CanInv P H (gt b) (gt (dl.set d Y)) d ∧ ∀ i, i < d → gt (dl.set d Y) i = []) := Lib.hid ⟨hC2, fun i hi => by rw [gt_set_ne _ _ _ _ (by omega)]; exact hC.out.2 i (by omega)⟩
      have hg0n : Ext w0 (wr.setCell ⟨w.heap.size + 1, d, none⟩ (.slice ay P.orders.length capy)) := grown_own (grown_trans hg hge) hg5 (fun j hj hlt => by cases hj; have := HS.out; omega)
      clear hcc hst hC2 hYV hTr hg5
      go_wp2
      go_roundw
      case rel => exact ⟨d, dl.set d Y, rfl, by omega, hg0n, hs5, HC2⟩
      case measure => simp [intOf]
end Go.Proofs.YtdklekdpdbjfiaaGreat

/- The reference's sifting: spec.l12Strip. -/
namespace Go.Proofs.YtdklekdpdbjfiaaGreat
open Go.RowKit
set_option maxRecDepth 100000 in
set_option maxHeartbeats 2000000 in
theorem l12Strip_ok (P : Pr) (G : Grp P) (w : World) (pv tv xv : Value) (b : List (List Int)) (X : List Int) (Sp Sb Sx : Nat → Prop) (hpv : PresV Sp w pv P) (ht : Rows2 Sb w tv b) (hx : Ints Sx w xv X) (hX : Vec P.orders X)
  (hlb : b.length = P.orders.length) (htab : ∀ d, d < P.orders.length → gt b d ≠ [] → T P d (gt b d) ∧ gt (gt b d) d = 1) :
  Calls Tryz.prog 112 #[pv, tv, xv] w (Ret w fun w' v => ∃ (d : Nat) (r : Value) (Y : List Int), v = .tuple #[.int .i64 d, r] ∧ Own w.heap.size w' r Y ∧ StripTo P b X d Y ∧ d ≤ P.orders.length ∧ (d < P.orders.length → gt Y d ≠ 0 ∧ gt b d = [])) := by
 have hP := G.v
 have hn6 := hP.n6
 obtain ⟨vo, vp, vc, rfl, h3⟩ := hpv
 have hp0 := PresP.box h3 31
 have hg0 : Ext w (w.alloc (.cells #[vo, vp, vc] 31)) := World.grownBy_alloc _ _ _
 have hx0 := hx.ext hg0
 have ht0 := Rows2.ext ht hg0
 have hXl : X.length ≤ 6 := by rw [hX.1]; omega
 have hs0 : (w.alloc (.cells #[vo, vp, vc] 31)).heap.size = w.heap.size + 1 := by simp
 obtain ⟨at_, capt, hvt, _, _⟩ := Sl.shape ht
 rw [hlb] at hvt
 subst hvt
 have HI := Lib.hid (And.intro htab (And.intro hX hlb)); clear htab hX hlb
 obtain ⟨vo6, vp6, vc6, _, _, hc0, hc1, hc2, h36⟩ := hp0.at
 simp only [Nat.zero_add] at hc1 hc2
 clear hp0
 go_enter Tryz.func112, Tryz.ntmps112
 go_wp2_with fail
 have HS := Lib.hid hs0; clear hs0
 generalize hw0 : w.alloc (.cells #[vo, vp, vc] 31) = w0 at *
 clear hw0
 refine Calls.mono (l01Own_ok w0 xv X Sx hx0 (by omega)) ?_
 rintro e1 w1 ⟨ov, rfl, hg1, hO1⟩
 go_wp2
 go_loopw [8, 9] (fun ov iv wr => ∃ (d : Nat) (Y : List Int), iv = .int .i64 d ∧ d ≤ P.orders.length ∧ Ext w0 wr ∧ Own w.heap.size wr ov Y ∧ Hid (StripTo P b X d Y)) (fun _ iv _ => P.orders.length - (intOf iv).toNat)
 case atStart => exact ⟨0, X, rfl, by omega, hg1, hO1.weak (by have := HS.out; omega), Lib.hid (stripTo_zero HI.out.2.1)⟩
 case round =>
  clear hO1
  obtain ⟨d, Y, rfl, hd, hg, hO, hR⟩ := hrel
  have hYV := hR.out.vec.1
  have hYl : Y.length = P.orders.length := hYV.1
  have hYi := hO.ints (by omega)
  obtain ⟨ay, capy, hvy, _, _⟩ := hYi.shape
  rw [hYl] at hvy
  subst hvy
  by_cases hlt : d < P.orders.length
  ·have hlt' : (d : Int) < P.orders.length := by omega
   obtain ⟨bb, off, a2, cap2, rfl, _, _, hc, hr⟩ := Rows2.at (Rows2.ext ht0 hg) d (by rw [HI.out.2.2]; exact hlt)
   obtain ⟨by_, oy, rfl, _, _, hcy⟩ := Ints.at hYi d (by omega)
   by_cases hy : gt Y d = 0
   ·have hyb : (gt Y d == 0) = true := by simp [hy]
    have hR2 := Lib.hid (hR.out.skip hy); clear hYV hy
    go_wp2
    go_roundw
    case rel => exact ⟨d + 1, Y, by go_num, by omega, hg, hO, hR2⟩
    case measure => simp [intOf]; omega
   ·have hyb : (gt Y d == 0) = false := by simp [hy]
    by_cases hb : gt b d = []
    ·have hbl : ((((gt b d).length : Nat) : Int) == 0) = true := by rw [hb]; rfl
     have HB := Lib.hid (And.intro hb hy); clear hb hYV hy
     go_wp2
     go_ret2
     exact ⟨_, rfl, grown_trans hg0 hg, d, _, Y, rfl, hO, hR.out, by omega, fun _ => ⟨HB.out.2, HB.out.1⟩⟩
    ·have hbl : ((((gt b d).length : Nat) : Int) == 0) = false := by
      have : 0 < (gt b d).length := List.length_pos_iff.2 hb
      simp; omega
     have hyd := hYV.2 d hlt
     have ho := hP.ord7 d hlt
     have hwn : IntKind.i64.wrap (-(gt Y d)) = -(gt Y d) := IntWalk.i64_in _ (by omega)
     obtain ⟨m2, m3⟩ := HI.out.1 d hlt hb
     have hR2 := Lib.hid (G.stripTo_step hlt hb ⟨m2, m3⟩ hy hR.out)
     have hpV := G.pwZ_vec m2.1 (-(gt Y d))
     have hpl : (pwZ P (gt b d) (-(gt Y d))).length ≤ 6 := by rw [hpV.1]; omega
     have HB := Lib.hid (And.intro m2.1 (And.intro hpV (And.intro hpl (And.intro hYV (And.intro hyd ho))))); clear m2 m3 hpV hpl hYV hyd ho hb hy
     have e1 : ∀ w', Ext wr w' → w'.cell? ⟨w.heap.size, 0, none⟩ = some vo6 := fun w' h => (grown_trans hg h).cell hc0 (by simp)
     have e2 : ∀ w', Ext wr w' → w'.cell? ⟨w.heap.size, 1, none⟩ = some vp6 := fun w' h => (grown_trans hg h).cell hc1 (by simp)
     have e3 : ∀ w', Ext wr w' → w'.cell? ⟨w.heap.size, 2, none⟩ = some vc6 := fun w' h => (grown_trans hg h).cell hc2 (by simp)
     have e4 : ∀ w', Ext wr w' → w'.cell? ⟨bb, off + d, none⟩ = some (.slice a2 (gt b d).length cap2) := fun w' h => h.cell hc (by simp)
     have e5 : ∀ w', Ext wr w' → w'.cell? ⟨by_, oy + d, none⟩ = some (.int .i64 (gt Y d)) := fun w' h => h.cell hcy (by simp)
     go_wp2
     clear hc hcy
     go_region_held3 (fun w' => Ext wr w') (first | exact grown_drew _ _ | assumption)
      (first
       | (go_at_call 113; refine Calls.mono (Calls.rel (w0 := wr) (by assumption) (l10Pow_ok P G _ _ _ (gt b d) _ Any Any ⟨_, _, _, rfl, Pres3.ext (Pres3.ext h36 hg) (by assumption)⟩ (Ints.sub (Ints.ext hr (by assumption)) (fun _ _ _ => trivial)) HB.out.1 (by have := HB.out.2.2.2.2.1; have := HB.out.2.2.2.2.2; omega))) ?_; rintro eA wA ⟨vA, rfl, hgA, hsA, hOA⟩; have hOA2 := hOA.ints (by have := HB.out.2.2.1; omega))
       | (go_at_call 176; refine Calls.mono (Calls.rel (w0 := wr) (by assumption) (l08Mul_ok P hP _ _ _ _ Y _ Any Any Any ⟨_, _, _, rfl, Pres3.ext (Pres3.ext h36 hg) (by assumption)⟩ (Ints.sub (Ints.ext hYi (by assumption)) (fun _ _ _ => trivial)) hOA2 HB.out.2.2.2.1 HB.out.2.1)) ?_; rintro eB wB ⟨vB, rfl, hgB, hsB, hOB⟩))
     clear e1 e2 e3 e4 e5
     go_wp2
     go_roundw
     case rel => exact ⟨d + 1, _, by go_num, by omega, grown_trans hg hgB, hOB.weak (by have := hg.size; have := HS.out; omega), hR2⟩
     case measure => simp [intOf]; omega
  ·have hde : d = P.orders.length := by omega
   subst hde
   go_wp2
   go_ret2
   exact ⟨_, rfl, grown_trans hg0 hg, _, _, Y, rfl, hO, hR.out, by omega, fun h => absurd h (by omega)⟩
end Go.Proofs.YtdklekdpdbjfiaaGreat

/- The reference's closure: spec.l01Own2, l01Inv, l10Comm, l12Close. -/
namespace Go.Proofs.YtdklekdpdbjfiaaGreat
open Go.RowKit
theorem run_head_rows (w : World) (a : Option Addr) (n cap : Nat) (k : Int) (h0 : 0 ≤ k) (h1 : k ≤ cap) :
  (Instr.slice 23 (.slice a n cap) none (some (.int .i64 k)) none).run Tryz.prog w = .ok (.slice a k.toNat cap) w := by
 rw [run_slice_h w 23 a n cap (by kernel_rfl) .i64 k h0 h1]
 have : (sizeOf (Tryz.prog.elem 23)).run Tryz.prog w = .ok 1 w := by kernel_rfl
 rw [this]
 cases a with
 | none => simp [Result.andThen, sliced]
 | some a => simp [Result.andThen, sliced, Addr.add]
theorem QOwn.init {B E n cap : Nat} {w : World} {a : Option Addr} {x : Value} {vs : List Value} (h : QOwn B E w (.slice a n cap) (vs ++ [x])) : QOwn B E w (.slice a vs.length cap) vs := by
 rcases h with ⟨_, h⟩ | ⟨g, off, cap', cur, hv, hb, hg, h1, h2, h3, h4⟩
 ·simp at h
 ·simp only [Value.slice.injEq] at hv
  obtain ⟨rfl, rfl, rfl⟩ := hv
  simp only [List.length_append, List.length_singleton] at h1 h4
  exact .inr ⟨g, off, cap, cur, rfl, hb, hg, by omega, h2, h3, fun i hi => by rw [h4 i (by omega), gt_append_left _ _ _ hi]⟩
theorem ShQ.init {bad : Nat → Prop} {B n cap : Nat} {w : World} {a : Option Addr} {x : List Int} {xs : List (List Int)} (h : ShQ bad B w (.slice a n cap) (xs ++ [x])) : ShQ bad B w (.slice a xs.length cap) xs := by
 obtain ⟨vs, hl, hq, hr⟩ := h
 obtain ⟨ws, u, rfl⟩ : ∃ ws u, vs = ws ++ [u] := by
  refine ⟨vs.dropLast, vs.getLast (fun e => by rw [e] at hl; simp at hl), (List.dropLast_concat_getLast _).symm⟩
 have hl2 : ws.length = xs.length := by simpa using hl
 refine ⟨ws, hl2, by rw [← hl2]; exact hq.init, fun i hi => ?_⟩
 have h2 := hr i (by simp; omega)
 rw [gt_append_left _ _ _ (by omega), gt_append_left _ _ _ hi] at h2
 exact Ints.sub h2 (fun k hk _ => ⟨hk.1, fun e => hk.2 (by cases a <;> exact e)⟩)
set_option maxHeartbeats 1000000 in
theorem l01Own2_ok (w : World) (v : Value) (L : List (List Int)) (S : Nat → Prop) (hv : Rows2 S w v L) (hL : ∀ x ∈ L, x.length ≤ 1000000) (hlen : L.length ≤ 1000000) :
  Calls Tryz.prog 65 #[v] w (Ret w fun w' r => RowsO w.heap.size w' r L) := by
 obtain ⟨a, cap, rfl, _, _⟩ := Sl.shape hv
 have HL := Lib.hid hL; clear hL
 go_enter Tryz.func65, Tryz.ntmps65
 go_wp2
 go_loopw [3, 4] (fun ov iv wr => ∃ (i : Nat) (v4 : Value), v4 = ov ∧ iv = .int .i64 i ∧ i ≤ L.length ∧ Ext w wr ∧ RowsO w.heap.size wr v4 (L.take i)) (fun _ iv _ => L.length - (intOf iv).toNat)
 case atStart => exact ⟨0, _, rfl, rfl, by omega, World.grownBy_alloc _ _ _, [], fun _ _ => False, rfl, World.ownsRow_lit w #[] 0 (Nat.le_refl _) (by decide) rfl, by simp, by simp, by simp⟩
 case round =>
  obtain ⟨i, v4, rfl, rfl, hi, hg, hO⟩ := hrel
  by_cases hlt : i < L.length
  ·have hlt' : (i : Int) < L.length := by omega
   obtain ⟨b, off, a2, cap2, rfl, _, _, hc, hr⟩ := Rows2.at (Rows2.ext hv hg) i hlt
   have hstep := take_succ_gt L i hlt
   have hll := HL.out _ (gtMem hlt)
   have htl : (L.take i).length ≤ 1000000 := by rw [List.length_take]; omega
   have HST := Lib.hid (And.intro hstep hll); clear hstep hll
   go_wp2_with fail
   refine Calls.mono (l01Own_ok wr _ (gt L i) _ hr (by have := HST.out.2; omega)) ?_
   rintro eC wC ⟨vC, rfl, hgC, hOC⟩
   have hYO : OwnIn (From wr.heap.size) wC vC (gt L i) := OwnIn.of hOC (by have := HST.out.2; omega) (fun j h1 _ => h1)
   obtain ⟨ay, capy, hvy, _, _⟩ := hYO.ints.shape
   subst hvy
   clear hc
   go_wp2_with (first | (at_builtin; refine wp_app_row rfl _ _ rfl w.heap.size wr wC v4 _ (L.take i) (gt L i) rfl hO hgC hYO rfl rfl htl hg.size ?_; intro v5 w5 hO5 hg5 hg6; have hgw5 := hO.extw hg (Nat.le_refl _) hg5) | fail)
   go_roundw
   case rel => exact ⟨i + 1, v5, rfl, by go_num, by omega, hgw5, by rw [HST.out.1]; exact hO5⟩
   case measure => simp [intOf]; omega
  ·have hie : i = L.length := by omega
   subst hie
   rw [List.take_length] at hO
   obtain ⟨az, capz, hvz, _, _⟩ := SlD.shape (hO.toD (by omega))
   subst hvz
   go_wp2
   go_ret
   exact ⟨_, rfl, hg, hO⟩
set_option maxRecDepth 100000 in
set_option maxHeartbeats 2000000 in
theorem l10Comm_ok (P : Pr) (G : Grp P) (w : World) (pv a b : Value) (A B : List Int) (Sp Sa Sb : Nat → Prop) (hp : PresV Sp w pv P) (ha : Ints Sa w a A) (hb : Ints Sb w b B) (hA : Vec P.orders A) (hB : Vec P.orders B) :
  Calls Tryz.prog 115 #[pv, a, b] w (Ret w fun w' v => Own w.heap.size w' v (comR P A B)) := by
 have hP := G.v
 obtain ⟨vo, vp, vc, rfl, h3⟩ := hp
 have hn6 := hP.n6
 have hV1 := G.mulV hB hA
 have hV2 := G.invV hV1
 have hV3 := G.mulV hA hB
 have HV := Lib.hid (And.intro hV1 (And.intro hV2 hV3)); clear hV1 hV2 hV3
 have hg0 : Ext w (w.alloc (.cells #[vo, vp, vc] 31)) := World.grownBy_alloc _ _ _
 have hBx := PresP.box h3 31
 have ha0 := ha.ext hg0
 have hb0 := hb.ext hg0
 have hs0 : (w.alloc (.cells #[vo, vp, vc] 31)).heap.size = w.heap.size + 1 := by simp
 have HS := Lib.hid hs0; clear hs0 ha hb
 go_enter Tryz.func115, Tryz.ntmps115
 go_wp2
 generalize hw0 : w.alloc (.cells #[vo, vp, vc] 31) = w0 at *
 clear hw0
 obtain ⟨vo6, vp6, vc6, _, _, hc0, hc1, hc2, h36⟩ := hBx.at
 have e1 : ∀ w', Ext w0 w' → w'.cell? ⟨w.heap.size, 0, none⟩ = some vo6 := fun w' h => h.cell hc0 (by simp)
 have e2 : ∀ w', Ext w0 w' → w'.cell? ⟨w.heap.size, 1, none⟩ = some vp6 := fun w' h => h.cell (by simpa using hc1) (by simp)
 have e3 : ∀ w', Ext w0 w' → w'.cell? ⟨w.heap.size, 2, none⟩ = some vc6 := fun w' h => h.cell (by simpa using hc2) (by simp)
 clear hc0 hc1 hc2
 go_region_held3 (fun w' => Ext w0 w') (first | exact grown_drew _ _ | assumption)
  (first
   | (revert hOF2; intro hOF2; go_at_call 176; refine Calls.mono (Calls.rel (w0 := w0) (by assumption) (l08Mul_ok P hP _ _ _ _ _ _ Any Any Any ⟨_, _, _, rfl, Pres3.ext h36 (by assumption)⟩ hOB2 hOF2 HV.out.2.1 HV.out.2.2)) ?_; rintro eC wC ⟨vC, rfl, hgC, hsC, hOC⟩)
   | (revert hOB; intro hOB; go_at_call 176; refine Calls.mono (Calls.rel2 (w0 := w0) (by assumption) (l08Mul_ok P hP _ _ _ _ A B Any Sa Sb ⟨_, _, _, rfl, Pres3.ext h36 (by assumption)⟩ (Ints.ext ha0 (by assumption)) (Ints.ext hb0 (by assumption)) hA hB)) ?_; rintro eF wF ⟨vF, rfl, hgF, hgF2, hsF, hOF⟩; have hOB2 := (hOB.ext0 hgF2).ints (by rw [HV.out.2.1.1]; omega); have hOF2 := hOF.ints (by rw [HV.out.2.2.1]; omega))
   | (go_at_call 178; refine Calls.mono (Calls.rel (w0 := w0) (by assumption) (l10Inv_ok P hP _ _ _ _ Any Any ⟨_, _, _, rfl, Pres3.ext h36 (by assumption)⟩ hOA2 HV.out.1)) ?_; rintro eB wB ⟨vB, rfl, hgB, hsB, hOB⟩)
   | (go_at_call 176; refine Calls.mono (Calls.rel (w0 := w0) (by assumption) (l08Mul_ok P hP _ _ _ _ B A Any Sb Sa ⟨_, _, _, rfl, Pres3.ext h36 (by assumption)⟩ (Ints.ext hb0 (by assumption)) (Ints.ext ha0 (by assumption)) hB hA)) ?_; rintro eA wA ⟨vA, rfl, hgA, hsA, hOA⟩; have hOA2 := hOA.ints (by rw [HV.out.1.1]; omega)))
 clear e1 e2 e3
 go_wp2
 go_ret
 exact ⟨_, rfl, grown_trans hg0 hgC, hOC.weak (by have := HS.out; omega)⟩
theorem l01Mod_ok (a m : Int) (w : World) (h1 : 0 ≤ a) (h2 : a < m) :
  Calls Tryz.prog 179 #[.int .i64 a, .int .i64 m] w fun e w' => e = .returned (.int .i64 a) ∧ w = w' := by
 have e1 : a.tmod m = a := Int.tmod_eq_of_lt h1 h2
 have hm0 : m ≠ 0 := by omega
 have hmb : (m == 0) = false := by simp; omega
 go_enter Tryz.func179, Tryz.ntmps179
 go_wp2
 go_ret
 exact ⟨rfl, rfl⟩
theorem inv_ex {a m : Int} (hm : m = 2 ∨ m = 3 ∨ m = 5 ∨ m = 7) (h1 : 1 ≤ a) (h2 : a < m) : ∃ y : Int, 1 ≤ y ∧ y < m ∧ (a * y) % m = 1 := by
 rcases hm with rfl | rfl | rfl | rfl
 ·have : a = 1 := by omega
  subst this; exact ⟨1, by decide, by decide, by decide⟩
 ·rcases (show a = 1 ∨ a = 2 by omega) with rfl | rfl
  ·exact ⟨1, by decide, by decide, by decide⟩
  ·exact ⟨2, by decide, by decide, by decide⟩
 ·rcases (show a = 1 ∨ a = 2 ∨ a = 3 ∨ a = 4 by omega) with rfl | rfl | rfl | rfl
  ·exact ⟨1, by decide, by decide, by decide⟩
  ·exact ⟨3, by decide, by decide, by decide⟩
  ·exact ⟨2, by decide, by decide, by decide⟩
  ·exact ⟨4, by decide, by decide, by decide⟩
 ·rcases (show a = 1 ∨ a = 2 ∨ a = 3 ∨ a = 4 ∨ a = 5 ∨ a = 6 by omega) with rfl | rfl | rfl | rfl | rfl | rfl
  ·exact ⟨1, by decide, by decide, by decide⟩
  ·exact ⟨4, by decide, by decide, by decide⟩
  ·exact ⟨5, by decide, by decide, by decide⟩
  ·exact ⟨2, by decide, by decide, by decide⟩
  ·exact ⟨3, by decide, by decide, by decide⟩
  ·exact ⟨6, by decide, by decide, by decide⟩
set_option maxHeartbeats 1000000 in
theorem l01Inv_ok (a m : Int) (w : World) (hm : m = 2 ∨ m = 3 ∨ m = 5 ∨ m = 7) (h1 : 1 ≤ a) (h2 : a < m) :
  Calls Tryz.prog 114 #[.int .i64 a, .int .i64 m] w (Ret w fun _ v => ∃ k : Int, v = .int .i64 k ∧ 0 ≤ k ∧ k < m ∧ (k * a) % m = 1) := by
 have hex := inv_ex hm h1 h2
 have HE := Lib.hid hex; clear hex
 have hm7 : 2 ≤ m ∧ m ≤ 7 := by omega
 obtain ⟨hm2, hm7⟩ := hm7
 clear hm
 have hcon := l01Mod_ok a m w (by omega) h2
 go_enter Tryz.func114, Tryz.ntmps114
 go_wp2
 go_loopw [5] (fun xv wr => ∃ x : Int, xv = .int .i64 x ∧ 1 ≤ x ∧ x ≤ m ∧ w = wr ∧ Hid (∀ y, 1 ≤ y → y < x → (a * y) % m ≠ 1)) (fun xv _ => (m - intOf xv).toNat)
 case atStart => exact ⟨1, rfl, by omega, by omega, rfl, Lib.hid (fun y h1 h2 => by omega)⟩
 case round =>
  obtain ⟨x, rfl, hx1, hxm, rfl, hN⟩ := hrel
  by_cases hlt : x < m
  ·have hax0 : 0 ≤ a * x := Int.mul_nonneg (by omega) (by omega)
   have hax : a * x ≤ 7 * 7 := Int.mul_le_mul (by omega) (by omega) (by omega) (by omega)
   have e1 : IntKind.i64.wrap (a * x) = a * x := IntWalk.i64_in _ (by omega)
   have e2 : (a * x).tmod m = (a * x) % m := Int.tmod_eq_emod_of_nonneg hax0
   have hm0 : (m == 0) = false := by simp; omega
   by_cases hq : (a * x) % m = 1
   ·have hb : ((a * x) % m == 1) = true := by simp [hq]
    have hq2 : (x * a) % m = 1 := by rw [Int.mul_comm]; exact hq
    have HQ := Lib.hid hq2; clear hq hq2
    go_wp2_with fail
    refine Calls.mono hcon ?_
    rintro e5 w5 ⟨rfl, rfl⟩
    clear hcon
    go_wp2
    go_ret
    exact ⟨_, rfl, Ext.refl _, x, rfl, by omega, hlt, HQ.out⟩
   ·have hb : ((a * x) % m == 1) = false := by simp [hq]
    have HQ := Lib.hid hq; clear hq
    go_wp2_with fail
    refine Calls.mono hcon ?_
    rintro e5 w5 ⟨rfl, rfl⟩
    clear hcon
    go_wp2
    go_roundw
    case rel => exact ⟨x + 1, by go_num, by omega, by omega, trivial, Lib.hid (fun y h1 h2 => by
     by_cases hy : y = x
     ·rw [hy]; exact HQ.out
     ·exact hN.out y h1 (by omega))⟩
    case measure => simp [intOf]; omega
  ·obtain ⟨y, h1, h2, h3⟩ := HE.out
   exact absurd h3 (hN.out y h1 (by omega))
end Go.Proofs.YtdklekdpdbjfiaaGreat

/- The reference's list of the elements of a subgroup: spec.l12Orders, l10At at orders alone, l12Product, l12Elements. -/
namespace Go.Proofs.YtdklekdpdbjfiaaGreat
open Go.RowKit
theorem l10OneO_ok (o : List Int) (w : World) (vo vp vc : Value) (S : Nat → Prop) (ho : Ints S w vo o) (hn : o.length ≤ 6) :
  Calls Tryz.prog 195 #[.agg #[vo, vp, vc]] w (Ret w fun w' v => Own w.heap.size w' v (zeros o.length)) := by
 obtain ⟨ao, capo, rfl, _, _⟩ := ho.shape
 have hco : (w.alloc (.cells #[.slice ao o.length capo, vp, vc] 31)).cell? ⟨w.heap.size, 0, none⟩ = some (.slice ao o.length capo) := by rw [World.cell?_alloc_at _ _ _ _ rfl]; rfl
 go_enter Tryz.func195, Tryz.ntmps195
 go_wp2_with (at_make; refine wp_make_ints rfl _ _ rfl (w.heap.size + 1) o.length (w.heap.size + 1) (by simp) _ rfl rfl rfl (by omega) (by simp) ?_; intro w1 ho1 hg1 _)
 go_ret
 exact ⟨_, rfl, grown_trans (World.grownBy_alloc _ _ _) hg1, ho1.weak (by omega)⟩
set_option maxHeartbeats 1000000 in
theorem l10AtO_ok (o : List Int) (hP : Valid (shapeP o)) (w : World) (vo vp vc : Value) (m : Int) (S : Nat → Prop) (hov : Ints S w vo o) (hm : 0 ≤ m) (hm2 : m ≤ 1000000000) :
  Calls Tryz.prog 130 #[.agg #[vo, vp, vc], .int .i64 m] w (Ret w fun w' v => Own w.heap.size w' v (elAt (shapeP o) m)) := by
 have hn6 : o.length ≤ 6 := hP.n6
 have ho7 : ∀ i, i < o.length → 2 ≤ gt o i ∧ gt o i ≤ 7 := fun i hi => hP.ord7 i hi
 have hinv : ∀ k, k ≤ o.length → (elTo o o.length m k).1.length = o.length ∧ 0 ≤ (elTo o o.length m k).2 ∧ (elTo o o.length m k).2 ≤ m := fun k hk => ⟨elTo_len _ _ _ _, (elTo_inv hP m hm k hk).2⟩
 have HO := Lib.hid (And.intro ho7 hinv); clear ho7 hinv hP
 obtain ⟨ao, capo, rfl, _, _⟩ := hov.shape
 have hg0 : Ext w (w.alloc (.cells #[.slice ao o.length capo, vp, vc] 31)) := World.grownBy_alloc _ _ _
 have hco0 : (w.alloc (.cells #[.slice ao o.length capo, vp, vc] 31)).cell? ⟨w.heap.size, 0, none⟩ = some (.slice ao o.length capo) := by rw [World.cell?_alloc_at _ _ _ _ rfl]; rfl
 have hco1 : (w.alloc (.cells #[.slice ao o.length capo, vp, vc] 31)).cell? ⟨w.heap.size, 1, none⟩ = some vp := by rw [World.cell?_alloc_at _ _ _ _ rfl]; rfl
 have hco2 : (w.alloc (.cells #[.slice ao o.length capo, vp, vc] 31)).cell? ⟨w.heap.size, 2, none⟩ = some vc := by rw [World.cell?_alloc_at _ _ _ _ rfl]; rfl
 have hoi := hov.ext hg0
 have hs0 : (w.alloc (.cells #[.slice ao o.length capo, vp, vc] 31)).heap.size = w.heap.size + 1 := by simp
 go_enter Tryz.func130, Tryz.ntmps130
 go_wp2_with fail
 have HS := Lib.hid hs0; clear hs0
 clear hco1 hco2
 have HCO := Lib.hid hco0; clear hco0
 generalize hw0 : w.alloc (.cells #[.slice ao o.length capo, vp, vc] 31) = w0 at *
 clear hw0
 refine Calls.mono (l10OneO_ok o w0 _ _ _ S hoi hn6) ?_
 rintro e1 w1 ⟨r, rfl, hg1, ho1⟩
 have hri := ho1.ints (by simp [zeros]; omega)
 obtain ⟨ar, capr, rfl, _, _⟩ := hri.shape
 have hzl : (zeros o.length).length = o.length := by simp [zeros]
 rw [hzl] at hri
 have ho1 : Own w0.heap.size w1 (.slice ar o.length capr) (zeros o.length) := by rw [hzl] at ho1; exact ho1
 simp only [hzl]
 clear hzl hri
 go_wp2
 go_loopw [1, 6] (fun mv i wr => ∃ k : Nat, i = .int .i64 ((o.length : Int) - 1 - k) ∧ mv = .int .i64 (elTo o o.length m k).2 ∧ k ≤ o.length ∧ Ext w0 wr ∧
   Own w0.heap.size wr (.slice ar o.length capr) (elTo o o.length m k).1) (fun _ i _ => (intOf i + 1).toNat)
 case atStart => exact ⟨0, by simp, rfl, by omega, hg1, ho1⟩
 case round =>
  clear ho1
  obtain ⟨k, rfl, rfl, hk, hg, hO⟩ := hrel
  obtain ⟨hv, hm0, hm1⟩ := HO.out.2 k hk
  by_cases hlt : k < o.length
  ·obtain ⟨g, capg, hfm, hgb, hgs⟩ := hO.form (by omega)
   rw [hv] at hfm
   obtain ⟨rfl, _⟩ : ar = some ⟨g, 0, none⟩ ∧ capr = capg := by cases hfm; exact ⟨rfl, rfl⟩
   clear hfm
   obtain ⟨b2, off2, rfl, _, _, hc20⟩ := Ints.at hoi (o.length - 1 - k) (by omega)
   have hco := hg.cell HCO.out (by simp)
   have hc2 := hg.cell hc20 (by simp)
   have ho7 := HO.out.1 (o.length - 1 - k) (by omega)
   have hc := hO.cell (o.length - 1 - k) (by omega)
   have hf := hO.frozen (o.length - 1 - k)
   have hsucc : elTo o o.length m (k + 1) = ((elTo o o.length m k).1.set (o.length - 1 - k) ((elTo o o.length m k).2 % gt o (o.length - 1 - k)), (elTo o o.length m k).2 / gt o (o.length - 1 - k)) := rfl
   have HSC := Lib.hid hsucc; clear hsucc
   obtain ⟨hO2, hg2⟩ := hO.store (o.length - 1 - k) ((elTo o o.length m k).2 % gt o (o.length - 1 - k))
   have hgx : Ext w0 (wr.setCell ⟨g, o.length - 1 - k, none⟩ (.int .i64 ((elTo o o.length m k).2 % gt o (o.length - 1 - k)))) := grown_own hg hg2 (fun j hj hlt => by cases hj; omega)
   have hco3 := hgx.cell HCO.out (by simp)
   have hc23 := hgx.cell hc20 (by simp)
   clear hc20 hv
   have hidx : ((o.length : Int) - 1 - k).toNat = o.length - 1 - k := by omega
   generalize hi : o.length - 1 - k = i at *
   generalize (elTo o o.length m k).1 = L at *
   generalize (elTo o o.length m k).2 = M at *
   have ho70 : 2 ≤ gt o i := ho7.1
   have ho71 : gt o i ≤ 7 := ho7.2
   have HI := Lib.hid hi; clear hi ho7
   go_wp2
   go_roundw
   case rel => exact ⟨k + 1, by congr 1; omega, by rw [HSC.out], by omega, hgx, by rw [HSC.out]; exact hO2⟩
   case measure => simp [intOf]; omega
  ·have hke : k = o.length := by omega
   subst hke
   clear hv
   go_wp2
   go_ret
   exact ⟨_, rfl, grown_trans hg0 hg, hO.weak (by have := HS.out; omega)⟩
set_option maxRecDepth 100000 in
set_option maxHeartbeats 2000000 in
theorem l12Orders_ok (P : Pr) (hP : Valid P) (w : World) (pv uv : Value) (U : List (List Int)) (Sp Su : Nat → Prop) (hpv : PresV Sp w pv P) (hu : Rows2 Su w uv U) (hU : SeqOk P U) (hl : U.length ≤ 100) :
  Calls Tryz.prog 214 #[pv, uv] w (Ret w fun w' v => Own w.heap.size w' v (ordsU P U)) := by
 have hn6 := hP.n6
 obtain ⟨vo, vp, vc, rfl, h3⟩ := hpv
 have hp0 := PresP.box h3 31
 have hg0 : Ext w (w.alloc (.cells #[vo, vp, vc] 31)) := World.grownBy_alloc _ _ _
 have hu0 := Rows2.ext hu hg0
 obtain ⟨ao, capo, hco, hoi⟩ := hp0.ordAt
 obtain ⟨au, capu, rfl, _, _⟩ := Sl.shape hu
 have hs0 : (w.alloc (.cells #[vo, vp, vc] 31)).heap.size = w.heap.size + 1 := by simp
 have hol := ordsU_len P U
 have HU := Lib.hid (And.intro hU hol); clear hU hol hp0 hu
 go_enter Tryz.func214, Tryz.ntmps214
 go_wp2
 have HS := Lib.hid hs0; clear hs0
 generalize hw0 : w.alloc (.cells #[vo, vp, vc] 31) = w0 at *
 clear hw0
 go_loopw [5, 6] (fun ov iv wr => ∃ (i : Nat) (v4 : Value), v4 = ov ∧ iv = .int .i64 i ∧ i ≤ U.length ∧ Ext w0 wr ∧ Own w0.heap.size wr v4 ((ordsU P U).take i)) (fun _ iv _ => U.length - (intOf iv).toNat)
 case atStart => exact ⟨0, _, rfl, rfl, by omega, World.grownBy_alloc _ _ _, by rw [← HS.out]; exact World.ownsRow_lit w0 #[] 0 (Nat.le_refl _) (by decide) rfl⟩
 case round =>
  obtain ⟨i, v4, rfl, rfl, hi, hg, hO⟩ := hrel
  by_cases hlt : i < U.length
  ·have hlt' : (i : Int) < U.length := by omega
   obtain ⟨b, off, a2, cap2, rfl, _, _, hc, hr⟩ := Rows2.at hu0 i hlt
   have hst : (ordsU P U).take (i + 1) = (ordsU P U).take i ++ [gt P.orders (dep (gt U i))] := by rw [take_succ_gt _ i (by rw [HU.out.2]; exact hlt), ordsU_at P U i hlt]
   obtain ⟨z, hz⟩ : ∃ z, z = gt U i := ⟨_, rfl⟩
   rw [← hz] at hc hr hst
   obtain ⟨d, hd⟩ : ∃ d, d = dep z := ⟨_, rfl⟩
   rw [← hd] at hst
   have hdn : d < P.orders.length := by rw [hd, hz]; exact (HU.out.1.1 _ (gtMem hlt)).2.1
   have htl : ((ordsU P U).take i).length ≤ 1000000 := by rw [List.length_take]; omega
   have HD := Lib.hid (And.intro hd (And.intro hz htl)); clear hd hz htl
   have hdn' : (d : Int) < P.orders.length := by omega
   obtain ⟨bo, oo, rfl, _, _, hcd⟩ := Ints.at hoi d hdn
   have HST := Lib.hid hst; clear hst
   have e1 : ∀ w', Ext w0 w' → w'.cell? ⟨w.heap.size, 0, none⟩ = some (.slice (some ⟨bo, oo, none⟩) P.orders.length capo) := fun w' h => h.cell hco (by simp)
   have e2 : ∀ w', Ext w0 w' → w'.cell? ⟨b, off + i, none⟩ = some (.slice a2 z.length cap2) := fun w' h => h.cell hc (by simp)
   have e3 : ∀ w', Ext w0 w' → w'.cell? ⟨bo, oo + d, none⟩ = some (.int .i64 (gt P.orders d)) := fun w' h => h.cell hcd (by simp)
   clear hc hcd
   go_wp2
   go_region_held3 (fun w' => Ext w0 w') (first | exact grown_trans hg (grown_drew _ _) | assumption | exact grown_trans hgE (World.grownBy_alloc _ _ _))
    (first
     | (go_at_call 111; refine Calls.mono (Calls.rel2 (w0 := w0) (by assumption) (l12Depth_ok _ z _ Any (Ints.sub (Ints.ext hr (by assumption)) (fun _ _ _ => trivial)))) ?_; rintro eE wE ⟨vE, rfl, hgE, hgE2, hsE, hvE⟩; rw [← HD.out.1] at hvE; subst hvE)
     | (refine step_app_int rfl _ _ rfl w0.heap.size _ ((ordsU P U).take i) (gt P.orders d) rfl wE (hO.ext0 (grown_trans (grown_drew _ _) hgE2)) rfl rfl HD.out.2.2 hgE.size ?_; intro v5 w5 hO5 hg5; have hgw5 : Ext w0 w5 := grown_own hgE hg5 (fun j hj hlt => by have := (hO.lt j hj).1; omega)))
   clear e1 e2 e3
   rw [← HST.out] at hO5
   go_wp2
   go_roundw
   case rel => exact ⟨i + 1, v5, rfl, by go_num, by omega, hgw5, hO5⟩
   case measure => simp [intOf]; omega
  ·have hie : i = U.length := by omega
   subst hie
   rw [List.take_of_length_le (by rw [HU.out.2]; exact Nat.le_refl _)] at hO
   obtain ⟨az, capz, hvz, _, _⟩ := (hO.ints (by rw [HU.out.2]; omega)).shape
   subst hvz
   go_wp2
   go_ret
   exact ⟨_, rfl, grown_trans hg0 hg, hO.weak (by have := HS.out; omega)⟩
end Go.Proofs.YtdklekdpdbjfiaaGreat

/- The reference's list of the elements of a subgroup: spec.l12Product, l12Elements. -/
namespace Go.Proofs.YtdklekdpdbjfiaaGreat
open Go.RowKit
set_option maxRecDepth 100000 in
set_option maxHeartbeats 2000000 in
theorem l12Product_ok (P : Pr) (G : Grp P) (w : World) (pv uv av : Value) (U : List (List Int)) (A : List Int) (Sp Su Sa : Nat → Prop) (hpv : PresV Sp w pv P) (hu : Rows2 Su w uv U) (ha : Ints Sa w av A) (hU : ∀ z ∈ U, Vec P.orders z) (hl : U.length ≤ A.length)
  (hA : ∀ i, i < U.length → 0 ≤ gt A i ∧ gt A i ≤ 1000) :
  Calls Tryz.prog 215 #[pv, uv, av] w (Ret w fun w' v => Own w.heap.size w' v (prodR P U A U.length)) := by
 have hP := G.v
 have hn6 := hP.n6
 obtain ⟨vo, vp, vc, rfl, h3⟩ := hpv
 have hp0 := PresP.box h3 31
 have hg0 : Ext w (w.alloc (.cells #[vo, vp, vc] 31)) := World.grownBy_alloc _ _ _
 have hu0 := Rows2.ext hu hg0
 have ha0 := ha.ext hg0
 obtain ⟨au, capu, rfl, _, _⟩ := Sl.shape hu
 obtain ⟨aa, capa, rfl, _, _⟩ := ha.shape
 have hs0 : (w.alloc (.cells #[vo, vp, vc] 31)).heap.size = w.heap.size + 1 := by simp
 obtain ⟨vo6, vp6, vc6, _, _, hc0, hc1, hc2, h36⟩ := hp0.at
 simp only [Nat.zero_add] at hc1 hc2
 have HU := Lib.hid (And.intro hU hA); clear hU hA hp0 hu ha
 go_enter Tryz.func215, Tryz.ntmps215
 go_wp2_with fail
 have HS := Lib.hid hs0; clear hs0
 generalize hw0 : w.alloc (.cells #[vo, vp, vc] 31) = w0 at *
 clear hw0
 refine Calls.mono (l10One_ok P hP w0 _ Any ⟨_, _, _, rfl, h36⟩) ?_
 rintro e1 w1 ⟨r, rfl, hg1, ho1⟩
 go_wp2
 go_loopw [7, 8] (fun ov iv wr => ∃ i : Nat, iv = .int .i64 i ∧ i ≤ U.length ∧ Ext w0 wr ∧ Own w.heap.size wr ov (prodR P U A i)) (fun _ iv _ => U.length - (intOf iv).toNat)
 case atStart => exact ⟨0, rfl, by omega, hg1, ho1.weak (by have := HS.out; omega)⟩
 case round =>
  clear ho1
  obtain ⟨i, rfl, hi, hg, hO⟩ := hrel
  have hYV := G.prodR_vec HU.out.1 A i hi
  have hYl : (prodR P U A i).length = P.orders.length := hYV.1
  have hYi := hO.ints (by omega)
  obtain ⟨ay, capy, hvy, _, _⟩ := hYi.shape
  subst hvy
  by_cases hlt : i < U.length
  ·have hlt' : (i : Int) < U.length := by omega
   have hla : (i : Int) < A.length := by omega
   obtain ⟨bb, off, a2, cap2, rfl, _, _, hc, hr⟩ := Rows2.at (Rows2.ext hu0 hg) i hlt
   obtain ⟨ba, oa, rfl, _, _, hca⟩ := Ints.at (ha0.ext hg) i (by omega)
   have hzV := HU.out.1 _ (gtMem hlt)
   have hab := HU.out.2 i hlt
   have hst : prodR P U A (i + 1) = rMul P (prodR P U A i) (pwZ P (gt U i) (gt A i)) := rfl
   have hpV := G.pwZ_vec hzV (gt A i)
   have hpl : (pwZ P (gt U i) (gt A i)).length ≤ 6 := by rw [hpV.1]; omega
   have HB := Lib.hid (And.intro hzV (And.intro hpV (And.intro hpl (And.intro hYV (And.intro hab hst))))); clear hzV hpV hpl hYV hab hst hYl
   have e1 : ∀ w', Ext wr w' → w'.cell? ⟨w.heap.size, 0, none⟩ = some vo6 := fun w' h => (grown_trans hg h).cell hc0 (by simp)
   have e2 : ∀ w', Ext wr w' → w'.cell? ⟨w.heap.size, 1, none⟩ = some vp6 := fun w' h => (grown_trans hg h).cell hc1 (by simp)
   have e3 : ∀ w', Ext wr w' → w'.cell? ⟨w.heap.size, 2, none⟩ = some vc6 := fun w' h => (grown_trans hg h).cell hc2 (by simp)
   have e4 : ∀ w', Ext wr w' → w'.cell? ⟨bb, off + i, none⟩ = some (.slice a2 (gt U i).length cap2) := fun w' h => h.cell hc (by simp)
   have e5 : ∀ w', Ext wr w' → w'.cell? ⟨ba, oa + i, none⟩ = some (.int .i64 (gt A i)) := fun w' h => h.cell hca (by simp)
   clear hc hca
   go_wp2
   go_region_held3 (fun w' => Ext wr w') (first | exact grown_drew _ _ | assumption)
    (first
     | (go_at_call 113; refine Calls.mono (Calls.rel (w0 := wr) (by assumption) (l10Pow_ok P G _ _ _ (gt U i) _ Any Any ⟨_, _, _, rfl, Pres3.ext (Pres3.ext h36 hg) (by assumption)⟩ (Ints.sub (Ints.ext hr (by assumption)) (fun _ _ _ => trivial)) HB.out.1 (by have := HB.out.2.2.2.2.1; omega))) ?_; rintro eA wA ⟨vA, rfl, hgA, hsA, hOA⟩; have hOA2 := hOA.ints (by have := HB.out.2.2.1; omega))
     | (go_at_call 176; refine Calls.mono (Calls.rel (w0 := wr) (by assumption) (l08Mul_ok P hP _ _ _ _ (prodR P U A i) _ Any Any Any ⟨_, _, _, rfl, Pres3.ext (Pres3.ext h36 hg) (by assumption)⟩ (Ints.sub (Ints.ext hYi (by assumption)) (fun _ _ _ => trivial)) hOA2 HB.out.2.2.2.1 HB.out.2.1)) ?_; rintro eB wB ⟨vB, rfl, hgB, hsB, hOB⟩))
   clear e1 e2 e3 e4 e5
   rw [← HB.out.2.2.2.2.2] at hOB
   go_wp2
   go_roundw
   case rel => exact ⟨i + 1, by go_num, by omega, grown_trans hg hgB, hOB.weak (by have := hg.size; have := HS.out; omega)⟩
   case measure => simp [intOf]; omega
  ·have hie : i = U.length := by omega
   subst hie
   clear hYl
   go_wp2
   go_ret
   exact ⟨_, rfl, grown_trans hg0 hg, hO⟩
def markAt (N : Nat) (f : Nat → Nat) : Nat → List Bool
 | 0 => List.replicate N false
 | k + 1 => (markAt N f k).set (f k) true
theorem markAt_len (N : Nat) (f : Nat → Nat) (k : Nat) : (markAt N f k).length = N := by
 induction k with
 | zero => simp [markAt]
 | succ k ih => simp only [markAt, List.length_set]; exact ih
theorem markAt_true (N : Nat) (f : Nat → Nat) (k t : Nat) (ht : t < N) : gt (markAt N f k) t = true ↔ ∃ j, j < k ∧ f j = t := by
 induction k with
 | zero => simp [markAt, gt, ht]
 | succ k ih =>
  simp only [markAt]
  by_cases e : f k = t
  ·rw [e, gt_set_eq _ _ _ (by rw [markAt_len]; exact ht)]
   exact ⟨fun _ => ⟨k, by omega, e⟩, fun _ => rfl⟩
  ·rw [gt_set_ne _ _ _ _ e, ih]
   exact ⟨fun ⟨j, h1, h2⟩ => ⟨j, by omega, h2⟩, fun ⟨j, h1, h2⟩ => by
    rcases Nat.lt_succ_iff_lt_or_eq.1 h1 with h | h
    ·exact ⟨j, h, h2⟩
    ·subst h; exact absurd h2 e⟩
def prodN (P : Pr) (U : List (List Int)) (k : Nat) : List Int := prodR P U (elAt (shapeP (ordsU P U)) (k : Int)) U.length
theorem Grp.marks_elems {P : Pr} (G : Grp P) {H : List Int → Prop} (S : Sub P H) (t : Nat) (ht : t < (ordP P).toNat) :
  gt (markAt (ordP P).toNat (fun k => (num P (prodN P (cseq P H) k)).toNat) (prodU P (cseq P H) (cseq P H).length).toNat) t = true ↔ H (elAt P (t : Int)) := by
 have hV := fun z hz => S.vec z ((G.seq_facts S).2.1 z hz)
 have hpv : ∀ k, Vec P.orders (prodN P (cseq P H) k) := fun k => G.prodR_vec hV _ _ (Nat.le_refl _)
 rw [markAt_true _ _ _ _ ht, G.mem_prods S]
 constructor
 ·rintro ⟨j, hj, h⟩
  have hb := num_bd G.v (hpv j)
  refine ⟨(j : Int), by omega, by omega, ?_⟩
  have h2 : num P (prodN P (cseq P H) j) = (t : Int) := by omega
  rw [← h2, elAt_num G.v (hpv j)]; rfl
 ·rintro ⟨m, h1, h2, h3⟩
  refine ⟨m.toNat, by omega, ?_⟩
  have h4 : prodN P (cseq P H) m.toNat = elAt P (t : Int) := by
   unfold prodN
   rw [show ((m.toNat : Nat) : Int) = m by omega]
   exact h3.symm
  rw [h4, num_elAt G.v _ (by omega) (by omega)]; omega
noncomputable def elemsTo (P : Pr) (H : List Int → Prop) (k : Nat) : List (List Int) := by
 classical exact (List.range k).filterMap (fun t : Nat => if H (elAt P (t : Int)) then some (elAt P (t : Int)) else none)
theorem elemsTo_succ (P : Pr) (H : List Int → Prop) (k : Nat) : elemsTo P H (k + 1) = elemsTo P H k ++ (by classical exact if H (elAt P (k : Int)) then [elAt P (k : Int)] else []) := by
 unfold elemsTo
 rw [List.range_succ, List.filterMap_append]
 congr 1
 by_cases h : H (elAt P (k : Int)) <;> simp [h]
theorem elemsTo_all (P : Pr) (H : List Int → Prop) : elemsTo P H (ordP P).toNat = elemsIn P H := by
 unfold elemsTo elemsIn
 rfl
theorem elemsTo_len (P : Pr) (H : List Int → Prop) (k : Nat) : (elemsTo P H k).length ≤ k := by
 unfold elemsTo
 have := List.length_filterMap_le (fun t : Nat => by classical exact (if H (elAt P (t : Int)) then some (elAt P (t : Int)) else none)) (List.range k)
 rw [List.length_range] at this
 exact this
end Go.Proofs.YtdklekdpdbjfiaaGreat
