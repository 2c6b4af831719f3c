/-
  Plain: the shape of a presentation that is drawn; the trivial presentation.
  Drawing: spec.l07Trivial.
  Rows of bools of the call's own; a region that ends in a store.
  Drawing: a presentation under way in a variable, of which only the shape counts.
  A power or a conjugate is put into a presentation that may be written: what can be read behind it.
  Plain: a presentation's relations, held by members of a monoid, are kept by the reference's product and by the program's collection (von Dyck's law, without any consistency).
  Plain: the cyclic extension of a group by a root of an inner automorphism. No program is named here.
-/
import Derived.Test.YtmjkoejegfjbbaaGreatC2
import Derived.Test.YtmjkoejegfjbbaaGreatC3
import Derived.Deep.RegionLaw
import Derived.Deep.DrawnRows
namespace Go.Proofs.YtmjkoejegfjbbaaGreat
open Go.RowKit
structure Shp (N : Nat) (P : Pr) : Prop where
 n : P.orders.length ≤ N
 p : P.powers.length = P.orders.length
 c : P.conj.length = P.orders.length
 cl : ∀ i, i < P.orders.length → (gt P.conj i).length = P.orders.length - 1 - i
 pv : ∀ v ∈ P.powers, v.length ≤ N
 cv : ∀ r ∈ P.conj, ∀ v ∈ r, v.length ≤ N
def setP (P : Pr) (i : Nat) (v : List Int) : Pr := { P with powers := P.powers.set i v }
def setC (P : Pr) (i j : Nat) (v : List Int) : Pr := { P with conj := P.conj.set i ((gt P.conj i).set j v) }
theorem mem_set_or {α : Type} {l : List α} {i : Nat} {a b : α} (h : b ∈ l.set i a) : b = a ∨ b ∈ l := by
 rcases List.mem_or_eq_of_mem_set h with h | h
 ·exact .inr h
 ·exact .inl h
theorem Shp.setP {N : Nat} {P : Pr} (h : Shp N P) (i : Nat) {v : List Int} (hv : v.length ≤ N) : Shp N (setP P i v) :=
 ⟨h.n, by show (P.powers.set i v).length = _; rw [List.length_set]; exact h.p, h.c, h.cl, fun x hx => by
  rcases mem_set_or hx with e | e
  ·rw [e]; exact hv
  ·exact h.pv x e, h.cv⟩
theorem Shp.setC {N : Nat} {P : Pr} (h : Shp N P) (i j : Nat) (hi : i < P.orders.length) {v : List Int} (hv : v.length ≤ N) : Shp N (setC P i j v) := by
 have hic : i < P.conj.length := by rw [h.c]; exact hi
 refine ⟨h.n, h.p, by show (P.conj.set i _).length = _; rw [List.length_set]; exact h.c, fun k hk => ?_, h.pv, fun r hr x hx => ?_⟩
 ·show (gt (P.conj.set i _) k).length = _
  by_cases e : i = k
  ·subst e
   rw [gt_set_eq _ _ _ hic, List.length_set]; exact h.cl i hi
  ·rw [gt_set_ne _ _ _ _ e]; exact h.cl k hk
 ·rcases mem_set_or hr with e | e
  ·rw [e] at hx
   rcases mem_set_or hx with e2 | e2
   ·rw [e2]; exact hv
   ·exact h.cv _ (by rw [gt_eq _ i hic]; exact List.getElem_mem hic) x e2
  ·exact h.cv r e x hx
theorem Shp.mono {N M : Nat} {P : Pr} (h : Shp N P) (hm : N ≤ M) : Shp M P := ⟨Nat.le_trans h.n hm, h.p, h.c, h.cl, fun v hv => Nat.le_trans (h.pv v hv) hm, fun r hr v hv => Nat.le_trans (h.cv r hr v hv) hm⟩
def trivC (n i : Nat) : List (List Int) := (List.range (n - 1 - i)).map (fun k => unitV n (i + 1 + k))
def trivP (o : List Int) : Pr := ⟨o, List.replicate o.length (zeros o.length), (List.range o.length).map (trivC o.length)⟩
theorem trivC_len (n i : Nat) : (trivC n i).length = n - 1 - i := by unfold trivC; simp
theorem unitV_len (n k : Nat) : (unitV n k).length = n := by unfold unitV; simp
theorem zeros_len (n : Nat) : (zeros n).length = n := by unfold zeros; simp
theorem trivP_shp (o : List Int) {N : Nat} (h : o.length ≤ N) : Shp N (trivP o) := by
 refine ⟨h, by simp [trivP], by simp [trivP], fun i hi => ?_, fun v hv => ?_, fun r hr v hv => ?_⟩
 ·have hi' : i < o.length := hi
  show (gt ((List.range o.length).map (trivC o.length)) i).length = o.length - 1 - i
  rw [gt_map _ _ _ (by simpa using hi'), gt_eq _ _ (by simpa using hi'), List.getElem_range, trivC_len]
 ·have := List.eq_of_mem_replicate hv
  rw [this, zeros_len]; exact h
 ·obtain ⟨i, _, rfl⟩ := List.mem_map.1 hr
  obtain ⟨k, _, rfl⟩ := List.mem_map.1 hv
  rw [unitV_len]; exact h
end Go.Proofs.YtmjkoejegfjbbaaGreat
namespace Go.Proofs.YtmjkoejegfjbbaaGreat
open Go.RowKit
attribute [local go_sem ↓] Go.wp_at_zero Go.wp_at_succ
def PresR (B : Nat) (P : Pr) (w' : World) (v : Value) : Prop := ∃ vo vp vc, v = .agg #[vo, vp, vc] ∧ PresX (From B) w' vo vp vc P
structure Part3 (F : Nat → Prop) (w : World) (vo vp vc : Value) (P : Pr) (Fo Fp Fc : Nat → Prop) : Prop where
 o : OwnIn Fo w vo P.orders
 p : RowsI Fp w vp P.powers
 c : Rows3I Fc w vc P.conj
 do_ : ∀ k, Fo k → F k ∧ ¬ Fp k ∧ ¬ Fc k
 dp : ∀ k, Fp k → F k ∧ ¬ Fc k
 dc : ∀ k, Fc k → F k
theorem PresX.part {F : Nat → Prop} {w : World} {vo vp vc : Value} {P : Pr} (h : PresX F w vo vp vc P) : ∃ Fo Fp Fc, Part3 F w vo vp vc P Fo Fp Fc := by
 obtain ⟨Fo, Fp, Fc, h1, h2, h3, h4, h5, h6⟩ := h
 exact ⟨Fo, Fp, Fc, h1, h2, h3, h4, h5, h6⟩
theorem SlI.sl {α : Type} [Inhabited α] {El : (Nat → Prop) → World → Value → α → Prop} {E : Nat} {F : Nat → Prop} {w : World} {v : Value} {xs : List α} (h : SlI El E F w v xs) : ∃ a n c, v = .slice a n c ∧ n = xs.length := by
 rcases h.form with ⟨rfl, rfl⟩ | ⟨g, cap, rfl, _⟩
 ·exact ⟨_, _, _, rfl, rfl⟩
 ·exact ⟨_, _, _, rfl, rfl⟩
theorem PresX.sh2 {F : Nat → Prop} {w : World} {vo vp vc : Value} {P : Pr} (h : PresX F w vo vp vc P) : ∃ a2 n2 c2 a3 n3 c3, vp = .slice a2 n2 c2 ∧ vc = .slice a3 n3 c3 ∧ n2 = P.powers.length ∧ n3 = P.conj.length := by
 obtain ⟨_, _, a2, c2, a3, c3, _, h2, h3⟩ := h.shape
 exact ⟨a2, _, c2, a3, _, c3, h2, h3, rfl, rfl⟩
theorem Part3.newP {F : Nat → Prop} {w w' : World} {vo vp vc v' : Value} {P : Pr} {Fo Fp Fc : Nat → Prop} (h : Part3 F w vo vp vc P Fo Fp Fc) {L : List (List Int)} (hR : RowsI (fun k => Fp k ∨ w.heap.size ≤ k) w' v' L) (hT : w.grownBy w' vp.ownBlock) :
  PresX (fun k => F k ∨ w.heap.size ≤ k) w' vo v' vc { P with powers := L } := by
 have hv : ∀ k, vp.ownBlock = some k → Fp k := by
  obtain ⟨_, _, _, _, _, h1, _⟩ := h.p
  exact h1
 refine ⟨fun k => Fo k ∧ k < w.heap.size, fun k => Fp k ∧ k < w.heap.size ∨ w.heap.size ≤ k, fun k => Fc k ∧ k < w.heap.size,
  rdOwn.mono h.o (fun k hk hlt => ⟨⟨hk, hlt⟩, Nat.lt_of_lt_of_le hlt hT.size, hT.block k hlt (fun e => (h.do_ k hk).2.1 (hv k e.symm))⟩),
  rdRowsI.mono hR (fun k hk hlt => ⟨?_, hlt, rfl⟩),
  rdRows3I.mono h.c (fun k hk hlt => ⟨⟨hk, hlt⟩, Nat.lt_of_lt_of_le hlt hT.size, hT.block k hlt (fun e => (h.dp k (hv k e.symm)).2 hk)⟩),
  fun k hk => ⟨.inl (h.do_ k hk.1).1, fun e => ?_, fun e => (h.do_ k hk.1).2.2 e.1⟩, fun k hk => ⟨?_, fun e => ?_⟩, fun k hk => .inl (h.dc k hk.1)⟩
 ·rcases hk with hk | hk
  ·rcases Nat.lt_or_ge k w.heap.size with h | h
   ·exact .inl ⟨hk, h⟩
   ·exact .inr h
  ·exact .inr hk
 ·rcases e with e | e
  ·exact (h.do_ k hk.1).2.1 e.1
  ·omega
 ·rcases hk with hk | hk
  ·exact .inl (h.dp k hk.1).1
  ·exact .inr hk
 ·rcases hk with hk | hk
  ·exact (h.dp k hk.1).2 e.1
  ·omega
theorem Part3.newC {F : Nat → Prop} {w w' : World} {vo vp vc v' : Value} {P : Pr} {Fo Fp Fc : Nat → Prop} (h : Part3 F w vo vp vc P Fo Fp Fc) {L : List (List (List Int))} (hR : Rows3I (fun k => Fc k ∨ w.heap.size ≤ k) w' v' L) (hT : w.grownBy w' vc.ownBlock) :
  PresX (fun k => F k ∨ w.heap.size ≤ k) w' vo vp v' { P with conj := L } := by
 have hv : ∀ k, vc.ownBlock = some k → Fc k := by
  obtain ⟨_, _, _, _, _, h1, _⟩ := h.c
  exact h1
 refine ⟨fun k => Fo k ∧ k < w.heap.size, fun k => Fp k ∧ k < w.heap.size, fun k => Fc k ∧ k < w.heap.size ∨ w.heap.size ≤ k,
  rdOwn.mono h.o (fun k hk hlt => ⟨⟨hk, hlt⟩, Nat.lt_of_lt_of_le hlt hT.size, hT.block k hlt (fun e => (h.do_ k hk).2.2 (hv k e.symm))⟩),
  rdRowsI.mono h.p (fun k hk hlt => ⟨⟨hk, hlt⟩, Nat.lt_of_lt_of_le hlt hT.size, hT.block k hlt (fun e => (h.dp k hk).2 (hv k e.symm))⟩),
  rdRows3I.mono hR (fun k hk hlt => ⟨?_, hlt, rfl⟩),
  fun k hk => ⟨.inl (h.do_ k hk.1).1, fun e => (h.do_ k hk.1).2.1 e.1, fun e => ?_⟩, fun k hk => ⟨.inl (h.dp k hk.1).1, fun e => ?_⟩, fun k hk => ?_⟩
 ·rcases hk with hk | hk
  ·rcases Nat.lt_or_ge k w.heap.size with h | h
   ·exact .inl ⟨hk, h⟩
   ·exact .inr h
  ·exact .inr hk
 ·rcases e with e | e
  ·exact (h.do_ k hk.1).2.2 e.1
  ·omega
 ·rcases e with e | e
  ·exact (h.dp k hk.1).2 e.1
  ·omega
 ·rcases hk with hk | hk
  ·exact .inl (h.dc k hk.1)
  ·exact .inr hk
theorem presX_start {w : World} {vo : Value} {o : List Int} {B : Nat} (h : Own B w vo o) (hl : o.length ≤ 1000) : PresX (From B) w vo (.slice none 0 0) (.slice none 0 0) ⟨o, [], []⟩ :=
 ⟨fun k => vo.ownBlock = some k, fun _ => False, fun _ => False, ⟨h.weak (Nat.zero_le _), fun _ hk => hk, by show o.length ≤ _; omega⟩,
  ⟨[], fun _ _ => False, rfl, by simp, World.ownsRow_nil _ _ _ _, by simp [Value.ownBlock], by simp, by simp, by simp⟩, ⟨[], fun _ _ => False, rfl, by simp, World.ownsRow_nil _ _ _ _, by simp [Value.ownBlock], by simp, by simp, by simp⟩,
  fun k hk => ⟨(h.lt k hk).1, fun h => h, fun h => h⟩, fun _ h => h.elim, fun _ h => h.elim⟩
set_option maxRecDepth 100000 in
set_option maxHeartbeats 2000000 in
theorem l07Trivial_ok (w : World) (ov : Value) (o : List Int) (S : Nat → Prop) (ho : Ints S w ov o) (hl : o.length ≤ 100) :
  Calls Tryz.prog 334 #[ov] w (Ret w (PresR w.heap.size (trivP o))) := by
 obtain ⟨ao, capo, rfl, _, _⟩ := ho.shape
 have hg0 : Ext w (w.alloc (.cells #[.slice none 0 0, .slice none 0 0, .slice none 0 0] 39)) := World.grownBy_alloc _ _ _
 have hR0 := Box3.made w 39 (.slice none 0 0) (.slice none 0 0) (.slice none 0 0)
 have hcon := l01Own_ok (w.alloc (.cells #[.slice none 0 0, .slice none 0 0, .slice none 0 0] 39)) _ o S (ho.ext hg0) (by omega)
 have HR0 := Lib.hid hR0; clear hR0
 go_enter Tryz.func334, Tryz.ntmps334
 go_wp2_with fail
 have hs0 : (w.alloc (.cells #[.slice none 0 0, .slice none 0 0, .slice none 0 0] 39)).heap.size = w.heap.size + 1 := by simp
 rw [hs0] at hcon
 generalize w.alloc (.cells #[.slice none 0 0, .slice none 0 0, .slice none 0 0] 39) = w0 at *
 refine Calls.mono hcon ?_
 rintro e1 w1 ⟨v1, rfl, hg1, hO1⟩
 clear hcon
 obtain ⟨a1, c1, hv1, _⟩ := (hO1.ints (by omega)).shape
 subst hv1
 go_wp2_with fail
 have hB2 := Box3.made w1 39 (.slice a1 o.length c1) (.slice none 0 0) (.slice none 0 0)
 have hg2 : Ext w1 (w1.alloc (.cells #[.slice a1 o.length c1, .slice none 0 0, .slice none 0 0] 39)) := World.grownBy_alloc _ _ _
 have hX2 : PresX (fun k => w.heap.size + 1 ≤ k ∧ k ≠ w1.heap.size) (w1.alloc (.cells #[.slice a1 o.length c1, .slice none 0 0, .slice none 0 0] 39)) (.slice a1 o.length c1) (.slice none 0 0) (.slice none 0 0) ⟨o, [], []⟩ :=
  (presX_start hO1 (by omega)).mono (fun k hk hlt => ⟨⟨hk, by omega⟩, Nat.lt_of_lt_of_le hlt hg2.size, hg2.block k hlt (by simp)⟩)
 have hs1 := hg1.size
 have HH := Lib.hid (And.intro hs0 hs1); clear hs0 hs1 hO1
 generalize w1.alloc (.cells #[.slice a1 o.length c1, .slice none 0 0, .slice none 0 0] 39) = w2 at *
 go_loopw [5] (fun iv wr => ∃ (i : Nat) (vp vc : Value), iv = .int .i64 i ∧ i ≤ o.length ∧ Ext w0 wr ∧ Box3 wr w1.heap.size (.slice a1 o.length c1) vp vc ∧
  PresX (fun k => w.heap.size + 1 ≤ k ∧ k ≠ w1.heap.size) wr (.slice a1 o.length c1) vp vc ⟨o, List.replicate i (zeros o.length), (List.range i).map (trivC o.length)⟩) (fun iv _ => o.length - (intOf iv).toNat)
 case atStart => exact ⟨0, _, _, rfl, by omega, grown_trans hg1 hg2, hB2, hX2⟩
 case round =>
  clear hB2 hX2
  obtain ⟨i, vp, vc, rfl, hi, hg, hB, hX⟩ := hrel
  by_cases hlt : i < o.length
  ·have hlt' : (i : Int) < o.length := by omega
   obtain ⟨Fo, Fp, Fc, hP⟩ := hX.part
   obtain ⟨a2, n2, c2, a3, n3, c3, rfl, rfl, hn2, hn3⟩ := hX.sh2
   have hnb : (Value.slice a2 n2 c2).ownBlock ≠ some w1.heap.size := by
    obtain ⟨_, _, _, _, _, q1, _⟩ := hP.p
    exact fun e => (hP.dp _ (q1 _ e)).1.2 rfl
   have HN := Lib.hid (And.intro hn2 (And.intro hnb hn3)); clear hn2 hn3 hnb
   obtain ⟨h0, h1, h2, h3, h4⟩ := id hB
   have hmk := run_mk_ints o.length (by omega)
   have hgM : Ext wr (wr.alloc (.cells (madeCells #[.int .i64 0] o.length) 2)).drew := grown_trans (World.grownBy_alloc _ _ _) (grown_drew _ _)
   have hOM : OwnIn (From wr.heap.size) (wr.alloc (.cells (madeCells #[.int .i64 0] o.length) 2)).drew (.slice (some ⟨wr.heap.size, 0, none⟩) o.length o.length) (zeros o.length) := by
    have := (own_mk_ints o.length (by omega) wr).ext0 (grown_drew _ none)
    exact OwnIn.of this (by rw [zeros_len]; omega) (fun k hk _ => hk)
   have hpl : (List.replicate i (zeros o.length)).length ≤ 1000000 := by simp; omega
   have hxs : (Value.slice (some ⟨wr.heap.size + 1, 0, none⟩) 1 1) = .slice (some ⟨(wr.alloc (.cells (madeCells #[.int .i64 0] o.length) 2)).drew.heap.size, 0, none⟩) 1 1 := by simp
   have HM := Lib.hid (And.intro hgM (And.intro hOM (And.intro hpl hxs))); clear hgM hOM hpl hxs
   go_wp2_with fail
   go_region_law (refine step_app_I rdOwn 32 (.slice none 0 0) 24 und_rows Tryz.infoRow rfl (by decide) (by rfl) _ _ (by rfl) Fp wr (wr.alloc (.cells (madeCells #[.int .i64 0] o.length) 2)).drew _ _ (List.replicate i (zeros o.length)) (zeros o.length) (by rfl) hP.p HM.out.1 HM.out.2.1 (by rfl) (by exact HM.out.2.2.2) HM.out.2.2.1 ?_; intro v5 w5 hO5 hg5 hg6; obtain ⟨g5, m5, k5, rfl, hm5⟩ := SlI.sl hO5; have hm6 : m5 = i + 1 := (by rw [hm5]; simp); clear hm5; subst hm6; have hB5 := Box3.keep hB hg5.size (hg5.block _ hB.1 (fun e => HN.out.2.1 e.symm)); obtain ⟨f0, f1, f2, f3, f4⟩ := id hB5)
   all_goals
    have hB6 := (hB5.put (.slice g5 (i + 1) k5)).2.1
    have hT6 := grown_set w5 w1.heap.size 1 (.slice g5 (i + 1) k5)
    have hX6 : PresX (fun k => w.heap.size + 1 ≤ k ∧ k ≠ w1.heap.size) (w5.setCell ⟨w1.heap.size, 1, none⟩ (.slice g5 (i + 1) k5)) (.slice a1 o.length c1) (.slice g5 (i + 1) k5) (.slice a3 n3 c3) ⟨o, List.replicate (i + 1) (zeros o.length), (List.range i).map (trivC o.length)⟩ := by
     have hX5 := hP.newP hO5 hg5
     rw [show List.replicate (i + 1) (zeros o.length) = List.replicate i (zeros o.length) ++ [zeros o.length] from List.replicate_succ']
     exact hX5.mono (frame_of hT6 (fun k hk hlt => by
      have hk' : (w.heap.size + 1 ≤ k ∧ k ≠ w1.heap.size) ∨ wr.heap.size ≤ k := hk
      refine ⟨?_, fun e => ?_⟩
      ·have := HH.out; have := hB.1
       omega
      ·cases e; have := hB.1; omega))
    have hg06 : Ext w0 (w5.setCell ⟨w1.heap.size, 1, none⟩ (.slice g5 (i + 1) k5)) := grown_own (grown_own hg hg5 (fun j hj hlt => by
     obtain ⟨_, _, _, _, _, q1, _⟩ := hP.p
     have := (hP.dp _ (q1 _ hj)).1; have := HH.out; omega)) hT6 (fun j hj hlt => by cases hj; have := HH.out; omega)
    have hsz6 : w5.heap.size = (w5.setCell ⟨w1.heap.size, 1, none⟩ (.slice g5 (i + 1) k5)).heap.size := by simp
    have HZ6 := Lib.hid hsz6; clear hsz6
    have HM6 := Lib.hid (And.intro hB6 (And.intro hX6 hg06)); clear hB6 hX6 hg06 hT6 hB5 hO5 hg5 hg6 hP hX hB hg h0 h1 h2 h3 h4 HM HN hmk
    go_wp2
    clear f0 f1 f2 f3 f4
    generalize w5.setCell ⟨w1.heap.size, 1, none⟩ (.slice g5 (i + 1) k5) = w6 at *
    rw [HZ6.out]
    clear HZ6
    have hg7 : Ext w6 (w6.alloc (.cells #[] 36)) := World.grownBy_alloc _ _ _
    have hO7 : RowsO w6.heap.size (w6.alloc (.cells #[] 36)) (.slice (some ⟨w6.heap.size, 0, none⟩) 0 0) ((trivC o.length i).take 0) := ⟨[], fun _ _ => False, rfl, World.ownsRow_lit w6 #[] 0 (Nat.le_refl _) (by decide) rfl, by simp, by simp, by simp⟩
    have hcl := trivC_len o.length i
    have HC := Lib.hid hcl; clear hcl
    go_loopw [6, 7] (fun rv jv wr => ∃ (j : Nat) (v4 : Value), v4 = rv ∧ jv = .int .i64 ((i + 1 + j : Nat) : Int) ∧ i + 1 + j ≤ o.length ∧ Ext w6 wr ∧ RowsO w6.heap.size wr v4 ((trivC o.length i).take j)) (fun _ jv _ => o.length - (intOf jv).toNat)
    case atStart => exact ⟨0, _, rfl, by go_num, by omega, hg7, hO7⟩
    case round =>
     clear hO7 hg7
     obtain ⟨j, v4, rfl, rfl, hj, hgj, hO⟩ := hrel
     by_cases hltj : i + 1 + j < o.length
     ·have hltj' : ((i + 1 + j : Nat) : Int) < o.length := by omega
      have hstep : (trivC o.length i).take (j + 1) = (trivC o.length i).take j ++ [unitV o.length (i + 1 + j)] := by
       rw [take_succ_gt _ j (by rw [HC.out]; omega)]
       unfold trivC
       rw [gt_map _ _ _ (by simp; omega), gt_eq _ _ (by simp; omega), List.getElem_range]
      have htl : ((trivC o.length i).take j).length ≤ 1000000 := by rw [List.length_take]; omega
      have HS := Lib.hid (And.intro hstep htl); clear hstep htl
      go_wp2_with fail
      refine Calls.mono (l07Unit_ok o.length (i + 1 + j) wr hltj (by omega)) ?_
      rintro eC wC ⟨vC, rfl, hgC, hOC⟩
      have hYO : OwnIn (From wr.heap.size) wC vC (unitV o.length (i + 1 + j)) := OwnIn.of hOC (by rw [unitV_len]; omega) (fun j h1 _ => h1)
      obtain ⟨ay, capy, hvy, _, _⟩ := hYO.ints.shape
      subst hvy
      go_wp2_with (first | (at_builtin; refine wp_app_row rfl _ _ rfl w6.heap.size wr wC v4 _ ((trivC o.length i).take j) (unitV o.length (i + 1 + j)) rfl hO hgC hYO rfl rfl HS.out.2 hgj.size ?_; intro v5 w5 hO5 hg5 hg6; have hgw5 := hO.extw hgj (Nat.le_refl _) hg5) | fail)
      go_roundw
      case rel => exact ⟨j + 1, v5, rfl, by go_num, by omega, hgw5, by rw [HS.out.1]; exact hO5⟩
      case measure => simp [intOf]; omega
     ·have hje : j = o.length - 1 - i := by omega
      subst hje
      rw [List.take_of_length_le (by rw [HC.out]; exact Nat.le_refl _)] at hO
      have hRI : RowsI (From w6.heap.size) wr v4 (trivC o.length i) := SlI.of hO (by rw [HC.out]; omega) (fun k h _ => h)
      have hB7 := HM6.out.1.ext hgj
      obtain ⟨Fo, Fp, Fc, hP⟩ := HM6.out.2.1.part
      have hcl3 : ((List.range i).map (trivC o.length)).length ≤ 1000000 := by simp; omega
      obtain ⟨a4, n4, c4, rfl, hn4⟩ := SlI.sl hRI
      have hnb : (Value.slice a3 n3 c3).ownBlock ≠ some w1.heap.size := by
       obtain ⟨_, _, _, _, _, q1, _⟩ := hP.c
       exact fun e => (hP.dc _ (q1 _ e)).2 rfl
      have HR := Lib.hid (And.intro hcl3 (And.intro hn4 hnb)); clear hcl3 hn4 hO hnb
      obtain ⟨f0, f1, f2, f3, f4⟩ := id hB7
      go_wp2_with (first | (at_builtin; refine wp_app_I (rdI rdOwn) 37 (.slice none 0 0) 24 und_rows3 Tryz.infoRows rfl (by decide) rfl _ _ rfl Fc w6 wr _ _ ((List.range i).map (trivC o.length)) (trivC o.length i) rfl hP.c hgj hRI rfl rfl HR.out.1 ?_; intro v8 w8 hO8 hg8 hg9; obtain ⟨g8, m8, k8, rfl, hm8⟩ := SlI.sl hO8; clear hm8; have hB8 := Box3.keep hB7 hg9.size (hg9.block _ hB7.1 (fun e => HR.out.2.2 e.symm)); clear f0 f1 f2 f3 f4; obtain ⟨f0, f1, f2, f3, f4⟩ := id hB8) | fail)
      have hB9 := (hB8.put (.slice g8 m8 k8)).2.2
      have hT9 := grown_set w8 w1.heap.size 2 (.slice g8 m8 k8)
      have hX9 : PresX (fun k => w.heap.size + 1 ≤ k ∧ k ≠ w1.heap.size) (w8.setCell ⟨w1.heap.size, 2, none⟩ (.slice g8 m8 k8)) (.slice a1 o.length c1) (.slice g5 (i + 1) k5) (.slice g8 m8 k8) ⟨o, List.replicate (i + 1) (zeros o.length), (List.range (i + 1)).map (trivC o.length)⟩ := by
       have hX8 := hP.newC hO8 hg8
       rw [show (List.range (i + 1)).map (trivC o.length) = (List.range i).map (trivC o.length) ++ [trivC o.length i] by rw [List.range_succ, List.map_append]; rfl]
       exact hX8.mono (frame_of hT9 (fun k hk hlt => by
        have hk' : (w.heap.size + 1 ≤ k ∧ k ≠ w1.heap.size) ∨ w6.heap.size ≤ k := hk
        have h1 := HM6.out.1.1
        refine ⟨?_, fun e => ?_⟩
        ·have := HH.out
         omega
        ·cases e; omega))
      have hg09 : Ext w0 (w8.setCell ⟨w1.heap.size, 2, none⟩ (.slice g8 m8 k8)) := grown_own (grown_own HM6.out.2.2 hg8 (fun j hj hlt => by
       obtain ⟨_, _, _, _, _, q1, _⟩ := hP.c
       have := hP.dc _ (q1 _ hj); have := HH.out; omega)) hT9 (fun j hj hlt => by cases hj; have := HH.out; omega)
      clear f0 f1 f2 f3 f4
      go_roundw
      case rel => exact ⟨i + 1, _, _, by go_num, by omega, hg09, hB9, hX9⟩
      case measure => simp [intOf]; omega
    done
  ·have hie : i = o.length := by omega
   subst hie
   have hz := HR0.out.ext hg
   obtain ⟨a2, n2, c2, a3, n3, c3, rfl, rfl, hn2, hn3⟩ := hX.sh2
   clear hn2 hn3
   obtain ⟨h0, h1, h2, h3, h4⟩ := id hB
   obtain ⟨k0, k1, k2, k3, k4⟩ := id hz
   have hZ := hz.all (.slice a1 o.length c1) (.slice a2 n2 c2) (.slice a3 n3 c3)
   have hT := grown_set3 wr w.heap.size (.slice a1 o.length c1) (.slice a2 n2 c2) (.slice a3 n3 c3)
   obtain ⟨_, z0, z1, z2, _⟩ := id hZ
   have HT := Lib.hid hT; clear hT hZ
   go_wp2
   refine bodyPost_ret (v := .agg #[.slice a1 o.length c1, .slice a2 n2 c2, .slice a3 n3 c3]) (by simp [results, Tryz.results334, go_sem, z0, z1, z2]) rfl ?_
   exact ⟨_, rfl, grown_own (grown_trans hg0 hg) HT.out (fun j hj hlt => by cases hj; omega), _, _, _, rfl, hX.mono (frame_of HT.out (fun k hk _ => ⟨by show w.heap.size ≤ k; omega, fun e => by cases e; omega⟩))⟩
end Go.Proofs.YtmjkoejegfjbbaaGreat
namespace Go.Proofs.YtmjkoejegfjbbaaGreat
open Go.RowKit
/-! ### a row of bools of the call's own -/
abbrev BOwn (base : Nat) (w : World) (v : Value) (l : List Bool) : Prop := w.ownsRow base 4 1 v l.length (l.map Value.bool)
theorem und_bools : Tryz.prog.underlying 255 = some (.slice 4) := by kernel_rfl
theorem Tryz.infoBool : (Tryz.prog.info? 4).map (fun i => (i.zero, i.size, i.bytes)) = some (some (.bool false), 1, 1) := by kernel_rfl
theorem wp_make_bools {ops : Array Oper} {rest : List Oper} {o : Oper} {a : Act} {Q : Exit → Act → World → Prop} {w : World} (hgd : o.guard = none) (l c : Operand)
  (ho : o.op = Op.makeSlice 255 l c) (base n H : Nat) (hH : w.heap.size = H) (L : Int) (hl : a.eval l = .int .i64 L) (hc : a.eval c = .int .i64 L) (hL : L = n) (hn : n ≤ 2147483648) (hbase : base ≤ H)
  (h : ∀ w', BOwn base w' (.slice (some ⟨H, 0, none⟩) n n) (List.replicate n false) → Ext w w' → H < w'.heap.size → wpList Tryz.prog ops Q rest (a.put o.dst (.slice (some ⟨H, 0, none⟩) n n)) w') :
  wpList Tryz.prog ops Q (o :: rest) a w := by
 subst hH
 obtain ⟨i0, hi, hz0, hz1, hz2⟩ := info_parts Tryz.infoBool
 refine wpList_make_full w hgd l c 255 ho base 4 i0 (.bool false) 1 und_bools hi hz0 hz1 .i64 .i64 L L n hl hc hL hL (by rw [hz2]; omega) (by unfold maxLen; omega) hbase ?_
 intro w' h1 h2
 refine h w' ?_ h2 (h1.lt w.heap.size rfl).2
 have e : (madeCells (Value.cells (.bool false)) (n * 1)).toList = (List.replicate n false).map Value.bool := by
  rw [show Value.cells (.bool false) = #[.bool false] from rfl, toList_madeCells_one]; simp
 rw [e] at h1
 show World.ownsRow _ _ _ _ _ _ _
 rw [List.length_replicate]; exact h1
theorem BOwn.cell {base g cap n : Nat} {w : World} {l : List Bool} (h : BOwn base w (.slice (some ⟨g, 0, none⟩) n cap) l) (j : Nat) (hj : j < l.length) : w.cell? ⟨g, j, none⟩ = some (.bool (gt l j)) := by
 have hn : n = l.length := by
  obtain ⟨_, ⟨h, _⟩ | ⟨_, _, _, h, _⟩⟩ := h <;> cases h; rfl
 subst hn
 have := World.ownsRow.cellAt h j (by omega)
 rw [this]; simp [gt, hj]
theorem BOwn.frozen {base g cap n : Nat} {w : World} {l : List Bool} (h : BOwn base w (.slice (some ⟨g, 0, none⟩) n cap) l) (j : Nat) : w.frozen? ⟨g, j, none⟩ = false := by
 have hn : n = l.length := by
  obtain ⟨_, ⟨h, _⟩ | ⟨_, _, _, h, _⟩⟩ := h <;> cases h; rfl
 subst hn
 exact World.ownsRow.frozenAt h j
theorem BOwn.store {base g cap n : Nat} {w : World} {l : List Bool} (h : BOwn base w (.slice (some ⟨g, 0, none⟩) n cap) l) (j : Nat) (x : Bool) :
  BOwn base (w.setCell ⟨g, j, none⟩ (.bool x)) (.slice (some ⟨g, 0, none⟩) n cap) (l.set j x) ∧ w.grownBy (w.setCell ⟨g, j, none⟩ (.bool x)) (some g) := by
 have hn : n = l.length := by
  obtain ⟨_, ⟨h, _⟩ | ⟨_, _, _, h, _⟩⟩ := h <;> cases h; rfl
 subst hn
 obtain ⟨h1, h2⟩ := World.ownsRow.stored h j (.bool x)
 refine ⟨?_, h2⟩
 show World.ownsRow _ _ _ _ _ _ _
 rw [List.length_set, List.map_set]; exact h1
def Near (w : World) (g : Nat) (w' : World) : Prop := ∃ w1, Ext w w1 ∧ (w' = w1 ∨ ∃ j x, w' = w1.setCell ⟨g, j, none⟩ x)
theorem Near.of {w w' : World} {g : Nat} (h : Ext w w') : Near w g w' := ⟨w', h, .inl rfl⟩
theorem Near.store {w w' : World} {g j : Nat} {x : Value} (h : Ext w w') : Near w g (w'.setCell ⟨g, j, none⟩ x) := ⟨w', h, .inr ⟨j, x, rfl⟩⟩
theorem Near.cell {w w' : World} {g : Nat} (h : Near w g w') {a : Addr} {v : Value} (hc : w.cell? a = some v) (hne : a.block ≠ g) : w'.cell? a = some v := by
 obtain ⟨w1, h1, rfl | ⟨j, x, rfl⟩⟩ := h
 ·exact h1.cell hc (by simp)
 ·rw [World.cell?_setCell_far _ _ _ _ (by simpa using Ne.symm hne)]
  exact h1.cell hc (by simp)
end Go.Proofs.YtmjkoejegfjbbaaGreat
namespace Go.Proofs.YtmjkoejegfjbbaaGreat
open Go.RowKit
def PX (N : Nat) (o : List Int) (F : Nat → Prop) (w : World) (vo vp vc : Value) : Prop := ∃ P, Shp N P ∧ P.orders = o ∧ PresX F w vo vp vc P
structure BX (N : Nat) (o : List Int) (B pb : Nat) (w : World) (vo vp vc : Value) : Prop where
 hB : B ≤ pb
 box : Box3 w pb vo vp vc
 px : PX N o (fun k => B ≤ k ∧ k ≠ pb) w vo vp vc
theorem PX.ext {N : Nat} {o : List Int} {F : Nat → Prop} {w w' : World} {vo vp vc : Value} (h : PX N o F w vo vp vc) (hg : Ext w w') : PX N o F w' vo vp vc := by
 obtain ⟨P, h1, h2, h3⟩ := h
 exact ⟨P, h1, h2, h3.mono (fun k hk hlt => ⟨hk, Nat.lt_of_lt_of_le hlt hg.size, hg.block k hlt (by simp)⟩)⟩
theorem BX.ext {N : Nat} {o : List Int} {B pb : Nat} {w w' : World} {vo vp vc : Value} (h : BX N o B pb w vo vp vc) (hg : Ext w w') : BX N o B pb w' vo vp vc := ⟨h.hB, h.box.ext hg, h.px.ext hg⟩
theorem BX.storeP {N : Nat} {o : List Int} {B pb : Nat} {w : World} {vo vp vc : Value} (h : BX N o B pb w vo vp vc) (i : Nat) (hi : i < o.length) :
  ∃ g cap z, vp = .slice (some ⟨g, 0, none⟩) o.length cap ∧ B ≤ g ∧ g ≠ pb ∧ g < w.heap.size ∧ (∀ w2, Ext w w2 → w2.cell? ⟨g, i, none⟩ = some z ∧ w2.frozen? ⟨g, i, none⟩ = false) ∧
   ∀ w2 u y, Ext w w2 → OwnIn (From w.heap.size) w2 u y → y.length ≤ N → BX N o B pb (w2.setCell ⟨g, i, none⟩ u) vo vp vc := by
 obtain ⟨P, h1, h2, h3⟩ := h.px
 obtain ⟨g, cap, z, e1, ⟨q1, q2⟩, q3, q4, q5, q6⟩ := h3.openP i (by rw [h1.p, h2]; exact hi)
 have hpb := h.box.1
 have hB := h.hB
 refine ⟨g, cap, z, by rw [e1, h1.p, h2], q1, q2, q3, fun w2 hg => ⟨hg.cell q4 (by simp), (World.frozen?_of_block (hg.block g q3 (by simp))).trans (q5 i (by rw [h1.p, h2]; exact hi))⟩, fun w2 u y hg hu hy => ⟨hB, Box3.keep h.box (grown_trans (grown_of_ext (some g) hg) (grown_set1 w2 g i u)).size ((grown_trans (grown_of_ext (some g) hg) (grown_set1 w2 g i u)).block _ hpb (fun e => q2 (by cases e; rfl))), setP P i y, h1.setP i hy, h2, ?_⟩⟩
 exact (q6 w2 u y hg hu).wide (fun k hk => by rcases hk with hk | hk; exact hk; exact ⟨by omega, by omega⟩)
theorem BX.storeC {N : Nat} {o : List Int} {B pb : Nat} {w : World} {vo vp vc : Value} (h : BX N o B pb w vo vp vc) (i j : Nat) (hi : i < o.length) (hj : j < o.length - 1 - i) :
  ∃ g cap b cap2 z, vc = .slice (some ⟨g, 0, none⟩) o.length cap ∧ B ≤ g ∧ g ≠ pb ∧ g < w.heap.size ∧ w.cell? ⟨g, i, none⟩ = some (.slice (some ⟨b, 0, none⟩) (o.length - 1 - i) cap2) ∧ B ≤ b ∧ b ≠ pb ∧ b ≠ g ∧ b < w.heap.size ∧
   (∀ w2, Ext w w2 → w2.cell? ⟨b, j, none⟩ = some z ∧ w2.frozen? ⟨b, j, none⟩ = false) ∧
   ∀ w2 u y, Ext w w2 → OwnIn (From w.heap.size) w2 u y → y.length ≤ N → BX N o B pb (w2.setCell ⟨b, j, none⟩ u) vo vp vc := by
 obtain ⟨P, h1, h2, h3⟩ := h.px
 have hiP : i < P.orders.length := by rw [h2]; exact hi
 have hl : (gt P.conj i).length = o.length - 1 - i := by rw [h1.cl i hiP, h2]
 obtain ⟨g, cap, b, cap2, z, e1, ⟨q1, q2⟩, q3, q4, ⟨r1, r2⟩, r3, r4, r5, r6, r7⟩ := h3.openC i j (by rw [h1.c]; exact hiP) (by rw [hl]; exact hj)
 have hpb := h.box.1
 have hB := h.hB
 rw [hl] at q4
 refine ⟨g, cap, b, cap2, z, by rw [e1, h1.c, h2], q1, q2, q3, q4, r1, r2, r3, r4, fun w2 hg => ⟨hg.cell r5 (by simp), (World.frozen?_of_block (hg.block b r4 (by simp))).trans r6⟩, fun w2 u y hg hu hy => ⟨hB, Box3.keep h.box (grown_trans (grown_of_ext (some b) hg) (grown_set1 w2 b j u)).size ((grown_trans (grown_of_ext (some b) hg) (grown_set1 w2 b j u)).block _ hpb (fun e => r2 (by cases e; rfl))), setC P i j y, h1.setC i j hiP hy, h2, ?_⟩⟩
 exact (r7 w2 u y hg hu).wide (fun k hk => by rcases hk with hk | hk; exact hk; exact ⟨by omega, by omega⟩)
def PresN (N B : Nat) (w' : World) (v : Value) : Prop := ∃ P, Shp N P ∧ PresR B P w' v
theorem PresN.weak {N B B' : Nat} {w' : World} {v : Value} (h : PresN N B w' v) (hB : B' ≤ B) : PresN N B' w' v := by
 obtain ⟨P, h1, a, b, c, e, h2⟩ := h
 exact ⟨P, h1, a, b, c, e, h2.wide (fun k hk => Nat.le_trans hB hk)⟩
theorem BX.ret {N : Nat} {o : List Int} {B pb : Nat} {w : World} {vo vp vc : Value} (h : BX N o B pb w vo vp vc) {w' : World} {r : Nat} (hT : w.grownBy w' (some r)) (hr : r < B) : PresN N B w' (.agg #[vo, vp, vc]) := by
 obtain ⟨P, h1, h2, h3⟩ := h.px
 exact ⟨P, h1, _, _, _, rfl, h3.mono (frame_of hT (fun k hk _ => ⟨hk.1, fun e => by cases e; have : B ≤ r := hk.1; omega⟩))⟩
theorem BX.start {N : Nat} {o : List Int} {B : Nat} {w w' : World} {vo vp vc : Value} (hl : o.length ≤ N) (h : PresX (From B) w vo vp vc (trivP o)) (hg : Ext w w') (hb : Box3 w' w.heap.size vo vp vc) (hB : B ≤ w.heap.size) : BX N o B w.heap.size w' vo vp vc :=
 ⟨hB, hb, trivP o, trivP_shp o hl, rfl, h.mono (fun k hk hlt => ⟨⟨hk, by omega⟩, Nat.lt_of_lt_of_le hlt hg.size, hg.block k hlt (by simp)⟩)⟩
structure BXF (N : Nat) (o : List Int) (F : Nat → Prop) (pb : Nat) (w : World) (vo vp vc : Value) : Prop where
 ne : ¬ F pb
 box : Box3 w pb vo vp vc
 px : PX N o F w vo vp vc
theorem BX.f {N : Nat} {o : List Int} {B pb : Nat} {w : World} {vo vp vc : Value} (h : BX N o B pb w vo vp vc) : BXF N o (fun k => B ≤ k ∧ k ≠ pb) pb w vo vp vc := ⟨fun h => h.2 rfl, h.box, h.px⟩
theorem BXF.ext {N : Nat} {o : List Int} {F : Nat → Prop} {pb : Nat} {w w' : World} {vo vp vc : Value} (h : BXF N o F pb w vo vp vc) (hg : Ext w w') : BXF N o F pb w' vo vp vc := ⟨h.ne, h.box.ext hg, h.px.ext hg⟩
theorem BXF.turn {N : Nat} {o : List Int} {F F' : Nat → Prop} {pb : Nat} {w : World} {vo vp vc : Value} (h : BXF N o F pb w vo vp vc) (hF : ∀ k, F k → k < w.heap.size → F' k) (hn : ¬ F' pb) : BXF N o F' pb w vo vp vc := by
 obtain ⟨P, h1, h2, h3⟩ := h.px
 exact ⟨hn, h.box, P, h1, h2, h3.mono (fun k hk hlt => ⟨hF k hk hlt, hlt, rfl⟩)⟩
theorem BXF.bx {N : Nat} {o : List Int} {F : Nat → Prop} {B pb : Nat} {w : World} {vo vp vc : Value} (h : BXF N o F pb w vo vp vc) (hB : B ≤ pb) (hF : ∀ k, F k → B ≤ k) : BX N o B pb w vo vp vc := by
 obtain ⟨P, h1, h2, h3⟩ := h.px
 exact ⟨hB, h.box, P, h1, h2, h3.wide (fun k hk => ⟨hF k hk, fun e => h.ne (e ▸ hk)⟩)⟩
theorem BXF.storeC {N : Nat} {o : List Int} {F : Nat → Prop} {pb : Nat} {w : World} {vo vp vc : Value} (h : BXF N o F pb w vo vp vc) (i j : Nat) (hi : i < o.length) (hj : j < o.length - 1 - i) (hF : ∀ k, w.heap.size ≤ k → F k) :
  ∃ g cap b cap2 z, vc = .slice (some ⟨g, 0, none⟩) o.length cap ∧ F g ∧ g ≠ pb ∧ g < w.heap.size ∧ w.cell? ⟨g, i, none⟩ = some (.slice (some ⟨b, 0, none⟩) (o.length - 1 - i) cap2) ∧ F b ∧ b ≠ pb ∧ b ≠ g ∧ b < w.heap.size ∧
   (∀ w2, Ext w w2 → w2.cell? ⟨b, j, none⟩ = some z ∧ w2.frozen? ⟨b, j, none⟩ = false) ∧
   ∀ w2 u y, Ext w w2 → OwnIn (From w.heap.size) w2 u y → y.length ≤ N → BXF N o F pb (w2.setCell ⟨b, j, none⟩ u) vo vp vc := by
 obtain ⟨P, h1, h2, h3⟩ := h.px
 have hiP : i < P.orders.length := by rw [h2]; exact hi
 have hl : (gt P.conj i).length = o.length - 1 - i := by rw [h1.cl i hiP, h2]
 obtain ⟨g, cap, b, cap2, z, e1, q1, q3, q4, r1, r3, r4, r5, r6, r7⟩ := h3.openC i j (by rw [h1.c]; exact hiP) (by rw [hl]; exact hj)
 have hpb := h.box.1
 rw [hl] at q4
 have q2 : g ≠ pb := fun e => h.ne (e ▸ q1)
 have r2 : b ≠ pb := fun e => h.ne (e ▸ r1)
 refine ⟨g, cap, b, cap2, z, by rw [e1, h1.c, h2], q1, q2, q3, q4, r1, r2, r3, r4, fun w2 hg => ⟨hg.cell r5 (by simp), (World.frozen?_of_block (hg.block b r4 (by simp))).trans r6⟩, fun w2 u y hg hu hy => ⟨h.ne, Box3.keep h.box (grown_trans (grown_of_ext (some b) hg) (grown_set1 w2 b j u)).size ((grown_trans (grown_of_ext (some b) hg) (grown_set1 w2 b j u)).block _ hpb (fun e => r2 (by cases e; rfl))), setC P i j y, h1.setC i j hiP hy, h2, ?_⟩⟩
 exact (r7 w2 u y hg hu).wide (fun k hk => by rcases hk with hk | hk; exact hk; exact hF k hk)
theorem trivX_shape {F : Nat → Prop} {w : World} {vo vp vc : Value} {o : List Int} (h : PresX F w vo vp vc (trivP o)) : ∃ a c a2 c2 a3 c3, vo = .slice a o.length c ∧ vp = .slice a2 o.length c2 ∧ vc = .slice a3 o.length c3 := by
 obtain ⟨a, c, a2, c2, a3, c3, e1, e2, e3⟩ := h.shape
 exact ⟨a, c, a2, c2, a3, c3, e1, by rw [e2]; simp [trivP], by rw [e3]; simp [trivP]⟩
end Go.Proofs.YtmjkoejegfjbbaaGreat
namespace Go.Proofs.YtmjkoejegfjbbaaGreat
open Go.RowKit
section
variable {α : Type} [Inhabited α] {El : (Nat → Prop) → World → Value → α → Prop} {E : Nat}
theorem SlI.putR (hEl : RdOk El) {F U : Nat → Prop} {g n cap : Nat} {w : World} {xs : List α} {u : Value} {y : α} (h : SlI El E F w (.slice (some ⟨g, 0, none⟩) n cap) xs)
  (hu : El U w u y) (hU : ∀ k, U k → ¬ F k) (j : Nat) :
  Sl (fun w u x => El (fun k => F k ∨ U k) w u x) (fun k => F k ∨ U k) (w.setCell ⟨g, j, none⟩ u) (.slice (some ⟨g, 0, none⟩) n cap) (xs.set j y) := by
 obtain ⟨vs, G, hvl, hl, hO, hF, hG, hd, hE⟩ := h
 have hgl := (hO.lt g rfl).2
 have hFg := hF g rfl
 have hn : n = vs.length := by
  obtain ⟨_, ⟨h, _⟩ | ⟨_, _, _, h, _⟩⟩ := hO <;> cases h; rfl
 subst hn
 have hcap : vs.length ≤ cap := by
  rcases hO.form with ⟨h, _⟩ | ⟨_, _, h, h2, _⟩
  ·cases h
  ·cases h; exact h2
 obtain ⟨h1, h2⟩ := World.ownsRow.stored hO j u
 have h1 : OwnV 0 E (w.setCell ⟨g, j, none⟩ u) (.slice (some ⟨g, 0, none⟩) vs.length cap) (vs.set j u) := by unfold OwnV; rw [List.length_set]; exact h1
 have hsz : (w.setCell ⟨g, j, none⟩ u).heap.size = w.heap.size := by simp [World.setCell]
 have hblk : ∀ k, k ≠ g → (w.setCell ⟨g, j, none⟩ u).heap[k]? = w.heap[k]? := fun k hk => Below.heap_setCell _ _ _ _ (by simpa using hk)
 refine ⟨_, cap, by rw [List.length_set, hvl], ⟨by rw [List.length_set]; omega, by rw [List.length_set]; exact hl, fun h => by cases h⟩, fun i hi => ?_⟩
 rw [List.length_set] at hi
 refine ⟨g, 0, gt (vs.set j u) i, rfl, .inl hFg, by rw [hsz]; exact hgl, by rw [Nat.zero_add]; exact h1.cell i (by rw [List.length_set]; omega), ?_⟩
 by_cases e : j = i
 ·subst e
  rw [gt_set_eq _ _ _ (by omega), gt_set_eq _ _ _ hi]
  exact hEl.mono hu (fun k hk hlt => ⟨.inr hk, by rw [hsz]; exact hlt, hblk k (fun e => hU k hk (e ▸ hFg))⟩)
 ·rw [gt_set_ne _ _ _ _ e, gt_set_ne _ _ _ _ e]
  exact hEl.mono (hE i hi) (fun k hk hlt => ⟨.inl (hG i k hi hk).1, by rw [hsz]; exact hlt, hblk k (fun e => (hG i k hi hk).2.1 (by rw [e]; rfl))⟩)
end
theorem PresX.putP {F U : Nat → Prop} {w : World} {vo vp vc u : Value} {P : Pr} {y : List Int} (h : PresX F w vo vp vc P) (i : Nat) (hi : i < P.powers.length) (hu : Ints U w u y) (hU : ∀ k, U k → ¬ F k) :
  ∃ g cap z, vp = .slice (some ⟨g, 0, none⟩) P.powers.length cap ∧ F g ∧ g < w.heap.size ∧ w.cell? ⟨g, i, none⟩ = some z ∧ w.frozen? ⟨g, i, none⟩ = false ∧
   Pres3 (fun k => F k ∨ U k) (w.setCell ⟨g, i, none⟩ u) vo vp vc (setP P i y) := by
 obtain ⟨Fo, Fp, Fc, h1, h2, h3, h4, h5, h6⟩ := h
 rcases SlI.form h2 with ⟨_, e⟩ | ⟨g, cap, rfl, hFg, hgl⟩
 ·rw [e] at hi; simp at hi
 obtain ⟨⟨z, hz⟩, hf⟩ := SlI.place h2 i hi
 have hsz : (w.setCell ⟨g, i, none⟩ u).heap.size = w.heap.size := by simp [World.setCell]
 have hblk : ∀ k, k ≠ g → (w.setCell ⟨g, i, none⟩ u).heap[k]? = w.heap[k]? := fun k hk => Below.heap_setCell _ _ _ _ (by simpa using hk)
 have h2' : SlI (fun F w u (x : List Int) => Ints F w u x) 36 Fp w (.slice (some ⟨g, 0, none⟩) P.powers.length cap) P.powers := SlI.map (fun _ _ _ _ h => h.ints) h2
 have hrd : RdOk (fun F w u (x : List Int) => Ints F w u x) := ⟨fun h hb => Ints.mono h hb, fun h => by obtain ⟨_, _, rfl, _⟩ := h.shape; rfl⟩
 have hp := SlI.putR hrd h2' hu (fun k hk h => hU k hk (h5 k h).1) i
 refine ⟨g, cap, z, rfl, (h5 g hFg).1, hgl, hz, hf, ⟨?_, ?_, ?_⟩⟩
 ·exact Ints.mono h1.ints (fun k hk hlt => ⟨.inl (h4 k hk).1, by rw [hsz]; exact hlt, hblk k (fun e => (h4 k hk).2.1 (e ▸ hFg))⟩)
 ·exact Rows2.sub (S := fun k => Fp k ∨ U k) hp (fun k hk _ => hk.elim (fun h => .inl (h5 k h).1) .inr)
 ·exact Rows3.mono (Rows3I.rows h3) (fun k hk hlt => ⟨.inl (h6 k hk), by rw [hsz]; exact hlt, hblk k (fun e => (h5 g hFg).2 (e ▸ hk))⟩)
theorem PresX.putC {F U : Nat → Prop} {w : World} {vo vp vc u : Value} {P : Pr} {y : List Int} (h : PresX F w vo vp vc P) (i j : Nat) (hi : i < P.conj.length) (hj : j < (gt P.conj i).length) (hu : Ints U w u y) (hU : ∀ k, U k → ¬ F k) :
  ∃ g cap b cap2 z, vc = .slice (some ⟨g, 0, none⟩) P.conj.length cap ∧ F g ∧ g < w.heap.size ∧ w.cell? ⟨g, i, none⟩ = some (.slice (some ⟨b, 0, none⟩) (gt P.conj i).length cap2) ∧ F b ∧ b ≠ g ∧ b < w.heap.size ∧
   w.cell? ⟨b, j, none⟩ = some z ∧ w.frozen? ⟨b, j, none⟩ = false ∧ Pres3 (fun k => F k ∨ U k) (w.setCell ⟨b, j, none⟩ u) vo vp vc (setC P i j y) := by
 obtain ⟨Fo, Fp, Fc, h1, h2, h3, h4, h5, h6⟩ := h
 rcases SlI.form h3 with ⟨_, e⟩ | ⟨g, cap, rfl, hFg, hgl⟩
 ·rw [e] at hi; simp at hi
 have h3' := h3
 obtain ⟨vs, G, hvl, hl, hO, hF, hG, hd, hE⟩ := h3
 have hn : vs.length = P.conj.length := hvl
 have hEi := hE i hi
 rcases SlI.form hEi with ⟨_, e⟩ | ⟨b, cap2, hub, hGb, hbl⟩
 ·rw [e] at hj; simp at hj
 rw [hub] at hEi
 obtain ⟨hFb, hbg, _⟩ := hG i b hi hGb
 have hbg : b ≠ g := fun e => hbg (by rw [e]; rfl)
 obtain ⟨⟨z, hz⟩, hf⟩ := SlI.place hEi j hj
 have hci : w.cell? ⟨g, i, none⟩ = some (.slice (some ⟨b, 0, none⟩) (gt P.conj i).length cap2) := by
  rw [← hub]
  have hO2 : OwnV 0 32 w (.slice (some ⟨g, 0, none⟩) P.conj.length cap) vs := hO
  exact hO2.cell i (by omega)
 have hEi' : SlI (fun F w u (x : List Int) => Ints F w u x) 36 (G i) w (.slice (some ⟨b, 0, none⟩) (gt P.conj i).length cap2) (gt P.conj i) := SlI.map (fun _ _ _ _ h => h.ints) hEi
 have hrd : RdOk (fun F w u (x : List Int) => Ints F w u x) := ⟨fun h hb => Ints.mono h hb, fun h => by obtain ⟨_, _, rfl, _⟩ := h.shape; rfl⟩
 have hp := SlI.putR hrd hEi' hu (fun k hk h => hU k hk (h6 k (hG i k hi h).1)) j
 have hsz : (w.setCell ⟨b, j, none⟩ u).heap.size = w.heap.size := by simp [World.setCell]
 have hblk : ∀ k, k ≠ b → (w.setCell ⟨b, j, none⟩ u).heap[k]? = w.heap[k]? := fun k hk => Below.heap_setCell _ _ _ _ (by simpa using hk)
 have h3r := Rows3I.rows h3'
 refine ⟨g, cap, b, cap2, z, rfl, h6 g hFg, hgl, hci, h6 b hFb, hbg, hbl, hz, hf, ⟨?_, ?_, ?_⟩⟩
 ·exact Ints.mono h1.ints (fun k hk hlt => ⟨.inl (h4 k hk).1, by rw [hsz]; exact hlt, hblk k (fun e => (h4 k hk).2.2 (e ▸ hFb))⟩)
 ·exact Rows2.mono (RowsI.rows h2) (fun k hk hlt => ⟨.inl (h5 k hk).1, by rw [hsz]; exact hlt, hblk k (fun e => (h5 k hk).2 (e ▸ hFb))⟩)
 ·refine ⟨_, cap, by show _ = Value.slice _ (P.conj.set i _).length _; rw [List.length_set], ⟨?_, ?_, fun h => by cases h⟩, fun k hk => ?_⟩
  ·obtain ⟨a, c, e, e2, _⟩ := Sl.shape h3r
   cases e
   show (P.conj.set i _).length ≤ _; rw [List.length_set]; exact e2
  ·show (P.conj.set i _).length ≤ _; rw [List.length_set]; exact hl
  ·have hk : k < P.conj.length := by
    have hk : k < (P.conj.set i ((gt P.conj i).set j y)).length := hk
    rw [List.length_set] at hk; exact hk
   show ∃ b_1 off u_1, _ ∧ _ ∧ _ ∧ _ ∧ Rows2 _ _ u_1 (gt (P.conj.set i ((gt P.conj i).set j y)) k)
   have hO2 : OwnV 0 32 w (.slice (some ⟨g, 0, none⟩) P.conj.length cap) vs := hO
   have hck : (w.setCell ⟨b, j, none⟩ u).cell? ⟨g, 0 + k, none⟩ = some (gt vs k) := by
    rw [Nat.zero_add, World.cell?_of_block (w := w) (a := ⟨g, k, none⟩) (hblk g (fun e => hbg e.symm))]
    exact hO2.cell k (by omega)
   refine ⟨g, 0, gt vs k, rfl, .inl (h6 g hFg), by rw [hsz]; exact hgl, hck, ?_⟩
   by_cases e : i = k
   ·subst e
    rw [gt_set_eq _ _ _ hi, hub]
    exact Rows2.sub (S := fun k => G i k ∨ U k) hp (fun k hk _ => hk.elim (fun h => .inl (h6 k (hG i k hi h).1)) .inr)
   ·rw [gt_set_ne _ _ _ _ e]
    have hr := RowsI.rows (hE k hk)
    exact Rows2.mono hr (fun m hm hlt => ⟨.inl (h6 m (hG k m hk hm).1), by rw [hsz]; exact hlt, hblk m (fun e2 => e (hd i k b hi hk hGb (e2 ▸ hm)))⟩)
end Go.Proofs.YtmjkoejegfjbbaaGreat
namespace Go.Proofs.YtmjkoejegfjbbaaGreat
theorem iter_add {α : Type} (f : α → α) (n k : Nat) (x : α) : iter (n + k) f x = iter n f (iter k f x) := by
 induction n with
 | zero => rw [Nat.zero_add]; rfl
 | succ n ih => rw [Nat.succ_add]; show f (iter (n + k) f x) = f (iter n f (iter k f x)); rw [ih]
theorem iter_rel {α β : Type} (R : α → β → Prop) (f : α → α) (g : β → β) (h : ∀ x y, R x y → R (f x) (g y)) (n : Nat) (x : α) (y : β) (hxy : R x y) : R (iter n f x) (iter n g y) := by
 induction n with
 | zero => exact hxy
 | succ n ih => exact h _ _ ih
theorem iter_congr {α : Type} (Q : α → Prop) (f g : α → α) (hQ : ∀ x, Q x → Q (f x)) (h : ∀ x, Q x → f x = g x) (n : Nat) (x : α) (hx : Q x) : iter n f x = iter n g x := by
 induction n with
 | zero => rfl
 | succ n ih =>
  show f (iter n f x) = g (iter n g x)
  rw [← ih]; exact h _ (iter_inv Q f hQ n x hx)
structure MonOn {α : Type} (S : α → Prop) (m : α → α → α) (e : α) : Prop where
 cl : ∀ x y, S x → S y → S (m x y)
 one : S e
 ass : ∀ x y z, S x → S y → S z → m (m x y) z = m x (m y z)
 el : ∀ x, S x → m e x = x
 er : ∀ x, S x → m x e = x
def acc {α : Type} (g : α → Nat → α) (x : List Int) (i : Nat) (out : α) : Nat → α
 | 0 => out
 | k + 1 => iter (gt x (i + k)).toNat (fun y => g y (i + k)) (acc g x i out k)
theorem acc_front {α : Type} (g : α → Nat → α) (x : List Int) (i : Nat) (out : α) (k : Nat) : acc g x i out (k + 1) = acc g x (i + 1) (iter (gt x i).toNat (fun y => g y i) out) k := by
 induction k with
 | zero => rfl
 | succ k ih =>
  rw [acc, ih]
  show _ = iter (gt x (i + 1 + k)).toNat (fun y => g y (i + 1 + k)) _
  rw [show i + (k + 1) = i + 1 + k by omega]
theorem acc_inv {α : Type} (Q : α → Prop) (g : α → Nat → α) (x : List Int) (i : Nat) (out : α) (k : Nat) (ho : Q out) (h : ∀ y j, Q y → i ≤ j → j < i + k → gt x j ≠ 0 → Q (g y j)) : Q (acc g x i out k) := by
 induction k with
 | zero => exact ho
 | succ k ih =>
  have h1 := ih (fun y j hy a b c => h y j hy a (by omega) c)
  by_cases h0 : gt x (i + k) = 0
  ·rw [acc, h0]; exact h1
  ·exact iter_inv Q _ (fun y hy => h y (i + k) hy (by omega) (by omega) h0) _ _ h1
theorem acc_rel {α β : Type} (R : α → β → Prop) (g : α → Nat → α) (g' : β → Nat → β) (x : List Int) (i : Nat) (out : α) (out' : β) (k : Nat) (ho : R out out') (h : ∀ y z j, R y z → i ≤ j → j < i + k → gt x j ≠ 0 → R (g y j) (g' z j)) :
  R (acc g x i out k) (acc g' x i out' k) := by
 induction k with
 | zero => exact ho
 | succ k ih =>
  have h1 := ih (fun y z j hy a b c => h y z j hy a (by omega) c)
  by_cases h0 : gt x (i + k) = 0
  ·rw [acc, acc, h0]; exact h1
  ·exact iter_rel R _ _ (fun y z hy => h y z (i + k) hy (by omega) (by omega) h0) _ _ _ h1
theorem acc_congr {α : Type} (g : α → Nat → α) (x x' : List Int) (i : Nat) (out : α) (k : Nat) (h : ∀ j, i ≤ j → j < i + k → gt x j = gt x' j) : acc g x i out k = acc g x' i out k := by
 induction k with
 | zero => rfl
 | succ k ih => rw [acc, acc, ih (fun j a b => h j a (by omega)), h (i + k) (by omega) (by omega)]
theorem acc_zero {α : Type} (g : α → Nat → α) (x : List Int) (i : Nat) (out : α) (k : Nat) (h : ∀ j, i ≤ j → j < i + k → gt x j = 0) : acc g x i out k = out := by
 induction k with
 | zero => rfl
 | succ k ih => rw [acc, ih (fun j a b => h j a (by omega)), h (i + k) (by omega) (by omega)]; rfl
theorem acc_split {α : Type} (g : α → Nat → α) (x : List Int) (i : Nat) (out : α) (a b : Nat) : acc g x i out (a + b) = acc g x (i + a) (acc g x i out a) b := by
 induction b with
 | zero => rfl
 | succ b ih =>
  show acc g x i out ((a + b) + 1) = _
  rw [acc, acc, ih, show i + (a + b) = i + a + b by omega]
theorem rImgTo_acc (at_ : List Int → List Int → List Int) (cs : List (List Int)) (i : Nat) (x out : List Int) (k : Nat) :
  rImgTo at_ cs i x out k = acc (fun y j => at_ y (gt cs (j - i - 1))) x (i + 1) out k := by
 induction k with
 | zero => rfl
 | succ k ih => rw [rImgTo, acc, ih]; simp only [show i + 1 + k - i - 1 = k by omega]
theorem tvecTo_acc (g : List Int → Nat → List Int) (f e : List Int) (k : Nat) : tvecTo g f e k = acc g f 0 e k := by
 induction k with
 | zero => rfl
 | succ k ih => rw [tvecTo, acc, ih, Nat.zero_add]
theorem tconjTo_acc (g : List Int → Nat → List Int) (cs : List (List Int)) (e : List Int) (j : Nat) (out : List Int) (k : Nat) :
  tconjTo g cs (e.drop (j + 1)) out k = acc (fun y l => tvec g y (gt cs (l - j - 1))) e (j + 1) out k := by
 induction k with
 | zero => rfl
 | succ k ih =>
  rw [tconjTo, acc, ih]
  have : gt (e.drop (j + 1)) k = gt e (j + 1 + k) := by simp [gt]
  simp only [this, show j + 1 + k - j - 1 = k by omega]
section
variable {α : Type} {S : α → Prop} {m : α → α → α} {e : α}
theorem MonOn.pow_cl (M : MonOn S m e) {h y : α} (hh : S h) (hy : S y) (k : Nat) : S (iter k (fun y => m y h) y) := iter_inv S _ (fun y hy => M.cl y h hy hh) k y hy
theorem MonOn.pow_out (M : MonOn S m e) {h y : α} (hh : S h) (hy : S y) (k : Nat) : iter k (fun y => m y h) y = m y (iter k (fun y => m y h) e) := by
 induction k with
 | zero => exact (M.er y hy).symm
 | succ k ih =>
  show m (iter k (fun y => m y h) y) h = m y (m (iter k (fun y => m y h) e) h)
  rw [ih, M.ass y _ h hy (M.pow_cl hh M.one k) hh]
theorem MonOn.pow_add (M : MonOn S m e) {h : α} (hh : S h) (a b : Nat) : iter (a + b) (fun y => m y h) e = m (iter a (fun y => m y h) e) (iter b (fun y => m y h) e) := by
 rw [Nat.add_comm, iter_add, M.pow_out hh (M.pow_cl hh M.one a)]
def npr (m : α → α → α) (h : Nat → α) (x : List Int) (i : Nat) (out : α) (k : Nat) : α := acc (fun y j => m y (h j)) x i out k
theorem npr_cl (M : MonOn S m e) {h : Nat → α} {x : List Int} {i : Nat} {out : α} {k : Nat} (ho : S out) (hh : ∀ j, i ≤ j → j < i + k → S (h j)) : S (npr m h x i out k) :=
 acc_inv S _ x i out k ho (fun y j hy a b _ => M.cl y _ hy (hh j a b))
theorem npr_out (M : MonOn S m e) {h : Nat → α} {x : List Int} {i : Nat} {out : α} {k : Nat} (ho : S out) (hh : ∀ j, i ≤ j → j < i + k → S (h j)) : npr m h x i out k = m out (npr m h x i e k) := by
 induction k with
 | zero => exact (M.er out ho).symm
 | succ k ih =>
  have hh' : ∀ j, i ≤ j → j < i + k → S (h j) := fun j a b => hh j a (by omega)
  have h1 := ih hh'
  unfold npr at h1 ⊢
  rw [acc, acc, h1]
  have c1 : S (npr m h x i e k) := npr_cl M M.one hh'
  have hk := hh (i + k) (by omega) (by omega)
  unfold npr at c1
  rw [M.pow_out hk (M.cl _ _ ho c1), M.pow_out hk c1, M.ass _ _ _ ho c1 (M.pow_cl hk M.one _)]
theorem npr_front (M : MonOn S m e) {h : Nat → α} {x : List Int} {i : Nat} {k : Nat} (hh : ∀ j, i ≤ j → j < i + (k + 1) → S (h j)) :
  npr m h x i e (k + 1) = m (iter (gt x i).toNat (fun y => m y (h i)) e) (npr m h x (i + 1) e k) := by
 have h1 : npr m h x i e (k + 1) = npr m h x (i + 1) (iter (gt x i).toNat (fun y => m y (h i)) e) k := acc_front _ x i e k
 rw [h1]
 exact npr_out M (M.pow_cl (hh i (by omega) (by omega)) M.one _) (fun j a b => hh j (by omega) (by omega))
structure Holds (P : Pr) (S : α → Prop) (m : α → α → α) (e : α) (h : Nat → α) (i : Nat) : Prop where
 mem : ∀ j, i ≤ j → j < P.orders.length → S (h j)
 pw : ∀ j, i ≤ j → j < P.orders.length → iter (gt P.orders j).toNat (fun y => m y (h j)) e = npr m h (gt P.powers j) (j + 1) e (P.orders.length - (j + 1))
 cj : ∀ j k, i ≤ j → j < k → k < P.orders.length → m (h k) (h j) = m (h j) (npr m h (gt (gt P.conj j) (k - j - 1)) (j + 1) e (P.orders.length - (j + 1)))
theorem Holds.up {P : Pr} {h : Nat → α} {i i' : Nat} (H : Holds P S m e h i) (hi : i ≤ i') : Holds P S m e h i' :=
 ⟨fun j a b => H.mem j (by omega) b, fun j a b => H.pw j (by omega) b, fun j k a b c => H.cj j k (by omega) b c⟩
theorem vd_image {P : Pr} (hP : Valid P) (M : MonOn S m e) {h : Nat → α} {i f : Nat} (hi : i + (f + 1) = P.orders.length) (H : Holds P S m e h i)
  (ih : ∀ A B, Vec P.orders A → Vec P.orders B → npr m h (rAt P f (i + 1) A B) (i + 1) e f = m (npr m h A (i + 1) e f) (npr m h B (i + 1) e f)) (x : List Int) :
  m (npr m h x (i + 1) e f) (h i) = m (h i) (npr m h (rImage P f i x) (i + 1) e f) := by
 have hm : ∀ j, i ≤ j → j < P.orders.length → S (h j) := H.mem
 have hN : ∀ y, S (npr m h y (i + 1) e f) := fun y => npr_cl M M.one (fun j a b => hm j (by omega) (by omega))
 unfold rImage
 rw [rImgTo_acc]
 have hsi := hm i (by omega) (by omega)
 have hR : (fun (y : α) (z : List Int) => S y ∧ Vec P.orders z ∧ m y (h i) = m (h i) (npr m h z (i + 1) e f)) (npr m h x (i + 1) e f)
   (acc (fun y j => rAt P f (i + 1) y (gt (gt P.conj i) (j - i - 1))) x (i + 1) (zeros P.orders.length) f) := by
  unfold npr
  refine acc_rel (fun (y : α) (z : List Int) => S y ∧ Vec P.orders z ∧ m y (h i) = m (h i) (npr m h z (i + 1) e f)) _ _ x (i + 1) _ _ f ⟨M.one, zeros_vec hP, ?_⟩ ?_
  ·have h0 : npr m h (zeros P.orders.length) (i + 1) e f = e := acc_zero _ _ _ _ _ (fun j _ _ => gt_replicate _ _)
   rw [h0, M.el _ hsi, M.er _ hsi]
  ·rintro y z j ⟨h1, h2, h3⟩ a b _
   have hc := (hP.cv i (by omega)).2 (j - i - 1) (by omega)
   have hj := hm j (by omega) (by omega)
   refine ⟨M.cl _ _ h1 hj, rAt_vec hP f _ _ _ (by omega) h2 hc.1, ?_⟩
   have h4 := ih z _ h2 hc.1
   have h5 := H.cj i j (by omega) (by omega) (by omega)
   have hf : P.orders.length - (i + 1) = f := by omega
   rw [hf] at h5
   have c1 := hN z
   have c2 := hN (gt (gt P.conj i) (j - i - 1))
   unfold npr at h3 h4 h5 c1 c2 ⊢
   rw [h4, M.ass _ _ _ h1 hj hsi, h5, ← M.ass _ _ _ h1 hsi c2, h3, M.ass _ _ _ hsi c1 c2]
 exact hR.2.2
theorem vd_at {P : Pr} (hP : Valid P) (M : MonOn S m e) {h : Nat → α} (f : Nat) : ∀ (i : Nat), i + f = P.orders.length → Holds P S m e h i → ∀ A B, Vec P.orders A → Vec P.orders B →
  npr m h (rAt P f i A B) i e f = m (npr m h A i e f) (npr m h B i e f) := by
 induction f with
 | zero => intro i _ _ A B _ _; exact (M.el e M.one).symm
 | succ f ih =>
  intro i hi H A B hA hB
  have IH := ih (i + 1) (by omega) (H.up (by omega))
  have hm : ∀ j, i ≤ j → j < P.orders.length → S (h j) := H.mem
  have hN : ∀ y, S (npr m h y (i + 1) e f) := fun y => npr_cl M M.one (fun j a b => hm j (by omega) (by omega))
  have hsi := hm i (by omega) (by omega)
  have hW : ∀ k, S (iter k (fun y => m y (h i)) e) := fun k => M.pow_cl hsi M.one k
  have him := vd_image hP M hi H IH
  have hset : ∀ (y : List Int) (c : Int), npr m h (y.set i c) (i + 1) e f = npr m h y (i + 1) e f := fun y c =>
   acc_congr _ _ _ _ _ _ (fun j a _ => gt_set_ne _ _ _ _ (by omega))
  have hfr : ∀ y, npr m h y i e (f + 1) = m (iter (gt y i).toNat (fun y => m y (h i)) e) (npr m h y (i + 1) e f) := fun y => npr_front M (fun j a b => hm j a (by omega))
  have ho := hP.ord7 i (by omega)
  have hAi := hA.2 i (by omega)
  have hBi := hB.2 i (by omega)
  -- the left factor drawn through
  have hleft : ∀ b : Nat, Vec P.orders (iter b (fun l => rImgTo (rAt P f (i + 1)) (gt P.conj i) i l (zeros P.orders.length) f) (A.set i 0)) ∧
    m (npr m h A (i + 1) e f) (iter b (fun y => m y (h i)) e) = m (iter b (fun y => m y (h i)) e) (npr m h (iter b (fun l => rImgTo (rAt P f (i + 1)) (gt P.conj i) i l (zeros P.orders.length) f) (A.set i 0)) (i + 1) e f) := by
   intro b
   induction b with
   | zero =>
    refine ⟨hA.set i 0 ⟨by omega, fun _ => by omega⟩, ?_⟩
    show m _ e = m e (npr m h (A.set i 0) (i + 1) e f)
    rw [hset, M.er _ (hN A), M.el _ (hN A)]
   | succ b ihb =>
    obtain ⟨v1, e1⟩ := ihb
    have v2 : Vec P.orders (rImgTo (rAt P f (i + 1)) (gt P.conj i) i (iter b (fun l => rImgTo (rAt P f (i + 1)) (gt P.conj i) i l (zeros P.orders.length) f) (A.set i 0)) (zeros P.orders.length) f) :=
     rImgTo_vec hP f i hi (rAt_vec hP f) _ _ (zeros_vec hP) f (Nat.le_refl _)
    refine ⟨v2, ?_⟩
    have e2 := him (iter b (fun l => rImgTo (rAt P f (i + 1)) (gt P.conj i) i l (zeros P.orders.length) f) (A.set i 0))
    show m _ (m (iter b (fun y => m y (h i)) e) (h i)) = m (m (iter b (fun y => m y (h i)) e) (h i)) (npr m h (rImage P f i _) (i + 1) e f)
    rw [← M.ass _ _ _ (hN A) (hW b) hsi, e1, M.ass _ _ _ (hW b) (hN _) hsi, e2, ← M.ass _ _ _ (hW b) hsi (hN _)]
  obtain ⟨vl, el⟩ := hleft (gt B i).toNat
  have vB : Vec P.orders (B.set i 0) := hB.set i 0 ⟨by omega, fun _ => by omega⟩
  have er := IH _ _ vl vB
  rw [hset B 0] at er
  have vr := rAt_vec hP f (i + 1) _ _ (by omega) vl vB
  rw [hfr A, hfr B]
  -- both sides to one form
  have key : m (m (iter (gt A i).toNat (fun y => m y (h i)) e) (npr m h A (i + 1) e f)) (m (iter (gt B i).toNat (fun y => m y (h i)) e) (npr m h B (i + 1) e f)) =
    m (iter ((gt A i).toNat + (gt B i).toNat) (fun y => m y (h i)) e) (npr m h (rAt P f (i + 1) (iter (gt B i).toNat (fun l => rImgTo (rAt P f (i + 1)) (gt P.conj i) i l (zeros P.orders.length) f) (A.set i 0)) (B.set i 0)) (i + 1) e f) := by
   rw [er, M.pow_add hsi, M.ass _ _ _ (hW _) (hN _) (M.cl _ _ (hW _) (hN _)), ← M.ass _ _ _ (hN A) (hW _) (hN _), el, M.ass _ _ _ (hW _) (hN _) (hN _), ← M.ass _ _ _ (hW _) (hW _) (M.cl _ _ (hN _) (hN _))]
  rw [key, hfr]
  simp only [rAt]
  by_cases hc : gt P.orders i ≤ gt A i + gt B i
  ·rw [if_pos hc]
   have vp := (hP.pv i (by omega)).1
   have v3 := rAt_vec hP f (i + 1) _ _ (by omega) vp vr
   rw [hset, gt_set_eq _ _ _ (by rw [v3.1]; omega), IH _ _ vp vr]
   have hsum : (gt A i).toNat + (gt B i).toNat = (gt A i + gt B i - gt P.orders i).toNat + (gt P.orders i).toNat := by omega
   rw [hsum, M.pow_add hsi, H.pw i (by omega) (by omega), show P.orders.length - (i + 1) = f by omega, M.ass _ _ _ (hW _) (hN _) (hN _)]
  ·rw [if_neg hc, hset, gt_set_eq _ _ _ (by rw [vr.1]; omega)]
   have hsum : (gt A i).toNat + (gt B i).toNat = (gt A i + gt B i).toNat := by omega
   rw [hsum]
theorem npr_three (M : MonOn S m e) {h : Nat → α} {y : List Int} {i j n : Nat} (hij : i ≤ j) (hj : j < n) (hh : ∀ l, i ≤ l → l < n → S (h l)) :
  npr m h y i e (n - i) = m (m (npr m h y i e (j - i)) (iter (gt y j).toNat (fun y => m y (h j)) e)) (npr m h y (j + 1) e (n - (j + 1))) := by
 have h1 : npr m h y i e (n - i) = npr m h y (j + 1) (iter (gt y j).toNat (fun y => m y (h j)) (npr m h y i e (j - i))) (n - (j + 1)) := by
  unfold npr
  rw [show n - i = (j - i) + ((n - (j + 1)) + 1) by omega, acc_split, acc_front, show i + (j - i) = j by omega]
 have c1 : S (npr m h y i e (j - i)) := npr_cl M M.one (fun l a b => hh l a (by omega))
 rw [h1, npr_out M (M.pow_cl (hh j hij hj) c1 _) (fun l a b => hh l (by omega) (by omega)), M.pow_out (hh j hij hj) c1]
theorem vd_gen {P : Pr} (hP : Valid P) (M : MonOn S m e) {h : Nat → α} {i : Nat} (H : Holds P S m e h i) (f : Nat) : ∀ (E : List Int) (j : Nat), Vec P.orders E → i ≤ j → j < P.orders.length → P.orders.length ≤ f + j →
  npr m h (tgen P f E j) i e (P.orders.length - i) = m (npr m h E i e (P.orders.length - i)) (h j) := by
 have hm : ∀ j, i ≤ j → j < P.orders.length → S (h j) := H.mem
 have hN : ∀ y, S (npr m h y i e (P.orders.length - i)) := fun y => npr_cl M M.one (fun j a b => hm j a (by omega))
 induction f with
 | zero => intro E j _ _ hj hf; omega
 | succ f ih =>
  intro E j hE hij hj hf
  have hsj := hm j hij hj
  have hT : ∀ y, S (npr m h y (j + 1) e (P.orders.length - (j + 1))) := fun y => npr_cl M M.one (fun l a b => hm l (by omega) (by omega))
  have hpre : ∀ y, S (npr m h y i e (j - i)) := fun y => npr_cl M M.one (fun l a b => hm l a (by omega))
  have hW : ∀ k, S (iter k (fun y => m y (h j)) e) := fun k => M.pow_cl hsj M.one k
  have hvk : ∀ c, Vec P.orders c → ZeroTo j c → ∀ x, Vec P.orders x → Vec P.orders (tvec (tgen P f) x c) := fun c hc hz x hx =>
   tvec_vec hc (fun e i he hi h0 => tgen_vec hP f e i he hi (by
    have : ¬ i ≤ j := fun h => h0 (hz i h)
    omega)) hx
  have hvm : ∀ c, Vec P.orders c → ZeroTo j c → ∀ x, Vec P.orders x →
    npr m h (tvec (tgen P f) x c) i e (P.orders.length - i) = m (npr m h x i e (P.orders.length - i)) (npr m h c (j + 1) e (P.orders.length - (j + 1))) := by
   intro c hc hz x hx
   unfold tvec
   rw [tvecTo_acc, hc.1, show P.orders.length = (j + 1) + (P.orders.length - (j + 1)) by omega, acc_split, acc_zero (tgen P f) c 0 x (j + 1) (fun l _ b => hz l (by omega)), show 0 + (j + 1) = j + 1 by omega,
    show (j + 1) + (P.orders.length - (j + 1)) = P.orders.length by omega]
   have hR := acc_rel (fun (y : α) (z : List Int) => S y ∧ Vec P.orders z ∧ npr m h z i e (P.orders.length - i) = y) (fun y l => m y (h l)) (tgen P f) c (j + 1) (npr m h x i e (P.orders.length - i)) x (P.orders.length - (j + 1))
    ⟨hN x, hx, rfl⟩ (by
     rintro y z l ⟨h1, h2, h3⟩ a b _
     refine ⟨M.cl _ _ h1 (hm l (by omega) (by omega)), tgen_vec hP f z l h2 (by omega) (by omega), ?_⟩
     rw [ih z l h2 (by omega) (by omega) (by omega), h3])
   rw [hR.2.2]
   exact npr_out M (hN x) (fun l a b => hm l (by omega) (by omega))
  have hl := hE.1
  have hzl : j + 1 + (E.drop (j + 1)).length ≤ E.length := by simp; omega
  have hz := hE.zeroed j (E.drop (j + 1)).length hzl
  have hx := hE.2 j hj
  have ho := hP.ord7 j hj
  have hlz := length_zeroed E j (E.drop (j + 1)).length hzl
  have hN3 : ∀ c : Int, npr m h ((zeroed E j (E.drop (j + 1)).length).set j c) i e (P.orders.length - i) = m (npr m h E i e (j - i)) (iter c.toNat (fun y => m y (h j)) e) := by
   intro c
   rw [npr_three M hij hj hm, gt_set_eq _ _ _ (by omega)]
   have e1 : npr m h ((zeroed E j (E.drop (j + 1)).length).set j c) i e (j - i) = npr m h E i e (j - i) :=
    acc_congr _ _ _ _ _ _ (fun l a b => by rw [gt_set_ne _ _ _ _ (by omega), gt_zeroed _ _ _ _ hzl, if_neg (by omega)])
   have e2 : npr m h ((zeroed E j (E.drop (j + 1)).length).set j c) (j + 1) e (P.orders.length - (j + 1)) = e :=
    acc_zero _ _ _ _ _ (fun l a b => by
     rw [gt_set_ne _ _ _ _ (by omega), gt_zeroed _ _ _ _ hzl, if_pos ⟨by omega, by simp; omega⟩])
   rw [e1, e2, M.er _ (M.cl _ _ (hpre E) (hW _))]
  obtain ⟨e2, he2⟩ : ∃ e2, e2 = (if gt E j + 1 = gt P.orders j then tvec (tgen P f) (((zeroed E j (E.drop (j + 1)).length).set j (gt E j + 1)).set j 0) (gt P.powers j) else (zeroed E j (E.drop (j + 1)).length).set j (gt E j + 1)) := ⟨_, rfl⟩
  have h2 : Vec P.orders e2 ∧ npr m h e2 i e (P.orders.length - i) = m (m (npr m h E i e (j - i)) (iter (gt E j).toNat (fun y => m y (h j)) e)) (h j) := by
   have hs : m (npr m h E i e (j - i)) (iter (gt E j + 1).toNat (fun y => m y (h j)) e) = m (m (npr m h E i e (j - i)) (iter (gt E j).toNat (fun y => m y (h j)) e)) (h j) := by
    rw [show (gt E j + 1).toNat = (gt E j).toNat + 1 by omega]
    exact (M.ass _ _ _ (hpre E) (hW _) hsj).symm
   rw [he2]
   split
   ·rename_i hc
    rw [List.set_set]
    have hv0 : Vec P.orders ((zeroed E j (E.drop (j + 1)).length).set j 0) := hz.set j 0 ⟨by omega, fun _ => by omega⟩
    refine ⟨hvk _ (hP.pv j hj).1 (hP.pv j hj).2 _ hv0, ?_⟩
    rw [hvm _ (hP.pv j hj).1 (hP.pv j hj).2 _ hv0, hN3, ← H.pw j hij hj, ← hs, hc]
    show m (m _ e) _ = _
    rw [M.er _ (hpre E)]
   ·rename_i hc
    exact ⟨hz.set j _ ⟨by omega, fun _ => by omega⟩, by rw [hN3, hs]⟩
  have hdef : tgen P (f + 1) E j = tconjTo (tgen P f) (gt P.conj j) (E.drop (j + 1)) e2 (E.drop (j + 1)).length := by rw [he2]; rfl
  have hdl : (E.drop (j + 1)).length = P.orders.length - (j + 1) := by simp; omega
  rw [hdef, tconjTo_acc, hdl]
  have cQ : S (m (npr m h E i e (j - i)) (iter (gt E j).toNat (fun y => m y (h j)) e)) := M.cl _ _ (hpre E) (hW _)
  have hR := acc_rel (fun (y : α) (z : List Int) => S y ∧ Vec P.orders z ∧ npr m h z i e (P.orders.length - i) = m (m (m (npr m h E i e (j - i)) (iter (gt E j).toNat (fun y => m y (h j)) e)) y) (h j))
   (fun y l => m y (h l)) (fun y l => tvec (tgen P f) y (gt (gt P.conj j) (l - j - 1))) E (j + 1) e e2 (P.orders.length - (j + 1))
   ⟨M.one, h2.1, by rw [h2.2, M.er _ cQ]⟩ (by
    rintro y z l ⟨h3, h4, h5⟩ a b _
    have hc := (hP.cv j hj).2 (l - j - 1) (by omega)
    have hsl := hm l (by omega) (by omega)
    refine ⟨M.cl _ _ h3 hsl, hvk _ hc.1 hc.2 _ h4, ?_⟩
    rw [hvm _ hc.1 hc.2 _ h4, h5, M.ass _ _ _ (M.cl _ _ cQ h3) hsj (hT _), ← H.cj j l hij (by omega) (by omega), ← M.ass _ _ _ (M.cl _ _ cQ h3) hsl hsj, M.ass _ _ _ cQ h3 hsl])
  rw [hR.2.2, npr_three M hij hj hm (y := E)]
  rfl
theorem vd_tg {P : Pr} (hP : Valid P) (M : MonOn S m e) {h : Nat → α} {i : Nat} (H : Holds P S m e h i) (E : List Int) (j : Nat) (hE : Vec P.orders E) (hij : i ≤ j) (hj : j < P.orders.length) :
  npr m h (tg P E j) i e (P.orders.length - i) = m (npr m h E i e (P.orders.length - i)) (h j) := vd_gen hP M H _ E j hE hij hj (by omega)
theorem vd_tv {P : Pr} (hP : Valid P) (M : MonOn S m e) {h : Nat → α} {i : Nat} (hi : i ≤ P.orders.length) (H : Holds P S m e h i) (E F : List Int) (hE : Vec P.orders E) (hF : Vec P.orders F) (hz : ∀ k, k < i → gt F k = 0) :
  npr m h (tv P E F) i e (P.orders.length - i) = m (npr m h E i e (P.orders.length - i)) (npr m h F i e (P.orders.length - i)) := by
 have hm : ∀ j, i ≤ j → j < P.orders.length → S (h j) := H.mem
 have hN : ∀ y, S (npr m h y i e (P.orders.length - i)) := fun y => npr_cl M M.one (fun j a b => hm j a (by omega))
 unfold tv tvec
 rw [tvecTo_acc, hF.1, show P.orders.length = i + (P.orders.length - i) by omega, acc_split, acc_zero (tg P) F 0 E i (fun l _ b => hz l (by omega)), show 0 + i = i by omega,
  show i + (P.orders.length - i) = P.orders.length by omega]
 have hR := acc_rel (fun (y : α) (z : List Int) => S y ∧ Vec P.orders z ∧ npr m h z i e (P.orders.length - i) = y) (fun y l => m y (h l)) (tg P) F i (npr m h E i e (P.orders.length - i)) E (P.orders.length - i)
  ⟨hN E, hE, rfl⟩ (by
   rintro y z l ⟨h1, h2, h3⟩ a b _
   refine ⟨M.cl _ _ h1 (hm l (by omega) (by omega)), tg_vec hP z l h2 (by omega), ?_⟩
   rw [vd_tg hP M H z l h2 (by omega) (by omega), h3])
 rw [hR.2.2]
 exact npr_out M (hN E) (fun l a b => hm l (by omega) (by omega))
end
end Go.Proofs.YtmjkoejegfjbbaaGreat
namespace Go.Proofs.YtmjkoejegfjbbaaGreat
structure GrpOn {α : Type} (S : α → Prop) (m : α → α → α) (e : α) : Prop extends MonOn S m e where
 inv : ∀ x, S x → ∃ y, S y ∧ m x y = e ∧ m y x = e
section
variable {α : Type} {S : α → Prop} {m : α → α → α} {e : α}
theorem GrpOn.of_right (M : MonOn S m e) (h : ∀ x, S x → ∃ y, S y ∧ m x y = e) : GrpOn S m e := by
 refine ⟨M, fun x hx => ?_⟩
 obtain ⟨y, hy, h1⟩ := h x hx
 obtain ⟨z, hz, h2⟩ := h y hy
 have : x = z := by
  have h3 : m (m x y) z = m x (m y z) := M.ass x y z hx hy hz
  rw [h1, h2, M.el z hz, M.er x hx] at h3
  exact h3.symm
 exact ⟨y, hy, h1, by rw [this]; exact h2⟩
theorem GrpOn.cancel (G : GrpOn S m e) {a x y : α} (ha : S a) (hx : S x) (hy : S y) (h : m a x = m a y) : x = y := by
 obtain ⟨b, hb, _, h2⟩ := G.inv a ha
 have h3 : m b (m a x) = m b (m a y) := by rw [h]
 rw [← G.ass b a x hb ha hx, ← G.ass b a y hb ha hy, h2, G.el x hx, G.el y hy] at h3
 exact h3
theorem GrpOn.right_left (G : GrpOn S m e) {a b : α} (ha : S a) (hb : S b) (h : m a b = e) : m b a = e := by
 obtain ⟨c, hc, h1, h2⟩ := G.inv a ha
 have : b = c := G.cancel ha hb hc (by rw [h, h1])
 rw [this]; exact h2
theorem GrpOn.solve (G : GrpOn S m e) {a b x y : α} (ha : S a) (hb : S b) (hx : S x) (hy : S y) (hab : m a b = e) : m b x = y ↔ x = m a y := by
 have hba := G.right_left ha hb hab
 constructor
 ·intro h; rw [← h, ← G.ass a b x ha hb hx, hab, G.el x hx]
 ·intro h; rw [h, ← G.ass b a y hb ha hy, hba, G.el y hy]
def exm (m : α → α → α) (φ : α → α) (w : α) (o : Nat) (p q : Nat × α) : Nat × α :=
 if o ≤ p.1 + q.1 then (p.1 + q.1 - o, m w (m (iter q.1 φ p.2) q.2)) else (p.1 + q.1, m (iter q.1 φ p.2) q.2)
structure ExtOk (S : α → Prop) (m : α → α → α) (e : α) (φ : α → α) (w : α) (o : Nat) : Prop where
 o2 : 2 ≤ o
 grp : GrpOn S m e
 cl : ∀ x, S x → S (φ x)
 hom : ∀ x y, S x → S y → φ (m x y) = m (φ x) (φ y)
 wS : S w
 wφ : φ w = w
 root : ∀ x, S x → m w (iter o φ x) = m x w
variable {φ : α → α} {w : α} {o : Nat}
theorem ExtOk.icl (E : ExtOk S m e φ w o) (k : Nat) (x : α) (hx : S x) : S (iter k φ x) := iter_inv S φ E.cl k x hx
theorem ExtOk.ihom (E : ExtOk S m e φ w o) (k : Nat) (x y : α) (hx : S x) (hy : S y) : iter k φ (m x y) = m (iter k φ x) (iter k φ y) := by
 induction k with
 | zero => rfl
 | succ k ih => show φ (iter k φ (m x y)) = _; rw [ih]; exact E.hom _ _ (E.icl k x hx) (E.icl k y hy)
theorem ExtOk.iw (E : ExtOk S m e φ w o) (k : Nat) : iter k φ w = w := by
 induction k with
 | zero => rfl
 | succ k ih => show φ (iter k φ w) = w; rw [ih]; exact E.wφ
theorem ExtOk.one (E : ExtOk S m e φ w o) : φ e = e := by
 have h := E.hom e e E.grp.one E.grp.one
 rw [E.grp.el e E.grp.one] at h
 have c := E.cl e E.grp.one
 exact (E.grp.cancel c E.grp.one c (by rw [E.grp.er _ c]; exact h)).symm
theorem ExtOk.ione (E : ExtOk S m e φ w o) (k : Nat) : iter k φ e = e := by
 induction k with
 | zero => rfl
 | succ k ih => show φ (iter k φ e) = e; rw [ih]; exact E.one
theorem ExtOk.draw (E : ExtOk S m e φ w o) (k : Nat) (hk : o ≤ k) (x : α) (hx : S x) : m (iter (k - o) φ x) w = m w (iter k φ x) := by
 rw [← E.root _ (E.icl _ x hx), ← iter_add, show o + (k - o) = k by omega]
def ExS (S : α → Prop) (o : Nat) (p : Nat × α) : Prop := p.1 < o ∧ S p.2
theorem ExtOk.exm_cl (E : ExtOk S m e φ w o) (p q : Nat × α) (hp : ExS S o p) (hq : ExS S o q) : ExS S o (exm m φ w o p q) := by
 obtain ⟨a, x⟩ := p
 obtain ⟨b, y⟩ := q
 obtain ⟨ha, hx⟩ := hp
 obtain ⟨hb, hy⟩ := hq
 have c := E.grp.cl _ _ (E.icl b x hx) hy
 simp only at ha hb hx hy
 unfold exm
 simp only
 split
 ·exact ⟨by show a + b - o < o; omega, E.grp.cl _ _ E.wS c⟩
 ·exact ⟨by show a + b < o; omega, c⟩
theorem ExtOk.exm_ass (E : ExtOk S m e φ w o) (p q r : Nat × α) (hp : ExS S o p) (hq : ExS S o q) (hr : ExS S o r) : exm m φ w o (exm m φ w o p q) r = exm m φ w o p (exm m φ w o q r) := by
 obtain ⟨a, x⟩ := p
 obtain ⟨b, y⟩ := q
 obtain ⟨c, z⟩ := r
 obtain ⟨ha, hx⟩ := hp
 obtain ⟨hb, hy⟩ := hq
 obtain ⟨hc, hz⟩ := hr
 simp only at ha hb hc hx hy hz
 have M := E.grp.toMonOn
 have cw := E.wS
 have c1 := E.icl b x hx
 have c2 := E.icl c _ c1
 have c3 := E.icl c y hy
 have c4 := M.cl _ _ c1 hy
 have c5 := M.cl _ _ c3 hz
 -- the left side's inner part, and the right side's
 have hL : iter c φ (m (iter b φ x) y) = m (iter c φ (iter b φ x)) (iter c φ y) := E.ihom c _ _ c1 hy
 have hLw : iter c φ (m w (m (iter b φ x) y)) = m w (m (iter c φ (iter b φ x)) (iter c φ y)) := by rw [E.ihom c _ _ cw c4, E.iw, hL]
 have hbc : iter (b + c) φ x = iter c φ (iter b φ x) := by rw [Nat.add_comm, iter_add]
 have c6 := M.cl _ _ c2 c3
 have hK : m (m (iter c φ (iter b φ x)) (iter c φ y)) z = m (iter c φ (iter b φ x)) (m (iter c φ y) z) := M.ass _ _ _ c2 c3 hz
 have hKw : m (m w (m (iter c φ (iter b φ x)) (iter c φ y))) z = m w (m (iter c φ (iter b φ x)) (m (iter c φ y) z)) := by rw [M.ass _ _ _ cw c6 hz, hK]
 have hR : o ≤ b + c → m (iter (b + c - o) φ x) (m w (m (iter c φ y) z)) = m w (m (iter c φ (iter b φ x)) (m (iter c φ y) z)) := by
  intro h
  rw [← M.ass _ _ _ (E.icl _ x hx) cw c5, E.draw _ h x hx, hbc, M.ass _ _ _ cw c2 c5]
 unfold exm
 by_cases e1 : o ≤ a + b
 ·by_cases d1 : o ≤ b + c
  ·simp only [if_pos e1, if_pos d1]
   by_cases e2 : o ≤ a + b - o + c
   ·have d2 : o ≤ a + (b + c - o) := by omega
    simp only [if_pos e2, if_pos d2]
    rw [hLw, hKw, hR d1, show a + b - o + c - o = a + (b + c - o) - o by omega]
   ·have d2 : ¬ o ≤ a + (b + c - o) := by omega
    simp only [if_neg e2, if_neg d2]
    rw [hLw, hKw, hR d1, show a + b - o + c = a + (b + c - o) by omega]
  ·simp only [if_pos e1, if_neg d1]
   have e2 : ¬ o ≤ a + b - o + c := by omega
   have d2 : o ≤ a + (b + c) := by omega
   simp only [if_neg e2, if_pos d2]
   rw [hLw, hKw, hbc, show a + b - o + c = a + (b + c) - o by omega]
 ·by_cases d1 : o ≤ b + c
  ·simp only [if_neg e1, if_pos d1]
   have e2 : o ≤ a + b + c := by omega
   have d2 : ¬ o ≤ a + (b + c - o) := by omega
   simp only [if_pos e2, if_neg d2]
   rw [hL, hK, hR d1, show a + b + c - o = a + (b + c - o) by omega]
  ·simp only [if_neg e1, if_neg d1]
   by_cases e2 : o ≤ a + b + c
   ·have d2 : o ≤ a + (b + c) := by omega
    simp only [if_pos e2, if_pos d2]
    rw [hL, hK, hbc, show a + b + c - o = a + (b + c) - o by omega]
   ·have d2 : ¬ o ≤ a + (b + c) := by omega
    simp only [if_neg e2, if_neg d2]
    rw [hL, hK, hbc, show a + b + c = a + (b + c) by omega]
theorem ExtOk.group (E : ExtOk S m e φ w o) : GrpOn (ExS S o) (exm m φ w o) (0, e) := by
 have M := E.grp.toMonOn
 have ho := E.o2
 have hM : MonOn (ExS S o) (exm m φ w o) (0, e) := by
  refine ⟨E.exm_cl, ⟨by show 0 < o; omega, M.one⟩, E.exm_ass, ?_, ?_⟩
  ·rintro ⟨a, x⟩ ⟨ha, hx⟩
   simp only at ha hx
   unfold exm
   simp only [Nat.zero_add, if_neg (by omega : ¬ o ≤ a), E.ione, M.el x hx]
  ·rintro ⟨a, x⟩ ⟨ha, hx⟩
   simp only at ha hx
   unfold exm
   simp only [Nat.add_zero, if_neg (by omega : ¬ o ≤ a)]
   show (a, m x e) = (a, x)
   rw [M.er x hx]
 refine GrpOn.of_right hM ?_
 rintro ⟨a, x⟩ ⟨ha, hx⟩
 simp only at ha hx
 by_cases h0 : a = 0
 ·subst h0
  obtain ⟨y, hy, h1, _⟩ := E.grp.inv x hx
  refine ⟨(0, y), ⟨by show 0 < o; omega, hy⟩, ?_⟩
  unfold exm
  simp only [Nat.add_zero, if_neg (by omega : ¬ o ≤ 0)]
  show (0, m x y) = (0, e)
  rw [h1]
 ·obtain ⟨y, hy, h1, _⟩ := E.grp.inv _ (M.cl _ _ E.wS (E.icl (o - a) x hx))
  refine ⟨(o - a, y), ⟨by show o - a < o; omega, hy⟩, ?_⟩
  unfold exm
  simp only [if_pos (by omega : o ≤ a + (o - a))]
  rw [← M.ass _ _ _ E.wS (E.icl _ x hx) hy, h1, show a + (o - a) - o = 0 by omega]
theorem GrpOn.carry {β : Type} {S' : β → Prop} {m' : β → β → β} {e' : β} (G : GrpOn S m e) (f : α → β) (hS : ∀ x, S x → S' (f x)) (hsur : ∀ y, S' y → ∃ x, S x ∧ f x = y) (he : f e = e')
  (hm : ∀ x y, S x → S y → m' (f x) (f y) = f (m x y)) : GrpOn S' m' e' := by
 subst he
 refine ⟨⟨?_, hS e G.one, ?_, ?_, ?_⟩, ?_⟩
 ·intro x y hx hy
  obtain ⟨a, ha, rfl⟩ := hsur x hx
  obtain ⟨b, hb, rfl⟩ := hsur y hy
  rw [hm a b ha hb]; exact hS _ (G.cl _ _ ha hb)
 ·intro x y z hx hy hz
  obtain ⟨a, ha, rfl⟩ := hsur x hx
  obtain ⟨b, hb, rfl⟩ := hsur y hy
  obtain ⟨c, hc, rfl⟩ := hsur z hz
  rw [hm a b ha hb, hm _ c (G.cl _ _ ha hb) hc, hm b c hb hc, hm a _ ha (G.cl _ _ hb hc), G.ass a b c ha hb hc]
 ·intro x hx
  obtain ⟨a, ha, rfl⟩ := hsur x hx
  rw [hm e a G.one ha, G.el a ha]
 ·intro x hx
  obtain ⟨a, ha, rfl⟩ := hsur x hx
  rw [hm a e ha G.one, G.er a ha]
 ·intro x hx
  obtain ⟨a, ha, rfl⟩ := hsur x hx
  obtain ⟨b, hb, h1, h2⟩ := G.inv a ha
  exact ⟨f b, hS b hb, by rw [hm a b ha hb, h1], by rw [hm b a hb ha, h2]⟩
end
end Go.Proofs.YtmjkoejegfjbbaaGreat
