/-
  Drawing: spec.l07Trivial.
  Drawing: a presentation under way in a variable, of which only the shape counts.
  A power or a conjugate is put into a presentation that may be written: what can be read behind it.
  The reference's closure: spec.l01Own2, l01Inv, l10Comm, l12Close.
  Drawing: spec.l07Own.
  Drawing: spec.l02Times, spec.l02Product.
  Drawing: spec.l07Vector.
-/
import Derived.Test.YtoakmefajbbggaaGreatR1
import Derived.Test.YtoakmefajbbggaaGreatR4
import Derived.Test.YtoakmefajbbggaaGreatR5
import Derived.Test.YtoakmefajbbggaaGreatR6
import Derived.Test.YtoakmefajbbggaaGreatR7
import Derived.Test.YtoakmefajbbggaaGreatR8
import Derived.Deep.RegionLaw
import Derived.Deep.DrawnRows
import Derived.Deep.RegionHeld3
namespace Go.Proofs.YtoakmefajbbggaaGreat
open Go.RowKit
attribute [local go_sem ↓] Go.wp_at_zero Go.wp_at_succ

/-- a presentation by value all of whose parts lie in blocks from B on -/
def PresR (B : Nat) (P : Pr) (w' : World) (v : Value) : Prop := ∃ vo vp vc, v = .agg #[vo, vp, vc] ∧ PresX (From B) w' vo vp vc P

/-- the parts of a presentation under way -/
structure Part3 (F : Nat → Prop) (w : World) (vo vp vc : Value) (P : Pr) (Fo Fp Fc : Nat → Prop) : Prop where
  o : OwnIn Fo w vo P.orders
  p : RowsI Fp w vp P.powers
  c : Rows3I Fc w vc P.conj
  do_ : ∀ k, Fo k → F k ∧ ¬ Fp k ∧ ¬ Fc k
  dp : ∀ k, Fp k → F k ∧ ¬ Fc k
  dc : ∀ k, Fc k → F k
theorem PresX.part {F : Nat → Prop} {w : World} {vo vp vc : Value} {P : Pr} (h : PresX F w vo vp vc P) : ∃ Fo Fp Fc, Part3 F w vo vp vc P Fo Fp Fc := by
  obtain ⟨Fo, Fp, Fc, h1, h2, h3, h4, h5, h6⟩ := h
  exact ⟨Fo, Fp, Fc, h1, h2, h3, h4, h5, h6⟩

theorem SlI.sl {α : Type} [Inhabited α] {El : (Nat → Prop) → World → Value → α → Prop} {E : Nat} {F : Nat → Prop} {w : World} {v : Value} {xs : List α} (h : SlI El E F w v xs) : ∃ a n c, v = .slice a n c ∧ n = xs.length := by
  rcases h.form with ⟨rfl, rfl⟩ | ⟨g, cap, rfl, _⟩
  · exact ⟨_, _, _, rfl, rfl⟩
  · exact ⟨_, _, _, rfl, rfl⟩
theorem PresX.sh2 {F : Nat → Prop} {w : World} {vo vp vc : Value} {P : Pr} (h : PresX F w vo vp vc P) : ∃ a2 n2 c2 a3 n3 c3, vp = .slice a2 n2 c2 ∧ vc = .slice a3 n3 c3 ∧ n2 = P.powers.length ∧ n3 = P.conj.length := by
  obtain ⟨_, _, a2, c2, a3, c3, _, h2, h3⟩ := h.shape
  exact ⟨a2, _, c2, a3, _, c3, h2, h3, rfl, rfl⟩

/-- the powers are put anew -/
theorem Part3.newP {F : Nat → Prop} {w w' : World} {vo vp vc v' : Value} {P : Pr} {Fo Fp Fc : Nat → Prop} (h : Part3 F w vo vp vc P Fo Fp Fc) {L : List (List Int)} (hR : RowsI (fun k => Fp k ∨ w.heap.size ≤ k) w' v' L) (hT : w.grownBy w' vp.ownBlock) :
    PresX (fun k => F k ∨ w.heap.size ≤ k) w' vo v' vc { P with powers := L } := by
  have hv : ∀ k, vp.ownBlock = some k → Fp k := by
    obtain ⟨_, _, _, _, _, h1, _⟩ := h.p
    exact h1
  refine ⟨fun k => Fo k ∧ k < w.heap.size, fun k => Fp k ∧ k < w.heap.size ∨ w.heap.size ≤ k, fun k => Fc k ∧ k < w.heap.size,
    rdOwn.mono h.o (fun k hk hlt => ⟨⟨hk, hlt⟩, Nat.lt_of_lt_of_le hlt hT.size, hT.block k hlt (fun e => (h.do_ k hk).2.1 (hv k e.symm))⟩),
    rdRowsI.mono hR (fun k hk hlt => ⟨?_, hlt, rfl⟩),
    rdRows3I.mono h.c (fun k hk hlt => ⟨⟨hk, hlt⟩, Nat.lt_of_lt_of_le hlt hT.size, hT.block k hlt (fun e => (h.dp k (hv k e.symm)).2 hk)⟩),
    fun k hk => ⟨.inl (h.do_ k hk.1).1, fun e => ?_, fun e => (h.do_ k hk.1).2.2 e.1⟩, fun k hk => ⟨?_, fun e => ?_⟩, fun k hk => .inl (h.dc k hk.1)⟩
  · rcases hk with hk | hk
    · rcases Nat.lt_or_ge k w.heap.size with h | h
      · exact .inl ⟨hk, h⟩
      · exact .inr h
    · exact .inr hk
  · rcases e with e | e
    · exact (h.do_ k hk.1).2.1 e.1
    · omega
  · rcases hk with hk | hk
    · exact .inl (h.dp k hk.1).1
    · exact .inr hk
  · rcases hk with hk | hk
    · exact (h.dp k hk.1).2 e.1
    · omega
/-- the conjugates are put anew -/
theorem Part3.newC {F : Nat → Prop} {w w' : World} {vo vp vc v' : Value} {P : Pr} {Fo Fp Fc : Nat → Prop} (h : Part3 F w vo vp vc P Fo Fp Fc) {L : List (List (List Int))} (hR : Rows3I (fun k => Fc k ∨ w.heap.size ≤ k) w' v' L) (hT : w.grownBy w' vc.ownBlock) :
    PresX (fun k => F k ∨ w.heap.size ≤ k) w' vo vp v' { P with conj := L } := by
  have hv : ∀ k, vc.ownBlock = some k → Fc k := by
    obtain ⟨_, _, _, _, _, h1, _⟩ := h.c
    exact h1
  refine ⟨fun k => Fo k ∧ k < w.heap.size, fun k => Fp k ∧ k < w.heap.size, fun k => Fc k ∧ k < w.heap.size ∨ w.heap.size ≤ k,
    rdOwn.mono h.o (fun k hk hlt => ⟨⟨hk, hlt⟩, Nat.lt_of_lt_of_le hlt hT.size, hT.block k hlt (fun e => (h.do_ k hk).2.2 (hv k e.symm))⟩),
    rdRowsI.mono h.p (fun k hk hlt => ⟨⟨hk, hlt⟩, Nat.lt_of_lt_of_le hlt hT.size, hT.block k hlt (fun e => (h.dp k hk).2 (hv k e.symm))⟩),
    rdRows3I.mono hR (fun k hk hlt => ⟨?_, hlt, rfl⟩),
    fun k hk => ⟨.inl (h.do_ k hk.1).1, fun e => (h.do_ k hk.1).2.1 e.1, fun e => ?_⟩, fun k hk => ⟨.inl (h.dp k hk.1).1, fun e => ?_⟩, fun k hk => ?_⟩
  · rcases hk with hk | hk
    · rcases Nat.lt_or_ge k w.heap.size with h | h
      · exact .inl ⟨hk, h⟩
      · exact .inr h
    · exact .inr hk
  · rcases e with e | e
    · exact (h.do_ k hk.1).2.2 e.1
    · omega
  · rcases e with e | e
    · exact (h.dp k hk.1).2 e.1
    · omega
  · rcases hk with hk | hk
    · exact .inl (h.dc k hk.1)
    · exact .inr hk

theorem presX_start {w : World} {vo : Value} {o : List Int} {B : Nat} (h : Own B w vo o) (hl : o.length ≤ 1000) : PresX (From B) w vo (.slice none 0 0) (.slice none 0 0) ⟨o, [], []⟩ :=
  ⟨fun k => vo.ownBlock = some k, fun _ => False, fun _ => False, ⟨h.weak (Nat.zero_le _), fun _ hk => hk, by show o.length ≤ _; omega⟩,
    ⟨[], fun _ _ => False, rfl, by simp, World.ownsRow_nil _ _ _ _, by simp [Value.ownBlock], by simp, by simp, by simp⟩, ⟨[], fun _ _ => False, rfl, by simp, World.ownsRow_nil _ _ _ _, by simp [Value.ownBlock], by simp, by simp, by simp⟩,
    fun k hk => ⟨(h.lt k hk).1, fun h => h, fun h => h⟩, fun _ h => h.elim, fun _ h => h.elim⟩

set_option maxRecDepth 100000 in
set_option maxHeartbeats 2000000 in
theorem l07Trivial_ok (w : World) (ov : Value) (o : List Int) (S : Nat → Prop) (ho : Ints S w ov o) (hl : o.length ≤ 100) :
    Calls Tryz.prog 222 #[ov] w (Ret w (PresR w.heap.size (trivP o))) := by
  obtain ⟨ao, capo, rfl, _, _⟩ := ho.shape
  have hg0 : Ext w (w.alloc (.cells #[.slice none 0 0, .slice none 0 0, .slice none 0 0] 28)) := World.grownBy_alloc _ _ _
  have hR0 := Box3.made w 28 (.slice none 0 0) (.slice none 0 0) (.slice none 0 0)
  have hcon := l01Own_ok (w.alloc (.cells #[.slice none 0 0, .slice none 0 0, .slice none 0 0] 28)) _ o S (ho.ext hg0) (by omega)
  have HR0 := Lib.hid hR0; clear hR0
  go_enter Tryz.func222, Tryz.ntmps222
  go_wp2_with fail
  have hs0 : (w.alloc (.cells #[.slice none 0 0, .slice none 0 0, .slice none 0 0] 28)).heap.size = w.heap.size + 1 := by simp
  rw [hs0] at hcon
  generalize w.alloc (.cells #[.slice none 0 0, .slice none 0 0, .slice none 0 0] 28) = w0 at *
  refine Calls.mono hcon ?_
  rintro e1 w1 ⟨v1, rfl, hg1, hO1⟩
  clear hcon
  obtain ⟨a1, c1, hv1, _⟩ := (hO1.ints (by omega)).shape
  subst hv1
  go_wp2_with fail
  have hB2 := Box3.made w1 28 (.slice a1 o.length c1) (.slice none 0 0) (.slice none 0 0)
  have hg2 : Ext w1 (w1.alloc (.cells #[.slice a1 o.length c1, .slice none 0 0, .slice none 0 0] 28)) := World.grownBy_alloc _ _ _
  have hX2 : PresX (fun k => w.heap.size + 1 ≤ k ∧ k ≠ w1.heap.size) (w1.alloc (.cells #[.slice a1 o.length c1, .slice none 0 0, .slice none 0 0] 28)) (.slice a1 o.length c1) (.slice none 0 0) (.slice none 0 0) ⟨o, [], []⟩ :=
    (presX_start hO1 (by omega)).mono (fun k hk hlt => ⟨⟨hk, by omega⟩, Nat.lt_of_lt_of_le hlt hg2.size, hg2.block k hlt (by simp)⟩)
  have hs1 := hg1.size
  have HH := Lib.hid (And.intro hs0 hs1); clear hs0 hs1 hO1
  generalize w1.alloc (.cells #[.slice a1 o.length c1, .slice none 0 0, .slice none 0 0] 28) = w2 at *
  go_loopw [5] (fun iv wr => ∃ (i : Nat) (vp vc : Value), iv = .int .i64 i ∧ i ≤ o.length ∧ Ext w0 wr ∧ Box3 wr w1.heap.size (.slice a1 o.length c1) vp vc ∧
    PresX (fun k => w.heap.size + 1 ≤ k ∧ k ≠ w1.heap.size) wr (.slice a1 o.length c1) vp vc ⟨o, List.replicate i (zeros o.length), (List.range i).map (trivC o.length)⟩) (fun iv _ => o.length - (intOf iv).toNat)
  case atStart => exact ⟨0, _, _, rfl, by omega, grown_trans hg1 hg2, hB2, hX2⟩
  case round =>
    clear hB2 hX2
    obtain ⟨i, vp, vc, rfl, hi, hg, hB, hX⟩ := hrel
    by_cases hlt : i < o.length
    · have hlt' : (i : Int) < o.length := by omega
      obtain ⟨Fo, Fp, Fc, hP⟩ := hX.part
      obtain ⟨a2, n2, c2, a3, n3, c3, rfl, rfl, hn2, hn3⟩ := hX.sh2
      have hnb : (Value.slice a2 n2 c2).ownBlock ≠ some w1.heap.size := by
        obtain ⟨_, _, _, _, _, q1, _⟩ := hP.p
        exact fun e => (hP.dp _ (q1 _ e)).1.2 rfl
      have HN := Lib.hid (And.intro hn2 (And.intro hnb hn3)); clear hn2 hn3 hnb
      obtain ⟨h0, h1, h2, h3, h4⟩ := id hB
      have hmk := run_mk_ints o.length (by omega)
      have hgM : Ext wr (wr.alloc (.cells (madeCells #[.int .i64 0] o.length) 2)).drew := grown_trans (World.grownBy_alloc _ _ _) (grown_drew _ _)
      have hOM : OwnIn (From wr.heap.size) (wr.alloc (.cells (madeCells #[.int .i64 0] o.length) 2)).drew (.slice (some ⟨wr.heap.size, 0, none⟩) o.length o.length) (zeros o.length) := by
        have := (own_mk_ints o.length (by omega) wr).ext0 (grown_drew _ none)
        exact OwnIn.of this (by rw [zeros_len]; omega) (fun k hk _ => hk)
      have hpl : (List.replicate i (zeros o.length)).length ≤ 1000000 := by simp; omega
      have hxs : (Value.slice (some ⟨wr.heap.size + 1, 0, none⟩) 1 1) = .slice (some ⟨(wr.alloc (.cells (madeCells #[.int .i64 0] o.length) 2)).drew.heap.size, 0, none⟩) 1 1 := by simp
      have HM := Lib.hid (And.intro hgM (And.intro hOM (And.intro hpl hxs))); clear hgM hOM hpl hxs
      go_wp2_with fail
      go_region_law (refine step_app_I rdOwn 25 (.slice none 0 0) 24 und_rows Tryz.infoRow rfl (by decide) (by rfl) _ _ (by rfl) Fp wr (wr.alloc (.cells (madeCells #[.int .i64 0] o.length) 2)).drew _ _ (List.replicate i (zeros o.length)) (zeros o.length) (by rfl) hP.p HM.out.1 HM.out.2.1 (by rfl) (by exact HM.out.2.2.2) HM.out.2.2.1 ?_; intro v5 w5 hO5 hg5 hg6; obtain ⟨g5, m5, k5, rfl, hm5⟩ := SlI.sl hO5; have hm6 : m5 = i + 1 := (by rw [hm5]; simp); clear hm5; subst hm6; have hB5 := Box3.keep hB hg5.size (hg5.block _ hB.1 (fun e => HN.out.2.1 e.symm)); obtain ⟨f0, f1, f2, f3, f4⟩ := id hB5)
      all_goals
        have hB6 := (hB5.put (.slice g5 (i + 1) k5)).2.1
        have hT6 := grown_set w5 w1.heap.size 1 (.slice g5 (i + 1) k5)
        have hX6 : PresX (fun k => w.heap.size + 1 ≤ k ∧ k ≠ w1.heap.size) (w5.setCell ⟨w1.heap.size, 1, none⟩ (.slice g5 (i + 1) k5)) (.slice a1 o.length c1) (.slice g5 (i + 1) k5) (.slice a3 n3 c3) ⟨o, List.replicate (i + 1) (zeros o.length), (List.range i).map (trivC o.length)⟩ := by
          have hX5 := hP.newP hO5 hg5
          rw [show List.replicate (i + 1) (zeros o.length) = List.replicate i (zeros o.length) ++ [zeros o.length] from List.replicate_succ']
          exact hX5.mono (frame_of hT6 (fun k hk hlt => by
            have hk' : (w.heap.size + 1 ≤ k ∧ k ≠ w1.heap.size) ∨ wr.heap.size ≤ k := hk
            refine ⟨?_, fun e => ?_⟩
            · have := HH.out; have := hB.1
              omega
            · cases e; have := hB.1; omega))
        have hg06 : Ext w0 (w5.setCell ⟨w1.heap.size, 1, none⟩ (.slice g5 (i + 1) k5)) := grown_own (grown_own hg hg5 (fun j hj hlt => by
          obtain ⟨_, _, _, _, _, q1, _⟩ := hP.p
          have := (hP.dp _ (q1 _ hj)).1; have := HH.out; omega)) hT6 (fun j hj hlt => by cases hj; have := HH.out; omega)
        have hsz6 : w5.heap.size = (w5.setCell ⟨w1.heap.size, 1, none⟩ (.slice g5 (i + 1) k5)).heap.size := by simp
        have HZ6 := Lib.hid hsz6; clear hsz6
        have HM6 := Lib.hid (And.intro hB6 (And.intro hX6 hg06)); clear hB6 hX6 hg06 hT6 hB5 hO5 hg5 hg6 hP hX hB hg h0 h1 h2 h3 h4 HM HN hmk
        go_wp2
        clear f0 f1 f2 f3 f4
        generalize w5.setCell ⟨w1.heap.size, 1, none⟩ (.slice g5 (i + 1) k5) = w6 at *
        rw [HZ6.out]
        clear HZ6
        have hg7 : Ext w6 (w6.alloc (.cells #[] 24)) := World.grownBy_alloc _ _ _
        have hO7 : RowsO w6.heap.size (w6.alloc (.cells #[] 24)) (.slice (some ⟨w6.heap.size, 0, none⟩) 0 0) ((trivC o.length i).take 0) := ⟨[], fun _ _ => False, rfl, World.ownsRow_lit w6 #[] 0 (Nat.le_refl _) (by decide) rfl, by simp, by simp, by simp⟩
        have hcl := trivC_len o.length i
        have HC := Lib.hid hcl; clear hcl
        go_loopw [6, 7] (fun rv jv wr => ∃ (j : Nat) (v4 : Value), v4 = rv ∧ jv = .int .i64 ((i + 1 + j : Nat) : Int) ∧ i + 1 + j ≤ o.length ∧ Ext w6 wr ∧ RowsO w6.heap.size wr v4 ((trivC o.length i).take j)) (fun _ jv _ => o.length - (intOf jv).toNat)
        case atStart => exact ⟨0, _, rfl, by go_num, by omega, hg7, hO7⟩
        case round =>
          clear hO7 hg7
          obtain ⟨j, v4, rfl, rfl, hj, hgj, hO⟩ := hrel
          by_cases hltj : i + 1 + j < o.length
          · have hltj' : ((i + 1 + j : Nat) : Int) < o.length := by omega
            have hstep : (trivC o.length i).take (j + 1) = (trivC o.length i).take j ++ [unitV o.length (i + 1 + j)] := by
              rw [take_succ_gt _ j (by rw [HC.out]; omega)]
              unfold trivC
              rw [gt_map _ _ _ (by simp; omega), gt_eq _ _ (by simp; omega), List.getElem_range]
            have htl : ((trivC o.length i).take j).length ≤ 1000000 := by rw [List.length_take]; omega
            have HS := Lib.hid (And.intro hstep htl); clear hstep htl
            go_wp2_with fail
            refine Calls.mono (l07Unit_ok o.length (i + 1 + j) wr hltj (by omega)) ?_
            rintro eC wC ⟨vC, rfl, hgC, hOC⟩
            have hYO : OwnIn (From wr.heap.size) wC vC (unitV o.length (i + 1 + j)) := OwnIn.of hOC (by rw [unitV_len]; omega) (fun j h1 _ => h1)
            obtain ⟨ay, capy, hvy, _, _⟩ := hYO.ints.shape
            subst hvy
            go_wp2_with (first | (at_builtin; refine wp_app_row rfl _ _ rfl w6.heap.size wr wC v4 _ ((trivC o.length i).take j) (unitV o.length (i + 1 + j)) rfl hO hgC hYO rfl rfl HS.out.2 hgj.size ?_; intro v5 w5 hO5 hg5 hg6; have hgw5 := hO.extw hgj (Nat.le_refl _) hg5) | fail)
            go_roundw
            case rel => exact ⟨j + 1, v5, rfl, by go_num, by omega, hgw5, by rw [HS.out.1]; exact hO5⟩
            case measure => simp [intOf]; omega
          · have hje : j = o.length - 1 - i := by omega
            subst hje
            rw [List.take_of_length_le (by rw [HC.out]; exact Nat.le_refl _)] at hO
            have hRI : RowsI (From w6.heap.size) wr v4 (trivC o.length i) := SlI.of hO (by rw [HC.out]; omega) (fun k h _ => h)
            have hB7 := HM6.out.1.ext hgj
            obtain ⟨Fo, Fp, Fc, hP⟩ := HM6.out.2.1.part
            have hcl3 : ((List.range i).map (trivC o.length)).length ≤ 1000000 := by simp; omega
            obtain ⟨a4, n4, c4, rfl, hn4⟩ := SlI.sl hRI
            have hnb : (Value.slice a3 n3 c3).ownBlock ≠ some w1.heap.size := by
              obtain ⟨_, _, _, _, _, q1, _⟩ := hP.c
              exact fun e => (hP.dc _ (q1 _ e)).2 rfl
            have HR := Lib.hid (And.intro hcl3 (And.intro hn4 hnb)); clear hcl3 hn4 hO hnb
            obtain ⟨f0, f1, f2, f3, f4⟩ := id hB7
            go_wp2_with (first | (at_builtin; refine wp_app_I (rdI rdOwn) 26 (.slice none 0 0) 24 und_rows3 Tryz.infoRows rfl (by decide) rfl _ _ rfl Fc w6 wr _ _ ((List.range i).map (trivC o.length)) (trivC o.length i) rfl hP.c hgj hRI rfl rfl HR.out.1 ?_; intro v8 w8 hO8 hg8 hg9; obtain ⟨g8, m8, k8, rfl, hm8⟩ := SlI.sl hO8; clear hm8; have hB8 := Box3.keep hB7 hg9.size (hg9.block _ hB7.1 (fun e => HR.out.2.2 e.symm)); clear f0 f1 f2 f3 f4; obtain ⟨f0, f1, f2, f3, f4⟩ := id hB8) | fail)
            have hB9 := (hB8.put (.slice g8 m8 k8)).2.2
            have hT9 := grown_set w8 w1.heap.size 2 (.slice g8 m8 k8)
            have hX9 : PresX (fun k => w.heap.size + 1 ≤ k ∧ k ≠ w1.heap.size) (w8.setCell ⟨w1.heap.size, 2, none⟩ (.slice g8 m8 k8)) (.slice a1 o.length c1) (.slice g5 (i + 1) k5) (.slice g8 m8 k8) ⟨o, List.replicate (i + 1) (zeros o.length), (List.range (i + 1)).map (trivC o.length)⟩ := by
              have hX8 := hP.newC hO8 hg8
              rw [show (List.range (i + 1)).map (trivC o.length) = (List.range i).map (trivC o.length) ++ [trivC o.length i] by rw [List.range_succ, List.map_append]; rfl]
              exact hX8.mono (frame_of hT9 (fun k hk hlt => by
                have hk' : (w.heap.size + 1 ≤ k ∧ k ≠ w1.heap.size) ∨ w6.heap.size ≤ k := hk
                have h1 := HM6.out.1.1
                refine ⟨?_, fun e => ?_⟩
                · have := HH.out
                  omega
                · cases e; omega))
            have hg09 : Ext w0 (w8.setCell ⟨w1.heap.size, 2, none⟩ (.slice g8 m8 k8)) := grown_own (grown_own HM6.out.2.2 hg8 (fun j hj hlt => by
              obtain ⟨_, _, _, _, _, q1, _⟩ := hP.c
              have := hP.dc _ (q1 _ hj); have := HH.out; omega)) hT9 (fun j hj hlt => by cases hj; have := HH.out; omega)
            clear f0 f1 f2 f3 f4
            go_roundw
            case rel => exact ⟨i + 1, _, _, by go_num, by omega, hg09, hB9, hX9⟩
            case measure => simp [intOf]; omega
        done
    · have hie : i = o.length := by omega
      subst hie
      have hz := HR0.out.ext hg
      obtain ⟨a2, n2, c2, a3, n3, c3, rfl, rfl, hn2, hn3⟩ := hX.sh2
      clear hn2 hn3
      obtain ⟨h0, h1, h2, h3, h4⟩ := id hB
      obtain ⟨k0, k1, k2, k3, k4⟩ := id hz
      have hZ := hz.all (.slice a1 o.length c1) (.slice a2 n2 c2) (.slice a3 n3 c3)
      have hT := grown_set3 wr w.heap.size (.slice a1 o.length c1) (.slice a2 n2 c2) (.slice a3 n3 c3)
      obtain ⟨_, z0, z1, z2, _⟩ := id hZ
      have HT := Lib.hid hT; clear hT hZ
      go_wp2
      refine bodyPost_ret (v := .agg #[.slice a1 o.length c1, .slice a2 n2 c2, .slice a3 n3 c3]) (by simp [results, Tryz.results222, go_sem, z0, z1, z2]) rfl ?_
      exact ⟨_, rfl, grown_own (grown_trans hg0 hg) HT.out (fun j hj hlt => by cases hj; omega), _, _, _, rfl, hX.mono (frame_of HT.out (fun k hk _ => ⟨by show w.heap.size ≤ k; omega, fun e => by cases e; omega⟩))⟩

end Go.Proofs.YtoakmefajbbggaaGreat
namespace Go.Proofs.YtoakmefajbbggaaGreat
open Go.RowKit

/-- some presentation with given orders, all of whose parts may be written -/
def PX (N : Nat) (o : List Int) (F : Nat → Prop) (w : World) (vo vp vc : Value) : Prop := ∃ P, Shp N P ∧ P.orders = o ∧ PresX F w vo vp vc P

/-- it lies in the variable at pb -/
structure BX (N : Nat) (o : List Int) (B pb : Nat) (w : World) (vo vp vc : Value) : Prop where
  hB : B ≤ pb
  box : Box3 w pb vo vp vc
  px : PX N o (fun k => B ≤ k ∧ k ≠ pb) w vo vp vc

theorem PX.ext {N : Nat} {o : List Int} {F : Nat → Prop} {w w' : World} {vo vp vc : Value} (h : PX N o F w vo vp vc) (hg : Ext w w') : PX N o F w' vo vp vc := by
  obtain ⟨P, h1, h2, h3⟩ := h
  exact ⟨P, h1, h2, h3.mono (fun k hk hlt => ⟨hk, Nat.lt_of_lt_of_le hlt hg.size, hg.block k hlt (by simp)⟩)⟩
theorem BX.ext {N : Nat} {o : List Int} {B pb : Nat} {w w' : World} {vo vp vc : Value} (h : BX N o B pb w vo vp vc) (hg : Ext w w') : BX N o B pb w' vo vp vc := ⟨h.hB, h.box.ext hg, h.px.ext hg⟩
theorem BX.storeP {N : Nat} {o : List Int} {B pb : Nat} {w : World} {vo vp vc : Value} (h : BX N o B pb w vo vp vc) (i : Nat) (hi : i < o.length) :
    ∃ g cap z, vp = .slice (some ⟨g, 0, none⟩) o.length cap ∧ B ≤ g ∧ g ≠ pb ∧ g < w.heap.size ∧ (∀ w2, Ext w w2 → w2.cell? ⟨g, i, none⟩ = some z ∧ w2.frozen? ⟨g, i, none⟩ = false) ∧
      ∀ w2 u y, Ext w w2 → OwnIn (From w.heap.size) w2 u y → y.length ≤ N → BX N o B pb (w2.setCell ⟨g, i, none⟩ u) vo vp vc := by
  obtain ⟨P, h1, h2, h3⟩ := h.px
  obtain ⟨g, cap, z, e1, ⟨q1, q2⟩, q3, q4, q5, q6⟩ := h3.openP i (by rw [h1.p, h2]; exact hi)
  have hpb := h.box.1
  have hB := h.hB
  refine ⟨g, cap, z, by rw [e1, h1.p, h2], q1, q2, q3, fun w2 hg => ⟨hg.cell q4 (by simp), (World.frozen?_of_block (hg.block g q3 (by simp))).trans (q5 i (by rw [h1.p, h2]; exact hi))⟩, fun w2 u y hg hu hy => ⟨hB, Box3.keep h.box (grown_trans (grown_of_ext (some g) hg) (grown_set1 w2 g i u)).size ((grown_trans (grown_of_ext (some g) hg) (grown_set1 w2 g i u)).block _ hpb (fun e => q2 (by cases e; rfl))), setP P i y, h1.setP i hy, h2, ?_⟩⟩
  exact (q6 w2 u y hg hu).wide (fun k hk => by rcases hk with hk | hk; exact hk; exact ⟨by omega, by omega⟩)
theorem BX.storeC {N : Nat} {o : List Int} {B pb : Nat} {w : World} {vo vp vc : Value} (h : BX N o B pb w vo vp vc) (i j : Nat) (hi : i < o.length) (hj : j < o.length - 1 - i) :
    ∃ g cap b cap2 z, vc = .slice (some ⟨g, 0, none⟩) o.length cap ∧ B ≤ g ∧ g ≠ pb ∧ g < w.heap.size ∧ w.cell? ⟨g, i, none⟩ = some (.slice (some ⟨b, 0, none⟩) (o.length - 1 - i) cap2) ∧ B ≤ b ∧ b ≠ pb ∧ b ≠ g ∧ b < w.heap.size ∧
      (∀ w2, Ext w w2 → w2.cell? ⟨b, j, none⟩ = some z ∧ w2.frozen? ⟨b, j, none⟩ = false) ∧
      ∀ w2 u y, Ext w w2 → OwnIn (From w.heap.size) w2 u y → y.length ≤ N → BX N o B pb (w2.setCell ⟨b, j, none⟩ u) vo vp vc := by
  obtain ⟨P, h1, h2, h3⟩ := h.px
  have hiP : i < P.orders.length := by rw [h2]; exact hi
  have hl : (gt P.conj i).length = o.length - 1 - i := by rw [h1.cl i hiP, h2]
  obtain ⟨g, cap, b, cap2, z, e1, ⟨q1, q2⟩, q3, q4, ⟨r1, r2⟩, r3, r4, r5, r6, r7⟩ := h3.openC i j (by rw [h1.c]; exact hiP) (by rw [hl]; exact hj)
  have hpb := h.box.1
  have hB := h.hB
  rw [hl] at q4
  refine ⟨g, cap, b, cap2, z, by rw [e1, h1.c, h2], q1, q2, q3, q4, r1, r2, r3, r4, fun w2 hg => ⟨hg.cell r5 (by simp), (World.frozen?_of_block (hg.block b r4 (by simp))).trans r6⟩, fun w2 u y hg hu hy => ⟨hB, Box3.keep h.box (grown_trans (grown_of_ext (some b) hg) (grown_set1 w2 b j u)).size ((grown_trans (grown_of_ext (some b) hg) (grown_set1 w2 b j u)).block _ hpb (fun e => r2 (by cases e; rfl))), setC P i j y, h1.setC i j hiP hy, h2, ?_⟩⟩
  exact (r7 w2 u y hg hu).wide (fun k hk => by rcases hk with hk | hk; exact hk; exact ⟨by omega, by omega⟩)

/-- the answer: some presentation by value, of bounded shape, in new blocks -/
def PresN (N B : Nat) (w' : World) (v : Value) : Prop := ∃ P, Shp N P ∧ PresR B P w' v
theorem PresN.weak {N B B' : Nat} {w' : World} {v : Value} (h : PresN N B w' v) (hB : B' ≤ B) : PresN N B' w' v := by
  obtain ⟨P, h1, a, b, c, e, h2⟩ := h
  exact ⟨P, h1, a, b, c, e, h2.wide (fun k hk => Nat.le_trans hB hk)⟩
theorem BX.ret {N : Nat} {o : List Int} {B pb : Nat} {w : World} {vo vp vc : Value} (h : BX N o B pb w vo vp vc) {w' : World} {r : Nat} (hT : w.grownBy w' (some r)) (hr : r < B) : PresN N B w' (.agg #[vo, vp, vc]) := by
  obtain ⟨P, h1, h2, h3⟩ := h.px
  exact ⟨P, h1, _, _, _, rfl, h3.mono (frame_of hT (fun k hk _ => ⟨hk.1, fun e => by cases e; have : B ≤ r := hk.1; omega⟩))⟩
/-- the trivial presentation, put into a variable -/
theorem BX.start {N : Nat} {o : List Int} {B : Nat} {w w' : World} {vo vp vc : Value} (hl : o.length ≤ N) (h : PresX (From B) w vo vp vc (trivP o)) (hg : Ext w w') (hb : Box3 w' w.heap.size vo vp vc) (hB : B ≤ w.heap.size) : BX N o B w.heap.size w' vo vp vc :=
  ⟨hB, hb, trivP o, trivP_shp o hl, rfl, h.mono (fun k hk hlt => ⟨⟨hk, by omega⟩, Nat.lt_of_lt_of_le hlt hg.size, hg.block k hlt (by simp)⟩)⟩

/-- the same, the parts in blocks of F -/
structure BXF (N : Nat) (o : List Int) (F : Nat → Prop) (pb : Nat) (w : World) (vo vp vc : Value) : Prop where
  ne : ¬ F pb
  box : Box3 w pb vo vp vc
  px : PX N o F w vo vp vc
theorem BX.f {N : Nat} {o : List Int} {B pb : Nat} {w : World} {vo vp vc : Value} (h : BX N o B pb w vo vp vc) : BXF N o (fun k => B ≤ k ∧ k ≠ pb) pb w vo vp vc := ⟨fun h => h.2 rfl, h.box, h.px⟩
theorem BXF.ext {N : Nat} {o : List Int} {F : Nat → Prop} {pb : Nat} {w w' : World} {vo vp vc : Value} (h : BXF N o F pb w vo vp vc) (hg : Ext w w') : BXF N o F pb w' vo vp vc := ⟨h.ne, h.box.ext hg, h.px.ext hg⟩
/-- what lies in F now lies in F' -/
theorem BXF.turn {N : Nat} {o : List Int} {F F' : Nat → Prop} {pb : Nat} {w : World} {vo vp vc : Value} (h : BXF N o F pb w vo vp vc) (hF : ∀ k, F k → k < w.heap.size → F' k) (hn : ¬ F' pb) : BXF N o F' pb w vo vp vc := by
  obtain ⟨P, h1, h2, h3⟩ := h.px
  exact ⟨hn, h.box, P, h1, h2, h3.mono (fun k hk hlt => ⟨hF k hk hlt, hlt, rfl⟩)⟩
theorem BXF.bx {N : Nat} {o : List Int} {F : Nat → Prop} {B pb : Nat} {w : World} {vo vp vc : Value} (h : BXF N o F pb w vo vp vc) (hB : B ≤ pb) (hF : ∀ k, F k → B ≤ k) : BX N o B pb w vo vp vc := by
  obtain ⟨P, h1, h2, h3⟩ := h.px
  exact ⟨hB, h.box, P, h1, h2, h3.wide (fun k hk => ⟨hF k hk, fun e => h.ne (e ▸ hk)⟩)⟩
theorem BXF.storeC {N : Nat} {o : List Int} {F : Nat → Prop} {pb : Nat} {w : World} {vo vp vc : Value} (h : BXF N o F pb w vo vp vc) (i j : Nat) (hi : i < o.length) (hj : j < o.length - 1 - i) (hF : ∀ k, w.heap.size ≤ k → F k) :
    ∃ g cap b cap2 z, vc = .slice (some ⟨g, 0, none⟩) o.length cap ∧ F g ∧ g ≠ pb ∧ g < w.heap.size ∧ w.cell? ⟨g, i, none⟩ = some (.slice (some ⟨b, 0, none⟩) (o.length - 1 - i) cap2) ∧ F b ∧ b ≠ pb ∧ b ≠ g ∧ b < w.heap.size ∧
      (∀ w2, Ext w w2 → w2.cell? ⟨b, j, none⟩ = some z ∧ w2.frozen? ⟨b, j, none⟩ = false) ∧
      ∀ w2 u y, Ext w w2 → OwnIn (From w.heap.size) w2 u y → y.length ≤ N → BXF N o F pb (w2.setCell ⟨b, j, none⟩ u) vo vp vc := by
  obtain ⟨P, h1, h2, h3⟩ := h.px
  have hiP : i < P.orders.length := by rw [h2]; exact hi
  have hl : (gt P.conj i).length = o.length - 1 - i := by rw [h1.cl i hiP, h2]
  obtain ⟨g, cap, b, cap2, z, e1, q1, q3, q4, r1, r3, r4, r5, r6, r7⟩ := h3.openC i j (by rw [h1.c]; exact hiP) (by rw [hl]; exact hj)
  have hpb := h.box.1
  rw [hl] at q4
  have q2 : g ≠ pb := fun e => h.ne (e ▸ q1)
  have r2 : b ≠ pb := fun e => h.ne (e ▸ r1)
  refine ⟨g, cap, b, cap2, z, by rw [e1, h1.c, h2], q1, q2, q3, q4, r1, r2, r3, r4, fun w2 hg => ⟨hg.cell r5 (by simp), (World.frozen?_of_block (hg.block b r4 (by simp))).trans r6⟩, fun w2 u y hg hu hy => ⟨h.ne, Box3.keep h.box (grown_trans (grown_of_ext (some b) hg) (grown_set1 w2 b j u)).size ((grown_trans (grown_of_ext (some b) hg) (grown_set1 w2 b j u)).block _ hpb (fun e => r2 (by cases e; rfl))), setC P i j y, h1.setC i j hiP hy, h2, ?_⟩⟩
  exact (r7 w2 u y hg hu).wide (fun k hk => by rcases hk with hk | hk; exact hk; exact hF k hk)

theorem trivX_shape {F : Nat → Prop} {w : World} {vo vp vc : Value} {o : List Int} (h : PresX F w vo vp vc (trivP o)) : ∃ a c a2 c2 a3 c3, vo = .slice a o.length c ∧ vp = .slice a2 o.length c2 ∧ vc = .slice a3 o.length c3 := by
  obtain ⟨a, c, a2, c2, a3, c3, e1, e2, e3⟩ := h.shape
  exact ⟨a, c, a2, c2, a3, c3, e1, by rw [e2]; simp [trivP], by rw [e3]; simp [trivP]⟩

end Go.Proofs.YtoakmefajbbggaaGreat
namespace Go.Proofs.YtoakmefajbbggaaGreat
open Go.RowKit

section
variable {α : Type} [Inhabited α] {El : (Nat → Prop) → World → Value → α → Prop} {E : Nat}

/-- an element of another place is put into a slice: it reads on -/
theorem SlI.putR (hEl : RdOk El) {F U : Nat → Prop} {g n cap : Nat} {w : World} {xs : List α} {u : Value} {y : α} (h : SlI El E F w (.slice (some ⟨g, 0, none⟩) n cap) xs)
    (hu : El U w u y) (hU : ∀ k, U k → ¬ F k) (j : Nat) :
    Sl (fun w u x => El (fun k => F k ∨ U k) w u x) (fun k => F k ∨ U k) (w.setCell ⟨g, j, none⟩ u) (.slice (some ⟨g, 0, none⟩) n cap) (xs.set j y) := by
  obtain ⟨vs, G, hvl, hl, hO, hF, hG, hd, hE⟩ := h
  have hgl := (hO.lt g rfl).2
  have hFg := hF g rfl
  have hn : n = vs.length := by
    obtain ⟨_, ⟨h, _⟩ | ⟨_, _, _, h, _⟩⟩ := hO <;> cases h; rfl
  subst hn
  have hcap : vs.length ≤ cap := by
    rcases hO.form with ⟨h, _⟩ | ⟨_, _, h, h2, _⟩
    · cases h
    · cases h; exact h2
  obtain ⟨h1, h2⟩ := World.ownsRow.stored hO j u
  have h1 : OwnV 0 E (w.setCell ⟨g, j, none⟩ u) (.slice (some ⟨g, 0, none⟩) vs.length cap) (vs.set j u) := by unfold OwnV; rw [List.length_set]; exact h1
  have hsz : (w.setCell ⟨g, j, none⟩ u).heap.size = w.heap.size := by simp [World.setCell]
  have hblk : ∀ k, k ≠ g → (w.setCell ⟨g, j, none⟩ u).heap[k]? = w.heap[k]? := fun k hk => Below.heap_setCell _ _ _ _ (by simpa using hk)
  refine ⟨_, cap, by rw [List.length_set, hvl], ⟨by rw [List.length_set]; omega, by rw [List.length_set]; exact hl, fun h => by cases h⟩, fun i hi => ?_⟩
  rw [List.length_set] at hi
  refine ⟨g, 0, gt (vs.set j u) i, rfl, .inl hFg, by rw [hsz]; exact hgl, by rw [Nat.zero_add]; exact h1.cell i (by rw [List.length_set]; omega), ?_⟩
  by_cases e : j = i
  · subst e
    rw [gt_set_eq _ _ _ (by omega), gt_set_eq _ _ _ hi]
    exact hEl.mono hu (fun k hk hlt => ⟨.inr hk, by rw [hsz]; exact hlt, hblk k (fun e => hU k hk (e ▸ hFg))⟩)
  · rw [gt_set_ne _ _ _ _ e, gt_set_ne _ _ _ _ e]
    exact hEl.mono (hE i hi) (fun k hk hlt => ⟨.inl (hG i k hi hk).1, by rw [hsz]; exact hlt, hblk k (fun e => (hG i k hi hk).2.1 (by rw [e]; rfl))⟩)
end

theorem PresX.putP {F U : Nat → Prop} {w : World} {vo vp vc u : Value} {P : Pr} {y : List Int} (h : PresX F w vo vp vc P) (i : Nat) (hi : i < P.powers.length) (hu : Ints U w u y) (hU : ∀ k, U k → ¬ F k) :
    ∃ g cap z, vp = .slice (some ⟨g, 0, none⟩) P.powers.length cap ∧ F g ∧ g < w.heap.size ∧ w.cell? ⟨g, i, none⟩ = some z ∧ w.frozen? ⟨g, i, none⟩ = false ∧
      Pres3 (fun k => F k ∨ U k) (w.setCell ⟨g, i, none⟩ u) vo vp vc (setP P i y) := by
  obtain ⟨Fo, Fp, Fc, h1, h2, h3, h4, h5, h6⟩ := h
  rcases SlI.form h2 with ⟨_, e⟩ | ⟨g, cap, rfl, hFg, hgl⟩
  · rw [e] at hi; simp at hi
  obtain ⟨⟨z, hz⟩, hf⟩ := SlI.place h2 i hi
  have hsz : (w.setCell ⟨g, i, none⟩ u).heap.size = w.heap.size := by simp [World.setCell]
  have hblk : ∀ k, k ≠ g → (w.setCell ⟨g, i, none⟩ u).heap[k]? = w.heap[k]? := fun k hk => Below.heap_setCell _ _ _ _ (by simpa using hk)
  have h2' : SlI (fun F w u (x : List Int) => Ints F w u x) 24 Fp w (.slice (some ⟨g, 0, none⟩) P.powers.length cap) P.powers := SlI.map (fun _ _ _ _ h => h.ints) h2
  have hrd : RdOk (fun F w u (x : List Int) => Ints F w u x) := ⟨fun h hb => Ints.mono h hb, fun h => by obtain ⟨_, _, rfl, _⟩ := h.shape; rfl⟩
  have hp := SlI.putR hrd h2' hu (fun k hk h => hU k hk (h5 k h).1) i
  refine ⟨g, cap, z, rfl, (h5 g hFg).1, hgl, hz, hf, ⟨?_, ?_, ?_⟩⟩
  · exact Ints.mono h1.ints (fun k hk hlt => ⟨.inl (h4 k hk).1, by rw [hsz]; exact hlt, hblk k (fun e => (h4 k hk).2.1 (e ▸ hFg))⟩)
  · exact Rows2.sub (S := fun k => Fp k ∨ U k) hp (fun k hk _ => hk.elim (fun h => .inl (h5 k h).1) .inr)
  · exact Rows3.mono (Rows3I.rows h3) (fun k hk hlt => ⟨.inl (h6 k hk), by rw [hsz]; exact hlt, hblk k (fun e => (h5 g hFg).2 (e ▸ hk))⟩)

theorem PresX.putC {F U : Nat → Prop} {w : World} {vo vp vc u : Value} {P : Pr} {y : List Int} (h : PresX F w vo vp vc P) (i j : Nat) (hi : i < P.conj.length) (hj : j < (gt P.conj i).length) (hu : Ints U w u y) (hU : ∀ k, U k → ¬ F k) :
    ∃ g cap b cap2 z, vc = .slice (some ⟨g, 0, none⟩) P.conj.length cap ∧ F g ∧ g < w.heap.size ∧ w.cell? ⟨g, i, none⟩ = some (.slice (some ⟨b, 0, none⟩) (gt P.conj i).length cap2) ∧ F b ∧ b ≠ g ∧ b < w.heap.size ∧
      w.cell? ⟨b, j, none⟩ = some z ∧ w.frozen? ⟨b, j, none⟩ = false ∧ Pres3 (fun k => F k ∨ U k) (w.setCell ⟨b, j, none⟩ u) vo vp vc (setC P i j y) := by
  obtain ⟨Fo, Fp, Fc, h1, h2, h3, h4, h5, h6⟩ := h
  rcases SlI.form h3 with ⟨_, e⟩ | ⟨g, cap, rfl, hFg, hgl⟩
  · rw [e] at hi; simp at hi
  have h3' := h3
  obtain ⟨vs, G, hvl, hl, hO, hF, hG, hd, hE⟩ := h3
  have hn : vs.length = P.conj.length := hvl
  have hEi := hE i hi
  rcases SlI.form hEi with ⟨_, e⟩ | ⟨b, cap2, hub, hGb, hbl⟩
  · rw [e] at hj; simp at hj
  rw [hub] at hEi
  obtain ⟨hFb, hbg, _⟩ := hG i b hi hGb
  have hbg : b ≠ g := fun e => hbg (by rw [e]; rfl)
  obtain ⟨⟨z, hz⟩, hf⟩ := SlI.place hEi j hj
  have hci : w.cell? ⟨g, i, none⟩ = some (.slice (some ⟨b, 0, none⟩) (gt P.conj i).length cap2) := by
    rw [← hub]
    have hO2 : OwnV 0 25 w (.slice (some ⟨g, 0, none⟩) P.conj.length cap) vs := hO
    exact hO2.cell i (by omega)
  have hEi' : SlI (fun F w u (x : List Int) => Ints F w u x) 24 (G i) w (.slice (some ⟨b, 0, none⟩) (gt P.conj i).length cap2) (gt P.conj i) := SlI.map (fun _ _ _ _ h => h.ints) hEi
  have hrd : RdOk (fun F w u (x : List Int) => Ints F w u x) := ⟨fun h hb => Ints.mono h hb, fun h => by obtain ⟨_, _, rfl, _⟩ := h.shape; rfl⟩
  have hp := SlI.putR hrd hEi' hu (fun k hk h => hU k hk (h6 k (hG i k hi h).1)) j
  have hsz : (w.setCell ⟨b, j, none⟩ u).heap.size = w.heap.size := by simp [World.setCell]
  have hblk : ∀ k, k ≠ b → (w.setCell ⟨b, j, none⟩ u).heap[k]? = w.heap[k]? := fun k hk => Below.heap_setCell _ _ _ _ (by simpa using hk)
  have h3r := Rows3I.rows h3'
  refine ⟨g, cap, b, cap2, z, rfl, h6 g hFg, hgl, hci, h6 b hFb, hbg, hbl, hz, hf, ⟨?_, ?_, ?_⟩⟩
  · exact Ints.mono h1.ints (fun k hk hlt => ⟨.inl (h4 k hk).1, by rw [hsz]; exact hlt, hblk k (fun e => (h4 k hk).2.2 (e ▸ hFb))⟩)
  · exact Rows2.mono (RowsI.rows h2) (fun k hk hlt => ⟨.inl (h5 k hk).1, by rw [hsz]; exact hlt, hblk k (fun e => (h5 k hk).2 (e ▸ hFb))⟩)
  · refine ⟨_, cap, by show _ = Value.slice _ (P.conj.set i _).length _; rw [List.length_set], ⟨?_, ?_, fun h => by cases h⟩, fun k hk => ?_⟩
    · obtain ⟨a, c, e, e2, _⟩ := Sl.shape h3r
      cases e
      show (P.conj.set i _).length ≤ _; rw [List.length_set]; exact e2
    · show (P.conj.set i _).length ≤ _; rw [List.length_set]; exact hl
    · have hk : k < P.conj.length := by
        have hk : k < (P.conj.set i ((gt P.conj i).set j y)).length := hk
        rw [List.length_set] at hk; exact hk
      show ∃ b_1 off u_1, _ ∧ _ ∧ _ ∧ _ ∧ Rows2 _ _ u_1 (gt (P.conj.set i ((gt P.conj i).set j y)) k)
      have hO2 : OwnV 0 25 w (.slice (some ⟨g, 0, none⟩) P.conj.length cap) vs := hO
      have hck : (w.setCell ⟨b, j, none⟩ u).cell? ⟨g, 0 + k, none⟩ = some (gt vs k) := by
        rw [Nat.zero_add, World.cell?_of_block (w := w) (a := ⟨g, k, none⟩) (hblk g (fun e => hbg e.symm))]
        exact hO2.cell k (by omega)
      refine ⟨g, 0, gt vs k, rfl, .inl (h6 g hFg), by rw [hsz]; exact hgl, hck, ?_⟩
      by_cases e : i = k
      · subst e
        rw [gt_set_eq _ _ _ hi, hub]
        exact Rows2.sub (S := fun k => G i k ∨ U k) hp (fun k hk _ => hk.elim (fun h => .inl (h6 k (hG i k hi h).1)) .inr)
      · rw [gt_set_ne _ _ _ _ e]
        have hr := RowsI.rows (hE k hk)
        exact Rows2.mono hr (fun m hm hlt => ⟨.inl (h6 m (hG k m hk hm).1), by rw [hsz]; exact hlt, hblk m (fun e2 => e (hd i k b hi hk hGb (e2 ▸ hm)))⟩)

end Go.Proofs.YtoakmefajbbggaaGreat
namespace Go.Proofs.YtoakmefajbbggaaGreat
open Go.RowKit

set_option maxHeartbeats 1000000 in
theorem l01Own2_ok (w : World) (v : Value) (L : List (List Int)) (S : Nat → Prop) (hv : Rows2 S w v L) (hL : ∀ x ∈ L, x.length ≤ 1000000) (hlen : L.length ≤ 1000000) :
    Calls Tryz.prog 183 #[v] w (Ret w fun w' r => RowsO w.heap.size w' r L) := by
  obtain ⟨a, cap, rfl, _, _⟩ := Sl.shape hv
  have HL := Lib.hid hL; clear hL
  go_enter Tryz.func183, Tryz.ntmps183
  go_wp2
  go_loopw [3, 4] (fun ov iv wr => ∃ (i : Nat) (v4 : Value), v4 = ov ∧ iv = .int .i64 i ∧ i ≤ L.length ∧ Ext w wr ∧ RowsO w.heap.size wr v4 (L.take i)) (fun _ iv _ => L.length - (intOf iv).toNat)
  case atStart => exact ⟨0, _, rfl, rfl, by omega, World.grownBy_alloc _ _ _, [], fun _ _ => False, rfl, World.ownsRow_lit w #[] 0 (Nat.le_refl _) (by decide) rfl, by simp, by simp, by simp⟩
  case round =>
    obtain ⟨i, v4, rfl, rfl, hi, hg, hO⟩ := hrel
    by_cases hlt : i < L.length
    · have hlt' : (i : Int) < L.length := by omega
      obtain ⟨b, off, a2, cap2, rfl, _, _, hc, hr⟩ := Rows2.at (Rows2.ext hv hg) i hlt
      have hstep := take_succ_gt L i hlt
      have hll := HL.out _ (gtMem hlt)
      have htl : (L.take i).length ≤ 1000000 := by rw [List.length_take]; omega
      have HST := Lib.hid (And.intro hstep hll); clear hstep hll
      go_wp2_with fail
      refine Calls.mono (l01Own_ok wr _ (gt L i) _ hr (by have := HST.out.2; omega)) ?_
      rintro eC wC ⟨vC, rfl, hgC, hOC⟩
      have hYO : OwnIn (From wr.heap.size) wC vC (gt L i) := OwnIn.of hOC (by have := HST.out.2; omega) (fun j h1 _ => h1)
      obtain ⟨ay, capy, hvy, _, _⟩ := hYO.ints.shape
      subst hvy
      clear hc
      go_wp2_with (first | (at_builtin; refine wp_app_row rfl _ _ rfl w.heap.size wr wC v4 _ (L.take i) (gt L i) rfl hO hgC hYO rfl rfl htl hg.size ?_; intro v5 w5 hO5 hg5 hg6; have hgw5 := hO.extw hg (Nat.le_refl _) hg5) | fail)
      go_roundw
      case rel => exact ⟨i + 1, v5, rfl, by go_num, by omega, hgw5, by rw [HST.out.1]; exact hO5⟩
      case measure => simp [intOf]; omega
    · have hie : i = L.length := by omega
      subst hie
      rw [List.take_length] at hO
      obtain ⟨az, capz, hvz, _, _⟩ := SlD.shape (hO.toD (by omega))
      subst hvz
      go_wp2
      go_ret
      exact ⟨_, rfl, hg, hO⟩

end Go.Proofs.YtoakmefajbbggaaGreat
namespace Go.Proofs.YtoakmefajbbggaaGreat
open Go.RowKit
attribute [local go_sem ↓] Go.wp_at_zero Go.wp_at_succ

theorem rows_bound {P : Pr} {N : Nat} (h : Shp N P) (hN : N ≤ 1000) : (∀ x ∈ P.powers, x.length ≤ 1000000) ∧ P.powers.length ≤ 1000000 ∧ P.conj.length ≤ 1000000 ∧ (∀ i, i < P.conj.length → (∀ x ∈ gt P.conj i, x.length ≤ 1000000) ∧ (gt P.conj i).length ≤ 1000000) := by
  have hn := h.n
  refine ⟨fun x hx => by have := h.pv x hx; omega, by rw [h.p]; omega, by rw [h.c]; omega, fun i hi => ⟨fun x hx => ?_, ?_⟩⟩
  · have := h.cv _ (by rw [gt_eq _ i hi]; exact List.getElem_mem hi) x hx
    omega
  · rw [h.cl i (by rw [← h.c]; exact hi)]; omega

/-- behind the copy of the first two parts -/
def OwnCut (w0 : World) (P : Pr) (q : Value) (wx : World) : Prop := ∃ qb a n c a2 n2 c2, q = .pointer (some ⟨qb, 0, none⟩) ∧ w0.heap.size ≤ qb ∧ Ext w0 wx ∧ Box3 wx qb (.slice a n c) (.slice a2 n2 c2) (.slice none 0 0) ∧
  PresX (fun k => w0.heap.size ≤ k ∧ k ≠ qb) wx (.slice a n c) (.slice a2 n2 c2) (.slice none 0 0) ⟨P.orders, P.powers, []⟩
theorem ownCut_mk {w0 wx : World} {P : Pr} {qb n c n2 c2 a1 a2 b1 b2 : Nat} {a a' : Option Addr} (hq : w0.heap.size ≤ qb) (hE : Ext w0 wx) (hB : Box3 wx qb (.slice a n c) (.slice a' n2 c2) (.slice none 0 0))
    (hA : OwnIn (fun k => a1 ≤ k ∧ k < a2) wx (.slice a n c) P.orders) (hR : RowsI (fun k => b1 ≤ k ∧ k < b2) wx (.slice a' n2 c2) P.powers)
    (h1 : w0.heap.size ≤ a1) (h2 : w0.heap.size ≤ b1) (h3 : a2 ≤ b1 ∨ b2 ≤ a1) (h4 : ¬ (a1 ≤ qb ∧ qb < a2)) (h5 : ¬ (b1 ≤ qb ∧ qb < b2)) : OwnCut w0 P (.pointer (some ⟨qb, 0, none⟩)) wx :=
  ⟨qb, a, n, c, a', n2, c2, rfl, hq, hE, hB, fun k => a1 ≤ k ∧ k < a2, fun k => b1 ≤ k ∧ k < b2, fun _ => False, hA, hR, ⟨[], fun _ _ => False, rfl, by simp, World.ownsRow_nil _ _ _ _, by simp [Value.ownBlock], by simp, by simp, by simp⟩,
    fun k hk => ⟨⟨by omega, fun e => h4 (e ▸ hk)⟩, fun e => by omega, fun e => e⟩, fun k hk => ⟨⟨by omega, fun e => h5 (e ▸ hk)⟩, fun e => e⟩, fun k hk => hk.elim⟩

set_option maxRecDepth 100000 in
set_option maxHeartbeats 4000000 in
theorem l07Own_ok (w : World) (pv : Value) (P : Pr) (S : Nat → Prop) (N : Nat) (hp : PresV S w pv P) (hS : Shp N P) (hN : N ≤ 1000) :
    Calls Tryz.prog 186 #[pv] w (Ret w (PresR w.heap.size P)) := by
  obtain ⟨vo, vp, vc, rfl, h3⟩ := hp
  obtain ⟨ao, capo, hvo, _, _⟩ := h3.o.shape
  obtain ⟨ap, capp, hvp, _, _⟩ := Sl.shape h3.p
  obtain ⟨ac, capc, hvc, _, _⟩ := Sl.shape h3.c
  subst hvo hvp hvc
  have hg0 : Ext w ((w.alloc (.cells #[.slice ao P.orders.length capo, .slice ap P.powers.length capp, .slice ac P.conj.length capc] 28)).alloc (.cells #[.slice none 0 0, .slice none 0 0, .slice none 0 0] 28)) := grown_trans (World.grownBy_alloc _ _ _) (World.grownBy_alloc _ _ _)
  have hA0 := (Box3.made w 28 (.slice ao P.orders.length capo) (.slice ap P.powers.length capp) (.slice ac P.conj.length capc)).ext (World.grownBy_alloc _ (.cells #[.slice none 0 0, .slice none 0 0, .slice none 0 0] 28) _)
  have hR0 := Box3.made (w.alloc (.cells #[.slice ao P.orders.length capo, .slice ap P.powers.length capp, .slice ac P.conj.length capc] 28)) 28 (.slice none 0 0) (.slice none 0 0) (.slice none 0 0)
  have hs1 : (w.alloc (.cells #[.slice ao P.orders.length capo, .slice ap P.powers.length capp, .slice ac P.conj.length capc] 28)).heap.size = w.heap.size + 1 := by simp
  have hs2 : ((w.alloc (.cells #[.slice ao P.orders.length capo, .slice ap P.powers.length capp, .slice ac P.conj.length capc] 28)).alloc (.cells #[.slice none 0 0, .slice none 0 0, .slice none 0 0] 28)).heap.size = w.heap.size + 2 := by simp
  rw [hs1] at hR0
  have hb := rows_bound hS hN
  have hn := hS.n
  have HB := Lib.hid (And.intro hA0 (And.intro hR0 (And.intro hs2 (And.intro hb (And.intro hS hn))))); clear hA0 hR0 hs1 hs2 hb hn
  go_enter Tryz.func186, Tryz.ntmps186
  go_wp2_with fail
  generalize (w.alloc (.cells #[.slice ao P.orders.length capo, .slice ap P.powers.length capp, .slice ac P.conj.length capc] 28)).alloc (.cells #[.slice none 0 0, .slice none 0 0, .slice none 0 0] 28) = w0 at *
  have h30 := h3.ext hg0
  have e0 : ∀ w', Ext w0 w' → w'.cell? ⟨w.heap.size, 0, none⟩ = some (.slice ao P.orders.length capo) := fun w' h => (HB.out.1.ext h).2.1
  have e1 : ∀ w', Ext w0 w' → w'.cell? ⟨w.heap.size, 1, none⟩ = some (.slice ap P.powers.length capp) := fun w' h => (HB.out.1.ext h).2.2.1
  go_cut [3] (fun qv wx => OwnCut w0 P qv wx)
  case first =>
    go_region_held3 (fun w' => Ext w0 w') (first | exact grown_drew _ _ | assumption | exact grown_trans (by assumption) (World.grownBy_alloc _ _ _) | exact grown_own (by assumption) (grown_set3 _ _ _ _ _) (fun j hj hlt => by cases hj; first | (have := hgA.size; omega) | (have := hgB.size; omega) | (simp at hlt)))
      (first
        | (go_at_call 183; refine Calls.mono (Calls.rel2 (w0 := w0) (by assumption) (l01Own2_ok _ _ P.powers S (Rows2.ext h30.p (by assumption)) HB.out.2.2.2.1.1 HB.out.2.2.2.1.2.1)) ?_; rintro eB wB ⟨vB, rfl, hgB, hgB2, hsB, hOB⟩; obtain ⟨aB, capB, hvB, _, _⟩ := SlD.shape (hOB.toD (by have := HB.out.2.2.2.1.2.1; omega)); subst hvB; (try have hQ := Box3.ext hQ hgB2); (first | (have hQ : Box3 _ w0.heap.size _ _ _ := Box3.ext (Box3.made w0.drew _ _ _ _) hgB2) | (have hQ := Box3.ext (Box3.made _ _ _ _ _) hgB2) | skip); (try obtain ⟨f0, f1, f2, f3, f4⟩ := id hQ))
        | (go_at_call 120; refine Calls.mono (Calls.rel2 (w0 := w0) (by assumption) (l01Own_ok _ _ P.orders S (Ints.ext h30.o (by assumption)) (by have := HB.out.2.2.2.2.2; omega))) ?_; rintro eA wA ⟨vA, rfl, hgA, hgA2, hsA, hOA⟩; obtain ⟨aA, capA, hvA, _⟩ := (hOA.ints (by have := HB.out.2.2.2.2.2; omega)).shape; subst hvA; (try have hQ := Box3.ext hQ hgA2); (first | (have hQ : Box3 _ w0.heap.size _ _ _ := Box3.ext (Box3.made w0.drew _ _ _ _) hgA2) | (have hQ := Box3.ext (Box3.made _ _ _ _ _) hgA2) | skip); (try obtain ⟨f0, f1, f2, f3, f4⟩ := id hQ)))
    all_goals (try go_wp2_with fail)
    all_goals go_meet
    all_goals
      have hzA := hgA.size
      have hzB := hgB2.size
      have hnl := HB.out.2.2.2.2.2
      have hpl := HB.out.2.2.2.1.2.1
    · have hQf := Box3.made wB 28 (.slice aA P.orders.length capA) (.slice aB P.powers.length capB) (.slice none 0 0)
      have hgz := World.grownBy_alloc wB (.cells #[.slice aA P.orders.length capA, .slice aB P.powers.length capB, .slice none 0 0] 28) none
      refine ownCut_mk (a1 := w0.heap.size) (a2 := wA.heap.size) (b1 := wA.heap.size) (b2 := wB.heap.size) (by omega) (grown_trans (by assumption) hgz) hQf
             (rdOwn.mono (OwnIn.of hOA (by omega) (fun k h1 h2 => ⟨h1, h2⟩)) (fun k hk hlt => ⟨hk, by have := hgz.size; omega, (hgz.block k (by omega) (by simp)).trans (hgB2.block k hlt (by simp))⟩))
             (rdRowsI.mono (SlI.of hOB (by omega) (fun k h1 h2 => ⟨h1, h2⟩)) (fun k hk hlt => ⟨hk, by have := hgz.size; omega, hgz.block k hlt (by simp)⟩)) (by omega) (by omega) (by omega) (by omega) (by omega)
    · have hQf := hQ.all (.slice aA P.orders.length capA) (.slice aB P.powers.length capB) (.slice none 0 0)
      have hgz := grown_set3 wB wA.heap.size (.slice aA P.orders.length capA) (.slice aB P.powers.length capB) (.slice none 0 0)
      have hgv := grown_trans (World.grownBy_alloc wA (.cells #[.slice none 0 0, .slice none 0 0, .slice none 0 0] 28) none) hgB2
      have hzv : (wA.alloc (.cells #[.slice none 0 0, .slice none 0 0, .slice none 0 0] 28)).heap.size = wA.heap.size + 1 := by simp
      refine ownCut_mk (a1 := w0.heap.size) (a2 := wA.heap.size) (b1 := wA.heap.size + 1) (b2 := wB.heap.size) (by omega) (by assumption) hQf
             (rdOwn.mono (OwnIn.of hOA (by omega) (fun k h1 h2 => ⟨h1, h2⟩)) (fun k hk hlt => ⟨hk, by have := hgz.size; omega, (hgz.block k (by omega) (fun e => by cases e; omega)).trans (hgv.block k (by omega) (by simp))⟩))
             (rdRowsI.mono (SlI.of hOB (by omega) (fun k h1 h2 => ⟨by rw [← hzv]; exact h1, h2⟩)) (fun k hk hlt => ⟨hk, by have := hgz.size; omega, hgz.block k hlt (fun e => by cases e; omega)⟩)) (by omega) (by omega) (by omega) (by omega) (by omega)
    · have hQf := hQ.all (.slice aA P.orders.length capA) (.slice aB P.powers.length capB) (.slice none 0 0)
      have hgz := grown_set3 wB w0.heap.size (.slice aA P.orders.length capA) (.slice aB P.powers.length capB) (.slice none 0 0)
      have hz0 := hQ.1
      refine ownCut_mk (a1 := w0.heap.size + 1) (a2 := wA.heap.size) (b1 := wA.heap.size) (b2 := wB.heap.size) (by omega) (by assumption) hQf
             (rdOwn.mono (OwnIn.of hOA (by omega) (fun k h1 h2 => ⟨by simpa using h1, h2⟩)) (fun k hk hlt => ⟨hk, by have := hgz.size; omega, (hgz.block k (by omega) (fun e => by cases e; omega)).trans (hgB2.block k hlt (by simp))⟩))
             (rdRowsI.mono (SlI.of hOB (by omega) (fun k h1 h2 => ⟨h1, h2⟩)) (fun k hk hlt => ⟨hk, by have := hgz.size; omega, hgz.block k hlt (fun e => by cases e; omega)⟩)) (by omega) (by omega) (by omega) (by omega) (by omega)
  case rest =>
    obtain ⟨qb, a1, n1, c1, a2, n2, c2, rfl, hqb, hg1, hB1, hX1⟩ := hcut
    clear e0 e1
    go_wp2
    go_loopw [4] (fun iv wr => ∃ (i : Nat) (vc : Value), iv = .int .i64 i ∧ i ≤ P.conj.length ∧ Ext w0 wr ∧ Box3 wr qb (.slice a1 n1 c1) (.slice a2 n2 c2) vc ∧
      PresX (fun k => w0.heap.size ≤ k ∧ k ≠ qb) wr (.slice a1 n1 c1) (.slice a2 n2 c2) vc ⟨P.orders, P.powers, P.conj.take i⟩) (fun iv _ => P.conj.length - (intOf iv).toNat)
    case atStart => exact ⟨0, _, rfl, by omega, hg1, hB1, hX1⟩
    case round =>
      clear hB1 hX1 hg1
      obtain ⟨i, vc, rfl, hi, hg, hB, hX⟩ := hrel
      have e2 : ∀ w', Ext wr w' → w'.cell? ⟨w.heap.size, 2, none⟩ = some (.slice ac P.conj.length capc) := fun w' h => (HB.out.1.ext (grown_trans hg h)).2.2.2.1
      have e3 := e2 wr (grown_refl _ _)
      by_cases hlt : i < P.conj.length
      · have hlt' : (i : Int) < P.conj.length := by omega
        obtain ⟨Fo, Fp, Fc, hP⟩ := hX.part
        obtain ⟨_, _, _, a3, n3, c3, _, rfl, _, hn3⟩ := hX.sh2
        have hnb : (Value.slice a3 n3 c3).ownBlock ≠ some qb := by
          obtain ⟨_, _, _, _, _, q1, _⟩ := hP.c
          exact fun e => (hP.dc _ (q1 _ e)).2 rfl
        obtain ⟨bc, oc, ag, capg, rfl, _, hbcl, hc0, hcr0⟩ := Rows3.at h30.c i hlt
        have hcc := hc0
        have hcr := Rows2.ext hcr0 hg
        clear hcr0
        have hq3 : ∀ k, (Value.slice a3 n3 c3).ownBlock = some k → w0.heap.size ≤ k := by
          obtain ⟨_, _, _, _, _, q1, _⟩ := hP.c
          exact fun k e => (hP.dc _ (q1 _ e)).1
        have hbd := HB.out.2.2.2.1.2.2.2 i hlt
        have hstep := take_succ_gt P.conj i hlt
        have htl : (P.conj.take i).length ≤ 1000000 := by rw [List.length_take]; have := HB.out.2.2.2.1.2.2.1; omega
        obtain ⟨G, hG⟩ : ∃ G, G = gt P.conj i := ⟨_, rfl⟩
        rw [← hG] at hcr hbd hstep hcc hc0
        have HR := Lib.hid (And.intro hstep (And.intro htl (And.intro hnb (And.intro hbd (And.intro hcr hq3))))); clear hstep htl hbd hcr hG hn3 hq3 hnb hcc
        have r2 : ∀ w', Ext w0 w' → w'.cell? ⟨bc, oc + i, none⟩ = some (.slice ag G.length capg) := fun w' h => h.cell hc0 (by simp)
        have r4 : ∀ w', Ext w0 w' → w'.cell? ⟨w.heap.size, 2, none⟩ = some (.slice (some ⟨bc, oc, none⟩) P.conj.length capc) := fun w' h => (HB.out.1.ext h).2.2.2.1
        have r3 : ∀ w', Ext wr w' → w'.cell? ⟨qb, 2, none⟩ = some (.slice a3 n3 c3) := fun w' h => (hB.ext h).2.2.2.1
        have f3 := r3 wr.drew (grown_drew _ _)
        clear e2
        go_wp2
        clear e3
        have f2 := r2 wr.drew (grown_trans hg (grown_drew _ _))
        have f4 := r4 wr.drew (grown_trans hg (grown_drew _ _))
        clear r2 r4
        go_region_law (first
            | (go_simp; go_at_call 183; refine Calls.mono (l01Own2_ok _ _ G S (Rows2.ext HR.out.2.2.2.2.1 (grown_drew _ _)) HR.out.2.2.2.1.1 HR.out.2.2.2.1.2) ?_; rintro eG wG ⟨vG, rfl, hgG, hOG⟩; obtain ⟨aG, capG, hvG, _, _⟩ := SlD.shape (hOG.toD (by have := HR.out.2.2.2.1.2; omega)); subst hvG; have hgG2 : Ext wr wG := grown_trans (grown_drew _ _) hgG; have g3 := r3 wG hgG2; have g4 := r3 (wG.alloc (.cells #[.slice aG G.length capG] 25)) (grown_trans hgG2 (World.grownBy_alloc _ _ _)))
            | (refine step_app_I (rdI rdOwn) 26 (.slice none 0 0) 24 und_rows3 Tryz.infoRows rfl (by decide) (by rfl) _ _ (by rfl) Fc wr wG _ _ (P.conj.take i) G (by rfl) hP.c hgG2 (SlI.of hOG (by have := HR.out.2.2.2.1.2; omega) (fun k h _ => h)) (by rfl) (by rfl) HR.out.2.1 ?_; intro v8 w8 hO8 hg8 hg9; obtain ⟨g8, m8, k8, rfl, hm8⟩ := SlI.sl hO8; clear hm8; have hB8 := Box3.keep hB hg8.size (hg8.block _ hB.1 (fun e => HR.out.2.2.1 e.symm)); have hgw8 : Ext w0 w8 := grown_own hg hg8 (fun j hj hlt => by have := HR.out.2.2.2.2.2 _ hj; omega); obtain ⟨f80, f81, f82, f83, f84⟩ := id hB8))
        all_goals
          have hgw9 : Ext w0 (w8.setCell ⟨qb, 2, none⟩ (.slice g8 m8 k8)) := grown_own hgw8 (grown_set1 _ _ _ _) (fun j hj hlt => by cases hj; omega)
          have hB9 := (hB8.put (.slice g8 m8 k8)).2.2
          have hX9 := hP.newC hO8 hg8
          rw [← HR.out.1] at hX9
          have hX10 : PresX (fun k => w0.heap.size ≤ k ∧ k ≠ qb) (w8.setCell ⟨qb, 2, none⟩ (.slice g8 m8 k8)) (.slice a1 n1 c1) (.slice a2 n2 c2) (.slice g8 m8 k8) ⟨P.orders, P.powers, P.conj.take (i + 1)⟩ :=
            hX9.mono (frame_of (grown_set w8 qb 2 (.slice g8 m8 k8)) (fun k hk hlt => by
              have hk' : (w0.heap.size ≤ k ∧ k ≠ qb) ∨ wr.heap.size ≤ k := hk
              have h1 := hB.1
              have h2 := hg.size
              exact ⟨by omega, fun e => by cases e; omega⟩))
          clear f80 f81 f82 f83 f84 f3 g3 g4 f2 f4 r3
          go_wp2
          go_roundw
          case rel => exact ⟨i + 1, _, by go_num, by omega, hgw9, hB9, hX10⟩
          case measure => simp [intOf]; omega
      · have hie : i = P.conj.length := by omega
        subst hie
        rw [List.take_length] at hX
        clear e2
        obtain ⟨_, _, _, a3, n3, c3, _, rfl, hn2, hn3⟩ := hX.sh2
        clear hn2 hn3
        have hz := HB.out.2.1.ext hg
        obtain ⟨h0, h1, h2, h3', h4⟩ := id hB
        obtain ⟨k0, k1, k2, k3, k4⟩ := id hz
        have hZ := hz.all (.slice a1 n1 c1) (.slice a2 n2 c2) (.slice a3 n3 c3)
        have hT := grown_set3 wr (w.heap.size + 1) (.slice a1 n1 c1) (.slice a2 n2 c2) (.slice a3 n3 c3)
        obtain ⟨_, z0, z1, z2, _⟩ := id hZ
        have HT := Lib.hid hT; clear hT hZ
        go_wp2
        refine bodyPost_ret (v := .agg #[.slice a1 n1 c1, .slice a2 n2 c2, .slice a3 n3 c3]) (by simp [results, Tryz.results186, go_sem, z0, z1, z2]) rfl ?_
        have hs2 := HB.out.2.2.1
        exact ⟨_, rfl, grown_own (grown_trans hg0 hg) HT.out (fun j hj hlt => by cases hj; omega), _, _, _, rfl, hX.mono (frame_of HT.out (fun k hk _ => ⟨by show w.heap.size ≤ k; omega, fun e => by cases e; omega⟩))⟩

end Go.Proofs.YtoakmefajbbggaaGreat
namespace Go.Proofs.YtoakmefajbbggaaGreat
open Go.RowKit
attribute [local go_sem ↓] Go.wp_at_zero Go.wp_at_succ

/-- small entries -/
def Sm (l : List Int) : Prop := ∀ x ∈ l, 0 ≤ x ∧ x ≤ 7
theorem Sm.at {l : List Int} (h : Sm l) {i : Nat} (hi : i < l.length) : 0 ≤ gt l i ∧ gt l i ≤ 7 := h _ (by rw [gt_eq l i hi]; exact List.getElem_mem hi)
theorem Sm.set {l : List Int} (h : Sm l) (i : Nat) {x : Int} (hx : 0 ≤ x ∧ x ≤ 7) : Sm (l.set i x) := fun y hy => by
  rcases List.mem_or_eq_of_mem_set hy with h' | h'
  · exact h y h'
  · rw [h']; exact hx
theorem w64_small (x : Int) (h : 0 ≤ x ∧ x ≤ 1000) : wrap64 x = x := IntWalk.wrap64_in _ (by omega)
theorem i64_small (x : Int) (h : 0 ≤ x ∧ x ≤ 1000) : IntKind.i64.wrap x = x := IntWalk.i64_in _ (by omega)
theorem sm_mul {a b : Int} (ha : 0 ≤ a ∧ a ≤ 7) (hb : 0 ≤ b ∧ b ≤ 7) : 0 ≤ a * b ∧ a * b ≤ 49 :=
  ⟨Int.mul_nonneg ha.1 hb.1, Int.le_trans (Int.mul_le_mul ha.2 hb.2 hb.1 (by decide)) (by decide)⟩

set_option maxRecDepth 100000 in
set_option maxHeartbeats 4000000 in
theorem l02Times_ok (w : World) (p : Int) (vv rv : Value) (v : List Int) (R : List (List Int)) (c : Nat) (S S' : Nat → Prop) (hv : Ints S w vv v) (hr : Rows2 S' w rv R) (hp : 1 ≤ p ∧ p ≤ 7) (hvs : Sm v) (hRs : ∀ x ∈ R, Sm x) (hc : c ≤ 100) :
    Calls Tryz.prog 297 #[.int .i64 p, vv, rv, .int .i64 c] w (Ret w fun w' r => ∃ l, l.length = c ∧ Sm l ∧ Own w.heap.size w' r l) := by
  obtain ⟨av, capv, rfl, _, _⟩ := hv.shape
  obtain ⟨ar, capr, rfl, _, _⟩ := Sl.shape hr
  have HV := Lib.hid (And.intro hvs hRs); clear hvs hRs
  go_enter Tryz.func297, Tryz.ntmps297
  go_wp2_with (at_make; refine wp_make_ints rfl _ _ rfl w.heap.size c w.heap.size rfl _ rfl rfl rfl (by omega) (Nat.le_refl _) ?_; intro w1 ho1 hg1 hlt1)
  go_loopw [10] (fun iv wr => ∃ (i : Nat) (l : List Int), iv = .int .i64 i ∧ i ≤ v.length ∧ l.length = c ∧ Sm l ∧ Ext w wr ∧ Own w.heap.size wr (.slice (some ⟨w.heap.size, 0, none⟩) c c) l) (fun iv _ => v.length - (intOf iv).toNat)
  case atStart => exact ⟨0, _, rfl, by omega, by simp, by intro x hx; rw [List.eq_of_mem_replicate hx]; omega, hg1, ho1⟩
  case round =>
    clear ho1 hg1
    obtain ⟨i, l, rfl, hi, hlc, hsl, hg, hO⟩ := hrel
    by_cases hlt : i < v.length
    · have hlt' : (i : Int) < v.length := by omega
      by_cases hlr : i < R.length
      · have hlr' : (i : Int) < R.length := by omega
        obtain ⟨br, or, a2, cap2, rfl, _, _, hcr, hri⟩ := Rows2.at hr i hlr
        have hvi := HV.out.1.at hlt
        have hRi : Sm (gt R i) := HV.out.2 _ (by rw [gt_eq R i hlr]; exact List.getElem_mem hlr)
        obtain ⟨z, hz⟩ : ∃ z, z = gt R i := ⟨_, rfl⟩
        rw [← hz] at hcr hri hRi
        have HR := Lib.hid (And.intro hRi (And.intro hvi hz)); clear hRi hvi hz
        have HL := Lib.hid (And.intro hlc hsl); clear hlc hsl
        have hcr2 := hg.cell hcr (by simp)
        go_wp2
        clear hcr2
        go_loopw [11] (fun jv wx => ∃ (j : Nat) (l : List Int), jv = .int .i64 j ∧ j ≤ z.length ∧ l.length = c ∧ Sm l ∧ Ext w wx ∧ Own w.heap.size wx (.slice (some ⟨w.heap.size, 0, none⟩) c c) l) (fun jv _ => z.length - (intOf jv).toNat)
        case atStart => exact ⟨0, l, rfl, by omega, HL.out.1, HL.out.2, hg, hO⟩
        case round =>
          clear hO hg HL
          obtain ⟨j, l, rfl, hj, hlc, hsl, hg, hO⟩ := hrel
          have hcr2 := hg.cell hcr (by simp)
          by_cases hltc : j < c
          · have hltc' : (j : Int) < c := by omega
            by_cases hltz : j < z.length
            · have hltz' : (j : Int) < z.length := by omega
              obtain ⟨bz, oz, rfl, _, _, hcz⟩ := Ints.at (Ints.ext hri hg) j hltz
              obtain ⟨bv, ov, rfl, _, _, hcv⟩ := Ints.at (Ints.ext hv hg) i hlt
              have hco := hO.cell j (by omega)
              have hfo := hO.frozen j
              have ha := HR.out.2.1
              have hb := HR.out.1.at hltz
              have hx := hsl.at (show j < l.length by omega)
              obtain ⟨a, hae⟩ : ∃ a, a = gt v i := ⟨_, rfl⟩
              obtain ⟨b, hbe⟩ : ∃ b, b = gt z j := ⟨_, rfl⟩
              obtain ⟨x, hxe⟩ : ∃ x, x = gt l j := ⟨_, rfl⟩
              rw [← hae] at ha hcv
              rw [← hbe] at hb hcz
              rw [← hxe] at hx hco
              have hab := sm_mul ha hb
              obtain ⟨ab, habe⟩ : ∃ ab, ab = a * b := ⟨_, rfl⟩
              rw [← habe] at hab
              have hm0 : 0 ≤ (x + ab) % p := Int.emod_nonneg _ (by omega)
              have hm1 : (x + ab) % p < p := Int.emod_lt_of_pos _ (by omega)
              obtain ⟨hO3, hgs⟩ := hO.store j ((x + ab) % p)
              have hsl3 := hsl.set j (x := (x + ab) % p) ⟨hm0, by omega⟩
              have hgn := grown_own hg hgs (fun k hk hlt => by cases hk; omega)
              clear hae hbe hxe
              have hp0 : p ≠ 0 := by omega
              have hl3 : (l.set j ((x + ab) % p)).length = c := by rw [List.length_set]; exact hlc
              have hw2 := i64_small (x + ab) (by omega)
              have hw1 : IntKind.i64.wrap (a * b) = ab := by rw [← habe]; exact i64_small ab (by omega)
              have hw3 : wrap64 (a * b) = ab := by rw [← habe]; exact w64_small ab (by omega)
              have hw4 := w64_small (x + ab) (by omega)
              have c1 : wr.drew.cell? ⟨w.heap.size, j, none⟩ = some (.int .i64 x) := hco
              have c2 : wr.drew.cell? ⟨bv, ov + i, none⟩ = some (.int .i64 a) := hcv
              have c3 : wr.drew.cell? ⟨br, or + i, none⟩ = some (.slice (some ⟨bz, oz, none⟩) z.length cap2) := hcr2
              have c4 : wr.drew.cell? ⟨bz, oz + j, none⟩ = some (.int .i64 b) := hcz
              have c5 : wr.drew.frozen? ⟨w.heap.size, j, none⟩ = false := hfo
              clear hco hcv hcz hfo habe hO
              have hOd := hO3.ext0 (grown_drew (wr.setCell ⟨w.heap.size, j, none⟩ (.int .i64 ((x + ab) % p))) none)
              have hgd := grown_trans hgn (grown_drew (wr.setCell ⟨w.heap.size, j, none⟩ (.int .i64 ((x + ab) % p))) none)
              have HQ := Lib.hid (And.intro hOd (And.intro hgd (And.intro hsl3 hl3))); clear hO3 hgs hgn hsl3 hl3 hOd hgd
              go_wp2
              clear hcr2
              go_still_tail 22, (by kernel_rfl)
              change wpList _ _ _ _ _ wr.drew
              clear hcr hri
              go_wp2
              clear hw1 hw2 hw3 hw4
              go_roundw
              case rel => exact ⟨j + 1, _, by go_num, by omega, HQ.out.2.2.2, HQ.out.2.2.1, HQ.out.2.1, HQ.out.1⟩
              case measure => simp [intOf]; omega
            · have hltz' : ¬ ((j : Int) < z.length) := by omega
              have hgq := hg
              go_wp2
              go_roundw
              case rel => exact ⟨i + 1, l, by go_num, by omega, hlc, hsl, hgq, hO⟩
              case measure => simp [intOf]; omega
          · have hltc' : ¬ ((j : Int) < c) := by omega
            have hgq := hg
            go_wp2
            go_roundw
            case rel => exact ⟨i + 1, l, by go_num, by omega, hlc, hsl, hgq, hO⟩
            case measure => simp [intOf]; omega
      · have hlr' : ¬ ((i : Int) < R.length) := by omega
        go_wp2
        go_ret
        exact ⟨_, rfl, hg, l, hlc, hsl, hO⟩
    · have hlt' : ¬ ((i : Int) < v.length) := by omega
      go_wp2
      go_ret
      exact ⟨_, rfl, hg, l, hlc, hsl, hO⟩
/-- rows of c small entries -/
def SmR (c : Nat) (R : List (List Int)) : Prop := ∀ x ∈ R, x.length = c ∧ Sm x

set_option maxRecDepth 100000 in
set_option maxHeartbeats 4000000 in
theorem l02Product_ok (w : World) (p : Int) (av bv : Value) (A R : List (List Int)) (c : Nat) (S S' : Nat → Prop) (ha : Rows2 S w av A) (hr : Rows2 S' w bv R) (hp : 1 ≤ p ∧ p ≤ 7) (hA : SmR c A) (hR : SmR c R) (hc : c ≤ 100) (hl : A.length ≤ 100) :
    Calls Tryz.prog 290 #[.int .i64 p, av, bv, .int .i64 c] w (Ret w fun w' r => ∃ L, L.length = A.length ∧ SmR c L ∧ RowsO w.heap.size w' r L) := by
  obtain ⟨aa, capa, rfl, _, _⟩ := Sl.shape ha
  obtain ⟨ar, capr, rfl, _, _⟩ := Sl.shape hr
  have HL := Lib.hid (And.intro hA hR); clear hA hR
  go_enter Tryz.func290, Tryz.ntmps290
  go_wp2
  go_loopw [9, 10] (fun ov iv wr => ∃ (i : Nat) (v4 : Value) (L : List (List Int)), v4 = ov ∧ iv = .int .i64 i ∧ i ≤ A.length ∧ L.length = i ∧ SmR c L ∧ Ext w wr ∧ RowsO w.heap.size wr v4 L) (fun _ iv _ => A.length - (intOf iv).toNat)
  case atStart => exact ⟨0, _, [], rfl, rfl, by omega, rfl, (fun x hx => by cases hx), World.grownBy_alloc _ _ _, [], fun _ _ => False, rfl, World.ownsRow_lit w #[] 0 (Nat.le_refl _) (by decide) rfl, by simp, by simp, by simp⟩
  case round =>
    obtain ⟨i, v4, L, rfl, rfl, hi, hLi, hLs, hg, hO⟩ := hrel
    by_cases hlt : i < A.length
    · have hlt' : (i : Int) < A.length := by omega
      obtain ⟨b, off, a2, cap2, rfl, _, _, hcc, hri⟩ := Rows2.at (Rows2.ext ha hg) i hlt
      have hAi := HL.out.1 _ (gtMem hlt)
      have hRs : ∀ x ∈ R, Sm x := fun x hx => (HL.out.2 x hx).2
      have hcon := l02Times_ok wr p _ _ (gt A i) R c _ _ hri (Rows2.ext hr hg) hp hAi.2 hRs hc
      have htl : L.length ≤ 1000000 := by omega
      have HS := Lib.hid (And.intro hLi (And.intro hLs htl)); clear hLi hLs htl hAi hRs
      go_wp2_with fail
      refine Calls.mono hcon ?_
      rintro eC wC ⟨vC, rfl, hgC, l, hlc, hls, hOC⟩
      clear hcon
      have hYO : OwnIn (From wr.heap.size) wC vC l := OwnIn.of hOC (by omega) (fun j h1 _ => h1)
      obtain ⟨ay, capy, hvy, _, _⟩ := hYO.ints.shape
      subst hvy
      have HC := Lib.hid (And.intro hlc hls); clear hcc hlc hls
      go_wp2_with (first | (at_builtin; refine wp_app_row rfl _ _ rfl w.heap.size wr wC v4 _ L l rfl hO hgC hYO rfl rfl HS.out.2.2 hg.size ?_; intro v5 w5 hO5 hg5 hg6; have hgw5 := hO.extw hg (Nat.le_refl _) hg5) | fail)
      go_roundw
      case rel => exact ⟨i + 1, v5, L ++ [l], rfl, by go_num, by omega, by rw [List.length_append, HS.out.1]; rfl, fun x hx => by
        rcases List.mem_append.1 hx with h | h
        · exact HS.out.2.1 x h
        · rw [List.mem_singleton.1 h]; exact HC.out, hgw5, hO5⟩
      case measure => simp [intOf]; omega
    · have hie : i = A.length := by omega
      obtain ⟨az, capz, hvz, _, _⟩ := SlD.shape (hO.toD (by omega))
      subst hvz
      have hlt' : ¬ ((i : Int) < A.length) := by omega
      have HS := Lib.hid (And.intro hLi (And.intro hLs hie)); clear hLi hLs hie
      go_wp2
      go_ret
      exact ⟨_, rfl, hg, L, by rw [HS.out.1, HS.out.2.2], HS.out.2.1, hO⟩

end Go.Proofs.YtoakmefajbbggaaGreat
namespace Go.Proofs.YtoakmefajbbggaaGreat
open Go.RowKit
attribute [local go_sem ↓] Go.wp_at_zero Go.wp_at_succ

/-- letters over n generators -/
def LetW (n : Nat) (w : List Int) : Prop := ∀ x ∈ w, x ≠ 0 ∧ -n ≤ x ∧ x ≤ n
/-- a vector of n entries between 0 and M, or a fault -/
def VecR (n M B : Nat) (w' : World) (v : Value) : Prop := ∃ (a : Option Addr) (k c : Nat) (r : Bool), v = .tuple #[.slice a k c, .bool r] ∧ (r = true → ∃ l, l.length = n ∧ k = n ∧ (∀ x ∈ l, 0 ≤ x ∧ x ≤ (M : Int)) ∧ Own B w' (.slice a k c) l)

theorem i64_1000 (x : Int) (h : 0 ≤ x ∧ x ≤ 100000) : IntKind.i64.wrap x = x := IntWalk.i64_in _ (by omega)
theorem w64_1000 (x : Int) (h : 0 ≤ x ∧ x ≤ 100000) : wrap64 x = x := IntWalk.wrap64_in _ (by omega)

set_option maxRecDepth 100000 in
set_option maxHeartbeats 4000000 in
theorem l07Vector_ok (w : World) (n : Nat) (lv : Value) (L : List Int) (S : Nat → Prop) (hL : Ints S w lv L) (hw : LetW n L) (hn : n ≤ 100) (hl : L.length ≤ 1000) :
    Calls Tryz.prog 122 #[.int .i64 n, lv] w (Ret w (VecR n L.length w.heap.size)) := by
  obtain ⟨al, capl, rfl, _, _⟩ := hL.shape
  have HW := Lib.hid hw; clear hw
  go_enter Tryz.func122, Tryz.ntmps122
  go_wp2_with (at_make; refine wp_make_ints rfl _ _ rfl w.heap.size n w.heap.size rfl _ rfl rfl rfl (by omega) (Nat.le_refl _) ?_; intro w1 ho1 hg1 hlt1)
  go_loopw [7] (fun iv wr => ∃ (i : Nat) (l : List Int), iv = .int .i64 i ∧ i ≤ L.length ∧ l.length = n ∧ (∀ x ∈ l, 0 ≤ x ∧ x ≤ i) ∧ Ext w wr ∧ Own w.heap.size wr (.slice (some ⟨w.heap.size, 0, none⟩) n n) l) (fun iv _ => L.length - (intOf iv).toNat)
  case atStart => exact ⟨0, _, rfl, by omega, by simp, (fun x hx => by rw [List.eq_of_mem_replicate hx]; omega), hg1, ho1⟩
  case round =>
    clear ho1 hg1
    obtain ⟨i, l, rfl, hi, hln, hlb, hg, hO⟩ := hrel
    by_cases hlt : i < L.length
    · have hlt' : (i : Int) < L.length := by omega
      obtain ⟨b, off, rfl, _, _, hc⟩ := Ints.at (Ints.ext hL hg) i hlt
      have hx := HW.out _ (gtMem hlt)
      obtain ⟨x, hxe⟩ : ∃ x, x = gt L i := ⟨_, rfl⟩
      rw [← hxe] at hc hx
      clear hxe
      by_cases hneg : x < 0
      · have HL := Lib.hid (And.intro hln (And.intro hlb hx)); clear hln hlb hx
        go_wp2
        exact bodyPost_ret (v := .tuple #[.slice none 0 0, .bool false]) (by simp [results, Tryz.results122, go_sem]) rfl ⟨_, rfl, hg, none, 0, 0, false, rfl, fun h => by cases h⟩
      · obtain ⟨J, hJx⟩ := Int.eq_ofNat_of_zero_le (show 0 ≤ x - 1 by omega)
        obtain rfl : x = (J : Int) + 1 := by omega
        clear hJx
        have hJ : J < n := by omega
        have hJn : (J : Int) < n := by omega
        have hy := hlb _ (gtMem (show J < l.length by omega))
        have hco := hO.cell J (by omega)
        have hfo := hO.frozen J
        obtain ⟨y, hye⟩ : ∃ y, y = gt l J := ⟨_, rfl⟩
        rw [← hye] at hy hco
        obtain ⟨hO3, hgs⟩ := hO.store J (y + 1)
        have hgn := grown_own hg hgs (fun k hk hlt => by cases hk; omega)
        have hl3 : (l.set J (y + 1)).length = n := by rw [List.length_set]; exact hln
        have hb3 : ∀ z ∈ l.set J (y + 1), 0 ≤ z ∧ z ≤ ((i + 1 : Nat) : Int) := fun z hz => by
          rcases List.mem_or_eq_of_mem_set hz with h | h
          · have := hlb z h; omega
          · omega
        have hOd := hO3.ext0 (grown_drew (wr.setCell ⟨w.heap.size, J, none⟩ (.int .i64 (y + 1))) none)
        have hgd := grown_trans hgn (grown_drew (wr.setCell ⟨w.heap.size, J, none⟩ (.int .i64 (y + 1))) none)
        have hw1 := i64_1000 (J : Int) (by omega)
        have hw2 := i64_1000 (y + 1) (by clear hw1; omega)
        have hw3 := w64_1000 (J : Int) (by clear hw1 hw2; omega)
        have hw4 := w64_1000 (y + 1) (by clear hw1 hw2 hw3; omega)
        have HQ := Lib.hid (And.intro hOd (And.intro hgd (And.intro hl3 (And.intro hb3 (And.intro hw1 (And.intro hw2 (And.intro hw3 hw4))))))); clear hOd hgd hl3 hb3 hw1 hw2 hw3 hw4 hgs hgn hO3 hye hln hlb hx
        have c1 : wr.drew.cell? ⟨w.heap.size, J, none⟩ = some (.int .i64 y) := hco
        have c2 : wr.drew.cell? ⟨b, off + i, none⟩ = some (.int .i64 ((J : Int) + 1)) := hc
        have c3 : wr.drew.frozen? ⟨w.heap.size, J, none⟩ = false := hfo
        clear hco hfo hO
        go_wp2
        clear hc
        have hw1 := HQ.out.2.2.2.2.1
        have hw2 := HQ.out.2.2.2.2.2.1
        have hw3 := HQ.out.2.2.2.2.2.2.1
        have hw4 := HQ.out.2.2.2.2.2.2.2
        go_still_tail 16, (by kernel_rfl)
        change wpList _ _ _ _ _ wr.drew
        go_wp2
        clear hw1 hw2 hw3 hw4
        go_roundw
        case rel => exact ⟨i + 1, _, by go_num, by omega, HQ.out.2.2.1, HQ.out.2.2.2.1, HQ.out.2.1, HQ.out.1⟩
        case measure => simp [intOf]; omega
    · have hie : i = L.length := by omega
      subst hie
      have HL := Lib.hid (And.intro hln hlb); clear hln hlb
      go_wp2
      exact bodyPost_ret (v := .tuple #[.slice (some ⟨w.heap.size, 0, none⟩) n n, .bool true]) (by simp [results, Tryz.results122, go_sem]) rfl ⟨_, rfl, hg, _, _, _, true, rfl, fun _ => ⟨l, HL.out.1, rfl, HL.out.2, hO⟩⟩

end Go.Proofs.YtoakmefajbbggaaGreat
