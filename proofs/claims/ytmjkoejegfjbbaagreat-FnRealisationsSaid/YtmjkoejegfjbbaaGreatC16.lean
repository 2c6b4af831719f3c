/-
  Drawing: spec.l07Draw.
  Drawing: spec.l07Vectors, l10Some.
  The reference's closure: spec.l12Close.
  Drawing: spec.l12Some.
  Plain: a group of order at most 32 has at most 17408 subgroups (a crude bound).
  Plain: the subgroups of a small group as sets of bits; all of them are found; the ascending list is one.
  impl.multiplicationTable.
  spec.l19Span: the mask of the subgroup that some elements generate.
  spec.l19Sequence: the sequence of the subgroup that a mask tells.
-/
import Derived.Test.YtmjkoejegfjbbaaGreatC10
import Derived.Test.YtmjkoejegfjbbaaGreatC12
import Derived.Test.YtmjkoejegfjbbaaGreatC15
import Derived.Test.YtmjkoejegfjbbaaGreatC3
import Derived.Test.YtmjkoejegfjbbaaGreatC9
namespace Go.Proofs.YtmjkoejegfjbbaaGreat
open Go.RowKit
attribute [local go_sem ↓] Go.wp_at_zero Go.wp_at_succ
set_option maxRecDepth 100000 in
set_option maxHeartbeats 16000000 in
theorem l07DrawL_ok (B0 : Nat) (w : World) (sb : Nat) (limit : Int) (hB0 : B0 ≤ w.heap.size) (hs : Src B0 w sb) :
  Calls Tryz.prog 143 #[.pointer (some ⟨sb, 0, none⟩), .int .i64 limit] w (Mut w (some sb) (DrawR B0 sb (PresAL 7 (LimOk limit) w.heap.size))) := by
 have hsb := hs.lt
 have hbB := Box3.made w 39 (.slice none 0 0) (.slice none 0 0) (.slice none 0 0)
 have hg0 : Ext w (w.alloc (.cells #[.slice none 0 0, .slice none 0 0, .slice none 0 0] 39)) := World.grownBy_alloc _ _ _
 have hs0 : (w.alloc (.cells #[.slice none 0 0, .slice none 0 0, .slice none 0 0] 39)).heap.size = w.heap.size + 1 := by simp
 have hsW := Lib.hid (hs.ext hg0); clear hs
 go_enter Tryz.func143, Tryz.ntmps143
 go_wp2_with fail
 generalize w.alloc (.cells #[.slice none 0 0, .slice none 0 0, .slice none 0 0] 39) = w0 at *
 have hs00 : w.heap.size + 1 ≤ w0.heap.size := by omega
 clear hs0
 refine Calls.mono (l07GroupL_ok B0 w0 sb limit (by omega) hsW.out) ?_
 rintro e1 w1 ⟨v1, rfl, hg1, hP1, hs1⟩
 obtain ⟨vo, vp, vc, Q, rfl, hV, hQ, hLQ⟩ := hP1
 have HLQ := Lib.hid hLQ; clear hLQ
 obtain ⟨a1, n1, c1, a2, n2, c2, a3, n3, c3, rfl, rfl, rfl⟩ := PresN3.shape ⟨Q, hV.shp, hQ⟩
 have hgq : Ext w1 (w1.alloc (.cells #[.slice a1 n1 c1, .slice a2 n2 c2, .slice a3 n3 c3] 39)) := World.grownBy_alloc _ _ _
 have hbQ := Box3.made w1 39 (.slice a1 n1 c1) (.slice a2 n2 c2) (.slice a3 n3 c3)
 obtain ⟨pb, hpb⟩ : ∃ pb, pb = w1.heap.size := ⟨_, rfl⟩
 rw [← hpb] at hbQ
 have hs1' := hg1.size
 have hQ2 : Pres3 (fun k => w0.heap.size ≤ k ∧ k ≠ pb) (w1.alloc (.cells #[.slice a1 n1 c1, .slice a2 n2 c2, .slice a3 n3 c3] 39)) (.slice a1 n1 c1) (.slice a2 n2 c2) (.slice a3 n3 c3) Q := hQ.mono (fun k hk hlt => ⟨⟨hk, by omega⟩, Nat.lt_of_lt_of_le hlt hgq.size, hgq.block k hlt (by simp)⟩)
 have hb1 := hbB.moved hg1 (by omega)
 have hb2 := hb1.ext hgq
 have hs2 := hs1.ext hgq
 have hgw2 := grown_trans (grown_of_ext (some sb) hg0) (grown_trans hg1 (grown_of_ext (some sb) hgq))
 have HP := Lib.hid hpb
 have HQ := Lib.hid (And.intro hQ2 (And.intro hs2 hV)); clear hQ hQ2 hs2 hs1 hV hg1 hbB hg0 hsW hb1 hgq
 go_wp2_with fail
 rw [← HP.out]
 generalize w1.alloc (.cells #[.slice a1 n1 c1, .slice a2 n2 c2, .slice a3 n3 c3] 39) = w2 at *
 have hpw : w0.heap.size ≤ pb := by omega
 clear hpb HP hs1'
 refine Calls.mono (l01Next_ok B0 w2 sb 24 HQ.out.2.1) ?_
 rintro e3 w3 ⟨v3, rfl, hg3, x, rfl, _, hx1, hs3⟩
 have hb3 := hb2.moved hg3 (by omega)
 have hbQ3 := hbQ.moved hg3 (by omega)
 have hQ3 : Pres3 (fun k => w0.heap.size ≤ k ∧ k ≠ pb) w3 (.slice a1 n1 c1) (.slice a2 n2 c2) (.slice a3 n3 c3) Q := HQ.out.1.mono (fun k hk hlt => ⟨hk, Nat.lt_of_lt_of_le hlt hg3.size, hg3.block k hlt (fun e => by have := Option.some.inj e; omega)⟩)
 have hgw3 := grown_trans hgw2 hg3
 have hV := HQ.out.2.2
 have hsz3 := hgw3.size
 have hp3 := hbQ3.1
 have HQ := Lib.hid (And.intro hQ3 (And.intro hs3 hV)); clear hQ3 hs3 hV hg3 hbQ hb2 hgw2 hx1
 obtain ⟨q0, q1, q2, q3, q4⟩ := id hbQ3
 by_cases hx0 : x = 0
 ·have hxb : (x == 0) = true := by simp [hx0]
  clear hx0
  go_wp2_with fail
  refine Calls.mono (l07BendL_ok B0 w3 sb _ Q _ (by omega) HQ.out.2.1 ⟨_, _, _, rfl, HQ.out.1⟩ HQ.out.2.2) ?_
  rintro e4 w4 ⟨v4, rfl, hg4, ⟨uo, up, uc, R, rfl, hRl, hR, hRo⟩, hs4⟩
  obtain ⟨y1, m1, k1, hy1⟩ : ∃ a n c, uo = .slice a n c := by obtain ⟨a, c, e, _⟩ := hR.o.shape; exact ⟨_, _, _, e⟩
  obtain ⟨y2, m2, k2, hy2⟩ : ∃ a n c, up = .slice a n c := by obtain ⟨a, c, e, _⟩ := Sl.shape hR.p; exact ⟨_, _, _, e⟩
  obtain ⟨y3, m3, k3, hy3⟩ : ∃ a n c, uc = .slice a n c := by obtain ⟨a, c, e, _⟩ := Sl.shape hR.c; exact ⟨_, _, _, e⟩
  subst hy1 hy2 hy3
  have hb4 := hb3.moved hg4 (by omega)
  have hgw4 := grown_trans hgw3 hg4
  obtain ⟨b0, b1, b2, b3, b4⟩ := id hb4
  have hZ := hb4.all (.slice y1 m1 k1) (.slice y2 m2 k2) (.slice y3 m3 k3)
  obtain ⟨-, z0, z1, z2, -⟩ := id hZ
  have HF := Lib.hid (And.intro hgw4 (And.intro hs4 (And.intro hR (And.intro hRl (HLQ.out.le HQ.out.2.2 hRo))))); clear hZ hgw4 hs4 hR hRl hb4 hg4 hRo
  go_wp2_with fail
  refine bodyPost_ret (v := .agg #[.slice y1 m1 k1, .slice y2 m2 k2, .slice y3 m3 k3]) (by simp [results, Tryz.results143, go_sem, z0, z1, z2]) rfl ?_
  exact a_ret HF.out.1 (br := w.heap.size) (Nat.le_refl _) (fun k hk _ => by have hk : w3.heap.size ≤ k := hk; exact ⟨by omega, by omega⟩) HF.out.2.1 hB0 HF.out.2.2.2.1 HF.out.2.2.1 HF.out.2.2.2.2
 have hxb : (x == 0) = false := by simp [hx0]
 by_cases hx12 : x = 1 ∨ x = 2
 ·rcases hx12 with rfl | rfl
  all_goals
   clear hx0
   go_wp2_with fail
   refine Calls.mono (l07TurnL_ok B0 w3 sb _ Q _ (by omega) HQ.out.2.1 ⟨_, _, _, rfl, HQ.out.1⟩ HQ.out.2.2) ?_
   rintro e4 w4 ⟨v4, rfl, hg4, ⟨uo, up, uc, R, rfl, hRl, hR, hRo⟩, hs4⟩
   obtain ⟨y1, m1, k1, hy1⟩ : ∃ a n c, uo = .slice a n c := by obtain ⟨a, c, e, _⟩ := hR.o.shape; exact ⟨_, _, _, e⟩
   obtain ⟨y2, m2, k2, hy2⟩ : ∃ a n c, up = .slice a n c := by obtain ⟨a, c, e, _⟩ := Sl.shape hR.p; exact ⟨_, _, _, e⟩
   obtain ⟨y3, m3, k3, hy3⟩ : ∃ a n c, uc = .slice a n c := by obtain ⟨a, c, e, _⟩ := Sl.shape hR.c; exact ⟨_, _, _, e⟩
   subst hy1 hy2 hy3
   have hb4 := hb3.moved hg4 (by omega)
   have hgw4 := grown_trans hgw3 hg4
   obtain ⟨b0, b1, b2, b3, b4⟩ := id hb4
   have hZ := hb4.all (.slice y1 m1 k1) (.slice y2 m2 k2) (.slice y3 m3 k3)
   obtain ⟨-, z0, z1, z2, -⟩ := id hZ
   have HF := Lib.hid (And.intro hgw4 (And.intro hs4 (And.intro hR (And.intro hRl (HLQ.out.le HQ.out.2.2 hRo))))); clear hZ hgw4 hs4 hR hRl hb4 hg4 hRo
   go_wp2_with fail
   refine bodyPost_ret (v := .agg #[.slice y1 m1 k1, .slice y2 m2 k2, .slice y3 m3 k3]) (by simp [results, Tryz.results143, go_sem, z0, z1, z2]) rfl ?_
   exact a_ret HF.out.1 (br := w.heap.size) (Nat.le_refl _) (fun k hk _ => by have hk : w3.heap.size ≤ k := hk; exact ⟨by omega, by omega⟩) HF.out.2.1 hB0 HF.out.2.2.2.1 HF.out.2.2.1 HF.out.2.2.2.2
 ·have hxb1 : (x == 1) = false := by simp; omega
  have hxb2 : (x == 2) = false := by simp; omega
  clear hx12 hx0
  obtain ⟨b0, b1, b2, b3, b4⟩ := id hb3
  have hZ := hb3.all (.slice a1 n1 c1) (.slice a2 n2 c2) (.slice a3 n3 c3)
  obtain ⟨-, z0, z1, z2, -⟩ := id hZ
  have HF := Lib.hid hgw3; clear hZ hgw3 hb3
  go_wp2_with fail
  refine bodyPost_ret (v := .agg #[.slice a1 n1 c1, .slice a2 n2 c2, .slice a3 n3 c3]) (by simp [results, Tryz.results143, go_sem, z0, z1, z2]) rfl ?_
  exact a_ret HF.out (br := w.heap.size) (Nat.le_refl _) (fun k hk _ => ⟨by omega, by omega⟩) HQ.out.2.1 hB0 (by have := HQ.out.2.2.n6; omega) HQ.out.1 HLQ.out
theorem l07Draw_ok (B0 : Nat) (w : World) (sb : Nat) (limit : Int) (hB0 : B0 ≤ w.heap.size) (hs : Src B0 w sb) :
  Calls Tryz.prog 143 #[.pointer (some ⟨sb, 0, none⟩), .int .i64 limit] w (Mut w (some sb) (DrawR B0 sb (PresA 7 w.heap.size))) :=
 Calls.mono (l07DrawL_ok B0 w sb limit hB0 hs) (fun _ _ ⟨v, h1, h2, ⟨vo, vp, vc, Q, h3, h4, h5, _⟩, h6⟩ => ⟨v, h1, h2, ⟨vo, vp, vc, Q, h3, h4, h5⟩, h6⟩)
end Go.Proofs.YtmjkoejegfjbbaaGreat
namespace Go.Proofs.YtmjkoejegfjbbaaGreat
open Go.RowKit
attribute [local go_sem ↓] Go.wp_at_zero Go.wp_at_succ
def VecD (M B : Nat) (w' : World) (v : Value) : Prop := ∃ (a : Option Addr) (c : Nat) (l : List Int), v = .slice a l.length c ∧ l.length ≤ M ∧ Own B w' (.slice a l.length c) l
set_option maxRecDepth 100000 in
set_option maxHeartbeats 8000000 in
theorem l07Vectors_ok (B0 : Nat) (w : World) (sb : Nat) (pv : Value) (Q : Pr) (F : Nat → Prop) (hB0 : B0 ≤ w.heap.size) (hs : Src B0 w sb) (hp : PresV F w pv Q) (hF : ∀ k, F k → k ≠ sb) (hQ : Q.orders.length ≤ 20) :
  Calls Tryz.prog 200 #[.pointer (some ⟨sb, 0, none⟩), pv] w (Mut w (some sb) (DrawR B0 sb (VecD 21 w.heap.size))) := by
 have hsb := hs.lt
 obtain ⟨vo, vp, vc, rfl, h3⟩ := hp
 obtain ⟨ao, co, hvo, _, _⟩ := h3.o.shape
 obtain ⟨ap, cp, hvp, _, _⟩ := Sl.shape h3.p
 obtain ⟨ac, cc, hvc, _, _⟩ := Sl.shape h3.c
 subst hvo hvp hvc
 have hbA := Box3.made w 39 (.slice ao Q.orders.length co) (.slice ap Q.powers.length cp) (.slice ac Q.conj.length cc)
 have hgA : Ext w (w.alloc (.cells #[.slice ao Q.orders.length co, .slice ap Q.powers.length cp, .slice ac Q.conj.length cc] 39)) := World.grownBy_alloc _ _ _
 have hoA := h3.o.ext hgA
 have hsA := hs.ext hgA
 have hzA : (w.alloc (.cells #[.slice ao Q.orders.length co, .slice ap Q.powers.length cp, .slice ac Q.conj.length cc] 39)).heap.size = w.heap.size + 1 := by simp
 have HZ := Lib.hid (And.intro hzA hsA); clear hzA hsA hs h3
 go_enter Tryz.func200, Tryz.ntmps200
 go_wp2_with fail
 generalize w.alloc (.cells #[.slice ao Q.orders.length co, .slice ap Q.powers.length cp, .slice ac Q.conj.length cc] 39) = w0 at *
 have hzA : w0.heap.size = w.heap.size + 1 := HZ.out.1
 have hgE := World.grownBy_alloc w0 (.cells #[] 2) none
 have hOE : Own w0.heap.size (w0.alloc (.cells #[] 2)) (.slice (some ⟨w0.heap.size, 0, none⟩) 0 0) [] := World.ownsRow_lit w0 #[] 0 (Nat.le_refl _) (by decide) rfl
 have HS := Lib.hid (HZ.out.2.ext hgE)
 have hg0 := grown_of_ext (some sb) hgE
 clear hgE
 have HW := Lib.hid hzA
 rw [hzA] at hOE
 have hz1 : w.heap.size + 1 ≤ w0.heap.size := by omega
 clear hzA HZ
 generalize w0.alloc (.cells #[] 2) = w1 at *
 rw [← HW.out] at hOE
 rw [← HW.out]
 go_loopw [5, 6] (fun ov iv wr => ∃ (i : Nat) (l : List Int) (v4 : Value), v4 = ov ∧ iv = .int .i64 i ∧ i ≤ Q.orders.length ∧ Hid (l.length = i) ∧ w0.grownBy wr (some sb) ∧ Own w0.heap.size wr v4 l ∧ Hid (Src B0 wr sb)) (fun _ iv _ => Q.orders.length - (intOf iv).toNat)
 case atStart => exact ⟨0, [], _, rfl, rfl, by omega, Lib.hid rfl, hg0, hOE, HS⟩
 case round =>
  clear hg0 hOE HS
  obtain ⟨i, l, v4, rfl, rfl, hi, hli, hg, hO, hsr⟩ := hrel
  have hbr := hbA.moved hg (by omega)
  obtain ⟨b0, b1, b2, b3, b4⟩ := id hbr
  have hob : ∀ j, v4.ownBlock = some j → w0.heap.size ≤ j := fun j hj => (hO.lt j hj).1
  have HO := Lib.hid hob; clear hob
  by_cases hlt : i < Q.orders.length
  ·have hlt' : (i : Int) < Q.orders.length := by omega
   obtain ⟨bo, oo, rfl, hboF, _, hco⟩ := Ints.at hoA i hlt
   have hc := hg.cell hco (by simp; exact hF _ hboF)
   obtain ⟨x, hx⟩ : ∃ x, x = gt Q.orders i := ⟨_, rfl⟩
   rw [← hx] at hc hco
   clear hx hco
   go_wp2_with fail
   refine Calls.mono (l01Next_ok B0 wr sb x hsr.out) ?_
   rintro e3 w3 ⟨v3, rfl, hg3, y, rfl, _, _, hs3⟩
   have hg03 := grown_trans hg hg3
   have hO3 : Own w0.heap.size w3 _ l := hO.kept hg3 (.inr (fun e => by have := HO.out sb e; omega))
   have hll : l.length ≤ 1000000 := by have := hli.out; omega
   have HS3 := Lib.hid (And.intro hs3 hll); clear hs3 hc hll hO
   go_wp2_with (first | (at_builtin; refine wp_app_int rfl _ _ rfl w0.heap.size v4 l y rfl w3 hO3 rfl rfl HS3.out.2 hg03.size ?_; intro v5 w5 hO5 hg5) | fail)
   have hs5 := HS3.out.1.own hg5 (fun j hj => by have := HO.out j hj; omega)
   have hg05 : w0.grownBy w5 (some sb) := grown_own hg03 hg5 (fun j hj hlt => by have := HO.out j hj; omega)
   have hll : (l ++ [y]).length = l.length + 1 := by simp
   go_roundw
   case rel => exact ⟨i + 1, l ++ [y], v5, rfl, by go_num, by omega, Lib.hid (by have := hli.out; omega), hg05, hO5, Lib.hid hs5⟩
   case measure => simp [intOf]; omega
  ·have hlt' : ¬ ((i : Int) < Q.orders.length) := by omega
   have hlr : l.length ≤ 20 := by have := hli.out; omega
   obtain ⟨al, cl, rfl, _⟩ := (hO.ints (by omega)).shape
   have hgw : w.grownBy wr (some sb) := grown_trans (grown_of_ext (some sb) hgA) hg
   go_wp2_with fail
   refine Calls.mono (l01Next_ok B0 wr sb 40 hsr.out) ?_
   rintro e3 w3 ⟨v3, rfl, hg3, y, rfl, _, _, hs3⟩
   have hg03 := grown_trans hg hg3
   have hgw3 := grown_trans hgw hg3
   have hO3 : Own w0.heap.size w3 _ l := hO.kept hg3 (.inr (fun e => by have := HO.out sb e; omega))
   have hb3 := hbr.moved hg3 (by omega)
   have HS3 := Lib.hid hs3; clear hs3 hO hsr hbr b0 b1 b2 b3 b4 hgw
   by_cases hy : y = 0
   ·have hyb : (y == 0) = true := by simp [hy]
    clear hy
    have hlQ : l.length = Q.orders.length := by have := hli.out; omega
    have HLQ := Lib.hid hlQ; clear hlQ
    by_cases hl0 : l.length = 0
    ·have hlb : decide (0 < l.length) = false := by simp [hl0]
     have hlb2 : ((0 : Int) < l.length) = False := by simp [hl0]
     clear hl0
     go_wp2_with (first | (at_builtin; refine wp_app_int rfl _ _ rfl w0.heap.size _ l 0 rfl w3 hO3 rfl rfl (by omega) hg03.size ?_; intro v5 w5 hO5 hg5) | fail)
     have hs5 := HS3.out.own hg5 (fun j hj => by have := HO.out j hj; omega)
     have hg5w : w.grownBy w5 (some sb) := grown_own hgw3 hg5 (fun j hj hlt => by have := HO.out j hj; omega)
     have hll : (l ++ [(0 : Int)]).length = l.length + 1 := by simp
     obtain ⟨a5, c5, hv5, _⟩ := (hO5.ints (by omega)).shape
     subst hv5
     go_ret
     exact ⟨_, rfl, hg5w, ⟨a5, c5, l ++ [0], rfl, by omega, Own.weak hO5 (by omega)⟩, hs5⟩
    ·have hl1 : (0 : Int) < l.length := by omega
     have hq1 : 0 < Q.orders.length := by have := HLQ.out; omega
     have hqI : (0 : Int) < Q.orders.length := by omega
     clear hl0
     go_wp2_with fail
     refine Calls.mono (l01Next_ok B0 w3 sb 2 HS3.out) ?_
     rintro e4 w4 ⟨v4, rfl, hg4, z, rfl, _, _, hs4⟩
     have hg04 := grown_trans hg03 hg4
     have hgw4 := grown_trans hgw3 hg4
     have hO4 : Own w0.heap.size w4 _ l := hO3.kept hg4 (.inr (fun e => by have := HO.out sb e; omega))
     have hb4 := hb3.moved hg4 (by omega)
     have HS4 := Lib.hid hs4; clear hs4 hO3 hb3 HS3
     by_cases hz : z = 0
     ·have hzb : (z == 0) = true := by simp [hz]
      clear hz
      obtain ⟨b0, b1, b2, b3, b4⟩ := id hb4
      obtain ⟨bo, oo, rfl, hboF, _, hco⟩ := Ints.at hoA 0 hq1
      have hc := hg04.cell hco (by simp; exact hF _ hboF)
      rw [Nat.add_zero] at hc
      generalize gt Q.orders 0 = o0 at hc hco
      have hgL : Ext w4 (w4.alloc (.cells #[.int .i64 o0, .int .i64 (-1)] 2)) := World.grownBy_alloc _ _ _
      have hL := ints_litL w4 [o0, -1] (by simp)
      clear hco
      go_wp2_with fail
      refine Calls.mono (l01Pick_ok B0 _ sb _ [o0, -1] _ (HS4.out.ext hgL) hL (fun k hk => by have := hg04.size; omega) (by simp) (by simp)) ?_
      rintro e5 w5 ⟨v5, rfl, hg5, j, hj, rfl, hs5⟩
      generalize gt [o0, -1] j = u
      have hg45 := grown_trans (grown_of_ext (some sb) hgL) hg5
      have hO5 : Own w0.heap.size w5 _ l := hO4.kept hg45 (.inr (fun e => by have := HO.out sb e; omega))
      obtain ⟨g, capg, hvo, hgB, hgl⟩ := hO5.form (by omega)
      obtain ⟨rfl, rfl⟩ : al = some ⟨g, 0, none⟩ ∧ cl = capg := by cases hvo; exact ⟨rfl, rfl⟩
      clear hvo
      have hc0 := hO5.cell 0 (by omega)
      have hf0 := hO5.frozen 0
      generalize gt l 0 = l00 at hc0
      obtain ⟨hO6, hT⟩ := hO5.store 0 u
      have hgw6 : w.grownBy (w5.setCell ⟨g, 0, none⟩ (.int .i64 u)) (some sb) := grown_own (grown_trans hgw4 hg45) hT (fun j hj hlt => by have := Option.some.inj hj; omega)
      have hs6 := hs5.own hT (fun k hk => by have := Option.some.inj hk; omega)
      have HF := Lib.hid (And.intro hO6 (And.intro hgw6 hs6)); clear hO6 hgw6 hs6 hT hO5 hL hc hj hs5 hg5 hgL
      go_wp2_with fail
      go_ret
      obtain ⟨hO6, hgw6, hs6⟩ := HF.out
      exact ⟨_, rfl, hgw6, ⟨some ⟨g, 0, none⟩, cl, l.set 0 u, by rw [List.length_set]; rfl, by rw [List.length_set]; omega, by rw [List.length_set]; exact Own.weak hO6 (by omega)⟩, hs6⟩
     ·have hzb : (z == 0) = false := by simp [hz]
      clear hz
      go_wp2_with (first | (at_builtin; refine wp_app_int rfl _ _ rfl w0.heap.size _ l 0 rfl w4 hO4 rfl rfl (by omega) hg04.size ?_; intro v5 w5 hO5 hg5) | fail)
      have hs5 := HS4.out.own hg5 (fun j hj => by have := HO.out j hj; omega)
      have hg5w : w.grownBy w5 (some sb) := grown_own hgw4 hg5 (fun j hj hlt => by have := HO.out j hj; omega)
      have hll : (l ++ [(0 : Int)]).length = l.length + 1 := by simp
      obtain ⟨a5, c5, hv5, _⟩ := (hO5.ints (by omega)).shape
      subst hv5
      go_ret
      exact ⟨_, rfl, hg5w, ⟨a5, c5, l ++ [0], rfl, by omega, Own.weak hO5 (by omega)⟩, hs5⟩
   ·have hyb : (y == 0) = false := by simp [hy]
    clear hy
    go_wp2_with fail
    go_ret
    exact ⟨_, rfl, hgw3, ⟨al, cl, l, rfl, by omega, Own.weak hO3 (by omega)⟩, HS3.out⟩
def ElD (Q : Pr) (B : Nat) (w' : World) (v : Value) : Prop := ∃ (a : Option Addr) (c : Nat) (l : List Int), v = .slice a l.length c ∧ Vec Q.orders l ∧ Own B w' (.slice a l.length c) l
set_option maxRecDepth 100000 in
set_option maxHeartbeats 8000000 in
theorem l10Some_ok (B0 : Nat) (w : World) (sb : Nat) (pv : Value) (Q : Pr) (F : Nat → Prop) (hB0 : B0 ≤ w.heap.size) (hs : Src B0 w sb) (hp : PresV F w pv Q) (hF : ∀ k, F k → k ≠ sb) (hV : Valid Q) :
  Calls Tryz.prog 341 #[.pointer (some ⟨sb, 0, none⟩), pv] w (Mut w (some sb) (DrawR B0 sb (ElD Q w.heap.size))) := by
 have hsb := hs.lt
 have hQ := hV.n6
 obtain ⟨vo, vp, vc, rfl, h3⟩ := hp
 obtain ⟨ao, co, hvo, _, _⟩ := h3.o.shape
 obtain ⟨ap, cp, hvp, _, _⟩ := Sl.shape h3.p
 obtain ⟨ac, cc, hvc, _, _⟩ := Sl.shape h3.c
 subst hvo hvp hvc
 have hbA := Box3.made w 39 (.slice ao Q.orders.length co) (.slice ap Q.powers.length cp) (.slice ac Q.conj.length cc)
 have hgA : Ext w (w.alloc (.cells #[.slice ao Q.orders.length co, .slice ap Q.powers.length cp, .slice ac Q.conj.length cc] 39)) := World.grownBy_alloc _ _ _
 have hoA := h3.o.ext hgA
 have hsA := hs.ext hgA
 have hzA : (w.alloc (.cells #[.slice ao Q.orders.length co, .slice ap Q.powers.length cp, .slice ac Q.conj.length cc] 39)).heap.size = w.heap.size + 1 := by simp
 have HZ := Lib.hid (And.intro hzA hsA); clear hzA hsA hs h3
 go_enter Tryz.func341, Tryz.ntmps341
 go_wp2_with fail
 generalize w.alloc (.cells #[.slice ao Q.orders.length co, .slice ap Q.powers.length cp, .slice ac Q.conj.length cc] 39) = w0 at *
 have hzA : w0.heap.size = w.heap.size + 1 := HZ.out.1
 have hgE := World.grownBy_alloc w0 (.cells #[] 2) none
 have hOE : Own w0.heap.size (w0.alloc (.cells #[] 2)) (.slice (some ⟨w0.heap.size, 0, none⟩) 0 0) [] := World.ownsRow_lit w0 #[] 0 (Nat.le_refl _) (by decide) rfl
 have HS := Lib.hid (HZ.out.2.ext hgE)
 have hg0 := grown_of_ext (some sb) hgE
 clear hgE
 have HW := Lib.hid hzA
 rw [hzA] at hOE
 have hz1 : w.heap.size + 1 ≤ w0.heap.size := by omega
 clear hzA HZ
 generalize w0.alloc (.cells #[] 2) = w1 at *
 rw [← HW.out] at hOE
 rw [← HW.out]
 go_loopw [5, 6] (fun ov iv wr => ∃ (i : Nat) (l : List Int) (v4 : Value), v4 = ov ∧ iv = .int .i64 i ∧ i ≤ Q.orders.length ∧ Hid (l.length = i ∧ ∀ k, k < l.length → 0 ≤ gt l k ∧ gt l k < gt Q.orders k) ∧ w0.grownBy wr (some sb) ∧ Own w0.heap.size wr v4 l ∧ Hid (Src B0 wr sb)) (fun _ iv _ => Q.orders.length - (intOf iv).toNat)
 case atStart => exact ⟨0, [], _, rfl, rfl, by omega, Lib.hid ⟨rfl, fun k hk => by simp at hk⟩, hg0, hOE, HS⟩
 case round =>
  clear hg0 hOE HS
  obtain ⟨i, l, v4, rfl, rfl, hi, hli, hg, hO, hsr⟩ := hrel
  have hbr := hbA.moved hg (by omega)
  obtain ⟨b0, b1, b2, b3, b4⟩ := id hbr
  have hob : ∀ j, v4.ownBlock = some j → w0.heap.size ≤ j := fun j hj => (hO.lt j hj).1
  have HO := Lib.hid hob; clear hob
  by_cases hlt : i < Q.orders.length
  ·have hlt' : (i : Int) < Q.orders.length := by omega
   obtain ⟨bo, oo, rfl, hboF, _, hco⟩ := Ints.at hoA i hlt
   have hc := hg.cell hco (by simp; exact hF _ hboF)
   have h7 := hV.ord7 i hlt
   obtain ⟨x, hx⟩ : ∃ x, x = gt Q.orders i := ⟨_, rfl⟩
   rw [← hx] at hc hco h7
   have HX := Lib.hid hx; clear hx hco
   go_wp2_with fail
   refine Calls.mono (l01Next_ok B0 wr sb x hsr.out) ?_
   rintro e3 w3 ⟨v3, rfl, hg3, y, rfl, _, hy1, hs3⟩
   have hy := hy1 (by omega)
   have hg03 := grown_trans hg hg3
   have hO3 : Own w0.heap.size w3 _ l := hO.kept hg3 (.inr (fun e => by have := HO.out sb e; omega))
   clear hc hO hy1
   go_wp2_with fail
   refine Calls.mono (l01Next_ok B0 w3 sb 3 hs3) ?_
   rintro e4 w4 ⟨v4', rfl, hg4, z, rfl, _, _, hs4⟩
   have hg04 := grown_trans hg03 hg4
   have hO4 : Own w0.heap.size w4 _ l := hO3.kept hg4 (.inr (fun e => by have := HO.out sb e; omega))
   have hll : l.length ≤ 1000000 := by have := hli.out.1; omega
   have HS4 := Lib.hid (And.intro hs4 hll); clear hs4 hll hO3 hs3
   have hrel : ∀ u : Int, 0 ≤ u ∧ u < x → ∀ k, k < (l ++ [u]).length → 0 ≤ gt (l ++ [u]) k ∧ gt (l ++ [u]) k < gt Q.orders k := fun u hu k hk => by
    by_cases h : k < l.length
    ·rw [gt_append_left _ _ _ h]; exact hli.out.2 k h
    ·have hk2 : k = l.length := by simp at hk; omega
     subst hk2
     rw [gt_concat, hli.out.1, ← HX.out]; exact hu
   have HR := Lib.hid hrel; clear hrel
   by_cases hz : z = 0
   ·have hzb : (z == 0) = true := by simp [hz]
    clear hz
    go_wp2_with (first | (at_builtin; refine wp_app_int rfl _ _ rfl w0.heap.size v4 l 0 rfl w4 hO4 rfl rfl HS4.out.2 hg04.size ?_; intro v5 w5 hO5 hg5) | fail)
    have hs5 := HS4.out.1.own hg5 (fun j hj => by have := HO.out j hj; omega)
    have hg05 : w0.grownBy w5 (some sb) := grown_own hg04 hg5 (fun j hj hlt => by have := HO.out j hj; omega)
    have hll : (l ++ [(0 : Int)]).length = l.length + 1 := by simp
    go_roundw
    case rel => exact ⟨i + 1, l ++ [0], v5, rfl, by go_num, by omega, Lib.hid ⟨by have := hli.out.1; omega, HR.out 0 (by omega)⟩, hg05, hO5, Lib.hid hs5⟩
    case measure => simp [intOf]; omega
   ·have hzb : (z == 0) = false := by simp [hz]
    clear hz
    go_wp2_with (first | (at_builtin; refine wp_app_int rfl _ _ rfl w0.heap.size v4 l y rfl w4 hO4 rfl rfl HS4.out.2 hg04.size ?_; intro v5 w5 hO5 hg5) | fail)
    have hs5 := HS4.out.1.own hg5 (fun j hj => by have := HO.out j hj; omega)
    have hg05 : w0.grownBy w5 (some sb) := grown_own hg04 hg5 (fun j hj hlt => by have := HO.out j hj; omega)
    have hll : (l ++ [y]).length = l.length + 1 := by simp
    go_roundw
    case rel => exact ⟨i + 1, l ++ [y], v5, rfl, by go_num, by omega, Lib.hid ⟨by have := hli.out.1; omega, HR.out y hy⟩, hg05, hO5, Lib.hid hs5⟩
    case measure => simp [intOf]; omega
  ·have hlt' : ¬ ((i : Int) < Q.orders.length) := by omega
   have hlv : Vec Q.orders l := ⟨by have := hli.out.1; omega, fun k hk => hli.out.2 k (by have := hli.out.1; omega)⟩
   have HV := Lib.hid hlv; clear hlv
   obtain ⟨al, cl, rfl, _⟩ := (hO.ints (by have := HV.out.1; omega)).shape
   have hgw : w.grownBy wr (some sb) := grown_trans (grown_of_ext (some sb) hgA) hg
   go_wp2_with fail
   go_ret
   exact ⟨_, rfl, hgw, ⟨al, cl, l, rfl, HV.out, Own.weak hO (by omega)⟩, hsr.out⟩
end Go.Proofs.YtmjkoejegfjbbaaGreat
namespace Go.Proofs.YtmjkoejegfjbbaaGreat
open Go.RowKit
theorem tab_kept {B gb n W : Nat} {wI w2 : World} {v1 v2 : Value} {b : List (List Int)} (h : TabAt B (fun k => v1.ownBlock = some k) wI gb n b) (hv : ∀ k, v1.ownBlock = some k → W ≤ k) (hgb : gb < W)
  (hg2 : wI.grownBy w2 v1.ownBlock) (hb2 : v2.ownBlock = v1.ownBlock ∨ ∀ k, v2.ownBlock = some k → wI.heap.size ≤ k) : TabAt B (fun k => v2.ownBlock = some k) w2 gb n b := by
 refine h.kept hg2.size (fun k hk hc => hg2.block k hk (fun e => ?_)) (fun k hk e => ?_)
 ·rcases hc with rfl | hc
  ·have := hv _ e.symm; omega
  ·exact hc e.symm
 ·rcases hb2 with h | h
  ·rw [← h]; exact e
  ·have := h k e; omega
theorem tab_keptF {B gb n W W0 : Nat} {wI w2 : World} {v1 v2 : Value} {b : List (List Int)} (h : TabAt B (fun k => v1.ownBlock = some k ∨ k < W0) wI gb n b) (hv : ∀ k, v1.ownBlock = some k → W ≤ k) (hgb : gb < W)
  (hg2 : wI.grownBy w2 v1.ownBlock) (hb2 : v2.ownBlock = v1.ownBlock ∨ ∀ k, v2.ownBlock = some k → wI.heap.size ≤ k) : TabAt B (fun k => v2.ownBlock = some k ∨ k < W0) w2 gb n b := by
 refine h.kept hg2.size (fun k hk hc => hg2.block k hk (fun e => ?_)) (fun k hk e => ?_)
 ·rcases hc with rfl | hc
  ·have := hv _ e.symm; omega
  ·exact hc (.inl e.symm)
 ·rcases e with e | e
  ·rcases hb2 with h | h
   ·rw [← h]; exact .inl e
   ·have := h k e; omega
  ·exact .inr e
theorem SlO.shq {bad : Nat → Prop} {B : Nat} {w : World} {v : Value} {xs : List (List Int)} (h : RowsO B w v xs) (hbad : ∀ k, bad k → k < B) : ShQ bad B w v xs := by
 obtain ⟨vs, G, hl, hO, hG, _, hE⟩ := h
 refine ⟨vs, hl, QOwn.of hO, fun i hi => Ints.sub (hE i hi).ints (fun k hk _ => ?_)⟩
 obtain ⟨h1, h2, _⟩ := hG i k hi hk
 exact ⟨fun h => by have := hbad k h; omega, h2⟩
def HeldB (w0 w1 : World) (g : Nat) (w' : World) : Prop := Ext w0 w' ∧ w'.heap[g]? = w1.heap[g]?
theorem heldB_ext {w0 w1 w' : World} {g : Nat} (h0 : Ext w0 w1) (hg : g < w1.heap.size) (h : Ext w1 w') : HeldB w0 w1 g w' := ⟨grown_trans h0 h, h.block g hg (by simp)⟩
theorem HeldB.cell {w0 w1 w' : World} {g i : Nat} {v : Value} (h : HeldB w0 w1 g w') (hc : w1.cell? ⟨g, i, none⟩ = some v) : w'.cell? ⟨g, i, none⟩ = some v := (World.cell?_of_block (w := w1) h.2).trans hc
set_option maxRecDepth 100000 in
set_option maxHeartbeats 8000000 in
theorem l12CloseF_ok (P : Pr) (G : Grp P) (w : World) (pv lv : Value) (L : List (List Int)) (Sp Sr : Nat → Prop) (hpv : PresV Sp w pv P) (hl : Rows2 Sr w lv L) (hL : ∀ x ∈ L, Vec P.orders x) (hlen : L.length ≤ 10000) :
  Calls Tryz.prog 322 #[pv, lv] w (Ret w fun w' v => ShQ (fun k => k < w.heap.size) w.heap.size w' v (cseq P (genP P (fun x => x ∈ L)))) := by
 have hP := G.v
 have hn6 := hP.n6
 obtain ⟨vo, vp, vc, rfl, h3⟩ := hpv
 have hp0 := PresP.box h3 39
 have hg0 : Ext w (w.alloc (.cells #[vo, vp, vc] 39)) := World.grownBy_alloc _ _ _
 have hs0 : (w.alloc (.cells #[vo, vp, vc] 39)).heap.size = w.heap.size + 1 := by simp
 obtain ⟨vo6, vp6, vc6, _, _, hc0, hc1, hc2, h36⟩ := hp0.at
 simp only [Nat.zero_add] at hc1 hc2
 obtain ⟨ao, capo, rfl, _, _⟩ := h36.o.shape
 clear hp0
 obtain ⟨al, capl, rfl, _, _⟩ := Sl.shape hl
 have hLl : ∀ x ∈ L, x.length ≤ 1000000 := fun x hx => by rw [(hL x hx).1]; omega
 have HL := Lib.hid (And.intro hL hLl); clear hL hLl
 go_enter Tryz.func322, Tryz.ntmps322
 go_wp2_with (first | (at_make; refine wp_make_tab rfl _ _ rfl w.heap.size P.orders.length (w.heap.size + 1) (by simp) _ rfl rfl rfl (by omega) (by omega) ?_; intro w1 hT1 hg1 hlt1) | fail)
 have HS := Lib.hid hs0; clear hs0
 generalize hw0 : w.alloc (.cells #[vo, vp, vc] 39) = w0 at *
 clear hw0
 have hl0 := Rows2.ext hl hg0
 clear hl
 have hgb1 : w.heap.size + 1 < w1.heap.size := hlt1
 refine Calls.mono (l01Own2_ok w1 _ L Sr (Rows2.ext hl0 hg1) HL.out.2 (by omega)) ?_
 rintro e2 w2 ⟨qv0, rfl, hg2, hQ2⟩
 have hq2 : ShQ (fun k => k = w.heap.size + 1) w1.heap.size w2 qv0 L := hQ2.shq (fun k hk => by omega)
 have hg02 := grown_trans hg1 hg2
 have hown2 : ∀ k, qv0.ownBlock = some k → w1.heap.size ≤ k := fun k hk => (hq2.lt k hk).1
 have hT2 : TabAt w.heap.size (fun k => qv0.ownBlock = some k ∨ k < w.heap.size) w2 (w.heap.size + 1) P.orders.length (List.replicate P.orders.length []) := (hT1 _).ext hg2
 clear hT1 hQ2 hl0
 -- facts of the box and the orders
 have hbx : ∀ w', Ext w0 w' → w'.cell? ⟨w.heap.size, 0, none⟩ = some (.slice ao P.orders.length capo) ∧ w'.cell? ⟨w.heap.size, 1, none⟩ = some vp6 ∧ w'.cell? ⟨w.heap.size, 2, none⟩ = some vc6 := fun w' h => ⟨h.cell hc0 (by simp), h.cell hc1 (by simp), h.cell hc2 (by simp)⟩
 have HB := Lib.hid hbx; clear hbx hc0 hc1 hc2
 obtain ⟨Q, hQ⟩ : ∃ Q : List Int → Prop, Q = fun x => x = zeros P.orders.length ∨ x ∈ L.reverse := ⟨_, rfl⟩
 have hst : ∃ R, AddInv P Q (gt (List.replicate P.orders.length [])) L.reverse R := by
  rw [hQ]; exact ⟨_, G.addInv_start G.ind_one (fun x hx => HL.out.1 x (List.mem_reverse.1 hx))⟩
 have hQL : genP P Q = genP P (fun x => x ∈ L) := by
  rw [hQ, genP_one]
  congr 1
  funext x
  simp
 have HST := Lib.hid (And.intro hst hQL); clear hst hQL hQ
 go_wp2
 go_loopg [7] (miss (List.replicate P.orders.length ([] : List Int)) P.orders.length * (P.orders.length + 3) + L.length) (fun gk qv wr => ∃ (b q : List (List Int)), gk ≤ 20000 ∧ gk = miss b P.orders.length * (P.orders.length + 3) + q.length ∧ Ext w0 wr ∧
  TabAt w.heap.size (fun k => qv.ownBlock = some k ∨ k < w.heap.size) wr (w.heap.size + 1) P.orders.length b ∧ ShQ (fun k => k = w.heap.size + 1) w1.heap.size wr qv q ∧ Hid (∃ R, AddInv P Q (gt b) q.reverse R))
 case atStart =>
  have hk0 : miss (List.replicate P.orders.length ([] : List Int)) P.orders.length * (P.orders.length + 3) + L.length ≤ 20000 := by
   have h3 : miss (List.replicate P.orders.length ([] : List Int)) P.orders.length * (P.orders.length + 3) ≤ 6 * 9 := Nat.mul_le_mul (by have := miss_le (List.replicate P.orders.length ([] : List Int)) P.orders.length; omega) (by omega)
   omega
  exact ⟨_, L, hk0, rfl, hg02, hT2, hq2, Lib.hid HST.out.1⟩
 case round =>
  clear hT2 hq2 hown2 hg02
  obtain ⟨b, q, hgkb, hgk, hg, hT, hq, hA⟩ := hrel
  have hlb := hT.len
  obtain ⟨hb1, hb2, hb3⟩ := HB.out wr hg
  have hqc : q = [] ∨ ∃ q1 y, q = q1 ++ [y] := by
   rcases List.eq_nil_or_concat q with h | ⟨q1, y, h⟩
   ·exact .inl h
   ·exact .inr ⟨q1, y, by rw [h, List.concat_eq_append]⟩
  rcases hqc with rfl | ⟨q1, y, rfl⟩
  ·obtain ⟨aq, capq, rfl, _⟩ := hq.shape
   have hnk : w.heap.size ≤ wr.heap.size := (grown_trans hg0 hg).size
   have hI : Ind P (genP P Q) (gt b) := by obtain ⟨R, hA⟩ := hA.out; exact G.addInv_end hA
   have HI := Lib.hid hI; clear hI hA
   go_wp2_with fail
   refine Calls.mono (l12FullF_ok P G wr _ _ b (genP P Q) Any _ ⟨_, _, _, rfl, Pres3.ext h36 hg⟩ (hT.rows (by omega)) hlb HI.out (fun k => k < w.heap.size) (fun k hk => ⟨by have := (grown_trans hg0 hg).size; omega, fun e => by rcases e with e | e; omega; exact e.2 (.inr hk)⟩)) ?_
   rintro eF wF ⟨vF, rfl, hgF, hRF⟩
   rw [HST.out.2] at hRF
   obtain ⟨aR, capR, rfl, _⟩ := hRF.shape
   go_wp2
   go_ret
   exact ⟨_, rfl, grown_trans hg0 (grown_trans hg hgF), hRF.weak hnk⟩
  ·obtain ⟨aq, capq, rfl, _⟩ := hq.shape
   obtain ⟨k1, hk1⟩ : ∃ k1, k1 = q1.length := ⟨_, rfl⟩
   obtain ⟨gq, off, u, rfl, hgB, hglt, hcell, hyI⟩ := ShQ.head hq q1.length (by simp)
   rw [gt_concat] at hyI
   have hcap : k1 ≤ capq := by
    obtain ⟨vs, hvl, hqo, _⟩ := hq
    rcases hqo with ⟨h, _⟩ | ⟨g, o, cp, cur, hv, _, _, h1, _⟩
    ·simp at h
    ·simp only [Value.slice.injEq] at hv
     obtain ⟨_, _, rfl⟩ := hv
     simp at hvl; omega
   have hq1 := hq.init
   rw [← hk1] at hcell hq1
   have hml : (q1 ++ [y]).length = k1 + 1 := by simp [hk1]
   obtain ⟨m, hm⟩ : ∃ m, m = (q1 ++ [y]).length := ⟨_, rfl⟩
   rw [← hm] at hml hgk ⊢
   have hyV : Vec P.orders y := by obtain ⟨R, hA⟩ := hA.out; exact hA.vec _ (hA.que _ (by simp))
   have htab : ∀ d, d < P.orders.length → gt b d ≠ [] → T P d (gt b d) ∧ gt (gt b d) d = 1 := by obtain ⟨R, hA⟩ := hA.out; exact fun d hd h => (hA.tab d hd h).2
   have hA1 : ∃ R, AddInv P Q (gt b) (y :: q1.reverse) R := by
    obtain ⟨R, hA⟩ := hA.out
    rw [List.reverse_append] at hA
    exact ⟨R, hA⟩
   obtain ⟨ay, capy, hvy, _, _⟩ := hyI.shape
   rw [hyV.1] at hvy
   subst hvy
   have HY := Lib.hid (And.intro hyV (And.intro htab (And.intro hA1 (And.intro hk1 hgk)))); clear hyV htab hA1 hA hk1 hgk
   have hmb : m ≤ 20000 := by have := HY.out.2.2.2.2; omega
   have hmi : (0 : Int) < m := by omega
   have hwm : IntKind.i64.wrap ((m : Int) - 1) = (k1 : Int) := by rw [show (m : Int) - 1 = (k1 : Int) by omega]; exact IntWalk.i64_in _ (by omega)
   have hkm : (k1 : Int) < m := by omega
   have hk0 : (0 : Int) ≤ k1 := by omega
   have hrt := run_head_rows wr (some ⟨gq, off, none⟩) m capq (k1 : Int) hk0 (by omega)
   rw [show ((k1 : Int)).toNat = k1 by omega] at hrt
   have HM := Lib.hid (And.intro hml hm); clear hml hm
   have hTr := hT.rows (by omega)
   go_wp2_with fail
   refine Calls.mono (l12Strip_ok P G wr _ _ _ b y Any _ _ ⟨_, _, _, rfl, Pres3.ext h36 hg⟩ hTr hyI HY.out.1 hlb HY.out.2.1) ?_
   rintro eS wS ⟨vS, rfl, hgS, d, rv, Y, rfl, hOY, hSY, hdn, hdY⟩
   have hYV := hSY.vec.1
   have hYi := hOY.ints (by rw [hYV.1]; omega)
   have hA2 : ∃ R, AddInv P Q (gt b) (Y :: q1.reverse) R := by
    obtain ⟨R, hA⟩ := HY.out.2.2.1
    exact hSY.inv _ _ _ hA
   obtain ⟨ar, capr, hvr, _, _⟩ := hYi.shape
   rw [hYV.1] at hvr
   subst hvr
   have hgT := grown_trans hg hgS
   have hqS := hq1.ext hgS
   have hTS : TabAt w.heap.size (fun k => (Value.slice (some ⟨gq, off, none⟩) k1 capq).ownBlock = some k ∨ k < w.heap.size) wS (w.heap.size + 1) P.orders.length b := hT.ext hgS
   have HLB := Lib.hid hlb
   clear hT hq hq1 hTr hyI hcell hrt hwm hb1 hb2 hb3 hlb
   have hT0 := hSY.vec
   have HA2 := Lib.hid (And.intro hA2 (And.intro hT0 hYV)); clear hA2 hT0 hYV hSY
   by_cases hd : d = P.orders.length
   ·have hY0 : Y = zeros P.orders.length := T.top hP (by rw [← hd]; exact HA2.out.2.1)
    have hA3 : Hid (∃ R, AddInv P Q (gt b) q1.reverse R) := by
     obtain ⟨R, hA⟩ := HA2.out.1
     exact Lib.hid ⟨R, addInv_drop hA hY0⟩
    clear hdY hY0
    subst hd
    go_wp2
    go_roundg (gk - 1)
    case measure => have := HY.out.2.2.2.2; omega
    case rel => exact ⟨b, q1, by omega, by have := HY.out.2.2.2.2; have := HY.out.2.2.2.1; have := HM.out.1; omega, hgT, hTS, hqS, hA3⟩
   ·have hdl : d < P.orders.length := by omega
    obtain ⟨hy0, hbd⟩ := hdY hdl
    clear hdY
    have hdi : ((d : Int) == (P.orders.length : Int)) = false := by simp; omega
    have hYV := HA2.out.2.2
    have ho := hP.ord7 d hdl
    have hpr := hP.ord d hdl
    have hyd := hYV.2 d hdl
    obtain ⟨br, or_, rfl, _, _, hcr⟩ := Ints.at hYi d (by rw [hYV.1]; exact hdl)
    obtain ⟨bo, oo, rfl, _, _, hco⟩ := Ints.at (Ints.ext h36.o hgT) d hdl
    have hyd1 : 1 ≤ gt Y d := by omega
    have HD := Lib.hid (And.intro hbd (And.intro hpr (And.intro hy0 hd))); clear hbd hpr hy0 hd
    have hd0 : (0 : Int) ≤ d := by omega
    have hdn' : (d : Int) < P.orders.length := by omega
    have e1 : ∀ w', Ext wS w' → w'.cell? ⟨w.heap.size, 0, none⟩ = some (.slice (some ⟨bo, oo, none⟩) P.orders.length capo) := fun w' h => (HB.out w' (grown_trans hgT h)).1
    have e2 : ∀ w', Ext wS w' → w'.cell? ⟨w.heap.size, 1, none⟩ = some vp6 := fun w' h => (HB.out w' (grown_trans hgT h)).2.1
    have e3 : ∀ w', Ext wS w' → w'.cell? ⟨w.heap.size, 2, none⟩ = some vc6 := fun w' h => (HB.out w' (grown_trans hgT h)).2.2
    have e4 : ∀ w', Ext wS w' → w'.cell? ⟨br, or_ + d, none⟩ = some (.int .i64 (gt Y d)) := fun w' h => h.cell hcr (by simp)
    have e5 : ∀ w', Ext wS w' → w'.cell? ⟨bo, oo + d, none⟩ = some (.int .i64 (gt P.orders d)) := fun w' h => h.cell hco (by simp)
    clear hcr hco
    go_wp2
    go_region_held3 (fun w' => Ext wS w') (first | exact grown_drew _ _ | assumption)
     (first
      | (go_at_call 378; refine Calls.mono (Calls.rel (w0 := wS) (by first | exact grown_drew _ _ | assumption) (l01Inv_ok (gt Y d) (gt P.orders d) _ HD.out.2.1 hyd1 hyd.2)) ?_; rintro eI wI ⟨vI, rfl, hgI, hsI, kk, rfl, hk1', hk2', hkk⟩; have HK := Lib.hid hkk; clear hkk)
      | (go_at_call 319; refine Calls.mono (Calls.rel (w0 := wS) (by assumption) (l10Pow_ok P G _ _ _ Y _ Any Any ⟨_, _, _, rfl, Pres3.ext (Pres3.ext h36 hgT) (by assumption)⟩ (Ints.sub (Ints.ext hYi (by assumption)) (fun _ _ _ => trivial)) hYV (by omega))) ?_; rintro eZ wZ ⟨zv, rfl, hgZ, hsZ, hOZ⟩))
    clear e1 e2 e3 e4 e5
    rw [pwZ_nat _ _ _ hk1'] at hOZ
    obtain ⟨Z, hZ⟩ : ∃ Z, Z = pw P Y kk.toNat := ⟨_, rfl⟩
    rw [← hZ] at hOZ
    have hZV : Vec P.orders Z := by rw [hZ]; exact G.pw_vec hYV _
    have hZl : Z.length = P.orders.length := hZV.1
    have hZne : Z ≠ [] := fun h => by rw [h] at hZl; simp at hZl; omega
    have hgwZ := grown_trans hgT hgZ
    have hszS := hgS.size
    have hZI : Ints (fun k => k ≠ w.heap.size + 1 ∧ ¬ ((Value.slice (some ⟨gq, off, none⟩) k1 capq).ownBlock = some k ∨ k < w.heap.size)) wZ zv Z := ints_of_own hOZ (by omega) (fun k hk => by
     have h1 := (hOZ.lt k hk).1
     exact ⟨by omega, fun e => e.elim (fun e => by have := own_blk e; omega) (fun e => by omega)⟩)
    obtain ⟨az, capz, hvz, _, _⟩ := hZI.shape
    rw [hZl] at hvz
    subst hvz
    obtain ⟨hT5, hg5⟩ := (hTS.ext hgZ).put d hZI hZne
    obtain ⟨hfr, hcc⟩ := (hTS.ext hgZ).at d hdl
    have hcd : wZ.cell? ⟨w.heap.size + 1, d, none⟩ = some (.slice none 0 0) := hcc.elim (fun h => h.2) (fun h => absurd HD.out.1 h.1)
    have hfar : ∀ (S : Nat → Prop) k, (k ≠ w.heap.size + 1 ∧ S k) → k < wZ.heap.size → (k ≠ w.heap.size + 1 ∧ S k) ∧ k < (wZ.setCell ⟨w.heap.size + 1, d, none⟩ (.slice az P.orders.length capz)).heap.size ∧ (wZ.setCell ⟨w.heap.size + 1, d, none⟩ (.slice az P.orders.length capz)).heap[k]? = wZ.heap[k]? := fun S k hk hlt => ⟨hk, Nat.lt_of_lt_of_le hlt hg5.size, hg5.block k hlt (fun e => hk.1 (by cases e; rfl))⟩
    have hZ5 := Ints.sub (Ints.mono hZI (hfar _)) (S' := fun k => k ≠ w.heap.size + 1 ∧ ¬ ((Value.slice (some ⟨gq, off, none⟩) k1 capq).ownBlock = some k)) (fun k hk _ => ⟨hk.1, fun e => hk.2 (.inl e)⟩)
    have hr5 : Ints (fun k => k ≠ w.heap.size + 1 ∧ ¬ ((Value.slice (some ⟨gq, off, none⟩) k1 capq).ownBlock = some k)) (wZ.setCell ⟨w.heap.size + 1, d, none⟩ (.slice az P.orders.length capz)) (.slice (some ⟨br, or_, none⟩) P.orders.length capr) Y := Ints.mono (ints_of_own (hOY.ext0 hgZ) (by rw [hYV.1]; omega) (fun k hk => by
     have h1 := ((hOY.ext0 hgZ).lt k hk).1
     exact ⟨by omega, fun e => by have := own_blk e; omega⟩)) (hfar _)
    have hq5 : ShQ (fun k => k = w.heap.size + 1) w1.heap.size (wZ.setCell ⟨w.heap.size + 1, d, none⟩ (.slice az P.orders.length capz)) (.slice (some ⟨gq, off, none⟩) k1 capq) q1 := (hqS.ext hgZ).kept hg5.size (fun j hj hc => hg5.block j hj (fun e => by
     have e := Option.some.inj e
     subst e
     rcases hc with hc | hc
     ·have := own_blk hc; omega
     ·exact hc rfl)) (fun _ _ h => h)
    have hgw5 : Ext w0 (wZ.setCell ⟨w.heap.size + 1, d, none⟩ (.slice az P.orders.length capz)) := grown_own hgwZ hg5 (fun j hj hlt => by cases hj; have := HS.out; omega)
    have hqown : ∀ k, (Value.slice (some ⟨gq, off, none⟩) k1 capq).ownBlock = some k → w1.heap.size ≤ k := fun k hk => by have := own_blk hk; omega
    have HZ := Lib.hid (And.intro hZ (And.intro hZV (And.intro hZl hZne))); clear hZ hZV hZl hZne hcc hTS hqS hOZ hOY hZI
    have hq1l : q1.length ≤ 20000 := by have := HY.out.2.2.2.1; omega
    generalize hw5 : wZ.setCell ⟨w.heap.size + 1, d, none⟩ (.slice az P.orders.length capz) = w5 at *
    have hs5 : w1.heap.size ≤ w5.heap.size := by have := hgw5.size; have := hg5.size; have := hgZ.size; omega
    go_wp2_with (first | (at_builtin; refine wp_shq_app rfl _ _ rfl (fun k => k = w.heap.size + 1) w1.heap.size _ _ q1 Y rfl w5 hq5 rfl hr5 rfl (by omega) hs5 ?_; intro v6 w6 hq6 hg6 hb6; have hgw6 := grown_own hgw5 hg6 (fun j hj hlt => by have := hqown j hj; have := HS.out; omega)) | fail)
    have hT6 := tab_keptF hT5 hqown hgb1 hg6 hb6
    have hZ6 : Ints (fun k => ¬ (k = w.heap.size + 1) ∧ v6.ownBlock ≠ some k) w6 (.slice az P.orders.length capz) Z := Ints.mono hZ5 (q_kept (bad := fun k => k = w.heap.size + 1) hg6 hb6)
    have hs6 : w1.heap.size ≤ w6.heap.size := by have := hg6.size; omega
    have hqlt6 : ∀ k, v6.ownBlock = some k → w1.heap.size ≤ k := fun k hk => (hq6.lt k hk).1
    clear hw5 hfar hT5 hg5 hZ5 hr5 hq5 hg6 hb6 hfr hcd hqown
    have hTV : Vec P.orders (pw P Z (gt P.orders d).toNat) := G.pw_vec HZ.out.2.1 _
    have hTl : (pw P Z (gt P.orders d).toNat).length ≤ 6 := by rw [hTV.1]; omega
    have hTe : pwZ P Z (gt P.orders d) = pw P Z (gt P.orders d).toNat := pwZ_nat _ _ _ (by omega)
    have HTV := Lib.hid (And.intro hTl hTe); clear hTl hTe hTV
    have e1 : ∀ w', Ext w0 w' → w'.cell? ⟨w.heap.size, 0, none⟩ = some (.slice (some ⟨bo, oo, none⟩) P.orders.length capo) := fun w' h => (HB.out w' h).1
    have e2 : ∀ w', Ext w0 w' → w'.cell? ⟨w.heap.size, 1, none⟩ = some vp6 := fun w' h => (HB.out w' h).2.1
    have e3 : ∀ w', Ext w0 w' → w'.cell? ⟨w.heap.size, 2, none⟩ = some vc6 := fun w' h => (HB.out w' h).2.2
    obtain ⟨_, _, hbb, _, _, hco⟩ := Ints.at h36.o d hdl
    have e5 : ∀ w', Ext w0 w' → w'.cell? ⟨bo, oo + d, none⟩ = some (.int .i64 (gt P.orders d)) := fun w' h => h.cell (by cases hbb; exact hco) (by simp)
    clear hco hbb
    go_region_held3 (fun w' => Ext w0 w') (first | exact grown_trans hgw6 (grown_drew _ _) | assumption | exact grown_trans hgwT (World.grownBy_alloc _ _ _))
     (first
      | (go_at_call 319; refine Calls.mono (Calls.rel2 (w0 := w6) (grown_drew _ _) (l10Pow_ok P G _ _ _ Z (gt P.orders d) Any _ ⟨_, _, _, rfl, Pres3.ext h36 (grown_trans hgw6 (grown_drew _ _))⟩ (hZ6.ext (grown_drew _ _)) HZ.out.2.1 (by omega))) ?_; rintro eT wT ⟨vT, rfl, hgT6, hgT7, hsT, hOT⟩; have hgwT := grown_trans hgw6 hgT6; rw [HTV.out.2] at hOT; have hTI : Ints (fun k => ¬ (k = w.heap.size + 1) ∧ v6.ownBlock ≠ some k) wT vT (pw P Z (gt P.orders d).toNat) := ints_of_own hOT (by have := HTV.out.1; omega) (fun k hk => by
        have h1 := (hOT.lt k hk).1
        have h3 := hgw6.size
        exact ⟨by omega, fun e => by have := (hq6.lt k e).2; omega⟩); obtain ⟨aT, capT, hvT, _, _⟩ := hTI.shape; subst hvT)
      | (refine step_shq_app rfl _ _ rfl (fun k => k = w.heap.size + 1) w1.heap.size v6 _ (q1 ++ [Y]) _ rfl wT (hq6.ext hgT6) rfl hTI rfl (by simp; omega) (by have := hgT6.size; omega) ?_; intro v7 w7 hq7 hg7 hb7; have hgw7 := grown_own hgwT hg7 (fun j hj hlt => by have := hqlt6 j hj; have := HS.out; omega)))
    clear e1 e2 e3 e5
    have hs7 : w1.heap.size ≤ w7.heap.size := by have := hg7.size; have := hgT6.size; omega
    have hT7 := tab_keptF (hT6.ext hgT6) hqlt6 hgb1 hg7 hb7
    have hZ7 : Ints (fun k => ¬ (k = w.heap.size + 1) ∧ v7.ownBlock ≠ some k) w7 (.slice az P.orders.length capz) Z := Ints.mono (hZ6.ext hgT6) (q_kept (bad := fun k => k = w.heap.size + 1) hg7 hb7)
    obtain ⟨T1, hT1e⟩ : ∃ T1, T1 = pw P Z (gt P.orders d).toNat := ⟨_, rfl⟩
    rw [← hT1e] at hq7
    have HT1 := Lib.hid hT1e; clear hT1e hq6 hT6 hZ6 hqlt6 hTI hOT hg7 hb7
    go_wp2
    go_loopw [7, 12] (fun qv ev wr2 => ∃ (e : Nat) (v8 : Value), v8 = qv ∧ ev = .int .i64 e ∧ e ≤ P.orders.length ∧ w1.heap.size ≤ wr2.heap.size ∧ Ext w0 wr2 ∧ TabAt w.heap.size (fun j => v8.ownBlock = some j ∨ j < w.heap.size) wr2 (w.heap.size + 1) P.orders.length (b.set d Z) ∧
     ShQ (fun k => k = w.heap.size + 1) w1.heap.size wr2 v8 (q1 ++ [Y] ++ [T1] ++ comsR P b Z e) ∧ Ints (fun j => ¬ (j = w.heap.size + 1) ∧ v8.ownBlock ≠ some j) wr2 (.slice az P.orders.length capz) Z) (fun _ ev _ => P.orders.length - (intOf ev).toNat)
    case atStart => exact ⟨0, v7, rfl, rfl, by omega, hs7, hgw7, hT7, by simpa [comsR] using hq7, hZ7⟩
    case round =>
     obtain ⟨e, v8, rfl, rfl, he, hs8, hg8, hT8, hq8, hZ8⟩ := hrel
     clear hT7 hq7 hZ7
     have hqlt8 : ∀ j, v8.ownBlock = some j → w1.heap.size ≤ j := fun j hj => (hq8.lt j hj).1
     by_cases he2 : e < P.orders.length
     ·have he' : (e : Int) < P.orders.length := by omega
      have he0 : (0 : Int) ≤ e := by omega
      by_cases hed : e = d
      ·have hcs : comsR P b Z (e + 1) = comsR P b Z e := by simp only [comsR]; rw [if_pos (by rw [hed]; exact HD.out.1), List.append_nil]
       have hne : ((e : Int) != (d : Int)) = false := by simp [hed]
       have HC := Lib.hid hcs; clear hcs hed
       go_wp2
       go_roundw
       case rel => exact ⟨e + 1, v8, rfl, by go_num, by omega, hs8, hg8, hT8, by rw [HC.out]; exact hq8, hZ8⟩
       case measure => simp [intOf]; omega
      ·have hne : ((e : Int) != (d : Int)) = true := by simp; omega
       have hbe : gt (b.set d Z) e = gt b e := gt_set_ne _ _ _ _ (fun h => hed h.symm)
       obtain ⟨_, hcc⟩ := hT8.at e he2
       rw [hbe] at hcc
       clear hbe hed
       rcases hcc with ⟨h0, hcell⟩ | ⟨hnn, ab, capb, hcell, hbI⟩
       ·have hcs : comsR P b Z (e + 1) = comsR P b Z e := by simp only [comsR]; rw [if_pos h0, List.append_nil]
        have HC := Lib.hid hcs; clear hcs h0
        go_wp2
        go_roundw
        case rel => exact ⟨e + 1, v8, rfl, by go_num, by omega, hs8, hg8, hT8, by rw [HC.out]; exact hq8, hZ8⟩
        case measure => simp [intOf]; omega
       ·have hcs : comsR P b Z (e + 1) = comsR P b Z e ++ [comR P Z (gt b e)] := by simp only [comsR]; rw [if_neg hnn]
        have hbV := (HY.out.2.1 e he2 hnn).1.1
        have hcV : Vec P.orders (comR P Z (gt b e)) := G.mulV (G.invV (G.mulV hbV HZ.out.2.1)) (G.mulV HZ.out.2.1 hbV)
        have hbl : (0 : Int) < (gt b e).length := by
         have : 0 < (gt b e).length := List.length_pos_iff.2 hnn
         omega
        have hcl := comsR_len P b Z e
        have HC := Lib.hid (And.intro hcs (And.intro hbV (And.intro hcV hcl))); clear hcs hbV hcV hcl hnn
        have hgbl : w.heap.size + 1 < wr.heap.size := by have := hT8.lt; omega
        go_wp2
        have e1 : ∀ w', HeldB w0 wr (w.heap.size + 1) w' → w'.cell? ⟨w.heap.size, 0, none⟩ = some (.slice (some ⟨bo, oo, none⟩) P.orders.length capo) := fun w' h => (HB.out w' h.1).1
        have e2 : ∀ w', HeldB w0 wr (w.heap.size + 1) w' → w'.cell? ⟨w.heap.size, 1, none⟩ = some vp6 := fun w' h => (HB.out w' h.1).2.1
        have e3 : ∀ w', HeldB w0 wr (w.heap.size + 1) w' → w'.cell? ⟨w.heap.size, 2, none⟩ = some vc6 := fun w' h => (HB.out w' h.1).2.2
        have e4 : ∀ w', HeldB w0 wr (w.heap.size + 1) w' → w'.cell? ⟨w.heap.size + 1, e, none⟩ = some (.slice (some ab) (gt b e).length capb) := fun w' h => h.cell hcell
        clear hcell
        go_region_held3 (fun w' => HeldB w0 wr (w.heap.size + 1) w') (first | exact heldB_ext hg8 hgbl (grown_drew _ _) | assumption | exact heldB_ext hg8 hgbl hgC | exact heldB_ext hg8 hgbl (grown_trans hgC (World.grownBy_alloc _ _ _)))
         (first
          | (go_at_call 321; refine Calls.mono (Calls.rel2 (w0 := wr) (grown_drew _ _) (l10Comm_ok P G _ _ _ _ Z (gt b e) Any _ _ ⟨_, _, _, rfl, Pres3.ext h36 (grown_trans hg8 (grown_drew _ _))⟩ (hZ8.ext (grown_drew _ _)) (Ints.ext hbI (grown_drew _ _)) HZ.out.2.1 HC.out.2.1)) ?_; rintro eC wC ⟨vC, rfl, hgC, hgC2, hsC, hOC⟩; have hCI : Ints (fun k => ¬ (k = w.heap.size + 1) ∧ v8.ownBlock ≠ some k) wC vC (comR P Z (gt b e)) := ints_of_own hOC (by rw [HC.out.2.2.1.1]; omega) (fun k hk => by
            have h1 := (hOC.lt k hk).1
            exact ⟨by omega, fun e => by have := (hq8.lt k e).2; omega⟩); obtain ⟨aC, capC, hvC, _, _⟩ := hCI.shape; subst hvC)
          | (refine step_shq_app rfl _ _ rfl (fun k => k = w.heap.size + 1) w1.heap.size v8 _ (q1 ++ [Y] ++ [T1] ++ comsR P b Z e) _ rfl wC (hq8.ext hgC) rfl hCI rfl (by have := HC.out.2.2.2; simp; omega) (by have := hgC.size; omega) ?_; intro v9 w9 hq9 hg9 hb9; have hH9 : HeldB w0 wr (w.heap.size + 1) w9 := ⟨grown_own (grown_trans hg8 hgC) hg9 (fun j hj hlt => by have := hqlt8 j hj; have := HS.out; omega), (hg9.block _ (by have := hgC.size; omega) (fun e => by have := hqlt8 _ e.symm; omega)).trans (hgC.block _ hgbl (by simp))⟩))
        clear e1 e2 e3 e4
        have hs9 : w1.heap.size ≤ w9.heap.size := by have := hg9.size; have := hgC.size; omega
        have hT9 := tab_keptF (hT8.ext hgC) hqlt8 hgb1 hg9 hb9
        have hZ9 : Ints (fun k => ¬ (k = w.heap.size + 1) ∧ v9.ownBlock ≠ some k) w9 (.slice az P.orders.length capz) Z := Ints.mono (hZ8.ext hgC) (q_kept (bad := fun k => k = w.heap.size + 1) hg9 hb9)
        clear hq8 hT8 hZ8 hg9 hb9 hCI hOC
        go_wp2
        go_roundw
        case rel => exact ⟨e + 1, v9, rfl, by go_num, by omega, hs9, hH9.1, hT9, by rw [HC.out.1, ← List.append_assoc]; exact hq9, hZ9⟩
        case measure => simp [intOf]; omega
     ·have hee : e = P.orders.length := by omega
      subst hee
      have hms := miss_set (b := b) (z := Z) HD.out.1 HZ.out.2.2.2 P.orders.length (by rw [HLB.out]; exact Nat.le_refl _)
      rw [if_pos hdl] at hms
      have hcl := comsR_len P b Z P.orders.length
      have hll : (q1 ++ [Y] ++ [T1] ++ comsR P b Z P.orders.length).length ≤ q1.length + 2 + P.orders.length := by simp; omega
      have hmul : miss b P.orders.length * (P.orders.length + 3) = miss (b.set d Z) P.orders.length * (P.orders.length + 3) + (P.orders.length + 3) := by rw [← hms, Nat.add_mul, Nat.one_mul]
      have hA5 : Hid (∃ R, AddInv P Q (gt (b.set d Z)) (q1 ++ [Y] ++ [T1] ++ comsR P b Z P.orders.length).reverse R) := by
       obtain ⟨R, hA⟩ := HA2.out.1
       have hst := G.close_step (q' := (q1 ++ [Y] ++ [T1] ++ comsR P b Z P.orders.length).reverse) hA hdl HA2.out.2.1 HD.out.1 HLB.out kk hk1' HK.out (fun x => by
        rw [← HZ.out.1, ← HT1.out]
        simp only [List.mem_reverse, List.mem_append, List.mem_singleton, or_assoc])
       rw [← HZ.out.1] at hst
       exact Lib.hid hst
      have hlt5 : miss (b.set d Z) P.orders.length * (P.orders.length + 3) + (q1 ++ [Y] ++ [T1] ++ comsR P b Z P.orders.length).length < gk := by
       have := HY.out.2.2.2.2; have := HY.out.2.2.2.1; have := HM.out.1; omega
      have HX := Lib.hid (And.intro hll (And.intro hlt5 (And.intro hmul hms))); clear hll hmul hms hlt5 hcl hZ8
      go_wp2
      go_roundg (miss (b.set d Z) P.orders.length * (P.orders.length + 3) + (q1 ++ [Y] ++ [T1] ++ comsR P b Z P.orders.length).length)
      case measure => exact HX.out.2.1
      case rel => exact ⟨b.set d Z, _, by have := HX.out.2.1; omega, rfl, hg8, hT8, hq8, hA5⟩
theorem l12Close_ok (P : Pr) (G : Grp P) (w : World) (pv lv : Value) (L : List (List Int)) (Sp Sr : Nat → Prop) (hpv : PresV Sp w pv P) (hl : Rows2 Sr w lv L) (hL : ∀ x ∈ L, Vec P.orders x) (hlen : L.length ≤ 10000) :
  Calls Tryz.prog 322 #[pv, lv] w (Ret w fun w' v => Rows2 Any w' v (cseq P (genP P (fun x => x ∈ L)))) :=
 (l12CloseF_ok P G w pv lv L Sp Sr hpv hl hL hlen).mono (fun _ _ ⟨v, he, hg, h⟩ => ⟨v, he, hg, h.rows⟩)
end Go.Proofs.YtmjkoejegfjbbaaGreat
namespace Go.Proofs.YtmjkoejegfjbbaaGreat
open Go.RowKit
attribute [local go_sem ↓] Go.wp_at_zero Go.wp_at_succ
set_option maxRecDepth 100000 in
set_option maxHeartbeats 8000000 in
theorem l12Some_ok (B0 : Nat) (w : World) (sb : Nat) (pv : Value) (P : Pr) (F : Nat → Prop) (G : Grp P) (hB0 : B0 ≤ w.heap.size) (hs : Src B0 w sb) (hp : PresV F w pv P) (hF : ∀ k, F k → k ≠ sb) :
  Calls Tryz.prog 235 #[.pointer (some ⟨sb, 0, none⟩), pv] w (Mut w (some sb) (DrawR B0 sb fun w' v => ∃ U, U.length ≤ 6 ∧ (∀ x ∈ U, x.length ≤ 6) ∧ ShQ (fun k => k < w.heap.size) w.heap.size w' v U)) := by
 have hsb := hs.lt
 have hn6 := G.v.n6
 obtain ⟨vo, vp, vc, rfl, h3⟩ := hp
 obtain ⟨ao, co, hvo, _, _⟩ := h3.o.shape
 obtain ⟨ap, cp, hvp, _, _⟩ := Sl.shape h3.p
 obtain ⟨ac, cc, hvc, _, _⟩ := Sl.shape h3.c
 subst hvo hvp hvc
 have hbA := Box3.made w 39 (.slice ao P.orders.length co) (.slice ap P.powers.length cp) (.slice ac P.conj.length cc)
 have hgA : Ext w (w.alloc (.cells #[.slice ao P.orders.length co, .slice ap P.powers.length cp, .slice ac P.conj.length cc] 39)) := World.grownBy_alloc _ _ _
 have h3A := h3.ext hgA
 have hsA := hs.ext hgA
 have hzA : (w.alloc (.cells #[.slice ao P.orders.length co, .slice ap P.powers.length cp, .slice ac P.conj.length cc] 39)).heap.size = w.heap.size + 1 := by simp
 have HZ := Lib.hid (And.intro hzA hsA); clear hsA hs h3
 go_enter Tryz.func235, Tryz.ntmps235
 go_wp2_with fail
 generalize w.alloc (.cells #[.slice ao P.orders.length co, .slice ap P.powers.length cp, .slice ac P.conj.length cc] 39) = w0 at *
 have hgE := World.grownBy_alloc w0 (.cells #[] 36) none
 have hQE : ShQ (fun k => k < w.heap.size + 1) w0.heap.size (w0.alloc (.cells #[] 36)) (.slice (some ⟨w0.heap.size, 0, none⟩) 0 0) [] := ShQ.lit _ _ _ (Nat.le_refl _)
 have HS := Lib.hid (HZ.out.2.ext hgE)
 have hg0 := grown_of_ext (some sb) hgE
 clear hgE
 have HW := Lib.hid hzA
 rw [hzA] at hQE
 have hz1 : w.heap.size + 1 ≤ w0.heap.size := by omega
 clear hzA HZ
 generalize w0.alloc (.cells #[] 36) = w1 at *
 refine Calls.mono (l01Next_ok B0 w1 sb 4 HS.out) ?_
 rintro e2 w2 ⟨v2, rfl, hg2, k0, rfl, _, hk1, hs2⟩
 have hk := hk1 (by omega)
 have hQ2 := hQE.kept hg2.size (fun j hj hc => hg2.block j hj (fun e => by
  have := Option.some.inj e
  rcases hc with hc | hc
  ·have := own_blk hc; omega
  ·omega)) (fun _ _ h => h)
 have hg02 := grown_trans hg0 hg2
 have HS2 := Lib.hid hs2; clear hs2 hQE hg0 hg2 HS hk1
 rw [← HW.out] at hQ2
 rw [← HW.out]
 go_wp2_with fail
 go_loopw [5, 6] (fun ov kv wr => ∃ (k : Int) (L : List (List Int)) (v4 : Value), v4 = ov ∧ kv = .int .i64 k ∧ 0 ≤ k ∧ k ≤ 3 ∧ Hid (L.length + k ≤ 3 ∧ ∀ x ∈ L, Vec P.orders x) ∧ w0.grownBy wr (some sb) ∧ ShQ (fun k => k < w0.heap.size) w0.heap.size wr v4 L ∧ Hid (Src B0 wr sb)) (fun _ kv _ => (intOf kv).toNat)
 case atStart => exact ⟨k0, [], _, rfl, rfl, hk.1, by omega, Lib.hid ⟨by simp; omega, fun x hx => by cases hx⟩, hg02, hQ2, HS2⟩
 case round =>
  clear hQ2 hg02 HS2 hk
  obtain ⟨k, L, v4, rfl, rfl, hk0, hk3, hLk, hg, hQ, hsr⟩ := hrel
  have hbr := hbA.moved hg (by omega)
  obtain ⟨b0, b1, b2, b3, b4⟩ := id hbr
  have hPr : Pres3 F wr _ _ _ P := h3A.mono (frame_of hg (fun k hk _ => ⟨hk, fun e => hF k hk (Option.some.inj e).symm⟩))
  have hob : ∀ j, v4.ownBlock = some j → w0.heap.size ≤ j := fun j hj => (hQ.lt j hj).1
  have HO := Lib.hid hob; clear hob
  have hzr := hg.size
  by_cases hkp : 0 < k
  ·go_wp2_with fail
   refine Calls.mono (l10Some_ok B0 wr sb _ P F (by omega) hsr.out ⟨_, _, _, rfl, hPr⟩ hF G.v) ?_
   rintro e3 w3 ⟨v3, rfl, hg3, ⟨a3, c3, x, rfl, hxV, hOx⟩, hs3⟩
   have hg03 := grown_trans hg hg3
   have hQ3 : ShQ (fun k => k < w0.heap.size) w0.heap.size w3 v4 L := hQ.kept hg3.size (fun j hj hc => hg3.block j hj (fun e => by
    have := Option.some.inj e
    rcases hc with hc | hc
    ·have := HO.out j hc; omega
    ·omega)) (fun _ _ h => h)
   have hxI : Ints (fun k => ¬ k < w0.heap.size ∧ v4.ownBlock ≠ some k) w3 (.slice a3 x.length c3) x := ints_of_own hOx (by rw [hxV.1]; omega) (fun k hk => by
    have h1 := (hOx.lt k hk).1
    exact ⟨by omega, fun e => by have := (hQ.lt k e).2; omega⟩)
   have hLl : L.length ≤ 1000000 := by have := hLk.out.1; omega
   have HS3 := Lib.hid (And.intro hs3 (And.intro hxV hLl)); clear hs3 hxV hLl hOx hQ hbr b0 b1 b2 b3 b4
   go_wp2_with (first | (at_builtin; refine wp_shq_app rfl _ _ rfl (fun k => k < w0.heap.size) w0.heap.size v4 _ L x rfl w3 hQ3 rfl hxI rfl HS3.out.2.2 hg03.size ?_; intro v5 w5 hQ5 hg5 hb5) | fail)
   have hs5 := HS3.out.1.own hg5 (fun j hj => by have := HO.out j hj; omega)
   have hg05 : w0.grownBy w5 (some sb) := grown_own hg03 hg5 (fun j hj hlt => by have := HO.out j hj; omega)
   have hll : (L ++ [x]).length = L.length + 1 := by simp
   go_roundw
   case rel => exact ⟨k - 1, L ++ [x], v5, rfl, rfl, by omega, by omega, Lib.hid ⟨by have := hLk.out.1; omega, fun y hy => by
    rcases List.mem_append.1 hy with h | h
    ·exact hLk.out.2 y h
    ·rw [List.mem_singleton.1 h]; exact HS3.out.2.1⟩, hg05, hQ5, Lib.hid hs5⟩
   case measure => simp [intOf]; omega
  ·have hgw : w.grownBy wr (some sb) := grown_trans (grown_of_ext (some sb) hgA) hg
   have hLr := hQ.rows
   have hLl : L.length ≤ 10000 := by have := hLk.out.1; omega
   have HC := Lib.hid (And.intro hLr hLl); clear hLr hLl
   go_wp2_with fail
   refine Calls.mono (l12CloseF_ok P G wr _ _ L F Any ⟨_, _, _, rfl, hPr⟩ HC.out.1 hLk.out.2 HC.out.2) ?_
   rintro e3 w3 ⟨v3, rfl, hg3, hQ3⟩
   have hS := G.genP_sub hLk.out.2
   have hUl := G.cseq_len hS
   have hUv : ∀ x ∈ cseq P (genP P (fun x => x ∈ L)), x.length ≤ 6 := fun x hx => by rw [((G.seq_facts hS).1.1 x hx).1.1]; omega
   obtain ⟨a5, c5, rfl, _⟩ := hQ3.shape
   have HU := Lib.hid (And.intro hUl (And.intro hUv (And.intro hQ3 (hsr.out.ext hg3)))); clear hUl hUv hQ3 hS
   go_wp2_with fail
   go_ret
   refine ⟨_, rfl, grown_trans hgw (grown_of_ext _ hg3), ⟨_, Nat.le_trans HU.out.1 hn6, HU.out.2.1, ?_⟩, HU.out.2.2.2⟩
   exact (HU.out.2.2.1.kept (Nat.le_refl _) (fun _ _ _ => rfl) (fun k _ hk => by have hk : k < w.heap.size := hk; show k < wr.heap.size; omega)).weak (by omega)
end Go.Proofs.YtmjkoejegfjbbaaGreat
namespace Go.Proofs.YtmjkoejegfjbbaaGreat
theorem flatMap_len' {α β : Type} (l : List α) (f : α → List β) (n : Nat) (h : ∀ x ∈ l, (f x).length = n) : (l.flatMap f).length = l.length * n := by
 induction l with
 | nil => simp
 | cons a l ih =>
  rw [List.flatMap_cons, List.length_append, h a (List.mem_cons_self ..), ih (fun x hx => h x (List.mem_cons_of_mem _ hx)), List.length_cons, Nat.succ_mul]; omega
end Go.Proofs.YtmjkoejegfjbbaaGreat
namespace Go.Proofs.YtmjkoejegfjbbaaGreat
section
variable {P : Pr} (G : Grp P)
include G
theorem Grp.num_lt {x : List Int} (hx : Vec P.orders x) : (num P x).toNat < (ordP P).toNat ∧ elAt P ((num P x).toNat : Int) = x := by
 have hb := num_bd G.v hx
 refine ⟨by omega, ?_⟩
 rw [show (((num P x).toNat : Nat) : Int) = num P x by omega]; exact elAt_num G.v hx
end
end Go.Proofs.YtmjkoejegfjbbaaGreat
namespace Go.Proofs.YtmjkoejegfjbbaaGreat
open Go.RowKit
theorem ints_of_ownV {E base : Nat} {S : Nat → Prop} {w : World} {v : Value} {l : List Int} (h : OwnV base E w v (l.map (Value.int .i64))) (hl : l.length ≤ 9223372036854775807) (hS : ∀ k, v.ownBlock = some k → S k) : Ints S w v l := by
 rcases h.form with ⟨rfl, hn⟩ | ⟨g, cap, rfl, hc, _, hg⟩
 ·have : l = [] := by simpa using hn
  subst this
  exact ⟨none, 0, rfl, ⟨by simp, by simp, fun _ => rfl⟩, fun i hi => by simp at hi⟩
 ·rw [List.length_map] at h hc hS ⊢
  refine ⟨_, cap, rfl, ⟨hc, hl, fun h => by cases h⟩, fun i hi => ⟨g, 0, .int .i64 (gt l i), rfl, hS g rfl, hg, ?_, rfl⟩⟩
  rw [Nat.zero_add, h.cell i (by simpa using hi), gt_map _ _ _ hi]
end Go.Proofs.YtmjkoejegfjbbaaGreat
namespace Go.Proofs.YtmjkoejegfjbbaaGreat
open Go.RowKit
def natI (q : List Nat) : List Int := q.map (fun t : Nat => (t : Int))
theorem natI_len (q : List Nat) : (natI q).length = q.length := by unfold natI; rw [List.length_map]
end Go.Proofs.YtmjkoejegfjbbaaGreat
namespace Go.Proofs.YtmjkoejegfjbbaaGreat
open Go.RowKit
theorem ShQ.rowsB {bad : Nat → Prop} {B : Nat} {w : World} {v : Value} {xs : List (List Int)} (h : ShQ bad B w v xs) (hb : ∀ k, bad k → k < B) : Rows2 (fun k => ¬ bad k) w v xs := by
 obtain ⟨vs, hl, hq, hr⟩ := h
 rcases hq with ⟨rfl, rfl⟩ | ⟨g, off, cap, cur, rfl, hB, hg, hnc, hcm, hsz, hc⟩
 ·have : xs = [] := List.eq_nil_of_length_eq_zero (by simpa using hl.symm)
  subst this
  exact ⟨none, 0, rfl, ⟨by simp, by simp, fun _ => rfl⟩, fun i hi => by simp at hi⟩
 ·have hgs : g < w.heap.size := (Array.getElem?_eq_some_iff.1 hg).1
  have hcm2 : cap ≤ 9223372036854775807 := by unfold maxLen at hcm; omega
  refine ⟨_, cap, by rw [hl], ⟨by omega, by omega, fun h => by cases h⟩, fun i hi => ⟨g, off, gt vs i, rfl, fun h => by have := hb g h; omega, hgs, ?_, Ints.sub (hr i hi) (fun k hk _ => hk.1)⟩⟩
  simp only [World.cell?, hg, Option.isSome_none, Bool.false_eq_true, if_false]
  exact hc i (by omega)
end Go.Proofs.YtmjkoejegfjbbaaGreat
