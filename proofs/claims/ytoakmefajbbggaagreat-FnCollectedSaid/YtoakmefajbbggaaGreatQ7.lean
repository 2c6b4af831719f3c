/-
  A power or a conjugate is put into a presentation that may be written: what can be read behind it.
  Drawing: spec.l07Own.
  Drawing: spec.l02Times, spec.l02Product.
  Drawing: spec.l07Vector.
  Drawing: spec.l06Parse.
  Drawing: spec.l01Split.
  Drawing: spec.l01Value.
  Drawing: spec.l07Orders.
  impl.keyOf: the bytes of all entries, each row closed by a semicolon.
  Texts: spec.l06Text, l07Letter, l01Dec (of a digit), l07Text.
  Drawing: spec.l07Relation.
  The reference's membership and order: spec.l01Zero, l12Sift, l12Has, l12Order.
-/
import Derived.Test.YtoakmefajbbggaaGreatQ1
import Derived.Test.YtoakmefajbbggaaGreatQ3
import Derived.Test.YtoakmefajbbggaaGreatQ4
import Derived.Test.YtoakmefajbbggaaGreatQ5
import Derived.Test.YtoakmefajbbggaaGreatQ6
import Derived.Deep.RegionHeld3
import Derived.Deep.RegionLaw
import Derived.Deep.QuietTactic
import Derived.Laws.BytesArg
namespace Go.Proofs.YtoakmefajbbggaaGreat
open Go.RowKit

section
variable {α : Type} [Inhabited α] {El : (Nat → Prop) → World → Value → α → Prop} {E : Nat}

/-- an element of another place is put into a slice: it reads on -/
theorem SlI.putR (hEl : RdOk El) {F U : Nat → Prop} {g n cap : Nat} {w : World} {xs : List α} {u : Value} {y : α} (h : SlI El E F w (.slice (some ⟨g, 0, none⟩) n cap) xs)
    (hu : El U w u y) (hU : ∀ k, U k → ¬ F k) (j : Nat) :
    Sl (fun w u x => El (fun k => F k ∨ U k) w u x) (fun k => F k ∨ U k) (w.setCell ⟨g, j, none⟩ u) (.slice (some ⟨g, 0, none⟩) n cap) (xs.set j y) := by
  obtain ⟨vs, G, hvl, hl, hO, hF, hG, hd, hE⟩ := h
  have hgl := (hO.lt g rfl).2
  have hFg := hF g rfl
  have hn : n = vs.length := by
    obtain ⟨_, ⟨h, _⟩ | ⟨_, _, _, h, _⟩⟩ := hO <;> cases h; rfl
  subst hn
  have hcap : vs.length ≤ cap := by
    rcases hO.form with ⟨h, _⟩ | ⟨_, _, h, h2, _⟩
    · cases h
    · cases h; exact h2
  obtain ⟨h1, h2⟩ := World.ownsRow.stored hO j u
  have h1 : OwnV 0 E (w.setCell ⟨g, j, none⟩ u) (.slice (some ⟨g, 0, none⟩) vs.length cap) (vs.set j u) := by unfold OwnV; rw [List.length_set]; exact h1
  have hsz : (w.setCell ⟨g, j, none⟩ u).heap.size = w.heap.size := by simp [World.setCell]
  have hblk : ∀ k, k ≠ g → (w.setCell ⟨g, j, none⟩ u).heap[k]? = w.heap[k]? := fun k hk => Below.heap_setCell _ _ _ _ (by simpa using hk)
  refine ⟨_, cap, by rw [List.length_set, hvl], ⟨by rw [List.length_set]; omega, by rw [List.length_set]; exact hl, fun h => by cases h⟩, fun i hi => ?_⟩
  rw [List.length_set] at hi
  refine ⟨g, 0, gt (vs.set j u) i, rfl, .inl hFg, by rw [hsz]; exact hgl, by rw [Nat.zero_add]; exact h1.cell i (by rw [List.length_set]; omega), ?_⟩
  by_cases e : j = i
  · subst e
    rw [gt_set_eq _ _ _ (by omega), gt_set_eq _ _ _ hi]
    exact hEl.mono hu (fun k hk hlt => ⟨.inr hk, by rw [hsz]; exact hlt, hblk k (fun e => hU k hk (e ▸ hFg))⟩)
  · rw [gt_set_ne _ _ _ _ e, gt_set_ne _ _ _ _ e]
    exact hEl.mono (hE i hi) (fun k hk hlt => ⟨.inl (hG i k hi hk).1, by rw [hsz]; exact hlt, hblk k (fun e => (hG i k hi hk).2.1 (by rw [e]; rfl))⟩)
end

theorem PresX.putP {F U : Nat → Prop} {w : World} {vo vp vc u : Value} {P : Pr} {y : List Int} (h : PresX F w vo vp vc P) (i : Nat) (hi : i < P.powers.length) (hu : Ints U w u y) (hU : ∀ k, U k → ¬ F k) :
    ∃ g cap z, vp = .slice (some ⟨g, 0, none⟩) P.powers.length cap ∧ F g ∧ g < w.heap.size ∧ w.cell? ⟨g, i, none⟩ = some z ∧ w.frozen? ⟨g, i, none⟩ = false ∧
      Pres3 (fun k => F k ∨ U k) (w.setCell ⟨g, i, none⟩ u) vo vp vc (setP P i y) := by
  obtain ⟨Fo, Fp, Fc, h1, h2, h3, h4, h5, h6⟩ := h
  rcases SlI.form h2 with ⟨_, e⟩ | ⟨g, cap, rfl, hFg, hgl⟩
  · rw [e] at hi; simp at hi
  obtain ⟨⟨z, hz⟩, hf⟩ := SlI.place h2 i hi
  have hsz : (w.setCell ⟨g, i, none⟩ u).heap.size = w.heap.size := by simp [World.setCell]
  have hblk : ∀ k, k ≠ g → (w.setCell ⟨g, i, none⟩ u).heap[k]? = w.heap[k]? := fun k hk => Below.heap_setCell _ _ _ _ (by simpa using hk)
  have h2' : SlI (fun F w u (x : List Int) => Ints F w u x) 24 Fp w (.slice (some ⟨g, 0, none⟩) P.powers.length cap) P.powers := SlI.map (fun _ _ _ _ h => h.ints) h2
  have hrd : RdOk (fun F w u (x : List Int) => Ints F w u x) := ⟨fun h hb => Ints.mono h hb, fun h => by obtain ⟨_, _, rfl, _⟩ := h.shape; rfl⟩
  have hp := SlI.putR hrd h2' hu (fun k hk h => hU k hk (h5 k h).1) i
  refine ⟨g, cap, z, rfl, (h5 g hFg).1, hgl, hz, hf, ⟨?_, ?_, ?_⟩⟩
  · exact Ints.mono h1.ints (fun k hk hlt => ⟨.inl (h4 k hk).1, by rw [hsz]; exact hlt, hblk k (fun e => (h4 k hk).2.1 (e ▸ hFg))⟩)
  · exact Rows2.sub (S := fun k => Fp k ∨ U k) hp (fun k hk _ => hk.elim (fun h => .inl (h5 k h).1) .inr)
  · exact Rows3.mono (Rows3I.rows h3) (fun k hk hlt => ⟨.inl (h6 k hk), by rw [hsz]; exact hlt, hblk k (fun e => (h5 g hFg).2 (e ▸ hk))⟩)

theorem PresX.putC {F U : Nat → Prop} {w : World} {vo vp vc u : Value} {P : Pr} {y : List Int} (h : PresX F w vo vp vc P) (i j : Nat) (hi : i < P.conj.length) (hj : j < (gt P.conj i).length) (hu : Ints U w u y) (hU : ∀ k, U k → ¬ F k) :
    ∃ g cap b cap2 z, vc = .slice (some ⟨g, 0, none⟩) P.conj.length cap ∧ F g ∧ g < w.heap.size ∧ w.cell? ⟨g, i, none⟩ = some (.slice (some ⟨b, 0, none⟩) (gt P.conj i).length cap2) ∧ F b ∧ b ≠ g ∧ b < w.heap.size ∧
      w.cell? ⟨b, j, none⟩ = some z ∧ w.frozen? ⟨b, j, none⟩ = false ∧ Pres3 (fun k => F k ∨ U k) (w.setCell ⟨b, j, none⟩ u) vo vp vc (setC P i j y) := by
  obtain ⟨Fo, Fp, Fc, h1, h2, h3, h4, h5, h6⟩ := h
  rcases SlI.form h3 with ⟨_, e⟩ | ⟨g, cap, rfl, hFg, hgl⟩
  · rw [e] at hi; simp at hi
  have h3' := h3
  obtain ⟨vs, G, hvl, hl, hO, hF, hG, hd, hE⟩ := h3
  have hn : vs.length = P.conj.length := hvl
  have hEi := hE i hi
  rcases SlI.form hEi with ⟨_, e⟩ | ⟨b, cap2, hub, hGb, hbl⟩
  · rw [e] at hj; simp at hj
  rw [hub] at hEi
  obtain ⟨hFb, hbg, _⟩ := hG i b hi hGb
  have hbg : b ≠ g := fun e => hbg (by rw [e]; rfl)
  obtain ⟨⟨z, hz⟩, hf⟩ := SlI.place hEi j hj
  have hci : w.cell? ⟨g, i, none⟩ = some (.slice (some ⟨b, 0, none⟩) (gt P.conj i).length cap2) := by
    rw [← hub]
    have hO2 : OwnV 0 25 w (.slice (some ⟨g, 0, none⟩) P.conj.length cap) vs := hO
    exact hO2.cell i (by omega)
  have hEi' : SlI (fun F w u (x : List Int) => Ints F w u x) 24 (G i) w (.slice (some ⟨b, 0, none⟩) (gt P.conj i).length cap2) (gt P.conj i) := SlI.map (fun _ _ _ _ h => h.ints) hEi
  have hrd : RdOk (fun F w u (x : List Int) => Ints F w u x) := ⟨fun h hb => Ints.mono h hb, fun h => by obtain ⟨_, _, rfl, _⟩ := h.shape; rfl⟩
  have hp := SlI.putR hrd hEi' hu (fun k hk h => hU k hk (h6 k (hG i k hi h).1)) j
  have hsz : (w.setCell ⟨b, j, none⟩ u).heap.size = w.heap.size := by simp [World.setCell]
  have hblk : ∀ k, k ≠ b → (w.setCell ⟨b, j, none⟩ u).heap[k]? = w.heap[k]? := fun k hk => Below.heap_setCell _ _ _ _ (by simpa using hk)
  have h3r := Rows3I.rows h3'
  refine ⟨g, cap, b, cap2, z, rfl, h6 g hFg, hgl, hci, h6 b hFb, hbg, hbl, hz, hf, ⟨?_, ?_, ?_⟩⟩
  · exact Ints.mono h1.ints (fun k hk hlt => ⟨.inl (h4 k hk).1, by rw [hsz]; exact hlt, hblk k (fun e => (h4 k hk).2.2 (e ▸ hFb))⟩)
  · exact Rows2.mono (RowsI.rows h2) (fun k hk hlt => ⟨.inl (h5 k hk).1, by rw [hsz]; exact hlt, hblk k (fun e => (h5 k hk).2 (e ▸ hFb))⟩)
  · refine ⟨_, cap, by show _ = Value.slice _ (P.conj.set i _).length _; rw [List.length_set], ⟨?_, ?_, fun h => by cases h⟩, fun k hk => ?_⟩
    · obtain ⟨a, c, e, e2, _⟩ := Sl.shape h3r
      cases e
      show (P.conj.set i _).length ≤ _; rw [List.length_set]; exact e2
    · show (P.conj.set i _).length ≤ _; rw [List.length_set]; exact hl
    · have hk : k < P.conj.length := by
        have hk : k < (P.conj.set i ((gt P.conj i).set j y)).length := hk
        rw [List.length_set] at hk; exact hk
      show ∃ b_1 off u_1, _ ∧ _ ∧ _ ∧ _ ∧ Rows2 _ _ u_1 (gt (P.conj.set i ((gt P.conj i).set j y)) k)
      have hO2 : OwnV 0 25 w (.slice (some ⟨g, 0, none⟩) P.conj.length cap) vs := hO
      have hck : (w.setCell ⟨b, j, none⟩ u).cell? ⟨g, 0 + k, none⟩ = some (gt vs k) := by
        rw [Nat.zero_add, World.cell?_of_block (w := w) (a := ⟨g, k, none⟩) (hblk g (fun e => hbg e.symm))]
        exact hO2.cell k (by omega)
      refine ⟨g, 0, gt vs k, rfl, .inl (h6 g hFg), by rw [hsz]; exact hgl, hck, ?_⟩
      by_cases e : i = k
      · subst e
        rw [gt_set_eq _ _ _ hi, hub]
        exact Rows2.sub (S := fun k => G i k ∨ U k) hp (fun k hk _ => hk.elim (fun h => .inl (h6 k (hG i k hi h).1)) .inr)
      · rw [gt_set_ne _ _ _ _ e]
        have hr := RowsI.rows (hE k hk)
        exact Rows2.mono hr (fun m hm hlt => ⟨.inl (h6 m (hG k m hk hm).1), by rw [hsz]; exact hlt, hblk m (fun e2 => e (hd i k b hi hk hGb (e2 ▸ hm)))⟩)

end Go.Proofs.YtoakmefajbbggaaGreat
namespace Go.Proofs.YtoakmefajbbggaaGreat
open Go.RowKit
attribute [local go_sem ↓] Go.wp_at_zero Go.wp_at_succ

theorem rows_bound {P : Pr} {N : Nat} (h : Shp N P) (hN : N ≤ 1000) : (∀ x ∈ P.powers, x.length ≤ 1000000) ∧ P.powers.length ≤ 1000000 ∧ P.conj.length ≤ 1000000 ∧ (∀ i, i < P.conj.length → (∀ x ∈ gt P.conj i, x.length ≤ 1000000) ∧ (gt P.conj i).length ≤ 1000000) := by
  have hn := h.n
  refine ⟨fun x hx => by have := h.pv x hx; omega, by rw [h.p]; omega, by rw [h.c]; omega, fun i hi => ⟨fun x hx => ?_, ?_⟩⟩
  · have := h.cv _ (by rw [gt_eq _ i hi]; exact List.getElem_mem hi) x hx
    omega
  · rw [h.cl i (by rw [← h.c]; exact hi)]; omega

/-- behind the copy of the first two parts -/
def OwnCut (w0 : World) (P : Pr) (q : Value) (wx : World) : Prop := ∃ qb a n c a2 n2 c2, q = .pointer (some ⟨qb, 0, none⟩) ∧ w0.heap.size ≤ qb ∧ Ext w0 wx ∧ Box3 wx qb (.slice a n c) (.slice a2 n2 c2) (.slice none 0 0) ∧
  PresX (fun k => w0.heap.size ≤ k ∧ k ≠ qb) wx (.slice a n c) (.slice a2 n2 c2) (.slice none 0 0) ⟨P.orders, P.powers, []⟩
theorem ownCut_mk {w0 wx : World} {P : Pr} {qb n c n2 c2 a1 a2 b1 b2 : Nat} {a a' : Option Addr} (hq : w0.heap.size ≤ qb) (hE : Ext w0 wx) (hB : Box3 wx qb (.slice a n c) (.slice a' n2 c2) (.slice none 0 0))
    (hA : OwnIn (fun k => a1 ≤ k ∧ k < a2) wx (.slice a n c) P.orders) (hR : RowsI (fun k => b1 ≤ k ∧ k < b2) wx (.slice a' n2 c2) P.powers)
    (h1 : w0.heap.size ≤ a1) (h2 : w0.heap.size ≤ b1) (h3 : a2 ≤ b1 ∨ b2 ≤ a1) (h4 : ¬ (a1 ≤ qb ∧ qb < a2)) (h5 : ¬ (b1 ≤ qb ∧ qb < b2)) : OwnCut w0 P (.pointer (some ⟨qb, 0, none⟩)) wx :=
  ⟨qb, a, n, c, a', n2, c2, rfl, hq, hE, hB, fun k => a1 ≤ k ∧ k < a2, fun k => b1 ≤ k ∧ k < b2, fun _ => False, hA, hR, ⟨[], fun _ _ => False, rfl, by simp, World.ownsRow_nil _ _ _ _, by simp [Value.ownBlock], by simp, by simp, by simp⟩,
    fun k hk => ⟨⟨by omega, fun e => h4 (e ▸ hk)⟩, fun e => by omega, fun e => e⟩, fun k hk => ⟨⟨by omega, fun e => h5 (e ▸ hk)⟩, fun e => e⟩, fun k hk => hk.elim⟩

set_option maxRecDepth 100000 in
set_option maxHeartbeats 4000000 in
theorem l07Own_ok (w : World) (pv : Value) (P : Pr) (S : Nat → Prop) (N : Nat) (hp : PresV S w pv P) (hS : Shp N P) (hN : N ≤ 1000) :
    Calls Tryz.prog 186 #[pv] w (Ret w (PresR w.heap.size P)) := by
  obtain ⟨vo, vp, vc, rfl, h3⟩ := hp
  obtain ⟨ao, capo, hvo, _, _⟩ := h3.o.shape
  obtain ⟨ap, capp, hvp, _, _⟩ := Sl.shape h3.p
  obtain ⟨ac, capc, hvc, _, _⟩ := Sl.shape h3.c
  subst hvo hvp hvc
  have hg0 : Ext w ((w.alloc (.cells #[.slice ao P.orders.length capo, .slice ap P.powers.length capp, .slice ac P.conj.length capc] 28)).alloc (.cells #[.slice none 0 0, .slice none 0 0, .slice none 0 0] 28)) := grown_trans (World.grownBy_alloc _ _ _) (World.grownBy_alloc _ _ _)
  have hA0 := (Box3.made w 28 (.slice ao P.orders.length capo) (.slice ap P.powers.length capp) (.slice ac P.conj.length capc)).ext (World.grownBy_alloc _ (.cells #[.slice none 0 0, .slice none 0 0, .slice none 0 0] 28) _)
  have hR0 := Box3.made (w.alloc (.cells #[.slice ao P.orders.length capo, .slice ap P.powers.length capp, .slice ac P.conj.length capc] 28)) 28 (.slice none 0 0) (.slice none 0 0) (.slice none 0 0)
  have hs1 : (w.alloc (.cells #[.slice ao P.orders.length capo, .slice ap P.powers.length capp, .slice ac P.conj.length capc] 28)).heap.size = w.heap.size + 1 := by simp
  have hs2 : ((w.alloc (.cells #[.slice ao P.orders.length capo, .slice ap P.powers.length capp, .slice ac P.conj.length capc] 28)).alloc (.cells #[.slice none 0 0, .slice none 0 0, .slice none 0 0] 28)).heap.size = w.heap.size + 2 := by simp
  rw [hs1] at hR0
  have hb := rows_bound hS hN
  have hn := hS.n
  have HB := Lib.hid (And.intro hA0 (And.intro hR0 (And.intro hs2 (And.intro hb (And.intro hS hn))))); clear hA0 hR0 hs1 hs2 hb hn
  go_enter Tryz.func186, Tryz.ntmps186
  go_wp2_with fail
  generalize (w.alloc (.cells #[.slice ao P.orders.length capo, .slice ap P.powers.length capp, .slice ac P.conj.length capc] 28)).alloc (.cells #[.slice none 0 0, .slice none 0 0, .slice none 0 0] 28) = w0 at *
  have h30 := h3.ext hg0
  have e0 : ∀ w', Ext w0 w' → w'.cell? ⟨w.heap.size, 0, none⟩ = some (.slice ao P.orders.length capo) := fun w' h => (HB.out.1.ext h).2.1
  have e1 : ∀ w', Ext w0 w' → w'.cell? ⟨w.heap.size, 1, none⟩ = some (.slice ap P.powers.length capp) := fun w' h => (HB.out.1.ext h).2.2.1
  go_cut [3] (fun qv wx => OwnCut w0 P qv wx)
  case first =>
    go_region_held3 (fun w' => Ext w0 w') (first | exact grown_drew _ _ | assumption | exact grown_trans (by assumption) (World.grownBy_alloc _ _ _) | exact grown_own (by assumption) (grown_set3 _ _ _ _ _) (fun j hj hlt => by cases hj; first | (have := hgA.size; omega) | (have := hgB.size; omega) | (simp at hlt)))
      (first
        | (go_at_call 183; refine Calls.mono (Calls.rel2 (w0 := w0) (by assumption) (l01Own2_ok _ _ P.powers S (Rows2.ext h30.p (by assumption)) HB.out.2.2.2.1.1 HB.out.2.2.2.1.2.1)) ?_; rintro eB wB ⟨vB, rfl, hgB, hgB2, hsB, hOB⟩; obtain ⟨aB, capB, hvB, _, _⟩ := SlD.shape (hOB.toD (by have := HB.out.2.2.2.1.2.1; omega)); subst hvB; (try have hQ := Box3.ext hQ hgB2); (first | (have hQ : Box3 _ w0.heap.size _ _ _ := Box3.ext (Box3.made w0.drew _ _ _ _) hgB2) | (have hQ := Box3.ext (Box3.made _ _ _ _ _) hgB2) | skip); (try obtain ⟨f0, f1, f2, f3, f4⟩ := id hQ))
        | (go_at_call 120; refine Calls.mono (Calls.rel2 (w0 := w0) (by assumption) (l01Own_ok _ _ P.orders S (Ints.ext h30.o (by assumption)) (by have := HB.out.2.2.2.2.2; omega))) ?_; rintro eA wA ⟨vA, rfl, hgA, hgA2, hsA, hOA⟩; obtain ⟨aA, capA, hvA, _⟩ := (hOA.ints (by have := HB.out.2.2.2.2.2; omega)).shape; subst hvA; (try have hQ := Box3.ext hQ hgA2); (first | (have hQ : Box3 _ w0.heap.size _ _ _ := Box3.ext (Box3.made w0.drew _ _ _ _) hgA2) | (have hQ := Box3.ext (Box3.made _ _ _ _ _) hgA2) | skip); (try obtain ⟨f0, f1, f2, f3, f4⟩ := id hQ)))
    all_goals (try go_wp2_with fail)
    all_goals go_meet
    all_goals
      have hzA := hgA.size
      have hzB := hgB2.size
      have hnl := HB.out.2.2.2.2.2
      have hpl := HB.out.2.2.2.1.2.1
    · have hQf := Box3.made wB 28 (.slice aA P.orders.length capA) (.slice aB P.powers.length capB) (.slice none 0 0)
      have hgz := World.grownBy_alloc wB (.cells #[.slice aA P.orders.length capA, .slice aB P.powers.length capB, .slice none 0 0] 28) none
      refine ownCut_mk (a1 := w0.heap.size) (a2 := wA.heap.size) (b1 := wA.heap.size) (b2 := wB.heap.size) (by omega) (grown_trans (by assumption) hgz) hQf
             (rdOwn.mono (OwnIn.of hOA (by omega) (fun k h1 h2 => ⟨h1, h2⟩)) (fun k hk hlt => ⟨hk, by have := hgz.size; omega, (hgz.block k (by omega) (by simp)).trans (hgB2.block k hlt (by simp))⟩))
             (rdRowsI.mono (SlI.of hOB (by omega) (fun k h1 h2 => ⟨h1, h2⟩)) (fun k hk hlt => ⟨hk, by have := hgz.size; omega, hgz.block k hlt (by simp)⟩)) (by omega) (by omega) (by omega) (by omega) (by omega)
    · have hQf := hQ.all (.slice aA P.orders.length capA) (.slice aB P.powers.length capB) (.slice none 0 0)
      have hgz := grown_set3 wB wA.heap.size (.slice aA P.orders.length capA) (.slice aB P.powers.length capB) (.slice none 0 0)
      have hgv := grown_trans (World.grownBy_alloc wA (.cells #[.slice none 0 0, .slice none 0 0, .slice none 0 0] 28) none) hgB2
      have hzv : (wA.alloc (.cells #[.slice none 0 0, .slice none 0 0, .slice none 0 0] 28)).heap.size = wA.heap.size + 1 := by simp
      refine ownCut_mk (a1 := w0.heap.size) (a2 := wA.heap.size) (b1 := wA.heap.size + 1) (b2 := wB.heap.size) (by omega) (by assumption) hQf
             (rdOwn.mono (OwnIn.of hOA (by omega) (fun k h1 h2 => ⟨h1, h2⟩)) (fun k hk hlt => ⟨hk, by have := hgz.size; omega, (hgz.block k (by omega) (fun e => by cases e; omega)).trans (hgv.block k (by omega) (by simp))⟩))
             (rdRowsI.mono (SlI.of hOB (by omega) (fun k h1 h2 => ⟨by rw [← hzv]; exact h1, h2⟩)) (fun k hk hlt => ⟨hk, by have := hgz.size; omega, hgz.block k hlt (fun e => by cases e; omega)⟩)) (by omega) (by omega) (by omega) (by omega) (by omega)
    · have hQf := hQ.all (.slice aA P.orders.length capA) (.slice aB P.powers.length capB) (.slice none 0 0)
      have hgz := grown_set3 wB w0.heap.size (.slice aA P.orders.length capA) (.slice aB P.powers.length capB) (.slice none 0 0)
      have hz0 := hQ.1
      refine ownCut_mk (a1 := w0.heap.size + 1) (a2 := wA.heap.size) (b1 := wA.heap.size) (b2 := wB.heap.size) (by omega) (by assumption) hQf
             (rdOwn.mono (OwnIn.of hOA (by omega) (fun k h1 h2 => ⟨by simpa using h1, h2⟩)) (fun k hk hlt => ⟨hk, by have := hgz.size; omega, (hgz.block k (by omega) (fun e => by cases e; omega)).trans (hgB2.block k hlt (by simp))⟩))
             (rdRowsI.mono (SlI.of hOB (by omega) (fun k h1 h2 => ⟨h1, h2⟩)) (fun k hk hlt => ⟨hk, by have := hgz.size; omega, hgz.block k hlt (fun e => by cases e; omega)⟩)) (by omega) (by omega) (by omega) (by omega) (by omega)
  case rest =>
    obtain ⟨qb, a1, n1, c1, a2, n2, c2, rfl, hqb, hg1, hB1, hX1⟩ := hcut
    clear e0 e1
    go_wp2
    go_loopw [4] (fun iv wr => ∃ (i : Nat) (vc : Value), iv = .int .i64 i ∧ i ≤ P.conj.length ∧ Ext w0 wr ∧ Box3 wr qb (.slice a1 n1 c1) (.slice a2 n2 c2) vc ∧
      PresX (fun k => w0.heap.size ≤ k ∧ k ≠ qb) wr (.slice a1 n1 c1) (.slice a2 n2 c2) vc ⟨P.orders, P.powers, P.conj.take i⟩) (fun iv _ => P.conj.length - (intOf iv).toNat)
    case atStart => exact ⟨0, _, rfl, by omega, hg1, hB1, hX1⟩
    case round =>
      clear hB1 hX1 hg1
      obtain ⟨i, vc, rfl, hi, hg, hB, hX⟩ := hrel
      have e2 : ∀ w', Ext wr w' → w'.cell? ⟨w.heap.size, 2, none⟩ = some (.slice ac P.conj.length capc) := fun w' h => (HB.out.1.ext (grown_trans hg h)).2.2.2.1
      have e3 := e2 wr (grown_refl _ _)
      by_cases hlt : i < P.conj.length
      · have hlt' : (i : Int) < P.conj.length := by omega
        obtain ⟨Fo, Fp, Fc, hP⟩ := hX.part
        obtain ⟨_, _, _, a3, n3, c3, _, rfl, _, hn3⟩ := hX.sh2
        have hnb : (Value.slice a3 n3 c3).ownBlock ≠ some qb := by
          obtain ⟨_, _, _, _, _, q1, _⟩ := hP.c
          exact fun e => (hP.dc _ (q1 _ e)).2 rfl
        obtain ⟨bc, oc, ag, capg, rfl, _, hbcl, hc0, hcr0⟩ := Rows3.at h30.c i hlt
        have hcc := hc0
        have hcr := Rows2.ext hcr0 hg
        clear hcr0
        have hq3 : ∀ k, (Value.slice a3 n3 c3).ownBlock = some k → w0.heap.size ≤ k := by
          obtain ⟨_, _, _, _, _, q1, _⟩ := hP.c
          exact fun k e => (hP.dc _ (q1 _ e)).1
        have hbd := HB.out.2.2.2.1.2.2.2 i hlt
        have hstep := take_succ_gt P.conj i hlt
        have htl : (P.conj.take i).length ≤ 1000000 := by rw [List.length_take]; have := HB.out.2.2.2.1.2.2.1; omega
        obtain ⟨G, hG⟩ : ∃ G, G = gt P.conj i := ⟨_, rfl⟩
        rw [← hG] at hcr hbd hstep hcc hc0
        have HR := Lib.hid (And.intro hstep (And.intro htl (And.intro hnb (And.intro hbd (And.intro hcr hq3))))); clear hstep htl hbd hcr hG hn3 hq3 hnb hcc
        have r2 : ∀ w', Ext w0 w' → w'.cell? ⟨bc, oc + i, none⟩ = some (.slice ag G.length capg) := fun w' h => h.cell hc0 (by simp)
        have r4 : ∀ w', Ext w0 w' → w'.cell? ⟨w.heap.size, 2, none⟩ = some (.slice (some ⟨bc, oc, none⟩) P.conj.length capc) := fun w' h => (HB.out.1.ext h).2.2.2.1
        have r3 : ∀ w', Ext wr w' → w'.cell? ⟨qb, 2, none⟩ = some (.slice a3 n3 c3) := fun w' h => (hB.ext h).2.2.2.1
        have f3 := r3 wr.drew (grown_drew _ _)
        clear e2
        go_wp2
        clear e3
        have f2 := r2 wr.drew (grown_trans hg (grown_drew _ _))
        have f4 := r4 wr.drew (grown_trans hg (grown_drew _ _))
        clear r2 r4
        go_region_law (first
            | (go_simp; go_at_call 183; refine Calls.mono (l01Own2_ok _ _ G S (Rows2.ext HR.out.2.2.2.2.1 (grown_drew _ _)) HR.out.2.2.2.1.1 HR.out.2.2.2.1.2) ?_; rintro eG wG ⟨vG, rfl, hgG, hOG⟩; obtain ⟨aG, capG, hvG, _, _⟩ := SlD.shape (hOG.toD (by have := HR.out.2.2.2.1.2; omega)); subst hvG; have hgG2 : Ext wr wG := grown_trans (grown_drew _ _) hgG; have g3 := r3 wG hgG2; have g4 := r3 (wG.alloc (.cells #[.slice aG G.length capG] 25)) (grown_trans hgG2 (World.grownBy_alloc _ _ _)))
            | (refine step_app_I (rdI rdOwn) 26 (.slice none 0 0) 24 und_rows3 Tryz.infoRows rfl (by decide) (by rfl) _ _ (by rfl) Fc wr wG _ _ (P.conj.take i) G (by rfl) hP.c hgG2 (SlI.of hOG (by have := HR.out.2.2.2.1.2; omega) (fun k h _ => h)) (by rfl) (by rfl) HR.out.2.1 ?_; intro v8 w8 hO8 hg8 hg9; obtain ⟨g8, m8, k8, rfl, hm8⟩ := SlI.sl hO8; clear hm8; have hB8 := Box3.keep hB hg8.size (hg8.block _ hB.1 (fun e => HR.out.2.2.1 e.symm)); have hgw8 : Ext w0 w8 := grown_own hg hg8 (fun j hj hlt => by have := HR.out.2.2.2.2.2 _ hj; omega); obtain ⟨f80, f81, f82, f83, f84⟩ := id hB8))
        all_goals
          have hgw9 : Ext w0 (w8.setCell ⟨qb, 2, none⟩ (.slice g8 m8 k8)) := grown_own hgw8 (grown_set1 _ _ _ _) (fun j hj hlt => by cases hj; omega)
          have hB9 := (hB8.put (.slice g8 m8 k8)).2.2
          have hX9 := hP.newC hO8 hg8
          rw [← HR.out.1] at hX9
          have hX10 : PresX (fun k => w0.heap.size ≤ k ∧ k ≠ qb) (w8.setCell ⟨qb, 2, none⟩ (.slice g8 m8 k8)) (.slice a1 n1 c1) (.slice a2 n2 c2) (.slice g8 m8 k8) ⟨P.orders, P.powers, P.conj.take (i + 1)⟩ :=
            hX9.mono (frame_of (grown_set w8 qb 2 (.slice g8 m8 k8)) (fun k hk hlt => by
              have hk' : (w0.heap.size ≤ k ∧ k ≠ qb) ∨ wr.heap.size ≤ k := hk
              have h1 := hB.1
              have h2 := hg.size
              exact ⟨by omega, fun e => by cases e; omega⟩))
          clear f80 f81 f82 f83 f84 f3 g3 g4 f2 f4 r3
          go_wp2
          go_roundw
          case rel => exact ⟨i + 1, _, by go_num, by omega, hgw9, hB9, hX10⟩
          case measure => simp [intOf]; omega
      · have hie : i = P.conj.length := by omega
        subst hie
        rw [List.take_length] at hX
        clear e2
        obtain ⟨_, _, _, a3, n3, c3, _, rfl, hn2, hn3⟩ := hX.sh2
        clear hn2 hn3
        have hz := HB.out.2.1.ext hg
        obtain ⟨h0, h1, h2, h3', h4⟩ := id hB
        obtain ⟨k0, k1, k2, k3, k4⟩ := id hz
        have hZ := hz.all (.slice a1 n1 c1) (.slice a2 n2 c2) (.slice a3 n3 c3)
        have hT := grown_set3 wr (w.heap.size + 1) (.slice a1 n1 c1) (.slice a2 n2 c2) (.slice a3 n3 c3)
        obtain ⟨_, z0, z1, z2, _⟩ := id hZ
        have HT := Lib.hid hT; clear hT hZ
        go_wp2
        refine bodyPost_ret (v := .agg #[.slice a1 n1 c1, .slice a2 n2 c2, .slice a3 n3 c3]) (by simp [results, Tryz.results186, go_sem, z0, z1, z2]) rfl ?_
        have hs2 := HB.out.2.2.1
        exact ⟨_, rfl, grown_own (grown_trans hg0 hg) HT.out (fun j hj hlt => by cases hj; omega), _, _, _, rfl, hX.mono (frame_of HT.out (fun k hk _ => ⟨by show w.heap.size ≤ k; omega, fun e => by cases e; omega⟩))⟩

end Go.Proofs.YtoakmefajbbggaaGreat
namespace Go.Proofs.YtoakmefajbbggaaGreat
open Go.RowKit
attribute [local go_sem ↓] Go.wp_at_zero Go.wp_at_succ

/-- small entries -/
def Sm (l : List Int) : Prop := ∀ x ∈ l, 0 ≤ x ∧ x ≤ 7
theorem Sm.at {l : List Int} (h : Sm l) {i : Nat} (hi : i < l.length) : 0 ≤ gt l i ∧ gt l i ≤ 7 := h _ (by rw [gt_eq l i hi]; exact List.getElem_mem hi)
theorem Sm.set {l : List Int} (h : Sm l) (i : Nat) {x : Int} (hx : 0 ≤ x ∧ x ≤ 7) : Sm (l.set i x) := fun y hy => by
  rcases List.mem_or_eq_of_mem_set hy with h' | h'
  · exact h y h'
  · rw [h']; exact hx
theorem w64_small (x : Int) (h : 0 ≤ x ∧ x ≤ 1000) : wrap64 x = x := IntWalk.wrap64_in _ (by omega)
theorem i64_small (x : Int) (h : 0 ≤ x ∧ x ≤ 1000) : IntKind.i64.wrap x = x := IntWalk.i64_in _ (by omega)
theorem sm_mul {a b : Int} (ha : 0 ≤ a ∧ a ≤ 7) (hb : 0 ≤ b ∧ b ≤ 7) : 0 ≤ a * b ∧ a * b ≤ 49 :=
  ⟨Int.mul_nonneg ha.1 hb.1, Int.le_trans (Int.mul_le_mul ha.2 hb.2 hb.1 (by decide)) (by decide)⟩

set_option maxRecDepth 100000 in
set_option maxHeartbeats 4000000 in
theorem l02Times_ok (w : World) (p : Int) (vv rv : Value) (v : List Int) (R : List (List Int)) (c : Nat) (S S' : Nat → Prop) (hv : Ints S w vv v) (hr : Rows2 S' w rv R) (hp : 1 ≤ p ∧ p ≤ 7) (hvs : Sm v) (hRs : ∀ x ∈ R, Sm x) (hc : c ≤ 100) :
    Calls Tryz.prog 297 #[.int .i64 p, vv, rv, .int .i64 c] w (Ret w fun w' r => ∃ l, l.length = c ∧ Sm l ∧ Own w.heap.size w' r l) := by
  obtain ⟨av, capv, rfl, _, _⟩ := hv.shape
  obtain ⟨ar, capr, rfl, _, _⟩ := Sl.shape hr
  have HV := Lib.hid (And.intro hvs hRs); clear hvs hRs
  go_enter Tryz.func297, Tryz.ntmps297
  go_wp2_with (at_make; refine wp_make_ints rfl _ _ rfl w.heap.size c w.heap.size rfl _ rfl rfl rfl (by omega) (Nat.le_refl _) ?_; intro w1 ho1 hg1 hlt1)
  go_loopw [10] (fun iv wr => ∃ (i : Nat) (l : List Int), iv = .int .i64 i ∧ i ≤ v.length ∧ l.length = c ∧ Sm l ∧ Ext w wr ∧ Own w.heap.size wr (.slice (some ⟨w.heap.size, 0, none⟩) c c) l) (fun iv _ => v.length - (intOf iv).toNat)
  case atStart => exact ⟨0, _, rfl, by omega, by simp, by intro x hx; rw [List.eq_of_mem_replicate hx]; omega, hg1, ho1⟩
  case round =>
    clear ho1 hg1
    obtain ⟨i, l, rfl, hi, hlc, hsl, hg, hO⟩ := hrel
    by_cases hlt : i < v.length
    · have hlt' : (i : Int) < v.length := by omega
      by_cases hlr : i < R.length
      · have hlr' : (i : Int) < R.length := by omega
        obtain ⟨br, or, a2, cap2, rfl, _, _, hcr, hri⟩ := Rows2.at hr i hlr
        have hvi := HV.out.1.at hlt
        have hRi : Sm (gt R i) := HV.out.2 _ (by rw [gt_eq R i hlr]; exact List.getElem_mem hlr)
        obtain ⟨z, hz⟩ : ∃ z, z = gt R i := ⟨_, rfl⟩
        rw [← hz] at hcr hri hRi
        have HR := Lib.hid (And.intro hRi (And.intro hvi hz)); clear hRi hvi hz
        have HL := Lib.hid (And.intro hlc hsl); clear hlc hsl
        have hcr2 := hg.cell hcr (by simp)
        go_wp2
        clear hcr2
        go_loopw [11] (fun jv wx => ∃ (j : Nat) (l : List Int), jv = .int .i64 j ∧ j ≤ z.length ∧ l.length = c ∧ Sm l ∧ Ext w wx ∧ Own w.heap.size wx (.slice (some ⟨w.heap.size, 0, none⟩) c c) l) (fun jv _ => z.length - (intOf jv).toNat)
        case atStart => exact ⟨0, l, rfl, by omega, HL.out.1, HL.out.2, hg, hO⟩
        case round =>
          clear hO hg HL
          obtain ⟨j, l, rfl, hj, hlc, hsl, hg, hO⟩ := hrel
          have hcr2 := hg.cell hcr (by simp)
          by_cases hltc : j < c
          · have hltc' : (j : Int) < c := by omega
            by_cases hltz : j < z.length
            · have hltz' : (j : Int) < z.length := by omega
              obtain ⟨bz, oz, rfl, _, _, hcz⟩ := Ints.at (Ints.ext hri hg) j hltz
              obtain ⟨bv, ov, rfl, _, _, hcv⟩ := Ints.at (Ints.ext hv hg) i hlt
              have hco := hO.cell j (by omega)
              have hfo := hO.frozen j
              have ha := HR.out.2.1
              have hb := HR.out.1.at hltz
              have hx := hsl.at (show j < l.length by omega)
              obtain ⟨a, hae⟩ : ∃ a, a = gt v i := ⟨_, rfl⟩
              obtain ⟨b, hbe⟩ : ∃ b, b = gt z j := ⟨_, rfl⟩
              obtain ⟨x, hxe⟩ : ∃ x, x = gt l j := ⟨_, rfl⟩
              rw [← hae] at ha hcv
              rw [← hbe] at hb hcz
              rw [← hxe] at hx hco
              have hab := sm_mul ha hb
              obtain ⟨ab, habe⟩ : ∃ ab, ab = a * b := ⟨_, rfl⟩
              rw [← habe] at hab
              have hm0 : 0 ≤ (x + ab) % p := Int.emod_nonneg _ (by omega)
              have hm1 : (x + ab) % p < p := Int.emod_lt_of_pos _ (by omega)
              obtain ⟨hO3, hgs⟩ := hO.store j ((x + ab) % p)
              have hsl3 := hsl.set j (x := (x + ab) % p) ⟨hm0, by omega⟩
              have hgn := grown_own hg hgs (fun k hk hlt => by cases hk; omega)
              clear hae hbe hxe
              have hp0 : p ≠ 0 := by omega
              have hl3 : (l.set j ((x + ab) % p)).length = c := by rw [List.length_set]; exact hlc
              have hw2 := i64_small (x + ab) (by omega)
              have hw1 : IntKind.i64.wrap (a * b) = ab := by rw [← habe]; exact i64_small ab (by omega)
              have hw3 : wrap64 (a * b) = ab := by rw [← habe]; exact w64_small ab (by omega)
              have hw4 := w64_small (x + ab) (by omega)
              have c1 : wr.drew.cell? ⟨w.heap.size, j, none⟩ = some (.int .i64 x) := hco
              have c2 : wr.drew.cell? ⟨bv, ov + i, none⟩ = some (.int .i64 a) := hcv
              have c3 : wr.drew.cell? ⟨br, or + i, none⟩ = some (.slice (some ⟨bz, oz, none⟩) z.length cap2) := hcr2
              have c4 : wr.drew.cell? ⟨bz, oz + j, none⟩ = some (.int .i64 b) := hcz
              have c5 : wr.drew.frozen? ⟨w.heap.size, j, none⟩ = false := hfo
              clear hco hcv hcz hfo habe hO
              have hOd := hO3.ext0 (grown_drew (wr.setCell ⟨w.heap.size, j, none⟩ (.int .i64 ((x + ab) % p))) none)
              have hgd := grown_trans hgn (grown_drew (wr.setCell ⟨w.heap.size, j, none⟩ (.int .i64 ((x + ab) % p))) none)
              have HQ := Lib.hid (And.intro hOd (And.intro hgd (And.intro hsl3 hl3))); clear hO3 hgs hgn hsl3 hl3 hOd hgd
              go_wp2
              clear hcr2
              go_still_tail 22, (by kernel_rfl)
              change wpList _ _ _ _ _ wr.drew
              clear hcr hri
              go_wp2
              clear hw1 hw2 hw3 hw4
              go_roundw
              case rel => exact ⟨j + 1, _, by go_num, by omega, HQ.out.2.2.2, HQ.out.2.2.1, HQ.out.2.1, HQ.out.1⟩
              case measure => simp [intOf]; omega
            · have hltz' : ¬ ((j : Int) < z.length) := by omega
              have hgq := hg
              go_wp2
              go_roundw
              case rel => exact ⟨i + 1, l, by go_num, by omega, hlc, hsl, hgq, hO⟩
              case measure => simp [intOf]; omega
          · have hltc' : ¬ ((j : Int) < c) := by omega
            have hgq := hg
            go_wp2
            go_roundw
            case rel => exact ⟨i + 1, l, by go_num, by omega, hlc, hsl, hgq, hO⟩
            case measure => simp [intOf]; omega
      · have hlr' : ¬ ((i : Int) < R.length) := by omega
        go_wp2
        go_ret
        exact ⟨_, rfl, hg, l, hlc, hsl, hO⟩
    · have hlt' : ¬ ((i : Int) < v.length) := by omega
      go_wp2
      go_ret
      exact ⟨_, rfl, hg, l, hlc, hsl, hO⟩
/-- rows of c small entries -/
def SmR (c : Nat) (R : List (List Int)) : Prop := ∀ x ∈ R, x.length = c ∧ Sm x

set_option maxRecDepth 100000 in
set_option maxHeartbeats 4000000 in
theorem l02Product_ok (w : World) (p : Int) (av bv : Value) (A R : List (List Int)) (c : Nat) (S S' : Nat → Prop) (ha : Rows2 S w av A) (hr : Rows2 S' w bv R) (hp : 1 ≤ p ∧ p ≤ 7) (hA : SmR c A) (hR : SmR c R) (hc : c ≤ 100) (hl : A.length ≤ 100) :
    Calls Tryz.prog 290 #[.int .i64 p, av, bv, .int .i64 c] w (Ret w fun w' r => ∃ L, L.length = A.length ∧ SmR c L ∧ RowsO w.heap.size w' r L) := by
  obtain ⟨aa, capa, rfl, _, _⟩ := Sl.shape ha
  obtain ⟨ar, capr, rfl, _, _⟩ := Sl.shape hr
  have HL := Lib.hid (And.intro hA hR); clear hA hR
  go_enter Tryz.func290, Tryz.ntmps290
  go_wp2
  go_loopw [9, 10] (fun ov iv wr => ∃ (i : Nat) (v4 : Value) (L : List (List Int)), v4 = ov ∧ iv = .int .i64 i ∧ i ≤ A.length ∧ L.length = i ∧ SmR c L ∧ Ext w wr ∧ RowsO w.heap.size wr v4 L) (fun _ iv _ => A.length - (intOf iv).toNat)
  case atStart => exact ⟨0, _, [], rfl, rfl, by omega, rfl, (fun x hx => by cases hx), World.grownBy_alloc _ _ _, [], fun _ _ => False, rfl, World.ownsRow_lit w #[] 0 (Nat.le_refl _) (by decide) rfl, by simp, by simp, by simp⟩
  case round =>
    obtain ⟨i, v4, L, rfl, rfl, hi, hLi, hLs, hg, hO⟩ := hrel
    by_cases hlt : i < A.length
    · have hlt' : (i : Int) < A.length := by omega
      obtain ⟨b, off, a2, cap2, rfl, _, _, hcc, hri⟩ := Rows2.at (Rows2.ext ha hg) i hlt
      have hAi := HL.out.1 _ (gtMem hlt)
      have hRs : ∀ x ∈ R, Sm x := fun x hx => (HL.out.2 x hx).2
      have hcon := l02Times_ok wr p _ _ (gt A i) R c _ _ hri (Rows2.ext hr hg) hp hAi.2 hRs hc
      have htl : L.length ≤ 1000000 := by omega
      have HS := Lib.hid (And.intro hLi (And.intro hLs htl)); clear hLi hLs htl hAi hRs
      go_wp2_with fail
      refine Calls.mono hcon ?_
      rintro eC wC ⟨vC, rfl, hgC, l, hlc, hls, hOC⟩
      clear hcon
      have hYO : OwnIn (From wr.heap.size) wC vC l := OwnIn.of hOC (by omega) (fun j h1 _ => h1)
      obtain ⟨ay, capy, hvy, _, _⟩ := hYO.ints.shape
      subst hvy
      have HC := Lib.hid (And.intro hlc hls); clear hcc hlc hls
      go_wp2_with (first | (at_builtin; refine wp_app_row rfl _ _ rfl w.heap.size wr wC v4 _ L l rfl hO hgC hYO rfl rfl HS.out.2.2 hg.size ?_; intro v5 w5 hO5 hg5 hg6; have hgw5 := hO.extw hg (Nat.le_refl _) hg5) | fail)
      go_roundw
      case rel => exact ⟨i + 1, v5, L ++ [l], rfl, by go_num, by omega, by rw [List.length_append, HS.out.1]; rfl, fun x hx => by
        rcases List.mem_append.1 hx with h | h
        · exact HS.out.2.1 x h
        · rw [List.mem_singleton.1 h]; exact HC.out, hgw5, hO5⟩
      case measure => simp [intOf]; omega
    · have hie : i = A.length := by omega
      obtain ⟨az, capz, hvz, _, _⟩ := SlD.shape (hO.toD (by omega))
      subst hvz
      have hlt' : ¬ ((i : Int) < A.length) := by omega
      have HS := Lib.hid (And.intro hLi (And.intro hLs hie)); clear hLi hLs hie
      go_wp2
      go_ret
      exact ⟨_, rfl, hg, L, by rw [HS.out.1, HS.out.2.2], HS.out.2.1, hO⟩

end Go.Proofs.YtoakmefajbbggaaGreat
namespace Go.Proofs.YtoakmefajbbggaaGreat
open Go.RowKit
attribute [local go_sem ↓] Go.wp_at_zero Go.wp_at_succ

/-- letters over n generators -/
def LetW (n : Nat) (w : List Int) : Prop := ∀ x ∈ w, x ≠ 0 ∧ -n ≤ x ∧ x ≤ n
/-- a vector of n entries between 0 and M, or a fault -/
def VecR (n M B : Nat) (w' : World) (v : Value) : Prop := ∃ (a : Option Addr) (k c : Nat) (r : Bool), v = .tuple #[.slice a k c, .bool r] ∧ (r = true → ∃ l, l.length = n ∧ k = n ∧ (∀ x ∈ l, 0 ≤ x ∧ x ≤ (M : Int)) ∧ Own B w' (.slice a k c) l)

theorem i64_1000 (x : Int) (h : 0 ≤ x ∧ x ≤ 100000) : IntKind.i64.wrap x = x := IntWalk.i64_in _ (by omega)
theorem w64_1000 (x : Int) (h : 0 ≤ x ∧ x ≤ 100000) : wrap64 x = x := IntWalk.wrap64_in _ (by omega)

set_option maxRecDepth 100000 in
set_option maxHeartbeats 4000000 in
theorem l07Vector_ok (w : World) (n : Nat) (lv : Value) (L : List Int) (S : Nat → Prop) (hL : Ints S w lv L) (hw : LetW n L) (hn : n ≤ 100) (hl : L.length ≤ 1000) :
    Calls Tryz.prog 122 #[.int .i64 n, lv] w (Ret w (VecR n L.length w.heap.size)) := by
  obtain ⟨al, capl, rfl, _, _⟩ := hL.shape
  have HW := Lib.hid hw; clear hw
  go_enter Tryz.func122, Tryz.ntmps122
  go_wp2_with (at_make; refine wp_make_ints rfl _ _ rfl w.heap.size n w.heap.size rfl _ rfl rfl rfl (by omega) (Nat.le_refl _) ?_; intro w1 ho1 hg1 hlt1)
  go_loopw [7] (fun iv wr => ∃ (i : Nat) (l : List Int), iv = .int .i64 i ∧ i ≤ L.length ∧ l.length = n ∧ (∀ x ∈ l, 0 ≤ x ∧ x ≤ i) ∧ Ext w wr ∧ Own w.heap.size wr (.slice (some ⟨w.heap.size, 0, none⟩) n n) l) (fun iv _ => L.length - (intOf iv).toNat)
  case atStart => exact ⟨0, _, rfl, by omega, by simp, (fun x hx => by rw [List.eq_of_mem_replicate hx]; omega), hg1, ho1⟩
  case round =>
    clear ho1 hg1
    obtain ⟨i, l, rfl, hi, hln, hlb, hg, hO⟩ := hrel
    by_cases hlt : i < L.length
    · have hlt' : (i : Int) < L.length := by omega
      obtain ⟨b, off, rfl, _, _, hc⟩ := Ints.at (Ints.ext hL hg) i hlt
      have hx := HW.out _ (gtMem hlt)
      obtain ⟨x, hxe⟩ : ∃ x, x = gt L i := ⟨_, rfl⟩
      rw [← hxe] at hc hx
      clear hxe
      by_cases hneg : x < 0
      · have HL := Lib.hid (And.intro hln (And.intro hlb hx)); clear hln hlb hx
        go_wp2
        exact bodyPost_ret (v := .tuple #[.slice none 0 0, .bool false]) (by simp [results, Tryz.results122, go_sem]) rfl ⟨_, rfl, hg, none, 0, 0, false, rfl, fun h => by cases h⟩
      · obtain ⟨J, hJx⟩ := Int.eq_ofNat_of_zero_le (show 0 ≤ x - 1 by omega)
        obtain rfl : x = (J : Int) + 1 := by omega
        clear hJx
        have hJ : J < n := by omega
        have hJn : (J : Int) < n := by omega
        have hy := hlb _ (gtMem (show J < l.length by omega))
        have hco := hO.cell J (by omega)
        have hfo := hO.frozen J
        obtain ⟨y, hye⟩ : ∃ y, y = gt l J := ⟨_, rfl⟩
        rw [← hye] at hy hco
        obtain ⟨hO3, hgs⟩ := hO.store J (y + 1)
        have hgn := grown_own hg hgs (fun k hk hlt => by cases hk; omega)
        have hl3 : (l.set J (y + 1)).length = n := by rw [List.length_set]; exact hln
        have hb3 : ∀ z ∈ l.set J (y + 1), 0 ≤ z ∧ z ≤ ((i + 1 : Nat) : Int) := fun z hz => by
          rcases List.mem_or_eq_of_mem_set hz with h | h
          · have := hlb z h; omega
          · omega
        have hOd := hO3.ext0 (grown_drew (wr.setCell ⟨w.heap.size, J, none⟩ (.int .i64 (y + 1))) none)
        have hgd := grown_trans hgn (grown_drew (wr.setCell ⟨w.heap.size, J, none⟩ (.int .i64 (y + 1))) none)
        have hw1 := i64_1000 (J : Int) (by omega)
        have hw2 := i64_1000 (y + 1) (by clear hw1; omega)
        have hw3 := w64_1000 (J : Int) (by clear hw1 hw2; omega)
        have hw4 := w64_1000 (y + 1) (by clear hw1 hw2 hw3; omega)
        have HQ := Lib.hid (And.intro hOd (And.intro hgd (And.intro hl3 (And.intro hb3 (And.intro hw1 (And.intro hw2 (And.intro hw3 hw4))))))); clear hOd hgd hl3 hb3 hw1 hw2 hw3 hw4 hgs hgn hO3 hye hln hlb hx
        have c1 : wr.drew.cell? ⟨w.heap.size, J, none⟩ = some (.int .i64 y) := hco
        have c2 : wr.drew.cell? ⟨b, off + i, none⟩ = some (.int .i64 ((J : Int) + 1)) := hc
        have c3 : wr.drew.frozen? ⟨w.heap.size, J, none⟩ = false := hfo
        clear hco hfo hO
        go_wp2
        clear hc
        have hw1 := HQ.out.2.2.2.2.1
        have hw2 := HQ.out.2.2.2.2.2.1
        have hw3 := HQ.out.2.2.2.2.2.2.1
        have hw4 := HQ.out.2.2.2.2.2.2.2
        go_still_tail 16, (by kernel_rfl)
        change wpList _ _ _ _ _ wr.drew
        go_wp2
        clear hw1 hw2 hw3 hw4
        go_roundw
        case rel => exact ⟨i + 1, _, by go_num, by omega, HQ.out.2.2.1, HQ.out.2.2.2.1, HQ.out.2.1, HQ.out.1⟩
        case measure => simp [intOf]; omega
    · have hie : i = L.length := by omega
      subst hie
      have HL := Lib.hid (And.intro hln hlb); clear hln hlb
      go_wp2
      exact bodyPost_ret (v := .tuple #[.slice (some ⟨w.heap.size, 0, none⟩) n n, .bool true]) (by simp [results, Tryz.results122, go_sem]) rfl ⟨_, rfl, hg, _, _, _, true, rfl, fun _ => ⟨l, HL.out.1, rfl, HL.out.2, hO⟩⟩

end Go.Proofs.YtoakmefajbbggaaGreat
namespace Go.Proofs.YtoakmefajbbggaaGreat
open Go.RowKit
attribute [local go_sem ↓] Go.wp_at_zero Go.wp_at_succ

/-- a word over k letters, or a fault -/
def ParR (k M B : Nat) (w' : World) (v : Value) : Prop := ∃ (a : Option Addr) (n c : Nat) (r : Bool), v = .tuple #[.slice a n c, .bool r] ∧ (r = true → ∃ l, l.length ≤ M ∧ n = l.length ∧ LetW k l ∧ Own B w' (.slice a n c) l)

set_option maxRecDepth 100000 in
set_option maxHeartbeats 4000000 in
theorem l06Parse_ok (w : World) (k : Nat) (s : ByteArray) (hk : k ≤ 100) (hs : s.size ≤ 1000) :
    Calls Tryz.prog 292 #[.int .i64 k, .string s] w (Ret w (ParR k s.size w.heap.size)) := by
  rcases h1 : (s.toList == [49]) with _ | _
  case' true =>
    go_enter Tryz.func292, Tryz.ntmps292
    go_wp2
    exact bodyPost_ret (v := .tuple #[.slice (some ⟨w.heap.size, 0, none⟩) 0 0, .bool true]) (by simp [results, Tryz.results292, go_sem]) rfl ⟨_, rfl, World.grownBy_alloc _ _ _, _, _, _, true, rfl, fun _ => ⟨[], by simp, rfl, (fun x hx => by cases hx), World.ownsRow_lit w #[] 0 (Nat.le_refl _) (by decide) rfl⟩⟩
  go_enter Tryz.func292, Tryz.ntmps292
  go_wp2
  go_loopw [6, 7] (fun ov iv wr => ∃ (i : Nat) (l : List Int) (v4 : Value), v4 = ov ∧ iv = .int .i64 i ∧ i ≤ s.size ∧ l.length = i ∧ LetW k l ∧ Ext w wr ∧ Own w.heap.size wr v4 l) (fun _ iv _ => s.size - (intOf iv).toNat)
  case atStart => exact ⟨0, [], _, rfl, rfl, by omega, rfl, (fun x hx => by cases hx), World.grownBy_alloc _ _ _, World.ownsRow_lit w #[] 0 (Nat.le_refl _) (by decide) rfl⟩
  case round =>
    obtain ⟨i, l, v4, rfl, rfl, hi, hli, hlw, hg, hO⟩ := hrel
    by_cases hlt : i < s.size
    · have hlt' : (i : Int) < s.size := by omega
      have HL := Lib.hid (And.intro hli hlw); clear hli hlw
      go_wp2
      go_quiet (fail)
      rename_i nq
      generalize wrap64 (wrap64 (wrap64 (s[i].toNat : Int) - 97) + 1) = sm
      generalize wrap64 (wrap64 (wrap64 (s[i].toNat : Int) - 65) + 1) = lg
      obtain ⟨wq, hwq⟩ : ∃ wq, wq = wr.drewN nq := ⟨_, rfl⟩
      have hgq0 : Ext wr wq := by rw [hwq]; exact grown_drewN _ _ _
      rw [← hwq]
      have hgq := grown_trans hg hgq0
      have hOq := hO.ext0 hgq0
      clear hwq hgq0 hO hg
      have hl1 : l.length ≤ 1000000 := by have := HL.out.1; omega
      go_wp2_with fail
      refine Calls.mono (l01In_ok sm 1 k wq) ?_
      rintro _ _ ⟨rfl, rfl⟩
      rcases hb1 : inB sm 1 k with _ | _
      · go_wp2_with fail
        refine Calls.mono (l01In_ok lg 1 k wq) ?_
        rintro _ _ ⟨rfl, rfl⟩
        rcases hb2 : inB lg 1 k with _ | _
        · go_wp2
          exact bodyPost_ret (v := .tuple #[.slice none 0 0, .bool false]) (by simp [results, Tryz.results292, go_sem]) rfl ⟨_, rfl, hgq, none, 0, 0, false, rfl, fun h => by cases h⟩
        · have hlg : 1 ≤ lg ∧ lg ≤ k := by simpa [inB] using hb2
          have hneg : wrap64 (-lg) = -lg := IntWalk.wrap64_in _ (by omega)
          have HG := Lib.hid hlg; clear hlg hb1 hb2
          go_wp2_with (first | (at_builtin; refine wp_app_int rfl _ _ rfl w.heap.size v4 l (-lg) rfl wq hOq rfl rfl hl1 hgq.size ?_; intro v5 w5 hO5 hg5; have hgw5 := grown_own hgq hg5 (fun j hj hlt => by have := (hOq.lt j hj).1; omega)) | fail)
          clear hneg
          go_roundw
          case rel => exact ⟨i + 1, _, v5, rfl, by go_num, by omega, by rw [List.length_append, HL.out.1]; rfl, (fun x hx => by
            rcases List.mem_append.1 hx with h | h
            · exact HL.out.2 x h
            · rw [List.mem_singleton.1 h]; have := HG.out; omega), hgw5, hO5⟩
          case measure => simp [intOf]; omega
      · have hsm : 1 ≤ sm ∧ sm ≤ k := by simpa [inB] using hb1
        have HG := Lib.hid hsm; clear hsm hb1
        go_wp2_with (first | (at_builtin; refine wp_app_int rfl _ _ rfl w.heap.size v4 l sm rfl wq hOq rfl rfl hl1 hgq.size ?_; intro v5 w5 hO5 hg5; have hgw5 := grown_own hgq hg5 (fun j hj hlt => by have := (hOq.lt j hj).1; omega)) | fail)
        go_roundw
        case rel => exact ⟨i + 1, _, v5, rfl, by go_num, by omega, by rw [List.length_append, HL.out.1]; rfl, (fun x hx => by
          rcases List.mem_append.1 hx with h | h
          · exact HL.out.2 x h
          · rw [List.mem_singleton.1 h]; have := HG.out; omega), hgw5, hO5⟩
        case measure => simp [intOf]; omega
    · have hie : i = s.size := by omega
      have hlt' : ¬ ((i : Int) < s.size) := by omega
      obtain ⟨a8, c8, hv8, _⟩ := (hO.ints (by omega)).shape
      subst hv8
      have HL := Lib.hid (And.intro hli hlw); clear hli hlw hie
      go_wp2
      exact bodyPost_ret (v := .tuple #[.slice a8 l.length c8, .bool (decide ((0 : Int) < l.length))]) (by simp [results, Tryz.results292, go_sem]) rfl ⟨_, rfl, hg, a8, l.length, c8, _, rfl, fun _ => ⟨l, by have := HL.out.1; omega, rfl, HL.out.2, hO⟩⟩

end Go.Proofs.YtoakmefajbbggaaGreat
namespace Go.Proofs.YtoakmefajbbggaaGreat
open Go.RowKit

theorem und_strs : Tryz.prog.underlying 220 = some (.slice 9) := by kernel_rfl
theorem Tryz.infoStr : (Tryz.prog.info? 9).map (fun i => (i.zero, i.size, i.bytes)) = some (some (.string ⟨#[]⟩), 1, 16) := by kernel_rfl

/-- texts of bounded size in a row of the call's own -/
def StrsR (M B : Nat) (w' : World) (v : Value) : Prop := ∃ (a : Option Addr) (c : Nat) (ts : List ByteArray), v = .slice a ts.length c ∧ 1 ≤ ts.length ∧ ts.length ≤ M + 1 ∧ (∀ t ∈ ts, t.size ≤ M) ∧ OwnV B 9 w' (.slice a ts.length c) (ts.map Value.string)

theorem ext_size_le (s : ByteArray) (a b : Nat) (M : Nat) (h : s.size ≤ M) : (s.extract a b).size ≤ M := by
  simp [ByteArray.size_extract]; omega

set_option maxRecDepth 100000 in
set_option maxHeartbeats 4000000 in
theorem l01Split_ok (w : World) (s : ByteArray) (b : Int) (hs : s.size ≤ 1000) :
    Calls Tryz.prog 270 #[.string s, .int .u8 b] w (Ret w (StrsR s.size w.heap.size)) := by
  go_enter Tryz.func270, Tryz.ntmps270
  go_wp2
  go_loopw [5, 6, 7] (fun ov fv iv wr => ∃ (i f : Nat) (ts : List ByteArray) (v4 : Value), v4 = ov ∧ fv = .int .i64 f ∧ iv = .int .i64 i ∧ i ≤ s.size ∧ f ≤ i ∧ ts.length ≤ i ∧ (∀ t ∈ ts, t.size ≤ s.size) ∧ Ext w wr ∧ OwnV w.heap.size 9 wr v4 (ts.map Value.string)) (fun _ _ iv _ => s.size - (intOf iv).toNat)
  case atStart => exact ⟨0, 0, [], _, rfl, rfl, rfl, by omega, by omega, by simp, (fun x hx => by cases hx), World.grownBy_alloc _ _ _, World.ownsRow_lit w #[] 0 (Nat.le_refl _) (by decide) rfl⟩
  case round =>
    obtain ⟨i, f, ts, v4, rfl, rfl, rfl, hi, hf, htl, hts, hg, hO⟩ := hrel
    have hfi : (f : Int) ≤ i := by omega
    have hl1 : (ts.map Value.string).length ≤ 1000000 := by rw [List.length_map]; omega
    have HL := Lib.hid (And.intro htl (And.intro hts hl1)); clear htl hts hl1
    by_cases hlt : i < s.size
    · have hlt' : (i : Int) < s.size := by omega
      go_wp2_with (first | (at_builtin; refine wp_app_v 220 9 (.string ⟨#[]⟩) 16 und_strs Tryz.infoStr rfl (by decide) rfl _ _ rfl w.heap.size wr v4 _ (ts.map Value.string) rfl hO rfl rfl rfl HL.out.2.2 hg.size ?_; intro v5 w5 hO5 hg5; have hgw5 := grown_own hg hg5 (fun j hj hlt => by have := (hO.lt j hj).1; omega)) | fail)
      · go_roundw
        case rel => exact ⟨i + 1, i + 1, ts ++ [s.extract f i], v5, rfl, by go_num, by go_num, by omega, by omega, by rw [List.length_append, List.length_singleton]; have := HL.out.1; omega, (fun t ht => by
          rcases List.mem_append.1 ht with h | h
          · exact HL.out.2.1 t h
          · rw [List.mem_singleton.1 h]; exact ext_size_le s f i _ (Nat.le_refl _)), hgw5, by rw [List.map_append]; exact hO5⟩
        case measure => simp [intOf]; omega
      · go_roundw
        case rel => exact ⟨i + 1, f, ts, v4, rfl, rfl, by go_num, by omega, by omega, by have := HL.out.1; omega, HL.out.2.1, hg, hO⟩
        case measure => simp [intOf]; omega
    · have hlt' : ¬ ((i : Int) < s.size) := by omega
      go_wp2_with (first | (at_builtin; refine wp_app_v 220 9 (.string ⟨#[]⟩) 16 und_strs Tryz.infoStr rfl (by decide) rfl _ _ rfl w.heap.size wr v4 _ (ts.map Value.string) rfl hO rfl rfl rfl HL.out.2.2 hg.size ?_; intro v5 w5 hO5 hg5; have hgw5 := grown_own hg hg5 (fun j hj hlt => by have := (hO.lt j hj).1; omega)) | fail)
      have hll : (ts ++ [s.extract f s.size]).length = ts.length + 1 := by simp
      have hO6 : OwnV w.heap.size 9 w5 v5 ((ts ++ [s.extract f s.size]).map Value.string) := by rw [List.map_append]; exact hO5
      obtain ⟨a5, c5, rfl⟩ : ∃ a c, v5 = .slice a (ts ++ [s.extract f s.size]).length c := by
        rcases hO6.form with ⟨rfl, hn⟩ | ⟨g, cap, rfl, _, _, _⟩
        · have := congrArg List.length hn; simp at this
        · exact ⟨_, _, by rw [List.length_map]⟩
      go_ret
      exact ⟨_, rfl, hgw5, a5, c5, ts ++ [s.extract f s.size], rfl, by omega, by have := HL.out.1; omega, (fun t ht => by
          rcases List.mem_append.1 ht with h | h
          · exact HL.out.2.1 t h
          · rw [List.mem_singleton.1 h]; exact ext_size_le s f _ _ (Nat.le_refl _)), hO6⟩

end Go.Proofs.YtoakmefajbbggaaGreat
namespace Go.Proofs.YtoakmefajbbggaaGreat
open Go.RowKit
attribute [local go_sem ↓] Go.wp_at_zero Go.wp_at_succ

set_option maxRecDepth 100000 in
set_option maxHeartbeats 4000000 in
theorem l01Value_ok (w : World) (s : ByteArray) (hs : s.size ≤ 1000) :
    Calls Tryz.prog 291 #[.string s] w (Ret w fun _ v => ∃ x : Int, v = .int .i64 x) := by
  have hfin : (Ret w fun (_ : World) v => ∃ x : Int, v = .int .i64 x) (.returned (.int .i64 (-1))) w := ⟨_, rfl, Ext.refl _, _, rfl⟩
  by_cases h0 : s.size = 0
  · go_enter Tryz.func291, Tryz.ntmps291
    go_wp2
    go_ret
    exact ⟨_, rfl, Ext.refl _, _, rfl⟩
  by_cases h6 : 6 < s.size
  · go_enter Tryz.func291, Tryz.ntmps291
    go_wp2
    go_ret
    exact ⟨_, rfl, Ext.refl _, _, rfl⟩
  clear hfin
  go_enter Tryz.func291, Tryz.ntmps291
  go_wp2
  all_goals first
    | (go_ret; exact ⟨_, rfl, Ext.refl _, _, rfl⟩)
    | skip
  all_goals
    (try generalize (((s[0]'(by assumption)).toNat : Int) == 48) = z2)
    (try generalize (s[0]'(by assumption)).toNat = c0)
    (try generalize ((s.size : Int) == 0) = z0)
    (try generalize decide ((6 : Int) < s.size) = z1)
    go_loopw [3, 4] (fun nv iv wx => ∃ (i : Nat) (x : Int), nv = .int .i64 x ∧ iv = .int .i64 i ∧ i ≤ s.size ∧ wx = w) (fun _ iv _ => s.size - (intOf iv).toNat)
    case atStart => exact ⟨0, 0, rfl, rfl, by omega, rfl⟩
    case round =>
      obtain ⟨i, x, rfl, rfl, hi, rfl⟩ := hrel
      by_cases hlt : i < s.size
      · have hlt' : (i : Int) < s.size := by omega
        go_wp2
        all_goals first
          | (go_ret; exact ⟨_, rfl, Ext.refl _, _, rfl⟩)
          | skip
        all_goals
          go_roundw
          case rel => exact ⟨i + 1, _, rfl, by go_num, by omega, trivial⟩
          case measure => simp [intOf]; omega
      · have hlt' : ¬ ((i : Int) < s.size) := by omega
        go_wp2
        go_ret
        exact ⟨_, rfl, Ext.refl _, _, rfl⟩

end Go.Proofs.YtoakmefajbbggaaGreat
namespace Go.Proofs.YtoakmefajbbggaaGreat
open Go.RowKit

/-- at most 6 primes, or a fault -/
def OrdsR (B : Nat) (w' : World) (v : Value) : Prop := ∃ (a : Option Addr) (n c : Nat) (r : Bool), v = .tuple #[.slice a n c, .bool r] ∧ (r = true → ∃ o, n = o.length ∧ o.length ≤ 6 ∧ (∀ x ∈ o, primeB x = true) ∧ Own B w' (.slice a n c) o)

theorem StrsR.at {B : Nat} {w : World} {a : Option Addr} {c : Nat} {ts : List ByteArray} (h : OwnV B 9 w (.slice a ts.length c) (ts.map Value.string)) (i : Nat) (hi : i < ts.length) :
    ∃ b, a = some ⟨b, 0, none⟩ ∧ w.cell? ⟨b, i, none⟩ = some (.string (gt ts i)) := by
  rcases h.form with ⟨e, hn⟩ | ⟨g, cap, e, _, _, _⟩
  · have : ts = [] := by simpa using hn
    subst this; simp at hi
  · simp only [Value.slice.injEq] at e
    obtain ⟨rfl, _, _⟩ := e
    refine ⟨g, rfl, ?_⟩
    have := h.cell i (by rw [List.length_map]; exact hi)
    rw [gt_map _ _ _ hi] at this
    exact this

theorem prime_bd {x : Int} (h : primeB x = true) : 1 ≤ x ∧ x ≤ 7 := by
  unfold primeB at h; simp at h; omega

set_option maxRecDepth 100000 in
set_option maxHeartbeats 4000000 in
theorem l07Orders_ok (w : World) (s : ByteArray) (hs : s.size ≤ 1000) :
    Calls Tryz.prog 271 #[.string s] w (Ret w (OrdsR w.heap.size)) := by
  rcases h1 : (s.toList == [49]) with _ | _
  case' true =>
    go_enter Tryz.func271, Tryz.ntmps271
    go_wp2
    go_ret2
    exact ⟨_, rfl, World.grownBy_alloc _ _ _, _, _, _, true, rfl, fun _ => ⟨[], rfl, by simp, (fun x hx => by cases hx), World.ownsRow_lit w #[] 0 (Nat.le_refl _) (by decide) rfl⟩⟩
  go_enter Tryz.func271, Tryz.ntmps271
  go_wp2_with fail
  have hg0 : Ext w (w.alloc (.cells #[] 2)) := World.grownBy_alloc _ _ _
  have hS0 : (w.alloc (.cells #[] 2)).heap.size = w.heap.size + 1 := by simp
  have hS0 := Lib.hid hS0
  have hO0 : Own w.heap.size (w.alloc (.cells #[] 2)) (.slice (some ⟨w.heap.size, 0, none⟩) 0 0) [] := World.ownsRow_lit w #[] 0 (Nat.le_refl _) (by decide) rfl
  generalize w.alloc (.cells #[] 2) = w0 at *
  refine Calls.mono (l01Split_ok w0 s 32 hs) ?_
  rintro e1 w1 ⟨v1, rfl, hg1, a1, c1, ts, rfl, hl1, hlM, hts, hT⟩
  have hO1 := hO0.ext0 hg1
  have hg01 := grown_trans hg0 hg1
  have HL := Lib.hid (And.intro hl1 (And.intro hlM hts)); clear hl1 hlM hts hO0
  go_wp2_with fail
  go_loopw [4, 6] (fun ov iv wr => ∃ (i : Nat) (o : List Int) (v4 : Value), v4 = ov ∧ iv = .int .i64 i ∧ i ≤ ts.length ∧ o.length = i ∧ o.length ≤ 6 ∧ (∀ x ∈ o, primeB x = true) ∧ Ext w wr ∧ Own w.heap.size wr v4 o ∧ w1.grownBy wr (some w.heap.size) ∧ (∀ k, v4.ownBlock = some k → k = w.heap.size ∨ w1.heap.size ≤ k)) (fun _ iv _ => ts.length - (intOf iv).toNat)
  case atStart => exact ⟨0, [], _, rfl, rfl, by omega, rfl, by simp, (fun x hx => by cases hx), hg01, hO1, grown_refl _ _, fun k hk => .inl (own_blk hk)⟩
  case round =>
    clear hO1
    obtain ⟨i, o, v4, rfl, rfl, hi, hoi, ho6, hop, hg, hO, hgr, hob⟩ := hrel
    have ho1 : o.length ≤ 1000000 := by omega
    have HO := Lib.hid (And.intro hoi hop); clear hoi hop
    by_cases hlt : i < ts.length
    · have hlt' : (i : Int) < ts.length := by omega
      obtain ⟨b, rfl, hc0⟩ := StrsR.at hT i hlt
      have hbl := hT.lt b rfl
      have hs0 := hS0.out
      have hc := hgr.cell hc0 (by simp; omega)
      have hsz : (gt ts i).size ≤ 1000 := by have := HL.out.2.2 _ (gtMem hlt); omega
      clear hc0
      go_wp2_with fail
      refine Calls.mono (l01Value_ok wr (gt ts i) hsz) ?_
      rintro e2 w2 ⟨v2, rfl, hg2, x, rfl⟩
      have hO2 := hO.ext0 hg2
      have hgw2 := grown_trans hg hg2
      have hgr2 := grown_trans hgr (grown_of_ext _ hg2)
      have hsz2 := hgr2.size
      have HOB := Lib.hid (And.intro hob hbl); clear hob hbl
      clear hc hO
      go_wp2_with fail
      refine Calls.mono (l01Prime_ok x w2) ?_
      rintro _ _ ⟨rfl, rfl⟩
      rcases hp : primeB x with _ | _
      · go_wp2_with fail
        go_ret2
        exact ⟨_, rfl, hgw2, none, 0, 0, false, rfl, fun h => by cases h⟩
      · by_cases h6 : 6 ≤ i
        · have h6' : (6 : Int) ≤ i := by omega
          go_wp2_with fail
          go_ret2
          exact ⟨_, rfl, hgw2, none, 0, 0, false, rfl, fun h => by cases h⟩
        · have h6' : ¬ (6 : Int) ≤ i := by omega
          go_wp2_with (first | (at_builtin; refine wp_app_intb rfl _ _ rfl w.heap.size v4 o x rfl w2 hO2 rfl rfl ho1 hgw2.size ?_; intro v5 w5 hO5 hg5 hb5; have hgw5 := grown_own hgw2 hg5 (fun j hj hlt => by have := (hO2.lt j hj).1; omega)) | fail)
          have hgr5 : w1.grownBy w5 (some w.heap.size) := grown_own hgr2 hg5 (fun j hj hlt => by rcases HOB.out.1 j hj with h | h; rw [h]; omega)
          have hll : (o ++ [x]).length = o.length + 1 := by simp
          go_roundw
          case rel => exact ⟨i + 1, o ++ [x], v5, rfl, by go_num, by omega, by have := HO.out.1; omega, by have := HO.out.1; omega, (fun y hy => by
            rcases List.mem_append.1 hy with h | h
            · exact HO.out.2 y h
            · rw [List.mem_singleton.1 h]; exact hp), hgw5, hO5, hgr5, (fun k hk => by
              rcases hb5 with h | h
              · rw [h] at hk; exact HOB.out.1 k hk
              · have := h k hk; omega)⟩
          case measure => simp [intOf]; omega
    · have hlt' : ¬ ((i : Int) < ts.length) := by omega
      have hcon := l07Product_ok wr v4 o _ (hO.ints (by omega)) (fun j hj => prime_bd (HO.out.2 _ (gtMem hj)))
      go_wp2_with fail
      refine Calls.mono hcon ?_
      rintro _ _ ⟨rfl, rfl⟩
      clear hcon
      obtain ⟨a4, c4, hv4, _⟩ := (hO.ints (by omega)).shape
      subst hv4
      go_wp2_with fail
      go_ret2
      exact ⟨_, rfl, hg, _, _, _, _, rfl, fun _ => ⟨o, rfl, ho6, HO.out.2, hO⟩⟩

end Go.Proofs.YtoakmefajbbggaaGreat
namespace Go.Proofs.YtoakmefajbbggaaGreat
open Go.RowKit

/-- the bytes as cells -/
def byV (l : List Int) : List Value := l.map (Value.int .u8)

theorem und_bytes : Tryz.prog.underlying 22 = some (.slice 5) := by kernel_rfl
theorem und_byte : Tryz.prog.underlying 5 = some (.int .u8) := by kernel_rfl
theorem und_str : Tryz.prog.underlying 9 = some .string := by kernel_rfl
theorem Tryz.infoByte : (Tryz.prog.info? 5).map (fun i => (i.zero, i.size, i.bytes)) = some (some (.int .u8 0), 1, 1) := by kernel_rfl

theorem conv_bytes {B : Nat} {w : World} {v : Value} {l : List Int} (h : OwnV B 5 w v (byV l)) : (convert 22 9 v).run Tryz.prog w = .ok (.string (strOfNums l)) w := by
  rcases h.form with ⟨rfl, h2⟩ | ⟨g, cap, rfl, _⟩
  · have : l = [] := by unfold byV at h2; rw [List.map_eq_nil_iff] at h2; exact h2
    subst this
    rw [run_convert_bytes_nil w _ _ und_bytes und_byte 0 0 _ und_str]
    rfl
  · have hl : (byV l).length = l.length := by unfold byV; rw [List.length_map]
    rw [hl]
    refine run_convert_bytes_arg w _ _ und_bytes und_byte g 0 l.length cap l rfl (fun i hi => ?_) _ und_str
    have := h.cell i (by rw [hl]; exact hi)
    rw [Nat.zero_add, this]
    unfold byV
    rw [gt_map _ _ _ hi]; rfl

end Go.Proofs.YtoakmefajbbggaaGreat
namespace Go.Proofs.YtoakmefajbbggaaGreat
open Go.RowKit

/-- the letter of a generator or its inverse -/
def letN (x : Int) : Int := if 0 < x then 96 + x else 64 - x
/-- the text of a word -/
def wtx (W : List Int) : List Int := if W = [] then [49] else W.map letN
theorem wtx_len (W : List Int) (n : Nat) (h : W.length ≤ n) : (wtx W).length ≤ n + 1 := by
  unfold wtx; split <;> simp; omega

theorem wp_app_byte {ops : Array Oper} {rest : List Oper} {o : Oper} {a : Act} {Q : Exit → Act → World → Prop} {w : World} (hgd : o.guard = none) (s x : Operand)
    (ho : o.op = Op.call { callee := Callee.builtin Builtin.append, args := #[s, x], argTypes := #[22, 22] }) (B : Nat) (v : Value) (l : List Int) (y : Int) (hs : a.eval s = v) (w2 : World) (hown : OwnV B 5 w2 v (byV l))
    (hw : w = w2.alloc (.cells #[.int .u8 y] 5)) (hx : a.eval x = .slice (some ⟨w2.heap.size, 0, none⟩) 1 1) (hlen : l.length ≤ 1000000) (hbase : B ≤ w2.heap.size)
    (h : ∀ v' w', OwnV B 5 w' v' (byV (l ++ [y])) → w2.grownBy w' v.ownBlock → wpList Tryz.prog ops Q rest (a.put o.dst v') w') :
    wpList Tryz.prog ops Q (o :: rest) a w :=
  wp_app_v 22 5 (.int .u8 0) 1 und_bytes Tryz.infoByte rfl (by decide) hgd s x ho B w2 v (.int .u8 y) (byV l) hs hown hw rfl hx (by unfold byV; rw [List.length_map]; exact hlen) hbase
    (fun v' w' h1 h2 => h v' w' (by unfold byV at h1 ⊢; rw [List.map_append]; exact h1) h2)

theorem u8_in (x : Int) (h : 0 ≤ x ∧ x ≤ 255) : IntKind.u8.wrap x = x := by
  simp only [IntKind.wrap, IntKind.signed, IntKind.bits]
  simp; omega

set_option maxRecDepth 100000 in
set_option maxHeartbeats 4000000 in
theorem l06Text_ok (w : World) (v : Value) (W : List Int) (S : Nat → Prop) (hW : Ints S w v W) (hb : ∀ x ∈ W, -26 ≤ x ∧ x ≤ 26) (hl : W.length ≤ 1000) :
    Calls Tryz.prog 295 #[v] w (Ret w fun _ r => r = .string (strOfNums (wtx W))) := by
  obtain ⟨a, cap, rfl, _, _⟩ := hW.shape
  by_cases h0 : W.length = 0
  · have hn : W = [] := List.eq_nil_of_length_eq_zero h0
    subst hn
    go_enter Tryz.func295, Tryz.ntmps295
    go_wp2
    go_ret
    exact ⟨_, rfl, Ext.refl _, rfl⟩
  have hz : ((W.length : Int) == 0) = false := by simp; intro h; apply h0; rw [h]; rfl
  have hwt : wtx W = W.map letN := by unfold wtx; rw [if_neg (fun h => h0 (by rw [h]; rfl))]
  have HB := Lib.hid (And.intro hb hwt); clear hb hwt h0
  go_enter Tryz.func295, Tryz.ntmps295
  go_wp2
  go_loopw [3, 4] (fun ov iv wr => ∃ (i : Nat) (v4 : Value), v4 = ov ∧ iv = .int .i64 i ∧ i ≤ W.length ∧ Ext w wr ∧ OwnV w.heap.size 5 wr v4 (byV ((W.take i).map letN))) (fun _ iv _ => W.length - (intOf iv).toNat)
  case atStart => exact ⟨0, _, rfl, rfl, by omega, World.grownBy_alloc _ _ _, World.ownsRow_lit w #[] 0 (Nat.le_refl _) (by decide) rfl⟩
  case round =>
    obtain ⟨i, v4, rfl, rfl, hi, hg, hO⟩ := hrel
    by_cases hlt : i < W.length
    · have hlt' : (i : Int) < W.length := by omega
      obtain ⟨b, off, rfl, _, _, hc⟩ := Ints.at (Ints.ext hW hg) i hlt
      have hx := HB.out.1 _ (gtMem hlt)
      have hst : (W.take (i + 1)).map letN = (W.take i).map letN ++ [letN (gt W i)] := by rw [take_succ_gt W i hlt, List.map_append]; rfl
      have hll : ((W.take i).map letN).length ≤ 1000000 := by rw [List.length_map, List.length_take]; omega
      obtain ⟨x, hxe⟩ : ∃ x, x = gt W i := ⟨_, rfl⟩
      rw [← hxe] at hx hst hc
      clear hxe
      by_cases hp : 0 < x
      · have hle : letN x = 97 + x - 1 := by unfold letN; rw [if_pos hp]; omega
        rw [hle] at hst
        have hu : IntKind.u8.wrap (97 + x - 1) = 97 + x - 1 := u8_in _ (by omega)
        have HS := Lib.hid (And.intro hst hll); clear hst hll hle
        go_wp2_with (first | (at_builtin; refine wp_app_byte rfl _ _ rfl w.heap.size v4 ((W.take i).map letN) (97 + x - 1) rfl wr hO rfl rfl HS.out.2 hg.size ?_; intro v5 w5 hO5 hg5; have hgw5 := grown_own hg hg5 (fun j hj hlt => by have := (hO.lt j hj).1; omega)) | fail)
        clear hu
        go_roundw
        case rel => exact ⟨i + 1, v5, rfl, by go_num, by omega, hgw5, by rw [HS.out.1]; exact hO5⟩
        case measure => simp [intOf]; omega
      · have hle : letN x = 65 - x - 1 := by unfold letN; rw [if_neg hp]; omega
        rw [hle] at hst
        have hu : IntKind.u8.wrap (65 - x - 1) = 65 - x - 1 := u8_in _ (by omega)
        have HS := Lib.hid (And.intro hst hll); clear hst hll hle
        go_wp2_with (first | (at_builtin; refine wp_app_byte rfl _ _ rfl w.heap.size v4 ((W.take i).map letN) (65 - x - 1) rfl wr hO rfl rfl HS.out.2 hg.size ?_; intro v5 w5 hO5 hg5; have hgw5 := grown_own hg hg5 (fun j hj hlt => by have := (hO.lt j hj).1; omega)) | fail)
        clear hu
        go_roundw
        case rel => exact ⟨i + 1, v5, rfl, by go_num, by omega, hgw5, by rw [HS.out.1]; exact hO5⟩
        case measure => simp [intOf]; omega
    · have hie : i = W.length := by omega
      subst hie
      rw [List.take_length] at hO
      have hcv := conv_bytes hO
      go_wp2
      go_ret
      exact ⟨_, rfl, hg, by rw [HB.out.2]; rfl⟩

set_option maxHeartbeats 4000000 in
theorem l07Letter_ok (w : World) (i : Nat) (hi : i < 26) :
    Calls Tryz.prog 294 #[.int .i64 i] w (Ret w fun _ r => r = .string (strOfNums [97 + (i : Int)])) := by
  have hw2 : IntKind.i64.wrap ((i : Int) + 1) = (i : Int) + 1 := IntWalk.i64_in _ (by omega)
  have hlt : wtx [(i : Int) + 1] = [97 + (i : Int)] := by
    unfold wtx; rw [if_neg (by simp)]
    simp only [List.map_cons, List.map_nil, letN]
    rw [if_pos (by omega), show (96 : Int) + ((i : Int) + 1) = 97 + (i : Int) by omega]
  have hI : Ints Any (w.alloc (.cells #[.int .i64 ((i : Int) + 1)] 2)) (.slice (some ⟨w.heap.size, 0, none⟩) 1 1) [(i : Int) + 1] :=
    ints_of_own (show Own 0 _ _ [(i : Int) + 1] from World.ownsRow_lit w #[.int .i64 ((i : Int) + 1)] 1 (Nat.zero_le _) (by decide) rfl) (by simp) (fun _ _ => trivial)
  have hcon := l06Text_ok _ _ [(i : Int) + 1] Any hI (fun x hx => by simp at hx; omega) (by simp)
  rw [hlt] at hcon
  have HC := Lib.hid hcon; clear hcon hlt hI
  go_enter Tryz.func294, Tryz.ntmps294
  go_wp2_with fail
  refine Calls.mono HC.out ?_
  rintro e1 w1 ⟨v1, rfl, hg1, rfl⟩
  clear hw2
  go_wp2
  go_ret
  exact ⟨_, rfl, grown_trans (World.grownBy_alloc _ _ _) hg1, rfl⟩

set_option maxHeartbeats 4000000 in
theorem l01Dec_ok (w : World) (n : Int) (h0 : 0 ≤ n) (h9 : n < 10) :
    Calls Tryz.prog 293 #[.int .i64 n] w (Ret w fun _ r => r = .string (strOfNums [48 + n])) := by
  have hu : IntKind.u8.wrap (48 + n) = 48 + n := u8_in _ (by omega)
  have hcv : ∀ w0 : World, (convert 22 9 (.slice (some ⟨w0.heap.size, 0, none⟩) 1 1)).run Tryz.prog (w0.alloc (.cells #[.int .u8 (48 + n)] 5)) = .ok (.string (strOfNums [48 + n])) (w0.alloc (.cells #[.int .u8 (48 + n)] 5)) := fun w0 =>
    conv_bytes (B := 0) (l := [48 + n]) (World.ownsRow_lit w0 #[.int .u8 (48 + n)] 1 (Nat.zero_le _) (by decide) rfl)
  go_enter Tryz.func293, Tryz.ntmps293
  go_wp2
  go_ret
  exact ⟨_, rfl, World.grownBy_alloc _ _ _, rfl⟩

end Go.Proofs.YtoakmefajbbggaaGreat
namespace Go.Proofs.YtoakmefajbbggaaGreat
open Go.RowKit
attribute [local go_sem ↓] Go.wp_at_zero Go.wp_at_succ

/-- some presentation with the same orders, and whether a relation was read -/
def RelR (F : Nat → Prop) (B : Nat) (P : Pr) (w' : World) (v : Value) : Prop := ∃ (vo vp vc : Value) (r : Bool) (Q : Pr), v = .tuple #[.agg #[vo, vp, vc], .bool r] ∧ Shp 6 Q ∧ Q.orders = P.orders ∧ Pres3 (fun k => F k ∨ B ≤ k) w' vo vp vc Q

theorem rel_ret {w w1 : World} {F F' : Nat → Prop} {br : Nat} {x y z : Value} {P Q : Pr} {r : Bool} (hgw : Ext w w1) (hbr : w.heap.size ≤ br) (h3 : Pres3 F' w1 x y z Q) (hF : ∀ k, F' k → k < w1.heap.size → (F k ∨ w.heap.size ≤ k) ∧ k ≠ br) (hS : Shp 6 Q) (ho : Q.orders = P.orders) :
    Ret w (RelR F w.heap.size P) (.returned (.tuple #[.agg #[x, y, z], .bool r])) (((w1.setCell ⟨br, 0, none⟩ x).setCell ⟨br, 1, none⟩ y).setCell ⟨br, 2, none⟩ z) := by
  have hT := grown_set3 w1 br x y z
  exact ⟨_, rfl, grown_own hgw hT (fun j hj hlt => by cases hj; omega), x, y, z, r, Q, rfl, hS, ho, h3.mono (fun k hk hlt => ⟨(hF k hk hlt).1, Nat.lt_of_lt_of_le hlt hT.size, hT.block k hlt (fun e => (hF k hk hlt).2 (by cases e; rfl))⟩)⟩
/-- p itself is handed back -/
theorem relP_ret {w w1 : World} {F : Nat → Prop} {br : Nat} {x y z : Value} {P : Pr} {r : Bool} (hgw : Ext w w1) (hbr : w.heap.size ≤ br) (h3 : Pres3 F w x y z P) (hS : Shp 6 P) :
    Ret w (RelR F w.heap.size P) (.returned (.tuple #[.agg #[x, y, z], .bool r])) (((w1.setCell ⟨br, 0, none⟩ x).setCell ⟨br, 1, none⟩ y).setCell ⟨br, 2, none⟩ z) :=
  rel_ret hgw hbr (F' := fun k => F k ∧ k < w.heap.size) (h3.mono (fun k hk hlt => ⟨⟨hk, hlt⟩, Nat.lt_of_lt_of_le hlt hgw.size, hgw.block k hlt (by simp)⟩)) (fun k hk _ => ⟨.inl hk.1, by omega⟩) hS rfl

set_option maxRecDepth 100000 in
set_option maxHeartbeats 8000000 in
theorem l07Relation_ok (w : World) (pv : Value) (P : Pr) (F : Nat → Prop) (s : ByteArray) (hp : PresV F w pv P) (hS : Shp 6 P) (hpr : ∀ x ∈ P.orders, primeB x = true) (hs : s.size ≤ 1000) :
    Calls Tryz.prog 272 #[pv, .string s] w (Ret w (RelR F w.heap.size P)) := by
  obtain ⟨vo, vp, vc, rfl, h3⟩ := hp
  obtain ⟨ao, co, hvo, _, _⟩ := h3.o.shape
  obtain ⟨ap, cp, hvp, _, _⟩ := Sl.shape h3.p
  obtain ⟨ac, cc, hvc, _, _⟩ := Sl.shape h3.c
  rw [hS.p] at hvp
  rw [hS.c] at hvc
  subst hvo hvp hvc
  obtain ⟨n, hn⟩ : ∃ n, n = P.orders.length := ⟨_, rfl⟩
  rw [← hn] at h3
  rw [← hn]
  have hn6 : n ≤ 6 := by rw [hn]; exact hS.n
  have hgA : Ext w (w.alloc (.cells #[.slice ao n co, .slice ap n cp, .slice ac n cc] 28)) := World.grownBy_alloc _ _ _
  have hsA : (w.alloc (.cells #[.slice ao n co, .slice ap n cp, .slice ac n cc] 28)).heap.size = w.heap.size + 1 := by simp
  have hbA := Box3.made w 28 (.slice ao n co) (.slice ap n cp) (.slice ac n cc)
  have HH := Lib.hid (And.intro hS (And.intro hpr hn)); clear hS hpr hn
  go_enter Tryz.func272, Tryz.ntmps272
  go_wp2_with fail
  generalize w.alloc (.cells #[.slice ao n co, .slice ap n cp, .slice ac n cc] 28) = wA at *
  have hgB : Ext wA (wA.alloc (.cells #[.slice none 0 0, .slice none 0 0, .slice none 0 0] 28)) := World.grownBy_alloc _ _ _
  have hbB := Box3.made wA 28 (.slice none 0 0) (.slice none 0 0) (.slice none 0 0)
  have hbA := hbA.ext hgB
  have hg0 := grown_trans hgA hgB
  have hsB : (wA.alloc (.cells #[.slice none 0 0, .slice none 0 0, .slice none 0 0] 28)).heap.size = w.heap.size + 2 := by simp [hsA]
  rw [hsA] at hbB
  generalize wA.alloc (.cells #[.slice none 0 0, .slice none 0 0, .slice none 0 0] 28) = w0 at *
  clear hgB hgA
  refine Calls.mono (l01Split_ok w0 s 61 hs) ?_
  rintro e1 w1 ⟨v1, rfl, hg1, av, cv, ts, rfl, hl1, hlM, hts, hT⟩
  have hgw := grown_trans hg0 hg1
  have hbA1 := hbA.ext hg1
  have hbB1 := hbB.ext hg1
  obtain ⟨a0, a1, a2, a3, a4⟩ := id hbA1
  obtain ⟨b0, b1, b2, b3, b4⟩ := id hbB1
  have hZ1 := hbB1.all (.slice ao n co) (.slice ap n cp) (.slice ac n cc)
  obtain ⟨-, z0, z1, z2, -⟩ := id hZ1
  have hs12 : w.heap.size + 2 ≤ w1.heap.size := by have := hg1.size; omega
  have HL := Lib.hid (And.intro hlM (And.intro hts hsB)); clear hlM hts hsB hZ1 hbA hbB
  by_cases ht2 : ts.length = 2
  case neg =>
    have ht2' : ((ts.length : Int) != 2) = true := by simp; omega
    clear ht2
    go_wp2_with fail
    refine bodyPost_ret (v := .tuple #[.agg #[.slice ao n co, .slice ap n cp, .slice ac n cc], .bool false]) (by simp [results, Tryz.results272, go_sem, z0, z1, z2]) rfl ?_
    exact relP_ret hgw (by omega) h3 HH.out.1
  obtain ⟨bt, rfl, hc0⟩ := StrsR.at hT 0 (by omega)
  obtain ⟨_, hbt, hc1⟩ := StrsR.at hT 1 (by omega)
  cases hbt
  have hm0 := HL.out.2.1 _ (gtMem (show 0 < ts.length by omega))
  have hm1 := HL.out.2.1 _ (gtMem (show 1 < ts.length by omega))
  obtain ⟨t0, ht0⟩ : ∃ t0, t0 = gt ts 0 := ⟨_, rfl⟩
  obtain ⟨t1, ht1⟩ : ∃ t1, t1 = gt ts 1 := ⟨_, rfl⟩
  rw [← ht0] at hc0 hm0
  rw [← ht1] at hc1 hm1
  have hbtl := (hT.lt bt rfl).2
  clear hT ht0 ht1 HL
  rw [ht2]
  clear ht2 hl1
  by_cases h4 : t0.size = 4
  case neg =>
    have h4' : ((t0.size : Int) != 4) = true := by simp; omega
    clear h4
    go_wp2_with fail
    refine bodyPost_ret (v := .tuple #[.agg #[.slice ao n co, .slice ap n cp, .slice ac n cc], .bool false]) (by simp [results, Tryz.results272, go_sem, z0, z1, z2]) rfl ?_
    exact relP_ret hgw (by omega) h3 HH.out.1
  have h4' : ((t0.size : Int) != 4) = false := by simp; omega
  have h40 : 0 < t0.size := by omega
  have h42 : 2 < t0.size := by omega
  rcases hq0 : ((((t0[0]'(h40)).toNat : Nat) : Int) != 32) with _ | _
  case' true =>
    go_wp2_with fail
    refine bodyPost_ret (v := .tuple #[.agg #[.slice ao n co, .slice ap n cp, .slice ac n cc], .bool false]) (by simp [results, Tryz.results272, go_sem, z0, z1, z2]) rfl ?_
    exact relP_ret hgw (by omega) h3 HH.out.1
  rcases hq2 : ((((t0[2]'(h42)).toNat : Nat) : Int) != 94) with _ | _
  case' true =>
    go_wp2_with fail
    refine bodyPost_ret (v := .tuple #[.agg #[.slice ao n co, .slice ap n cp, .slice ac n cc], .bool false]) (by simp [results, Tryz.results272, go_sem, z0, z1, z2]) rfl ?_
    exact relP_ret hgw (by omega) h3 HH.out.1
  go_wp2_with fail
  refine Calls.mono (l06Parse_ok w1 n t1 (by omega) (by omega)) ?_
  rintro e2 w2 ⟨v2, rfl, hg2, aw, nw, cw, r2, rfl, hW2⟩
  clear a0 a1 a2 a3 a4 b0 b1 b2 b3 b4 z0 z1 z2
  have hbA2 := hbA1.ext hg2
  have hbB2 := hbB1.ext hg2
  clear hbA1 hbB1
  obtain ⟨a0, a1, a2, a3, a4⟩ := id hbA2
  obtain ⟨b0, b1, b2, b3, b4⟩ := id hbB2
  have hZ2 := hbB2.all (.slice ao n co) (.slice ap n cp) (.slice ac n cc)
  obtain ⟨-, z0, z1, z2, -⟩ := id hZ2
  clear hZ2
  have hgw2 := grown_trans hgw hg2
  have hc02 := hg2.cell hc0 (by simp)
  clear hc0 hc1
  cases r2
  case' false =>
    go_wp2_with fail
    refine bodyPost_ret (v := .tuple #[.agg #[.slice ao n co, .slice ap n cp, .slice ac n cc], .bool false]) (by simp [results, Tryz.results272, go_sem, z0, z1, z2]) rfl ?_
    exact relP_ret hgw2 (by omega) h3 HH.out.1
  obtain ⟨W, hWl, hnw, hWm, hOW⟩ := hW2 rfl
  subst hnw
  clear hW2
  have HW := Lib.hid (And.intro hWm hWl); clear hWm hWl
  go_wp2_with fail
  refine Calls.mono (l07Vector_ok w2 n _ W _ (hOW.ints (by have := HW.out.2; omega)) HW.out.1 (by omega) (by have := HW.out.2; omega)) ?_
  rintro e3 w3 ⟨v3, rfl, hg3, ax, nx, cx, r3, rfl, hV3⟩
  clear a0 a1 a2 a3 a4 b0 b1 b2 b3 b4 z0 z1 z2
  have hbA3 := hbA2.ext hg3
  have hbB3 := hbB2.ext hg3
  clear hbA2 hbB2
  obtain ⟨a0, a1, a2, a3, a4⟩ := id hbA3
  obtain ⟨b0, b1, b2, b3, b4⟩ := id hbB3
  have hZ3 := hbB3.all (.slice ao n co) (.slice ap n cp) (.slice ac n cc)
  obtain ⟨-, z0, z1, z2, -⟩ := id hZ3
  clear hZ3
  have hgw3 := grown_trans hgw2 hg3
  have hc03 := hg3.cell hc02 (by simp)
  clear hc02 hOW
  have h41 : 1 < t0.size := by omega
  have h43 : 3 < t0.size := by omega
  go_wp2_with fail
  go_quiet (fail)
  rename_i nq
  have hg4 : Ext w3 (w3.drewN nq) := grown_drewN _ _ _
  clear a0 a1 a2 a3 a4 b0 b1 b2 b3 b4 z0 z1 z2
  generalize w3.drewN nq = w4 at *
  generalize wrap64 (wrap64 ((t0[1]'(h41)).toNat : Int) - 97) = x
  generalize wrap64 (wrap64 ((t0[3]'(h43)).toNat : Int) - 97) = y
  have hbA4 := hbA3.ext hg4
  have hbB4 := hbB3.ext hg4
  clear hbA3 hbB3
  obtain ⟨a0, a1, a2, a3, a4⟩ := id hbA4
  obtain ⟨b0, b1, b2, b3, b4⟩ := id hbB4
  have hZ4 := hbB4.all (.slice ao n co) (.slice ap n cp) (.slice ac n cc)
  obtain ⟨-, z0, z1, z2, -⟩ := id hZ4
  clear hZ4
  have hgw4 := grown_trans hgw3 hg4
  have hc04 := hg4.cell hc03 (by simp)
  clear hc03
  cases r3
  case' false =>
    go_wp2_with fail
    refine bodyPost_ret (v := .tuple #[.agg #[.slice ao n co, .slice ap n cp, .slice ac n cc], .bool false]) (by simp [results, Tryz.results272, go_sem, z0, z1, z2]) rfl ?_
    exact relP_ret hgw4 (by omega) h3 HH.out.1
  obtain ⟨V, hVl, hnx, hVb, hOV⟩ := hV3 rfl
  have hnx := hnx.symm
  subst hnx
  have hOV4 := hOV.ext0 hg4
  clear hV3 hOV
  by_cases hx0 : x < 0
  case' pos =>
    go_wp2_with fail
    refine bodyPost_ret (v := .tuple #[.agg #[.slice ao n co, .slice ap n cp, .slice ac n cc], .bool false]) (by simp [results, Tryz.results272, go_sem, z0, z1, z2]) rfl ?_
    exact relP_ret hgw4 (by omega) h3 HH.out.1
  by_cases hxn : (n : Int) ≤ x
  case' pos =>
    go_wp2_with fail
    refine bodyPost_ret (v := .tuple #[.agg #[.slice ao n co, .slice ap n cp, .slice ac n cc], .bool false]) (by simp [results, Tryz.results272, go_sem, z0, z1, z2]) rfl ?_
    exact relP_ret hgw4 (by omega) h3 HH.out.1
  obtain ⟨X, rfl⟩ := Int.eq_ofNat_of_zero_le (show 0 ≤ x by omega)
  have hXn : (X : Int) < n := by omega
  have h3_4 := h3.mono (frame_of hgw4 (fun k hk _ => ⟨hk, by simp⟩))
  have hh3 : Pres3 F w4 (.slice ao n co) (.slice ap n cp) (.slice ac n cc) P := h3_4
  clear h3_4 hnx
  have HV := Lib.hid (And.intro hVl (And.intro hVb hOV4)); clear hVl hVb hOV4
  go_wp2_with fail
  clear a0 a1 a2 a3 a4 b0 b1 b2 b3 b4 z0 z1 z2
  refine Calls.mono (l07Own_ok w4 _ P F 6 ⟨_, _, _, rfl, hh3⟩ HH.out.1 (by omega)) ?_
  rintro e5 w5 ⟨v5, rfl, hg5, qo, qp, qc, rfl, hX5⟩
  obtain ⟨ao2, co2, ap2, cp2, ac2, cc2, e1, e2, e3⟩ := hX5.shape
  rw [HH.out.1.p] at e2
  rw [HH.out.1.c] at e3
  rw [← HH.out.2.2] at e1 e2 e3
  subst e1 e2 e3
  have hgq : Ext w5 (w5.alloc (.cells #[.slice ao2 n co2, .slice ap2 n cp2, .slice ac2 n cc2] 28)) := World.grownBy_alloc _ _ _
  have hbQ := Box3.made w5 28 (.slice ao2 n co2) (.slice ap2 n cp2) (.slice ac2 n cc2)
  have hs5 := hg5.size
  have hX6 : PresX (fun k => w4.heap.size ≤ k ∧ k < w5.heap.size) (w5.alloc (.cells #[.slice ao2 n co2, .slice ap2 n cp2, .slice ac2 n cc2] 28)) (.slice ao2 n co2) (.slice ap2 n cp2) (.slice ac2 n cc2) P := hX5.mono (fun k hk hlt => ⟨⟨hk, hlt⟩, Nat.lt_of_lt_of_le hlt hgq.size, hgq.block k hlt (by simp)⟩)
  have hg46 := grown_trans hg5 hgq
  go_wp2_with fail
  generalize w5.alloc (.cells #[.slice ao2 n co2, .slice ap2 n cp2, .slice ac2 n cc2] 28) = w6 at *
  clear hX5 hg5 hgq
  have hbA6 := hbA4.ext hg46
  have hbB6 := hbB4.ext hg46
  have hgw6 := grown_trans hgw4 hg46
  have hc06 := hg46.cell hc04 (by simp)
  obtain ⟨bo, oo, hao, _, hbl, hco⟩ := Ints.at (hh3.o.ext hg46) X (by rw [← HH.out.2.2]; omega)
  subst hao
  have hop := HH.out.2.1 _ (gtMem (show X < P.orders.length by rw [← HH.out.2.2]; omega))
  obtain ⟨o, ho⟩ : ∃ o, o = gt P.orders X := ⟨_, rfl⟩
  rw [← ho] at hco hop
  have ho7 := prime_bd hop
  clear ho hop hbA4 hbB4 hc04
  have f1 : ∀ w', Ext w6 w' → w'.cell? ⟨w.heap.size, 0, none⟩ = some (.slice (some ⟨bo, oo, none⟩) n co) := fun w' h => (hbA6.ext h).2.1
  have f2 : ∀ w', Ext w6 w' → w'.cell? ⟨bo, oo + X, none⟩ = some (.int .i64 o) := fun w' h => h.cell hco (by simp)
  have f3 : ∀ w', Ext w6 w' → w'.cell? ⟨bt, 0, none⟩ = some (.string t0) := fun w' h => h.cell hc06 (by simp)
  have h34 : (3 : Int) ≤ t0.size := by omega
  clear hco hc06
  go_region_held3 (fun w' => Ext w6 w') (first | exact grown_drew _ _ | assumption)
    (first
      | (go_at_call 293; refine Calls.mono (Calls.rel (w0 := w6) (by first | exact grown_drew _ _ | assumption) (l01Dec_ok _ o (by omega) (by omega))) ?_; rintro eD wD ⟨vD, rfl, hgD, hsD, rfl⟩))
  have hs6 := hg46.size
  have hs22 : w.heap.size + 2 ≤ w2.heap.size := by have := hg2.size; omega
  have hs42 : w2.heap.size ≤ w4.heap.size := by have := hg3.size; have := hg4.size; omega
  have hsw6 := hgw6.size
  have hbQD := hbQ.ext hgD
  have hbBD := hbB6.ext hgD
  have hgwD := grown_trans hgw6 hgD
  have hXD : PresX (fun k => w4.heap.size ≤ k ∧ k < w5.heap.size) wD (.slice ao2 n co2) (.slice ap2 n cp2) (.slice ac2 n cc2) P := hX6.mono (fun k hk hlt => ⟨hk, Nat.lt_of_lt_of_le hlt hgD.size, hgD.block k hlt (by simp)⟩)
  have hVI : Ints (fun k => w2.heap.size ≤ k ∧ k < w4.heap.size) wD (.slice ax n cx) V := (ints_of_own HV.out.2.2 (by have := HV.out.1; omega) (fun k hk => ⟨(HV.out.2.2.lt k hk).1, (HV.out.2.2.lt k hk).2⟩)).ext (grown_trans hg46 hgD)
  have hsw2 := hgw2.size
  have hbAD := hbA6.ext hgD
  have HC := Lib.hid (And.intro hXD hVI)
  have HV0 := Lib.hid HV.out.1
  clear hXD hVI f1 f2 f3 hX6 hbQ hbB6 hbA6 hh3
  rcases hbt : ((t0.extract 3 4).toList == (strOfNums [48 + o]).toList) with _ | _
  case' false =>
    clear hbt
    by_cases hy0 : y < 0
    case' pos =>
      obtain ⟨a0, a1, a2, a3, a4⟩ := id hbAD
      obtain ⟨b0, b1, b2, b3, b4⟩ := id hbBD
      have hZD := hbBD.all (.slice (some ⟨bo, oo, none⟩) n co) (.slice ap n cp) (.slice ac n cc)
      obtain ⟨-, z0, z1, z2, -⟩ := id hZD
      clear hZD HC HV
      go_wp2_with fail
      refine bodyPost_ret (v := .tuple #[.agg #[.slice (some ⟨bo, oo, none⟩) n co, .slice ap n cp, .slice ac n cc], .bool false]) (by simp [results, Tryz.results272, go_sem, z0, z1, z2]) rfl ?_
      exact relP_ret hgwD (by omega) h3 HH.out.1
    by_cases hyX : (X : Int) ≤ y
    case' pos =>
      obtain ⟨a0, a1, a2, a3, a4⟩ := id hbAD
      obtain ⟨b0, b1, b2, b3, b4⟩ := id hbBD
      have hZD := hbBD.all (.slice (some ⟨bo, oo, none⟩) n co) (.slice ap n cp) (.slice ac n cc)
      obtain ⟨-, z0, z1, z2, -⟩ := id hZD
      clear hZD HC HV
      go_wp2_with fail
      refine bodyPost_ret (v := .tuple #[.agg #[.slice (some ⟨bo, oo, none⟩) n co, .slice ap n cp, .slice ac n cc], .bool false]) (by simp [results, Tryz.results272, go_sem, z0, z1, z2]) rfl ?_
      exact relP_ret hgwD (by omega) h3 HH.out.1
    obtain ⟨Y, rfl⟩ := Int.eq_ofNat_of_zero_le (show 0 ≤ y by omega)
    have hnP := HH.out.2.2
    have hcl := HH.out.1.cl Y (by omega)
    have hcc := HH.out.1.c
    have hYX : Y < X := by omega
    obtain ⟨K, hK⟩ : ∃ K, K = X - Y - 1 := ⟨_, rfl⟩
    have hKl : K < (gt P.conj Y).length := by rw [hcl]; omega
    obtain ⟨g, capg, b, capb, z, hvc, ⟨hgB, hg5⟩, hgl, hcg, ⟨hbB, hb5⟩, hbg, hbl', hcb, hfb, hP3⟩ := PresX.putC HC.out.1 Y K (by omega) hKl HC.out.2 (fun k hk h => by omega)
    obtain ⟨rfl, rfl⟩ : ac2 = some ⟨g, 0, none⟩ ∧ cc2 = capg := by cases hvc; exact ⟨rfl, rfl⟩
    rw [hcl, ← hnP] at hcg
    obtain ⟨m, hm⟩ : ∃ m, m = n - 1 - Y := ⟨_, rfl⟩
    rw [← hm] at hcg
    have hKi : (X : Int) - (Y : Int) - 1 = (K : Int) := by omega
    have hKm : (K : Int) < m := by omega
    have hYn : (Y : Int) < n := by omega
    have hT := grown_set1 wD b K (.slice ax n cx)
    have hgwS : Ext w (wD.setCell ⟨b, K, none⟩ (.slice ax n cx)) := grown_own hgwD hT (fun j hj hlt => by cases hj; omega)
    have hbBS := Box3.keep hbBD hT.size (hT.block _ hbBD.1 (fun e => by cases e; omega))
    have hbQS := Box3.keep hbQD hT.size (hT.block _ hbQD.1 (fun e => by cases e; omega))
    have hZS := hbBS.all (.slice ao2 n co2) (.slice ap2 n cp2) (.slice (some ⟨g, 0, none⟩) n cc2)
    obtain ⟨q0, q1, q2, q3, q4⟩ := id hbQD
    obtain ⟨r0, r1, r2, r3, r4⟩ := id hbQS
    obtain ⟨b0, b1, b2, b3, b4⟩ := id hbBS
    obtain ⟨-, z0, z1, z2, -⟩ := id hZS
    have HR := Lib.hid (And.intro hP3 (And.intro hgwS (And.intro hvc (And.intro hcl (And.intro hcc hnP)))))
    clear hZS hP3 hgwS hvc hcl hcc hnP hT hbBS hbQS hm hK hbQD hbBD hbAD HC HV
    go_wp2_with fail
    refine bodyPost_ret (v := .tuple #[.agg #[.slice ao2 n co2, .slice ap2 n cp2, .slice (some ⟨g, 0, none⟩) n cc2], .bool true]) (by simp [results, Tryz.results272, go_sem, z0, z1, z2]) rfl ?_
    exact rel_ret HR.out.2.1 (by omega) HR.out.1 (fun k hk hlt => ⟨.inr (by rcases hk with hk | hk <;> omega), by rcases hk with hk | hk <;> omega⟩) (HH.out.1.setC Y K (by have := HR.out.2.2.2.2.2; omega) (by have := HV0.out; omega)) rfl
  case' true =>
    clear hbt
    have hnP := HH.out.2.2
    have hcp := HH.out.1.p
    obtain ⟨g, capg, z, hvp, ⟨hgB, hg5⟩, hgl, hcg, hfg, hP3⟩ := PresX.putP HC.out.1 X (by omega) HC.out.2 (fun k hk h => by omega)
    obtain ⟨rfl, rfl⟩ : ap2 = some ⟨g, 0, none⟩ ∧ cp2 = capg := by cases hvp; exact ⟨rfl, rfl⟩
    have hT := grown_set1 wD g X (.slice ax n cx)
    have hgwS : Ext w (wD.setCell ⟨g, X, none⟩ (.slice ax n cx)) := grown_own hgwD hT (fun j hj hlt => by cases hj; omega)
    have hbBS := Box3.keep hbBD hT.size (hT.block _ hbBD.1 (fun e => by cases e; omega))
    have hbQS := Box3.keep hbQD hT.size (hT.block _ hbQD.1 (fun e => by cases e; omega))
    have hZS := hbBS.all (.slice ao2 n co2) (.slice (some ⟨g, 0, none⟩) n cp2) (.slice ac2 n cc2)
    obtain ⟨q0, q1, q2, q3, q4⟩ := id hbQD
    obtain ⟨r0, r1, r2, r3, r4⟩ := id hbQS
    obtain ⟨b0, b1, b2, b3, b4⟩ := id hbBS
    obtain ⟨-, z0, z1, z2, -⟩ := id hZS
    have HR := Lib.hid (And.intro hP3 (And.intro hgwS (And.intro hvp (And.intro hcp hnP))))
    clear hZS hP3 hgwS hvp hcp hnP hT hbBS hbQS hbQD hbBD hbAD HC HV
    go_wp2_with fail
    refine bodyPost_ret (v := .tuple #[.agg #[.slice ao2 n co2, .slice (some ⟨g, 0, none⟩) n cp2, .slice ac2 n cc2], .bool true]) (by simp [results, Tryz.results272, go_sem, z0, z1, z2]) rfl ?_
    exact rel_ret HR.out.2.1 (by omega) HR.out.1 (fun k hk hlt => ⟨.inr (by rcases hk with hk | hk <;> omega), by rcases hk with hk | hk <;> omega⟩) (HH.out.1.setP X (by have := HV0.out; omega)) rfl

end Go.Proofs.YtoakmefajbbggaaGreat
namespace Go.Proofs.YtoakmefajbbggaaGreat
open Go.RowKit

theorem l01Zero_ok (v : Value) (l : List Int) (w : World) (S : Nat → Prop) (h : Ints S w v l) :
    Calls Tryz.prog 254 #[v] w fun e w' => e = .returned (.bool (isZeroB l)) ∧ w = w' := by
  obtain ⟨a, cap, rfl, _, _⟩ := h.shape
  go_enter Tryz.func254, Tryz.ntmps254
  go_wp2
  go_loop [3] (fun i => ∃ k : Nat, i = .int .i64 k ∧ k ≤ l.length ∧ ∀ j, j < k → gt l j = 0) (fun i => l.length - (intOf i).toNat)
  case atStart => exact ⟨0, rfl, by omega, fun j hj => by omega⟩
  case round =>
    obtain ⟨k, rfl, hk, hz⟩ := hrel
    have HZ := Lib.hid hz; clear hz
    by_cases hlt : k < l.length
    · obtain ⟨b, off, rfl, _, _, hc⟩ := Ints.at h k hlt
      by_cases hx : gt l k = 0
      · have hb : (gt l k != 0) = false := by simp [hx]
        have HX := Lib.hid hx; clear hx
        go_wp2
        go_round
        case rel => exact ⟨k + 1, by go_num, by omega, fun j hj => by
          rcases Nat.lt_succ_iff_lt_or_eq.1 hj with h1 | h1
          · exact HZ.out j h1
          · rw [h1]; exact HX.out⟩
        case measure => simp [intOf]; omega
      · have hb : (gt l k != 0) = true := by simp [hx]
        have he : isZeroB l = false := by
          cases hq : isZeroB l with
          | false => rfl
          | true => exact absurd (isZeroB_true.1 hq k hlt) hx
        have HE := Lib.hid he; clear he hx
        go_wp2
        go_ret
        exact ⟨by rw [HE.out]; rfl, rfl⟩
    · have he : isZeroB l = true := isZeroB_true.2 (fun j hj => HZ.out j (by omega))
      have HE := Lib.hid he; clear he
      go_wp2
      go_ret
      exact ⟨by rw [HE.out]; rfl, rfl⟩

end Go.Proofs.YtoakmefajbbggaaGreat
