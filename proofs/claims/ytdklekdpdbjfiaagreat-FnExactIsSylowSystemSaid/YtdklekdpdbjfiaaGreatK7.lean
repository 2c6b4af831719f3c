/-
  (*impl.sequence).add.
  impl.generated.
  impl.sameRows, impl.areSubgroups.
  Plain: a sequence as a table by depths, as the reference lays it; coset representatives, sifting and the reduced sequence by such a table.
  Plain: generated subgroups of sets; intersections.
  Plain: a group of order at most 32 has at most 17408 subgroups (a crude bound).
  impl.sizeOf.
  Plain: the subgroups of a small group as sets of bits; all of them are found; the ascending list is one.
  Plain: what impl.extendMask and spec.l19Span compute.
  Plain: what spec.l19Span computes: the bits of the subgroup that some elements generate.
  Plain: what spec.l19Sequence and l19Insert compute.
  The search for all subgroups: the list of masks that grows.
  Moebius values of a list of masks in ascending order.
  Plain: the list of products, element by element (for impl.elementsOf).
  Moebius values of the lattice: the sum over all subgroups above one; the number of generating lists.
  Plain: the elements of a consistent presentation as a type with products; subgroups, cosets, their counting.
  Plain: Hall's theorem: subgroups for a set of primes exist, and every subgroup whose order has only these primes lies in a conjugate of a given one.
  impl.isMember.
  impl.conjugates, impl.conjugateSubgroup.
  impl.isNormal.
  Plain: the greatest normal subgroup within a subgroup.
  Maps that a call makes, by a general reading: what stands under each key.
  impl.keyOf: the bytes of all entries, each row closed by a semicolon.
  The lattice's maps: masks seen; the mask of a key.
  append of one integer inside a region that draws its order.
  The lattice behind a pointer.
  The list of all subgroups as one value; its bounds.
  Plain: the conjugates of a subgroup, as sequences and as masks; the classes of conjugate subgroups.
  Plain: Hall subgroups as sequences: the orders, the way up to one, their one class, the one ascending list.
  The reference's power with any exponent: spec.l10Pow.
  Rows of bools of the call's own; a region that ends in a store.
  The reference's tables by depths: spec.l02Lead, l12Depth, l12Table; how a table reads.
-/
import Derived.Test.YtdklekdpdbjfiaaGreatK6
import Derived.Test.YtdklekdpdbjfiaaGreatK4
import Derived.Test.YtdklekdpdbjfiaaGreatK2
import Derived.Maps.OwnSet
import Derived.Maps.StringElems
import Derived.StringKeys
import Derived.Test.YtdklekdpdbjfiaaGreatK5
import Derived.Laws.BytesArg
import Derived.Test.YtdklekdpdbjfiaaGreatK3
/- (*impl.sequence).add. -/
namespace Go.Proofs.YtdklekdpdbjfiaaGreat
open Go.RowKit

theorem inverseMod_ret (a m : Int) (w : World) (hm : m = 2 ∨ m = 3 ∨ m = 5 ∨ m = 7) (h1 : 1 ≤ a) (h2 : a < m) :
    Calls Tryz.prog 189 #[.int .i64 a, .int .i64 m] w (Ret w fun _ v => ∃ k : Int, v = .tuple #[.int .i64 k, .bool true] ∧ 0 ≤ k ∧ k < m ∧ (k * a) % m = 1) :=
  (inverseMod_ok a m w hm h1 h2).mono (by rintro e w' ⟨⟨k, rfl, h⟩, rfl⟩; exact ⟨_, rfl, Ext.refl _, k, rfl, h⟩)

theorem q_kept {bad : Nat → Prop} {wI w2 : World} {v1 v2 : Value} (hg2 : wI.grownBy w2 v1.ownBlock) (hb2 : v2.ownBlock = v1.ownBlock ∨ ∀ k, v2.ownBlock = some k → wI.heap.size ≤ k) :
    ∀ k, (¬ bad k ∧ v1.ownBlock ≠ some k) → k < wI.heap.size → (¬ bad k ∧ v2.ownBlock ≠ some k) ∧ k < w2.heap.size ∧ w2.heap[k]? = wI.heap[k]? := fun k hk hlt =>
  ⟨⟨hk.1, fun e => by
    rcases hb2 with h | h
    · exact hk.2 (by rw [← h]; exact e)
    · have := h k e; omega⟩, Nat.lt_of_lt_of_le hlt hg2.size, hg2.block k hlt (fun e => hk.2 e.symm)⟩

theorem seq_kept {B sb gb n W : Nat} {pv : Value} {wI w2 : World} {v1 v2 : Value} {b : List (List Int)} (h : SeqAt B (fun k => v1.ownBlock = some k) wI sb gb pv n b) (hv : ∀ k, v1.ownBlock = some k → W ≤ k) (hgb : gb < W) (hsb : sb < W)
    (hg2 : wI.grownBy w2 v1.ownBlock) (hb2 : v2.ownBlock = v1.ownBlock ∨ ∀ k, v2.ownBlock = some k → wI.heap.size ≤ k) : SeqAt B (fun k => v2.ownBlock = some k) w2 sb gb pv n b := by
  refine h.kept hg2.size (fun k hk hc => hg2.block k hk (fun e => ?_)) (fun k hk e => ?_)
  · rcases hc with rfl | rfl | hc
    · have := hv _ e.symm; omega
    · have := hv _ e.symm; omega
    · exact hc e.symm
  · rcases hb2 with h | h
    · rw [← h]; exact e
    · have := h k e; omega

def AddPost (P : Pr) (H : List Int → Prop) (L b b' : List (List Int)) (g : Bool) : Prop :=
  Ind P (genP P (fun x => H x ∨ x ∈ L)) (gt b') ∧ (g = false → b' = b) ∧ (g = true → miss b' P.orders.length < miss b P.orders.length)

def AddSt (P : Pr) (H : List Int → Prop) (L b b' q : List (List Int)) (g : Bool) : Prop :=
  (∃ R, AddInv P (fun x => H x ∨ x ∈ L) (gt b') q R) ∧ (g = false → b' = b) ∧ (g = true → miss b' P.orders.length < miss b P.orders.length) ∧ miss b' P.orders.length ≤ miss b P.orders.length

set_option maxRecDepth 100000 in
set_option maxHeartbeats 2000000 in
theorem add_ok (P : Pr) (G : Grp P) (w : World) (sb gb B : Nat) (p lv : Value) (L b : List (List Int)) (H : List Int → Prop) (hp : PresP (fun k => k ≠ gb) w p P) (hs : SeqAt B (fun _ => False) w sb gb p P.orders.length b) (hI : Ind P H (gt b))
    (hL : ∀ x ∈ L, Vec P.orders x) (hl : Rows2 (fun k => ¬ (k = gb ∨ k = sb)) w lv L) (hlen : L.length ≤ 10000) :
    Calls Tryz.prog 123 #[.pointer (some ⟨sb, 0, none⟩), lv] w fun e w' => ∃ b' g, e = .returned (.bool g) ∧ w.grownBy w' (some gb) ∧ SeqAt B (fun _ => False) w' sb gb p P.orders.length b' ∧ AddPost P H L b b' g := by
  have hP := G.v
  have hn6 := hP.n6
  obtain ⟨pb, po, rfl⟩ := hp.shape
  obtain ⟨ao, capo, hco0, hoi⟩ := hp.ordAt
  obtain ⟨_, _, _, hpb, hpbl, _⟩ := hp.at
  have hgbs := hs.tab.lt
  have hpw : ∀ w', w.grownBy w' (some gb) → PresP (fun k => k ≠ gb) w' (.pointer (some ⟨pb, po, none⟩)) P := fun w' h => hp.mono (frame_of h (fun k hk _ => ⟨hk, fun e => hk (Option.some.inj e).symm⟩))
  have hc0w : ∀ w', w.grownBy w' (some gb) → w'.cell? ⟨sb, 0, none⟩ = some (.pointer (some ⟨pb, po, none⟩)) := fun w' h => (World.cell?_of_block (h.block sb hs.slt (by simpa using hs.ne))).trans hs.c0
  have hc1w : ∀ w', w.grownBy w' (some gb) → w'.cell? ⟨sb, 1, none⟩ = some (.slice (some ⟨gb, 0, none⟩) P.orders.length P.orders.length) := fun w' h => (World.cell?_of_block (h.block sb hs.slt (by simpa using hs.ne))).trans hs.c1
  have hc2w : ∀ w', w.grownBy w' (some gb) → w'.cell? ⟨pb, po, none⟩ = some (.slice ao P.orders.length capo) := fun w' h => (World.cell?_of_block (h.block pb hpbl (by simpa using hpb))).trans hco0
  have HW := Lib.hid (And.intro hpw (And.intro hc0w (And.intro hc1w hc2w))); clear hpw hc0w hc1w hc2w hco0
  have HI := Lib.hid (And.intro hI hL); clear hI hL
  go_enter Tryz.func123, Tryz.ntmps123
  go_wp2_with fail
  refine Calls.mono (cloneRows_ok w lv L _ (fun k => k = gb ∨ k = sb) hl (fun k hk _ => hk) (by omega)) ?_
  rintro e0 w0 ⟨qv0, rfl, hg0, hq0⟩
  go_wp2
  go_loopg [5, 6] (miss b P.orders.length * (P.orders.length + 3) + L.length) (fun gk gv qv wr => ∃ (b' q : List (List Int)) (g : Bool), gk ≤ 20000 ∧ gk = miss b' P.orders.length * (P.orders.length + 3) + q.length ∧ gv = .bool g ∧ w.grownBy wr (some gb) ∧
    SeqAt B (fun k => qv.ownBlock = some k) wr sb gb (.pointer (some ⟨pb, po, none⟩)) P.orders.length b' ∧ ShQ (fun k => k = gb ∨ k = sb) w.heap.size wr qv q ∧ Hid (AddSt P H L b b' q g))
  case atStart =>
    have hk0 : miss b P.orders.length * (P.orders.length + 3) + L.length ≤ 20000 := by
      have h3 : miss b P.orders.length * (P.orders.length + 3) ≤ 6 * 9 := Nat.mul_le_mul (by have := miss_le b P.orders.length; omega) (by omega)
      omega
    exact ⟨b, L, false, hk0, rfl, rfl, grown_of_ext _ hg0, hs.kept hg0.size (fun k hk _ => hg0.block k hk (by simp)) (fun k hk h => by have := (hq0.lt k h).1; omega), hq0, Lib.hid ⟨⟨_, G.addInv_start HI.out.1 HI.out.2⟩, fun _ => rfl, by simp, Nat.le_refl _⟩⟩
  case round =>
    obtain ⟨b', q, g, hgkb, hgk, rfl, hg, hsq, hq, hSt⟩ := hrel
    cases q with
    | nil =>
      obtain ⟨aq, capq, rfl, _⟩ := hq.shape
      go_wp2
      go_ret
      exact ⟨b', g, rfl, hg, hsq.kept (Nat.le_refl _) (fun _ _ _ => rfl) (fun _ _ h => h.elim), by obtain ⟨⟨R, hA⟩, h2, h3, _⟩ := hSt.out; exact ⟨G.addInv_end hA, h2, h3⟩⟩
    | cons y q =>
      obtain ⟨aq, capq, rfl, _⟩ := hq.shape
      obtain ⟨gq, off, u, rfl, hgB, hglt, hcell, hyI⟩ := ShQ.head hq 0 (by simp)
      obtain ⟨m, hm⟩ : ∃ m, m = (y :: q).length := ⟨_, rfl⟩
      rw [← hm] at hq hgk ⊢
      have hm1 : m = q.length + 1 := by rw [hm]; rfl
      have hyI : Ints (fun k => ¬ (k = gb ∨ k = sb) ∧ k ≠ gq) wr u y := hyI
      obtain ⟨ay, capy, rfl, _, _⟩ := hyI.shape
      have hmb : m ≤ 20000 := by omega
      have hc0 := HW.out.2.1 wr hg
      have hc1 := HW.out.2.2.1 wr hg
      rw [Nat.add_zero] at hcell
      have hmi : (0 : Int) < m := by omega
      have HM := Lib.hid (And.intro hgk (And.intro hm hm1)); clear hgk hm hm1
      have hyV : Vec P.orders y := by obtain ⟨⟨R, hA⟩, _⟩ := hSt.out; exact hA.vec _ (hA.que _ List.mem_cons_self)
      have htab : ∀ d, d < P.orders.length → gt b' d ≠ [] → T P d (gt b' d) ∧ gt (gt b' d) d = 1 := by obtain ⟨⟨R, hA⟩, _⟩ := hSt.out; exact fun d hd h => (hA.tab d hd h).2
      have HT := Lib.hid (And.intro hyV htab); clear hyV htab
      go_wp2_with fail
      refine Calls.mono (sift_ok P G wr sb gb B _ _ y b' _ _ _ (HW.out.1 wr hg) hsq HT.out.2 hyI HT.out.1) ?_
      rintro e1 w1 ⟨xv, rfl, hg1, Y, hYI, hYV, hYd, hΦ⟩
      have hgw1 := grown_trans hg (grown_of_ext (some gb) hg1)
      have hSt1 : Hid (AddSt P H L b b' (Y :: q) g) := by
        obtain ⟨⟨R, hA⟩, h2⟩ := hSt.out
        exact Lib.hid ⟨G.sift_add hA hΦ, h2⟩
      clear hΦ hSt hc0 hc1 hcell
      have hq1t : ShQ (fun k => k = gb ∨ k = sb) w.heap.size w1 (subSl (.slice (some ⟨gq, off, none⟩) m capq) 1 m) q := (hq.ext hg1).tail
      have hrt := run_tail_rows w1 (some ⟨gq, off, none⟩) m capq 1 (by omega) (by omega)
      have hown1 : ∀ k, (subSl (.slice (some ⟨gq, off, none⟩) m capq) 1 m).ownBlock = some k → k = gq := fun k hk => by
        have h3 := QOwn.own_tail k hk
        simp [Value.ownBlock] at h3; exact h3.symm
      rw [show (1 : Int).toNat = 1 from rfl] at hrt
      generalize subSl (.slice (some ⟨gq, off, none⟩) m capq) 1 m = qv1 at hq1t hrt hown1
      have hsq1 : SeqAt B (fun k => qv1.ownBlock = some k) w1 sb gb (.pointer (some ⟨pb, po, none⟩)) P.orders.length b' := (hsq.ext hg1).kept (Nat.le_refl _) (fun _ _ _ => rfl) (fun k _ h => by rw [hown1 k h]; rfl)
      have hYI2 : Ints (fun k => ¬ (k = gb ∨ k = sb) ∧ qv1.ownBlock ≠ some k) w1 xv Y := Ints.sub hYI (fun k hk _ => by
        have h1 := hs.slt
        have h2 := hg.size
        rcases hk with hk | hk
        · exact ⟨hk.1, fun e => hk.2 (hown1 k e)⟩
        · exact ⟨by omega, fun e => by have := hown1 k e; omega⟩)
      obtain ⟨a1, cap1, rfl, _⟩ := hq1t.shape
      obtain ⟨ax, capx, hv, _, _⟩ := hYI2.shape
      rw [hYV.1] at hv
      subst hv
      clear hsq hq hyI hYI hown1
      have HY := Lib.hid (And.intro hYV hYd); clear hYV hYd
      by_cases hdn : dep Y = P.orders.length
      · have hSt2 : Hid (AddSt P H L b b' q g) := by
          obtain ⟨⟨R, hA⟩, h2⟩ := hSt1.out
          exact Lib.hid ⟨⟨R, addInv_drop hA ((dep_top hP HY.out.1).1 hdn)⟩, h2⟩
        clear hSt1
        go_wp2_with (go_at_call 188; refine Calls.mono (depthOf_ok _ Y w1 _ hYI2) ?_; rintro eD wD ⟨rfl, rfl⟩)
        go_roundg (gk - 1)
        case measure => have := HM.out; omega
        case rel => exact ⟨b', q, g, by omega, by have := HM.out; omega, rfl, hgw1, hsq1, hq1t, hSt2⟩
      · have hd : dep Y < P.orders.length := by have := dep_le Y; have := HY.out.1.1; omega
        have hTY := dep_T HY.out.1
        have hy0 := dep_ne (x := Y) (by rw [HY.out.1.1]; exact hd)
        have hb0 := HY.out.2 hd
        obtain ⟨d, hde⟩ : ∃ d, d = dep Y := ⟨_, rfl⟩
        rw [← hde] at hd hTY hy0 hb0 hdn
        have ho := hP.ord7 d hd
        have hpr := hP.ord d hd
        have hyd := hTY.1.2 d hd
        have hyd1 : 1 ≤ gt Y d := by omega
        obtain ⟨bx, ox, rfl, _, _, hcx⟩ := Ints.at hYI2 d (by rw [HY.out.1.1]; exact hd)
        obtain ⟨b2, off2, rfl, hb2, hlt2, hcord⟩ := Ints.at hoi d hd
        have c1 : ∀ w', w.grownBy w' (some gb) → w'.cell? ⟨b2, off2 + d, none⟩ = some (.int .i64 (gt P.orders d)) := fun w' h => (World.cell?_of_block (h.block b2 hlt2 (by simpa using hb2))).trans hcord
        have HD := Lib.hid (And.intro hde (And.intro hTY (And.intro hb0 (And.intro c1 (And.intro hpr hdn))))); clear hTY hy0 hb0 c1 hpr hcord hdn
        have e1 : ∀ w', Ext w1 w' → w'.cell? ⟨sb, 0, none⟩ = some (.pointer (some ⟨pb, po, none⟩)) := fun w' h => HW.out.2.1 w' (grown_trans hgw1 (grown_of_ext _ h))
        have e2 : ∀ w', Ext w1 w' → w'.cell? ⟨pb, po, none⟩ = some (.slice (some ⟨b2, off2, none⟩) P.orders.length capo) := fun w' h => HW.out.2.2.2 w' (grown_trans hgw1 (grown_of_ext _ h))
        have e3 : ∀ w', Ext w1 w' → w'.cell? ⟨b2, off2 + d, none⟩ = some (.int .i64 (gt P.orders d)) := fun w' h => HD.out.2.2.2.1 w' (grown_trans hgw1 (grown_of_ext _ h))
        have e4 : ∀ w', Ext w1 w' → w'.cell? ⟨bx, ox + d, none⟩ = some (.int .i64 (gt Y d)) := fun w' h => h.cell hcx (by simp)
        have q1 : (d : Int) < P.orders.length := by omega
        have q2 : (0 : Int) ≤ d := by omega
        have q3 : ((d : Int) == (P.orders.length : Int)) = false := by simp; omega
        have hdc : Calls Tryz.prog 188 #[.slice (some ⟨bx, ox, none⟩) P.orders.length capx] w1 (fun e w' => e = .returned (.int .i64 d) ∧ w1 = w') := by rw [hde]; exact depthOf_ok _ Y w1 _ hYI2
        clear hde
        go_wp2_with (go_at_call 188; refine Calls.mono hdc ?_; rintro eD wD ⟨rfl, rfl⟩)
        go_region_held3 (fun w' => Ext w1 w') (first | exact grown_drew _ _ | assumption)
          (first
            | (go_at_call 189; refine Calls.mono (Calls.rel (w0 := w1) (by assumption) (inverseMod_ret (gt Y d) (gt P.orders d) _ HD.out.2.2.2.2.1 hyd1 hyd.2)) ?_; rintro eI wI ⟨vI, rfl, hgI, hsI, kk, rfl, hk0, hk1, hkm⟩; have HK := Lib.hid hkm; clear hkm))
        clear e1 e2 e3 e4 hdc hrt
        have hgwI := grown_trans hgw1 (grown_of_ext (some gb) hgI)
        have hqI := hq1t.ext hgI
        have hsqI := hsq1.ext hgI
        have hYI3 := hYI2.ext hgI
        have hqlt : ∀ k, (Value.slice a1 q.length cap1).ownBlock = some k → w.heap.size ≤ k := fun k hk => (hqI.lt k hk).1
        have hql : q.length ≤ 20000 := by have := HM.out.2.2; omega
        clear hq1t hsq1 hYI2 hcx
        go_wp2_with (first | (at_builtin; refine wp_shq_app rfl _ _ rfl (fun k => k = gb ∨ k = sb) w.heap.size _ _ q Y rfl wI hqI rfl hYI3 rfl (by omega) hgwI.size ?_; intro v2 w2 hq2 hg2 hb2; have hgw2 := grown_own hgwI hg2 (fun j hj hlt => by have := hqlt j hj; omega); have hc02 := HW.out.2.1 w2 hgw2) | fail)
        have hsq2 := seq_kept hsqI hqlt hgbs.2 hs.slt hg2 hb2
        have hYI4 := Ints.mono hYI3 (q_kept hg2 hb2)
        clear hqI hsqI hYI3
        refine Calls.mono (power_ok P hP w2 _ _ Y kk _ _ (HW.out.1 w2 hgw2) hYI4 HY.out.1 (by omega)) ?_
        rintro eZ wZ ⟨zv, rfl, hgZ, hOZ⟩
        have eZ : iPow P Y kk = pw P Y kk.toNat := G.iPow_eq HY.out.1 kk
        rw [eZ] at hOZ
        clear eZ
        obtain ⟨Z, hZ⟩ : ∃ Z, Z = pw P Y kk.toNat := ⟨_, rfl⟩
        rw [← hZ] at hOZ
        have hZV : Vec P.orders Z := by rw [hZ]; exact G.pw_vec HY.out.1 _
        have HZ := Lib.hid hZ; clear hZ
        have hgwZ := grown_trans hgw2 (grown_of_ext (some gb) hgZ)
        have hqZ := hq2.ext hgZ
        have hsqZ := hsq2.ext hgZ
        have hZI : Ints (fun k => ¬ (k = gb ∨ k = sb) ∧ v2.ownBlock ≠ some k) wZ zv Z := ints_of_own hOZ (by rw [hZV.1]; omega) (fun k hk => by
          have h1 := (hOZ.lt k hk).1
          have h2 := hs.slt
          have h3 := hgw2.size
          exact ⟨by omega, fun e => by have := (hq2.lt k e).2; omega⟩)
        have hqlt2 : ∀ k, v2.ownBlock = some k → w.heap.size ≤ k := fun k hk => (hqZ.lt k hk).1
        clear hq2 hsq2 hYI4 hg2 hb2
        obtain ⟨az, capz, hv, _, _⟩ := hZI.shape
        rw [hZV.1] at hv
        subst hv
        have HZV := Lib.hid hZV; clear hZV
        have hTV : Vec P.orders (pw P Z (gt P.orders d).toNat) := G.pw_vec HZV.out _
        have hTl : (pw P Z (gt P.orders d).toNat).length ≤ 6 := by rw [hTV.1]; omega
        have hTe : iPow P Z (gt P.orders d) = pw P Z (gt P.orders d).toNat := G.iPow_eq HZV.out _
        have HTV := Lib.hid (And.intro hTl hTe); clear hTl hTe hTV
        have e1 : ∀ w', w.grownBy w' (some gb) → w'.cell? ⟨sb, 0, none⟩ = some (.pointer (some ⟨pb, po, none⟩)) := HW.out.2.1
        have e2 : ∀ w', w.grownBy w' (some gb) → w'.cell? ⟨pb, po, none⟩ = some (.slice (some ⟨b2, off2, none⟩) P.orders.length capo) := HW.out.2.2.2
        have e3 : ∀ w', w.grownBy w' (some gb) → w'.cell? ⟨b2, off2 + d, none⟩ = some (.int .i64 (gt P.orders d)) := HD.out.2.2.2.1
        go_wp2
        go_region_held3 (fun w' => w.grownBy w' (some gb)) (first | exact grown_trans hgwZ (grown_drew _ _) | assumption | exact grown_trans hgwT (World.grownBy_alloc _ _ _))
          (first
            | (go_at_call 190; refine Calls.mono (Calls.rel2 (w0 := wZ) (grown_drew _ _) (power_ok P hP _ _ _ Z (gt P.orders d) _ _ ((HW.out.1 wZ hgwZ).ext (grown_drew _ _)) (hZI.ext (grown_drew _ _)) HZV.out (by omega))) ?_; rintro eT wT ⟨vT, rfl, hgT, hgT2, hsT, hOT⟩; have hgwT := grown_trans hgwZ (grown_of_ext (some gb) hgT); rw [HTV.out.2] at hOT; have hTI : Ints (fun k => ¬ (k = gb ∨ k = sb) ∧ v2.ownBlock ≠ some k) wT vT (pw P Z (gt P.orders d).toNat) := ints_of_own hOT (by have := HTV.out.1; omega) (fun k hk => by
                have h1 := (hOT.lt k hk).1
                have h2 := hs.slt
                have h3 := hgwZ.size
                exact ⟨by omega, fun e => by have := (hqZ.lt k e).2; omega⟩); obtain ⟨aT, capT, hvT, _, _⟩ := hTI.shape; subst hvT)
            | (refine step_shq_app rfl _ _ rfl (fun k => k = gb ∨ k = sb) w.heap.size v2 _ (q ++ [Y]) _ rfl wT (hqZ.ext hgT) rfl hTI rfl (by simp; omega) hgwT.size ?_; intro v3 w3 hq3 hg3 hb3; have hgw3 := grown_own hgwT hg3 (fun j hj hlt => by have := hqlt2 j hj; omega)))
        clear e1 e2 e3
        have hsq3 := seq_kept (hsqZ.ext hgT) hqlt2 hgbs.2 hs.slt hg3 hb3
        have hZI3 := Ints.mono (hZI.ext hgT) (q_kept hg3 hb3)
        have hc13 := HW.out.2.2.1 w3 hgw3
        have hc03 := HW.out.2.1 w3 hgw3
        obtain ⟨T1, hT1⟩ : ∃ T1, T1 = pw P Z (gt P.orders d).toNat := ⟨_, rfl⟩
        rw [← hT1] at hq3
        have HT1 := Lib.hid hT1; clear hT1
        clear hqZ hsqZ hZI hTI hOT hOZ hg3 hb3
        go_wp2
        clear hc13 hc03
        go_loopw [6, 84] (fun qv iv wr2 => ∃ (k : Nat) (v4 : Value), v4 = qv ∧ iv = .int .i64 k ∧ k ≤ P.orders.length ∧ w.grownBy wr2 (some gb) ∧ SeqAt B (fun j => v4.ownBlock = some j) wr2 sb gb (.pointer (some ⟨pb, po, none⟩)) P.orders.length b' ∧
          ShQ (fun k => k = gb ∨ k = sb) w.heap.size wr2 v4 (q ++ [Y] ++ [T1] ++ coms P b' Z k) ∧ Ints (fun j => ¬ (j = gb ∨ j = sb) ∧ v4.ownBlock ≠ some j) wr2 (.slice az P.orders.length capz) Z) (fun _ iv _ => P.orders.length - (intOf iv).toNat)
        case atStart => exact ⟨0, _, rfl, rfl, by omega, hgw3, hsq3, by simpa [coms] using hq3, hZI3⟩
        case round =>
          obtain ⟨k, v4, rfl, rfl, hk, hg4, hsq4, hq4, hZI4⟩ := hrel
          clear hsq3 hq3 hZI3
          have hqlt4 : ∀ j, v4.ownBlock = some j → w.heap.size ≤ j := fun j hj => (hq4.lt j hj).1
          by_cases hk2 : k < P.orders.length
          · obtain ⟨_, hcc⟩ := hsq4.tab.at k hk2
            rcases hcc with ⟨h0, hcell⟩ | ⟨hne, ab, capb, hcell, hbI⟩
            · have hcs : coms P b' Z (k + 1) = coms P b' Z k := by simp only [coms]; rw [if_pos h0, List.append_nil]
              have HC := Lib.hid hcs; clear hcs h0
              go_wp2
              go_roundw
              case rel => exact ⟨k + 1, v4, rfl, by go_num, by omega, hg4, hsq4, by rw [HC.out]; exact hq4, hZI4⟩
              case measure => simp [intOf]; omega
            · have hcs : coms P b' Z (k + 1) = coms P b' Z k ++ [comR P (gt b' k) Z] := by simp only [coms]; rw [if_neg hne]
              have hbV := (HT.out.2 k hk2 hne).1.1
              have hcV : Vec P.orders (comR P (gt b' k) Z) := G.mulV (G.invV (G.mulV HZV.out hbV)) (G.mulV hbV HZV.out)
              have HC := Lib.hid (And.intro hcs (And.intro hbV hcV)); clear hcs hbV hcV hne
              have hp0 := HW.out.2.1 wr hg4
              go_wp2_with fail
              refine Calls.mono (commutator_ok P G wr _ _ _ (gt b' k) Z _ _ _ (HW.out.1 wr hg4) hbI hZI4 HC.out.2.1 HZV.out) ?_
              rintro eC wC ⟨vC, rfl, hgC, hOC⟩
              have hOC : Own wr.heap.size wC vC (comR P (gt b' k) Z) := hOC
              have hCI : Ints (fun j => ¬ (j = gb ∨ j = sb) ∧ v4.ownBlock ≠ some j) wC vC (comR P (gt b' k) Z) := ints_of_own hOC (by rw [HC.out.2.2.1]; omega) (fun j hj => by
                have h1 := (hOC.lt j hj).1
                have h2 := hs.slt
                have h3 := hg4.size
                exact ⟨by omega, fun e => by have := (hq4.lt j e).2; omega⟩)
              have hgwC := grown_trans hg4 (grown_of_ext (some gb) hgC)
              obtain ⟨aC, capC, hvC, _, _⟩ := hCI.shape
              subst hvC
              have hcl := coms_len P b' Z k
              clear hOC hcell hp0
              go_wp2_with (first | (at_builtin; refine wp_shq_app rfl _ _ rfl (fun k => k = gb ∨ k = sb) w.heap.size v4 _ (q ++ [Y] ++ [T1] ++ coms P b' Z k) (comR P (gt b' k) Z) rfl wC (hq4.ext hgC) rfl hCI rfl (by simp; omega) hgwC.size ?_; intro v5 w5 hq5 hg5 hb5; have hgw5 := grown_own hgwC hg5 (fun j hj hlt => by have := hqlt4 j hj; omega)) | fail)
              go_roundw
              case rel => exact ⟨k + 1, v5, rfl, by go_num, by omega, hgw5, seq_kept (hsq4.ext hgC) hqlt4 hgbs.2 hs.slt hg5 hb5, by rw [HC.out.1, ← List.append_assoc]; exact hq5, Ints.mono (hZI4.ext hgC) (q_kept hg5 hb5)⟩
              case measure => simp [intOf]; omega
          · have hke : k = P.orders.length := by omega
            subst hke
            have hZne : Z ≠ [] := fun h => by have := HZV.out.1; rw [h] at this; simp at this; omega
            obtain ⟨hs5, hg5⟩ := hsq4.put d (u := .slice az P.orders.length capz) (y := Z) (Ints.sub hZI4 (fun j hj _ => ⟨fun e => hj.1 (.inl e), fun h => h.elim (fun e => hj.1 (.inr e)) hj.2⟩)) hZne
            obtain ⟨hfr, hcc⟩ := hsq4.tab.at d hd
            have hcd : wr.cell? ⟨gb, d, none⟩ = some (.slice none 0 0) := hcc.elim (fun h => h.2) (fun h => absurd HD.out.2.2.1 h.1)
            have hq5 : ShQ (fun k => k = gb ∨ k = sb) w.heap.size (wr.setCell ⟨gb, d, none⟩ (.slice az P.orders.length capz)) v4 (q ++ [Y] ++ [T1] ++ coms P b' Z P.orders.length) := hq4.kept hg5.size (fun j hj hc => hg5.block j hj (fun e => by
              have e := Option.some.inj e
              subst e
              rcases hc with hc | hc
              · have := hqlt4 _ hc; have := hgbs.2; omega
              · exact hc (.inl rfl))) (fun _ _ h => h)
            have hc1 := HW.out.2.2.1 wr hg4
            have hms := miss_set (b := b') (z := Z) HD.out.2.2.1 hZne P.orders.length (by rw [hsq4.tab.len]; exact Nat.le_refl _)
            rw [if_pos hd] at hms
            have hll : (q ++ [Y] ++ [T1] ++ coms P b' Z P.orders.length).length ≤ q.length + 2 + P.orders.length := by have := coms_len P b' Z P.orders.length; simp; omega
            have hmul : miss b' P.orders.length * (P.orders.length + 3) = miss (b'.set d Z) P.orders.length * (P.orders.length + 3) + (P.orders.length + 3) := by rw [← hms, Nat.add_mul, Nat.one_mul]
            have hSt5 : Hid (AddSt P H L b (b'.set d Z) (q ++ [Y] ++ [T1] ++ coms P b' Z P.orders.length) true) := by
              obtain ⟨⟨R, hA⟩, h2, h3, h4⟩ := hSt1.out
              have hst := G.add_step hA hd HD.out.2.1 HD.out.2.2.1 hsq4.tab.len kk hk0 HK.out
              rw [← HZ.out, ← HT1.out] at hst
              exact Lib.hid ⟨hst, by simp, fun _ => by omega, by omega⟩
            have hlt5 : miss (b'.set d Z) P.orders.length * (P.orders.length + 3) + (q ++ [Y] ++ [T1] ++ coms P b' Z P.orders.length).length < gk := by have := HM.out; omega
            have HX := Lib.hid (And.intro hll (And.intro hlt5 (And.intro hmul hms))); clear hll hmul hms hlt5 hSt1 hcc hq4 hsq4 hZI4
            have q1' : (d : Int) < P.orders.length := by omega
            go_wp2
            go_roundg (miss (b'.set d Z) P.orders.length * (P.orders.length + 3) + (q ++ [Y] ++ [T1] ++ coms P b' Z P.orders.length).length)
            case measure => exact HX.out.2.1
            case rel => exact ⟨b'.set d Z, _, true, by have := HX.out.2.1; omega, rfl, rfl, grown_trans hg4 hg5, hs5, hq5, hSt5⟩

end Go.Proofs.YtdklekdpdbjfiaaGreat

/- impl.generated. -/
namespace Go.Proofs.YtdklekdpdbjfiaaGreat
open Go.RowKit

section
variable {P : Pr} (G : Grp P)
include G

theorem Grp.inv_one : rInv P (zeros P.orders.length) = zeros P.orders.length := by
  have h := G.inv_mul G.oneV
  rwa [G.grp.er _ (G.invV G.oneV)] at h

theorem Grp.sub_one : Sub P (fun x => x = zeros P.orders.length) :=
  ⟨fun x h => by rw [h]; exact G.oneV, rfl, fun x y hx hy => by rw [hx, hy]; exact G.grp.el _ G.oneV, fun x h => by rw [h]; exact G.inv_one⟩

theorem Grp.ind_one : Ind P (fun x => x = zeros P.orders.length) (gt (List.replicate P.orders.length ([] : List Int))) :=
  ⟨G.sub_one, fun d hd h => absurd (by simp [gt, hd]) h, fun x hx d hd _ h0 => absurd (by rw [hx]; exact gt_replicate _ _) h0⟩

omit G in
theorem genP_one (Q : List Int → Prop) : genP P (fun x => x = zeros P.orders.length ∨ Q x) = genP P Q :=
  funext fun x => propext ⟨fun h K S hQ => h K S (fun y hy => hy.elim (fun e => by rw [e]; exact S.one) (hQ y)), fun h K S hQ => h K S (fun y hy => hQ y (.inr hy))⟩

end

set_option maxHeartbeats 400000 in
theorem generated_ok (P : Pr) (G : Grp P) (w : World) (p lv : Value) (L : List (List Int)) (Sp Sr : Nat → Prop) (hp : PresP Sp w p P) (hl : Rows2 Sr w lv L) (hL : ∀ x ∈ L, Vec P.orders x) (hlen : L.length ≤ 10000) :
    Calls Tryz.prog 72 #[p, lv] w (Ret w fun w' v => RowsO w.heap.size w' v (cseq P (genP P (fun x => x ∈ L)))) := by
  have hP := G.v
  have hn6 := hP.n6
  obtain ⟨pb, po, rfl⟩ := hp.shape
  obtain ⟨al, capl, rfl, _, _⟩ := Sl.shape hl
  have HL := Lib.hid hL; clear hL
  go_enter Tryz.func72, Tryz.ntmps72
  go_wp2_with fail
  refine Calls.mono (newSequence_ok P w _ Sp (fun _ => False) hp hn6) ?_
  rintro e1 w1 ⟨v1, rfl, hg1, sb, gb, rfl, hs⟩
  have hgb := hs.tab.lt
  have hsb := hs.sB
  go_wp2_with fail
  refine Calls.mono (add_ok P G w1 sb gb w.heap.size _ _ L _ (fun x => x = zeros P.orders.length) (hp.mono (fun k _ hlt => ⟨by omega, Nat.lt_of_lt_of_le hlt hg1.size, hg1.block k hlt (by simp)⟩)) hs G.ind_one HL.out (Rows2.mono hl (fun k _ hlt => ⟨by omega, Nat.lt_of_lt_of_le hlt hg1.size, hg1.block k hlt (by simp)⟩)) hlen) ?_
  rintro e2 w2 ⟨b2, g, rfl, hg2, hs2, hA, _, _⟩
  rw [genP_one] at hA
  have hgw2 : Ext w w2 := grown_own hg1 hg2 (fun j hj hlt => by cases hj; omega)
  have HA := Lib.hid hA; clear hA
  go_wp2_with fail
  refine Calls.mono (canonical_ok P G w2 sb gb w.heap.size _ b2 _ _ _ (hp.ext hgw2) hs2 HA.out) ?_
  rintro e3 w3 ⟨v3, rfl, hg3, hO⟩
  go_wp2
  go_ret
  exact ⟨_, rfl, grown_trans hgw2 hg3, hO.weak hgw2.size⟩

end Go.Proofs.YtdklekdpdbjfiaaGreat

/- impl.sameRows, impl.areSubgroups. -/
namespace Go.Proofs.YtdklekdpdbjfiaaGreat
open Go.RowKit

set_option maxHeartbeats 1000000 in
theorem eqRows_ok (v1 v2 : Value) (A B : List (List Int)) (w : World) (S1 S2 : Nat → Prop) (h1 : Rows2 S1 w v1 A) (h2 : Rows2 S2 w v2 B) :
    Calls Tryz.prog 183 #[v1, v2, .func (.func 167) #[] #[]] w (Ret w fun _ v => v = .bool (eqB A B)) := by
  obtain ⟨a1, cap1, rfl, _, _⟩ := Sl.shape h1
  obtain ⟨a2, cap2, rfl, _, _⟩ := Sl.shape h2
  by_cases hl : A.length = B.length
  · have HL := Lib.hid hl
    have hb0 : ((A.length : Int) != (B.length : Int)) = false := by simp [hl]
    clear hl
    go_enter Tryz.func183, Tryz.ntmps183
    go_wp2
    go_loopw [17] (fun iv wr => ∃ k : Nat, iv = .int .i64 k ∧ k ≤ A.length ∧ Ext w wr ∧ Hid (∀ j, j < k → gt A j = gt B j)) (fun iv _ => A.length - (intOf iv).toNat)
    case atStart => exact ⟨0, rfl, by omega, Ext.refl _, Lib.hid (fun j h => by omega)⟩
    case round =>
      obtain ⟨k, rfl, hk, hg, hE⟩ := hrel
      clear hb0
      by_cases hlt : k < A.length
      · have hlt' : (k : Int) < A.length := by omega
        have hlt2 : (k : Int) < B.length := by have := HL.out; omega
        obtain ⟨b1, o1, c1, d1, rfl, _, _, hc1, hi1⟩ := Rows2.at (Rows2.ext h1 hg) k hlt
        obtain ⟨b2, o2, c2, d2, rfl, _, _, hc2, hi2⟩ := Rows2.at (Rows2.ext h2 hg) k (by omega)
        have hk0 : (0 : Int) ≤ k := by omega
        go_wp2_with fail
        refine Calls.mono (sEqual_ok _ _ (gt A k) (gt B k) wr _ _ hi1 hi2) ?_
        rintro eE wE ⟨vE, rfl, hgE, rfl⟩
        clear hc1 hc2
        cases hq : eqB (gt A k) (gt B k) with
        | true =>
          have HQ := Lib.hid hq; clear hq
          go_wp2
          go_roundw
          case rel => exact ⟨k + 1, by go_num, by omega, grown_trans hg hgE, Lib.hid (fun j hj => by
            rcases Nat.lt_succ_iff_lt_or_eq.1 hj with h | h
            · exact hE.out j h
            · rw [h]; exact eqB_true.1 HQ.out)⟩
          case measure => simp [intOf]; omega
        | false =>
          have hf := eqB_false_at (eqB_false.1 hq)
          have HQ := Lib.hid hf; clear hq hf
          go_wp2
          go_ret
          exact ⟨_, rfl, grown_trans hg hgE, by rw [HQ.out]; rfl⟩
      · have he : eqB A B = true := eqB_true.2 (ext_gt HL.out (fun i hi => hE.out i (by omega)))
        have HE := Lib.hid he; clear he
        go_wp2
        go_ret
        exact ⟨_, rfl, hg, by rw [HE.out]; rfl⟩
  · have he : eqB A B = false := eqB_false.2 (fun e => hl (by rw [e]))
    have HE := Lib.hid he; clear he
    have hb0 : ((A.length : Int) != (B.length : Int)) = true := by simp; omega
    clear hl
    go_enter Tryz.func183, Tryz.ntmps183
    go_wp2
    go_ret
    exact ⟨_, rfl, Ext.refl _, by rw [HE.out]; rfl⟩

theorem sameRows_ok (v1 v2 : Value) (A B : List (List Int)) (w : World) (S1 S2 : Nat → Prop) (h1 : Rows2 S1 w v1 A) (h2 : Rows2 S2 w v2 B) :
    Calls Tryz.prog 119 #[v1, v2] w (Ret w fun _ v => v = .bool (eqB A B)) := by
  have hcon := eqRows_ok v1 v2 A B w S1 S2 h1 h2
  obtain ⟨a1, cap1, rfl, _, _⟩ := Sl.shape h1
  obtain ⟨a2, cap2, rfl, _, _⟩ := Sl.shape h2
  go_enter Tryz.func119, Tryz.ntmps119
  go_wp2_with fail
  refine Calls.mono hcon ?_
  rintro e1 w1 ⟨v, rfl, hg, rfl⟩
  clear hcon
  go_wp2
  go_ret
  exact ⟨_, rfl, hg, rfl⟩

/-- u is the canonical sequence of a subgroup -/
def SubB (P : Pr) (u : List (List Int)) : Prop := (∀ x ∈ u, Vec P.orders x) ∧ u = cseq P (genP P (fun x => x ∈ u))

theorem Grp.cseq_len {P : Pr} (G : Grp P) {H : List Int → Prop} (S : Sub P H) : (cseq P H).length ≤ P.orders.length := by
  obtain ⟨r, _, h⟩ := G.cseq_spec S
  rw [h, sq_all]; exact sq_len _ _ _

theorem Grp.sub_len {P : Pr} (G : Grp P) {u : List (List Int)} (h : SubB P u) : u.length ≤ P.orders.length := by
  rw [h.2]; exact G.cseq_len (G.genP_sub h.1)

set_option maxRecDepth 100000 in
set_option maxHeartbeats 2000000 in
theorem areSubgroups_ok (P : Pr) (w : World) (p lv : Value) (us : List (List (List Int))) (Sp Sr : Nat → Prop) (hp : PresP Sp w p P) (hl : Rows3 Sr w lv us) :
    Calls Tryz.prog 66 #[p, lv] w (Ret w fun _ v => ∃ r : Bool, v = .bool r ∧ (r = true ↔ rconsB P = true ∧ ∀ u ∈ us, SubB P u)) := by
  obtain ⟨pb, po, rfl⟩ := hp.shape
  obtain ⟨al, capl, rfl, _, _⟩ := Sl.shape hl
  obtain ⟨vo, vp, vc, _, _, hc0, hc1, hc2, h3⟩ := hp.at
  obtain ⟨ao, capo, rfl, _, _⟩ := h3.o.shape
  obtain ⟨ap, capp, rfl, _, _⟩ := Sl.shape h3.p
  obtain ⟨ac, capc, rfl, _, _⟩ := Sl.shape h3.c
  have hcon := isConsistent_ok P w (.agg #[.slice ao P.orders.length capo, .slice ap P.powers.length capp, .slice ac P.conj.length capc]) Sp ⟨_, _, _, rfl, h3⟩
  rw [icons_eq] at hcon
  go_enter Tryz.func66, Tryz.ntmps66
  go_wp2_with fail
  refine Calls.mono hcon ?_
  rintro e1 w1 ⟨v, rfl, hg1, rfl⟩
  clear hcon
  cases hq : rconsB P with
  | false =>
    have HQ := Lib.hid hq; clear hq
    go_wp2
    go_ret
    exact ⟨_, rfl, hg1, false, rfl, by simp only [Bool.false_eq_true, false_iff]; rintro ⟨h, _⟩; rw [HQ.out] at h; cases h⟩
  | true =>
    have G := grp_of_r hq
    have hn6 := G.v.n6
    have HQ := Lib.hid hq; clear hq hc1 hc2
    go_wp2
    go_loopw [16] (fun iv wr => ∃ i : Nat, iv = .int .i64 i ∧ i ≤ us.length ∧ Ext w wr ∧ Hid (∀ j, j < i → SubB P (gt us j))) (fun iv _ => us.length - (intOf iv).toNat)
    case atStart => exact ⟨0, rfl, by omega, hg1, Lib.hid (fun j h => by omega)⟩
    case round =>
      obtain ⟨i, rfl, hi, hg, hS⟩ := hrel
      by_cases hlt : i < us.length
      · have hlt' : (i : Int) < us.length := by omega
        obtain ⟨b, off, a2, cap2, rfl, _, _, hcu, hu⟩ := Rows3.at hl i hlt
        obtain ⟨U, hU⟩ : ∃ U, U = gt us i := ⟨_, rfl⟩
        rw [← hU] at hcu hu
        have HUe := Lib.hid hU; clear hU
        have hc0r := hg.cell hc0 (by simp)
        have hcur := hg.cell hcu (by simp)
        by_cases hlen : U.length ≤ P.orders.length
        · have hgt : ¬ (P.orders.length : Int) < U.length := by omega
          go_wp2
          clear hcur hc0r hgt
          go_loopw [30] (fun jv wr => ∃ j : Nat, jv = .int .i64 j ∧ j ≤ U.length ∧ Ext w wr ∧ Hid (∀ l, l < j → Vec P.orders (gt U l))) (fun jv _ => U.length - (intOf jv).toNat)
          case atStart => exact ⟨0, rfl, by omega, hg, Lib.hid (fun j h => by omega)⟩
          case round =>
            clear hg
            obtain ⟨j, rfl, hj, hg, hV⟩ := hrel
            by_cases hjl : j < U.length
            · have hjl' : (j : Int) < U.length := by omega
              obtain ⟨b3, off3, a3, cap3, rfl, _, _, hc3, hr3⟩ := Rows2.at (Rows2.ext hu hg) j hjl
              have hex := isExponents_ok wr _ _ P (gt U j) Sp Sr (hp.ext hg) hr3 (fun i hi => by have := G.v.ord7 i hi; omega)
              cases hb : expB P.orders (gt U j) with
              | true =>
                rw [hb] at hex
                have HB := Lib.hid (expB_vec.1 hb); clear hb
                go_wp2_with fail
                refine Calls.mono hex ?_
                rintro eE wE ⟨rfl, rfl⟩
                clear hex
                go_wp2
                go_roundw
                case rel => exact ⟨j + 1, by go_num, by omega, hg, Lib.hid (fun l hl => by
                  rcases Nat.lt_succ_iff_lt_or_eq.1 hl with h | h
                  · exact hV.out l h
                  · rw [h]; exact HB.out)⟩
                case measure => simp [intOf]; omega
              | false =>
                rw [hb] at hex
                have hno : ¬ SubB P U := fun h => by
                  have := expB_vec.2 (h.1 _ (gtMem hjl))
                  rw [hb] at this; cases this
                have HB := Lib.hid hno; clear hb hno
                go_wp2_with fail
                refine Calls.mono hex ?_
                rintro eE wE ⟨rfl, rfl⟩
                clear hex
                go_wp2
                go_ret
                exact ⟨_, rfl, hg, false, rfl, by
                  simp only [Bool.false_eq_true, false_iff]
                  rintro ⟨_, h⟩
                  exact HB.out (by rw [HUe.out]; exact h _ (gtMem hlt))⟩
            · have hje : j = U.length := by omega
              subst hje
              have hUV : ∀ x ∈ U, Vec P.orders x := fun x hx => by
                obtain ⟨l, hl, rfl⟩ := List.getElem_of_mem hx
                rw [← gt_eq U l hl]; exact hV.out l hl
              have hcl : (cseq P (genP P (fun x => x ∈ U))).length ≤ P.orders.length := G.cseq_len (G.genP_sub hUV)
              have HUV := Lib.hid hUV; clear hUV
              go_wp2_with fail
              refine Calls.mono (generated_ok P G wr _ _ U Sp Sr (hp.ext hg) (Rows2.ext hu hg) HUV.out (by omega)) ?_
              rintro eG wG ⟨vG, rfl, hgG, hOG⟩
              have hgw := grown_trans hg hgG
              have hRG := RowsD.rows (hOG.toD (by omega))
              obtain ⟨aG, capG, hvG, _, _⟩ := Sl.shape hRG
              subst hvG
              go_wp2_with fail
              refine Calls.mono (sameRows_ok _ _ _ U wG _ _ hRG (Rows2.ext hu hgw)) ?_
              rintro eS wS ⟨vS, rfl, hgS, rfl⟩
              cases hb : eqB (cseq P (genP P (fun x => x ∈ U))) U with
              | true =>
                have HB := Lib.hid (eqB_true.1 hb); clear hb
                go_wp2
                go_roundw
                case rel => exact ⟨i + 1, by go_num, by omega, grown_trans hgw hgS, Lib.hid (fun l hl => by
                  rcases Nat.lt_succ_iff_lt_or_eq.1 hl with h | h
                  · exact hS.out l h
                  · rw [h, ← HUe.out]; exact ⟨HUV.out, HB.out.symm⟩)⟩
                case measure => simp [intOf]; omega
              | false =>
                have HB := Lib.hid (eqB_false.1 hb); clear hb
                go_wp2
                go_ret
                exact ⟨_, rfl, grown_trans hgw hgS, false, rfl, by
                  simp only [Bool.false_eq_true, false_iff]
                  rintro ⟨_, h⟩
                  have := h _ (gtMem hlt)
                  rw [← HUe.out] at this
                  exact HB.out this.2.symm⟩
        · have hgt : (P.orders.length : Int) < U.length := by omega
          have hno : ¬ SubB P U := fun h => hlen (G.sub_len h)
          have HB := Lib.hid hno; clear hno hlen
          go_wp2
          go_ret
          exact ⟨_, rfl, hg, false, rfl, by
            simp only [Bool.false_eq_true, false_iff]
            rintro ⟨_, h⟩
            exact HB.out (by rw [HUe.out]; exact h _ (gtMem hlt))⟩
      · have hie : i = us.length := by omega
        subst hie
        go_wp2
        go_ret
        exact ⟨_, rfl, hg, true, rfl, by
          simp only [true_iff]
          exact ⟨HQ.out, fun u hu => by
            obtain ⟨l, hl, rfl⟩ := List.getElem_of_mem hu
            rw [← gt_eq us l hl]; exact hS.out l hl⟩⟩

end Go.Proofs.YtdklekdpdbjfiaaGreat

/- Plain: a sequence as a table by depths, as the reference lays it; coset representatives, sifting and the reduced sequence by such a table. -/
namespace Go.Proofs.YtdklekdpdbjfiaaGreat

theorem pwZ_nat (P : Pr) (x : List Int) (k : Int) (hk : 0 ≤ k) : pwZ P x k = pw P x k.toNat := by
  unfold pwZ; rw [if_neg (by omega)]

/-- the reference's reduction: the first d entries are cleared -/
structure RedTo (P : Pr) (H : List Int → Prop) (b : List (List Int)) (X : List Int) (d : Nat) (Y : List Int) : Prop where
  vec : Vec P.orders Y
  cos : H (rMul P (rInv P X) Y)
  zer : ∀ e, e < d → gt b e ≠ [] → gt Y e = 0

/-- the reference's sifting: all entries before d are cleared -/
structure StripTo (P : Pr) (b : List (List Int)) (X : List Int) (d : Nat) (Y : List Int) : Prop where
  vec : T P d Y
  inv : ∀ Q q R, AddInv P Q (gt b) (X :: q) R → ∃ R', AddInv P Q (gt b) (Y :: q) R'

/-- the reference's way to the reduced sequence: the entries from m to e are cleared -/
structure FullTo (P : Pr) (r : Nat → List Int) (m : Nat) (X : List Int) (e : Nat) (Y : List Int) : Prop where
  vec : Vec P.orders Y
  zer : ∀ i, m ≤ i → i < e → r i ≠ [] → gt Y i = 0
  cos : ∀ K, Sub P K → (∀ i, m ≤ i → i < P.orders.length → r i ≠ [] → K (r i)) → K (rMul P (rInv P X) Y)
  old : ∀ k, (∀ i, m ≤ i → i < P.orders.length → r i ≠ [] → k < i) → gt Y k = gt X k

/-- the commutators of the reference: the new entry first -/
def comsR (P : Pr) (b : List (List Int)) (z : List Int) : Nat → List (List Int)
  | 0 => []
  | k + 1 => comsR P b z k ++ (if gt b k = [] then [] else [comR P z (gt b k)])

theorem comsR_len (P : Pr) (b : List (List Int)) (z : List Int) (k : Nat) : (comsR P b z k).length ≤ k := by
  induction k with
  | zero => exact Nat.le_refl _
  | succ k ih => simp only [comsR]; split <;> simp <;> omega

theorem mem_comsR {P : Pr} {b : List (List Int)} {z x : List Int} {k : Nat} : x ∈ comsR P b z k ↔ ∃ e, e < k ∧ gt b e ≠ [] ∧ x = comR P z (gt b e) := by
  induction k with
  | zero => simp [comsR]
  | succ k ih =>
    simp only [comsR, List.mem_append, ih]
    constructor
    · rintro (⟨e, h1, h2, h3⟩ | h)
      · exact ⟨e, by omega, h2, h3⟩
      · split at h
        · simp at h
        · rename_i hk
          simp at h
          exact ⟨k, by omega, hk, h⟩
    · rintro ⟨e, h1, h2, h3⟩
      rcases Nat.lt_succ_iff_lt_or_eq.1 h1 with h | h
      · exact .inl ⟨e, h, h2, h3⟩
      · subst h; right; rw [if_neg h2]; simp [h3]

section
variable {P : Pr} (G : Grp P)
include G

omit G in
theorem RedTo.skip {H : List Int → Prop} {b : List (List Int)} {X Y : List Int} {d : Nat} (h : RedTo P H b X d Y) (h0 : gt b d = [] ∨ gt Y d = 0) : RedTo P H b X (d + 1) Y :=
  ⟨h.vec, h.cos, fun e he hb => by
    rcases Nat.lt_succ_iff_lt_or_eq.1 he with h1 | h1
    · exact h.zer e h1 hb
    · subst h1; exact h0.elim (fun h => absurd h hb) id⟩

omit G in
theorem stripTo_zero {b : List (List Int)} {X : List Int} (hX : Vec P.orders X) : StripTo P b X 0 X := ⟨T_zero.2 hX, fun _ _ R A => ⟨R, A⟩⟩

omit G in
theorem StripTo.skip {b : List (List Int)} {X Y : List Int} {d : Nat} (h : StripTo P b X d Y) (h0 : gt Y d = 0) : StripTo P b X (d + 1) Y := ⟨h.vec.up h0, h.inv⟩

theorem Grp.stripTo_step {b : List (List Int)} {X Y : List Int} {d : Nat} (hd : d < P.orders.length) (hb : gt b d ≠ []) (ht : T P d (gt b d) ∧ gt (gt b d) d = 1) (h0 : gt Y d ≠ 0) (h : StripTo P b X d Y) :
    StripTo P b X (d + 1) (rMul P Y (pwZ P (gt b d) (-(gt Y d)))) := by
  have hc := G.right_clear hd h.vec.1 ht.1 ht.2
  have hT : T P (d + 1) (rMul P Y (pwZ P (gt b d) (-(gt Y d)))) := T.up ⟨hc.2.2, fun k hk => by rw [hc.2.1 k hk]; exact h.vec.2 k hk⟩ hc.1
  have hp := G.pwZ_vec ht.1.1 (-(gt Y d))
  refine ⟨hT, fun Q q R A => ?_⟩
  obtain ⟨R1, A1⟩ := h.inv Q q R A
  refine ⟨_, addInv_sift A1 hd h.vec h0 hb hT (fun K S h1 h2 => ?_) (fun K S h1 h2 => S.mul _ _ h2 (S.pwZ h1 _))⟩
  have h3 := S.mul _ _ h2 (S.inv _ (S.pwZ h1 (-(gt Y d))))
  rwa [G.ass h.vec.1 hp (G.invV hp), G.mul_inv hp, G.grp.er _ h.vec.1] at h3

/-- an entry is put in its place, in the reference's order -/
theorem Grp.close_step {Q : List Int → Prop} {b q q' : List (List Int)} {R : List Int → Prop} {y : List Int} (A : AddInv P Q (gt b) (y :: q) R) {d : Nat} (hd : d < P.orders.length) (hT : T P d y) (hb : gt b d = []) (hlen : b.length = P.orders.length)
    (k : Int) (hk0 : 0 ≤ k) (hk : (k * gt y d) % gt P.orders d = 1) (hq' : ∀ x, x ∈ q' ↔ x ∈ q ∨ x = y ∨ x = pw P (pw P y k.toNat) (gt P.orders d).toNat ∨ x ∈ comsR P b (pw P y k.toNat) P.orders.length) :
    ∃ R', AddInv P Q (gt (b.set d (pw P y k.toNat))) q' R' := by
  obtain ⟨hz, hz1⟩ := G.lead_one hd hT k hk0 hk
  refine ⟨_, G.addInv_insert A hd hT hb hz hz1 (fun K S h => S.pw h _) (fun e he => ?_) (fun x hx => ?_) (fun x hx => ?_) (fun e he hbe => .inr ?_)⟩
  · by_cases h : e = d
    · subst h; rw [if_pos rfl, gt_set_eq _ _ _ (by omega)]
    · rw [if_neg h, gt_set_ne _ _ _ _ (fun h2 => h h2.symm)]
  · rcases (hq' x).1 hx with h | h | h | h
    · exact .inl h
    · exact .inr (.inl h)
    · exact .inr (.inr (.inr (.inl h)))
    · obtain ⟨e, h1, h2, h3⟩ := mem_comsR.1 h
      exact .inr (.inr (.inr (.inr ⟨e, h1, h2, .inr h3⟩)))
  · rw [hq']
    rcases hx with h | h | h
    · exact .inl h
    · exact .inr (.inl h)
    · exact .inr (.inr (.inl h))
  · rw [hq']
    exact .inr (.inr (.inr (mem_comsR.2 ⟨e, he, hbe, rfl⟩)))

theorem Grp.fullTo_zero {r : Nat → List Int} {m : Nat} {X : List Int} (hX : Vec P.orders X) : FullTo P r m X m X :=
  ⟨hX, fun i h1 h2 => by omega, fun K S _ => by rw [G.inv_mul hX]; exact S.one, fun _ _ => rfl⟩

omit G in
theorem FullTo.skip {r : Nat → List Int} {m e : Nat} {X Y : List Int} (h : FullTo P r m X e Y) (h0 : r e = [] ∨ gt Y e = 0) : FullTo P r m X (e + 1) Y :=
  ⟨h.vec, fun i h1 h2 hr => by
    rcases Nat.lt_succ_iff_lt_or_eq.1 h2 with h3 | h3
    · exact h.zer i h1 h3 hr
    · subst h3; exact h0.elim (fun h => absurd h hr) id, h.cos, h.old⟩

theorem Grp.fullTo_step {r : Nat → List Int} {m e : Nat} {X Y : List Int} (hX : Vec P.orders X) (hme : m ≤ e) (he : e < P.orders.length) (hr : r e ≠ []) (ht : T P e (r e) ∧ gt (r e) e = 1) (h : FullTo P r m X e Y) :
    FullTo P r m X (e + 1) (rMul P Y (pwZ P (r e) (-(gt Y e)))) := by
  have hc := G.right_clear he h.vec ht.1 ht.2
  refine ⟨hc.2.2, fun i h1 h2 hri => ?_, fun K S hK => ?_, fun k hk => by rw [hc.2.1 k (hk e hme he hr)]; exact h.old k hk⟩
  · rcases Nat.lt_succ_iff_lt_or_eq.1 h2 with h3 | h3
    · rw [hc.2.1 i h3]; exact h.zer i h1 h3 hri
    · subst h3; exact hc.1
  · rw [← G.ass (G.invV hX) h.vec (G.pwZ_vec ht.1.1 _)]
    exact S.mul _ _ (h.cos K S hK) (S.pwZ (hK e hme he hr) _)

omit G in
/-- what the reference's way gives is what the program's way gives -/
theorem FullTo.repTo {H : List Int → Prop} {b r : Nat → List Int} {d k : Nat} {X Y : List Int} (h : FullTo P r (d + 1) X P.orders.length Y) (C : CanInv P H b r (d + 1)) (hk : d + 1 + k = P.orders.length) :
    RepTo P (sq r k (d + 1)) X (sq r k (d + 1)).length Y := by
  refine ⟨h.vec, fun j hj => ?_, fun K S hK => h.cos K S (fun i h1 h2 h3 => hK _ (mem_sq.2 ⟨i, h1, by omega, h3, rfl⟩)), fun j hj => h.old j (fun i h1 h2 h3 => by
    have := hj _ (mem_sq.2 ⟨i, h1, by omega, h3, rfl⟩)
    rwa [C.dep h1 h2 h3] at this)⟩
  obtain ⟨e, h1, h2, h3, h4⟩ := mem_sq.1 (gtMem hj)
  rw [h4, C.dep h1 (by omega) h3]
  exact h.zer e h1 (by omega) h3

end

end Go.Proofs.YtdklekdpdbjfiaaGreat

/- Plain: generated subgroups of sets; intersections. -/
namespace Go.Proofs.YtdklekdpdbjfiaaGreat

theorem genP_self {P : Pr} {H : List Int → Prop} (S : Sub P H) : genP P H = H :=
  funext fun _ => propext ⟨fun h => h H S (fun _ hy => hy), fun h => genP_mem h⟩

theorem genP_or (P : Pr) (Q L : List Int → Prop) : genP P (fun x => genP P Q x ∨ L x) = genP P (fun x => Q x ∨ L x) :=
  funext fun _ => propext ⟨fun h K S hQ => h K S (fun y hy => hy.elim (fun h => h K S (fun z hz => hQ z (.inl hz))) (fun h => hQ y (.inr h))),
    fun h K S hQ => h K S (fun y hy => hy.elim (fun h => hQ y (.inl (genP_mem h))) (fun h => hQ y (.inr h)))⟩

theorem Sub.and {P : Pr} {H K : List Int → Prop} (S : Sub P H) (R : Sub P K) : Sub P (fun x => H x ∧ K x) :=
  ⟨fun _ h => S.vec _ h.1, ⟨S.one, R.one⟩, fun _ _ h k => ⟨S.mul _ _ h.1 k.1, R.mul _ _ h.2 k.2⟩, fun _ h => ⟨S.inv _ h.1, R.inv _ h.2⟩⟩

theorem Grp.genP_none {P : Pr} (G : Grp P) : genP P (fun _ => False) = fun x => x = zeros P.orders.length :=
  funext fun _ => propext ⟨fun h => h _ G.sub_one (fun _ h => h.elim), fun h K S _ => by rw [h]; exact S.one⟩

/-- what the list of a subgroup generates is a subgroup, of which the list is the sequence -/
theorem Grp.subB {P : Pr} (G : Grp P) {u : List (List Int)} (h : SubB P u) : Sub P (genP P (fun x => x ∈ u)) := G.genP_sub h.1

end Go.Proofs.YtdklekdpdbjfiaaGreat

/- Plain: a group of order at most 32 has at most 17408 subgroups (a crude bound). -/
namespace Go.Proofs.YtdklekdpdbjfiaaGreat

theorem flatMap_len' {α β : Type} (l : List α) (f : α → List β) (n : Nat) (h : ∀ x ∈ l, (f x).length = n) : (l.flatMap f).length = l.length * n := by
  induction l with
  | nil => simp
  | cons a l ih =>
    rw [List.flatMap_cons, List.length_append, h a (List.mem_cons_self ..), ih (fun x hx => h x (List.mem_cons_of_mem _ hx)), List.length_cons, Nat.succ_mul]; omega
/-- a list without doubles whose members lie in another one is no longer -/
theorem nodup_sub_len {α : Type} : ∀ (l m : List α), l.Nodup → (∀ x ∈ l, x ∈ m) → l.length ≤ m.length
  | [], m, _, _ => by simp
  | a :: l, m, hn, hs => by
    obtain ⟨m1, m2, rfl⟩ := List.append_of_mem (hs a (List.mem_cons_self ..))
    have hn' := List.nodup_cons.1 hn
    have := nodup_sub_len l (m1 ++ m2) hn'.2 (fun x hx => by
      have h1 := hs x (List.mem_cons_of_mem _ hx)
      rw [List.mem_append, List.mem_cons] at h1
      rw [List.mem_append]
      rcases h1 with h1 | h1 | h1
      · exact .inl h1
      · subst h1; exact absurd hx hn'.1
      · exact .inr h1)
    simp only [List.length_append, List.length_cons] at *
    omega

end Go.Proofs.YtdklekdpdbjfiaaGreat

/- impl.sizeOf. -/
namespace Go.Proofs.YtdklekdpdbjfiaaGreat
open Go.RowKit

def prodU (P : Pr) (U : List (List Int)) : Nat → Int
  | 0 => 1
  | k + 1 => prodU P U k * gt P.orders (dep (gt U k))

theorem prodU_le {P : Pr} (hP : Valid P) {U : List (List Int)} (hU : SeqOk P U) : ∀ k m, k ≤ U.length → (∀ j, j < k → dep (gt U j) < m) → m ≤ P.orders.length → 1 ≤ prodU P U k ∧ prodU P U k ≤ prodTo P.orders m := by
  intro k
  induction k with
  | zero => intro m _ _ hm; exact ⟨by simp [prodU], prodTo_pos m (fun i hi => hP.pos i (by omega))⟩
  | succ k ih =>
    intro m hk hj hm
    have hd := hj k (by omega)
    have hlt : k < U.length := by omega
    obtain ⟨h1, h2⟩ := ih (dep (gt U k)) (by omega) (fun j hj => hU.2 j k hj hlt) (by omega)
    have ho := hP.ord7 (dep (gt U k)) (by omega)
    have h3 : prodU P U k * gt P.orders (dep (gt U k)) ≤ prodTo P.orders (dep (gt U k)) * gt P.orders (dep (gt U k)) := Int.mul_le_mul_of_nonneg_right h2 (by omega)
    have h4 : prodTo P.orders (dep (gt U k) + 1) ≤ prodTo P.orders m := prodTo_mono _ _ (by omega) (fun i hi => hP.pos i (by omega))
    have h5 : 1 * 1 ≤ prodU P U k * gt P.orders (dep (gt U k)) := Int.mul_le_mul h1 (by omega) (by omega) (by omega)
    simp only [prodTo] at h4
    simp only [prodU]
    exact ⟨by omega, by omega⟩

theorem prodU_729 {P : Pr} (hP : Valid P) {U : List (List Int)} (hU : SeqOk P U) (k : Nat) (hk : k ≤ U.length) : 1 ≤ prodU P U k ∧ prodU P U k ≤ 729 := by
  obtain ⟨h1, h2⟩ := prodU_le hP hU k P.orders.length hk (fun j hj => (hU.1 _ (gtMem (by omega))).2.1) (Nat.le_refl _)
  have := hP.le729
  exact ⟨h1, by omega⟩

set_option maxHeartbeats 1000000 in
theorem sizeOf_ok (P : Pr) (hP : Valid P) (w : World) (p uv : Value) (U : List (List Int)) (Sp Su : Nat → Prop) (hp : PresP Sp w p P) (hu : Rows2 Su w uv U) (hU : SeqOk P U) (hl : U.length ≤ 100) :
    Calls Tryz.prog 69 #[p, uv] w (Ret w fun _ v => v = .int .i64 (prodU P U U.length)) := by
  have hn6 := hP.n6
  obtain ⟨pb, po, rfl⟩ := hp.shape
  obtain ⟨ao, capo, hco0, hoi⟩ := hp.ordAt
  obtain ⟨au, capu, rfl, _, _⟩ := Sl.shape hu
  have hUz : ∀ z ∈ U, dep z < z.length := fun z hz => by have := hU.1 z hz; rw [this.1.1]; exact this.2.1
  have HU := Lib.hid hU; clear hU
  go_enter Tryz.func69, Tryz.ntmps69
  go_wp2_with fail
  refine Calls.mono (pivots_ok _ U w Su hu hUz (by omega)) ?_
  rintro e1 w1 ⟨pv, rfl, hg1, hV1⟩
  have hpvs : ∃ az capz, pv = .slice az U.length capz := by
    rcases hV1.form with ⟨h1, h2⟩ | ⟨g, cp, h1, _⟩
    · have h3 : U.length = 0 := by unfold depV at h2; rw [List.map_eq_nil_iff] at h2; rw [h2]; rfl
      exact ⟨none, 0, by rw [h1, h3]⟩
    · exact ⟨_, _, by rw [h1]; unfold depV; rw [List.length_map]⟩
  obtain ⟨ap, capp, rfl⟩ := hpvs
  go_wp2
  go_loopw [5, 11] (fun mv iv wr => ∃ i : Nat, mv = .int .i64 (prodU P U i) ∧ iv = .int .i64 i ∧ i ≤ U.length ∧ w1 = wr) (fun _ iv _ => U.length - (intOf iv).toNat)
  case atStart => exact ⟨0, rfl, rfl, by omega, rfl⟩
  case round =>
    obtain ⟨i, rfl, rfl, hi, rfl⟩ := hrel
    by_cases hlt : i < U.length
    · have hlt' : (i : Int) < U.length := by omega
      have hdi : gt (depV U) i = .int .i64 (dep (gt U i)) := by unfold depV; rw [gt_map _ _ _ hlt]
      have hpf : ∃ g, ap = some ⟨g, 0, none⟩ := by
        rcases hV1.form with ⟨h1, h2⟩ | ⟨g, cp, h1, _⟩
        · unfold depV at h2; rw [List.map_eq_nil_iff] at h2; rw [h2] at hlt; simp at hlt
        · simp only [Value.slice.injEq] at h1; exact ⟨g, h1.1⟩
      obtain ⟨gp, rfl⟩ := hpf
      have hcp := hV1.cell i (by unfold depV; rw [List.length_map]; exact hlt)
      rw [hdi] at hcp
      clear hdi
      have hst : prodU P U (i + 1) = prodU P U i * gt P.orders (dep (gt U i)) := rfl
      have hb := prodU_729 hP HU.out (i + 1) hlt
      rw [hst] at hb
      obtain ⟨d, hd⟩ : ∃ d, d = dep (gt U i) := ⟨_, rfl⟩
      rw [← hd] at hcp hst hb
      have hdn : d < P.orders.length := by rw [hd]; exact (HU.out.1 _ (gtMem hlt)).2.1
      clear hd
      have hdn' : (d : Int) < P.orders.length := by omega
      obtain ⟨b, off, rfl, _, _, hco⟩ := Ints.at (hoi.ext hg1) d hdn
      have hc0 := hg1.cell hco0 (by simp)
      have hw : IntKind.i64.wrap (prodU P U i * gt P.orders d) = prodU P U i * gt P.orders d := IntWalk.i64_in _ (by omega)
      have HS := Lib.hid hst; clear hst hb
      go_wp2
      go_roundw
      case rel => exact ⟨i + 1, by rw [HS.out], by go_num, by omega, trivial⟩
      case measure => simp [intOf]; omega
    · have hie : i = U.length := by omega
      subst hie
      go_wp2
      go_ret
      exact ⟨_, rfl, hg1, rfl⟩

end Go.Proofs.YtdklekdpdbjfiaaGreat

/- Plain: the subgroups of a small group as sets of bits; all of them are found; the ascending list is one. -/
namespace Go.Proofs.YtdklekdpdbjfiaaGreat

open Classical in
/-- the numbers of the members below k, as bits -/
noncomputable def maskTo (P : Pr) (H : List Int → Prop) : Nat → Nat
  | 0 => 0
  | k + 1 => if H (elAt P k) then maskTo P H k ||| 2 ^ k else maskTo P H k
noncomputable def msk (P : Pr) (H : List Int → Prop) : Nat := maskTo P H (ordP P).toNat

theorem bit_pow (k t : Nat) : (2 ^ k).testBit t = decide (k = t) := by
  by_cases h : k = t
  · subst h; simp
  · simp [Nat.testBit_two_pow_of_ne h, h]

section
variable {P : Pr} (G : Grp P)
include G

/-- the next subgroup -/
def extP (P : Pr) (H : List Int → Prop) (x : List Int) : List Int → Prop := genP P (fun y => H y ∨ y = x)

end

/-- ascending order of subgroups: by order, then by the entries -/
def subLt (P : Pr) (u v : List (List Int)) : Prop := prodU P u u.length < prodU P v v.length ∨ (prodU P u u.length = prodU P v v.length ∧ cmpL u.flatten v.flatten < 0)

/-- the list of all subgroups -/
def LatL (P : Pr) (L : List (List (List Int))) : Prop := L.Pairwise (subLt P) ∧ ∀ u, u ∈ L ↔ SubB P u

theorem subLt_irrefl {P : Pr} {u : List (List Int)} : ¬ subLt P u u := by
  rintro (h | ⟨_, h⟩)
  · omega
  · rw [(cmpL_zero _ _).2 rfl] at h; omega
theorem subLt_trans {P : Pr} {u v w : List (List Int)} (h : subLt P u v) (k : subLt P v w) : subLt P u w := by
  unfold subLt at *
  rcases h with h | ⟨h1, h2⟩ <;> rcases k with k | ⟨k1, k2⟩
  · exact .inl (by omega)
  · exact .inl (by omega)
  · exact .inl (by omega)
  · refine .inr ⟨by omega, ?_⟩
    have h3 := cmpL_le_trans u.flatten v.flatten w.flatten (by omega) (by omega)
    rcases Int.lt_or_eq_of_le h3 with h4 | h4
    · exact h4
    · rw [cmpL_zero] at h4
      rw [h4] at h2
      have := cmpL_swap w.flatten v.flatten
      omega

/-- two ascending lists with the same members are one -/
theorem sorted_one {α : Type} {r : α → α → Prop} (hi : ∀ a, ¬ r a a) (ht : ∀ a b c, r a b → r b c → r a c) : ∀ {l m : List α}, l.Pairwise r → m.Pairwise r → (∀ x, x ∈ l ↔ x ∈ m) → l = m
  | [], [], _, _, _ => rfl
  | [], b :: m, _, _, h => by have := (h b).2 (List.mem_cons_self ..); cases this
  | a :: l, [], _, _, h => by have := (h a).1 (List.mem_cons_self ..); cases this
  | a :: l, b :: m, hl, hm, h => by
    have hl' := List.pairwise_cons.1 hl
    have hm' := List.pairwise_cons.1 hm
    have hab : a = b := by
      rcases List.mem_cons.1 ((h a).1 (List.mem_cons_self ..)) with h1 | h1
      · exact h1
      · rcases List.mem_cons.1 ((h b).2 (List.mem_cons_self ..)) with h2 | h2
        · exact h2.symm
        · exact absurd (ht _ _ _ (hl'.1 b h2) (hm'.1 a h1)) (hi a)
    subst hab
    congr 1
    refine sorted_one hi ht hl'.2 hm'.2 (fun x => ⟨fun hx => ?_, fun hx => ?_⟩)
    · rcases List.mem_cons.1 ((h x).1 (List.mem_cons_of_mem _ hx)) with h1 | h1
      · subst h1; exact absurd (hl'.1 _ hx) (hi _)
      · exact h1
    · rcases List.mem_cons.1 ((h x).2 (List.mem_cons_of_mem _ hx)) with h1 | h1
      · subst h1; exact absurd (hm'.1 _ hx) (hi _)
      · exact h1

theorem LatL.one {P : Pr} {L M : List (List (List Int))} (h : LatL P L) (k : LatL P M) : L = M :=
  sorted_one (fun _ => subLt_irrefl) (fun _ _ _ => subLt_trans) h.1 k.1 (fun u => (h.2 u).trans (k.2 u).symm)

end Go.Proofs.YtdklekdpdbjfiaaGreat

/- Plain: what impl.extendMask and spec.l19Span compute. -/
namespace Go.Proofs.YtdklekdpdbjfiaaGreat

/-- the number of a product -/
def tb (P : Pr) (a b : Nat) : Nat := (num P (rMul P (elAt P a) (elAt P b))).toNat

section
variable {P : Pr} (G : Grp P)
include G

end

end Go.Proofs.YtdklekdpdbjfiaaGreat

/- Plain: what spec.l19Span computes: the bits of the subgroup that some elements generate. -/
namespace Go.Proofs.YtdklekdpdbjfiaaGreat

/-- a bit that is not set, added -/
theorem add_bit {m y : Nat} (h : m.testBit y = false) : m + 2 ^ y = m ||| 2 ^ y := by
  have hlo : m % 2 ^ (y + 1) < 2 ^ y := by
    rcases Nat.lt_or_ge (m % 2 ^ (y + 1)) (2 ^ y) with h1 | h1
    · exact h1
    · have h2 : m % 2 ^ (y + 1) < 2 ^ (y + 1) := Nat.mod_lt _ (Nat.two_pow_pos _)
      have h3 := Nat.testBit_of_two_pow_le_and_two_pow_add_one_gt h1 h2
      rw [Nat.testBit_mod_two_pow] at h3
      simp [h] at h3
  have e1 := Nat.two_pow_add_eq_or_of_lt hlo 1
  rw [Nat.mul_one] at e1
  have hlt : 2 ^ y + m % 2 ^ (y + 1) < 2 ^ (y + 1) := by
    have e := Nat.pow_succ (n := 2) (m := y)
    omega
  have e2 := Nat.two_pow_add_eq_or_of_lt hlt (m / 2 ^ (y + 1))
  have e3 := Nat.two_pow_add_eq_or_of_lt (Nat.lt_trans hlo (Nat.pow_lt_pow_right (by omega) (Nat.lt_succ_self y))) (m / 2 ^ (y + 1))
  have e4 := Nat.div_add_mod m (2 ^ (y + 1))
  have e5 : m + 2 ^ y = 2 ^ (y + 1) * (m / 2 ^ (y + 1)) + (2 ^ y + m % 2 ^ (y + 1)) := by omega
  rw [e5, e2, e1]
  rw [e4] at e3
  rw [← Nat.or_assoc, Nat.or_comm _ (2 ^ y), Nat.or_assoc, ← e3, Nat.or_comm]

/-- the bits are a list's members -/
def Bits (m : Nat) (q : List Nat) : Prop := ∀ t, m.testBit t = true ↔ t ∈ q
theorem Bits.app {m y : Nat} {q : List Nat} (h : Bits m q) (hy : ¬ y ∈ q) : Bits (m + 2 ^ y) (q ++ [y]) := fun t => by
  have : m.testBit y = false := by
    rw [Bool.eq_false_iff]; exact fun e => hy ((h y).1 e)
  rw [add_bit this, Nat.testBit_or, Bool.or_eq_true, h t, bit_pow, decide_eq_true_iff, List.mem_append, List.mem_singleton]
  exact or_congr Iff.rfl eq_comm

/-- the subgroup that elements with some numbers generate -/
def genN (P : Pr) (gs : List Nat) : List Int → Prop := genP P (fun y => ∃ g ∈ gs, y = elAt P g)

/-- the queue of the numbers that are found; the first k are done, and i of the generators at the next one -/
structure Spn (P : Pr) (gs q : List Nat) (k i : Nat) : Prop where
  nd : q.Nodup
  rng : ∀ t ∈ q, t < (ordP P).toNat ∧ genN P gs (elAt P t)
  zero : 0 ∈ q
  done : ∀ j, j < k → ∀ g ∈ gs, tb P (gt q j) g ∈ q
  part : ∀ j, j < i → tb P (gt q k) (gt gs j) ∈ q

section
variable {P : Pr} (G : Grp P)
include G

omit G in
theorem Spn.len {gs q : List Nat} {k i : Nat} (h : Spn P gs q k i) : q.length ≤ (ordP P).toNat := by
  have := nodup_sub_len q (List.range (ordP P).toNat) h.nd (fun t ht => List.mem_range.2 (h.rng t ht).1)
  simpa using this

omit G in
theorem Spn.next {gs q : List Nat} {k : Nat} (h : Spn P gs q k gs.length) : Spn P gs q (k + 1) 0 :=
  ⟨h.nd, h.rng, h.zero, fun j hj g hg => by
    rcases Nat.lt_succ_iff_lt_or_eq.1 hj with h1 | h1
    · exact h.done j h1 g hg
    · subst h1
      obtain ⟨i, hi, rfl⟩ := List.getElem_of_mem hg
      rw [← gt_eq gs i hi]; exact h.part i hi, fun j hj => by omega⟩
omit G in
theorem Spn.skip {gs q : List Nat} {k i : Nat} (h : Spn P gs q k i) (hy : tb P (gt q k) (gt gs i) ∈ q) : Spn P gs q k (i + 1) :=
  ⟨h.nd, h.rng, h.zero, h.done, fun j hj => by
    rcases Nat.lt_succ_iff_lt_or_eq.1 hj with h1 | h1
    · exact h.part j h1
    · subst h1; exact hy⟩

end

end Go.Proofs.YtdklekdpdbjfiaaGreat

/- Plain: what spec.l19Sequence and l19Insert compute. -/
namespace Go.Proofs.YtdklekdpdbjfiaaGreat

section
variable {P : Pr} (G : Grp P)
include G

end

end Go.Proofs.YtdklekdpdbjfiaaGreat

/- The search for all subgroups: the list of masks that grows. -/
namespace Go.Proofs.YtdklekdpdbjfiaaGreat
open Go.RowKit

/-- all extensions of the first i masks, and of the next one by the first x elements, are there -/
structure Fnd (P : Pr) (M : List Nat) (i x : Nat) : Prop where
  nd : M.Nodup
  sub : ∀ m ∈ M, ∃ H, Sub P H ∧ m = msk P H
  one : msk P (fun x => x = zeros P.orders.length) ∈ M
  done : ∀ j, j < i → j < M.length → ∀ t, t < (ordP P).toNat → ∀ H, Sub P H → gt M j = msk P H → ¬ H (elAt P t) → msk P (extP P H (elAt P t)) ∈ M
  part : i < M.length → ∀ t, t < x → t < (ordP P).toNat → ∀ H, Sub P H → gt M i = msk P H → ¬ H (elAt P t) → msk P (extP P H (elAt P t)) ∈ M

section
variable {P : Pr} (G : Grp P)
include G

omit G in
theorem Fnd.skip {M : List Nat} {i x : Nat} (F : Fnd P M i x) (h : ∀ H, Sub P H → gt M i = msk P H → x < (ordP P).toNat → H (elAt P x)) : Fnd P M i (x + 1) :=
  ⟨F.nd, F.sub, F.one, F.done, fun hi t ht htN H S e hn => by
    by_cases hx : t < x
    · exact F.part hi t hx htN H S e hn
    · obtain rfl : t = x := by omega
      exact absurd (h H S e htN) hn⟩

omit G in
theorem Fnd.next {M : List Nat} {i x : Nat} (F : Fnd P M i x) (hx : (ordP P).toNat ≤ x) : Fnd P M (i + 1) 0 :=
  ⟨F.nd, F.sub, F.one, fun j hj hjl t ht K R e hn => by
    by_cases hji : j < i
    · exact F.done j hji hjl t ht K R e hn
    · obtain rfl : j = i := by omega
      exact F.part hjl t (by omega) ht K R e hn, fun _ t ht => by omega⟩

end
end Go.Proofs.YtdklekdpdbjfiaaGreat

/- Moebius values of a list of masks in ascending order. -/
namespace Go.Proofs.YtdklekdpdbjfiaaGreat
open Go.RowKit

end Go.Proofs.YtdklekdpdbjfiaaGreat

/- Plain: the list of products, element by element (for impl.elementsOf). -/
namespace Go.Proofs.YtdklekdpdbjfiaaGreat

theorem stepE_succ (P : Pr) (u : List Int) (o : Nat) (x : List Int) : stepE P u (o + 1) x = stepE P u o x ++ [rMul P x (pw P u o)] := by
  unfold stepE
  rw [List.range_succ, List.map_append]; rfl

theorem flatMap_take_succ {α β : Type} [Inhabited α] (l : List α) (f : α → List β) (i : Nat) (hi : i < l.length) : (l.take (i + 1)).flatMap f = (l.take i).flatMap f ++ f (gt l i) := by
  rw [take_succ_gt l i hi, List.flatMap_append]; simp

theorem stepE_len (P : Pr) (u : List Int) (o : Nat) (x : List Int) : (stepE P u o x).length = o := by unfold stepE; simp

theorem flatMap_len (P : Pr) (u : List Int) (o : Nat) (l : List (List Int)) : (l.flatMap (stepE P u o)).length = l.length * o := by
  induction l with
  | nil => simp
  | cons x l ih => rw [List.flatMap_cons, List.length_append, ih, stepE_len, List.length_cons, Nat.add_mul]; omega

/-- as many products as the order says -/
theorem elsP_len {P : Pr} (hP : Valid P) {U : List (List Int)} (hU : SeqOk P U) (k : Nat) (hk : k ≤ U.length) : ((elsP P U k).length : Int) = prodU P U k := by
  induction k with
  | zero => simp [elsP, prodU]
  | succ k ih =>
    have ih := ih (by omega)
    have ho := hP.ord7 (dep (gt U k)) (hU.1 _ (gtMem (by omega))).2.1
    simp only [elsP, prodU]
    rw [flatMap_len, Int.natCast_mul, ih, show (((gt P.orders (dep (gt U k))).toNat : Nat) : Int) = gt P.orders (dep (gt U k)) by omega]

theorem Grp.step_mul {P : Pr} (G : Grp P) {x u : List Int} (hx : Vec P.orders x) (hu : Vec P.orders u) (t : Nat) : rMul P (rMul P x (pw P u t)) u = rMul P x (pw P u (t + 1)) := by
  rw [pw_succ, G.ass hx (G.pw_vec hu t) hu]

end Go.Proofs.YtdklekdpdbjfiaaGreat

/- Moebius values of the lattice: the sum over all subgroups above one; the number of generating lists. -/
namespace Go.Proofs.YtdklekdpdbjfiaaGreat
open Go.RowKit

section
variable {P : Pr} (G : Grp P)
include G

theorem Grp.order_elems {H : List Int → Prop} (S : Sub P H) : prodU P (cseq P H) (cseq P H).length = (elemsIn P H).length := by
  rw [← G.els_sorted S, (sortL_perm _).length_eq]
  exact (elsP_len G.v (G.seq_facts S).1 _ (Nat.le_refl _)).symm

omit G in
theorem elemsIn_nodup {P : Pr} (hP : Valid P) (H : List Int → Prop) : (elemsIn P H).Nodup :=
  List.nodup_iff_pairwise_ne.2 ((elemsIn_asc hP H).imp (fun {a b} h e => by subst e; omega))

end

section
variable {P : Pr} (G : Grp P)
include G

end
end Go.Proofs.YtdklekdpdbjfiaaGreat

/- Plain: the elements of a consistent presentation as a type with products; subgroups, cosets, their counting. -/
namespace Go.Proofs.YtdklekdpdbjfiaaGreat

/-- an element of the group -/
def El {P : Pr} (_ : Grp P) : Type := {x : List Int // Vec P.orders x}

section
variable {P : Pr} {G : Grp P}

instance : Mul (El G) := ⟨fun x y => ⟨rMul P x.1 y.1, G.mulV x.2 y.2⟩⟩
instance : One (El G) := ⟨⟨zeros P.orders.length, G.oneV⟩⟩
instance : Inv (El G) := ⟨fun x => ⟨rInv P x.1, G.invV x.2⟩⟩

theorem El.ass (x y z : El G) : x * y * z = x * (y * z) := Subtype.ext (G.ass x.2 y.2 z.2)
theorem El.ol (x : El G) : 1 * x = x := Subtype.ext (G.grp.el _ x.2)
theorem El.or (x : El G) : x * 1 = x := Subtype.ext (G.grp.er _ x.2)
theorem El.il (x : El G) : x⁻¹ * x = 1 := Subtype.ext (G.inv_mul x.2)
theorem El.ir (x : El G) : x * x⁻¹ = 1 := Subtype.ext (G.mul_inv x.2)
theorem El.ilc (x y : El G) : x⁻¹ * (x * y) = y := by rw [← El.ass, El.il, El.ol]
theorem El.irc (x y : El G) : x * (x⁻¹ * y) = y := by rw [← El.ass, El.ir, El.ol]
theorem El.inv_of {x y : El G} (h : x * y = 1) : y = x⁻¹ := by rw [← El.ilc x y, h, El.or]
theorem El.mi (x y : El G) : (x * y)⁻¹ = y⁻¹ * x⁻¹ := (El.inv_of (by rw [El.ass, El.irc, El.ir])).symm
theorem El.ii (x : El G) : x⁻¹⁻¹ = x := (El.inv_of (El.il x)).symm
/-- powers -/
def ep (x : El G) : Nat → El G
  | 0 => 1
  | k + 1 => ep x k * x
theorem ep_val (x : El G) : ∀ k, (ep x k).1 = pw P x.1 k
  | 0 => rfl
  | k + 1 => by
    show rMul P (ep x k).1 x.1 = _
    rw [ep_val x k]; rfl
/-- a subgroup -/
structure SG (H : El G → Prop) : Prop where
  one : H 1
  mul : ∀ x y, H x → H y → H (x * y)
  inv : ∀ x, H x → H x⁻¹
theorem SG.ep {H : El G → Prop} (S : SG H) {x : El G} (hx : H x) (k : Nat) : H (ep x k) := by
  induction k with
  | zero => exact S.one
  | succ k ih => exact S.mul _ _ ih hx
theorem SG.and {H K : El G → Prop} (S : SG H) (R : SG K) : SG (fun x => H x ∧ K x) :=
  ⟨⟨S.one, R.one⟩, fun _ _ h k => ⟨S.mul _ _ h.1 k.1, R.mul _ _ h.2 k.2⟩, fun _ h => ⟨S.inv _ h.1, R.inv _ h.2⟩⟩

/-- x begins with d zeros -/
def dT (d : Nat) (x : El G) : Prop := ∀ k, k < d → gt x.1 k = 0
theorem dT_T {d : Nat} {x : El G} : dT d x ↔ T P d x.1 := ⟨fun h => ⟨x.2, h⟩, fun h => h.2⟩
theorem dT_sg {d : Nat} (hd : d ≤ P.orders.length) : SG (dT (G := G) d) :=
  ⟨dT_T.2 (T.zeros G.v d), fun _ _ h k => dT_T.2 (G.T_mul hd (dT_T.1 h) (dT_T.1 k)), fun _ h => dT_T.2 (G.T_inv hd (dT_T.1 h))⟩
theorem dT_top {x : El G} (h : dT P.orders.length x) : x = 1 := Subtype.ext ((dT_T.1 h).top G.v)
theorem dT_up {d : Nat} {x : El G} (h : dT d x) (h0 : gt x.1 d = 0) : dT (d + 1) x := dT_T.2 ((dT_T.1 h).up h0)
theorem dT_down {d : Nat} {x : El G} (h : dT (d + 1) x) : dT d x := fun k hk => h k (by omega)
theorem dT_zero (x : El G) : dT 0 x := fun k hk => by omega

/-- the depths of a subgroup -/
def pv (H : El G → Prop) (d : Nat) : Prop := d < P.orders.length ∧ ∃ x, H x ∧ dT d x ∧ gt x.1 d ≠ 0
theorem pv_mono {H K : El G → Prop} (h : ∀ x, H x → K x) {d : Nat} : pv H d → pv K d := fun ⟨h1, x, h2, h3⟩ => ⟨h1, x, h _ h2, h3⟩

theorem hit7 (q b c : Nat) (hq : q = 2 ∨ q = 3 ∨ q = 5 ∨ q = 7) (h0 : 0 < b) (h1 : b < q) (hc : c < q) : ∃ j, (j * b) % q = c := by
  have key : ∀ q, q < 8 → (q = 2 ∨ q = 3 ∨ q = 5 ∨ q = 7) → ∀ b, b < q → 0 < b → ∀ c, c < q → ∃ j, j < q ∧ (j * b) % q = c := by decide
  obtain ⟨j, _, h⟩ := key q (by omega) hq b h1 h0 c hc
  exact ⟨j, h⟩
theorem ordN (G : Grp P) {d : Nat} (hd : d < P.orders.length) : ∃ q : Nat, gt P.orders d = (q : Int) ∧ (gt P.orders d).toNat = q ∧ (q = 2 ∨ q = 3 ∨ q = 5 ∨ q = 7) := by
  have := G.v.ord d hd
  exact ⟨(gt P.orders d).toNat, by omega, rfl, by omega⟩

theorem ep_dT {d : Nat} (hd : d ≤ P.orders.length) {x : El G} (h : dT d x) (k : Nat) : dT d (ep x k) := (dT_sg hd).ep h k
theorem ep_at {d : Nat} (hd : d < P.orders.length) {x : El G} (h : dT d x) (k : Nat) : gt (ep x k).1 d = ((k : Int) * gt x.1 d) % gt P.orders d := by
  rw [ep_val]; exact G.pw_at hd (dT_T.1 h) k
theorem lead_hit {d : Nat} (hd : d < P.orders.length) {x : El G} (h : dT d x) (h0 : gt x.1 d ≠ 0) {c : Int} (hc : 0 ≤ c ∧ c < gt P.orders d) : ∃ j, gt (ep x j).1 d = c := by
  obtain ⟨q, h1, h2, h3⟩ := ordN G hd
  have hb := x.2.2 d hd
  obtain ⟨b, hbe⟩ : ∃ b : Nat, gt x.1 d = (b : Int) := ⟨(gt x.1 d).toNat, by omega⟩
  obtain ⟨e, he⟩ : ∃ e : Nat, c = (e : Int) := ⟨c.toNat, by omega⟩
  obtain ⟨j, hj⟩ := hit7 q b e h3 (by omega) (by omega) (by omega)
  refine ⟨j, ?_⟩
  rw [ep_at hd h, h1, hbe, he, ← hj, Int.natCast_emod, Int.natCast_mul]
theorem el_diff {d : Nat} (hd : d < P.orders.length) {x y : El G} (hx : dT d x) (hy : dT d y) (h : gt x.1 d = gt y.1 d) : dT (d + 1) (x⁻¹ * y) :=
  dT_T.2 (G.diff hd (dT_T.1 hx) (dT_T.1 hy) h)
theorem el_same {d : Nat} (hd : d < P.orders.length) {x y : El G} (h : dT (d + 1) (x⁻¹ * y)) : gt x.1 d = gt y.1 d := by
  have h1 := (G.right (Nat.succ_le_of_lt hd) x.2 (dT_T.1 h)).1 d (by omega)
  have h2 : rMul P x.1 (x⁻¹ * y).1 = y.1 := congrArg Subtype.val (El.irc x y)
  rw [h2] at h1
  exact h1.symm

/-- all elements -/
theorem els_ex (G : Grp P) : ∃ l : List (El G), l.Nodup ∧ ∀ x, x ∈ l := by
  have key : ∀ m : List (List Int), m.Nodup → ∃ l : List (El G), l.Nodup ∧ ∀ x : El G, x ∈ l ↔ x.1 ∈ m := by
    intro m
    induction m with
    | nil => intro _; exact ⟨[], List.nodup_nil, fun x => by simp⟩
    | cons a m ih =>
      intro h
      obtain ⟨h1, h2⟩ := List.nodup_cons.1 h
      obtain ⟨l, hl, hm⟩ := ih h2
      by_cases ha : Vec P.orders a
      · obtain ⟨y, hy⟩ : ∃ y : El G, y.1 = a := ⟨⟨a, ha⟩, rfl⟩
        refine ⟨y :: l, List.nodup_cons.2 ⟨fun hh => h1 (hy ▸ (hm _).1 hh), hl⟩, fun x => ?_⟩
        rw [List.mem_cons, List.mem_cons, hm x]
        exact ⟨fun hh => hh.elim (fun e => .inl (by rw [e]; exact hy)) .inr, fun hh => hh.elim (fun e => .inl (Subtype.ext (e.trans hy.symm))) .inr⟩
      · refine ⟨l, hl, fun x => ?_⟩
        rw [hm x, List.mem_cons]
        exact ⟨.inr, fun hh => hh.elim (fun e => absurd (e ▸ x.2) ha) id⟩
  obtain ⟨l, h1, h2⟩ := key (elemsIn P (Vec P.orders)) (elemsIn_nodup G.v _)
  exact ⟨l, h1, fun x => (h2 x).2 ((elemsIn_mem G.v (fun _ h => h)) x.1 |>.2 x.2)⟩
noncomputable def els (G : Grp P) : List (El G) := Classical.choose (els_ex G)
theorem els_nodup (G : Grp P) : (els G).Nodup := (Classical.choose_spec (els_ex G)).1
theorem els_mem (G : Grp P) (x : El G) : x ∈ els G := (Classical.choose_spec (els_ex G)).2 x

open Classical in
noncomputable def elsIn (H : El G → Prop) : List (El G) := (els G).filter (fun x => decide (H x))
theorem elsIn_nodup (H : El G → Prop) : (elsIn H).Nodup := (els_nodup G).filter _
theorem elsIn_mem {H : El G → Prop} {x : El G} : x ∈ elsIn H ↔ H x := by
  classical
  unfold elsIn; rw [List.mem_filter, decide_eq_true_iff]; exact ⟨fun h => h.2, fun h => ⟨els_mem G x, h⟩⟩
/-- how many elements have a property -/
noncomputable def cd (H : El G → Prop) : Nat := (elsIn H).length
theorem cd_list {H : El G → Prop} {l : List (El G)} (h1 : l.Nodup) (h2 : ∀ x, x ∈ l ↔ H x) : cd H = l.length :=
  ((List.perm_ext_iff_of_nodup (elsIn_nodup H) h1).2 (fun x => elsIn_mem.trans (h2 x).symm)).length_eq
theorem cd_congr {H K : El G → Prop} (h : ∀ x, H x ↔ K x) : cd H = cd K := by
  have : H = K := funext fun x => propext (h x)
  rw [this]
/-- alike up to N -/
def eqv (N : El G → Prop) (x y : El G) : Prop := N (x⁻¹ * y)
theorem eqv_refl {N : El G → Prop} (S : SG N) (x : El G) : eqv N x x := by unfold eqv; rw [El.il]; exact S.one
theorem flat_len {α β : Type} (l : List α) (f : α → List β) (n : Nat) (h : ∀ x ∈ l, (f x).length = n) : (l.flatMap f).length = l.length * n := flatMap_len' l f n h

/-- Lagrange, by representatives -/
theorem cd_mul {N B : El G → Prop} (S : SG N) {ts : List (El G)} (hn : ts.Nodup) (hc : ∀ t ∈ ts, ∀ n, N n → B (t * n)) (h1 : ∀ t ∈ ts, ∀ u ∈ ts, eqv N t u → t = u) (h2 : ∀ x, B x → ∃ t ∈ ts, eqv N t x) : cd B = ts.length * cd N := by
  rw [cd_list (H := B) (l := ts.flatMap (fun t => (elsIn N).map (fun n => t * n))) ?_ ?_]
  · exact flat_len _ _ _ (fun x _ => List.length_map ..)
  · refine List.nodup_iff_pairwise_ne.2 (List.pairwise_flatMap.2 ⟨fun t _ => ?_, ?_⟩)
    · rw [List.pairwise_map]
      refine (List.nodup_iff_pairwise_ne.1 (elsIn_nodup N)).imp (fun {a b} hab e => hab ?_)
      have := congrArg (fun z => t⁻¹ * z) e
      simpa only [El.ilc] using this
    · refine (List.nodup_iff_pairwise_ne.1 hn).imp_of_mem (fun {a b} ha hb hab x hx y hy e => hab (h1 a ha b hb ?_))
      obtain ⟨n, hn1, rfl⟩ := List.mem_map.1 hx
      obtain ⟨m, hm1, rfl⟩ := List.mem_map.1 hy
      unfold eqv
      have e2 : a⁻¹ * b = n * m⁻¹ := by
        have e3 : b = a * n * m⁻¹ := by rw [e, El.ass, El.ir, El.or]
        rw [e3, El.ass, El.ilc]
      rw [e2]
      exact S.mul _ _ (elsIn_mem.1 hn1) (S.inv _ (elsIn_mem.1 hm1))
  · intro x
    rw [List.mem_flatMap]
    constructor
    · rintro ⟨t, ht, hx⟩
      obtain ⟨n, hn1, rfl⟩ := List.mem_map.1 hx
      exact hc t ht n (elsIn_mem.1 hn1)
    · intro hx
      obtain ⟨t, ht, h⟩ := h2 x hx
      exact ⟨t, ht, List.mem_map.2 ⟨t⁻¹ * x, elsIn_mem.2 h, El.irc t x⟩⟩

open Classical in
/-- the product of the orders at the depths with a property, f of them from d on -/
noncomputable def prd (P : Pr) (Q : Nat → Prop) : Nat → Nat → Nat
  | 0, _ => 1
  | f + 1, d => (if Q d then (gt P.orders d).toNat else 1) * prd P Q f (d + 1)
theorem prd_congr {Q R : Nat → Prop} : ∀ f d, (∀ k, d ≤ k → k < d + f → (Q k ↔ R k)) → prd P Q f d = prd P R f d
  | 0, _, _ => rfl
  | f + 1, d, h => by
    have h1 := h d (by omega) (by omega)
    unfold prd
    rw [prd_congr f (d + 1) (fun k a b => h k (by omega) (by omega))]
    by_cases hq : Q d
    · rw [if_pos hq, if_pos (h1.1 hq)]
    · rw [if_neg hq, if_neg (fun hr => hq (h1.2 hr))]
theorem prd_mul {Q R : Nat → Prop} : ∀ f d, (∀ k, d ≤ k → k < d + f → Q k → ¬ R k) → prd P Q f d * prd P R f d = prd P (fun k => Q k ∨ R k) f d
  | 0, _, _ => rfl
  | f + 1, d, h => by
    have h1 := h d (by omega) (by omega)
    have ih := prd_mul f (d + 1) (fun k a b => h k (by omega) (by omega))
    unfold prd
    rw [← ih]
    by_cases hq : Q d
    · rw [if_pos hq, if_neg (h1 hq), if_pos (.inl hq)]
      simp only [Nat.one_mul, Nat.mul_assoc]
    · by_cases hr : R d
      · rw [if_neg hq, if_pos hr, if_pos (.inr hr)]
        simp only [Nat.one_mul, Nat.mul_left_comm]
      · rw [if_neg hq, if_neg hr, if_neg (fun hh => hh.elim hq hr)]
        simp only [Nat.one_mul]
theorem prd_pos (G : Grp P) (Q : Nat → Prop) : ∀ f d, d + f = P.orders.length → 0 < prd P Q f d
  | 0, _, _ => Nat.one_pos
  | f + 1, d, h => by
    have := prd_pos G Q f (d + 1) (by omega)
    obtain ⟨q, _, h2, h3⟩ := ordN G (show d < P.orders.length by omega)
    unfold prd
    split
    · exact Nat.mul_pos (by omega) this
    · rw [Nat.one_mul]; exact this
theorem cop7 {q r : Nat} (hq : q = 2 ∨ q = 3 ∨ q = 5 ∨ q = 7) (hr : r = 2 ∨ r = 3 ∨ r = 5 ∨ r = 7) (h : q ≠ r) : Nat.Coprime q r := by
  rcases hq with rfl | rfl | rfl | rfl <;> rcases hr with rfl | rfl | rfl | rfl <;> first | (exact absurd rfl h) | decide
theorem prd_cop1 (G : Grp P) {Q : Nat → Prop} {q : Nat} (hq : q = 2 ∨ q = 3 ∨ q = 5 ∨ q = 7) : ∀ f d, d + f = P.orders.length → (∀ k, k < P.orders.length → Q k → (gt P.orders k).toNat ≠ q) → Nat.Coprime q (prd P Q f d)
  | 0, _, _, _ => Nat.coprime_one_right q
  | f + 1, d, hd, h => by
    have ih := prd_cop1 G hq f (d + 1) (by omega) h
    obtain ⟨r, _, h2, h3⟩ := ordN G (show d < P.orders.length by omega)
    unfold prd
    split
    · rename_i hQ
      refine Nat.Coprime.mul_right (cop7 hq (by rw [h2]; exact h3) (fun e => h d (by omega) hQ e.symm)) ih
    · rw [Nat.one_mul]; exact ih
/-- the order of a subgroup, by its depths -/
theorem cd_pv {H : El G → Prop} (S : SG H) : ∀ f d, d + f = P.orders.length → cd (fun x => H x ∧ dT d x) = prd P (pv H) f d
  | 0, d, hd => by
    have : d = P.orders.length := by omega
    subst this
    have := cd_list (H := fun x => H x ∧ dT P.orders.length x) (l := [(1 : El G)]) (by simp) (fun x => by
      rw [List.mem_singleton]
      exact ⟨fun e => by rw [e]; exact ⟨S.one, (dT_sg (Nat.le_refl _)).one⟩, fun h => dT_top h.2⟩)
    exact this
  | f + 1, d, hd => by
    have hdn : d < P.orders.length := by omega
    have ih := cd_pv S f (d + 1) (by omega)
    have S' : SG (fun x => H x ∧ dT (d + 1) x) := S.and (dT_sg (by omega))
    have Sd : SG (dT (G := G) d) := dT_sg (by omega)
    rw [prd, ← ih]
    by_cases hp : pv H d
    · rw [if_pos hp]
      obtain ⟨_, y0, hy0, hT0, hn0⟩ := hp
      obtain ⟨q, hq1, hq2, hq3⟩ := ordN G hdn
      obtain ⟨j, hj⟩ := lead_hit hdn hT0 hn0 (c := 1) (by omega)
      obtain ⟨y, hy⟩ : ∃ y, y = ep y0 j := ⟨_, rfl⟩
      have hyH : H y := by rw [hy]; exact S.ep hy0 j
      have hyT : dT d y := by rw [hy]; exact ep_dT (by omega) hT0 j
      have hy1 : gt y.1 d = 1 := by rw [hy]; exact hj
      have hat : ∀ i, i < q → gt (ep y i).1 d = (i : Int) := fun i hi => by
        rw [ep_at hdn hyT, hy1, hq1, Int.mul_one, Int.emod_eq_of_lt (by omega) (by omega)]
      have hinj : ∀ i j, i < q → j < q → eqv (fun x => H x ∧ dT (d + 1) x) (ep y i) (ep y j) → i = j := fun i j hi hj h => by
        have := el_same hdn h.2
        rw [hat i hi, hat j hj] at this
        omega
      have hl : ((List.range q).map (fun i => ep y i)).length = (gt P.orders d).toNat := by rw [List.length_map, List.length_range, hq2]
      rw [← hl]
      refine cd_mul S' ?_ ?_ ?_ ?_
      · refine List.nodup_iff_pairwise_ne.2 ?_
        rw [List.pairwise_map]
        refine (List.nodup_iff_pairwise_ne.1 List.nodup_range).imp_of_mem (fun {a b} ha hb hab e => hab (hinj a b (List.mem_range.1 ha) (List.mem_range.1 hb) ?_))
        rw [e]; exact eqv_refl S' _
      · intro t ht n hn
        obtain ⟨i, _, rfl⟩ := List.mem_map.1 ht
        exact ⟨S.mul _ _ (S.ep hyH i) hn.1, Sd.mul _ _ (Sd.ep hyT i) (dT_down hn.2)⟩
      · intro t ht u hu h
        obtain ⟨i, hi, rfl⟩ := List.mem_map.1 ht
        obtain ⟨k, hk, rfl⟩ := List.mem_map.1 hu
        rw [hinj i k (List.mem_range.1 hi) (List.mem_range.1 hk) h]
      · intro x hx
        have hb := x.2.2 d hdn
        refine ⟨ep y (gt x.1 d).toNat, List.mem_map.2 ⟨_, List.mem_range.2 (by omega), rfl⟩, S.mul _ _ (S.inv _ (S.ep hyH _)) hx.1, el_diff hdn (Sd.ep hyT _) hx.2 ?_⟩
        rw [hat _ (by omega)]; omega
    · rw [if_neg hp, Nat.one_mul]
      exact cd_congr (fun x => ⟨fun h => ⟨h.1, dT_up h.2 (Classical.byContradiction fun h0 => hp ⟨hdn, x, h.1, h.2, h0⟩)⟩, fun h => ⟨h.1, dT_down h.2⟩⟩)
theorem cd_eq {H : El G → Prop} (S : SG H) : cd H = prd P (pv H) P.orders.length 0 := by
  rw [← cd_pv S _ _ (Nat.zero_add _)]
  exact cd_congr (fun x => ⟨fun h => ⟨h, dT_zero x⟩, fun h => h.1⟩)
end

end Go.Proofs.YtdklekdpdbjfiaaGreat

/- Plain: Hall's theorem: subgroups for a set of primes exist, and every subgroup whose order has only these primes lies in a conjugate of a given one. -/
namespace Go.Proofs.YtdklekdpdbjfiaaGreat

section
variable {P : Pr} {G : Grp P}

/-- the members of L conjugate N into itself -/
def nrm (L N : El G → Prop) : Prop := ∀ g x, L g → N x → N (g⁻¹ * (x * g))

/-- M is abelian up to N -/
structure AbF (N M : El G → Prop) : Prop where
  sn : SG N
  sm : SG M
  le : ∀ x, N x → M x
  nn : nrm M N
  ab : ∀ x y, M x → M y → N (x⁻¹ * (y⁻¹ * (x * y)))

section
variable {N M : El G → Prop} (A : AbF N M)
include A
theorem AbF.mul {x x' y y' : El G} (h : eqv N x x') (k : eqv N y y') (hy : M y) : eqv N (x * y) (x' * y') := by
  have h1 := A.sn.mul _ _ (A.nn y _ hy h) k
  unfold eqv
  have e : (x * y)⁻¹ * (x' * y') = y⁻¹ * (x⁻¹ * x' * y) * (y⁻¹ * y') := by simp only [El.mi, El.ass, El.irc]
  rw [e]; exact h1
theorem AbF.comm {x y : El G} (hx : M x) (hy : M y) : eqv N (x * y) (y * x) := by
  have h1 := A.ab y x hy hx
  unfold eqv
  rw [El.mi, El.ass]; exact h1
theorem AbF.ep {x y : El G} (hx : M x) (h : eqv N x y) : ∀ k, eqv N (ep x k) (ep y k)
  | 0 => eqv_refl A.sn _
  | k + 1 => A.mul (AbF.ep hx h k) h hx
end

section
variable {N M : El G → Prop} (A : AbF N M)
include A
end

theorem cop_ndvd {G : Grp P} {d k : Nat} (hd : d < P.orders.length) (h : Nat.Coprime (gt P.orders d).toNat k) : ¬ (gt P.orders d).toNat ∣ k := fun hk => by
  obtain ⟨q, h1, h2, h3⟩ := ordN G hd
  have := Nat.Coprime.eq_one_of_dvd h hk
  omega
end

end Go.Proofs.YtdklekdpdbjfiaaGreat

/- impl.isMember. -/
namespace Go.Proofs.YtdklekdpdbjfiaaGreat
open Go.RowKit

theorem Grp.repTo_mem {P : Pr} (G : Grp P) {H : List Int → Prop} (S : Sub P H) {X Y : List Int} (hX : Vec P.orders X) (h : RepTo P (cseq P H) X (cseq P H).length Y) : Y = zeros P.orders.length ↔ H X := by
  obtain ⟨h1, h2, h3⟩ := G.seq_facts S
  have hi := G.invV hX
  have hc := h.cos H S h2
  constructor
  · intro h0
    rw [h0, G.grp.er _ hi] at hc
    have := S.inv _ hc
    rwa [G.inv_inv hX] at this
  · intro hx
    have hy := S.mul _ _ hx hc
    rw [← G.ass hX hi h.vec, G.mul_inv hX, G.grp.el _ h.vec] at hy
    by_cases h0 : Y = zeros P.orders.length
    · exact h0
    · obtain ⟨d, hd, hT, hne⟩ := depth_ex h.vec h0
      obtain ⟨j, hj, hjd⟩ := h3 Y hy d hd hT hne
      exact absurd (by rw [← hjd]; exact h.zer j hj) hne

theorem isZeroB_zeros {o l : List Int} (h : Vec o l) : isZeroB l = true ↔ l = zeros o.length := by
  rw [isZeroB_true]
  constructor
  · intro h0
    refine ext_gt (by rw [h.1]; simp [zeros]) (fun i hi => ?_)
    rw [h0 i hi]; exact (gt_replicate _ _).symm
  · intro h0 i hi
    rw [h0]; exact gt_replicate _ _

set_option maxHeartbeats 400000 in
theorem isMember_ok (P : Pr) (G : Grp P) (w : World) (p uv xv : Value) (H : List Int → Prop) (X : List Int) (Sp Su Sx : Nat → Prop) (S : Sub P H) (hp : PresP Sp w p P) (hu : Rows2 Su w uv (cseq P H)) (hx : Ints Sx w xv X) (hX : Vec P.orders X) :
    Calls Tryz.prog 134 #[p, uv, xv] w (Ret w fun _ v => ∃ r : Bool, v = .bool r ∧ (r = true ↔ H X)) := by
  have hn6 := G.v.n6
  have hl := G.cseq_len S
  have hsq := (G.seq_facts S).1
  have hcon := representative_ok P G w p uv xv (cseq P H) X Sp Su Sx hp hu hsq (by omega) hx hX
  obtain ⟨pb, po, rfl⟩ := hp.shape
  obtain ⟨au, capu, rfl, _, _⟩ := Sl.shape hu
  obtain ⟨ax, capx, rfl, _, _⟩ := hx.shape
  have HQ := Lib.hid hsq; clear hsq
  go_enter Tryz.func134, Tryz.ntmps134
  go_wp2_with fail
  refine Calls.mono hcon ?_
  rintro e1 w1 ⟨v1, rfl, hg1, Y, hO, hR⟩
  clear hcon
  have hYi := hO.ints (by rw [hR.vec.1]; omega)
  obtain ⟨ay, capy, rfl, _, _⟩ := hYi.shape
  have hiff := (isZeroB_zeros hR.vec).trans (G.repTo_mem S hX hR)
  cases hb : isZeroB Y with
  | true =>
    rw [hb] at hiff
    have HI := Lib.hid hiff
    have hz := isZero_ok _ _ w1 Any hYi
    rw [hb] at hz
    clear hiff hb hR
    go_wp2_with fail
    refine Calls.mono hz ?_
    rintro e2 w2 ⟨rfl, rfl⟩
    clear hz
    go_wp2
    go_ret
    exact ⟨_, rfl, hg1, true, rfl, by simpa using HI.out⟩
  | false =>
    rw [hb] at hiff
    have HI := Lib.hid hiff
    have hz := isZero_ok _ _ w1 Any hYi
    rw [hb] at hz
    clear hiff hb hR
    go_wp2_with fail
    refine Calls.mono hz ?_
    rintro e2 w2 ⟨rfl, rfl⟩
    clear hz
    go_wp2
    go_ret
    exact ⟨_, rfl, hg1, false, rfl, by simpa using HI.out⟩

end Go.Proofs.YtdklekdpdbjfiaaGreat

/- impl.conjugates, impl.conjugateSubgroup. -/
namespace Go.Proofs.YtdklekdpdbjfiaaGreat
open Go.RowKit

end Go.Proofs.YtdklekdpdbjfiaaGreat

/- impl.isNormal. -/
namespace Go.Proofs.YtdklekdpdbjfiaaGreat
open Go.RowKit

end Go.Proofs.YtdklekdpdbjfiaaGreat

/- Plain: the greatest normal subgroup within a subgroup. -/
namespace Go.Proofs.YtdklekdpdbjfiaaGreat

section
variable {P : Pr} (G : Grp P)
include G

end

end Go.Proofs.YtdklekdpdbjfiaaGreat

/- Maps that a call makes, by a general reading: what stands under each key. -/
namespace Go.Proofs.YtdklekdpdbjfiaaGreat
open Go.RowKit
open Go.Maps (Keyed)

/-- a kind of maps: keys κ, elements ν -/
structure MapK (κ ν : Type) where
  t : TypeId
  k : TypeId
  e : TypeId
  kv : κ → Value
  kl : κ → Lit
  okK : κ → Prop
  ev : ν → Value
  el : ν → Lit
  okV : ν → Prop
  z : ν
  keyed : Keyed Tryz.prog k
  und : Tryz.prog.underlying t = some (.map k e)
  key : ∀ a, okK a → keyOf Tryz.prog k (kv a) = some (kl a)
  inj : ∀ a c, kl a = kl c → a = c
  isKey : ∀ a, WideAt.IsKeyLit (kl a)
  elem : ∀ x, okV x → plainElem (H := Unit) Tryz.prog e (ev x) = some (.lit (el x), [])
  inv : ∀ v x ps, plainElem (H := Unit) Tryz.prog e v = some (.lit (el x), ps) → v = ev x
  zero : ∀ w, (zeroValue e).run Tryz.prog w = .ok (ev z) w
  okz : okV z

variable {κ ν : Type}

/-- the map in block b: under each key a stands f a; at most m keys -/
def MapAt (M : MapK κ ν) (w : World) (b : Nat) (f : κ → ν) (m : Nat) : Prop :=
  ∃ (n : Nat) (D : DataW Unit), w.ownsMap Tryz.prog M.k (plainElem Tryz.prog M.e) b n D ∧ n ≤ m ∧ Maps.IsMap D ∧ ∀ a, M.okK a → D.atKey (M.kl a) (.lit (M.el M.z)) = .lit (M.el (f a))

theorem MapAt.made (M : MapK κ ν) (w : World) : MapAt M (w.alloc (.map #[] 0)) w.heap.size (fun _ => M.z) 0 :=
  ⟨0, .map [], World.ownsMap_made _ _ _ _, Nat.le_refl _, Maps.isMap_empty, fun a _ => by simp [WideAt.atKey_none]⟩
theorem MapAt.lt {M : MapK κ ν} {w : World} {b : Nat} {f : κ → ν} {m : Nat} (h : MapAt M w b f m) : b < w.heap.size := by
  obtain ⟨n, D, h, _⟩ := h
  exact h.lt
theorem MapAt.kept {M : MapK κ ν} {w w' : World} {b : Nat} {f : κ → ν} {m : Nat} {r : Option Nat} (h : MapAt M w b f m) (hg : w.grownBy w' r) (hne : some b ≠ r) : MapAt M w' b f m := by
  obtain ⟨n, D, h, h2⟩ := h
  exact ⟨n, D, h.kept hg hne, h2⟩
theorem MapAt.ext {M : MapK κ ν} {w w' : World} {b : Nat} {f : κ → ν} {m : Nat} (h : MapAt M w b f m) (hg : Ext w w') : MapAt M w' b f m := h.kept hg (by simp)
theorem MapAt.le {M : MapK κ ν} {w : World} {b : Nat} {f : κ → ν} {m m' : Nat} (h : MapAt M w b f m) (hm : m ≤ m') : MapAt M w b f m' := by
  obtain ⟨n, D, h, h2, h3⟩ := h
  exact ⟨n, D, h, Nat.le_trans h2 hm, h3⟩
theorem MapAt.look {M : MapK κ ν} {w : World} {b : Nat} {f : κ → ν} {m : Nat} (h : MapAt M w b f m) (a : κ) (ha : M.okK a) :
    (Instr.lookup M.t (.map (some b)) (M.kv a) false).run Tryz.prog w = .ok (M.ev (f a)) w := by
  obtain ⟨n, D, h, _, _, hat⟩ := h
  obtain ⟨v, ps, hrun, hv⟩ := h.lookup M.keyed M.und (M.zero w) (M.elem M.z M.okz) (M.key a ha)
  rw [hat a ha] at hv
  rw [hrun, M.inv _ _ _ hv]
end Go.Proofs.YtdklekdpdbjfiaaGreat

/- impl.keyOf: the bytes of all entries, each row closed by a semicolon. -/
namespace Go.Proofs.YtdklekdpdbjfiaaGreat
open Go.RowKit

end Go.Proofs.YtdklekdpdbjfiaaGreat

/- The lattice's maps: masks seen; the mask of a key. -/
namespace Go.Proofs.YtdklekdpdbjfiaaGreat
open Go.RowKit
open Go.Maps (Keyed)

/-- a map's block is no slice's -/
theorem MapAt.ne {κ ν : Type} {M : MapK κ ν} {w : World} {b B E m : Nat} {f : κ → ν} {v : Value} {xs : List Value} (h : MapAt M w b f m) (hO : OwnV B E w v xs) : some b ≠ v.ownBlock := by
  obtain ⟨n, D, ⟨es, clock, hb, _⟩, _⟩ := h
  obtain ⟨_, ⟨rfl, _⟩ | ⟨g, cap, cur, rfl, _, hc, _⟩⟩ := hO
  · intro e; cases e
  · intro e
    cases e
    rw [hc] at hb; cases hb

end Go.Proofs.YtdklekdpdbjfiaaGreat

/- append of one integer inside a region that draws its order. -/
namespace Go.Proofs.YtdklekdpdbjfiaaGreat
open Go.RowKit

end Go.Proofs.YtdklekdpdbjfiaaGreat

/- The lattice behind a pointer. -/
namespace Go.Proofs.YtdklekdpdbjfiaaGreat
open Go.RowKit

theorem MapAt.congr {κ ν : Type} {M : MapK κ ν} {w : World} {b : Nat} {f f' : κ → ν} {m : Nat} (h : MapAt M w b f m) (he : ∀ a, f a = f' a) : MapAt M w b f' m := by
  have : f = f' := funext he
  rw [← this]; exact h

end Go.Proofs.YtdklekdpdbjfiaaGreat

/- The list of all subgroups as one value; its bounds. -/
namespace Go.Proofs.YtdklekdpdbjfiaaGreat
open Go.RowKit

section
variable {P : Pr} (G : Grp P)
include G
end

end Go.Proofs.YtdklekdpdbjfiaaGreat

/- Plain: the conjugates of a subgroup, as sequences and as masks; the classes of conjugate subgroups. -/
namespace Go.Proofs.YtdklekdpdbjfiaaGreat
open Go.RowKit

abbrev gP (P : Pr) (u : List (List Int)) : List Int → Prop := genP P (fun z => z ∈ u)

section
variable {P : Pr} (G : Grp P)
include G

end

end Go.Proofs.YtdklekdpdbjfiaaGreat

/- Plain: Hall subgroups as sequences: the orders, the way up to one, their one class, the one ascending list. -/
namespace Go.Proofs.YtdklekdpdbjfiaaGreat
open Go.RowKit

section
variable {P : Pr} {G : Grp P}

def toE (G : Grp P) (H : List Int → Prop) : El G → Prop := fun x => H x.1
theorem toE_sg {H : List Int → Prop} (S : Sub P H) : SG (toE G H) := ⟨S.one, fun _ _ h k => S.mul _ _ h k, fun _ h => S.inv _ h⟩
theorem order_cd {H : List Int → Prop} (S : Sub P H) : prodU P (cseq P H) (cseq P H).length = (cd (toE G H) : Int) := by
  rw [G.order_elems S]
  have h1 : ((elsIn (toE G H)).map (fun x : El G => x.1)).Nodup := by
    refine List.nodup_iff_pairwise_ne.2 ?_
    rw [List.pairwise_map]
    exact (List.nodup_iff_pairwise_ne.1 (elsIn_nodup _)).imp (fun {a b} hab e => hab (Subtype.ext e))
  have h2 := (List.perm_ext_iff_of_nodup (elemsIn_nodup G.v H) h1).2 (fun x => by
    rw [elemsIn_mem G.v S.vec, List.mem_map]
    constructor
    · intro hx
      exact ⟨⟨x, S.vec x hx⟩, elsIn_mem.2 hx, rfl⟩
    · rintro ⟨y, hy, rfl⟩
      exact elsIn_mem.1 hy)
  rw [h2.length_eq, List.length_map]
  rfl

/-- the depths of a sequence -/
def pvU (G : Grp P) (u : List (List Int)) : Nat → Prop := pv (toE G (gP P u))
theorem ordU (G : Grp P) {u : List (List Int)} (hu : SubB P u) : prodU P u u.length = (prd P (pvU G u) P.orders.length 0 : Nat) := by
  have S := G.subB hu
  have h := order_cd (G := G) S
  rw [cd_eq (toE_sg S)] at h
  have e : cseq P (genP P fun x => x ∈ u) = u := hu.2.symm
  rw [e] at h
  exact h

/-- the product of the orders below d at the depths with a property -/
noncomputable def prF (P : Pr) (Q : Nat → Prop) (d : Nat) : Nat := prd P Q d 0
theorem prd_app (Q : Nat → Prop) : ∀ f d, prd P Q (f + 1) d = prd P Q f d * prd P Q 1 (d + f)
  | 0, d => by
    show prd P Q 1 d = 1 * prd P Q 1 (d + 0)
    rw [Nat.one_mul]; rfl
  | f + 1, d => by
    have ih := prd_app Q f (d + 1)
    rw [prd, ih, ← Nat.mul_assoc, show d + 1 + f = d + (f + 1) by omega]
    conv => rhs; rw [prd]
open Classical in
theorem prF_succ (Q : Nat → Prop) (d : Nat) : prF P Q (d + 1) = prF P Q d * (if Q d then (gt P.orders d).toNat else 1) := by
  unfold prF
  rw [prd_app, Nat.zero_add, prd, prd, Nat.mul_one]
/-- the order of Hall subgroups for the primes of a list -/
def hallTo (P : Pr) (pr : List Int) : Nat → Int
  | 0 => 1
  | k + 1 => if gt P.orders k ∈ pr then hallTo P pr k * gt P.orders k else hallTo P pr k
abbrev hallO (P : Pr) (pr : List Int) : Int := hallTo P pr P.orders.length
theorem hallTo_prF (G : Grp P) (pr : List Int) : ∀ k, k ≤ P.orders.length → hallTo P pr k = (prF P (fun d => gt P.orders d ∈ pr) k : Nat)
  | 0, _ => rfl
  | k + 1, h => by
    classical
    have ih := hallTo_prF G pr k (by omega)
    obtain ⟨q, h1, h2, h3⟩ := ordN G (show k < P.orders.length by omega)
    rw [hallTo, prF_succ, ih]
    by_cases hm : gt P.orders k ∈ pr
    · rw [if_pos hm, if_pos hm, Int.natCast_mul, h2, ← h1]
    · rw [if_neg hm, if_neg hm, Nat.mul_one]
theorem hallO_eq (G : Grp P) (pr : List Int) : hallO P pr = (prd P (fun d => gt P.orders d ∈ pr) P.orders.length 0 : Nat) := hallTo_prF G pr _ (Nat.le_refl _)

/-- the property: of the set's primes only -/
theorem prd_dvd_iff (G : Grp P) {Q R : Nat → Prop} (hQ : ∀ d, Q d → d < P.orders.length) (hR : ∀ j k, j < P.orders.length → k < P.orders.length → gt P.orders j = gt P.orders k → (R j ↔ R k)) :
    prd P Q P.orders.length 0 ∣ prd P R P.orders.length 0 ↔ ∀ d, Q d → R d := by
  constructor
  · intro h d hd
    refine Classical.byContradiction fun hn => ?_
    have hdn := hQ d hd
    obtain ⟨q, h1, h2, h3⟩ := ordN G hdn
    have hq : (gt P.orders d).toNat ∣ prd P Q P.orders.length 0 := by
      have hm := prd_mul (P := P) (Q := fun k => k = d) (R := fun k => Q k ∧ k ≠ d) P.orders.length 0 (fun k _ _ e hh => hh.2 e)
      have hc : prd P (fun k => k = d ∨ (Q k ∧ k ≠ d)) P.orders.length 0 = prd P Q P.orders.length 0 := prd_congr _ _ (fun k _ _ => ⟨fun hh => hh.elim (fun e => e ▸ hd) (fun hh => hh.1), fun hh => by
        by_cases e : k = d
        · exact .inl e
        · exact .inr ⟨hh, e⟩⟩)
      rw [← hc, ← hm]
      refine Nat.dvd_mul_right_of_dvd ?_ _
      have key : ∀ f s, s ≤ d → d < s + f → prd P (fun k => k = d) f s = (gt P.orders d).toNat := by
        intro f
        induction f with
        | zero => intro s a b; omega
        | succ f ih =>
          intro s a b
          rw [prd]
          by_cases e : s = d
          · subst e
            rw [if_pos rfl]
            have h0 : prd P (fun k => k = s) f (s + 1) = prd P (fun _ => False) f (s + 1) := prd_congr _ _ (fun k _ _ => ⟨fun e => by omega, fun hh => hh.elim⟩)
            have h1 : ∀ f t, prd P (fun _ => False) f t = 1 := by
              intro f
              induction f with
              | zero => intro t; rfl
              | succ f ih => intro t; rw [prd, if_neg (fun hh => hh), ih]
            rw [h0, h1, Nat.mul_one]
          · rw [if_neg e, Nat.one_mul]
            exact ih (s + 1) (by omega) (by omega)
      rw [key _ _ (Nat.zero_le _) (by omega)]
      exact Nat.dvd_refl _
    have hcop : Nat.Coprime (gt P.orders d).toNat (prd P R P.orders.length 0) := prd_cop1 G (by rw [h2]; exact h3) _ _ (Nat.zero_add _) (fun k hk hRk e => hn ((hR k d hk hdn (by
      obtain ⟨r, g1, g2, _⟩ := ordN G hk
      omega)).1 hRk))
    exact cop_ndvd (G := G) hdn hcop (Nat.dvd_trans hq h)
  · intro h
    have hm := prd_mul (P := P) (Q := Q) (R := fun k => R k ∧ ¬ Q k) P.orders.length 0 (fun k _ _ hk hh => hh.2 hk)
    have hc : prd P (fun k => Q k ∨ (R k ∧ ¬ Q k)) P.orders.length 0 = prd P R P.orders.length 0 := prd_congr _ _ (fun k _ _ => ⟨fun hh => hh.elim (h k) (fun hh => hh.1), fun hh => by
      by_cases e : Q k
      · exact .inl e
      · exact .inr ⟨hh, e⟩⟩)
    rw [← hc, ← hm]
    exact Nat.dvd_mul_right _ _

theorem prd_one (G : Grp P) {Q : Nat → Prop} : ∀ f d, d + f = P.orders.length → prd P Q f d = 1 → ∀ k, d ≤ k → k < P.orders.length → ¬ Q k
  | 0, d, hd, _, k, a, b => by omega
  | f + 1, d, hd, h, k, a, b => by
    obtain ⟨q, h1, h2, h3⟩ := ordN G (show d < P.orders.length by omega)
    rw [prd] at h
    have hX := prd_pos G Q f (d + 1) (by omega)
    by_cases hq : Q d
    · rw [if_pos hq, h2] at h
      have := Nat.mul_le_mul_left q hX
      omega
    · rw [if_neg hq, Nat.one_mul] at h
      by_cases e : k = d
      · subst e; exact hq
      · exact prd_one G f (d + 1) (by omega) h k (by omega) b

theorem mem_same (pr : List Int) (j k : Nat) (h : gt P.orders j = gt P.orders k) : gt P.orders j ∈ pr ↔ gt P.orders k ∈ pr := by rw [h]

/-- a Hall subgroup -/
def HallP (P : Pr) (pr : List Int) (u : List (List Int)) : Prop := SubB P u ∧ prodU P u u.length = hallO P pr

theorem pi_iff (G : Grp P) {u : List (List Int)} (hu : SubB P u) (pr : List Int) : prodU P u u.length ∣ hallO P pr ↔ ∀ d, pvU G u d → gt P.orders d ∈ pr := by
  rw [ordU G hu, hallO_eq G, Int.natCast_dvd_natCast]
  exact prd_dvd_iff G (fun d hd => hd.1) (fun j k _ _ e => mem_same pr j k e)
theorem hall_iff (G : Grp P) {u : List (List Int)} (hu : SubB P u) (pr : List Int) : prodU P u u.length = hallO P pr ↔ ∀ d, pvU G u d ↔ (d < P.orders.length ∧ gt P.orders d ∈ pr) := by
  constructor
  · intro h d
    have h1 := (pi_iff G hu pr).1 (by rw [h]; exact Int.dvd_refl _)
    refine ⟨fun hd => ⟨hd.1, h1 d hd⟩, fun hd => Classical.byContradiction fun hn => ?_⟩
    rw [ordU G hu, hallO_eq G, Int.natCast_inj] at h
    have hm := prd_mul (P := P) (Q := pvU G u) (R := fun k => gt P.orders k ∈ pr ∧ ¬ pvU G u k) P.orders.length 0 (fun k _ _ hk hh => hh.2 hk)
    have hc : prd P (fun k => pvU G u k ∨ (gt P.orders k ∈ pr ∧ ¬ pvU G u k)) P.orders.length 0 = prd P (fun d => gt P.orders d ∈ pr) P.orders.length 0 := prd_congr _ _ (fun k _ _ => ⟨fun hh => hh.elim (h1 k) (fun hh => hh.1), fun hh => by
      by_cases e : pvU G u k
      · exact .inl e
      · exact .inr ⟨hh, e⟩⟩)
    rw [hc, ← h] at hm
    have h2 : prd P (fun k => gt P.orders k ∈ pr ∧ ¬ pvU G u k) P.orders.length 0 = 1 := Nat.eq_of_mul_eq_mul_left (prd_pos G (pvU G u) _ _ (Nat.zero_add _)) (by rw [hm, Nat.mul_one])
    exact prd_one G _ _ (Nat.zero_add _) h2 d (Nat.zero_le _) hd.1 ⟨hd.2, hn⟩
  · intro h
    rw [ordU G hu, hallO_eq G, Int.natCast_inj]
    exact prd_congr _ _ (fun k _ hk => (h k).trans ⟨fun hh => hh.2, fun hh => ⟨by omega, hh⟩⟩)

/-- the ascending list of all Hall subgroups -/
def HallL (P : Pr) (pr : List Int) (L : List (List (List Int))) : Prop := L.Pairwise (subLt P) ∧ ∀ u, u ∈ L ↔ HallP P pr u
theorem HallL.one {pr : List Int} {L M : List (List (List Int))} (h : HallL P pr L) (k : HallL P pr M) : L = M :=
  sorted_one (fun _ => subLt_irrefl) (fun _ _ _ => subLt_trans) h.1 k.1 (fun u => (h.2 u).trans (k.2 u).symm)
end

end Go.Proofs.YtdklekdpdbjfiaaGreat

/- The reference's power with any exponent: spec.l10Pow. -/
namespace Go.Proofs.YtdklekdpdbjfiaaGreat
open Go.RowKit

theorem Grp.rRep_pw {P : Pr} (G : Grp P) {X : List Int} (hX : Vec P.orders X) (k : Nat) : rRep (rAt P P.orders.length 0) (zeros P.orders.length) X k = pw P X k :=
  G.lvl.rRep_eq (T_zero.2 hX) k

set_option maxHeartbeats 2000000 in
theorem l10Pow_ok (P : Pr) (G : Grp P) (w : World) (pv x : Value) (X : List Int) (k : Int) (Sp Sx : Nat → Prop) (hp : PresV Sp w pv P) (hx : Ints Sx w x X) (hX : Vec P.orders X) (hk : -1000000000 ≤ k ∧ k ≤ 1000000000) :
    Calls Tryz.prog 113 #[pv, x, .int .i64 k] w (Ret w fun w' v => Own w.heap.size w' v (pwZ P X k)) := by
  have hP := G.v
  have hn6 := hP.n6
  obtain ⟨vo, vp, vc, rfl, h3⟩ := hp
  have hBx := PresP.box h3 31
  have hg0 : Ext w (w.alloc (.cells #[vo, vp, vc] 31)) := World.grownBy_alloc _ _ _
  have hx0 := hx.ext hg0
  have hs0 : (w.alloc (.cells #[vo, vp, vc] 31)).heap.size = w.heap.size + 1 := by simp
  have HS := Lib.hid hs0; clear hs0 hx
  have hXl : X.length = P.orders.length := hX.1
  have HX := Lib.hid (And.intro hX hXl); clear hX hXl
  by_cases hneg : k < 0
  · have e0 : pwZ P X k = pw P (rInv P X) (-k).toNat := by unfold pwZ; rw [if_pos hneg]
    have hiV := G.invV HX.out.1
    have hil : (rInv P X).length ≤ 6 := by rw [hiV.1]; omega
    have HE := Lib.hid (And.intro e0 hiV); clear e0 hiV
    have hwr : IntKind.i64.wrap (-k) = -k := IntWalk.i64_in _ (by omega)
    go_enter Tryz.func113, Tryz.ntmps113
    go_wp2
    generalize hw0 : w.alloc (.cells #[vo, vp, vc] 31) = w0 at *
    clear hw0
    obtain ⟨vo6, vp6, vc6, _, _, hc0, hc1, hc2, h36⟩ := hBx.at
    have e1 : ∀ w', Ext w0 w' → w'.cell? ⟨w.heap.size, 0, none⟩ = some vo6 := fun w' h => h.cell hc0 (by simp)
    have e2 : ∀ w', Ext w0 w' → w'.cell? ⟨w.heap.size, 1, none⟩ = some vp6 := fun w' h => h.cell (by simpa using hc1) (by simp)
    have e3 : ∀ w', Ext w0 w' → w'.cell? ⟨w.heap.size, 2, none⟩ = some vc6 := fun w' h => h.cell (by simpa using hc2) (by simp)
    clear hc0 hc1 hc2
    go_region_held3 (fun w' => Ext w0 w') (first | exact grown_drew _ _ | assumption)
      (first
        | (go_at_call 178; refine Calls.mono (Calls.rel (w0 := w0) (by assumption) (l10Inv_ok P hP _ _ _ _ Any Any ⟨_, _, _, rfl, Pres3.ext h36 (by assumption)⟩ (Ints.sub (Ints.ext hx0 (by assumption)) (fun _ _ _ => trivial)) HX.out.1)) ?_; rintro eA wA ⟨vA, rfl, hgA, hsA, hOA⟩; have hOA2 := hOA.ints (by omega))
        | (go_at_call 177; refine Calls.mono (Calls.rel (w0 := w0) (by assumption) (l08Repeat_ok P hP _ _ _ 0 P.orders.length (by omega) _ (-k) Any Any ⟨_, _, _, rfl, Pres3.ext h36 (by assumption)⟩ hOA2 HE.out.2 (by omega) (by omega))) ?_; rintro eB wB ⟨vB, rfl, hgB, hsB, hOB⟩))
    clear e1 e2 e3
    rw [G.rRep_pw HE.out.2, ← HE.out.1] at hOB
    go_wp2
    go_ret
    exact ⟨_, rfl, grown_trans hg0 hgB, hOB.weak (by have := HS.out; omega)⟩
  · have e0 : pwZ P X k = pw P X k.toNat := by unfold pwZ; rw [if_neg hneg]
    have HE := Lib.hid e0; clear e0
    obtain ⟨vo6, vp6, vc6, _, _, hc0, hc1, hc2, h36⟩ := hBx.at
    go_enter Tryz.func113, Tryz.ntmps113
    go_wp2_with fail
    refine Calls.mono (l08Repeat_ok P hP _ _ _ 0 P.orders.length (by omega) X k Any Sx ⟨_, _, _, rfl, h36⟩ hx0 HX.out.1 (by omega) (by omega)) ?_
    rintro eB wB ⟨vB, rfl, hgB, hOB⟩
    rw [G.rRep_pw HX.out.1, ← HE.out] at hOB
    go_wp2
    go_ret
    exact ⟨_, rfl, grown_trans hg0 hgB, hOB.weak (by have := HS.out; omega)⟩

end Go.Proofs.YtdklekdpdbjfiaaGreat

/- Rows of bools of the call's own; a region that ends in a store. -/
namespace Go.Proofs.YtdklekdpdbjfiaaGreat
open Go.RowKit

/-! ### a row of bools of the call's own -/
abbrev BOwn (base : Nat) (w : World) (v : Value) (l : List Bool) : Prop := w.ownsRow base 4 1 v l.length (l.map Value.bool)
theorem BOwn.cell {base g cap n : Nat} {w : World} {l : List Bool} (h : BOwn base w (.slice (some ⟨g, 0, none⟩) n cap) l) (j : Nat) (hj : j < l.length) : w.cell? ⟨g, j, none⟩ = some (.bool (gt l j)) := by
  have hn : n = l.length := by
    obtain ⟨_, ⟨h, _⟩ | ⟨_, _, _, h, _⟩⟩ := h <;> cases h; rfl
  subst hn
  have := World.ownsRow.cellAt h j (by omega)
  rw [this]; simp [gt, hj]

theorem BOwn.frozen {base g cap n : Nat} {w : World} {l : List Bool} (h : BOwn base w (.slice (some ⟨g, 0, none⟩) n cap) l) (j : Nat) : w.frozen? ⟨g, j, none⟩ = false := by
  have hn : n = l.length := by
    obtain ⟨_, ⟨h, _⟩ | ⟨_, _, _, h, _⟩⟩ := h <;> cases h; rfl
  subst hn
  exact World.ownsRow.frozenAt h j

theorem BOwn.store {base g cap n : Nat} {w : World} {l : List Bool} (h : BOwn base w (.slice (some ⟨g, 0, none⟩) n cap) l) (j : Nat) (x : Bool) :
    BOwn base (w.setCell ⟨g, j, none⟩ (.bool x)) (.slice (some ⟨g, 0, none⟩) n cap) (l.set j x) ∧ w.grownBy (w.setCell ⟨g, j, none⟩ (.bool x)) (some g) := by
  have hn : n = l.length := by
    obtain ⟨_, ⟨h, _⟩ | ⟨_, _, _, h, _⟩⟩ := h <;> cases h; rfl
  subst hn
  obtain ⟨h1, h2⟩ := World.ownsRow.stored h j (.bool x)
  refine ⟨?_, h2⟩
  show World.ownsRow _ _ _ _ _ _ _
  rw [List.length_set, List.map_set]; exact h1

theorem BOwn.ext0 {base : Nat} {w w' : World} {v : Value} {l : List Bool} (h : BOwn base w v l) (hg : Ext w w') : BOwn base w' v l :=
  h.kept hg (by cases hv : v.ownBlock <;> simp)

theorem BOwn.form {base : Nat} {w : World} {v : Value} {l : List Bool} (h : BOwn base w v l) (hl : 0 < l.length) : ∃ g cap, v = .slice (some ⟨g, 0, none⟩) l.length cap ∧ base ≤ g ∧ g < w.heap.size := by
  have hlt := h.lt
  obtain ⟨_, h | ⟨g, cap, cur, hv, hg, _⟩⟩ := h
  · omega
  · exact ⟨g, cap, hv, hg, (hlt g (by rw [hv]; rfl)).2⟩

theorem BOwn.weak {base base' : Nat} {w : World} {v : Value} {l : List Bool} (h : BOwn base w v l) (hb : base' ≤ base) : BOwn base' w v l := by
  obtain ⟨h1, h2⟩ := h
  refine ⟨h1, ?_⟩
  rcases h2 with h | ⟨g, cap, cur, hv, hg, r⟩
  · exact .inl h
  · exact .inr ⟨g, cap, cur, hv, Nat.le_trans hb hg, r⟩

/-- w' is reached from w by growth and at most one store into block g behind it -/
def Near (w : World) (g : Nat) (w' : World) : Prop := ∃ w1, Ext w w1 ∧ (w' = w1 ∨ ∃ j x, w' = w1.setCell ⟨g, j, none⟩ x)
theorem Near.of {w w' : World} {g : Nat} (h : Ext w w') : Near w g w' := ⟨w', h, .inl rfl⟩
theorem Near.store {w w' : World} {g j : Nat} {x : Value} (h : Ext w w') : Near w g (w'.setCell ⟨g, j, none⟩ x) := ⟨w', h, .inr ⟨j, x, rfl⟩⟩
theorem Near.cell {w w' : World} {g : Nat} (h : Near w g w') {a : Addr} {v : Value} (hc : w.cell? a = some v) (hne : a.block ≠ g) : w'.cell? a = some v := by
  obtain ⟨w1, h1, rfl | ⟨j, x, rfl⟩⟩ := h
  · exact h1.cell hc (by simp)
  · rw [World.cell?_setCell_far _ _ _ _ (by simpa using Ne.symm hne)]
    exact h1.cell hc (by simp)

end Go.Proofs.YtdklekdpdbjfiaaGreat

/- The reference's tables by depths: spec.l02Lead, l12Depth, l12Table; how a table reads. -/
namespace Go.Proofs.YtdklekdpdbjfiaaGreat
open Go.RowKit

set_option maxHeartbeats 400000 in
theorem l02Lead_ok (v : Value) (X : List Int) (w : World) (S : Nat → Prop) (h : Ints S w v X) :
    Calls Tryz.prog 175 #[v] w fun e w' => e = .returned (.int .i64 (dep X)) ∧ w = w' := by
  obtain ⟨a, cap, rfl, _, _⟩ := h.shape
  go_enter Tryz.func175, Tryz.ntmps175
  go_wp2
  go_loop [3] (fun i => ∃ k : Nat, i = .int .i64 k ∧ k ≤ X.length ∧ ∀ j, j < k → gt X j = 0) (fun i => X.length - (intOf i).toNat)
  case atStart => exact ⟨0, rfl, by omega, fun j hj => by omega⟩
  case round =>
    obtain ⟨k, rfl, hk, hz⟩ := hrel
    have HZ := Lib.hid hz; clear hz
    by_cases hlt : k < X.length
    · obtain ⟨b, off, rfl, _, _, hc⟩ := Ints.at h k hlt
      by_cases hx : gt X k = 0
      · have hb : (gt X k != 0) = false := by simp [hx]
        have HX := Lib.hid hx; clear hx
        go_wp2
        go_round
        case rel => exact ⟨k + 1, by go_num, by omega, fun j hj => by
          rcases Nat.lt_succ_iff_lt_or_eq.1 hj with h1 | h1
          · exact HZ.out j h1
          · rw [h1]; exact HX.out⟩
        case measure => simp [intOf]; omega
      · have hb : (gt X k != 0) = true := by simp [hx]
        have he : dep X = k := dep_eq hlt HZ.out hx
        have HE := Lib.hid he; clear he hx
        go_wp2
        go_ret
        exact ⟨by rw [HE.out]; rfl, rfl⟩
    · have hke : k = X.length := by omega
      have he : dep X = X.length := dep_all (fun j hj => HZ.out j (by omega))
      have HE := Lib.hid he; clear he
      go_wp2
      go_ret
      exact ⟨by rw [HE.out]; rfl, rfl⟩

theorem l12Depth_ok (v : Value) (X : List Int) (w : World) (S : Nat → Prop) (h : Ints S w v X) :
    Calls Tryz.prog 111 #[v] w (Ret w fun _ r => r = .int .i64 (dep X)) := by
  have hcon := l02Lead_ok v X w S h
  obtain ⟨a, cap, rfl, _, _⟩ := h.shape
  go_enter Tryz.func111, Tryz.ntmps111
  go_wp2_with fail
  refine Calls.mono hcon ?_
  rintro e1 w1 ⟨rfl, rfl⟩
  clear hcon
  go_wp2
  go_ret
  exact ⟨_, rfl, Ext.refl _, rfl⟩

/-- a table reads as rows, nothing as a row without elements -/
theorem TabAt.rows {B gb n : Nat} {bad : Nat → Prop} {w : World} {b : List (List Int)} (h : TabAt B bad w gb n b) (hn : n ≤ 1000000) : Rows2 (fun k => k = gb ∨ (k ≠ gb ∧ ¬ bad k)) w (.slice (some ⟨gb, 0, none⟩) n n) b := by
  have hl := h.len
  have hlt := h.lt
  refine ⟨_, _, by rw [hl], ⟨by omega, by omega, fun h => by cases h⟩, fun i hi => ?_⟩
  obtain ⟨_, hc⟩ := h.at i (by omega)
  rcases hc with ⟨h0, hc⟩ | ⟨_, a, cap, hc, hI⟩
  · refine ⟨gb, 0, _, rfl, .inl rfl, hlt.2, by rw [Nat.zero_add]; exact hc, ?_⟩
    rw [h0]
    exact ⟨none, 0, rfl, ⟨by simp, by simp, fun _ => rfl⟩, fun j hj => by simp at hj⟩
  · exact ⟨gb, 0, _, rfl, .inl rfl, hlt.2, by rw [Nat.zero_add]; exact hc, Ints.sub hI (fun k hk _ => .inr hk)⟩

end Go.Proofs.YtdklekdpdbjfiaaGreat
