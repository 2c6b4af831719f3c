/-
  impl.latticeOf.
  Plain: the entries of a list at the places with a property.
  (*impl.lattice).filter with a closure. (Printed by gen_filter.py.)
  (*impl.lattice).filter with a closure. (Printed by gen_filter.py.)
  impl.conjugates, impl.conjugateSubgroup.
  impl.isNormal.
  Plain: the greatest normal subgroup within a subgroup.
  Plain: the conjugates of a subgroup, as sequences and as masks; the classes of conjugate subgroups.
  Plain: the normal subgroups are those of classes of one.
  Plain: the minimal normal subgroups, as both sides pick them.
  impl.NormalSubgroups.
  Plain: the smallest subgroup above one that is closed under the conjugation by given elements.
  impl.meet, impl.productSize.
  spec.l02Unit, l12Whole: the whole group's sequence.
  spec.l13Stable, l13Normal.
  The subgroup of a list.
  The reference's intersections, conjugates and sizes of product sets: spec.l13Meet, l13Conj, l13Size; impl.productSize.
  impl.isComplement, spec.l20Complement.
  Complements on both sides.
  Vectors of different kinds lie in different blocks; an append that tells where the new vector lies.
  Complements by the reference.
  The laws' look at marked rows of rows: laws.heldInt64SS, heldInt64SSS.
  Three-fold lists in blocks of their own: a reading that names its blocks.
  laws.FnExactComplements: whatever the arguments, the law answers true. (Printed by gen_law.py.)
  The rows' arguments: how a presentation that came in, or a list, reads in this claim's words.
-/
import Derived.Test.YtdklekdpdbjfiaaGreatK8
import Derived.Test.YtdklekdpdbjfiaaGreatK4
import Derived.Test.YtdklekdpdbjfiaaGreatK5
import Derived.Test.YtdklekdpdbjfiaaGreatK6
import Derived.Test.YtdklekdpdbjfiaaGreatK2
import Derived.Test.YtdklekdpdbjfiaaGreatK7
import Derived.Test.YtdklekdpdbjfiaaGreatK1
import Derived.Carry
import Derived.Deep.Slices
import Derived.ChangeSame
import Derived.ChangeSlices
import Derived.JoinedOf
import Derived.JoinedAt
import Derived.JoinedCond
import Derived.ReadAgain
/- impl.latticeOf. -/
namespace Go.Proofs.YtdklekdpdbjfiaaGreat
open Go.RowKit

set_option linter.unusedSimpArgs false in
set_option maxRecDepth 100000 in
set_option maxHeartbeats 8000000 in
theorem latticeOf_ok (P : Pr) (w : World) (p : Value) (Sp : Nat → Prop) (hp : PresP Sp w p P) :
    Calls Tryz.prog 81 #[p] w (Ret w fun w' v => ∃ lp, v = .tuple #[.pointer lp, .int .i64 (latC P)] ∧ (latC P ≠ 0 → lp = none) ∧
      (latC P = 0 → ∃ lb L, lp = some ⟨lb, 0, none⟩ ∧ LatL P L ∧ LatAt w.heap.size P w' lb p L)) := by
  obtain ⟨pb, po, rfl⟩ := hp.shape
  obtain ⟨vo, vp, vc, _, _, hc0, hc1, hc2, h3⟩ := hp.at
  obtain ⟨ao, capo, rfl, _, _⟩ := h3.o.shape
  obtain ⟨ap, capp, rfl, _, _⟩ := Sl.shape h3.p
  obtain ⟨ac, capc, rfl, _, _⟩ := Sl.shape h3.c
  have hg0 : Ext w (w.alloc (.cells #[.pointer (some ⟨pb, po, none⟩)] 67)) := World.grownBy_alloc _ _ _
  have hbx : ∀ w', Ext (w.alloc (.cells #[.pointer (some ⟨pb, po, none⟩)] 67)) w' → w'.cell? ⟨w.heap.size, 0, none⟩ = some (.pointer (some ⟨pb, po, none⟩)) := fun w' h => h.cell (by rw [World.cell?_alloc_at _ _ _ _ rfl]; rfl) (by simp)
  have hs0 : (w.alloc (.cells #[.pointer (some ⟨pb, po, none⟩)] 67)).heap.size = w.heap.size + 1 := by simp
  have hcon := isConsistent_ok P _ (.agg #[.slice ao P.orders.length capo, .slice ap P.powers.length capp, .slice ac P.conj.length capc]) Sp ⟨_, _, _, rfl, h3.ext hg0⟩
  rw [icons_eq] at hcon
  have hp0 := hp.ext hg0
  have HB := Lib.hid (And.intro hbx (And.intro hs0 hp0)); clear hbx hs0 hp0
  go_enter Tryz.func81, Tryz.ntmps81
  go_wp2_with fail
  clear hc0 hc1 hc2 h3
  generalize hw0 : w.alloc (.cells #[.pointer (some ⟨pb, po, none⟩)] 67) = w0 at *
  clear hw0
  refine Calls.mono hcon ?_
  rintro e1 w1 ⟨v, rfl, hg1, rfl⟩
  clear hcon
  have hgw1 := grown_trans hg0 hg1
  cases hq : rconsB P with
  | false =>
    have HQ := Lib.hid hq; clear hq
    go_wp2
    have e : latC P = 1 := by unfold latC; rw [HQ.out]; rfl
    refine bodyPost_ret (v := .tuple #[.pointer none, .int .i64 1]) (by simp [results, Tryz.results81, go_sem]) rfl ?_
    exact ⟨_, rfl, hgw1, none, by rw [e], fun _ => rfl, fun h => by rw [e] at h; cases h⟩
  | true =>
    have G := grp_of_r hq
    have hP := G.v
    have hn6 := hP.n6
    have h729 : ordP P ≤ 729 := hP.le729
    have hpos := hP.ordP_pos
    have HQ := Lib.hid hq; clear hq
    have hb1 := HB.out.1 w1 hg1
    go_wp2_with fail
    clear hb1
    refine Calls.mono (orderOf_ok w1 _ P Sp hP (HB.out.2.2.ext hg1)) ?_
    rintro e2 w2 ⟨rfl, rfl⟩
    by_cases h32 : 32 < ordP P
    · have e : latC P = 3 := by unfold latC; rw [HQ.out, if_pos rfl, if_pos h32]
      have HE := Lib.hid e; clear e
      go_wp2
      refine bodyPost_ret (v := .tuple #[.pointer none, .int .i64 3]) (by simp [results, Tryz.results81, go_sem]) rfl ?_
      exact ⟨_, rfl, hgw1, none, by rw [HE.out], fun _ => rfl, fun h => by rw [HE.out] at h; cases h⟩
    · have hle : ordP P ≤ 32 := by omega
      have e : latC P = 0 := by unfold latC; rw [HQ.out, if_pos rfl, if_neg h32]
      have HC0 := Lib.hid e
      clear e
      have hb1 := HB.out.1 w1 hg1
      go_wp2_with fail
      clear hb1 h32
      refine Calls.mono (multiplicationTable_ok P G w1 _ Sp (HB.out.2.2.ext hg1)) ?_
      rintro e3 w2 ⟨tv, rfl, hg2, hT⟩
      obtain ⟨at', capt, rfl, _, _⟩ := Sl.shape hT
      obtain ⟨N, hN⟩ : ∃ N, N = (ordP P).toNat := ⟨_, rfl⟩
      have hN32 : N ≤ 32 := by omega
      have hlen : (tabL P).length = N := by rw [tabL_len, hN]
      have htN : Rows2 Any w2 (.slice at' N capt) (tabL P) := by rw [← hlen]; exact Rows2.sub hT (fun _ _ _ => trivial)
      rw [hlen]
      have hgw2 := grown_trans hgw1 hg2
      have hg02 := grown_trans hg1 hg2
      -- the list of masks and the map
      have hO0 : OwnV w2.heap.size 95 (w2.alloc (.cells #[.int .u64 1] 95)) (.slice (some ⟨w2.heap.size, 0, none⟩) 1 1) ([1].map uV) := World.ownsRow_lit w2 #[.int .u64 1] 1 (Nat.le_refl _) (by decide) rfl
      have hga : Ext w2 (w2.alloc (.cells #[.int .u64 1] 95)) := World.grownBy_alloc _ _ _
      have hsz : (w2.alloc (.cells #[.int .u64 1] 95)).heap.size = w2.heap.size + 1 := by simp
      have hMm := MapAt.made mapUB (w2.alloc (.cells #[.int .u64 1] 95))
      have hgb : Ext (w2.alloc (.cells #[.int .u64 1] 95)) ((w2.alloc (.cells #[.int .u64 1] 95)).alloc (.map #[] 0)) := World.grownBy_alloc _ _ _
      rw [hsz] at hMm
      obtain ⟨w3, hrun, hM3, hg3⟩ := hMm.update (1 : Nat) (show (1 : Nat) < 2 ^ 64 by decide) true trivial (by decide)
      have hO3 := (hO0.kept hgb (.inr (by simp [Value.ownBlock]))).kept hg3 (.inr (by simp [Value.ownBlock]))
      have hgw3 : Ext w2 w3 := grown_own (grown_trans hga hgb) hg3 (fun j hj hlt => by cases hj; omega)
      have hrun2 : (Instr.mapUpdate 135 (.map (some (w2.heap.size + 1))) (.int .u64 1) (.bool true)).run Tryz.prog ((w2.alloc (.cells #[.int .u64 1] 95)).alloc (.map #[] 0)) = .ok () w3 := hrun
      have hmk := makeUB (w2.alloc (.cells #[.int .u64 1] 95))
      rw [hsz] at hmk
      have hF0 : Fnd P [1] 0 0 := by have := G.fnd_start; rw [G.msk_one] at this; exact this
      have hM3' : MapAt mapUB w3 (w2.heap.size + 1) (fun a => decide (a ∈ [1])) 1 := hM3.congr (fun a => by by_cases h : a = 1 <;> simp [h, mapUB])
      have HF := Lib.hid (And.intro hF0 (And.intro hO3 (And.intro hM3' (And.intro hN hlen)))); clear hF0 hO3 hM3 hM3' hMm hO0 hT hrun hg3 hgb hga hsz
      clear hlen hN
      go_wp2
      --<A
      clear hmk hrun2
      go_loopw [5, 7] (fun mv iv wr => ∃ (M : List Nat) (i : Nat) (v5 : Value), v5 = mv ∧ iv = .int .i64 i ∧ i ≤ M.length ∧ Ext w2 wr ∧ OwnV w2.heap.size 95 wr v5 (M.map uV) ∧ MapAt mapUB wr (w2.heap.size + 1) (fun a => decide (a ∈ M)) M.length ∧ Hid (Fnd P M i 0)) (fun _ iv _ => 17409 - (intOf iv).toNat)
      case atStart => exact ⟨[1], 0, _, rfl, rfl, by simp, hgw3, HF.out.2.1, HF.out.2.2.1, Lib.hid HF.out.1⟩
      case round =>
        obtain ⟨M, i, v5, rfl, rfl, hi, hg, hO, hMp, hF⟩ := hrel
        have hlM := G.fnd_len hle hF.out
        have hMne : 0 < M.length := by
          have := hF.out.one
          cases M with
          | nil => cases this
          | cons => simp
        obtain ⟨g, cap, rfl⟩ := uV_shape hO hMne
        by_cases hlt : i < M.length
        · have hlt' : (i : Int) < M.length := by omega
          obtain ⟨H, SH, hmH⟩ := hF.out.sub _ (gt_mem hlt)
          obtain ⟨m, hm⟩ : ∃ m, m = gt M i := ⟨_, rfl⟩
          rw [← hm] at hmH
          have hm64 : m < 2 ^ 64 := by rw [hmH]; exact mask64 hle
          have HH := Lib.hid (And.intro SH hmH); clear SH hmH
          go_wp2
          go_loopw [5, 40] (fun mv xv wr => ∃ (M' : List Nat) (x : Nat) (v5 : Value), v5 = mv ∧ xv = .int .i64 x ∧ x ≤ N ∧ i < M'.length ∧ Ext w2 wr ∧ OwnV w2.heap.size 95 wr v5 (M'.map uV) ∧ MapAt mapUB wr (w2.heap.size + 1) (fun a => decide (a ∈ M')) M'.length ∧ Hid (Fnd P M' i x) ∧ Hid (gt M' i = m)) (fun _ xv _ => N - (intOf xv).toNat)
          case atStart => exact ⟨M, 0, _, rfl, rfl, by omega, hlt, hg, hO, hMp, hF, Lib.hid hm.symm⟩
          case round =>
            clear hg hO hMp hF hlM hMne hi hlt hlt' hm
            obtain ⟨M, x, v5, rfl, rfl, hx, hlt, hg, hO, hMp, hF, hm⟩ := hrel
            have hlt' : (i : Int) < M.length := by omega
            have hlM := G.fnd_len hle hF.out
            obtain ⟨g, cap, rfl⟩ := uV_shape hO (by omega)
            have hcm := uV_cell hO hlt
            rw [hm.out] at hcm
            by_cases hxN : x < N
            · have hxN' : (x : Int) < N := by omega
              have hxP : x < (ordP P).toNat := by have := HF.out.2.2.2.1; omega
              have hand := bit_and m x hm64
              cases hb : m.testBit x with
              | true =>
                rw [hb] at hand
                have hand : bits .and .u64 ((m : Int) / 2 ^ x) 1 = 1 := hand
                have hF2 := Lib.hid (fnd_bit hF.out hxP (by rw [hm.out]; exact hb))
                clear hF hb
                go_wp2
                clear hand hcm
                go_roundw
                case rel => exact ⟨M, x + 1, _, rfl, by go_num, by omega, hlt, hg, hO, hMp, hF2, hm⟩
                case measure => simp [intOf]; omega
              | false =>
                rw [hb] at hand
                have hand : bits .and .u64 ((m : Int) / 2 ^ x) 1 = 0 := hand
                have hext := extendMask_ok P G wr (.slice at' N capt) Any H HH.out.1 x hxP hle (Rows2.ext htN hg)
                rw [← HH.out.2] at hext
                obtain ⟨m2, hm2⟩ : ∃ m2, m2 = msk P (extP P H (elAt P x)) := ⟨_, rfl⟩
                rw [← hm2] at hext
                have hm264 : m2 < 2 ^ 64 := by rw [hm2]; exact mask64 hle
                have HM2 := Lib.hid hm2
                clear hm2 hb
                go_wp2_with fail
                clear hand hcm
                refine Calls.mono hext ?_
                rintro eA wA ⟨vA, rfl, hgA, rfl⟩
                clear hext
                have hgA2 := grown_trans hg hgA
                have hOA : OwnV w2.heap.size 95 wA _ (M.map uV) := hO.kept hgA (.inr (by simp [Value.ownBlock]))
                have hMA := hMp.ext hgA
                have hlook : (Instr.lookup 135 (.map (some (w2.heap.size + 1))) (.int .u64 (m2 : Int)) false).run Tryz.prog wA = .ok (.bool (decide (m2 ∈ M))) wA := hMA.look m2 hm264
                clear hO hMp
                by_cases hk : m2 ∈ M
                · rw [decide_eq_true hk] at hlook
                  have hF2 := Lib.hid (G.fnd_known (x := x) hF.out HH.out.1 (by rw [hm.out]; exact HH.out.2) (by rw [← HM2.out]; exact hk))
                  clear hF hk
                  go_wp2
                  clear hlook
                  go_roundw
                  case rel => exact ⟨M, x + 1, _, rfl, by go_num, by omega, hlt, hgA2, hOA, hMA, hF2, hm⟩
                  case measure => simp [intOf]; omega
                · rw [decide_eq_false hk] at hlook
                  have hF2 := G.fnd_new hF.out hlt HH.out.1 (by rw [hm.out]; exact HH.out.2) hxP (by rw [← HM2.out]; exact hk)
                  rw [← HM2.out] at hF2
                  have hm3 : gt (M ++ [m2]) i = m := by rw [gt_append_left _ _ _ hlt]; exact hm.out
                  have HF2 := Lib.hid (And.intro hF2 hm3)
                  obtain ⟨w4, hrun, hM4, hg4⟩ := hMA.update m2 hm264 true trivial (by omega)
                  have hrun2 : (Instr.mapUpdate 135 (.map (some (w2.heap.size + 1))) (.int .u64 (m2 : Int)) (.bool true)).run Tryz.prog wA = .ok () w4 := hrun
                  have hne := hMA.ne hOA
                  have hO4 : OwnV w2.heap.size 95 w4 _ (M.map uV) := hOA.kept hg4 (.inr (fun e => hne e.symm))
                  have hmbs := hMA.lt
                  have hgw4 : Ext w2 w4 := grown_own hgA2 hg4 (fun j hj hlt => by cases hj; omega)
                  have hM4' : MapAt mapUB w4 (w2.heap.size + 1) (fun a => decide (a ∈ M ++ [m2])) (M ++ [m2]).length := by
                    refine MapAt.le (hM4.congr (fun a => ?_)) (by simp)
                    by_cases h : a = m2 <;> simp [h]
                  have hap : (M ++ [m2]).map uV = M.map uV ++ [.int .u64 (m2 : Int)] := by rw [List.map_append]; rfl
                  have hxl : (M ++ [m2]).length = M.length + 1 := by simp
                  have hml : (M.map uV).length ≤ 1000000 := by rw [List.length_map]; omega
                  have HAP := Lib.hid (And.intro hap (And.intro hxl hml))
                  clear hF hF2 hm3 hrun hOA hMA hM4 hg4 hap hxl hml hk
                  go_wp2_with (first | (at_builtin; refine wp_app_v 88 95 (.int .u64 0) 8 und_u64s Tryz.infoU64 rfl (by decide) rfl _ _ rfl w2.heap.size w4 _ (.int .u64 (m2 : Int)) (M.map uV) rfl hO4 rfl rfl rfl HAP.out.2.2 hgw4.size ?_; intro v8 w8 hO8 hg8) | fail)
                  have hgw8 : Ext w2 w8 := grown_own hgw4 hg8 (fun b hb hlt => by have := (hO4.lt b hb).1; omega)
                  have hM8 := hM4'.kept hg8 hne
                  clear hlook hrun2
                  go_roundw
                  case rel => exact ⟨M ++ [m2], x + 1, v8, rfl, by go_num, by omega, by rw [HAP.out.2.1]; omega, hgw8, by rw [HAP.out.1]; exact hO8, hM8, Lib.hid HF2.out.1, Lib.hid HF2.out.2⟩
                  case measure => simp [intOf]; omega
            · have hxe : x = N := by omega
              have hF2 := Lib.hid (hF.out.next (by have := HF.out.2.2.2.1; omega))
              subst hxe
              clear hcm hF
              go_wp2
              go_roundw
              case rel => exact ⟨M, i + 1, _, rfl, by go_num, by omega, hg, hO, hMp, hF2⟩
              case measure => simp [intOf]; omega
        · have hie : i = M.length := by omega
          have hfl := G.fnd_list hF.out (by omega)
          have hfe : ∀ j, j < M.length → ∃ H, Sub P H ∧ gt M j = msk P H := fun j hj => hF.out.sub _ (gt_mem hj)
          obtain ⟨CS, hCS⟩ : ∃ CS, CS = M.map (fun m => cseq P (ofMask P m)) := ⟨_, rfl⟩
          have hCl : CS.length = M.length := by rw [hCS, List.length_map]
          have hCg : ∀ j, j < M.length → gt CS j = cseq P (ofMask P (gt M j)) := fun j hj => by rw [hCS]; exact gt_map _ _ _ hj
          rw [← hCS] at hfl
          have HFL := Lib.hid (And.intro hfl (And.intro hfe (And.intro hCl hCg))); clear hfl hfe hCl hCg hCS hF hMp
          have hE4 : Ext wr (wr.alloc (.cells #[.pointer (some ⟨pb, po, none⟩), .slice none 0 0, .slice none 0 0] 90)) := World.grownBy_alloc _ _ _
          have hX := Box3.made wr 90 (.pointer (some ⟨pb, po, none⟩)) (.slice none 0 0) (.slice none 0 0)
          have hs4 : (wr.alloc (.cells #[.pointer (some ⟨pb, po, none⟩), .slice none 0 0, .slice none 0 0] 90)).heap.size = wr.heap.size + 1 := by simp
          have hMs := MapAt.made mapSU (wr.alloc (.cells #[.pointer (some ⟨pb, po, none⟩), .slice none 0 0, .slice none 0 0] 90))
          have hmk := makeSU (wr.alloc (.cells #[.pointer (some ⟨pb, po, none⟩), .slice none 0 0, .slice none 0 0] 90))
          rw [hs4] at hMs hmk
          have hE5 : Ext (wr.alloc (.cells #[.pointer (some ⟨pb, po, none⟩), .slice none 0 0, .slice none 0 0] 90)) ((wr.alloc (.cells #[.pointer (some ⟨pb, po, none⟩), .slice none 0 0, .slice none 0 0] 90)).alloc (.map #[] 0)) := World.grownBy_alloc _ _ _
          have hX5 := hX.ext hE5
          have hE6 := grown_trans hE4 hE5
          obtain ⟨W5, hW5⟩ : ∃ W5, W5 = (wr.alloc (.cells #[.pointer (some ⟨pb, po, none⟩), .slice none 0 0, .slice none 0 0] 90)).alloc (.map #[] 0) := ⟨_, rfl⟩
          rw [← hW5] at hX5 hE6 hMs hmk
          obtain ⟨wM, hwM⟩ : ∃ wM : World, wM = wr := ⟨_, rfl⟩
          have hb1 := HB.out.1 wr (grown_trans hg02 hg)
          have H5 := Lib.hid (And.intro hX5 (And.intro hE6 hMs)); clear hX5 hE6 hMs hX hE4 hE5 hs4
          have hgM : Ext w0 wM := by rw [hwM]; exact grown_trans hg02 hg
          have hOM : OwnV w2.heap.size 95 wM (.slice (some ⟨g, 0, none⟩) M.length cap) (M.map uV) := by rw [hwM]; exact hO
          have htM : Rows2 Any wM (.slice at' N capt) (tabL P) := by rw [hwM]; exact Rows2.ext htN hg
          have hlti : ¬ (i : Int) < M.length := by omega
          clear hO hg hMne
          go_wp2
          clear hb1 hmk hi hlt hie hlti
          --<B
          rw [← hwM] at H5 hW5
          rw [← hwM, ← hW5]
          clear hW5 hwM
          go_loopw [75] (fun jv wr => ∃ (k : Nat) (lv : Value) (f : ByteArray → Nat), jv = .int .i64 k ∧ k ≤ M.length ∧ Ext wM wr ∧ Box3 wr wM.heap.size (.pointer (some ⟨pb, po, none⟩)) lv (.slice none 0 0) ∧
            SlOA (fun F w u (x : List (List Int)) => RowsD F w u x) 23 wM.heap.size (fun b => b = wM.heap.size ∨ b = wM.heap.size + 1) wr lv (CS.take k) ∧ MapAt mapSU wr (wM.heap.size + 1) f k ∧ Hid (∀ j, j < k → f (keyS (gt CS j)) = gt M j)) (fun jv _ => M.length - (intOf jv).toNat)
          case atStart => exact ⟨0, _, _, rfl, by omega, H5.out.2.1, H5.out.1, by rw [List.take_zero]; exact ⟨[], fun _ _ => False, rfl, World.ownsRow_nil _ _ _ _, by simp, by simp, by simp, by simp, by simp [Value.ownBlock]⟩, H5.out.2.2, Lib.hid (fun j hj => by omega)⟩
          case round =>
            clear H5
            obtain ⟨k, lv, f, rfl, hk, hg, hX, hL, hMp, hf⟩ := hrel
            have hg0r := grown_trans hgM hg
            by_cases hlt : k < M.length
            · have hlt' : (k : Int) < M.length := by omega
              obtain ⟨H, SH, hmH⟩ := HFL.out.2.1 k hlt
              have hcs := HFL.out.2.2.2 k hlt
              rw [hmH, G.ofMask_msk SH] at hcs
              have hcm := hg.cell (uV_cell hOM hlt) (by simp)
              obtain ⟨m, hm⟩ : ∃ m, m = gt M k := ⟨_, rfl⟩
              rw [← hm] at hcm hmH
              have hm64 : m < 2 ^ 64 := by rw [hmH]; exact mask64 hle
              have HH := Lib.hid (And.intro SH (And.intro hmH (And.intro hcs hm))); clear SH hmH hcs hm
              have hb1 := HB.out.1 wr hg0r
              have hpr := HB.out.2.2.ext hg0r
              have hxs := hX.1
              have hmbl := hMp.lt
              go_wp2_with fail
              clear hcm hb1
              refine Calls.mono (newSequence_ok P wr _ Sp (fun _ => False) hpr hn6) ?_
              rintro eS wS ⟨vS, rfl, hgS, sb, gb, rfl, hs⟩
              have hgb0 := hs.tab.lt
              have hsb0 := hs.sB
              have hI0 : Ind P (genP P (bitsTo P m 0)) (gt (List.replicate P.orders.length [])) := by rw [bitsTo_zero, G.genP_none]; exact G.ind_one
              have HI0 := Lib.hid hI0; clear hI0
              obtain ⟨wo, rfl⟩ : ∃ wo : World, wo = wr := ⟨_, rfl⟩
              go_wp2
              go_loopw [83] (fun xv wr => ∃ (x : Nat) (b : List (List Int)), xv = .int .i64 x ∧ x ≤ N ∧ wS.grownBy wr (some gb) ∧ SeqAt wo.heap.size (fun _ => False) wr sb gb (.pointer (some ⟨pb, po, none⟩)) P.orders.length b ∧ Hid (Ind P (genP P (bitsTo P m x)) (gt b))) (fun xv _ => N - (intOf xv).toNat)
              case atStart => exact ⟨0, _, rfl, by omega, grown_refl _ _, hs, HI0⟩
              case round =>
                clear hs HI0
                obtain ⟨x, b, rfl, hx, hgb, hs, hI⟩ := hrel
                have hgb0 := hs.tab.lt
                have hgr : Ext wo wr := grown_own hgS hgb (fun j hj hlt => by cases hj; omega)
                have hg0r' := grown_trans hg0r hgr
                by_cases hxN : x < N
                · have hxN' : (x : Int) < N := by omega
                  have hand := bit_and m x hm64
                  cases hb : m.testBit x with
                  | false =>
                    rw [hb] at hand
                    have hand : bits .and .u64 ((m : Int) / 2 ^ x) 1 = 0 := hand
                    have hI2 := hI.out
                    rw [← bitsTo_skip hb] at hI2
                    have HI2 := Lib.hid hI2; clear hI2 hb hI
                    go_wp2
                    clear hand
                    go_roundw
                    case rel => exact ⟨x + 1, b, by go_num, by omega, hgb, hs, HI2⟩
                    case measure => simp [intOf]; omega
                  | true =>
                    rw [hb] at hand
                    have hand : bits .and .u64 ((m : Int) / 2 ^ x) 1 = 1 := hand
                    have hb1 := HB.out.1 wr hg0r'
                    have hxV : Vec P.orders (elAt P (x : Int)) := G.elAtV (by have := HF.out.2.2.2.1; omega)
                    have hxl : (elAt P (x : Int)).length ≤ 6 := by rw [hxV.1]; exact hn6
                    have HXV := Lib.hid (And.intro hxV (And.intro hxl hb)); clear hxV hxl hb
                    go_wp2_with fail
                    clear hand hb1
                    refine Calls.mono (elementAt_ok P hP wr _ (x : Int) Sp (HB.out.2.2.ext hg0r') (by omega) (by omega)) ?_
                    rintro eY wY ⟨yv, rfl, hgY, hY⟩
                    have hYO : OwnIn (From wr.heap.size) wY yv (elAt P (x : Int)) := OwnIn.of hY (by have := HXV.out.2.1; omega) (fun j h1 _ => h1)
                    have hlit : RowsO wr.heap.size (wY.alloc (.cells #[yv] 22)) (.slice (some ⟨wY.heap.size, 0, none⟩) 1 1) [elAt P (x : Int)] := SlO.lit1 rdOwn hYO hgY.size
                    have hga : Ext wY (wY.alloc (.cells #[yv] 22)) := World.grownBy_alloc _ _ _
                    have hga2 := grown_trans hgY hga
                    have hs8 := hs.ext hga2
                    have hR8 : Rows2 (fun k => ¬ (k = gb ∨ k = sb)) (wY.alloc (.cells #[yv] 22)) (.slice (some ⟨wY.heap.size, 0, none⟩) 1 1) [elAt P (x : Int)] := Rows2.sub (RowsD.rows (hlit.toD (by simp))) (fun k hk _ => by
                      have h1 : wr.heap.size ≤ k := hk
                      have := hs.slt
                      omega)
                    obtain ⟨ya, yc, hyv, _, _⟩ := hYO.ints.shape
                    subst hyv
                    have hp8 : PresP (fun k => k ≠ gb) (wY.alloc (.cells #[.slice ya (elAt P (x : Int)).length yc] 22)) (.pointer (some ⟨pb, po, none⟩)) P := by
                      have h1 := HB.out.2.2.ext (grown_trans hg0r' hga2)
                      have h0 := hpr
                      exact h0.mono (fun k _ hlt => ⟨by omega, Nat.lt_of_lt_of_le hlt (grown_trans hgr hga2).size, (grown_trans hgr hga2).block k hlt (by simp)⟩)
                    have H8 := Lib.hid (And.intro hs8 (And.intro hR8 hp8)); clear hs8 hR8 hp8 hlit hYO hY
                    go_wp2_with fail
                    refine Calls.mono (add_ok P G _ sb gb wo.heap.size _ _ [elAt P (x : Int)] b _ H8.out.2.2 H8.out.1 hI.out (fun z hz => by rw [List.mem_singleton.1 hz]; exact HXV.out.1) H8.out.2.1 (by simp)) ?_
                    rintro eA wA ⟨b2, gg, rfl, hgA, hsA, hA, _, _⟩
                    rw [bitsTo_add HXV.out.2.2] at hA
                    have HA := Lib.hid hA; clear hA hI
                    have hgA2 : wS.grownBy wA (some gb) := grown_trans hgb (grown_trans (grown_of_ext _ hga2) hgA)
                    clear H8 hga hga2 hgA
                    go_wp2
                    go_roundw
                    case rel => exact ⟨x + 1, b2, by go_num, by omega, hgA2, hsA, HA⟩
                    case measure => simp [intOf]; omega
                · have hxe : x = N := by omega
                  have hI2 := hI.out
                  rw [hxe, HF.out.2.2.2.1, HH.out.2.1, G.bitsTo_all HH.out.1] at hI2
                  have HI2 := Lib.hid hI2; clear hI2 hI
                  subst hxe
                  go_wp2_with fail
                  refine Calls.mono (canonical_ok P G wr sb gb wo.heap.size _ b H Sp _ (HB.out.2.2.ext hg0r') hs HI2.out) ?_
                  rintro eC wC ⟨uv, rfl, hgC, hUC⟩
                  have hgoC := grown_trans hgr hgC
                  have hul := G.cseq_len HH.out.1
                  have huV : ∀ z ∈ cseq P H, Vec P.orders z := fun z hz => HH.out.1.vec z ((G.seq_facts HH.out.1).2.1 z hz)
                  obtain ⟨u, hu⟩ : ∃ u, u = cseq P H := ⟨_, rfl⟩
                  rw [← hu] at hUC hul huV
                  have hUD : RowsD (From wo.heap.size) wC uv u := rdRows.mono (hUC.toD (by omega)) (fun k hk hlt => ⟨Nat.le_trans hgr.size hk, hlt, rfl⟩)
                  obtain ⟨ua, uc, hvu, _, _⟩ := SlD.shape hUD
                  subst hvu
                  have hkl := keyL_len u 6 (fun z hz => by rw [(huV z hz).1]; exact hn6)
                  have hks := keyS_size u
                  have hsz : (keyS u).size ≤ maxLen := by unfold maxLen; have : (6 + 1) * u.length ≤ 100 := by omega
                                                          omega
                  have hkey := keyOf_ok u wC _ _ (RowsD.rows hUD) (fun z hz => (vec_bytes hP (huV z hz)).2) (fun z hz => by rw [(huV z hz).1]; omega) (by omega)
                  obtain ⟨s, hs'⟩ : ∃ s, s = keyS u := ⟨_, rfl⟩
                  rw [← hs'] at hsz hkey
                  have HU := Lib.hid (And.intro hu (And.intro huV (And.intro hs' hul))); clear hu huV hs' hkl hks hUC
                  go_wp2_with fail
                  refine Calls.mono hkey ?_
                  rintro eK wK ⟨kv, rfl, hgK, rfl⟩
                  clear hkey
                  have hgoK := grown_trans hgoC hgK
                  obtain ⟨wU, hrun, hMU, hgU⟩ := (hMp.ext hgoK).update s hsz m hm64 (by omega)
                  have hrun2 : (Instr.mapUpdate 137 (.map (some (wM.heap.size + 1))) (.string s) (.int .u64 (m : Int))).run Tryz.prog wK = .ok () wU := hrun
                  have hgoU : wo.grownBy wU (some (wM.heap.size + 1)) := grown_trans (grown_of_ext _ hgoK) hgU
                  have hXK := hX.ext hgoK
                  have hXU : Box3 wU wM.heap.size (.pointer (some ⟨pb, po, none⟩)) lv (.slice none 0 0) := hXK.keep hgU.size (hgU.block _ hXK.1 (by simp))
                  have hUU : RowsD (From wo.heap.size) wU (.slice ua u.length uc) u := rdRows.mono hUD (fun k hk hlt => ⟨hk, Nat.lt_of_lt_of_le hlt (Nat.le_trans hgK.size hgU.size), (hgU.block k (Nat.lt_of_lt_of_le hlt hgK.size) (by
                    have h1 : wo.heap.size ≤ k := hk
                    intro e; cases e; omega)).trans (hgK.block k hlt (by simp))⟩)
                  have hav := hL.avoids
                  have hctl : (CS.take k).length ≤ 1000000 := by rw [List.length_take]; omega
                  have hbo := hg.size
                  clear hrun hXK hUD hgU
                  obtain ⟨hx0, hx1, hx2, hx3, hx4⟩ := id hXU
                  obtain ⟨lva, lvn, lvc, hlv⟩ : ∃ a n c, lv = .slice a n c := by
                    obtain ⟨a, c, h, _⟩ := SlD.shape (hL.o.toD (by omega)); exact ⟨_, _, _, h⟩
                  subst hlv
                  go_wp2_with (first | (at_builtin; refine wp_app_oneA rdRows 24 23 (.slice none 0 0) 24 und_r3 Tryz.infoR3 rfl (by decide) rfl _ _ rfl wM.heap.size _ wo wU _ _ (CS.take k) u rfl hL (fun b hb => by rcases hb with rfl | rfl <;> omega) (some (wM.heap.size + 1)) hgoU (fun b hb => by cases hb; exact .inr rfl) hUU rfl rfl hctl hbo ?_; intro v8 w8 hL8 hg8; have hX8 := hXU.keep hg8.size (hg8.block _ hXU.1 (fun e => (hav _ e.symm).1 (.inl rfl))); obtain ⟨hy0, hy1, hy2, hy3, hy4⟩ := id hX8; obtain ⟨ca8, n8, cc8, hv8⟩ : ∃ a n c, v8 = .slice a n c := (by obtain ⟨a, c, h, _⟩ := SlD.shape (hL8.o.toD (by rw [List.length_append]; simp; omega)); exact ⟨_, _, _, h⟩); subst hv8) | fail)
                  clear hx1 hx2 hx3 hx4 hrun2
                  have hX9 := (hX8.put (.slice ca8 n8 cc8)).2.1
                  have hgp := grown_put w8 ⟨wM.heap.size, 1, none⟩ (.slice ca8 n8 cc8)
                  have hL9 := hL8.kept rdRows hgp (.inl rfl)
                  have hM9 := (hMU.kept hg8 (fun e => (hav _ e.symm).1 (.inr rfl))).kept hgp (by simp)
                  have hgwU : Ext wM wU := grown_own hg hgoU (fun b hb hlt => by cases hb; omega)
                  have hgw8 : Ext wM w8 := grown_own hgwU hg8 (fun b hb hlt => by have := (hav b hb).2.1; omega)
                  have hgw9 : Ext wM (w8.setCell ⟨wM.heap.size, 1, none⟩ (.slice ca8 n8 cc8)) := grown_own hgw8 hgp (fun b hb hlt => by have : wM.heap.size = b := (by simpa using hb); omega)
                  have hkC : k < CS.length := by rw [HFL.out.2.2.1]; exact hlt
                  have hcsk : CS.take (k + 1) = CS.take k ++ [u] := by rw [take_succ_gt _ k hkC, HH.out.2.2.1, HU.out.1]
                  have hnext : ∀ j, j < k + 1 → (if keyS (gt CS j) = s then m else f (keyS (gt CS j))) = gt M j := by
                    intro j hj
                    by_cases hjk : j = k
                    · subst hjk
                      rw [if_pos (by rw [HU.out.2.2.1, HH.out.2.2.1, HU.out.1]), HH.out.2.2.2]
                    · have hjl : j < k := by omega
                      rw [if_neg, hf.out j hjl]
                      intro he
                      rw [HU.out.2.2.1, HU.out.1, ← HH.out.2.2.1] at he
                      have h1 := subB_key hP ((HFL.out.1.2 _).1 (gt_mem (l := CS) (i := j) (by omega))) ((HFL.out.1.2 _).1 (gt_mem hkC)) he
                      exact hjk (gt_inj HFL.out.1.1 (by omega) hkC h1)
                  have HNX := Lib.hid hnext; clear hnext
                  have HK9 := Lib.hid (And.intro hX9 (And.intro hL9 (And.intro hM9 (And.intro hgw9 hcsk)))); clear hX9 hL9 hM9 hgw9 hcsk hgp hX8 hL8 hg8 hgoU hgwU hgw8 hUU hXU hMU
                  go_wp2
                  clear hy1 hy2 hy3 hy4
                  go_roundw
                  case rel => exact ⟨k + 1, _, _, by go_num, by omega, HK9.out.2.2.2.1, HK9.out.1, by rw [HK9.out.2.2.2.2]; exact HK9.out.2.1, HK9.out.2.2.1, HNX⟩
                  case measure => simp [intOf]; omega
            · have hke : k = M.length := by omega
              have hke0 := hke
              have htk : CS.take k = CS := List.take_of_length_le (by rw [HFL.out.2.2.1]; omega)
              rw [htk] at hL
              have hCn : 0 < CS.length := by
                have := (HFL.out.1.2 _).2 (G.subB_cseq G.sub_one)
                cases CS with
                | nil => cases this
                | cons => simp
              have hCl : CS.length ≤ 1000000 := by rw [HFL.out.2.2.1]; omega
              have hCU : ∀ u ∈ CS, SeqOk P u ∧ u.length ≤ 100 := fun u hu => by
                have h1 := (HFL.out.1.2 u).1 hu
                have h2 := (G.seq_facts (G.subB h1)).1
                rw [← h1.2] at h2
                have := G.sub_len h1
                exact ⟨h2, by omega⟩
              have hav := hL.avoids
              have hbM := hgM.size
              have hbw := HB.out.2.1
              have hlb : lv.ownBlock ≠ some w.heap.size := fun e => by have := (hav _ e).2.1; omega
              have hps : PresP (fun k => lv.ownBlock ≠ some k) wr (.pointer (some ⟨pb, po, none⟩)) P := HB.out.2.2.mono (fun k _ hlt => ⟨fun e => by have := (hav _ e).2.1; omega, Nat.lt_of_lt_of_le hlt hg0r.size, hg0r.block k hlt (by simp)⟩)
              have hsort := sortSubs_ok P hP wr lv CS _ wM.heap.size w.heap.size pb po hL hCn hCl hCU (HB.out.1 wr hg0r) hlb hps
              obtain ⟨hx0, hx1, hx2, hx3, hx4⟩ := id hX
              obtain ⟨lva, lvn, lvc, hlv⟩ : ∃ a n c, lv = .slice a n c := by
                obtain ⟨a, c, h, _⟩ := SlD.shape (hL.o.toD (by omega)); exact ⟨_, _, _, h⟩
              subst hlv
              have hnk : ¬ (k : Int) < M.length := by omega
              clear hps hlb hCU hCn htk hk
              go_wp2_with fail
              clear hx1 hx2 hx3 hx4 hlt hnk hke
              refine Calls.mono hsort ?_
              rintro eZ wZ ⟨rfl, L', hLZ, hperm, hsorted, hgZ⟩
              clear hsort
              have hLat := latL_of G hperm hsorted HFL.out.1.1 HFL.out.1.2
              have hLl : L'.length ≤ 1000000 := by rw [hperm.length_eq]; exact hCl
              have hgMZ : Ext wM wZ := grown_own hg hgZ (fun b hb hlt => by have := (hav b hb).2.1; omega)
              have hXZ := hX.keep hgZ.size (hgZ.block _ hX.1 (fun e => (hav _ e.symm).1 (.inl rfl)))
              have hMZ := hMp.kept hgZ (fun e => (hav _ e.symm).1 (.inr rfl))
              have hfv : ∀ u ∈ L', f (keyS u) = mskU P u := fun u hu => by
                have hu2 := hperm.mem_iff.1 hu
                obtain ⟨j, hj, rfl⟩ := mem_gt hu2
                rw [hf.out j (by rw [HFL.out.2.2.1] at hj; rw [hke0]; exact hj)]
                obtain ⟨H, SH, e⟩ := HFL.out.2.1 j (by rw [HFL.out.2.2.1] at hj; exact hj)
                rw [HFL.out.2.2.2 j (by rw [HFL.out.2.2.1] at hj; exact hj), e, G.ofMask_msk SH, G.mskU_cseq SH]
              have hln : lvn = L'.length := by
                obtain ⟨a, c, h, _⟩ := SlD.shape (hLZ.o.toD (by omega)); simp only [Value.slice.injEq] at h; exact h.2.1
              subst hln
              have HZ := Lib.hid (And.intro hLat (And.intro hfv (And.intro hLZ (And.intro hgMZ (And.intro hXZ hMZ))))); clear hLat hfv hperm hsorted hf hLZ hgMZ hMZ hMp hX hL hgZ hg hg0r hav
              obtain ⟨_, hy1, hy2, hy3, hy4⟩ := id hXZ
              go_wp2
              clear hy1 hy2 hy3 hy4 hXZ
              --<C
              go_loopw [126] (fun jv wr => ∃ (k : Nat) (mv : Value), jv = .int .i64 k ∧ k ≤ L'.length ∧ wZ.grownBy wr (some wM.heap.size) ∧ Box3 wr wM.heap.size (.pointer (some ⟨pb, po, none⟩)) (.slice lva L'.length lvc) mv ∧
                OwnV wZ.heap.size 95 wr mv ((L'.take k).map fun u => uV (mskU P u))) (fun jv _ => L'.length - (intOf jv).toNat)
              case atStart => exact ⟨0, _, rfl, by omega, grown_refl _ _, HZ.out.2.2.2.2.1, World.ownsRow_nil _ _ _ _⟩
              case round =>
                obtain ⟨k, mv, rfl, hk, hg, hX, hO⟩ := hrel
                have hLr := HZ.out.2.2.1.kept rdRows hg (.inl rfl)
                have hR3 := Rows3D.rows (hLr.o.toD (by omega))
                by_cases hlt : k < L'.length
                · have hlt' : (k : Int) < L'.length := by omega
                  obtain ⟨bL, oL, a2, cap2, rfl, _, _, hcu, hru⟩ := Rows3.at hR3 k hlt
                  have hbu := (HZ.out.1.2 _).1 (gt_mem hlt)
                  have hue := HZ.out.2.1 _ (gt_mem hlt)
                  obtain ⟨u, hu⟩ : ∃ u, u = gt L' k := ⟨_, rfl⟩
                  rw [← hu] at hbu hue hcu hru
                  have hul := G.sub_len hbu
                  have hkl := keyL_len u 6 (fun z hz => by rw [(hbu.1 z hz).1]; exact hn6)
                  have hks := keyS_size u
                  have hsz : (keyS u).size ≤ maxLen := by unfold maxLen; have : (6 + 1) * u.length ≤ 100 := by omega
                                                          omega
                  have hlook : ∀ w', wZ.grownBy w' (some wM.heap.size) → (Instr.lookup 137 (.map (some (wM.heap.size + 1))) (.string (keyS u)) false).run Tryz.prog w' = .ok (.int .u64 ((mskU P u : Nat) : Int)) w' := fun w' h => by
                    have := (HZ.out.2.2.2.2.2.kept h (by simp)).look (keyS u) hsz
                    rw [hue] at this; exact this
                  obtain ⟨q, hq⟩ : ∃ q, q = mskU P u := ⟨_, rfl⟩
                  rw [← hq] at hlook
                  have hkey := keyOf_ok u wr.drew (.slice a2 u.length cap2) _ (Rows2.ext hru (grown_drew _ _)) (fun z hz => (vec_bytes hP (hbu.1 z hz)).2) (fun z hz => by rw [(hbu.1 z hz).1]; omega) (by omega)
                  obtain ⟨s, hs⟩ : ∃ s, s = keyS u := ⟨_, rfl⟩
                  rw [← hs] at hlook hkey
                  have hapv : (L'.take (k + 1)).map (fun u => uV (mskU P u)) = (L'.take k).map (fun u => uV (mskU P u)) ++ [uV q] := by
                    rw [take_succ_gt L' k hlt, List.map_append, hq, hu]; rfl
                  have hml : ((L'.take k).map fun u => uV (mskU P u)).length ≤ 1000000 := by rw [List.length_map, List.length_take]; omega
                  obtain ⟨vs, hvs⟩ : ∃ vs, vs = (L'.take k).map fun u => uV (mskU P u) := ⟨_, rfl⟩
                  rw [← hvs] at hapv hml hO
                  have HU := Lib.hid (And.intro hbu (And.intro hu (And.intro hul (And.intro hq (And.intro hs (And.intro hapv (And.intro hml hvs))))))); clear hbu hue hu hul hkl hks hsz hq hs hapv hml hvs
                  obtain ⟨mva, mvn, mvc, hmv⟩ : ∃ a n c, mv = .slice a n c := by
                    rcases hO.form with ⟨h1, _⟩ | ⟨g, cp, h1, _⟩
                    · exact ⟨_, _, _, h1⟩
                    · exact ⟨_, _, _, h1⟩
                  subst hmv
                  obtain ⟨hy0, hy1, hy2, hy3, hy4⟩ := id hX
                  have hzs := hg.size
                  go_wp2
                  clear hcu hy1 hy2
                  refine wp_region_held_drew (S := fun w' => wZ.grownBy w' (some wM.heap.size)) (by kernel_rfl) (by first | exact grown_drew _ _ | exact grown_trans hg (grown_drew _ _) | assumption) (fun hHeld => ?_)
                  refine wpAnyH_take (i := 0) (v := ?v0_1) rfl (by kernel_rfl) (by kernel_rfl) (by kernel_rfl) (fun _ _ _ h => h) (Or.inl ⟨by rfl, ?hy0_1⟩) (by assumption) ?rest0_1
                  case hy0_1 => (intro w hSw; (try dsimp only at hSw); go_simp; try with_reducible rfl)
                  try simp only [Act.put, List.getElem_toArray, List.getElem_cons_succ, List.getElem_cons_zero, List.setIfInBounds_toArray, List.set_cons_zero, List.set_cons_succ]
                  refine wpAnyH_take (i := 1) (v := ?v1_2) rfl (by kernel_rfl) (by kernel_rfl) (by kernel_rfl) (fun _ _ _ h => h) (Or.inl ⟨by rfl, ?hy1_2⟩) (by assumption) ?rest1_2
                  case hy1_2 => (intro w hSw; (try dsimp only at hSw); go_simp; try with_reducible rfl)
                  try simp only [Act.put, List.getElem_toArray, List.getElem_cons_succ, List.getElem_cons_zero, List.setIfInBounds_toArray, List.set_cons_zero, List.set_cons_succ]
                  refine wpAnyH_take (i := 2) (v := ?v2_3) rfl (by kernel_rfl) (by kernel_rfl) (by kernel_rfl) (fun _ _ _ h => h) (Or.inl ⟨by rfl, ?hy2_3⟩) (by assumption) ?rest2_3
                  case hy2_3 => (intro w hSw; (try dsimp only at hSw); go_simp; try with_reducible rfl)
                  try simp only [Act.put, List.getElem_toArray, List.getElem_cons_succ, List.getElem_cons_zero, List.setIfInBounds_toArray, List.set_cons_zero, List.set_cons_succ]
                  refine wpAnyH_take (i := 3) (v := ?v3_4) rfl (by kernel_rfl) (by kernel_rfl) (by kernel_rfl) (fun _ _ _ h => h) (Or.inl ⟨by rfl, ?hy3_4⟩) (by assumption) ?rest3_4
                  case hy3_4 => (intro w hSw; (try dsimp only at hSw); go_simp; try with_reducible rfl)
                  try simp only [Act.put, List.getElem_toArray, List.getElem_cons_succ, List.getElem_cons_zero, List.setIfInBounds_toArray, List.set_cons_zero, List.set_cons_succ]
                  refine wpAnyH_take (i := 5) (v := ?v5_5) rfl (by kernel_rfl) (by kernel_rfl) (by kernel_rfl) (fun _ _ _ h => h) (Or.inl ⟨by rfl, ?hy5_5⟩) (by assumption) ?rest5_5
                  case hy5_5 => (intro w hSw; (try dsimp only at hSw); go_simp; try with_reducible rfl)
                  try simp only [Act.put, List.getElem_toArray, List.getElem_cons_succ, List.getElem_cons_zero, List.setIfInBounds_toArray, List.set_cons_zero, List.set_cons_succ]
                  refine wpAnyH_take (i := 6) (v := ?v6_6) rfl (by kernel_rfl) (by kernel_rfl) (by kernel_rfl) (fun _ _ _ h => h) (Or.inl ⟨by rfl, ?hy6_6⟩) (by assumption) ?rest6_6
                  case hy6_6 => (intro w hSw; (try dsimp only at hSw); go_simp; try with_reducible rfl)
                  try simp only [Act.put, List.getElem_toArray, List.getElem_cons_succ, List.getElem_cons_zero, List.setIfInBounds_toArray, List.set_cons_zero, List.set_cons_succ]
                  refine wpAnyH_ready (rs := [4, 7]) (by kernel_rfl) (by simp) ?_
                  refine AllReadyH.cons rfl (fun Kc hKc => ?_) (AllReadyH.cons rfl (fun Kc hKc => ?_) AllReadyH.nil)
                  · go_simp
                    refine hKc.out _ _ ?_ (fun hHeld => ?_)
                    · assumption
                    clear hKc Kc
                    try simp only [Act.put, List.getElem_toArray, List.getElem_cons_succ, List.getElem_cons_zero, List.setIfInBounds_toArray, List.set_cons_zero, List.set_cons_succ]
                    refine wpAnyH_ready (rs := [7]) (by kernel_rfl) (by simp) ?_
                    refine AllReadyH.cons rfl (fun Kc hKc => ?_) AllReadyH.nil
                    go_simp
                    go_at_call 137
                    refine Calls.mono hkey ?_
                    rintro eK wK ⟨kv, rfl, hgK, rfl⟩
                    have hgK2 : wZ.grownBy wK (some wM.heap.size) := grown_trans hg (grown_of_ext _ (grown_trans (grown_drew _ _) hgK))
                    have hXK : Box3 wK wM.heap.size (.pointer (some ⟨pb, po, none⟩)) (.slice (some ⟨bL, oL, none⟩) L'.length lvc) (.slice mva mvn mvc) := hX.ext (grown_trans (grown_drew _ _) hgK)
                    have hOK : OwnV wZ.heap.size 95 wK (.slice mva mvn mvc) vs := hO.kept (grown_trans (grown_drew _ _) hgK) (by cases hv : (Value.slice mva mvn mvc).ownBlock <;> simp)
                    obtain ⟨hz0, hz1, hz2, hz3, hz4⟩ := id hXK
                    go_wp2_with fail
                    refine hKc.out _ _ ?_ (fun hHeld => ?_)
                    · exact hgK2
                    clear hKc Kc
                    try simp only [Act.put, List.getElem_toArray, List.getElem_cons_succ, List.getElem_cons_zero, List.setIfInBounds_toArray, List.set_cons_zero, List.set_cons_succ]
                    refine wpAnyH_take (i := 8) (v := ?v8_7) rfl (by kernel_rfl) (by kernel_rfl) (by kernel_rfl) (fun _ _ _ h => h) (Or.inl ⟨by rfl, ?hy8_7⟩) (by assumption) ?rest8_7
                    case hy8_7 => (intro w hSw; (try dsimp only at hSw); go_simp; try with_reducible rfl)
                    try simp only [Act.put, List.getElem_toArray, List.getElem_cons_succ, List.getElem_cons_zero, List.setIfInBounds_toArray, List.set_cons_zero, List.set_cons_succ]
                    refine wpAnyH_ready (rs := [9]) (by kernel_rfl) (by simp) ?_
                    refine AllReadyH.cons rfl (fun Kc hKc => ?_) AllReadyH.nil
                    go_simp
                    refine hKc.out _ _ ?_ (fun hHeld => ?_)
                    · exact grown_trans hgK2 (grown_of_ext _ (World.grownBy_alloc _ _ _))
                    clear hKc Kc
                    try simp only [Act.put, List.getElem_toArray, List.getElem_cons_succ, List.getElem_cons_zero, List.setIfInBounds_toArray, List.set_cons_zero, List.set_cons_succ]
                    refine wpAnyH_ready (rs := [10]) (by kernel_rfl) (by simp) ?_
                    refine AllReadyH.cons rfl (fun Kc hKc => ?_) AllReadyH.nil
                    refine step_app_u rfl _ _ rfl wZ.heap.size (.slice mva mvn mvc) vs q rfl wK hOK rfl rfl HU.out.2.2.2.2.2.2.1 hgK2.size ?_
                    intro v8 w8 hO8 hg8
                    have hbk : ∀ b, (Value.slice mva mvn mvc).ownBlock = some b → wZ.heap.size ≤ b := fun b hb => (hOK.lt b hb).1
                    have hX8 := hXK.keep hg8.size (hg8.block _ hXK.1 (fun e => by have := hbk _ e.symm; omega))
                    have hgw8 : wZ.grownBy w8 (some wM.heap.size) := grown_own hgK2 hg8 (fun b hb hlt => by have := hbk b hb; omega)
                    obtain ⟨ja, jn, jc, hj8⟩ : ∃ a n c, v8 = .slice a n c := (by rcases hO8.form with ⟨h1, _⟩ | ⟨g, cp, h1, _⟩ <;> exact ⟨_, _, _, h1⟩)
                    subst hj8
                    have hX9 := (hX8.put (.slice ja jn jc)).2.2
                    have hgp := grown_put w8 ⟨wM.heap.size, 2, none⟩ (.slice ja jn jc)
                    have hne8 : (Value.slice ja jn jc).ownBlock = none ∨ (Value.slice ja jn jc).ownBlock ≠ some wM.heap.size := .inr (fun e => by have := (hO8.lt _ e).1; omega)
                    have hO9 := hO8.kept hgp hne8
                    rw [← HU.out.2.2.2.2.2.1] at hO9
                    have hgw9 := grown_trans hgw8 hgp
                    obtain ⟨hj0, hj1, hj2, hj3, hj4⟩ := id hX8
                    refine hKc.out _ _ ?_ (fun hHeld => ?_)
                    · exact hgw8
                    clear hKc Kc
                    try simp only [Act.put, List.getElem_toArray, List.getElem_cons_succ, List.getElem_cons_zero, List.setIfInBounds_toArray, List.set_cons_zero, List.set_cons_succ]
                    refine wpAnyH_take (i := 11) (v := ?v11_8) rfl (by kernel_rfl) (by kernel_rfl) (by kernel_rfl) (fun _ _ _ h => h) (Or.inl ⟨by rfl, ?hy11_8⟩) (by assumption) ?rest11_8
                    case hy11_8 => (intro w hSw; (try dsimp only at hSw); go_simp; try with_reducible rfl)
                    try simp only [Act.put, List.getElem_toArray, List.getElem_cons_succ, List.getElem_cons_zero, List.setIfInBounds_toArray, List.set_cons_zero, List.set_cons_succ]
                    refine wpAnyH_take (i := 12) (v := ?v12_9) rfl (by kernel_rfl) (by kernel_rfl) (by kernel_rfl) (fun _ _ _ h => h) (Or.inl ⟨by rfl, ?hy12_9⟩) (by assumption) ?rest12_9
                    case hy12_9 => (intro w hSw; (try dsimp only at hSw); go_simp; try with_reducible rfl)
                    try simp only [Act.put, List.getElem_toArray, List.getElem_cons_succ, List.getElem_cons_zero, List.setIfInBounds_toArray, List.set_cons_zero, List.set_cons_succ]
                    refine wpAnyH_ready (rs := [13]) (by kernel_rfl) (by simp) ?_
                    refine AllReadyH.cons rfl (fun Kc hKc => ?_) AllReadyH.nil
                    go_simp
                    refine hKc.out _ _ ?_ (fun hHeld => ?_)
                    · exact hgw9
                    clear hKc Kc
                    try simp only [Act.put, List.getElem_toArray, List.getElem_cons_succ, List.getElem_cons_zero, List.setIfInBounds_toArray, List.set_cons_zero, List.set_cons_succ]
                    refine wpAnyH_done (by kernel_rfl) ?_ _
                    clear hz1 hz2 hz3 hz4 hj1 hj2 hj3 hj4 hy3 hy4
                    go_wp2
                    go_roundw
                    case rel => exact ⟨k + 1, _, by go_num, by omega, hgw9, hX9, hO9⟩
                    case measure => simp [intOf]; omega
                  · go_simp
                    go_at_call 137
                    refine Calls.mono hkey ?_
                    rintro eK wK ⟨kv, rfl, hgK, rfl⟩
                    have hgK2 : wZ.grownBy wK (some wM.heap.size) := grown_trans hg (grown_of_ext _ (grown_trans (grown_drew _ _) hgK))
                    have hXK : Box3 wK wM.heap.size (.pointer (some ⟨pb, po, none⟩)) (.slice (some ⟨bL, oL, none⟩) L'.length lvc) (.slice mva mvn mvc) := hX.ext (grown_trans (grown_drew _ _) hgK)
                    have hOK : OwnV wZ.heap.size 95 wK (.slice mva mvn mvc) vs := hO.kept (grown_trans (grown_drew _ _) hgK) (by cases hv : (Value.slice mva mvn mvc).ownBlock <;> simp)
                    obtain ⟨hz0, hz1, hz2, hz3, hz4⟩ := id hXK
                    go_wp2_with fail
                    refine hKc.out _ _ ?_ (fun hHeld => ?_)
                    · exact hgK2
                    clear hKc Kc
                    try simp only [Act.put, List.getElem_toArray, List.getElem_cons_succ, List.getElem_cons_zero, List.setIfInBounds_toArray, List.set_cons_zero, List.set_cons_succ]
                    refine wpAnyH_take (i := 8) (v := ?v8_10) rfl (by kernel_rfl) (by kernel_rfl) (by kernel_rfl) (fun _ _ _ h => h) (Or.inl ⟨by rfl, ?hy8_10⟩) (by assumption) ?rest8_10
                    case hy8_10 => (intro w hSw; (try dsimp only at hSw); go_simp; try with_reducible rfl)
                    try simp only [Act.put, List.getElem_toArray, List.getElem_cons_succ, List.getElem_cons_zero, List.setIfInBounds_toArray, List.set_cons_zero, List.set_cons_succ]
                    refine wpAnyH_ready (rs := [4, 9]) (by kernel_rfl) (by simp) ?_
                    refine AllReadyH.cons rfl (fun Kc hKc => ?_) (AllReadyH.cons rfl (fun Kc hKc => ?_) AllReadyH.nil)
                    · go_simp
                      refine hKc.out _ _ ?_ (fun hHeld => ?_)
                      · assumption
                      clear hKc Kc
                      try simp only [Act.put, List.getElem_toArray, List.getElem_cons_succ, List.getElem_cons_zero, List.setIfInBounds_toArray, List.set_cons_zero, List.set_cons_succ]
                      refine wpAnyH_ready (rs := [9]) (by kernel_rfl) (by simp) ?_
                      refine AllReadyH.cons rfl (fun Kc hKc => ?_) AllReadyH.nil
                      go_simp
                      refine hKc.out _ _ ?_ (fun hHeld => ?_)
                      · exact grown_trans hgK2 (grown_of_ext _ (World.grownBy_alloc _ _ _))
                      clear hKc Kc
                      try simp only [Act.put, List.getElem_toArray, List.getElem_cons_succ, List.getElem_cons_zero, List.setIfInBounds_toArray, List.set_cons_zero, List.set_cons_succ]
                      refine wpAnyH_ready (rs := [10]) (by kernel_rfl) (by simp) ?_
                      refine AllReadyH.cons rfl (fun Kc hKc => ?_) AllReadyH.nil
                      refine step_app_u rfl _ _ rfl wZ.heap.size (.slice mva mvn mvc) vs q rfl wK hOK rfl rfl HU.out.2.2.2.2.2.2.1 hgK2.size ?_
                      intro v8 w8 hO8 hg8
                      have hbk : ∀ b, (Value.slice mva mvn mvc).ownBlock = some b → wZ.heap.size ≤ b := fun b hb => (hOK.lt b hb).1
                      have hX8 := hXK.keep hg8.size (hg8.block _ hXK.1 (fun e => by have := hbk _ e.symm; omega))
                      have hgw8 : wZ.grownBy w8 (some wM.heap.size) := grown_own hgK2 hg8 (fun b hb hlt => by have := hbk b hb; omega)
                      obtain ⟨ja, jn, jc, hj8⟩ : ∃ a n c, v8 = .slice a n c := (by rcases hO8.form with ⟨h1, _⟩ | ⟨g, cp, h1, _⟩ <;> exact ⟨_, _, _, h1⟩)
                      subst hj8
                      have hX9 := (hX8.put (.slice ja jn jc)).2.2
                      have hgp := grown_put w8 ⟨wM.heap.size, 2, none⟩ (.slice ja jn jc)
                      have hne8 : (Value.slice ja jn jc).ownBlock = none ∨ (Value.slice ja jn jc).ownBlock ≠ some wM.heap.size := .inr (fun e => by have := (hO8.lt _ e).1; omega)
                      have hO9 := hO8.kept hgp hne8
                      rw [← HU.out.2.2.2.2.2.1] at hO9
                      have hgw9 := grown_trans hgw8 hgp
                      obtain ⟨hj0, hj1, hj2, hj3, hj4⟩ := id hX8
                      refine hKc.out _ _ ?_ (fun hHeld => ?_)
                      · exact hgw8
                      clear hKc Kc
                      try simp only [Act.put, List.getElem_toArray, List.getElem_cons_succ, List.getElem_cons_zero, List.setIfInBounds_toArray, List.set_cons_zero, List.set_cons_succ]
                      refine wpAnyH_take (i := 11) (v := ?v11_11) rfl (by kernel_rfl) (by kernel_rfl) (by kernel_rfl) (fun _ _ _ h => h) (Or.inl ⟨by rfl, ?hy11_11⟩) (by assumption) ?rest11_11
                      case hy11_11 => (intro w hSw; (try dsimp only at hSw); go_simp; try with_reducible rfl)
                      try simp only [Act.put, List.getElem_toArray, List.getElem_cons_succ, List.getElem_cons_zero, List.setIfInBounds_toArray, List.set_cons_zero, List.set_cons_succ]
                      refine wpAnyH_take (i := 12) (v := ?v12_12) rfl (by kernel_rfl) (by kernel_rfl) (by kernel_rfl) (fun _ _ _ h => h) (Or.inl ⟨by rfl, ?hy12_12⟩) (by assumption) ?rest12_12
                      case hy12_12 => (intro w hSw; (try dsimp only at hSw); go_simp; try with_reducible rfl)
                      try simp only [Act.put, List.getElem_toArray, List.getElem_cons_succ, List.getElem_cons_zero, List.setIfInBounds_toArray, List.set_cons_zero, List.set_cons_succ]
                      refine wpAnyH_ready (rs := [13]) (by kernel_rfl) (by simp) ?_
                      refine AllReadyH.cons rfl (fun Kc hKc => ?_) AllReadyH.nil
                      go_simp
                      refine hKc.out _ _ ?_ (fun hHeld => ?_)
                      · exact hgw9
                      clear hKc Kc
                      try simp only [Act.put, List.getElem_toArray, List.getElem_cons_succ, List.getElem_cons_zero, List.setIfInBounds_toArray, List.set_cons_zero, List.set_cons_succ]
                      refine wpAnyH_done (by kernel_rfl) ?_ _
                      clear hz1 hz2 hz3 hz4 hj1 hj2 hj3 hj4 hy3 hy4
                      go_wp2
                      go_roundw
                      case rel => exact ⟨k + 1, _, by go_num, by omega, hgw9, hX9, hO9⟩
                      case measure => simp [intOf]; omega
                    · go_simp
                      refine hKc.out _ _ ?_ (fun hHeld => ?_)
                      · exact grown_trans hgK2 (grown_of_ext _ (World.grownBy_alloc _ _ _))
                      clear hKc Kc
                      try simp only [Act.put, List.getElem_toArray, List.getElem_cons_succ, List.getElem_cons_zero, List.setIfInBounds_toArray, List.set_cons_zero, List.set_cons_succ]
                      refine wpAnyH_ready (rs := [4]) (by kernel_rfl) (by simp) ?_
                      refine AllReadyH.cons rfl (fun Kc hKc => ?_) AllReadyH.nil
                      go_simp
                      refine hKc.out _ _ ?_ (fun hHeld => ?_)
                      · assumption
                      clear hKc Kc
                      try simp only [Act.put, List.getElem_toArray, List.getElem_cons_succ, List.getElem_cons_zero, List.setIfInBounds_toArray, List.set_cons_zero, List.set_cons_succ]
                      refine wpAnyH_ready (rs := [10]) (by kernel_rfl) (by simp) ?_
                      refine AllReadyH.cons rfl (fun Kc hKc => ?_) AllReadyH.nil
                      refine step_app_u rfl _ _ rfl wZ.heap.size (.slice mva mvn mvc) vs q rfl wK hOK rfl rfl HU.out.2.2.2.2.2.2.1 hgK2.size ?_
                      intro v8 w8 hO8 hg8
                      have hbk : ∀ b, (Value.slice mva mvn mvc).ownBlock = some b → wZ.heap.size ≤ b := fun b hb => (hOK.lt b hb).1
                      have hX8 := hXK.keep hg8.size (hg8.block _ hXK.1 (fun e => by have := hbk _ e.symm; omega))
                      have hgw8 : wZ.grownBy w8 (some wM.heap.size) := grown_own hgK2 hg8 (fun b hb hlt => by have := hbk b hb; omega)
                      obtain ⟨ja, jn, jc, hj8⟩ : ∃ a n c, v8 = .slice a n c := (by rcases hO8.form with ⟨h1, _⟩ | ⟨g, cp, h1, _⟩ <;> exact ⟨_, _, _, h1⟩)
                      subst hj8
                      have hX9 := (hX8.put (.slice ja jn jc)).2.2
                      have hgp := grown_put w8 ⟨wM.heap.size, 2, none⟩ (.slice ja jn jc)
                      have hne8 : (Value.slice ja jn jc).ownBlock = none ∨ (Value.slice ja jn jc).ownBlock ≠ some wM.heap.size := .inr (fun e => by have := (hO8.lt _ e).1; omega)
                      have hO9 := hO8.kept hgp hne8
                      rw [← HU.out.2.2.2.2.2.1] at hO9
                      have hgw9 := grown_trans hgw8 hgp
                      obtain ⟨hj0, hj1, hj2, hj3, hj4⟩ := id hX8
                      refine hKc.out _ _ ?_ (fun hHeld => ?_)
                      · exact hgw8
                      clear hKc Kc
                      try simp only [Act.put, List.getElem_toArray, List.getElem_cons_succ, List.getElem_cons_zero, List.setIfInBounds_toArray, List.set_cons_zero, List.set_cons_succ]
                      refine wpAnyH_take (i := 11) (v := ?v11_13) rfl (by kernel_rfl) (by kernel_rfl) (by kernel_rfl) (fun _ _ _ h => h) (Or.inl ⟨by rfl, ?hy11_13⟩) (by assumption) ?rest11_13
                      case hy11_13 => (intro w hSw; (try dsimp only at hSw); go_simp; try with_reducible rfl)
                      try simp only [Act.put, List.getElem_toArray, List.getElem_cons_succ, List.getElem_cons_zero, List.setIfInBounds_toArray, List.set_cons_zero, List.set_cons_succ]
                      refine wpAnyH_take (i := 12) (v := ?v12_14) rfl (by kernel_rfl) (by kernel_rfl) (by kernel_rfl) (fun _ _ _ h => h) (Or.inl ⟨by rfl, ?hy12_14⟩) (by assumption) ?rest12_14
                      case hy12_14 => (intro w hSw; (try dsimp only at hSw); go_simp; try with_reducible rfl)
                      try simp only [Act.put, List.getElem_toArray, List.getElem_cons_succ, List.getElem_cons_zero, List.setIfInBounds_toArray, List.set_cons_zero, List.set_cons_succ]
                      refine wpAnyH_ready (rs := [13]) (by kernel_rfl) (by simp) ?_
                      refine AllReadyH.cons rfl (fun Kc hKc => ?_) AllReadyH.nil
                      go_simp
                      refine hKc.out _ _ ?_ (fun hHeld => ?_)
                      · exact hgw9
                      clear hKc Kc
                      try simp only [Act.put, List.getElem_toArray, List.getElem_cons_succ, List.getElem_cons_zero, List.setIfInBounds_toArray, List.set_cons_zero, List.set_cons_succ]
                      refine wpAnyH_done (by kernel_rfl) ?_ _
                      clear hz1 hz2 hz3 hz4 hj1 hj2 hj3 hj4 hy3 hy4
                      go_wp2
                      go_roundw
                      case rel => exact ⟨k + 1, _, by go_num, by omega, hgw9, hX9, hO9⟩
                      case measure => simp [intOf]; omega
                · have hke : k = L'.length := by omega
                  have hOf : OwnV w.heap.size 95 wr mv (L'.map fun u => uV (mskU P u)) := by
                    rw [List.take_of_length_le (by omega)] at hO
                    exact OwnV.weak hO (by have := hbM; have := hbw; have := HZ.out.2.2.2.1.size; omega)
                  have hgMr : Ext wM wr := grown_own HZ.out.2.2.2.1 hg (fun b hb hlt => by cases hb; omega)
                  have hfin : LatAt w.heap.size P wr wM.heap.size (.pointer (some ⟨pb, po, none⟩)) L' := ⟨by omega, _, _, hX, hLr.o.weak (by omega), hOf⟩
                  have HFN := Lib.hid (And.intro hfin (grown_trans hg0 (grown_trans hgM hgMr)))
                  have hnl : ¬ (k : Int) < L'.length := by omega
                  clear hfin hgMr hOf hO hLr hR3 hX hg hke hlt hk
                  go_wp2
                  refine bodyPost_ret (v := .tuple #[.pointer (some ⟨wM.heap.size, 0, none⟩), .int .i64 0]) (by simp [results, Tryz.results81, go_sem]) rfl ?_
                  exact ⟨_, rfl, HFN.out.2, some ⟨wM.heap.size, 0, none⟩, by rw [HC0.out], fun h => absurd HC0.out h, fun _ => by first | exact ⟨wM.heap.size, L', rfl, HZ.out.1, HFN.out.1⟩ | exact ⟨wM.heap.size, rfl, L', HZ.out.1, HFN.out.1⟩⟩
              -->C
          -->B
      -->A

end Go.Proofs.YtdklekdpdbjfiaaGreat

/- Plain: the entries of a list at the places with a property. -/
namespace Go.Proofs.YtdklekdpdbjfiaaGreat
open Go.RowKit

open Classical in
noncomputable def flTo (Q : Nat → Prop) (L : List (List (List Int))) : Nat → List (List (List Int))
  | 0 => []
  | k + 1 => if Q k then flTo Q L k ++ [gt L k] else flTo Q L k
theorem flTo_yes {Q : Nat → Prop} {L : List (List (List Int))} {k : Nat} (h : Q k) : flTo Q L (k + 1) = flTo Q L k ++ [gt L k] := by rw [flTo, if_pos h]
theorem flTo_no {Q : Nat → Prop} {L : List (List (List Int))} {k : Nat} (h : ¬ Q k) : flTo Q L (k + 1) = flTo Q L k := by rw [flTo, if_neg h]
theorem flTo_len (Q : Nat → Prop) (L : List (List (List Int))) : ∀ k, (flTo Q L k).length ≤ k
  | 0 => Nat.le_refl _
  | k + 1 => by
    have := flTo_len Q L k
    unfold flTo
    split
    · rw [List.length_append, List.length_singleton]; omega
    · omega
theorem flTo_mem {Q : Nat → Prop} {L : List (List (List Int))} : ∀ {k : Nat}, k ≤ L.length → ∀ u ∈ flTo Q L k, u ∈ L
  | 0, _, u, h => by cases h
  | k + 1, hk, u, h => by
    unfold flTo at h
    split at h
    · rcases List.mem_append.1 h with h | h
      · exact flTo_mem (by omega) u h
      · rw [List.mem_singleton.1 h]; exact gt_mem (by omega)
    · exact flTo_mem (by omega) u h

end Go.Proofs.YtdklekdpdbjfiaaGreat

/- (*impl.lattice).filter with a closure. (Printed by gen_filter.py.) -/
namespace Go.Proofs.YtdklekdpdbjfiaaGreat
open Go.RowKit

set_option maxRecDepth 100000 in
set_option maxHeartbeats 4000000 in
theorem filterC_ok (Q : Nat → Prop) (c1 c2 c3 : Value) (L : List (List (List Int))) (hn : L.length ≤ 17408) (w : World) (B lb : Nat) (p lv mv : Value) (hX : Box3 w lb p lv mv)
    (hL : SlO (fun F w u (x : List (List Int)) => RowsD F w u x) 23 B w lv L) (hB : B ≤ w.heap.size)
    (hcl0 : ∀ (i : Nat) (wr : World), i < L.length → Ext w wr → Calls Tryz.prog 102 #[.int .i64 (i : Int), c1, c2, c3] wr (Ret wr fun _ v => ∃ r : Bool, v = .bool r ∧ (r = true ↔ Q i))) :
    Calls Tryz.prog 84 #[.pointer (some ⟨lb, 0, none⟩), .func (.func 102) #[] #[c1, c2, c3]] w
      (Ret w fun w' v => SlO (fun F w u (x : List (List Int)) => RowsD F w u x) 23 B w' v (flTo Q L L.length)) := by
  obtain ⟨vs, Gb, hvl, hOv, hGb, hd, hE⟩ := hL
  obtain ⟨la, lc, hlv⟩ : ∃ a c, lv = .slice a L.length c := by
    rcases hOv.form with ⟨e1, e2⟩ | ⟨g, cp, e1, _⟩
    · have : L.length = 0 := by rw [← hvl, e2]; rfl
      exact ⟨none, 0, by rw [e1, this]⟩
    · exact ⟨_, _, by rw [e1, hvl]⟩
  subst hlv
  have hbr := hX
  obtain ⟨hx0, hx1, hx2, hx3, hx4⟩ := id hX
  go_enter Tryz.func84, Tryz.ntmps84
  go_wp2
  clear hx1 hx2 hx3 hx4
  go_loopw [5, 13] (fun ov iv wr => ∃ (k : Nat) (v5 : Value), v5 = ov ∧ iv = .int .i64 k ∧ k ≤ L.length ∧ Ext w wr ∧ SlOA (fun F w u (x : List (List Int)) => RowsD F w u x) 23 B (fun b => ∃ j, k ≤ j ∧ j < L.length ∧ Gb j b) wr v5 (flTo Q L k) ∧ ∀ b, v5.ownBlock = some b → w.heap.size ≤ b) (fun _ iv _ => L.length - (intOf iv).toNat)
  case atStart => exact ⟨0, _, rfl, rfl, by omega, Ext.refl _, ⟨[], fun _ _ => False, rfl, World.ownsRow_nil _ _ _ _, by simp, by simp, by simp [flTo], by simp, by simp [Value.ownBlock]⟩, by simp [Value.ownBlock]⟩
  case round =>
    obtain ⟨k, v5, rfl, rfl, hk, hg, hO, hob⟩ := hrel
    by_cases hlt : k < L.length
    · have hlt' : (k : Int) < L.length := by omega
      obtain ⟨gl, hla⟩ : ∃ gl, la = some ⟨gl, 0, none⟩ := by
        rcases hOv.form with ⟨e1, e2⟩ | ⟨g, cp, e1, _⟩
        · have : L.length = 0 := by rw [← hvl, e2]; rfl
          omega
        · simp only [Value.slice.injEq] at e1; exact ⟨g, e1.1⟩
      subst hla
      have hc := hg.cell (hOv.cell k (by omega)) (by simp)
      have hEk := hE k hlt
      obtain ⟨ua, uc, hvu, _, _⟩ := SlD.shape hEk
      rw [hvu] at hc hEk
      have hcl := hcl0 k wr hlt hg
      go_wp2_with fail
      refine Calls.mono hcl ?_
      rintro eA wA ⟨vA, rfl, hgA, r, rfl, hr⟩
      clear hcl hc
      have hgwA := grown_trans hg hgA
      have hOA := hO.ext rdRows hgA
      have hln := flTo_len Q L k
      cases r with
      | false =>
        have hst := flTo_no (L := L) (fun h => by have := hr.2 h; cases this)
        have hO2 := hOA.less (A' := fun b => ∃ j, k + 1 ≤ j ∧ j < L.length ∧ Gb j b) (fun b ⟨j, h1, h2, h3⟩ => ⟨j, by omega, h2, h3⟩)
        rw [← hst] at hO2
        clear hr hst hO hOA
        go_wp2
        go_roundw
        case rel => exact ⟨k + 1, v5, rfl, by go_num, by omega, hgwA, hO2, hob⟩
        case measure => simp [intOf]; omega
      | true =>
        have hst := flTo_yes (L := L) (hr.1 rfl)
        have hO2 := hOA.less (A' := fun b => (∃ j, k ≤ j ∧ j < L.length ∧ Gb j b) ∧ b < wA.heap.size) (fun b h => h.1)
        have huA : RowsD (Gb k) wA (.slice ua (gt L k).length uc) (gt L k) := rdRows.mono hEk (fun b hb hlt => ⟨hb, Nat.lt_of_lt_of_le hlt hgwA.size, hgwA.block b hlt (by simp)⟩)
        have hav := hO2.avoids
        have hF1 : ∀ b, Gb k b → b < wA.heap.size → ((∃ j, k ≤ j ∧ j < L.length ∧ Gb j b) ∧ b < wA.heap.size) ∧ B ≤ b := fun b hb hlt2 => ⟨⟨⟨k, by omega, hlt, hb⟩, hlt2⟩, (hGb k b hlt hb).1⟩
        have hF2 : ∀ b, (∃ j, k + 1 ≤ j ∧ j < L.length ∧ Gb j b) → ((∃ j, k ≤ j ∧ j < L.length ∧ Gb j b) ∧ b < wA.heap.size) ∧ ¬ Gb k b := fun b ⟨j, h1, h2, h3⟩ => ⟨⟨⟨j, by omega, h2, h3⟩, by have := (hGb j b h2 h3).2.2; have := hgwA.size; omega⟩, fun h4 => by have := hd j k b h2 hlt h3 h4; omega⟩
        have HF := Lib.hid (And.intro hst (And.intro hO2 (And.intro huA (And.intro hF1 hF2)))); clear hr hst hO hOA hO2 huA hF1 hF2
        have hBA := hgwA.size
        go_wp2_with (first | (at_builtin; refine wp_app_take3 rfl _ _ rfl B (fun b => (∃ j, k ≤ j ∧ j < L.length ∧ Gb j b) ∧ b < wA.heap.size) (fun b => ∃ j, k + 1 ≤ j ∧ j < L.length ∧ Gb j b) (Gb k) wA v5 _ (flTo Q L k) (gt L k) rfl HF.out.2.1 HF.out.2.2.1 HF.out.2.2.2.1 HF.out.2.2.2.2 (fun b hb => hb.2) rfl rfl (by omega) (by omega) ?_; intro v8 w8 hO8 hg8 hb8) | fail)
        have hg08 : Ext w w8 := grown_own hgwA hg8 (fun b hb hlt2 => by have := hob b hb; omega)
        have hob8 : ∀ b, v8.ownBlock = some b → w.heap.size ≤ b := fun b hb => by
          rcases hb8 with h | h
          · exact hob b (by rw [← h]; exact hb)
          · have := h b hb; omega
        rw [← HF.out.1] at hO8
        go_roundw
        case rel => exact ⟨k + 1, v8, rfl, by go_num, by omega, hg08, hO8, hob8⟩
        case measure => simp [intOf]; omega
    · have hke : k = L.length := by omega
      have hO2 := hO.o
      rw [hke] at hO2
      obtain ⟨az, nz, cz, hvz⟩ : ∃ a n c, v5 = .slice a n c := by
        have hln := flTo_len Q L L.length
        obtain ⟨a, c, h, _⟩ := SlD.shape (hO2.toD (by omega)); exact ⟨_, _, _, h⟩
      subst hvz
      have hnl : ¬ (k : Int) < L.length := by omega
      clear hO hke
      go_wp2
      go_ret
      exact ⟨_, rfl, hg, hO2⟩

end Go.Proofs.YtdklekdpdbjfiaaGreat

/- (*impl.lattice).filter with a closure. (Printed by gen_filter.py.) -/
namespace Go.Proofs.YtdklekdpdbjfiaaGreat
open Go.RowKit

end Go.Proofs.YtdklekdpdbjfiaaGreat

/- impl.conjugates, impl.conjugateSubgroup. -/
namespace Go.Proofs.YtdklekdpdbjfiaaGreat
open Go.RowKit

def conjL (P : Pr) (L : List (List Int)) (X : List Int) : List (List Int) := L.map (fun y => rConj P y X)

end Go.Proofs.YtdklekdpdbjfiaaGreat

/- impl.isNormal. -/
namespace Go.Proofs.YtdklekdpdbjfiaaGreat
open Go.RowKit

theorem gensOf_vec {P : Pr} (hP : Valid P) : ∀ g ∈ gensOf P.orders.length, Vec P.orders g := fun g hg => by
  unfold gensOf at hg
  obtain ⟨k, _, rfl⟩ := List.mem_map.1 hg
  exact unitV_vec hP k

/-- the generators conjugate the list into H -/
def NormG (P : Pr) (H : List Int → Prop) (U : List (List Int)) : Prop := ∀ g ∈ gensOf P.orders.length, ∀ x ∈ U, H (rConj P x g)

set_option maxRecDepth 100000 in
set_option maxHeartbeats 2000000 in
theorem isNormal_ok (P : Pr) (G : Grp P) (w : World) (p uv : Value) (H : List Int → Prop) (Sp Su : Nat → Prop) (S : Sub P H) (hp : PresP Sp w p P) (hu : Rows2 Su w uv (cseq P H)) :
    Calls Tryz.prog 86 #[p, uv] w (Ret w fun _ v => ∃ r : Bool, v = .bool r ∧ (r = true ↔ NormG P H (cseq P H))) := by
  have hP := G.v
  have hn6 := hP.n6
  have hl := G.cseq_len S
  have hUH := (G.seq_facts S).2.1
  obtain ⟨pb, po, rfl⟩ := hp.shape
  obtain ⟨au, capu, rfl, _, _⟩ := Sl.shape hu
  have hgl : (gensOf P.orders.length).length ≤ 6 := by unfold gensOf; simp; omega
  have HG := Lib.hid (And.intro (gensOf_vec hP) hUH); clear hUH
  go_enter Tryz.func86, Tryz.ntmps86
  go_wp2_with fail
  refine Calls.mono (generators_ok P hP w _ Sp hp) ?_
  rintro e1 w1 ⟨v1, rfl, hg1, hO⟩
  have hR := RowsD.rows (hO.toD (by omega))
  obtain ⟨a1, cap1, hv1, _, _⟩ := Sl.shape hR
  subst hv1
  generalize hgs : gensOf P.orders.length = GS at *
  have HGS := Lib.hid hgs; clear hgs hO
  go_wp2
  go_loopw [12] (fun iv wr => ∃ i : Nat, iv = .int .i64 i ∧ i ≤ GS.length ∧ Ext w1 wr ∧ Hid (∀ j, j < i → ∀ x ∈ cseq P H, H (rConj P x (gt GS j)))) (fun iv _ => GS.length - (intOf iv).toNat)
  case atStart => exact ⟨0, rfl, by omega, Ext.refl _, Lib.hid (fun j h => by omega)⟩
  case round =>
    obtain ⟨i, rfl, hi, hg, hN⟩ := hrel
    by_cases hlt : i < GS.length
    · have hlt' : (i : Int) < GS.length := by omega
      obtain ⟨b, off, a2, cap2, rfl, _, _, hc, hgi⟩ := Rows2.at hR i hlt
      have hcr := hg.cell hc (by simp)
      have hgV := HG.out.1 _ (gtMem hlt)
      have HV := Lib.hid hgV; clear hgV
      go_wp2
      clear hcr
      go_loopw [18] (fun jv wr => ∃ j : Nat, jv = .int .i64 j ∧ j ≤ (cseq P H).length ∧ Ext w1 wr ∧ Hid (∀ l, l < j → H (rConj P (gt (cseq P H) l) (gt GS i)))) (fun jv _ => (cseq P H).length - (intOf jv).toNat)
      case atStart => exact ⟨0, rfl, by omega, hg, Lib.hid (fun j h => by omega)⟩
      case round =>
        clear hg
        obtain ⟨j, rfl, hj, hg, hM⟩ := hrel
        have hgw := grown_trans hg1 hg
        by_cases hjl : j < (cseq P H).length
        · have hjl' : (j : Int) < (cseq P H).length := by omega
          obtain ⟨b3, off3, a3, cap3, rfl, _, _, hc3, hr3⟩ := Rows2.at (Rows2.ext hu hgw) j hjl
          have hxV := S.vec _ (HG.out.2 _ (gtMem hjl))
          have HX := Lib.hid hxV; clear hxV
          go_wp2_with fail
          refine Calls.mono (conjugate_ok P hP wr _ _ _ (gt (cseq P H) j) (gt GS i) Sp _ _ (hp.ext hgw) hr3 (hgi.ext hg) HX.out HV.out) ?_
          rintro eC wC ⟨vC, rfl, hgC, hOC⟩
          rw [G.iConj_eq HX.out HV.out] at hOC
          have hcV := G.conjV HX.out HV.out
          have hCI := hOC.ints (by rw [hcV.1]; omega)
          obtain ⟨aC, capC, hvC, _, _⟩ := hCI.shape
          subst hvC
          have HCV := Lib.hid hcV; clear hcV
          have hgwC := grown_trans hgw hgC
          go_wp2_with fail
          refine Calls.mono (isMember_ok P G wC _ _ _ H (rConj P (gt (cseq P H) j) (gt GS i)) Sp Su Any S (hp.ext hgwC) (Rows2.ext hu hgwC) hCI HCV.out) ?_
          rintro eM wM ⟨vM, rfl, hgM, r, rfl, hr⟩
          have hgT := grown_trans (grown_trans hg hgC) hgM
          cases r with
          | true =>
            have HR := Lib.hid (hr.1 rfl); clear hr
            go_wp2
            go_roundw
            case rel => exact ⟨j + 1, by go_num, by omega, hgT, Lib.hid (fun l hl => by
              rcases Nat.lt_succ_iff_lt_or_eq.1 hl with h | h
              · exact hM.out l h
              · rw [h]; exact HR.out)⟩
            case measure => simp [intOf]; omega
          | false =>
            have hno : ¬ H (rConj P (gt (cseq P H) j) (gt GS i)) := fun h => by have := hr.2 h; cases this
            have HR := Lib.hid hno; clear hr hno
            go_wp2
            go_ret
            exact ⟨_, rfl, grown_trans hg1 hgT, false, rfl, by
              simp only [Bool.false_eq_true, false_iff]
              intro h
              unfold NormG at h
              rw [HGS.out] at h
              exact HR.out (h _ (gtMem hlt) _ (gtMem hjl))⟩
        · have hje : j = (cseq P H).length := by omega
          subst hje
          go_wp2
          go_roundw
          case rel => exact ⟨i + 1, by go_num, by omega, hg, Lib.hid (fun l hl => by
            rcases Nat.lt_succ_iff_lt_or_eq.1 hl with h | h
            · exact hN.out l h
            · rw [h]
              intro x hx
              obtain ⟨m, hm, rfl⟩ := List.getElem_of_mem hx
              rw [← gt_eq _ m hm]; exact hM.out m hm)⟩
          case measure => simp [intOf]; omega
    · have hie : i = GS.length := by omega
      subst hie
      go_wp2
      go_ret
      exact ⟨_, rfl, grown_trans hg1 hg, true, rfl, by
        simp only [true_iff]
        unfold NormG
        rw [HGS.out]
        intro g hgm x hx
        obtain ⟨l, hl, rfl⟩ := List.getElem_of_mem hgm
        rw [← gt_eq _ l hl]; exact hN.out l hl x hx⟩

end Go.Proofs.YtdklekdpdbjfiaaGreat

/- Plain: the greatest normal subgroup within a subgroup. -/
namespace Go.Proofs.YtdklekdpdbjfiaaGreat

def NormP (P : Pr) (K : List Int → Prop) : Prop := ∀ x, K x → ∀ g, Vec P.orders g → K (rConj P x g)
section
variable {P : Pr} (G : Grp P)
include G

theorem Grp.conj_zeros {g : List Int} (hg : Vec P.orders g) : rConj P (zeros P.orders.length) g = zeros P.orders.length := by
  unfold rConj
  rw [G.grp.el _ hg, G.inv_mul hg]

theorem Grp.conj_inv {x g : List Int} (hx : Vec P.orders x) (hg : Vec P.orders g) : rConj P (rInv P x) g = rInv P (rConj P x g) := by
  refine G.inv_of (G.conjV hx hg) (G.conjV (G.invV hx) hg) ?_
  rw [← G.conj_hom hx (G.invV hx) hg, G.mul_inv hx, G.conj_zeros hg]

/-- the elements whose conjugates by g lie in a subgroup -/
theorem Grp.pull_sub {H : List Int → Prop} (S : Sub P H) {g : List Int} (hg : Vec P.orders g) : Sub P (fun y => Vec P.orders y ∧ H (rConj P y g)) :=
  ⟨fun _ h => h.1, ⟨G.oneV, by rw [G.conj_zeros hg]; exact S.one⟩, fun x y hx hy => ⟨G.mulV hx.1 hy.1, by rw [G.conj_hom hx.1 hy.1 hg]; exact S.mul _ _ hx.2 hy.2⟩,
    fun x hx => ⟨G.invV hx.1, by rw [G.conj_inv hx.1 hg]; exact S.inv _ hx.2⟩⟩

/-- the generators suffice -/
theorem Grp.norm_of_gens {K : List Int → Prop} (S : Sub P K) (h : ∀ j, j < P.orders.length → ∀ x, K x → K (rConj P x (unitV P.orders.length j))) : NormP P K := by
  have key : ∀ g, Vec P.orders g → ∀ x, K x → K (rConj P x g) := fun g hg => by
    refine G.gen_ind (fun g => ∀ x, K x → K (rConj P x g)) (fun x hx => ?_) (fun y j hy ih hj x hx => ?_) hg
    · rw [G.conj_one (S.vec x hx)]; exact hx
    · have hu := unitV_vec G.v j
      rw [← G.conj_mul (S.vec x hx) hy hu]
      exact h j hj _ (ih x hx)
  exact fun x hx g hg => key g hg x hx

omit G in
theorem gensOf_at (n j : Nat) (hj : j < n) : gt (gensOf n) j = unitV n j := by
  unfold gensOf
  have h : j < (List.range n).length := by rw [List.length_range]; exact hj
  rw [gt_map _ _ _ h]
  simp [gt, hj]
omit G in
theorem gensOf_len (n : Nat) : (gensOf n).length = n := by unfold gensOf; simp

theorem Grp.norm_iff {K : List Int → Prop} (S : Sub P K) : NormG P K (cseq P K) ↔ NormP P K := by
  have hf := (G.seq_facts S).2.1
  constructor
  · intro h
    refine G.norm_of_gens S (fun j hj x hx => ?_)
    have hu := unitV_vec G.v j
    have h1 : genP P (fun z => z ∈ cseq P K) x := by rw [G.genP_cseq S]; exact hx
    have hm : unitV P.orders.length j ∈ gensOf P.orders.length := by rw [← gensOf_at _ _ hj]; exact gtMem (by rw [gensOf_len]; exact hj)
    exact (h1 _ (G.pull_sub S hu) (fun z hz => ⟨S.vec z (hf z hz), h _ hm z hz⟩)).2
  · intro h g hg x hx
    exact h x (hf x hx) g (gensOf_vec G.v g hg)

/-- a subgroup within another one has no longer sequence; with as long a one it is the same -/
theorem Grp.len_le {K' K : List Int → Prop} (S' : Sub P K') (S : Sub P K) (h : ∀ x, K' x → K x) : (cseq P K').length ≤ (cseq P K).length ∧ ((cseq P K').length = (cseq P K).length → ∀ x, K x → K' x) := by
  obtain ⟨r', hR', he'⟩ := G.cseq_spec S'
  obtain ⟨r, hR, he⟩ := G.cseq_spec S
  have hl' : (cseq P K').length = (depsOf P.orders.length r').length := by rw [he', seqOf_map, List.length_map]
  have hl : (cseq P K).length = (depsOf P.orders.length r).length := by rw [he, seqOf_map, List.length_map]
  have himp : ∀ d, d < P.orders.length → r' d ≠ [] → r d ≠ [] := fun d hd hne => by
    obtain ⟨m1, m2, m3⟩ := hR'.mem d hd hne
    exact hR.piv _ (h _ m1) d hd m2 (by rw [m3]; decide)
  have hff : (depsOf P.orders.length r').length = ((depsOf P.orders.length r).filter (fun d => decide (r' d ≠ []))).length := by
    unfold depsOf
    rw [List.filter_filter]
    congr 1
    refine List.filter_congr (fun d hd => ?_)
    have hd := List.mem_range.1 hd
    by_cases h1 : r' d = []
    · simp [h1]
    · simp [h1, himp d hd h1]
  rw [hl', hl, hff]
  refine ⟨List.length_filter_le _ _, fun heq x hx => ?_⟩
  have hall := List.length_filter_eq_length_iff.1 heq
  have I' : Ind P K (r') := ⟨S, fun d hd hne => ⟨h _ (hR'.mem d hd hne).1, (hR'.mem d hd hne).2⟩, fun y hy d hd hT h0 => by
    have h1 := hR.piv y hy d hd hT h0
    have h2 := hall d (depsOf_mem.2 ⟨hd, h1⟩)
    exact of_decide_eq_true h2⟩
  exact G.ind_same hR'.toInd I' h x hx

end

end Go.Proofs.YtdklekdpdbjfiaaGreat

/- Plain: the conjugates of a subgroup, as sequences and as masks; the classes of conjugate subgroups. -/
namespace Go.Proofs.YtdklekdpdbjfiaaGreat
open Go.RowKit

section
variable {P : Pr} (G : Grp P)
include G

end

end Go.Proofs.YtdklekdpdbjfiaaGreat

/- Plain: the normal subgroups are those of classes of one. -/
namespace Go.Proofs.YtdklekdpdbjfiaaGreat
open Go.RowKit

section
variable {P : Pr} (G : Grp P)
include G

end

end Go.Proofs.YtdklekdpdbjfiaaGreat

/- Plain: the minimal normal subgroups, as both sides pick them. -/
namespace Go.Proofs.YtdklekdpdbjfiaaGreat
open Go.RowKit

section
variable {P : Pr} (G : Grp P)
include G
end

end Go.Proofs.YtdklekdpdbjfiaaGreat

/- impl.NormalSubgroups. -/
namespace Go.Proofs.YtdklekdpdbjfiaaGreat
open Go.RowKit

/-- an entry of the lattice's list, as it lies -/
theorem lat_row_at {B : Nat} {w : World} {lv : Value} {L : List (List (List Int))} (h : SlO (fun F w u (x : List (List Int)) => RowsD F w u x) 23 B w lv L) {i : Nat} (hi : i < L.length) :
    ∃ g c ua uc, lv = .slice (some ⟨g, 0, none⟩) L.length c ∧ w.cell? ⟨g, i, none⟩ = some (.slice ua (gt L i).length uc) ∧ Rows2 Any w (.slice ua (gt L i).length uc) (gt L i) := by
  obtain ⟨vs, Gb, hvl, hOv, hGb, hd, hE⟩ := h
  rcases hOv.form with ⟨e1, e2⟩ | ⟨g, cp, e1, _⟩
  · have : L.length = 0 := by rw [← hvl, e2]; rfl
    omega
  · subst e1
    have hc := hOv.cell i (by omega)
    have hEk := hE i hi
    obtain ⟨ua, uc, hvu, _, _⟩ := SlD.shape hEk
    rw [hvu] at hc hEk
    refine ⟨g, cp, ua, uc, by rw [hvl], hc, Rows2.sub (RowsD.rows hEk) (fun _ _ _ => trivial)⟩

end Go.Proofs.YtdklekdpdbjfiaaGreat

/- Plain: the smallest subgroup above one that is closed under the conjugation by given elements. -/
namespace Go.Proofs.YtdklekdpdbjfiaaGreat

def stP (P : Pr) (H : List Int → Prop) (B : List (List Int)) (x : List Int) : Prop := ∀ K, Sub P K → (∀ y, H y → K y) → (∀ b ∈ B, ∀ y, K y → K (rConj P y b)) → K x
/-- a list and its conjugates by the first elements of another one -/
def allC (P : Pr) (L B : List (List Int)) : Nat → List (List Int)
  | 0 => L
  | j + 1 => allC P L B j ++ conjL P L (gt B j)

theorem conjL_len (P : Pr) (L : List (List Int)) (X : List Int) : (conjL P L X).length = L.length := by unfold conjL; rw [List.length_map]

theorem allC_len (P : Pr) (L B : List (List Int)) (j : Nat) : (allC P L B j).length = L.length * (j + 1) := by
  induction j with
  | zero => simp [allC]
  | succ j ih => rw [allC, List.length_append, ih, conjL_len, Nat.mul_succ L.length (j + 1)]

theorem allC_mem {P : Pr} {L B : List (List Int)} {j : Nat} {x : List Int} : x ∈ allC P L B j ↔ x ∈ L ∨ ∃ k, k < j ∧ x ∈ conjL P L (gt B k) := by
  induction j with
  | zero => simp [allC]
  | succ j ih =>
    rw [allC, List.mem_append, ih]
    constructor
    · rintro ((h | ⟨k, hk, h⟩) | h)
      · exact Or.inl h
      · exact Or.inr ⟨k, by omega, h⟩
      · exact Or.inr ⟨j, by omega, h⟩
    · rintro (h | ⟨k, hk, h⟩)
      · exact Or.inl (Or.inl h)
      · rcases Nat.lt_succ_iff_lt_or_eq.1 hk with h1 | h1
        · exact Or.inl (Or.inr ⟨k, h1, h⟩)
        · exact Or.inr (h1 ▸ h)

def StSt (P : Pr) (H : List Int → Prop) (B : List (List Int)) (K : List Int → Prop) : Prop := Sub P K ∧ (∀ x, H x → K x) ∧ ∀ x, K x → stP P H B x

section
variable {P : Pr} (G : Grp P)
include G

theorem Grp.vecSub : Sub P (Vec P.orders) := ⟨fun _ h => h, G.oneV, fun _ _ a b => G.mulV a b, fun _ a => G.invV a⟩

theorem Grp.stP_sub {H : List Int → Prop} (S : Sub P H) {B : List (List Int)} (hB : ∀ b ∈ B, Vec P.orders b) : Sub P (stP P H B) :=
  ⟨fun _ h => h _ G.vecSub S.vec (fun b hb _ hy => G.conjV hy (hB b hb)), fun _ hK _ _ => hK.one,
    fun _ _ hx hy K hK hH hC => hK.mul _ _ (hx K hK hH hC) (hy K hK hH hC), fun _ hx K hK hH hC => hK.inv _ (hx K hK hH hC)⟩

theorem Grp.allC_vec {K : List Int → Prop} (S : Sub P K) {B : List (List Int)} (hB : ∀ b ∈ B, Vec P.orders b) (j : Nat) (hj : j ≤ B.length) : ∀ x ∈ allC P (cseq P K) B j, Vec P.orders x := by
  have hf := (G.seq_facts S).2.1
  intro x hx
  rcases allC_mem.1 hx with h | ⟨k, hk, h⟩
  · exact S.vec x (hf x h)
  · unfold conjL at h
    obtain ⟨y, hy, rfl⟩ := List.mem_map.1 h
    exact G.conjV (S.vec y (hf y hy)) (hB _ (gtMem (by omega)))

omit G in
theorem stP_conj {H : List Int → Prop} {B : List (List Int)} {b x : List Int} (hb : b ∈ B) (h : stP P H B x) : stP P H B (rConj P x b) := fun K hK hH hC => hC b hb _ (h K hK hH hC)

/-- one round -/
theorem Grp.st_round {H K : List Int → Prop} (S : Sub P H) {B : List (List Int)} (hB : ∀ b ∈ B, Vec P.orders b) (h : StSt P H B K) :
    StSt P H B (genP P (fun z => z ∈ allC P (cseq P K) B B.length)) ∧ (∀ x, K x → genP P (fun z => z ∈ allC P (cseq P K) B B.length) x) ∧
      ∀ b ∈ B, ∀ y, K y → genP P (fun z => z ∈ allC P (cseq P K) B B.length) (rConj P y b) := by
  obtain ⟨s1, s2, s3⟩ := h
  have hf := (G.seq_facts s1).2.1
  have S2 := G.genP_sub (Q := fun z => z ∈ allC P (cseq P K) B B.length) (G.allC_vec s1 hB _ (Nat.le_refl _))
  have hK : ∀ x, K x → genP P (fun z => z ∈ allC P (cseq P K) B B.length) x := fun x hx => by
    have h1 : genP P (fun z => z ∈ cseq P K) x := by rw [G.genP_cseq s1]; exact hx
    exact h1 _ S2 (fun z hz => genP_mem (allC_mem.2 (Or.inl hz)))
  refine ⟨⟨S2, fun x hx => hK x (s2 x hx), fun x hx => hx _ (G.stP_sub S hB) (fun z hz => ?_)⟩, hK, fun b hb y hy => ?_⟩
  · rcases allC_mem.1 hz with h | ⟨k, hk, h⟩
    · exact s3 z (hf z h)
    · unfold conjL at h
      obtain ⟨y, hy, rfl⟩ := List.mem_map.1 h
      exact stP_conj (gtMem hk) (s3 y (hf y hy))
  · have h1 : genP P (fun z => z ∈ cseq P K) y := by rw [G.genP_cseq s1]; exact hy
    obtain ⟨k, hk, rfl⟩ := mem_gt hb
    exact (h1 _ (G.pull_sub S2 (hB _ hb)) (fun z hz => ⟨s1.vec z (hf z hz), genP_mem (allC_mem.2 (Or.inr ⟨k, hk, List.mem_map.2 ⟨z, hz, rfl⟩⟩))⟩)).2

/-- a round that changes nothing is the last one; another one lengthens the sequence -/
theorem Grp.st_end {H K : List Int → Prop} (S : Sub P H) {B : List (List Int)} (hB : ∀ b ∈ B, Vec P.orders b) (h : StSt P H B K) :
    (cseq P K).length ≤ (cseq P (genP P (fun z => z ∈ allC P (cseq P K) B B.length))).length ∧
    ((cseq P (genP P (fun z => z ∈ allC P (cseq P K) B B.length))).length = (cseq P K).length → genP P (fun z => z ∈ allC P (cseq P K) B B.length) = stP P H B) := by
  obtain ⟨r1, r2, r3⟩ := G.st_round S hB h
  have hl := G.len_le h.1 r1.1 r2
  refine ⟨hl.1, fun he => ?_⟩
  have hb := hl.2 he.symm
  exact funext fun x => propext ⟨r1.2.2 x, fun hx => hx _ r1.1 r1.2.1 (fun b hbm y hy => r3 b hbm y (hb y hy))⟩

/-- the closure by the generators is no longer exactly if the subgroup is normal -/
theorem Grp.st_norm {H : List Int → Prop} (S : Sub P H) : ((cseq P (stP P H (gensOf P.orders.length))).length = (cseq P H).length) ↔ NormG P H (cseq P H) := by
  have hB := gensOf_vec G.v
  have S2 := G.stP_sub S hB
  have hle : ∀ x, H x → stP P H (gensOf P.orders.length) x := fun x hx K _ hH _ => hH x hx
  constructor
  · intro he
    have hb := (G.len_le S S2 hle).2 he.symm
    refine (G.norm_iff S).2 (G.norm_of_gens S (fun j hj x hx => hb _ (stP_conj ?_ (hle x hx))))
    rw [← gensOf_at _ _ hj]; exact gtMem (by rw [gensOf_len]; exact hj)
  · intro hN
    have hN := (G.norm_iff S).1 hN
    have : stP P H (gensOf P.orders.length) = H := funext fun x => propext ⟨fun h => h H S (fun _ h => h) (fun b hb y hy => hN y hy b (hB b hb)), hle x⟩
    rw [this]

end

end Go.Proofs.YtdklekdpdbjfiaaGreat

/- impl.meet, impl.productSize. -/
namespace Go.Proofs.YtdklekdpdbjfiaaGreat
open Go.RowKit

/-- the members of the first k rows that lie in K -/
def inTo (E : List (List Int)) (K : List Int → Prop) (k : Nat) (x : List Int) : Prop := x ∈ E.take k ∧ K x

theorem inTo_succ {E : List (List Int)} {K : List Int → Prop} {k : Nat} (hk : k < E.length) (hK : K (gt E k)) : (fun x => inTo E K k x ∨ x ∈ [gt E k]) = inTo E K (k + 1) := by
  funext x
  unfold inTo
  rw [take_succ_gt E k hk]
  simp only [List.mem_append, List.mem_singleton, eq_iff_iff]
  constructor
  · rintro (⟨h1, h2⟩ | h)
    · exact ⟨.inl h1, h2⟩
    · exact ⟨.inr h, by rw [h]; exact hK⟩
  · rintro ⟨h | h, h2⟩
    · exact .inl ⟨h, h2⟩
    · exact .inr h
theorem inTo_skip {E : List (List Int)} {K : List Int → Prop} {k : Nat} (hk : k < E.length) (hK : ¬ K (gt E k)) : inTo E K (k + 1) = inTo E K k := by
  funext x
  unfold inTo
  rw [take_succ_gt E k hk]
  simp only [List.mem_append, List.mem_singleton, eq_iff_iff]
  constructor
  · rintro ⟨h | h, h2⟩
    · exact ⟨h, h2⟩
    · exact absurd (by rw [← h]; exact h2) hK
  · rintro ⟨h, h2⟩
    exact ⟨.inl h, h2⟩
theorem inTo_zero (E : List (List Int)) (K : List Int → Prop) : inTo E K 0 = fun _ => False := by
  funext x; unfold inTo; simp
theorem inTo_all {P : Pr} {H K : List Int → Prop} (hP : Valid P) (S : Sub P H) (E : List (List Int)) (hE : E = elemsIn P H) : inTo E K E.length = fun x => H x ∧ K x := by
  funext x
  unfold inTo
  rw [List.take_length, hE, elemsIn_mem hP S.vec]

theorem rows2One {S S' : Nat → Prop} {w : World} {u : Value} {X : List Int} (h : Ints S w u X) (hS : ∀ k, S k → k < w.heap.size → S' k) (hn : S' w.heap.size) : Rows2 S' (w.alloc (.cells #[u] 22)) (.slice (some ⟨w.heap.size, 0, none⟩) 1 1) [X] := by
  refine ⟨_, 1, rfl, ⟨by simp, by simp, fun h => by cases h⟩, fun i hi => ?_⟩
  have : i = 0 := by simpa using hi
  subst this
  have hg : Ext w (w.alloc (.cells #[u] 22)) := World.grownBy_alloc _ _ _
  refine ⟨w.heap.size, 0, u, rfl, hn, by simp, by rw [World.cell?_alloc_at _ _ _ _ rfl]; rfl, ?_⟩
  exact Ints.mono h (fun k hk hlt => ⟨hS k hk hlt, Nat.lt_of_lt_of_le hlt hg.size, hg.block k hlt (by simp)⟩)

set_option maxRecDepth 100000 in
set_option maxHeartbeats 8000000 in
theorem meet_ok (P : Pr) (G : Grp P) (w : World) (p uv vv : Value) (H K : List Int → Prop) (Sp Su Sv : Nat → Prop) (S : Sub P H) (R : Sub P K) (hp : PresP Sp w p P) (hu : Rows2 Su w uv (cseq P H)) (hv : Rows2 Sv w vv (cseq P K)) :
    Calls Tryz.prog 97 #[p, uv, vv] w (Ret w fun w' v => RowsO w.heap.size w' v (cseq P (fun x => H x ∧ K x))) := by
  have hP := G.v
  have hn6 := hP.n6
  obtain ⟨pb, po, rfl⟩ := hp.shape
  have hlH := G.cseq_len S
  have hlK := G.cseq_len R
  have hsH := (G.seq_facts S).1
  have hsK := (G.seq_facts R).1
  obtain ⟨au, capu, rfl, _, _⟩ := Sl.shape hu
  obtain ⟨av, capv, rfl, _, _⟩ := Sl.shape hv
  have hsel : ∃ (H1 K1 : List Int → Prop) (u1 v1 : Value), Sub P H1 ∧ Sub P K1 ∧ Rows2 Any w u1 (cseq P H1) ∧ Rows2 Any w v1 (cseq P K1) ∧ (fun x => H1 x ∧ K1 x) = (fun x => H x ∧ K x) ∧
      ((prodU P (cseq P K) (cseq P K).length < prodU P (cseq P H) (cseq P H).length ∧ u1 = .slice av (cseq P K).length capv ∧ v1 = .slice au (cseq P H).length capu) ∨
       (¬ prodU P (cseq P K) (cseq P K).length < prodU P (cseq P H) (cseq P H).length ∧ u1 = .slice au (cseq P H).length capu ∧ v1 = .slice av (cseq P K).length capv)) := by
    have hu' := Rows2.sub hu (S' := Any) (fun _ _ _ => trivial)
    have hv' := Rows2.sub hv (S' := Any) (fun _ _ _ => trivial)
    by_cases h : prodU P (cseq P K) (cseq P K).length < prodU P (cseq P H) (cseq P H).length
    · exact ⟨K, H, _, _, R, S, hv', hu', funext fun x => propext ⟨fun h => ⟨h.2, h.1⟩, fun h => ⟨h.2, h.1⟩⟩, .inl ⟨h, rfl, rfl⟩⟩
    · exact ⟨H, K, _, _, S, R, hu', hv', rfl, .inr ⟨h, rfl, rfl⟩⟩
  obtain ⟨H1, K1, u1, v1, S1, R1, hu1, hv1, hHK, hsel⟩ := hsel
  have hlH1 := G.cseq_len S1
  have hE := G.els_sorted S1
  have hs1 := (G.seq_facts S1).1
  have HX := Lib.hid (And.intro hsH (And.intro hsK (And.intro hHK (And.intro hE hs1)))); clear hsH hsK hHK hE hs1
  obtain ⟨E, hEe⟩ : ∃ E, E = elemsIn P H1 := ⟨_, rfl⟩
  have hEl : E.length ≤ 729 := by rw [hEe]; exact elemsIn_len hP H1
  have HE := Lib.hid hEe; clear hEe
  go_enter Tryz.func97, Tryz.ntmps97
  go_wp2_with fail
  refine Calls.mono (sizeOf_ok P hP w _ _ (cseq P H) Sp Su hp hu HX.out.1 (by omega)) ?_
  rintro eA wA ⟨vA, rfl, hgA, rfl⟩
  go_wp2_with fail
  refine Calls.mono (sizeOf_ok P hP wA _ _ (cseq P K) Sp Sv (hp.ext hgA) (Rows2.ext hv hgA) HX.out.2.1 (by omega)) ?_
  rintro eB wB ⟨vB, rfl, hgB, rfl⟩
  have hgw := grown_trans hgA hgB
  obtain ⟨m1, hm1⟩ : ∃ m1, m1 = prodU P (cseq P H) (cseq P H).length := ⟨_, rfl⟩
  obtain ⟨m2, hm2⟩ : ∃ m2, m2 = prodU P (cseq P K) (cseq P K).length := ⟨_, rfl⟩
  rw [← hm1, ← hm2] at hsel ⊢
  clear hm1 hm2 hu hv
  rcases hsel with ⟨hc, rfl, rfl⟩ | ⟨hc, rfl, rfl⟩
  all_goals
    go_wp2_with fail
    clear hc
    refine Calls.mono (newSequence_ok P wB _ Sp (fun _ => False) (hp.ext hgw) hn6) ?_
    rintro e1 w1 ⟨v1, rfl, hg1, sb, gb, rfl, hs⟩
    have hgb := hs.tab.lt
    have hsb := hs.sB
    have hsl := hs.slt
    have hgw1 := grown_trans hgw hg1
    go_wp2_with fail
    refine Calls.mono (elementsOf_ok P G w1 _ _ (cseq P H1) Sp Any (hp.ext hgw1) (Rows2.ext hu1 hgw1) HX.out.2.2.2.2 (by omega)) ?_
    rintro e2 w2 ⟨v2, rfl, hg2, hO⟩
    rw [HX.out.2.2.2.1, ← HE.out] at hO
    have hgw2 := grown_trans hgw1 hg2
    have hER := RowsD.rows (SlO.toD hO (by omega))
    obtain ⟨ae, cape, hve, _, _⟩ := Sl.shape hER
    subst hve
    have hER2 : Rows2 (fun j => w1.heap.size ≤ j) w2 (.slice ae E.length cape) E := hER
    have hs2 := hs.ext hg2
    have hwB := hgw.size
    clear hO hER hs
    go_wp2
    go_loopw [25] (fun iv wr => ∃ (k : Nat) (b : List (List Int)), iv = .int .i64 k ∧ k ≤ E.length ∧ Ext w wr ∧ SeqAt wB.heap.size (fun _ => False) wr sb gb (.pointer (some ⟨pb, po, none⟩)) P.orders.length b ∧ Rows2 (fun j => w1.heap.size ≤ j) wr (.slice ae E.length cape) E ∧ Hid (Ind P (genP P (inTo E K1 k)) (gt b))) (fun iv _ => E.length - (intOf iv).toNat)
    case atStart => exact ⟨0, _, rfl, by omega, hgw2, hs2, hER2, Lib.hid (by rw [inTo_zero, G.genP_none]; exact G.ind_one)⟩
    case round =>
      clear hs2 hER2
      obtain ⟨k, b, rfl, hk, hg, hs, hER, hI⟩ := hrel
      by_cases hlt : k < E.length
      · have hlt' : (k : Int) < E.length := by omega
        obtain ⟨bb, off, a2, cap2, rfl, _, _, hc, hr⟩ := Rows2.at hER k hlt
        have hXV : Vec P.orders (gt E k) := S1.vec _ ((elemsIn_mem hP S1.vec _).1 (by rw [← HE.out]; exact gtMem hlt))
        have HXV := Lib.hid hXV; clear hXV
        go_wp2_with fail
        clear hc
        refine Calls.mono (isMember_ok P G wr _ _ _ K1 (gt E k) Sp Any _ R1 (hp.ext hg) (Rows2.ext hv1 hg) hr HXV.out) ?_
        rintro e3 w3 ⟨v3, rfl, hg3, r, rfl, hr3⟩
        have hg03 := grown_trans hg hg3
        cases r with
        | false =>
          have hI2 : Hid (Ind P (genP P (inTo E K1 (k + 1))) (gt b)) := Lib.hid (by rw [inTo_skip hlt (fun h => by have := hr3.2 h; cases this)]; exact hI.out)
          have hs3 := hs.ext hg3
          have hER3 := Rows2.ext hER hg3
          clear hr3
          go_wp2
          go_roundw
          case rel => exact ⟨k + 1, b, by go_num, by omega, hg03, hs3, hER3, hI2⟩
          case measure => simp [intOf]; omega
        | true =>
          have hin := inTo_succ hlt (hr3.1 rfl)
          have HIN := Lib.hid hin; clear hin hr3
          have hga : Ext w3 (w3.alloc (.cells #[.slice a2 (gt E k).length cap2] 22)) := World.grownBy_alloc _ _ _
          have hg3s := hg3.size
          have hws := hs.slt
          have hwt := hs.tab.lt
          have hlit := rows2One (S' := fun j => ¬ (j = gb ∨ j = sb)) (Ints.ext hr hg3) (fun j hj hlt => by omega) (by omega)
          have hgwa := grown_trans hg03 hga
          have hadd := add_ok P G (w3.alloc (.cells #[.slice a2 (gt E k).length cap2] 22)) sb gb wB.heap.size _ _ [gt E k] b _ (hp.mono (fun j _ hj => ⟨by omega, Nat.lt_of_lt_of_le hj hgwa.size, hgwa.block j hj (by simp)⟩)) ((hs.ext hg3).ext hga) hI.out (fun x hx => by rw [List.mem_singleton.1 hx]; exact HXV.out) hlit (by simp)
          have HA := Lib.hid hadd; clear hadd
          go_wp2_with fail
          refine Calls.mono HA.out ?_
          rintro e4 w4 ⟨b4, g4, rfl, hg4, hs4, hA4, _, _⟩
          rw [genP_or, HIN.out] at hA4
          have hgw4 : Ext w w4 := grown_own hgwa hg4 (fun j hj hlt => by cases hj; omega)
          have hER4 : Rows2 (fun j => w1.heap.size ≤ j) w4 (.slice (some ⟨bb, off, none⟩) E.length cape) E := Rows2.mono hER (fun j hj hlt => ⟨hj, Nat.lt_of_lt_of_le hlt (Nat.le_trans hg3.size (Nat.le_trans hga.size hg4.size)), (hg4.block j (Nat.lt_of_lt_of_le hlt (Nat.le_trans hg3.size hga.size)) (fun e => by cases e; omega)).trans ((hga.block j (Nat.lt_of_lt_of_le hlt hg3.size) (by simp)).trans (hg3.block j hlt (by simp)))⟩)
          have HA4 := Lib.hid hA4; clear hA4 HA hlit
          go_wp2
          go_roundw
          case rel => exact ⟨k + 1, b4, by go_num, by omega, hgw4, hs4, hER4, HA4⟩
          case measure => simp [intOf]; omega
      · have hke : k = E.length := by omega
        have hI2 : Hid (Ind P (fun x => H x ∧ K x) (gt b)) := Lib.hid (by
          have h := hI.out
          rw [hke, inTo_all hP S1 E HE.out, genP_self (S1.and R1), HX.out.2.2.1] at h
          exact h)
        subst hke
        clear hI
        go_wp2_with fail
        refine Calls.mono (canonical_ok P G wr sb gb wB.heap.size _ b _ _ _ (hp.ext hg) hs hI2.out) ?_
        rintro e5 w5 ⟨v5, rfl, hg5, hO5⟩
        go_wp2
        go_ret
        exact ⟨_, rfl, grown_trans hg hg5, hO5.weak hg.size⟩

end Go.Proofs.YtdklekdpdbjfiaaGreat

/- spec.l02Unit, l12Whole: the whole group's sequence. -/
namespace Go.Proofs.YtdklekdpdbjfiaaGreat
open Go.RowKit

set_option maxRecDepth 100000 in
set_option maxHeartbeats 2000000 in
theorem l02Unit_ok (n : Nat) (w : World) (hn : n ≤ 6) : Calls Tryz.prog 154 #[.int .i64 n] w (Ret w fun w' v => Rows2 Any w' v (gensOf n)) := by
  have hgl := gensOf_len n
  have HGL := Lib.hid hgl; clear hgl
  go_enter Tryz.func154, Tryz.ntmps154
  go_wp2
  go_loopw [3, 4] (fun ov iv wr => ∃ (k : Nat) (v4 : Value), v4 = ov ∧ iv = .int .i64 k ∧ k ≤ n ∧ Ext w wr ∧ RowsO w.heap.size wr v4 ((gensOf n).take k)) (fun _ iv _ => n - (intOf iv).toNat)
  case atStart => exact ⟨0, _, rfl, rfl, by omega, World.grownBy_alloc _ _ _, [], fun _ _ => False, rfl, World.ownsRow_lit w #[] 0 (Nat.le_refl _) (by decide) rfl, by simp, by simp, by simp⟩
  case round =>
    obtain ⟨k, v4, rfl, rfl, hk, hg, hO⟩ := hrel
    by_cases hlt : k < n
    · have hlt' : (k : Int) < n := by omega
      have hstep : (gensOf n).take (k + 1) = (gensOf n).take k ++ [unitV n k] := by rw [take_succ_gt _ k (by rw [HGL.out]; exact hlt), gensOf_at n k hlt]
      have htl : ((gensOf n).take k).length ≤ 1000000 := by rw [List.length_take]; omega
      have hul : (unitV n k).length = n := by simp [unitV]
      have HST := Lib.hid (And.intro hstep (And.intro htl hul)); clear hstep htl hul
      go_wp2_with (first
        | (at_make; refine wp_make_ints rfl _ _ rfl wr.heap.size n wr.heap.size rfl _ rfl rfl rfl (by omega) (Nat.le_refl _) ?_; intro w1 ho1 hg1 hlt1; have hc := ho1.cell k (by simp; omega); have hf := ho1.frozen k)
        | (at_builtin; go_must (refine wp_app_row rfl _ _ rfl w.heap.size wr _ v4 _ ((gensOf n).take k) (unitV n k) rfl hO (grown_own hg1 (ho1.store k 1).2 (fun j hj hlt => by cases hj; omega)) (OwnIn.of (base := wr.heap.size) (F := From wr.heap.size) (l := unitV n k) (ho1.store k 1).1 (by have := HST.out.2.2; omega) (fun j h1 _ => h1)) rfl (congrArg (fun z => Value.slice (some ⟨z, 0, none⟩) 1 1) (show w1.heap.size = (w1.setCell ⟨wr.heap.size, k, none⟩ (.int .i64 1)).heap.size by simp [World.setCell])) HST.out.2.1 hg.size ?_); intro v5 w5 hO5 hg5 hg6; have hgw5 := hO.extw hg (Nat.le_refl _) hg5)
        | fail)
      go_roundw
      case rel => exact ⟨k + 1, v5, rfl, by go_num, by omega, hgw5, by rw [HST.out.1]; exact hO5⟩
      case measure => simp [intOf]; omega
    · have hke : k = n := by omega
      subst hke
      rw [List.take_of_length_le (by rw [HGL.out]; exact Nat.le_refl _)] at hO
      have hR := RowsD.rows (hO.toD (by rw [HGL.out]; omega))
      obtain ⟨az, capz, hvz, _, _⟩ := Sl.shape hR
      subst hvz
      go_wp2
      go_ret
      exact ⟨_, rfl, hg, Rows2.sub hR (fun _ _ _ => trivial)⟩

theorem l12Whole_ok (P : Pr) (hP : Valid P) (w : World) (pv : Value) (Sp : Nat → Prop) (hpv : PresV Sp w pv P) :
    Calls Tryz.prog 93 #[pv] w (Ret w fun w' v => Rows2 Any w' v (gensOf P.orders.length)) := by
  obtain ⟨vo, vp, vc, rfl, h3⟩ := hpv
  have hp0 := PresP.box h3 31
  have hg0 : Ext w (w.alloc (.cells #[vo, vp, vc] 31)) := World.grownBy_alloc _ _ _
  have hn6 := hP.n6
  obtain ⟨ao, capo, hco, hoi⟩ := hp0.ordAt
  go_enter Tryz.func93, Tryz.ntmps93
  go_wp2_with fail
  refine Calls.mono (l02Unit_ok P.orders.length _ hn6) ?_
  rintro e1 w1 ⟨v1, rfl, hg1, hR⟩
  have hgl := gensOf_len P.orders.length
  have HGL := Lib.hid hgl; clear hgl
  obtain ⟨az, capz, hvz, _, _⟩ := Sl.shape hR
  subst hvz
  go_wp2
  go_ret
  exact ⟨_, rfl, grown_trans hg0 hg1, hR⟩

end Go.Proofs.YtdklekdpdbjfiaaGreat

/- spec.l13Stable, l13Normal. -/
namespace Go.Proofs.YtdklekdpdbjfiaaGreat
open Go.RowKit

set_option maxRecDepth 100000 in
set_option maxHeartbeats 4000000 in
theorem l13Stable_ok (P : Pr) (G : Grp P) (w : World) (pv uv bv : Value) (H : List Int → Prop) (B : List (List Int)) (Sp Su Sb : Nat → Prop) (S : Sub P H) (hpv : PresV Sp w pv P) (hu : Rows2 Su w uv (cseq P H)) (hb : Rows2 Sb w bv B) (hB : ∀ b ∈ B, Vec P.orders b) (hBl : B.length ≤ 100) :
    Calls Tryz.prog 217 #[pv, uv, bv] w (Ret w fun w' v => Rows2 Any w' v (cseq P (stP P H B))) := by
  have hP := G.v
  have hn6 := hP.n6
  obtain ⟨vo, vp, vc, rfl, h3⟩ := hpv
  have hp0 := PresP.box h3 31
  have hg0 : Ext w (w.alloc (.cells #[vo, vp, vc] 31)) := World.grownBy_alloc _ _ _
  have hu0 : Rows2 Any (w.alloc (.cells #[vo, vp, vc] 31)) uv (cseq P H) := Rows2.sub (Rows2.ext hu hg0) (fun _ _ _ => trivial)
  have hb0 := Rows2.ext hb hg0
  obtain ⟨au, capu, rfl, _, _⟩ := Sl.shape hu
  obtain ⟨ab, capb, rfl, _, _⟩ := Sl.shape hb
  obtain ⟨vo6, vp6, vc6, _, _, hc0, hc1, hc2, h36⟩ := hp0.at
  simp only [Nat.zero_add] at hc1 hc2
  have hbx : ∀ w', Ext (w.alloc (.cells #[vo, vp, vc] 31)) w' → w'.cell? ⟨w.heap.size, 0, none⟩ = some vo6 ∧ w'.cell? ⟨w.heap.size, 1, none⟩ = some vp6 ∧ w'.cell? ⟨w.heap.size, 2, none⟩ = some vc6 := fun w' h => ⟨h.cell hc0 (by simp), h.cell hc1 (by simp), h.cell hc2 (by simp)⟩
  have HB := Lib.hid hbx; clear hbx hp0 hu hb
  have HS := Lib.hid (And.intro S hB); clear hB
  go_enter Tryz.func217, Tryz.ntmps217
  go_wp2
  clear hc0 hc1 hc2
  generalize hw0 : w.alloc (.cells #[vo, vp, vc] 31) = w0 at *
  clear hw0
  go_loopg [7] (P.orders.length - (cseq P H).length) (fun gk uv wr => ∃ (K : List Int → Prop), gk = P.orders.length - (cseq P K).length ∧ Ext w0 wr ∧ Rows2 Any wr uv (cseq P K) ∧ Hid (StSt P H B K))
  case atStart => exact ⟨H, rfl, Ext.refl _, hu0, Lib.hid ⟨HS.out.1, fun _ h => h, fun x h K _ hH _ => hH x h⟩⟩
  case round =>
    clear hu0
    obtain ⟨K, hgk, hg, hu, hK⟩ := hrel
    have hl := G.cseq_len hK.out.1
    obtain ⟨ak, capk, hvk, _, _⟩ := Sl.shape hu
    subst hvk
    have hKV : ∀ y ∈ cseq P K, Vec P.orders y := fun y hy => hK.out.1.vec y ((G.seq_facts hK.out.1).2.1 y hy)
    have hK6 : ∀ x ∈ cseq P K, x.length ≤ 1000000 := fun x hx => by rw [(hKV x hx).1]; omega
    have HGK := Lib.hid (And.intro hgk (And.intro hKV hK6)); clear hgk hKV hK6
    obtain ⟨wo, rfl⟩ : ∃ wo : World, wo = wr := ⟨_, rfl⟩
    go_wp2_with fail
    refine Calls.mono (l01Own2_ok wo _ (cseq P K) Any hu HGK.out.2.2 (by omega)) ?_
    rintro e2 w2 ⟨v2, rfl, hg2, hO2⟩
    have hQ2 : ShQ (fun _ => False) wo.heap.size w2 v2 (allC P (cseq P K) B 0) := hO2.shq (fun k h => h.elim)
    obtain ⟨a2, cap2, hv2, _, _⟩ := SlD.shape (hO2.toD (by omega))
    subst hv2
    clear hO2
    go_wp2
    go_loopw [8, 9] (fun nv jv wr => ∃ (j : Nat) (v8 : Value), v8 = nv ∧ jv = .int .i64 j ∧ j ≤ B.length ∧ Ext wo wr ∧ ShQ (fun _ => False) wo.heap.size wr v8 (allC P (cseq P K) B j)) (fun _ jv _ => B.length - (intOf jv).toNat)
    case atStart => exact ⟨0, _, rfl, rfl, by omega, hg2, hQ2⟩
    case round =>
      clear hQ2
      obtain ⟨j, v8, rfl, rfl, hj, hgj, hQ⟩ := hrel
      by_cases hlt : j < B.length
      · have hlt' : (j : Int) < B.length := by omega
        go_wp2
        go_loopw [8, 10] (fun nv iv wr => ∃ (i : Nat) (v8 : Value), v8 = nv ∧ iv = .int .i64 i ∧ i ≤ (cseq P K).length ∧ Ext wo wr ∧ ShQ (fun _ => False) wo.heap.size wr v8 (allC P (cseq P K) B j ++ (conjL P (cseq P K) (gt B j)).take i)) (fun _ iv _ => (cseq P K).length - (intOf iv).toNat)
        case atStart => exact ⟨0, _, rfl, rfl, by omega, hgj, by simpa using hQ⟩
        case round =>
          clear hQ
          obtain ⟨i, v8, rfl, rfl, hi, hgi, hQ⟩ := hrel
          by_cases hlti : i < (cseq P K).length
          · have hlti' : (i : Int) < (cseq P K).length := by omega
            obtain ⟨b1, o1, a1, c1, rfl, _, _, hcu, hru⟩ := Rows2.at hu i hlti
            obtain ⟨b3, o3, a3, c3, rfl, _, _, hcb, hrb⟩ := Rows2.at hb0 j hlt
            have hg0o : Ext w0 wo := hg
            have hcb := hg0o.cell hcb (by simp)
            have hrb := Ints.ext hrb hg0o
            have hyV := HGK.out.2.1 _ (gtMem hlti)
            have hbV := HS.out.2 _ (gtMem hlt)
            have hcl := conjL_len P (cseq P K) (gt B j)
            have hstep : (conjL P (cseq P K) (gt B j)).take (i + 1) = (conjL P (cseq P K) (gt B j)).take i ++ [rConj P (gt (cseq P K) i) (gt B j)] := by
              rw [take_succ_gt _ i (by rw [hcl]; exact hlti)]
              unfold conjL
              rw [gt_map _ _ _ hlti]
            have htl : (allC P (cseq P K) B j ++ (conjL P (cseq P K) (gt B j)).take i).length ≤ 1000000 := by
              rw [List.length_append, allC_len, List.length_take, hcl]
              have h1 : (cseq P K).length * (j + 1) ≤ 6 * 101 := Nat.mul_le_mul (by omega) (by omega)
              omega
            have hcV := G.conjV hyV hbV
            have hqlt : ∀ k, v8.ownBlock = some k → wo.heap.size ≤ k := fun k hk => (hQ.lt k hk).1
            obtain ⟨xs, hxs⟩ : ∃ xs, xs = allC P (cseq P K) B j ++ (conjL P (cseq P K) (gt B j)).take i := ⟨_, rfl⟩
            have hstep2 : allC P (cseq P K) B j ++ (conjL P (cseq P K) (gt B j)).take (i + 1) = xs ++ [rConj P (gt (cseq P K) i) (gt B j)] := by rw [hstep, hxs, List.append_assoc]
            rw [← hxs] at hQ htl
            have HST := Lib.hid (And.intro hstep2 (And.intro hyV (And.intro htl (And.intro hcV hbV)))); clear hstep hstep2 hyV htl hcV hbV hcl hxs
            have f1 : ∀ w', Ext wo w' → w'.cell? ⟨w.heap.size, 0, none⟩ = some vo6 := fun w' h => (HB.out w' (grown_trans hg h)).1
            have f2 : ∀ w', Ext wo w' → w'.cell? ⟨w.heap.size, 1, none⟩ = some vp6 := fun w' h => (HB.out w' (grown_trans hg h)).2.1
            have f3 : ∀ w', Ext wo w' → w'.cell? ⟨w.heap.size, 2, none⟩ = some vc6 := fun w' h => (HB.out w' (grown_trans hg h)).2.2
            have f4 : ∀ w', Ext wo w' → w'.cell? ⟨b1, o1 + i, none⟩ = some (.slice a1 (gt (cseq P K) i).length c1) := fun w' h => h.cell hcu (by simp)
            have f5 : ∀ w', Ext wo w' → w'.cell? ⟨b3, o3 + j, none⟩ = some (.slice a3 (gt B j).length c3) := fun w' h => h.cell hcb (by simp)
            clear hcu hcb
            go_wp2
            go_region_held3 (fun w' => Ext wo w') (first | exact grown_trans hgi (grown_drew _ _) | assumption | exact grown_trans hgC (World.grownBy_alloc _ _ _))
              (first
                | (go_at_call 194; refine Calls.mono (Calls.rel2 (w0 := wo) (by assumption) (l10Conj_ok P hP _ _ _ _ (gt (cseq P K) i) (gt B j) Any Any Any ⟨_, _, _, rfl, Pres3.ext h36 (grown_trans hg (by assumption))⟩ (Ints.sub (Ints.ext hru (by assumption)) (fun _ _ _ => trivial)) (Ints.sub (Ints.ext hrb (by assumption)) (fun _ _ _ => trivial)) HST.out.2.1 HST.out.2.2.2.2)) ?_; rintro eC wC ⟨vC, rfl, hgC, hgC2, hsC, hOC⟩; have hgrC : Ext wr wC := grown_trans (grown_drew _ _) hgC2; have hCI : Ints (fun k => ¬ False ∧ v8.ownBlock ≠ some k) wC vC (rConj P (gt (cseq P K) i) (gt B j)) := ints_of_own hOC (by rw [HST.out.2.2.2.1.1]; omega) (fun k hk => ⟨id, fun e => by have h1 := (hOC.lt k hk).1; have h2 := (hQ.lt k e).2; have h3 : wr.heap.size ≤ wr.drew.heap.size := (grown_drew wr none).size; omega⟩); obtain ⟨aC, capC, hvC, _, _⟩ := hCI.shape; subst hvC)
                | (refine step_shq_app rfl _ _ rfl (fun _ => False) wo.heap.size v8 _ xs _ rfl wC (hQ.ext hgrC) rfl hCI rfl HST.out.2.2.1 hgC.size ?_; intro v5 w5 hQ5 hg5 hb5; have hgw5 : Ext wo w5 := grown_own hgC hg5 (fun k hk hlt => by have := hqlt k hk; omega)))
            clear f1 f2 f3 f4 f5
            rw [← HST.out.1] at hQ5
            go_wp2
            go_roundw
            case rel => exact ⟨i + 1, v5, rfl, by go_num, by omega, hgw5, hQ5⟩
            case measure => simp [intOf]; omega
          · have hie : i = (cseq P K).length := by omega
            subst hie
            rw [List.take_of_length_le (by rw [conjL_len]; exact Nat.le_refl _)] at hQ
            go_wp2
            go_roundw
            case rel => exact ⟨j + 1, v8, rfl, by go_num, by omega, hgi, hQ⟩
            case measure => simp [intOf]; omega
      · have hje : j = B.length := by omega
        subst hje
        have hw0r := grown_trans hg hgj
        obtain ⟨hb0', hb1, hb2⟩ := HB.out wr hw0r
        have hQR := hQ.rows
        obtain ⟨aq, capq, hvq, _, _⟩ := Sl.shape hQR
        subst hvq
        have hal := allC_len P (cseq P K) B B.length
        have hal2 : (allC P (cseq P K) B B.length).length ≤ 10000 := by
          have h1 : (cseq P K).length * (B.length + 1) ≤ 6 * 101 := Nat.mul_le_mul (by omega) (by omega)
          omega
        have hend := G.st_end HS.out.1 HS.out.2 hK.out
        have hrd := G.st_round HS.out.1 HS.out.2 hK.out
        have hlc := G.cseq_len hrd.1.1
        have HE := Lib.hid (And.intro hend (And.intro hrd (And.intro hal2 hlc))); clear hend hrd hal hal2 hlc
        go_wp2_with fail
        clear hb0' hb1 hb2
        refine Calls.mono (l12Close_ok P G wr _ _ (allC P (cseq P K) B B.length) Any Any ⟨_, _, _, rfl, Pres3.ext h36 hw0r⟩ hQR (G.allC_vec hK.out.1 HS.out.2 _ (Nat.le_refl _)) HE.out.2.2.1) ?_
        rintro e3 w3 ⟨v3, rfl, hg3, hR3⟩
        obtain ⟨K2, hK2⟩ : ∃ K2, K2 = genP P (fun z => z ∈ allC P (cseq P K) B B.length) := ⟨_, rfl⟩
        obtain ⟨hend, hrd, _, hlc⟩ := HE.out
        rw [← hK2] at hR3 hend hrd hlc
        have hle := hend.1
        clear HE hK2
        have hQ : True := trivial
        clear hQR
        obtain ⟨a3, cap3, hv3, _, _⟩ := Sl.shape hR3
        subst hv3
        by_cases heq : (cseq P K2).length = (cseq P K).length
        · have hEE := hend.2 heq
          have hb : (((cseq P K2).length : Int) == ((cseq P K).length : Int)) = true := by simp [heq]
          have HEE := Lib.hid (And.intro hEE hrd); clear hEE hrd hend heq
          go_wp2
          go_ret
          exact ⟨_, rfl, grown_trans hg0 (grown_trans hw0r hg3), by rw [← HEE.out.1]; exact hR3⟩
        · have hb : (((cseq P K2).length : Int) == ((cseq P K).length : Int)) = false := by simp; omega
          have hlt2 : P.orders.length - (cseq P K2).length < gk := by have := HGK.out.1; omega
          have HLT := Lib.hid (And.intro hlt2 hrd); clear hlt2 heq hrd hend
          go_wp2
          go_roundg (P.orders.length - (cseq P K2).length)
          case measure => exact HLT.out.1
          case rel => exact ⟨K2, rfl, grown_trans hw0r hg3, hR3, Lib.hid HLT.out.2.1⟩

set_option maxHeartbeats 1000000 in
theorem l13Normal_ok (P : Pr) (G : Grp P) (w : World) (pv uv : Value) (H : List Int → Prop) (Sp Su : Nat → Prop) (S : Sub P H) (hpv : PresV Sp w pv P) (hu : Rows2 Su w uv (cseq P H)) :
    Calls Tryz.prog 159 #[pv, uv] w (Ret w fun _ v => ∃ r : Bool, v = .bool r ∧ (r = true ↔ NormG P H (cseq P H))) := by
  have hP := G.v
  have hn6 := hP.n6
  obtain ⟨vo, vp, vc, rfl, h3⟩ := hpv
  have hp0 := PresP.box h3 31
  have hg0 : Ext w (w.alloc (.cells #[vo, vp, vc] 31)) := World.grownBy_alloc _ _ _
  have hu0 : Rows2 Any (w.alloc (.cells #[vo, vp, vc] 31)) uv (cseq P H) := Rows2.sub (Rows2.ext hu hg0) (fun _ _ _ => trivial)
  obtain ⟨au, capu, rfl, _, _⟩ := Sl.shape hu
  obtain ⟨vo6, vp6, vc6, _, _, hc0, hc1, hc2, h36⟩ := hp0.at
  simp only [Nat.zero_add] at hc1 hc2
  have hgl := gensOf_len P.orders.length
  have hgv := gensOf_vec G.v
  have hst := G.st_norm S
  have HN := Lib.hid (And.intro S (And.intro hgl (And.intro hgv hst))); clear hgl hgv hst hp0 hu
  go_enter Tryz.func159, Tryz.ntmps159
  go_wp2
  have f1 : ∀ w', Ext (w.alloc (.cells #[vo, vp, vc] 31)) w' → w'.cell? ⟨w.heap.size, 0, none⟩ = some vo6 := fun w' h => h.cell hc0 (by simp)
  have f2 : ∀ w', Ext (w.alloc (.cells #[vo, vp, vc] 31)) w' → w'.cell? ⟨w.heap.size, 1, none⟩ = some vp6 := fun w' h => h.cell hc1 (by simp)
  have f3 : ∀ w', Ext (w.alloc (.cells #[vo, vp, vc] 31)) w' → w'.cell? ⟨w.heap.size, 2, none⟩ = some vc6 := fun w' h => h.cell hc2 (by simp)
  clear hc0 hc1 hc2
  generalize hw0 : w.alloc (.cells #[vo, vp, vc] 31) = w0 at *
  clear hw0
  go_region_held3 (fun w' => Ext w0 w') (first | exact grown_drew _ _ | assumption)
    (first
      | (go_at_call 93; refine Calls.mono (Calls.rel (w0 := w0) (by assumption) (l12Whole_ok P hP _ _ Any ⟨_, _, _, rfl, Pres3.ext h36 (by assumption)⟩)) ?_; rintro eC wC ⟨vC, rfl, hgC, hsC, hRC⟩; obtain ⟨aC, capC, hvC, _, _⟩ := Sl.shape hRC; rw [HN.out.2.1] at hvC; subst hvC)
      | (go_at_call 217; refine Calls.mono (Calls.rel (w0 := w0) (by assumption) (l13Stable_ok P G _ _ _ _ H (gensOf P.orders.length) Any Any Any HN.out.1 ⟨_, _, _, rfl, Pres3.ext h36 (by assumption)⟩ (Rows2.ext hu0 (by assumption)) hRC HN.out.2.2.1 (by rw [HN.out.2.1]; omega))) ?_; rintro eD wD ⟨vD, rfl, hgD, hsD, hRD⟩; obtain ⟨aD, capD, hvD, _, _⟩ := Sl.shape hRD; subst hvD))
  clear f1 f2 f3
  go_wp2
  go_ret
  exact ⟨_, rfl, grown_trans hg0 hgD, _, rfl, by rw [← HN.out.2.2.2]; simp; exact Int.ofNat_inj⟩

end Go.Proofs.YtdklekdpdbjfiaaGreat

/- The subgroup of a list. -/
namespace Go.Proofs.YtdklekdpdbjfiaaGreat

/-- the subgroup of a list -/
abbrev gU (P : Pr) (U : List (List Int)) : List Int → Prop := genP P (fun x => x ∈ U)

end Go.Proofs.YtdklekdpdbjfiaaGreat

/- The reference's intersections, conjugates and sizes of product sets: spec.l13Meet, l13Conj, l13Size; impl.productSize. -/
namespace Go.Proofs.YtdklekdpdbjfiaaGreat
open Go.RowKit

open Classical in
noncomputable def inF (E : List (List Int)) (K : List Int → Prop) (k : Nat) : List (List Int) := (E.take k).filter (fun x => decide (K x))

theorem inF_succ {E : List (List Int)} {K : List Int → Prop} {k : Nat} (hk : k < E.length) (hK : K (gt E k)) : inF E K (k + 1) = inF E K k ++ [gt E k] := by
  unfold inF
  rw [take_succ_gt E k hk, List.filter_append]
  simp [hK]
theorem inF_skip {E : List (List Int)} {K : List Int → Prop} {k : Nat} (hk : k < E.length) (hK : ¬ K (gt E k)) : inF E K (k + 1) = inF E K k := by
  unfold inF
  rw [take_succ_gt E k hk, List.filter_append]
  simp [hK]
theorem inF_len (E : List (List Int)) (K : List Int → Prop) (k : Nat) : (inF E K k).length ≤ E.length := by
  unfold inF
  have h1 := List.length_filter_le (fun x => (by classical exact decide (K x) : Bool)) (E.take k)
  rw [List.length_take] at h1
  have : ((E.take k).filter (fun x => (by classical exact decide (K x) : Bool))).length ≤ E.length := by omega
  exact this
theorem inF_mem {P : Pr} (hP : Valid P) {H K : List Int → Prop} (S : Sub P H) {E : List (List Int)} (hE : E = elemsIn P H) (x : List Int) : x ∈ inF E K E.length ↔ (H x ∧ K x) := by
  unfold inF
  rw [List.take_length, hE, List.mem_filter, elemsIn_mem hP S.vec]
  simp

set_option maxRecDepth 100000 in
set_option maxHeartbeats 4000000 in
theorem l13Meet_ok (P : Pr) (G : Grp P) (w : World) (pv uv vv : Value) (H K : List Int → Prop) (Sp Su Sv : Nat → Prop) (S : Sub P H) (R : Sub P K) (hpv : PresV Sp w pv P) (hu : Rows2 Su w uv (cseq P H)) (hv : Rows2 Sv w vv (cseq P K)) :
    Calls Tryz.prog 94 #[pv, uv, vv] w (Ret w fun w' v => Rows2 Any w' v (cseq P (fun x => H x ∧ K x))) := by
  have hP := G.v
  have hn6 := hP.n6
  obtain ⟨vo, vp, vc, rfl, h3⟩ := hpv
  have hp0 := PresP.box h3 31
  have hg0 : Ext w (w.alloc (.cells #[vo, vp, vc] 31)) := World.grownBy_alloc _ _ _
  have hu0 := Rows2.ext hu hg0
  have hv0 := Rows2.ext hv hg0
  obtain ⟨au, capu, rfl, _, _⟩ := Sl.shape hu
  obtain ⟨av, capv, rfl, _, _⟩ := Sl.shape hv
  obtain ⟨vo6, vp6, vc6, _, _, hc0, hc1, hc2, h36⟩ := hp0.at
  simp only [Nat.zero_add] at hc1 hc2
  have hbx : ∀ w', Ext (w.alloc (.cells #[vo, vp, vc] 31)) w' → w'.cell? ⟨w.heap.size, 0, none⟩ = some vo6 ∧ w'.cell? ⟨w.heap.size, 1, none⟩ = some vp6 ∧ w'.cell? ⟨w.heap.size, 2, none⟩ = some vc6 := fun w' h => ⟨h.cell hc0 (by simp), h.cell hc1 (by simp), h.cell hc2 (by simp)⟩
  have HB := Lib.hid hbx; clear hbx hp0 hu hv
  have hE := l12Elements_ok P G (w.alloc (.cells #[vo, vp, vc] 31)) _ _ H Any Su S ⟨_, _, _, rfl, h36⟩ hu0
  obtain ⟨E, hEe⟩ : ∃ E, E = elemsIn P H := ⟨_, rfl⟩
  have hEl : E.length ≤ 729 := by rw [hEe]; exact elemsIn_len hP H
  rw [← hEe] at hE
  have HE := Lib.hid hEe; clear hEe
  go_enter Tryz.func94, Tryz.ntmps94
  go_wp2_with fail
  clear hc0 hc1 hc2
  generalize hw0 : w.alloc (.cells #[vo, vp, vc] 31) = w0 at *
  clear hw0
  refine Calls.mono hE ?_
  rintro e1 w1 ⟨v1, rfl, hg1, hO⟩
  clear hE
  have hER := RowsD.rows (hO.toD (by omega))
  obtain ⟨ae, cape, hve, _, _⟩ := Sl.shape hER
  subst hve
  have hER1 : Rows2 Any w1 (.slice ae E.length cape) E := Rows2.sub hER (fun _ _ _ => trivial)
  clear hO hER
  go_wp2
  go_loopw [8, 9] (fun ov iv wr => ∃ (i : Nat) (v4 : Value), v4 = ov ∧ iv = .int .i64 i ∧ i ≤ E.length ∧ Ext w1 wr ∧ ShQ (fun _ => False) w1.heap.size wr v4 (inF E K i)) (fun _ iv _ => E.length - (intOf iv).toNat)
  case atStart => exact ⟨0, _, rfl, rfl, by omega, World.grownBy_alloc _ _ _, by
    have : inF E K 0 = [] := by simp [inF]
    rw [this]; exact ShQ.lit _ _ _ (Nat.le_refl _)⟩
  case round =>
    obtain ⟨i, v4, rfl, rfl, hi, hg, hQ⟩ := hrel
    have hg0r := grown_trans hg1 hg
    by_cases hlt : i < E.length
    · have hlt' : (i : Int) < E.length := by omega
      obtain ⟨bb, off, a2, cap2, rfl, _, _, hc, hr⟩ := Rows2.at hER1 i hlt
      have hcr := hg.cell hc (by simp)
      have hXV : Vec P.orders (gt E i) := S.vec _ ((elemsIn_mem hP S.vec _).1 (by rw [← HE.out]; exact gtMem hlt))
      have hfl := inF_len E K i
      have HXV := Lib.hid (And.intro hXV hfl); clear hXV hfl
      have e1 : ∀ w', Ext wr w' → w'.cell? ⟨w.heap.size, 0, none⟩ = some vo6 := fun w' h => (HB.out w' (grown_trans hg0r h)).1
      have e2 : ∀ w', Ext wr w' → w'.cell? ⟨w.heap.size, 1, none⟩ = some vp6 := fun w' h => (HB.out w' (grown_trans hg0r h)).2.1
      have e3 : ∀ w', Ext wr w' → w'.cell? ⟨w.heap.size, 2, none⟩ = some vc6 := fun w' h => (HB.out w' (grown_trans hg0r h)).2.2
      have e4 : ∀ w', Ext wr w' → w'.cell? ⟨bb, off + i, none⟩ = some (.slice a2 (gt E i).length cap2) := fun w' h => h.cell hcr (by simp)
      clear hcr
      go_wp2
      go_region_held3 (fun w' => Ext wr w') (first | exact grown_drew _ _ | assumption)
        (first
          | (go_at_call 153; refine Calls.mono (Calls.rel (w0 := wr) (by assumption) (l12Has_ok P G _ _ _ _ K (gt E i) Any Any Any R ⟨_, _, _, rfl, Pres3.ext h36 (grown_trans hg0r (by assumption))⟩ (Rows2.sub (Rows2.ext hv0 (grown_trans hg0r (by assumption))) (fun _ _ _ => trivial)) (Ints.sub (Ints.ext hr (grown_trans hg (by assumption))) (fun _ _ _ => trivial)) HXV.out.1)) ?_; rintro eA wA ⟨vA, rfl, hgA, hsA, r, rfl, hrA⟩; have HRA := Lib.hid hrA; clear hrA))
      clear e1 e2 e3 e4
      have hgA1 := grown_trans hg hgA
      have hcA := hgA1.cell hc (by simp)
      cases r with
      | false =>
        have hst := inF_skip hlt (fun h => by have := HRA.out.2 h; cases this)
        have HST := Lib.hid hst; clear hst
        go_wp2
        go_roundw
        case rel => exact ⟨i + 1, v4, rfl, by go_num, by omega, hgA1, by rw [HST.out]; exact hQ.ext hgA⟩
        case measure => simp [intOf]; omega
      | true =>
        have hst := inF_succ hlt (HRA.out.1 rfl)
        have HST := Lib.hid hst; clear hst
        have hrA : Ints (fun k => ¬ False ∧ v4.ownBlock ≠ some k) wA (.slice a2 (gt E i).length cap2) (gt E i) := Ints.mono hr (fun k _ hk => ⟨⟨id, fun e => by have := (hQ.lt k e).1; omega⟩, Nat.lt_of_lt_of_le hk hgA1.size, hgA1.block k hk (by simp)⟩)
        go_wp2_with (first | (at_builtin; refine wp_shq_app rfl _ _ rfl (fun _ => False) w1.heap.size v4 _ (inF E K i) (gt E i) rfl wA (hQ.ext hgA) rfl hrA rfl (by have := HXV.out.2; omega) hgA1.size ?_; intro v5 w5 hQ5 hg5 hb5; have hgw5 := grown_own hgA1 hg5 (fun j hj hlt => by have := (hQ.lt j hj).1; omega)) | fail)
        clear hcA
        go_roundw
        case rel => exact ⟨i + 1, v5, rfl, by go_num, by omega, hgw5, by rw [HST.out]; exact hQ5⟩
        case measure => simp [intOf]; omega
    · have hie : i = E.length := by omega
      subst hie
      have hgen : genP P (fun x => x ∈ inF E K E.length) = fun x => H x ∧ K x := genP_list (S.and R) (inF_mem hP S HE.out)
      have hvec : ∀ x ∈ inF E K E.length, Vec P.orders x := fun x hx => S.vec x ((inF_mem hP S HE.out x).1 hx).1
      have hfl := inF_len E K E.length
      have HG := Lib.hid (And.intro hgen (And.intro hvec hfl)); clear hgen hvec hfl
      obtain ⟨hb0, hb1, hb2⟩ := HB.out wr hg0r
      have hQR := hQ.rows
      obtain ⟨aq, capq, hvq, _, _⟩ := Sl.shape hQR
      subst hvq
      go_wp2_with fail
      clear hb0 hb1 hb2
      refine Calls.mono (l12Close_ok P G wr _ _ (inF E K E.length) Any Any ⟨_, _, _, rfl, Pres3.ext h36 hg0r⟩ hQR HG.out.2.1 (by have := HG.out.2.2; omega)) ?_
      rintro eF wF ⟨vF, rfl, hgF, hRF⟩
      rw [HG.out.1] at hRF
      go_wp2
      go_ret
      exact ⟨_, rfl, grown_trans hg0 (grown_trans hg0r hgF), hRF⟩

end Go.Proofs.YtdklekdpdbjfiaaGreat

/- impl.isComplement, spec.l20Complement. -/
namespace Go.Proofs.YtdklekdpdbjfiaaGreat
open Go.RowKit

noncomputable def cmplB (P : Pr) (H K : List Int → Prop) : Bool :=
  (prodU P (cseq P H) (cseq P H).length * prodU P (cseq P K) (cseq P K).length == ordP P) && (((cseq P (fun x => H x ∧ K x)).length : Int) == 0)

set_option maxRecDepth 100000 in
set_option maxHeartbeats 4000000 in
theorem isComplement_ok (P : Pr) (G : Grp P) (w : World) (p uv vv : Value) (H K : List Int → Prop) (Sp Su Sv : Nat → Prop) (S : Sub P H) (R : Sub P K) (hp : PresP Sp w p P) (hu : Rows2 Su w uv (cseq P H)) (hv : Rows2 Sv w vv (cseq P K)) :
    Calls Tryz.prog 103 #[p, uv, vv] w (Ret w fun _ v => v = .bool (cmplB P H K)) := by
  have hP := G.v
  have hn6 := hP.n6
  obtain ⟨pb, po, rfl⟩ := hp.shape
  have hlH := G.cseq_len S
  have hlK := G.cseq_len R
  have hlM := G.cseq_len (S.and R)
  have hsH := (G.seq_facts S).1
  have hsK := (G.seq_facts R).1
  have hbH := prodU_729 hP hsH _ (Nat.le_refl _)
  have hbK := prodU_729 hP hsK _ (Nat.le_refl _)
  have hE : cmplB P H K = ((prodU P (cseq P H) (cseq P H).length * prodU P (cseq P K) (cseq P K).length == ordP P) && (((cseq P (fun x => H x ∧ K x)).length : Int) == 0)) := rfl
  obtain ⟨au, capu, rfl, _, _⟩ := Sl.shape hu
  obtain ⟨av, capv, rfl, _, _⟩ := Sl.shape hv
  obtain ⟨a, ha⟩ : ∃ a, a = prodU P (cseq P H) (cseq P H).length := ⟨_, rfl⟩
  obtain ⟨b, hb⟩ : ∃ b, b = prodU P (cseq P K) (cseq P K).length := ⟨_, rfl⟩
  obtain ⟨o, ho⟩ : ∃ o, o = ordP P := ⟨_, rfl⟩
  rw [← ha] at hbH hE
  rw [← hb, ← ho] at hE
  rw [← hb] at hbK
  have hab0 : 0 ≤ a * b := Int.mul_nonneg (by omega) (by omega)
  have hab1 : a * b ≤ 729 * 729 := Int.mul_le_mul (by omega) (by omega) (by omega) (by omega)
  have e1 : IntKind.i64.wrap (a * b) = a * b := IntWalk.i64_in _ (by omega)
  have HX := Lib.hid (And.intro hsH (And.intro hsK (And.intro hE (And.intro ha (And.intro hb ho))))); clear hsH hsK hE ha hb ho
  go_enter Tryz.func103, Tryz.ntmps103
  go_wp2_with fail
  refine Calls.mono (sizeOf_ok P hP w _ _ (cseq P H) Sp Su hp hu HX.out.1 (by omega)) ?_
  rintro eA wA ⟨vA, rfl, hgA, rfl⟩
  rw [← HX.out.2.2.2.1]
  go_wp2_with fail
  refine Calls.mono (sizeOf_ok P hP wA _ _ (cseq P K) Sp Sv (hp.ext hgA) (Rows2.ext hv hgA) HX.out.2.1 (by omega)) ?_
  rintro eB wB ⟨vB, rfl, hgB, rfl⟩
  rw [← HX.out.2.2.2.2.1]
  have hgw := grown_trans hgA hgB
  go_wp2_with fail
  refine Calls.mono (orderOf_ok wB _ P Sp hP (hp.ext hgw)) ?_
  rintro eO wO ⟨rfl, rfl⟩
  rw [← HX.out.2.2.2.2.2]
  by_cases hq : a * b = o
  · have hq1 : (a * b == o) = true := by simp [hq]
    have HQ := Lib.hid hq; clear hq
    go_wp2_with fail
    refine Calls.mono (meet_ok P G wB _ _ _ H K Sp Su Sv S R (hp.ext hgw) (Rows2.ext hu hgw) (Rows2.ext hv hgw)) ?_
    rintro eC wC ⟨vC, rfl, hgC, hOC⟩
    have hgwC := grown_trans hgw hgC
    have hMR := RowsD.rows (SlO.toD hOC (by omega))
    obtain ⟨am, capm, hvm, _, _⟩ := Sl.shape hMR
    subst hvm
    go_wp2
    go_ret
    refine ⟨_, rfl, hgwC, ?_⟩
    rw [HX.out.2.2.1]
    simp [HQ.out]
  · have hq1 : (a * b == o) = false := by simp [hq]
    have HQ := Lib.hid hq; clear hq
    go_wp2
    go_ret
    refine ⟨_, rfl, hgw, ?_⟩
    rw [HX.out.2.2.1]
    simp [HQ.out]

set_option linter.unusedSimpArgs false in
set_option maxRecDepth 100000 in
set_option maxHeartbeats 4000000 in
theorem l20Complement_ok (P : Pr) (G : Grp P) (w : World) (pv uv vv : Value) (H K : List Int → Prop) (Sp Su Sv : Nat → Prop) (S : Sub P H) (R : Sub P K) (hpv : PresV Sp w pv P) (hu : Rows2 Su w uv (cseq P H)) (hv : Rows2 Sv w vv (cseq P K)) :
    Calls Tryz.prog 100 #[pv, uv, vv] w (Ret w fun _ v => v = .bool (cmplB P H K)) := by
  have hP := G.v
  have hn6 := hP.n6
  have hlH := G.cseq_len S
  have hlK := G.cseq_len R
  have hlM := G.cseq_len (S.and R)
  have hsH := (G.seq_facts S).1
  have hsK := (G.seq_facts R).1
  have hbH := prodU_729 hP hsH _ (Nat.le_refl _)
  have hbK := prodU_729 hP hsK _ (Nat.le_refl _)
  have hE : cmplB P H K = ((prodU P (cseq P H) (cseq P H).length * prodU P (cseq P K) (cseq P K).length == ordP P) && (((cseq P (fun x => H x ∧ K x)).length : Int) == 0)) := rfl
  obtain ⟨vo, vp, vc, rfl, h3⟩ := hpv
  have hp0 := PresP.box h3 31
  have hg0 : Ext w (w.alloc (.cells #[vo, vp, vc] 31)) := World.grownBy_alloc _ _ _
  have hu0 := Rows2.ext hu hg0
  have hv0 := Rows2.ext hv hg0
  obtain ⟨au, capu, rfl, _, _⟩ := Sl.shape hu
  obtain ⟨av, capv, rfl, _, _⟩ := Sl.shape hv
  obtain ⟨vo6, vp6, vc6, _, _, hc0, hc1, hc2, h36⟩ := hp0.at
  simp only [Nat.zero_add] at hc1 hc2
  obtain ⟨a, ha⟩ : ∃ a, a = prodU P (cseq P H) (cseq P H).length := ⟨_, rfl⟩
  obtain ⟨b, hb⟩ : ∃ b, b = prodU P (cseq P K) (cseq P K).length := ⟨_, rfl⟩
  obtain ⟨o, ho⟩ : ∃ o, o = ordP P := ⟨_, rfl⟩
  rw [← ha] at hbH hE
  rw [← hb, ← ho] at hE
  rw [← hb] at hbK
  have hab0 : 0 ≤ a * b := Int.mul_nonneg (by omega) (by omega)
  have hab1 : a * b ≤ 729 * 729 := Int.mul_le_mul (by omega) (by omega) (by omega) (by omega)
  have e1 : IntKind.i64.wrap (a * b) = a * b := IntWalk.i64_in _ (by omega)
  have HX := Lib.hid (And.intro hsH (And.intro hsK (And.intro hE (And.intro ha (And.intro hb ho))))); clear hsH hsK hE ha hb ho hp0 hu hv
  go_enter Tryz.func100, Tryz.ntmps100
  go_wp2
  generalize hw0 : w.alloc (.cells #[vo, vp, vc] 31) = w0 at *
  clear hw0
  have f1 : ∀ w', Ext w0 w' → w'.cell? ⟨w.heap.size, 0, none⟩ = some vo6 := fun w' h => h.cell hc0 (by simp)
  have f2 : ∀ w', Ext w0 w' → w'.cell? ⟨w.heap.size, 1, none⟩ = some vp6 := fun w' h => h.cell hc1 (by simp)
  have f3 : ∀ w', Ext w0 w' → w'.cell? ⟨w.heap.size, 2, none⟩ = some vc6 := fun w' h => h.cell hc2 (by simp)
  clear hc0 hc1 hc2
  by_cases hq : a * b = o
  · have hq1 : (a * b == o) = true := by simp [hq]
    have HQ := Lib.hid hq; clear hq
    go_region_held3 (fun w' => Ext w0 w') (first | exact grown_drew _ _ | assumption)
      (first
        | (go_at_call 63; refine Calls.mono (Calls.rel (w0 := w0) (by assumption) (l10Order_ok _ _ P Any hP ⟨_, _, _, rfl, Pres3.ext h36 (by assumption)⟩)) ?_; rintro eO wO ⟨vO, rfl, hgO, hsO, hvO⟩; rw [← HX.out.2.2.2.2.2] at hvO; subst hvO)
        | (go_at_call 94; refine Calls.mono (Calls.rel (w0 := w0) (by assumption) (l13Meet_ok P G _ _ _ _ H K Any Any Any S R ⟨_, _, _, rfl, Pres3.ext h36 (by assumption)⟩ (Rows2.sub (Rows2.ext hu0 (by assumption)) (fun _ _ _ => trivial)) (Rows2.sub (Rows2.ext hv0 (by assumption)) (fun _ _ _ => trivial)))) ?_; rintro eC wC ⟨vC, rfl, hgC, hsC, hMR⟩; obtain ⟨am, capm, hvm, _, _⟩ := Sl.shape hMR; subst hvm)
        | (revert hgA; intro hgA; go_at_call 61; refine Calls.mono (Calls.rel (w0 := w0) (by assumption) (l12Order_ok P hP _ _ _ (cseq P K) Any Any ⟨_, _, _, rfl, Pres3.ext h36 (by assumption)⟩ (Rows2.sub (Rows2.ext hv0 (by assumption)) (fun _ _ _ => trivial)) HX.out.2.1 (by omega))) ?_; rintro eB wB ⟨vB, rfl, hgB, hsB, hvB⟩; rw [← HX.out.2.2.2.2.1] at hvB; subst hvB)
        | (go_at_call 61; refine Calls.mono (Calls.rel (w0 := w0) (by assumption) (l12Order_ok P hP _ _ _ (cseq P H) Any Any ⟨_, _, _, rfl, Pres3.ext h36 (by assumption)⟩ (Rows2.sub (Rows2.ext hu0 (by assumption)) (fun _ _ _ => trivial)) HX.out.1 (by omega))) ?_; rintro eA wA ⟨vA, rfl, hgA, hsA, hvA⟩; rw [← HX.out.2.2.2.1] at hvA; subst hvA))
    clear f1 f2 f3
    go_wp2
    go_ret
    refine ⟨_, rfl, grown_trans hg0 hgC, ?_⟩
    rw [HX.out.2.2.1]
    simp [HQ.out]
  · have hq1 : (a * b == o) = false := by simp [hq]
    have HQ := Lib.hid hq; clear hq
    refine wp_region_held_drew (S := fun w' => Ext w0 w') (by kernel_rfl) (grown_drew _ _) (fun hHeld => ?_)
    refine wpAnyH_take (i := 0) (v := ?v0) rfl (by kernel_rfl) (by kernel_rfl) (by kernel_rfl) (fun _ _ _ h => h) (Or.inl ⟨by rfl, ?hy0⟩) (by assumption) ?rest0
    case hy0 => (intro w hSw; (try dsimp only at hSw); go_simp; try with_reducible rfl)
    try simp only [Act.put, List.setIfInBounds_toArray, List.set_cons_zero, List.set_cons_succ]
    refine wpAnyH_take (i := 1) (v := ?v1) rfl (by kernel_rfl) (by kernel_rfl) (by kernel_rfl) (fun _ _ _ h => h) (Or.inl ⟨by rfl, ?hy1⟩) (by assumption) ?rest1
    case hy1 => (intro w hSw; (try dsimp only at hSw); go_simp; try with_reducible rfl)
    try simp only [Act.put, List.setIfInBounds_toArray, List.set_cons_zero, List.set_cons_succ]
    refine wpAnyH_take (i := 3) (v := ?v3) rfl (by kernel_rfl) (by kernel_rfl) (by kernel_rfl) (fun _ _ _ h => h) (Or.inl ⟨by rfl, ?hy3⟩) (by assumption) ?rest3
    case hy3 => (intro w hSw; (try dsimp only at hSw); go_simp; try with_reducible rfl)
    try simp only [Act.put, List.setIfInBounds_toArray, List.set_cons_zero, List.set_cons_succ]
    refine wpAnyH_take (i := 4) (v := ?v4) rfl (by kernel_rfl) (by kernel_rfl) (by kernel_rfl) (fun _ _ _ h => h) (Or.inl ⟨by rfl, ?hy4⟩) (by assumption) ?rest4
    case hy4 => (intro w hSw; (try dsimp only at hSw); go_simp; try with_reducible rfl)
    try simp only [Act.put, List.setIfInBounds_toArray, List.set_cons_zero, List.set_cons_succ]
    refine wpAnyH_take (i := 7) (v := ?v7) rfl (by kernel_rfl) (by kernel_rfl) (by kernel_rfl) (fun _ _ _ h => h) (Or.inl ⟨by rfl, ?hy7⟩) (by assumption) ?rest7
    case hy7 => (intro w hSw; (try dsimp only at hSw); go_simp; try with_reducible rfl)
    try simp only [Act.put, List.setIfInBounds_toArray, List.set_cons_zero, List.set_cons_succ]
    refine wpAnyH_ready (rs := [2]) (by kernel_rfl) (by simp) ?_
    refine AllReadyH.cons rfl (fun Kc hKc => ?_) AllReadyH.nil
    go_simp
    go_at_call 61
    refine Calls.mono (Calls.rel (w0 := w0) (by assumption) (l12Order_ok P hP _ _ _ (cseq P H) Any Any ⟨_, _, _, rfl, Pres3.ext h36 (by assumption)⟩ (Rows2.sub (Rows2.ext hu0 (by assumption)) (fun _ _ _ => trivial)) HX.out.1 (by omega))) ?_
    rintro eA wA ⟨vA, rfl, hgA, hsA, hvA⟩
    rw [← HX.out.2.2.2.1] at hvA
    subst hvA
    go_wp2_with fail
    refine hKc.out _ _ ?_ (fun hHeld => ?_)
    · exact hgA
    clear hKc Kc
    try simp only [Act.put, List.setIfInBounds_toArray, List.set_cons_zero, List.set_cons_succ]
    refine wpAnyH_ready (rs := [5]) (by kernel_rfl) (by simp) ?_
    refine AllReadyH.cons rfl (fun Kc hKc => ?_) AllReadyH.nil
    go_simp
    go_at_call 61
    refine Calls.mono (Calls.rel (w0 := w0) hgA (l12Order_ok P hP _ _ _ (cseq P K) Any Any ⟨_, _, _, rfl, Pres3.ext h36 hgA⟩ (Rows2.sub (Rows2.ext hv0 hgA) (fun _ _ _ => trivial)) HX.out.2.1 (by omega))) ?_
    rintro eB wB ⟨vB, rfl, hgB, hsB, hvB⟩
    rw [← HX.out.2.2.2.2.1] at hvB
    subst hvB
    go_wp2_with fail
    refine hKc.out _ _ ?_ (fun hHeld => ?_)
    · exact hgB
    clear hKc Kc
    try simp only [Act.put, List.setIfInBounds_toArray, List.set_cons_zero, List.set_cons_succ]
    refine wpAnyH_take (i := 6) (v := ?v6) rfl (by kernel_rfl) (by kernel_rfl) (by kernel_rfl) (fun _ _ _ h => h) (Or.inl ⟨by rfl, ?hy6⟩) (by assumption) ?rest6
    case hy6 => (intro w hSw; (try dsimp only at hSw); go_simp; try with_reducible rfl)
    try simp only [Act.put, List.setIfInBounds_toArray, List.set_cons_zero, List.set_cons_succ]
    refine wpAnyH_ready (rs := [8]) (by kernel_rfl) (by simp) ?_
    refine AllReadyH.cons rfl (fun Kc hKc => ?_) AllReadyH.nil
    go_simp
    go_at_call 63
    refine Calls.mono (Calls.rel (w0 := w0) hgB (l10Order_ok _ _ P Any hP ⟨_, _, _, rfl, Pres3.ext h36 hgB⟩)) ?_
    rintro eO wO ⟨vO, rfl, hgO, hsO, hvO⟩
    rw [← HX.out.2.2.2.2.2] at hvO
    subst hvO
    go_wp2_with fail
    refine hKc.out _ _ ?_ (fun hHeld => ?_)
    · exact hgO
    clear hKc Kc
    try simp only [Act.put, List.setIfInBounds_toArray, List.set_cons_zero, List.set_cons_succ]
    refine wpAnyH_take (i := 9) (v := ?v9) rfl (by kernel_rfl) (by kernel_rfl) (by kernel_rfl) (fun _ _ _ h => h) (Or.inl ⟨by rfl, ?hy9⟩) (by assumption) ?rest9
    case hy9 => (intro w hSw; (try dsimp only at hSw); go_simp; try with_reducible rfl)
    try simp only [Act.put, List.setIfInBounds_toArray, List.set_cons_zero, List.set_cons_succ]
    refine wpAnyH_take (i := 10) (v := ?v10) rfl (by kernel_rfl) (by kernel_rfl) (by kernel_rfl) (fun _ _ _ h => h) (Or.inl ⟨by rfl, ?hy10⟩) (by assumption) ?rest10
    case hy10 => (intro w hSw; (try dsimp only at hSw); go_simp; try with_reducible rfl)
    try simp only [Act.put, List.setIfInBounds_toArray, List.set_cons_zero, List.set_cons_succ]
    refine wpAnyH_take (i := 11) (v := undef) rfl (by kernel_rfl) (by kernel_rfl) (by kernel_rfl) (fun _ _ _ h => h) (Or.inr ⟨by rfl, rfl⟩) (by assumption) ?_
    try simp only [Act.put, List.setIfInBounds_toArray, List.set_cons_zero, List.set_cons_succ]
    refine wpAnyH_take (i := 12) (v := undef) rfl (by kernel_rfl) (by kernel_rfl) (by kernel_rfl) (fun _ _ _ h => h) (Or.inr ⟨by rfl, rfl⟩) (by assumption) ?_
    try simp only [Act.put, List.setIfInBounds_toArray, List.set_cons_zero, List.set_cons_succ]
    refine wpAnyH_take (i := 13) (v := undef) rfl (by kernel_rfl) (by kernel_rfl) (by kernel_rfl) (fun _ _ _ h => h) (Or.inr ⟨by rfl, rfl⟩) (by assumption) ?_
    try simp only [Act.put, List.setIfInBounds_toArray, List.set_cons_zero, List.set_cons_succ]
    refine wpAnyH_take (i := 14) (v := undef) rfl (by kernel_rfl) (by kernel_rfl) (by kernel_rfl) (fun _ _ _ h => h) (Or.inr ⟨by rfl, rfl⟩) (by assumption) ?_
    try simp only [Act.put, List.setIfInBounds_toArray, List.set_cons_zero, List.set_cons_succ]
    refine wpAnyH_take (i := 15) (v := undef) rfl (by kernel_rfl) (by kernel_rfl) (by kernel_rfl) (fun _ _ _ h => h) (Or.inr ⟨by rfl, rfl⟩) (by assumption) ?_
    try simp only [Act.put, List.setIfInBounds_toArray, List.set_cons_zero, List.set_cons_succ]
    refine wpAnyH_take (i := 16) (v := undef) rfl (by kernel_rfl) (by kernel_rfl) (by kernel_rfl) (fun _ _ _ h => h) (Or.inr ⟨by rfl, rfl⟩) (by assumption) ?_
    try simp only [Act.put, List.setIfInBounds_toArray, List.set_cons_zero, List.set_cons_succ]
    refine wpAnyH_take (i := 17) (v := ?v17) rfl (by kernel_rfl) (by kernel_rfl) (by kernel_rfl) (fun _ _ _ h => h) (Or.inl ⟨by rfl, ?hy17⟩) (by assumption) ?rest17
    case hy17 => (intro w hSw; (try dsimp only at hSw); go_simp; try with_reducible rfl)
    try simp only [Act.put, List.getElem_toArray, List.getElem_cons_succ, List.getElem_cons_zero, List.setIfInBounds_toArray, List.set_cons_zero, List.set_cons_succ]
    refine wpAnyH_take (i := 18) (v := ?v18) rfl (by kernel_rfl) (by kernel_rfl) (by kernel_rfl) (fun _ _ _ h => h) (Or.inl ⟨by rfl, ?hy18⟩) (by assumption) ?rest18
    case hy18 => (intro w hSw; (try dsimp only at hSw); go_simp; try with_reducible rfl)
    try simp only [Act.put, List.getElem_toArray, List.getElem_cons_succ, List.getElem_cons_zero, List.setIfInBounds_toArray, List.set_cons_zero, List.set_cons_succ]
    refine wpAnyH_done (by kernel_rfl) ?_ _
    clear f1 f2 f3
    go_wp2
    go_ret
    refine ⟨_, rfl, grown_trans hg0 hgO, ?_⟩
    rw [HX.out.2.2.1]
    simp [HQ.out]

end Go.Proofs.YtdklekdpdbjfiaaGreat

/- Complements on both sides. -/
namespace Go.Proofs.YtdklekdpdbjfiaaGreat
open Go.RowKit

open Classical in
noncomputable def cpnC (P : Pr) (U : List (List Int)) : Int := if rconsB P = true ∧ SubB P U then (if NormG P (gU P U) (cseq P (gU P U)) then 0 else 5) else 1
noncomputable def cplC (P : Pr) (U : List (List Int)) : Int := if cpnC P U = 0 then (if 32 < ordP P then 3 else 0) else cpnC P U
open Classical in
noncomputable def cplL (P : Pr) (U : List (List Int)) : List (List (List Int)) :=
  if cplC P U = 0 ∧ ∃ L, LatL P L then flTo (fun i => cmplB P (gU P U) (gU P (gt (latL P) i)) = true) (latL P) (latL P).length else []

theorem cpn_bad {P : Pr} {U : List (List Int)} (h : ¬ (rconsB P = true ∧ SubB P U)) : cpnC P U = 1 := by unfold cpnC; rw [if_neg h]
theorem cpn_not {P : Pr} {U : List (List Int)} (h : rconsB P = true ∧ SubB P U) (h2 : ¬ NormG P (gU P U) (cseq P (gU P U))) : cpnC P U = 5 := by unfold cpnC; rw [if_pos h, if_neg h2]
theorem cpn_ok {P : Pr} {U : List (List Int)} (h : rconsB P = true ∧ SubB P U) (h2 : NormG P (gU P U) (cseq P (gU P U))) : cpnC P U = 0 := by unfold cpnC; rw [if_pos h, if_pos h2]
theorem cpn_zero {P : Pr} {U : List (List Int)} (h : cpnC P U = 0) : rconsB P = true ∧ SubB P U := by
  refine Classical.byContradiction fun hn => ?_
  rw [cpn_bad hn] at h; cases h
theorem cpl_no {P : Pr} {U : List (List Int)} (h : cplC P U ≠ 0) : cplL P U = [] := by unfold cplL; rw [if_neg (fun hh => h hh.1)]
theorem cpl_ok {P : Pr} {U : List (List Int)} {L : List (List (List Int))} (h : cplC P U = 0) (hL : LatL P L) : cplL P U = flTo (fun i => cmplB P (gU P U) (gU P (gt L i)) = true) L L.length := by
  unfold cplL; rw [if_pos ⟨h, L, hL⟩, latL_eq hL]
theorem cpl_zero {P : Pr} {U : List (List Int)} (h : cplC P U = 0) : cpnC P U = 0 ∧ ordP P ≤ 32 := by
  unfold cplC at h
  by_cases h1 : cpnC P U = 0
  · rw [if_pos h1] at h
    refine ⟨h1, ?_⟩
    by_cases h2 : 32 < ordP P
    · rw [if_pos h2] at h; cases h
    · omega
  · rw [if_neg h1] at h; exact absurd h h1
theorem cpl_lat {P : Pr} {U : List (List Int)} (h : cpnC P U = 0) : cplC P U = latC P := by
  unfold cplC latC
  rw [if_pos h, if_pos (cpn_zero h).1]
theorem cplL_bd (P : Pr) (U : List (List Int)) : (cplL P U).length ≤ 17408 ∧ ∀ u ∈ cplL P U, u.length ≤ 6 ∧ ∀ x ∈ u, x.length ≤ 6 := by
  by_cases h : cplC P U = 0 ∧ ∃ L, LatL P L
  · obtain ⟨hc, L, hL⟩ := h
    have hz := cpl_zero hc
    have G := grp_of_r (cpn_zero hz.1).1
    rw [cpl_ok hc hL]
    have h1 := flTo_len (fun i => cmplB P (gU P U) (gU P (gt L i)) = true) L L.length
    have h2 := G.lat_len hz.2 hL
    exact ⟨by omega, fun u hu => G.lat_row hL u (flTo_mem (Nat.le_refl _) u hu)⟩
  · unfold cplL; rw [if_neg h]; simp
theorem cplL_len (P : Pr) (U : List (List Int)) : (cplL P U).length ≤ 17408 := (cplL_bd P U).1
theorem cplL_tot (P : Pr) (U : List (List Int)) : tot3 (cplL P U) ≤ 100000000 := part_tot (cplL_bd P U).1 (cplL_bd P U).2

set_option maxRecDepth 100000 in
set_option maxHeartbeats 2000000 in
theorem normalCode_ok (P : Pr) (w : World) (p uv : Value) (U : List (List Int)) (Sp Su : Nat → Prop) (hp : PresP Sp w p P) (hu : Rows2 Su w uv U) :
    Calls Tryz.prog 101 #[p, uv] w (Ret w fun _ v => v = .int .i64 (cpnC P U)) := by
  obtain ⟨pb, po, rfl⟩ := hp.shape
  obtain ⟨au, capu, rfl, _, _⟩ := Sl.shape hu
  have hg1 : Ext w (w.alloc (.cells #[.slice au U.length capu] 23)) := World.grownBy_alloc _ _ _
  have hcon := areSubgroups_ok P _ _ _ [U] Sp Any (hp.ext hg1) (rows3One hu)
  go_enter Tryz.func101, Tryz.ntmps101
  go_wp2_with fail
  refine Calls.mono hcon ?_
  rintro e1 w1 ⟨v1, rfl, hgA, r1, rfl, hr1⟩
  clear hcon
  have hr1 : r1 = true ↔ rconsB P = true ∧ SubB P U := by rw [hr1]; simp
  have hg01 := grown_trans hg1 hgA
  cases r1 with
  | false =>
    have hc := cpn_bad (P := P) (U := U) (fun h => by have := hr1.2 h; cases this)
    have HC := Lib.hid hc; clear hc hr1
    go_wp2
    go_ret
    exact ⟨_, rfl, hg01, by rw [HC.out]; rfl⟩
  | true =>
    have hok := hr1.1 rfl
    have G := grp_of_r hok.1
    have hU := hok.2.2
    have hu1 : Rows2 Su w1 (.slice au U.length capu) (cseq P (gU P U)) := by
      have e : cseq P (gU P U) = U := hU.symm
      rw [e]; exact Rows2.ext hu hg01
    have hin := isNormal_ok P G w1 _ _ (gU P U) _ Su (G.subB hok.2) (hp.ext hg01) hu1
    have HOK := Lib.hid hok; clear hr1 hok hU hu1
    go_wp2_with fail
    refine Calls.mono hin ?_
    rintro e2 w2 ⟨v2, rfl, hg2, r2, rfl, hr2⟩
    clear hin
    cases r2 with
    | false =>
      have hc := cpn_not HOK.out (fun h => by have := hr2.2 h; cases this)
      have HC := Lib.hid hc; clear hc hr2
      go_wp2
      go_ret
      exact ⟨_, rfl, grown_trans hg01 hg2, by rw [HC.out]; rfl⟩
    | true =>
      have hc := cpn_ok HOK.out (hr2.1 rfl)
      have HC := Lib.hid hc; clear hc hr2
      go_wp2
      go_ret
      exact ⟨_, rfl, grown_trans hg01 hg2, by rw [HC.out]; rfl⟩

set_option maxRecDepth 100000 in
set_option maxHeartbeats 2000000 in
theorem cmplClosure_ok (P : Pr) (G : Grp P) (L : List (List (List Int))) (hL : LatL P L) (U : List (List Int)) (hU : SubB P U) (w : World) (B lb xb ub i : Nat) (pp p lv mv uv : Value) (Sp Su : Nat → Prop) (hi : i < L.length) (hX : Box3 w lb p lv mv) (hp : PresP Sp w pp P)
    (hLv : SlO (fun F w u (x : List (List Int)) => RowsD F w u x) 23 B w lv L) (hx : w.cell? ⟨xb, 0, none⟩ = some (.pointer (some ⟨lb, 0, none⟩))) (hub : w.cell? ⟨ub, 0, none⟩ = some uv) (hu : Rows2 Su w uv U) :
    Calls Tryz.prog 102 #[.int .i64 (i : Int), pp, .pointer (some ⟨ub, 0, none⟩), .pointer (some ⟨xb, 0, none⟩)] w (Ret w fun _ v => ∃ r : Bool, v = .bool r ∧ (r = true ↔ cmplB P (gU P U) (gU P (gt L i)) = true)) := by
  have huB := (hL.2 _).1 (gt_mem hi)
  obtain ⟨g, c, ua, uc, rfl, hc, hR⟩ := lat_row_at hLv hi
  have e : cseq P (gU P (gt L i)) = gt L i := huB.2.symm
  have e2 : cseq P (gU P U) = U := hU.2.symm
  have hR' : Rows2 Any w (.slice ua (gt L i).length uc) (cseq P (gU P (gt L i))) := by rw [e]; exact hR
  have hu' : Rows2 Su w uv (cseq P (gU P U)) := by rw [e2]; exact hu
  obtain ⟨av, capv, rfl, _, _⟩ := Sl.shape hu
  obtain ⟨pb, po, rfl⟩ := hp.shape
  have hcm := fun (w' : World) (h : Ext w w') => isComplement_ok P G w' (.pointer (some ⟨pb, po, none⟩)) _ _ (gU P U) (gU P (gt L i)) _ _ _ (G.subB hU) (G.subB huB) (hp.ext h) (Rows2.ext hu' h) (Rows2.ext hR' h)
  have e1 : ∀ w', Ext w w' → w'.cell? ⟨xb, 0, none⟩ = some (.pointer (some ⟨lb, 0, none⟩)) := fun w' h => h.cell hx (by simp)
  have e2 : ∀ w', Ext w w' → w'.cell? ⟨lb, 1, none⟩ = some (.slice (some ⟨g, 0, none⟩) L.length c) := fun w' h => (hX.ext h).2.2.1
  have e3 : ∀ w', Ext w w' → w'.cell? ⟨g, i, none⟩ = some (.slice ua (gt L i).length uc) := fun w' h => h.cell hc (by simp)
  have e4 : ∀ w', Ext w w' → w'.cell? ⟨ub, 0, none⟩ = some (.slice av U.length capv) := fun w' h => h.cell hub (by simp)
  have hli : (i : Int) < L.length := by omega
  obtain ⟨r, hr⟩ : ∃ r, r = cmplB P (gU P U) (gU P (gt L i)) := ⟨_, rfl⟩
  rw [← hr] at hcm ⊢
  have HC := Lib.hid hcm; clear hcm hr hR hR' hu' huB e hx hub hc
  go_enter Tryz.func102, Tryz.ntmps102
  go_wp2
  go_region_held3 (fun w' => Ext w w') (first | exact grown_drew _ _ | exact Ext.refl _ | assumption)
    (first
      | (go_at_call 103; refine Calls.mono (Calls.rel (w0 := w) (by assumption) (HC.out _ (by assumption))) ?_; rintro e4 w4 ⟨v4, rfl, hg4, hs4, rfl⟩))
  clear e1 e2 e3 e4
  go_wp2
  go_ret
  exact ⟨_, rfl, hg4, r, rfl, Iff.rfl⟩

set_option maxRecDepth 100000 in
set_option maxHeartbeats 4000000 in
theorem iCpl_ok (P : Pr) (w : World) (pv uv : Value) (U : List (List Int)) (Sp Su : Nat → Prop) (hpv : PresV Sp w pv P) (hu : Rows2 Su w uv U) :
    Calls Tryz.prog 54 #[pv, uv] w (Ret w fun w' v => ∃ a n c, v = .tuple #[.slice a n c, .int .i64 (cplC P U)] ∧ SlO (fun F w u (x : List (List Int)) => RowsD F w u x) 23 w.heap.size w' (.slice a n c) (cplL P U)) := by
  obtain ⟨vo, vp, vc, rfl, h3⟩ := hpv
  have hp0 := PresP.box h3 31
  obtain ⟨au, capu, rfl, _, _⟩ := Sl.shape hu
  have hga : Ext w (w.alloc (.cells #[vo, vp, vc] 31)) := World.grownBy_alloc _ _ _
  have hs0 : (w.alloc (.cells #[vo, vp, vc] 31)).heap.size = w.heap.size + 1 := by simp
  have hgb : Ext (w.alloc (.cells #[vo, vp, vc] 31)) ((w.alloc (.cells #[vo, vp, vc] 31)).alloc (.cells #[.slice au U.length capu] 23)) := World.grownBy_alloc _ _ _
  have hub : ((w.alloc (.cells #[vo, vp, vc] 31)).alloc (.cells #[.slice au U.length capu] 23)).cell? ⟨w.heap.size + 1, 0, none⟩ = some (.slice au U.length capu) := by
    rw [← hs0, World.cell?_alloc_at _ _ _ _ rfl]; rfl
  have hg0 := grown_trans hga hgb
  have hp1 := hp0.ext hgb
  have hu1 := Rows2.ext hu hg0
  have hcode := normalCode_ok P _ _ _ U Any Su hp1 hu1
  have H0 := Lib.hid (And.intro hg0 (And.intro hub (And.intro hp1 hu1))); clear hga hgb hg0 hub hp1 hu1 hp0 hs0 hu
  go_enter Tryz.func54, Tryz.ntmps54
  go_wp2_with fail
  generalize hw0 : (w.alloc (.cells #[vo, vp, vc] 31)).alloc (.cells #[.slice au U.length capu] 23) = w0 at *
  clear hw0
  refine Calls.mono hcode ?_
  rintro e1 w1 ⟨v1, rfl, hg1, rfl⟩
  clear hcode
  by_cases hn : cpnC P U = 0
  · have hok := cpn_zero hn
    have G := grp_of_r hok.1
    have hlat := latticeOf_ok P w1 _ _ (H0.out.2.2.1.ext hg1)
    have hcl := cpl_lat hn
    obtain ⟨cn, hcn⟩ : ∃ cn, cn = cpnC P U := ⟨_, rfl⟩
    have hcn0 : cn = 0 := by rw [hcn]; exact hn
    rw [← hcn]
    have HN := Lib.hid (And.intro hcl (And.intro hok hcn)); clear hcl hok hcn hn
    subst hcn0
    go_wp2_with fail
    refine Calls.mono hlat ?_
    rintro e2 w2 ⟨v2, rfl, hg2, lp, rfl, hno, hyes⟩
    clear hlat
    have hg02 := grown_trans hg1 hg2
    have hgw2 := grown_trans H0.out.1 hg02
    by_cases hz : latC P = 0
    · obtain ⟨lb, L, rfl, hL, hA⟩ := hyes hz
      obtain ⟨hlo, lv, mv, hX, hO, hM⟩ := hA
      have h32 := (latC_zero hz).2
      have hall := cpl_ok (HN.out.1.trans hz) hL
      have hln := cplL_len P U
      have hlen := G.lat_len h32 hL
      have hg3 : Ext w2 (w2.alloc (.cells #[.pointer (some ⟨lb, 0, none⟩)] 81)) := World.grownBy_alloc _ _ _
      have hx : (w2.alloc (.cells #[.pointer (some ⟨lb, 0, none⟩)] 81)).cell? ⟨w2.heap.size, 0, none⟩ = some (.pointer (some ⟨lb, 0, none⟩)) := by rw [World.cell?_alloc_at _ _ _ _ rfl]; rfl
      have hX2 := hX.ext hg3
      have hO2 := hO.ext rdRows hg3
      have hg03 := grown_trans hg02 hg3
      have hp3 := H0.out.2.2.1.ext hg03
      have hmx := filterC_ok (fun i => cmplB P (gU P U) (gU P (gt L i)) = true) (.pointer (some ⟨w.heap.size, 0, none⟩)) (.pointer (some ⟨w.heap.size + 1, 0, none⟩)) (.pointer (some ⟨w2.heap.size, 0, none⟩)) L hlen _ w1.heap.size lb _ lv mv hX2 hO2 (Nat.le_trans hg2.size hg3.size)
        (fun i wr hi hgr => cmplClosure_ok P G L hL U HN.out.2.1.2 wr w1.heap.size lb w2.heap.size (w.heap.size + 1) i _ _ lv mv _ Any Su hi (hX2.ext hgr) (hp3.ext hgr) (hO2.ext rdRows hgr) (hgr.cell hx (by simp)) ((grown_trans hg03 hgr).cell H0.out.2.1 (by simp)) (Rows2.ext H0.out.2.2.2 (grown_trans hg03 hgr)))
      obtain ⟨c, hc⟩ : ∃ c, c = latC P := ⟨_, rfl⟩
      have hc0 : c = 0 := by rw [hc]; exact hz
      rw [← hc]
      have HC := Lib.hid (And.intro hc (And.intro hall (And.intro hg3 hx))); clear hc hall hO hL hM hO2 hno hyes hz hX hX2 hg3 hx hp3 hg03
      subst hc0
      go_wp2_with fail
      refine Calls.mono hmx ?_
      rintro e4 w4 ⟨v4, rfl, hg4, hR⟩
      clear hmx
      rw [← HC.out.2.1] at hR
      obtain ⟨ra, rc, hrv, _, _⟩ := SlD.shape (hR.toD (by omega))
      subst hrv
      have HR := Lib.hid hR; clear hR
      go_wp2
      go_ret2
      exact ⟨_, rfl, grown_trans hgw2 (grown_trans HC.out.2.2.1 hg4), _, _, _, by rw [HN.out.1, ← HC.out.1]; rfl, HR.out.weak (Nat.le_trans H0.out.1.size hg1.size)⟩
    · have hlp := hno hz
      subst hlp
      have hall := cpl_no (P := P) (U := U) (by rw [HN.out.1]; exact hz)
      obtain ⟨c, hc⟩ : ∃ c, c = latC P := ⟨_, rfl⟩
      rw [← hc] at hz ⊢
      have hne : (c != 0) = true := by simpa using hz
      have hg3 : Ext w2 (w2.alloc (.cells #[.pointer none] 81)) := World.grownBy_alloc _ _ _
      have HC := Lib.hid (And.intro hc (And.intro hall hg3)); clear hc hall hno hyes hg3
      go_wp2
      go_ret2
      exact ⟨_, rfl, grown_trans hgw2 HC.out.2.2, none, 0, 0, by rw [HN.out.1, ← HC.out.1]; rfl, by rw [HC.out.2.1]; exact SlO.nil _ _ _ _⟩
  · have hcc : cplC P U = cpnC P U := by unfold cplC; rw [if_neg hn]
    have hall := cpl_no (P := P) (U := U) (by rw [hcc]; exact hn)
    have hcc' := hcc
    obtain ⟨c, hc⟩ : ∃ c, c = cpnC P U := ⟨_, rfl⟩
    rw [← hc] at hn hcc' ⊢
    have hne : (c != 0) = true := by simpa using hn
    have HC := Lib.hid (And.intro hall hcc'); clear hc hall hcc hcc'
    go_wp2
    go_ret2
    exact ⟨_, rfl, grown_trans H0.out.1 hg1, none, 0, 0, by rw [HC.out.2]; rfl, by rw [HC.out.1]; exact SlO.nil _ _ _ _⟩

end Go.Proofs.YtdklekdpdbjfiaaGreat

/- Vectors of different kinds lie in different blocks; an append that tells where the new vector lies. -/
namespace Go.Proofs.YtdklekdpdbjfiaaGreat
open Go.RowKit

end Go.Proofs.YtdklekdpdbjfiaaGreat

/- Complements by the reference. -/
namespace Go.Proofs.YtdklekdpdbjfiaaGreat
open Go.RowKit

set_option maxRecDepth 100000 in
set_option maxHeartbeats 2000000 in
theorem l15Code_ok (P : Pr) (w : World) (pv uv : Value) (U : List (List Int)) (Sp Su : Nat → Prop) (hpv : PresV Sp w pv P) (hu : Rows2 Su w uv U) :
    Calls Tryz.prog 98 #[pv, uv] w (Ret w fun _ v => v = .int .i64 (cpnC P U)) := by
  obtain ⟨vo, vp, vc, rfl, h3⟩ := hpv
  have hp0 := PresP.box h3 31
  have hg0 : Ext w (w.alloc (.cells #[vo, vp, vc] 31)) := World.grownBy_alloc _ _ _
  obtain ⟨vo6, vp6, vc6, _, _, hc0, hc1, hc2, h36⟩ := hp0.at
  simp only [Nat.zero_add] at hc1 hc2
  have hbx : ∀ w', Ext (w.alloc (.cells #[vo, vp, vc] 31)) w' → w'.cell? ⟨w.heap.size, 0, none⟩ = some vo6 ∧ w'.cell? ⟨w.heap.size, 1, none⟩ = some vp6 ∧ w'.cell? ⟨w.heap.size, 2, none⟩ = some vc6 := fun w' h => ⟨h.cell hc0 (by simp), h.cell hc1 (by simp), h.cell hc2 (by simp)⟩
  have HB := Lib.hid hbx; clear hbx hp0
  have hu0 := Rows2.ext hu hg0
  obtain ⟨au, capu, rfl, _, _⟩ := Sl.shape hu
  have his := sIsSubgroup_ok P _ (.agg #[vo6, vp6, vc6]) _ U Any Su ⟨_, _, _, rfl, h36⟩ hu0
  clear hu
  go_enter Tryz.func98, Tryz.ntmps98
  go_wp2_with fail
  clear hc0 hc1 hc2
  generalize hw0 : w.alloc (.cells #[vo, vp, vc] 31) = w0 at *
  clear hw0
  refine Calls.mono his ?_
  rintro e1 w1 ⟨v1, rfl, hg1, r1, rfl, hr1⟩
  clear his
  cases r1 with
  | false =>
    have hc := cpn_bad (P := P) (U := U) (fun h => by have := hr1.2 h; cases this)
    have HC := Lib.hid hc; clear hc hr1
    go_wp2
    go_ret
    exact ⟨_, rfl, grown_trans hg0 hg1, by rw [HC.out]; rfl⟩
  | true =>
    have hok := hr1.1 rfl
    have G := grp_of_r hok.1
    have hU := hok.2.2
    have hu1 : Rows2 Su w1 (.slice au U.length capu) (cseq P (gU P U)) := by
      have e : cseq P (gU P U) = U := hU.symm
      rw [e]; exact Rows2.ext hu0 hg1
    have hin := l13Normal_ok P G w1 (.agg #[vo6, vp6, vc6]) _ (gU P U) Any Su (G.subB hok.2) ⟨_, _, _, rfl, Pres3.ext h36 hg1⟩ hu1
    have HOK := Lib.hid hok; clear hr1 hok hU hu1
    obtain ⟨hc0, hc1, hc2⟩ := HB.out w1 hg1
    go_wp2_with fail
    clear hc0 hc1 hc2
    refine Calls.mono hin ?_
    rintro e2 w2 ⟨v2, rfl, hg2, r2, rfl, hr2⟩
    clear hin
    cases r2 with
    | false =>
      have hc := cpn_not HOK.out (fun h => by have := hr2.2 h; cases this)
      have HC := Lib.hid hc; clear hc hr2
      go_wp2
      go_ret
      exact ⟨_, rfl, grown_trans hg0 (grown_trans hg1 hg2), by rw [HC.out]; rfl⟩
    | true =>
      have hc := cpn_ok HOK.out (hr2.1 rfl)
      have HC := Lib.hid hc; clear hc hr2
      go_wp2
      go_ret
      exact ⟨_, rfl, grown_trans hg0 (grown_trans hg1 hg2), by rw [HC.out]; rfl⟩

set_option maxRecDepth 100000 in
set_option maxHeartbeats 8000000 in
theorem sCpl_ok (P : Pr) (w : World) (pv uv : Value) (U : List (List Int)) (Sp Su : Nat → Prop) (hpv : PresV Sp w pv P) (hu : Rows2 Su w uv U) :
    Calls Tryz.prog 52 #[pv, uv] w (Ret w fun w' v => ∃ a n c, v = .tuple #[.slice a n c, .int .i64 (cplC P U)] ∧ Rows3 Any w' (.slice a n c) (cplL P U)) := by
  obtain ⟨vo, vp, vc, rfl, h3⟩ := hpv
  have hp0 := PresP.box h3 31
  have hg0 : Ext w (w.alloc (.cells #[vo, vp, vc] 31)) := World.grownBy_alloc _ _ _
  obtain ⟨vo6, vp6, vc6, _, _, hc0, hc1, hc2, h36⟩ := hp0.at
  simp only [Nat.zero_add] at hc1 hc2
  have hbx : ∀ w', Ext (w.alloc (.cells #[vo, vp, vc] 31)) w' → w'.cell? ⟨w.heap.size, 0, none⟩ = some vo6 ∧ w'.cell? ⟨w.heap.size, 1, none⟩ = some vp6 ∧ w'.cell? ⟨w.heap.size, 2, none⟩ = some vc6 := fun w' h => ⟨h.cell hc0 (by simp), h.cell hc1 (by simp), h.cell hc2 (by simp)⟩
  have HB := Lib.hid hbx; clear hbx hp0
  have hu0 := Rows2.ext hu hg0
  obtain ⟨au, capu, rfl, _, _⟩ := Sl.shape hu
  have hcd := l15Code_ok P _ (.agg #[vo6, vp6, vc6]) _ U Any Su ⟨_, _, _, rfl, h36⟩ hu0
  clear hu
  go_enter Tryz.func52, Tryz.ntmps52
  go_wp2_with fail
  clear hc0 hc1 hc2
  generalize hw0 : w.alloc (.cells #[vo, vp, vc] 31) = w0 at *
  clear hw0
  refine Calls.mono hcd ?_
  rintro e1 w1 ⟨v1, rfl, hg1, rfl⟩
  clear hcd
  by_cases hn : cpnC P U = 0
  · have hok := cpn_zero hn
    have G := grp_of_r hok.1
    have hcl := cpl_lat hn
    obtain ⟨cn, hcn⟩ : ∃ cn, cn = cpnC P U := ⟨_, rfl⟩
    have hcn0 : cn = 0 := by rw [hcn]; exact hn
    rw [← hcn]
    have hcx : cplC P U = if 32 < ordP P then 3 else 0 := by unfold cplC; rw [if_pos hn]
    have HN := Lib.hid (And.intro hcx (And.intro hok hcn)); clear hcl hok hcn hn hcx
    subst hcn0
    obtain ⟨hc0, hc1, hc2⟩ := HB.out w1 hg1
    go_wp2_with fail
    clear hc0 hc1 hc2
    refine Calls.mono (l10Order_ok w1 _ P Any G.v ⟨_, _, _, rfl, Pres3.ext h36 hg1⟩) ?_
    rintro e2 w2 ⟨v2, rfl, hg2, rfl⟩
    have hg02 := grown_trans hg1 hg2
    by_cases hbig : 32 < ordP P
    · have e := HN.out.1
      rw [if_pos hbig] at e
      have hall := cpl_no (P := P) (U := U) (by rw [e]; decide)
      have HE := Lib.hid (And.intro e hall); clear e hall
      go_wp2
      go_ret2
      exact ⟨_, rfl, grown_trans hg0 hg02, none, 0, 0, by rw [HE.out.1]; rfl, by rw [HE.out.2]; exact ⟨none, 0, rfl, ⟨by simp, by simp, fun _ => rfl⟩, fun i hi => by simp at hi⟩⟩
    · have h32 : ordP P ≤ 32 := by omega
      have e := HN.out.1
      rw [if_neg hbig] at e
      have HE := Lib.hid e; clear e
      obtain ⟨hc0, hc1, hc2⟩ := HB.out w2 hg02
      go_wp2_with fail
      clear hc0 hc1 hc2
      refine Calls.mono (l19All_ok P G w2 _ Any h32 ⟨_, _, _, rfl, Pres3.ext h36 hg02⟩) ?_
      rintro e3 w3 ⟨v3, rfl, hg3, hL, hR⟩
      have hg03 := grown_trans hg02 hg3
      obtain ⟨L, hLe⟩ : ∃ L, L = latL P := ⟨_, rfl⟩
      rw [← hLe] at hL hR
      have hall := cpl_ok HE.out hL
      have hlen := G.lat_len h32 hL
      obtain ⟨la, lc, hlv, _, _⟩ := Sl.shape hR
      subst hlv
      have hsub : ∀ u ∈ L, SubB P u := fun u hu => (hL.2 u).1 hu
      have hrow := G.lat_row hL
      obtain ⟨Q, hQ⟩ : ∃ Q : Nat → Prop, Q = fun i => cmplB P (gU P U) (gU P (gt L i)) = true := ⟨_, rfl⟩
      rw [← hQ] at hall
      have HL := Lib.hid (And.intro hsub (And.intro hrow (And.intro hall hQ))); clear hsub hrow hall hL hLe hQ
      have HR := Lib.hid hR; clear hR
      go_wp2
      go_loopw [8, 9] (fun ov kv wr => ∃ (k : Nat) (v8 : Value), v8 = ov ∧ kv = .int .i64 k ∧ k ≤ L.length ∧ Ext w3 wr ∧ Sh3 Any w3.heap.size wr v8 (flTo Q L k)) (fun _ kv _ => L.length - (intOf kv).toNat)
      case atStart => exact ⟨0, _, rfl, by go_num, by omega, World.grownBy_alloc _ _ _, Sh3.lit0 _ _ _ (Nat.le_refl _)⟩
      case round =>
        obtain ⟨k, v8, rfl, rfl, hk, hg, hO⟩ := hrel
        have hln := flTo_len Q L k
        by_cases hlt : k < L.length
        · have hlt' : (k : Int) < L.length := by omega
          obtain ⟨bl, ol, a2, cap2, hal, _, hbl, hcl, hru⟩ := Rows3.at HR.out k hlt
          cases hal
          have hkB := HL.out.1 _ (gt_mem hlt)
          have hg0r := grown_trans hg03 hg
          have e1 : ∀ w', Ext wr w' → w'.cell? ⟨w.heap.size, 0, none⟩ = some vo6 := fun w' h => (HB.out w' (grown_trans hg0r h)).1
          have e2 : ∀ w', Ext wr w' → w'.cell? ⟨w.heap.size, 1, none⟩ = some vp6 := fun w' h => (HB.out w' (grown_trans hg0r h)).2.1
          have e3 : ∀ w', Ext wr w' → w'.cell? ⟨w.heap.size, 2, none⟩ = some vc6 := fun w' h => (HB.out w' (grown_trans hg0r h)).2.2
          have e4 : ∀ w', Ext wr w' → w'.cell? ⟨bl, ol + k, none⟩ = some (.slice a2 (gt L k).length cap2) := fun w' h => (grown_trans hg h).cell hcl (by simp)
          have ec : cseq P (gU P (gt L k)) = gt L k := hkB.2.symm
          have eu : cseq P (gU P U) = U := HN.out.2.1.2.2.symm
          have hvK : Rows2 Any w3 (.slice a2 (gt L k).length cap2) (cseq P (gU P (gt L k))) := by rw [ec]; exact Rows2.sub hru (fun _ _ _ => trivial)
          have hvU : Rows2 Su w0 (.slice au U.length capu) (cseq P (gU P U)) := by rw [eu]; exact hu0
          have hw := fun (w' : World) (h : Ext wr w') => l20Complement_ok P G w' (.agg #[vo6, vp6, vc6]) _ _ (gU P U) (gU P (gt L k)) Any Su Any (G.subB HN.out.2.1.2) (G.subB hkB) ⟨_, _, _, rfl, Pres3.ext h36 (grown_trans hg0r h)⟩ (Rows2.ext hvU (grown_trans hg0r h)) (Rows2.ext hvK (grown_trans hg h))
          obtain ⟨r, hr⟩ : ∃ r, r = cmplB P (gU P U) (gU P (gt L k)) := ⟨_, rfl⟩
          rw [← hr] at hw
          have HW := Lib.hid (And.intro hw (And.intro hr hru)); clear hw hkB ec eu hvK hvU hru hr
          go_wp2
          go_region_held3 (fun w' => Ext wr w') (first | exact grown_drew _ _ | exact Ext.refl _ | assumption)
            (first
              | (go_at_call 100; refine Calls.mono (Calls.rel (w0 := wr) (by assumption) (HW.out.1 _ (by assumption))) ?_; rintro e4 w4 ⟨v4, rfl, hg4, hs4, rfl⟩))
          have hg34 := grown_trans hg hg4
          have hO4 := hO.ext hg4
          have hcr := hg34.cell hcl (by simp)
          clear e1 e2 e3 e4 hcl hO
          cases r with
          | true =>
            have hst := flTo_yes (L := L) (Q := Q) (k := k) (by rw [HL.out.2.2.2]; exact HW.out.2.1.symm)
            have huS : Rows2 (fun j => Any j ∧ j < w3.heap.size) w4 (.slice a2 (gt L k).length cap2) (gt L k) := Rows2.mono HW.out.2.2 (fun j _ hlt => ⟨⟨trivial, hlt⟩, Nat.lt_of_lt_of_le hlt hg34.size, hg34.block j hlt (by simp)⟩)
            have HS := Lib.hid (And.intro hst huS); clear hst huS
            go_wp2_with (first | (at_builtin; refine wp_app_r3 rfl _ _ rfl Any w3.heap.size _ _ (flTo Q L k) (gt L k) rfl w4 hO4 HS.out.2 rfl rfl (by omega) hg34.size ?_; intro v9 w9 hO9 hg9; have hg09 := grown_own hg34 hg9 (fun b hb hlt => by have := (hO4.lt b hb).1; omega)) | fail)
            clear hcr
            rw [← HS.out.1] at hO9
            go_roundw
            case rel => exact ⟨k + 1, v9, rfl, by go_num, by omega, hg09, hO9⟩
            case measure => simp [intOf]; omega
          | false =>
            have hst := flTo_no (L := L) (Q := Q) (k := k) (by rw [HL.out.2.2.2]; intro h; have := HW.out.2.1; rw [h] at this; cases this)
            rw [← hst] at hO4
            clear hst
            go_wp2
            clear hcr
            go_roundw
            case rel => exact ⟨k + 1, v8, rfl, by go_num, by omega, hg34, hO4⟩
            case measure => simp [intOf]; omega
        · have hke : k = L.length := by omega
          have hnl : ¬ (k : Int) < L.length := by omega
          have hrows := hO.rows (by omega)
          rw [hke] at hrows
          have hmem := fun u hu => HL.out.2.1 u (flTo_mem (Q := Q) (L := L) (Nat.le_refl _) u hu)
          obtain ⟨az, cz, hvz⟩ := hO.shape
          subst hvz
          obtain ⟨X, hX⟩ : ∃ X, X = flTo Q L L.length := ⟨_, rfl⟩
          have hXl : X.length ≤ L.length := by rw [hX]; exact flTo_len _ _ _
          have hkX : (flTo Q L k).length = X.length := by rw [hke, hX]
          rw [← hX] at hrows hmem
          rw [hkX] at hrows ⊢
          have HM := Lib.hid (And.intro hmem (And.intro hX hrows)); clear hmem hX hO hkX hke
          have hrows := HM.out.2.2
          go_wp2_with fail
          refine Calls.mono (l19Own_ok wr _ X _ hrows HM.out.1 (by omega)) ?_
          rintro e5 w5 ⟨v5, rfl, hg5, hO⟩
          have hD := hO.toD (by omega)
          obtain ⟨ra, rc, hrv, _, _⟩ := SlD.shape hD
          subst hrv
          have hR3 := Rows3D.rows hD
          have HR3 := Lib.hid hR3; clear hR3 hD hO hrows
          go_wp2
          go_ret2
          exact ⟨_, rfl, grown_trans hg0 (grown_trans hg03 (grown_trans hg hg5)), _, _, _, by rw [HE.out]; rfl, by rw [HL.out.2.2.1, ← HM.out.2.1]; exact Rows3.sub HR3.out (fun _ _ _ => trivial)⟩
  · have hcc : cplC P U = cpnC P U := by unfold cplC; rw [if_neg hn]
    have hall := cpl_no (P := P) (U := U) (by rw [hcc]; exact hn)
    obtain ⟨c, hc⟩ : ∃ c, c = cpnC P U := ⟨_, rfl⟩
    rw [← hc] at hn hcc ⊢
    have hne : (c != 0) = true := by simpa using hn
    have HC := Lib.hid (And.intro hall hcc); clear hc hall hcc
    go_wp2
    go_ret2
    exact ⟨_, rfl, grown_trans hg0 hg1, none, 0, 0, by rw [HC.out.2]; rfl, by rw [HC.out.1]; exact ⟨none, 0, rfl, ⟨by simp, by simp, fun _ => rfl⟩, fun i hi => by simp at hi⟩⟩

end Go.Proofs.YtdklekdpdbjfiaaGreat

/- The laws' look at marked rows of rows: laws.heldInt64SS, heldInt64SSS. -/
namespace Go.Proofs.YtdklekdpdbjfiaaGreat
open Go.RowKit

set_option maxHeartbeats 1000000 in
theorem heldInt64SSS_ok (v : Value) (xs : List (List (List Int))) (q : Int) (w : World) (S : Nat → Prop) (h : Rows3 S w v (up3 q xs)) (hq0 : 0 ≤ q ∧ q + tot3 xs ≤ 1000000000) :
    Calls Tryz.prog 37 #[v, .int .i64 q] w (Ret w fun _ r => r = .int .i64 (q + tot3 xs)) := by
  have hq : 0 ≤ q ∧ q + szTo tot2 xs xs.length ≤ 1000000000 := hq0
  clear hq0
  obtain ⟨a, cap, rfl, hcap, hmax⟩ := Sl.shape h
  have hul : (up3 q xs).length = xs.length := mixTo_len _ _ _ _ _
  rw [hul] at h hmax ⊢
  have HU := Lib.hid hul; clear hul
  go_enter Tryz.func37, Tryz.ntmps37
  go_wp2
  go_loopw [1, 5] (fun qv iv wr => ∃ k : Nat, iv = .int .i64 k ∧ qv = .int .i64 (q + szTo tot2 xs k) ∧ k ≤ xs.length ∧ Ext w wr) (fun _ iv _ => xs.length - (intOf iv).toNat)
  case atStart => exact ⟨0, rfl, by simp [szTo], by omega, Ext.refl _⟩
  case round =>
    obtain ⟨k, rfl, rfl, hk, hg⟩ := hrel
    by_cases hlt : k < xs.length
    · obtain ⟨b, off, a2, cap2, rfl, _, _, hc2, hi2⟩ := Rows3.at (Rows3.ext h hg) k (by rw [HU.out]; exact hlt)
      have hgu : gt (up3 q xs) k = up2 (q + szTo tot2 xs k) (gt xs k) := by
        unfold up3; rw [gt_mixTo _ _ _ _ _ _ hlt, if_pos hlt]
      have hm := szTo_mono tot2 xs (show k + 1 ≤ xs.length by omega)
      have hst : szTo tot2 xs (k + 1) = szTo tot2 xs k + tot2 (gt xs k) := rfl
      have hqk : 0 ≤ q + (szTo tot2 xs k : Nat) ∧ q + (szTo tot2 xs k : Nat) + (tot2 (gt xs k) : Nat) ≤ 1000000000 := by omega
      have h0 : 0 ≤ q + (szTo tot2 xs k : Nat) + (tot2 (gt xs k) : Nat) := by omega
      have h1 : ¬ (q + (szTo tot2 xs k : Nat) + (tot2 (gt xs k) : Nat) < 0) := by omega
      have hi3 : Rows2 S wr (.slice a2 (gt (up3 q xs) k).length cap2) (up2 (q + szTo tot2 xs k) (gt xs k)) := by rw [← hgu]; exact hi2
      have HQ := Lib.hid (And.intro hqk (And.intro hm hst)); clear hqk hm hst hi2 hgu
      generalize (gt (up3 q xs) k).length = m2 at *
      go_wp2_with fail
      refine Calls.mono (heldInt64SS_ok _ ((gt xs k)) (q + (szTo tot2 xs k : Nat)) wr S hi3 HQ.out.1) ?_
      rintro eA wA ⟨vA, rfl, hgA, rfl⟩
      clear hc2 hi3
      go_wp2
      go_roundw
      case rel => exact ⟨k + 1, by go_num, by simp [szTo]; omega, by omega, grown_trans hg hgA⟩
      case measure => simp [intOf]; omega
    · have hke : k = xs.length := by omega
      subst hke
      go_wp2
      go_ret
      exact ⟨_, rfl, hg, rfl⟩

end Go.Proofs.YtdklekdpdbjfiaaGreat

/- Three-fold lists in blocks of their own: a reading that names its blocks. -/
namespace Go.Proofs.YtdklekdpdbjfiaaGreat
open Go.RowKit

theorem rdRows3 : RdOk (fun F w u (x : List (List (List Int))) => Rows3D F w u x) :=
  ⟨fun h hb => SlD.mono rdRows h hb, fun h => by obtain ⟨_, _, _, _, _, a, cap, rfl, _⟩ := h; rfl⟩

end Go.Proofs.YtdklekdpdbjfiaaGreat

/- laws.FnExactComplements: whatever the arguments, the law answers true. (Printed by gen_law.py.) -/
namespace Go.Proofs.YtdklekdpdbjfiaaGreat
open Go.RowKit

set_option maxRecDepth 100000 in
set_option maxHeartbeats 32000000 in
theorem lawCpl_ok (P : Pr) (U0 : List (List Int)) (w : World) (pv uv0 : Value) (S S0 : Nat → Prop) (hpv : PresV S w pv P) (hu0 : Rows2 S0 w uv0 U0) :
    Calls Tryz.prog 13 #[pv, uv0] w (Ret w fun _ v => v = .bool true) := by
  obtain ⟨vo, vp, vc, rfl, h3⟩ := hpv
  obtain ⟨au0, cu0, rfl, _, hub0⟩ := Sl.shape hu0
  have hg0 : Ext w (w.alloc (.cells #[vo, vp, vc] 26)) := World.grownBy_alloc _ _ _
  have hB := Box3.made w 26 vo vp vc
  have HB := Lib.hid hB; clear hB
  go_enter Tryz.func13, Tryz.ntmps13
  go_wp2_with fail
  generalize w.alloc (.cells #[vo, vp, vc] 26) = w0 at *
  have hbx := HB.out
  have s_b := Lib.hid hbx.1
  refine Calls.mono (szPresentation_ok _ P 1048576 _ S ⟨_, _, _, rfl, h3.ext hg0⟩ (by omega)) ?_
  rintro eA wA ⟨vA, rfl, hgA, ⟨hA, rfl⟩ | ⟨hA, rfl⟩⟩
  case inr =>
    go_wp2
    go_ret
    exact ⟨_, rfl, grown_trans hg0 hgA, rfl⟩
  have hsz : sizeP P ≤ 1048576 := by omega
  obtain ⟨l0, hl0⟩ : ∃ l0 : Int, l0 = 1048576 - (sizeP P : Nat) := ⟨_, rfl⟩
  rw [← hl0]
  have hb0 : 0 ≤ l0 ∧ l0 ≤ 1048576 := by omega
  have Hl0 := Lib.hid hl0; clear hl0 hA
  have hn0 : ¬ l0 < 0 := by omega
  have a_1 := grown_trans hg0 hgA
  have b_1 := hbx.ext hgA
  clear hg0 hbx
  have s_1 := Lib.hid hgA.size
  go_wp2_with fail
  refine Calls.mono (szInt64SS_ok _ U0 l0 _ S0 (Rows2.ext hu0 a_1) hb0) ?_
  rintro eB0 wB0 ⟨vB0, rfl, hgB0, ⟨hA, rfl⟩ | ⟨hA, rfl⟩⟩
  case inr =>
    go_wp2
    go_ret
    exact ⟨_, rfl, grown_trans a_1 hgB0, rfl⟩
  have hsu0 : size2 U0 ≤ 1048576 := by omega
  obtain ⟨l1, hl1⟩ : ∃ l1 : Int, l1 = l0 - (size2 U0 : Nat) := ⟨_, rfl⟩
  rw [← hl1]
  have hb1 : 0 ≤ l1 ∧ l1 ≤ 1048576 := by omega
  have Hl1 := Lib.hid hl1; clear hl1 hA hn0
  have hn1 : ¬ l1 < 0 := by omega
  have a_2 := grown_trans a_1 hgB0
  have b_2 := b_1.ext hgB0
  clear a_1 b_1
  have s_2 := Lib.hid hgB0.size
  obtain ⟨_, b0, b1, b2, _⟩ := id b_2
  go_wp2_with fail
  clear b0 b1 b2
  refine Calls.mono (toPresentation_ok _ P wB0 S ⟨_, _, _, rfl, h3.ext a_2⟩ hsz) ?_
  rintro eAP wAP ⟨vAP, rfl, hgAP, hpA⟩
  have hqA : PresW (fun k => wB0.heap.size ≤ k ∧ k < wAP.heap.size) wAP vAP P := hpA.mono (fun k hk hlt => ⟨⟨hk, hlt⟩, hlt, rfl⟩)
  obtain ⟨Aa1, Ac1, Aa2, Ac2, Aa3, Ac3, rfl⟩ := hpA.shape
  clear hpA
  have a_3 := grown_trans a_2 hgAP
  have b_3 := b_2.ext hgAP
  clear a_2 b_2
  have s_3 := Lib.hid hgAP.size
  go_wp2_with fail
  refine Calls.mono (toInt64SS_ok _ U0 wAP S0 (Rows2.ext hu0 a_3) hsu0) ?_
  rintro eA0 wA0 ⟨vA0, rfl, hgA0, hO⟩
  have hyA0 : RowsD (fun k => wAP.heap.size ≤ k ∧ k < wA0.heap.size) wA0 vA0 U0 := rdRows.mono (SlO.toD hO (by omega)) (fun k h1 h2 => ⟨⟨h1, h2⟩, h2, rfl⟩)
  clear hO
  obtain ⟨yAa0, yAc0, hvy, _, _⟩ := SlD.shape hyA0; subst hvy
  have a_4 := grown_trans a_3 hgA0
  have b_4 := b_3.ext hgA0
  have pA_4 := hqA.ext hgA0
  clear a_3 b_3 hqA
  have s_4 := Lib.hid hgA0.size
  go_wp2_with fail
  refine Calls.mono (sCpl_ok P wA0 _ _ U0 _ _ (PresW.v pA_4) (RowsD.rows hyA0)) ?_
  rintro eR wR ⟨vR, rfl, hgR, rRa, rRn, rRc, rfl, hR⟩
  clear pA_4
  clear hyA0
  have a_5 := grown_trans a_4 hgR
  have b_5 := b_4.ext hgR
  clear a_4 b_4
  have s_5 := Lib.hid hgR.size
  have hr : Rows3 (fun k => k < wR.heap.size) wR (.slice rRa rRn rRc) (cplL P U0) := Rows3.sub hR (fun k _ h => h)
  clear hR
  obtain ⟨_, b0, b1, b2, _⟩ := id b_5
  go_wp2_with fail
  clear b0 b1 b2
  refine Calls.mono (toPresentation_ok _ P wR S ⟨_, _, _, rfl, h3.ext a_5⟩ hsz) ?_
  rintro eBP wBP ⟨vBP, rfl, hgBP, hpB⟩
  have hqB : PresW (fun k => wR.heap.size ≤ k ∧ k < wBP.heap.size) wBP vBP P := hpB.mono (fun k hk hlt => ⟨⟨hk, hlt⟩, hlt, rfl⟩)
  obtain ⟨Ba1, Bc1, Ba2, Bc2, Ba3, Bc3, rfl⟩ := hpB.shape
  clear hpB
  have a_6 := grown_trans a_5 hgBP
  have b_6 := b_5.ext hgBP
  have r_6 := Rows3.ext hr hgBP
  clear a_5 b_5 hr
  have s_6 := Lib.hid hgBP.size
  have hgBX : Ext wBP (wBP.alloc (.cells #[.slice Ba1 P.orders.length Bc1, .slice Ba2 P.powers.length Bc2, .slice Ba3 P.conj.length Bc3] 31)) := World.grownBy_alloc _ _ _
  have hxB := Box3.made wBP 31 (.slice Ba1 P.orders.length Bc1) (.slice Ba2 P.powers.length Bc2) (.slice Ba3 P.conj.length Bc3)
  have sxB : (wBP.alloc (.cells #[.slice Ba1 P.orders.length Bc1, .slice Ba2 P.powers.length Bc2, .slice Ba3 P.conj.length Bc3] 31)).heap.size = wBP.heap.size + 1 := by simp
  have HxB := Lib.hid (And.intro hxB sxB); clear hxB sxB
  go_wp2_with fail
  generalize wBP.alloc (.cells #[.slice Ba1 P.orders.length Bc1, .slice Ba2 P.powers.length Bc2, .slice Ba3 P.conj.length Bc3] 31) = wBX at *
  have hxxB := HxB.out.1
  have sxB := Lib.hid HxB.out.2
  have a_7 := grown_trans a_6 hgBX
  have b_7 := b_6.ext hgBX
  have r_7 := Rows3.ext r_6 hgBX
  have pB_7 := hqB.ext hgBX
  clear a_6 b_6 r_6 hqB
  have s_7 := Lib.hid hgBX.size
  refine Calls.mono (toInt64SS_ok _ U0 wBX S0 (Rows2.ext hu0 a_7) hsu0) ?_
  rintro eB0 wB0 ⟨vB0, rfl, hgB0, hO⟩
  have hyB0 : RowsD (fun k => wBX.heap.size ≤ k ∧ k < wB0.heap.size) wB0 vB0 U0 := rdRows.mono (SlO.toD hO (by omega)) (fun k h1 h2 => ⟨⟨h1, h2⟩, h2, rfl⟩)
  clear hO
  obtain ⟨yBa0, yBc0, hvy, _, _⟩ := SlD.shape hyB0; subst hvy
  have a_8 := grown_trans a_7 hgB0
  have b_8 := b_7.ext hgB0
  have r_8 := Rows3.ext r_7 hgB0
  have pB_8 := pB_7.ext hgB0
  have xB_8 := hxxB.ext hgB0
  clear a_7 b_7 r_7 pB_7 hxxB
  have s_8 := Lib.hid hgB0.size
  obtain ⟨_, b0, b1, b2, _⟩ := id xB_8
  go_wp2_with fail
  clear b0 b1 b2
  refine Calls.mono (iCpl_ok P wB0 _ _ U0 _ _ (PresW.v pB_8) (RowsD.rows hyB0)) ?_
  rintro eG wG ⟨vG, rfl, hgG, rGa, rGn, rGc, rfl, hG⟩
  have a_9 := grown_trans a_8 hgG
  have b_9 := b_8.ext hgG
  have r_9 := Rows3.ext r_8 hgG
  have pB_9 := pB_8.ext hgG
  have xB_9 := xB_8.ext hgG
  have yB0_9 := rdRows.mono hyB0 (frame_ext hgG)
  clear a_8 b_8 r_8 pB_8 xB_8 hyB0
  have s_9 := Lib.hid hgG.size
  have hg_ : Rows3D (fun k => wB0.heap.size ≤ k ∧ k < wG.heap.size) wG (.slice rGa rGn rGc) (cplL P U0) := rdRows3.mono (SlO.toD hG (by have := cplL_len P U0; omega)) (fun k h1 h2 => ⟨⟨h1, h2⟩, h2, rfl⟩)
  clear hG
  have hEV : eqB (cplL P U0) (cplL P U0) = true := eqB_true.2 rfl
  go_wp2_with fail
  refine Calls.mono (eqInt64SSS_ok _ _ _ _ wG _ _ (Rows3D.rows hg_) r_9) ?_
  rintro eH wH ⟨vH, rfl, hgH, rfl⟩
  have a_10 := grown_trans a_9 hgH
  have b_10 := b_9.ext hgH
  have r_10 := Rows3.ext r_9 hgH
  have pB_10 := pB_9.ext hgH
  have xB_10 := xB_9.ext hgH
  have yB0_10 := rdRows.mono yB0_9 (frame_ext hgH)
  have g_10 := rdRows3.mono hg_ (frame_ext hgH)
  clear a_9 b_9 r_9 pB_9 xB_9 yB0_9 hg_
  have s_10 := Lib.hid hgH.size
  go_wp2_with fail
  have ha0 : ∀ w', Ext wH w' → w'.cell? ⟨w.heap.size, 0, none⟩ = some vo := fun w' h => (b_10.ext h).2.1
  have ha1 : ∀ w', Ext wH w' → w'.cell? ⟨w.heap.size, 1, none⟩ = some vp := fun w' h => (b_10.ext h).2.2.1
  have ha2 : ∀ w', Ext wH w' → w'.cell? ⟨w.heap.size, 2, none⟩ = some vc := fun w' h => (b_10.ext h).2.2.2.1
  have hx0 : ∀ w', Ext wH w' → w'.cell? ⟨wBP.heap.size, 0, none⟩ = some (.slice Ba1 P.orders.length Bc1) := fun w' h => (xB_10.ext h).2.1
  have hx1 : ∀ w', Ext wH w' → w'.cell? ⟨wBP.heap.size, 1, none⟩ = some (.slice Ba2 P.powers.length Bc2) := fun w' h => (xB_10.ext h).2.2.1
  have hx2 : ∀ w', Ext wH w' → w'.cell? ⟨wBP.heap.size, 2, none⟩ = some (.slice Ba3 P.conj.length Bc3) := fun w' h => (xB_10.ext h).2.2.2.1
  go_region_held3 (fun w' => Ext wH w') (first | exact grown_drew _ _ | assumption)
    (first
      | (go_at_call 18; refine Calls.mono (Calls.rel (w0 := wH) (by assumption) (toPresentation_ok _ P _ S ⟨_, _, _, rfl, Pres3.ext h3 (grown_trans a_10 (by assumption))⟩ hsz)) ?_; rintro e8 w8 ⟨v8, rfl, hg8, hs8, hp8⟩; obtain ⟨ya, yc, yb, yd, ye, yf, rfl⟩ := hp8.shape)
      | (go_at_call 21; refine Calls.mono (Calls.rel (w0 := wH) (by assumption) (eqPresentation_ok _ _ P _ _ _ (PresW.v (PresW.ext pB_10 (by assumption))) (PresW.v hp8))) ?_; rintro e9 w9 ⟨v9, rfl, hg9, hs9, rfl⟩))
  clear ha0 ha1 ha2 hx0 hx1 hx2 hp8 hg8
  have a_11 := grown_trans a_10 hg9
  have b_11 := b_10.ext hg9
  have r_11 := Rows3.ext r_10 hg9
  have pB_11 := pB_10.ext hg9
  have xB_11 := xB_10.ext hg9
  have yB0_11 := rdRows.mono yB0_10 (frame_ext hg9)
  have g_11 := rdRows3.mono g_10 (frame_ext hg9)
  clear a_10 b_10 r_10 pB_10 xB_10 yB0_10 g_10
  have s_11 := Lib.hid hg9.size
  go_wp2_with fail
  refine Calls.mono (toInt64SS_ok _ U0 w9 S0 (Rows2.ext hu0 a_11) hsu0) ?_
  rintro eC0 wC0 ⟨vC0, rfl, hgC0, hO⟩
  have hOD := SlO.toD hO (by omega)
  clear hO
  obtain ⟨za0, zc0, hvz, _, _⟩ := SlD.shape hOD; subst hvz
  have a_12 := grown_trans a_11 hgC0
  have b_12 := b_11.ext hgC0
  have r_12 := Rows3.ext r_11 hgC0
  have pB_12 := pB_11.ext hgC0
  have xB_12 := xB_11.ext hgC0
  have yB0_12 := rdRows.mono yB0_11 (frame_ext hgC0)
  have g_12 := rdRows3.mono g_11 (frame_ext hgC0)
  clear a_11 b_11 r_11 pB_11 xB_11 yB0_11 g_11
  have s_12 := Lib.hid hgC0.size
  go_wp2_with fail
  refine Calls.mono (eqInt64SS_ok _ _ _ _ wC0 _ _ (RowsD.rows yB0_12) (RowsD.rows hOD)) ?_
  rintro eD0 wD0 ⟨vD0, rfl, hgD0, rfl⟩
  clear hOD
  have hEU0 : eqB U0 U0 = true := eqB_true.2 rfl
  have a_13 := grown_trans a_12 hgD0
  have b_13 := b_12.ext hgD0
  have r_13 := Rows3.ext r_12 hgD0
  have pB_13 := pB_12.ext hgD0
  have xB_13 := xB_12.ext hgD0
  have yB0_13 := rdRows.mono yB0_12 (frame_ext hgD0)
  have g_13 := rdRows3.mono g_12 (frame_ext hgD0)
  clear a_12 b_12 r_12 pB_12 xB_12 yB0_12 g_12
  have s_13 := Lib.hid hgD0.size
  obtain ⟨_, c0, c1, c2, _⟩ := id xB_13
  go_wp2_with fail
  clear c0 c1 c2 hEU0
  refine Calls.mono (markPresentationB_ok _ P wD0 _ pB_13 hsz) ?_
  rintro eM wM ⟨q0, hq0, rfl, hTM⟩
  clear pB_13 xB_13
  have sb_14 := Lib.hid b_13.1
  have a_14 := Touch.ext a_13 hTM (fun k hk => by have := s_b.out; have := s_1.out; have := s_2.out; have := s_3.out; have := s_4.out; have := s_5.out; have := s_6.out; have := sxB.out; have := s_7.out; have := s_8.out; have := s_9.out; have := s_10.out; have := s_11.out; have := s_12.out; have := s_13.out; have := sb_14.out; omega)
  have b_14 := b_13.keep hTM.size (hTM.block _ b_13.1 (fun h => by have := s_b.out; have := s_1.out; have := s_2.out; have := s_3.out; have := s_4.out; have := s_5.out; have := s_6.out; have := sxB.out; have := s_7.out; have := s_8.out; have := s_9.out; have := s_10.out; have := s_11.out; have := s_12.out; have := s_13.out; have := sb_14.out; omega))
  have r_14 := Rows3.mono r_13 (hTM.frame (fun k hk h => by have := s_b.out; have := s_1.out; have := s_2.out; have := s_3.out; have := s_4.out; have := s_5.out; have := s_6.out; have := sxB.out; have := s_7.out; have := s_8.out; have := s_9.out; have := s_10.out; have := s_11.out; have := s_12.out; have := s_13.out; have := sb_14.out; omega))
  have yB0_14 := rdRows.mono yB0_13 (hTM.frame (fun k hk h => by have := s_b.out; have := s_1.out; have := s_2.out; have := s_3.out; have := s_4.out; have := s_5.out; have := s_6.out; have := sxB.out; have := s_7.out; have := s_8.out; have := s_9.out; have := s_10.out; have := s_11.out; have := s_12.out; have := s_13.out; have := sb_14.out; omega))
  have g_14 := rdRows3.mono g_13 (hTM.frame (fun k hk h => by have := s_b.out; have := s_1.out; have := s_2.out; have := s_3.out; have := s_4.out; have := s_5.out; have := s_6.out; have := sxB.out; have := s_7.out; have := s_8.out; have := s_9.out; have := s_10.out; have := s_11.out; have := s_12.out; have := s_13.out; have := sb_14.out; omega))
  clear a_13 b_13 r_13 yB0_13 g_13
  have s_14 := Lib.hid hTM.size
  have hqq0 : 0 ≤ q0 ∧ q0 ≤ 4000000 := by omega
  go_wp2_with fail
  refine Calls.mono (markInt64SS_ok _ U0 q0 wM _ yB0_14 ⟨by omega, by have := szTo_le U0; omega⟩) ?_
  rintro eN0 wN0 ⟨rfl, hTN0, _⟩
  clear yB0_14
  have sb_15 := Lib.hid b_14.1
  have a_15 := Touch.ext a_14 hTN0 (fun k hk => by have := s_b.out; have := s_1.out; have := s_2.out; have := s_3.out; have := s_4.out; have := s_5.out; have := s_6.out; have := sxB.out; have := s_7.out; have := s_8.out; have := s_9.out; have := s_10.out; have := s_11.out; have := s_12.out; have := s_13.out; have := sb_14.out; have := s_14.out; have := sb_15.out; omega)
  have b_15 := b_14.keep hTN0.size (hTN0.block _ b_14.1 (fun h => by have := s_b.out; have := s_1.out; have := s_2.out; have := s_3.out; have := s_4.out; have := s_5.out; have := s_6.out; have := sxB.out; have := s_7.out; have := s_8.out; have := s_9.out; have := s_10.out; have := s_11.out; have := s_12.out; have := s_13.out; have := sb_14.out; have := s_14.out; have := sb_15.out; omega))
  have r_15 := Rows3.mono r_14 (hTN0.frame (fun k hk h => by have := s_b.out; have := s_1.out; have := s_2.out; have := s_3.out; have := s_4.out; have := s_5.out; have := s_6.out; have := sxB.out; have := s_7.out; have := s_8.out; have := s_9.out; have := s_10.out; have := s_11.out; have := s_12.out; have := s_13.out; have := sb_14.out; have := s_14.out; have := sb_15.out; omega))
  have g_15 := rdRows3.mono g_14 (hTN0.frame (fun k hk h => by have := s_b.out; have := s_1.out; have := s_2.out; have := s_3.out; have := s_4.out; have := s_5.out; have := s_6.out; have := sxB.out; have := s_7.out; have := s_8.out; have := s_9.out; have := s_10.out; have := s_11.out; have := s_12.out; have := s_13.out; have := sb_14.out; have := s_14.out; have := sb_15.out; omega))
  clear a_14 b_14 r_14 g_14
  have s_15 := Lib.hid hTN0.size
  obtain ⟨q1, hq1⟩ : ∃ q1 : Int, q1 = q0 + (tot2 U0 : Nat) := ⟨_, rfl⟩
  rw [← hq1]
  have hqb1 : 0 ≤ q1 ∧ q1 ≤ 5100000 := by have := szTo_le U0; omega
  clear hq1
  have hqn : ¬ q1 < 0 := by omega
  go_wp2_with fail
  refine Calls.mono (eqInt64SSS_ok _ _ _ _ wN0 _ _ (Rows3D.rows g_15) r_15) ?_
  rintro eI wI ⟨vI, rfl, hgI, rfl⟩
  have a_16 := grown_trans a_15 hgI
  have b_16 := b_15.ext hgI
  have r_16 := Rows3.ext r_15 hgI
  have g_16 := rdRows3.mono g_15 (frame_ext hgI)
  clear a_15 b_15 r_15 g_15
  have s_16 := Lib.hid hgI.size
  have hbt : tot3 (cplL P U0) ≤ 100000000 := cplL_tot P U0
  have Hbt := Lib.hid hbt; clear hbt
  go_wp2_with fail
  refine Calls.mono (markInt64SSS_ok _ (cplL P U0) 1 wI _ g_16 ⟨by omega, by have := Hbt.out; omega⟩) ?_
  rintro eO wO ⟨rfl, hTO, hgO⟩
  clear g_16
  have sb_17 := Lib.hid b_16.1
  have a_17 := Touch.ext a_16 hTO (fun k hk => by have := s_b.out; have := s_1.out; have := s_2.out; have := s_3.out; have := s_4.out; have := s_5.out; have := s_6.out; have := sxB.out; have := s_7.out; have := s_8.out; have := s_9.out; have := s_10.out; have := s_11.out; have := s_12.out; have := s_13.out; have := sb_14.out; have := s_14.out; have := sb_15.out; have := s_15.out; have := s_16.out; have := sb_17.out; omega)
  have b_17 := b_16.keep hTO.size (hTO.block _ b_16.1 (fun h => by have := s_b.out; have := s_1.out; have := s_2.out; have := s_3.out; have := s_4.out; have := s_5.out; have := s_6.out; have := sxB.out; have := s_7.out; have := s_8.out; have := s_9.out; have := s_10.out; have := s_11.out; have := s_12.out; have := s_13.out; have := sb_14.out; have := s_14.out; have := sb_15.out; have := s_15.out; have := s_16.out; have := sb_17.out; omega))
  have r_17 := Rows3.mono r_16 (hTO.frame (fun k hk h => by have := s_b.out; have := s_1.out; have := s_2.out; have := s_3.out; have := s_4.out; have := s_5.out; have := s_6.out; have := sxB.out; have := s_7.out; have := s_8.out; have := s_9.out; have := s_10.out; have := s_11.out; have := s_12.out; have := s_13.out; have := sb_14.out; have := s_14.out; have := sb_15.out; have := s_15.out; have := s_16.out; have := sb_17.out; omega))
  clear a_16 b_16 r_16
  have s_17 := Lib.hid hTO.size
  obtain ⟨tt, htt⟩ : ∃ tt : Int, tt = (tot3 (cplL P U0) : Nat) := ⟨_, rfl⟩
  have htb : 0 ≤ tt ∧ tt ≤ 100000000 := by have := Hbt.out; omega
  rw [← htt]
  have hk1 : ¬ (1 + tt < 0) := by omega
  go_wp2_with fail
  refine Calls.mono (heldInt64SSS_ok _ (cplL P U0) 1 wO _ (Rows3D.rows hgO) ⟨by omega, by have := Hbt.out; omega⟩) ?_
  rintro eQ wQ ⟨vQ, rfl, hgQ, rfl⟩
  rw [← htt]
  have a_18 := grown_trans a_17 hgQ
  have b_18 := b_17.ext hgQ
  have r_18 := Rows3.ext r_17 hgQ
  have g_18 := rdRows3.mono hgO (frame_ext hgQ)
  clear a_17 b_17 r_17 hgO
  have s_18 := Lib.hid hgQ.size
  obtain ⟨_, b0, b1, b2, _⟩ := id b_18
  go_wp2_with fail
  clear b0 b1 b2
  refine Calls.mono (toPresentation_ok _ P wQ S ⟨_, _, _, rfl, h3.ext a_18⟩ hsz) ?_
  rintro eEP wEP ⟨vEP, rfl, hgEP, hpE⟩
  have hqE : PresW (fun k => wQ.heap.size ≤ k ∧ k < wEP.heap.size) wEP vEP P := hpE.mono (fun k hk hlt => ⟨⟨hk, hlt⟩, hlt, rfl⟩)
  obtain ⟨Ea1, Ec1, Ea2, Ec2, Ea3, Ec3, rfl⟩ := hpE.shape
  clear hpE
  have a_19 := grown_trans a_18 hgEP
  have b_19 := b_18.ext hgEP
  have r_19 := Rows3.ext r_18 hgEP
  have g_19 := rdRows3.mono g_18 (frame_ext hgEP)
  clear a_18 b_18 r_18 g_18
  have s_19 := Lib.hid hgEP.size
  go_wp2_with fail
  refine Calls.mono (toInt64SS_ok _ U0 wEP S0 (Rows2.ext hu0 a_19) hsu0) ?_
  rintro eE0 wE0 ⟨vE0, rfl, hgE0, hO⟩
  have hyE0 : RowsD (fun k => wEP.heap.size ≤ k ∧ k < wE0.heap.size) wE0 vE0 U0 := rdRows.mono (SlO.toD hO (by omega)) (fun k h1 h2 => ⟨⟨h1, h2⟩, h2, rfl⟩)
  clear hO
  obtain ⟨yEa0, yEc0, hvy, _, _⟩ := SlD.shape hyE0; subst hvy
  have a_20 := grown_trans a_19 hgE0
  have b_20 := b_19.ext hgE0
  have r_20 := Rows3.ext r_19 hgE0
  have g_20 := rdRows3.mono g_19 (frame_ext hgE0)
  have pE_20 := hqE.ext hgE0
  clear a_19 b_19 r_19 g_19 hqE
  have s_20 := Lib.hid hgE0.size
  go_wp2_with fail
  refine Calls.mono (iCpl_ok P wE0 _ _ U0 _ _ (PresW.v pE_20) (RowsD.rows hyE0)) ?_
  rintro eK wK ⟨vK, rfl, hgK, rKa, rKn, rKc, rfl, hK⟩
  clear pE_20
  clear hyE0
  have a_21 := grown_trans a_20 hgK
  have b_21 := b_20.ext hgK
  have r_21 := Rows3.ext r_20 hgK
  have g_21 := rdRows3.mono g_20 (frame_ext hgK)
  clear a_20 b_20 r_20 g_20
  have s_21 := Lib.hid hgK.size
  have hKD := Rows3D.rows (SlO.toD hK (by have := cplL_len P U0; omega))
  clear hK
  go_wp2_with fail
  refine Calls.mono (eqInt64SSS_ok _ _ _ _ wK _ _ hKD r_21) ?_
  rintro eS wS ⟨vS, rfl, hgS, rfl⟩
  clear hKD
  have a_22 := grown_trans a_21 hgS
  have b_22 := b_21.ext hgS
  have r_22 := Rows3.ext r_21 hgS
  have g_22 := rdRows3.mono g_21 (frame_ext hgS)
  clear a_21 b_21 r_21 g_21
  have s_22 := Lib.hid hgS.size
  go_wp2_with fail
  refine Calls.mono (heldInt64SSS_ok _ (cplL P U0) 1 wS _ (Rows3D.rows g_22) ⟨by omega, by have := Hbt.out; omega⟩) ?_
  rintro eT wT ⟨vT, rfl, hgT, rfl⟩
  rw [← htt]
  have a_23 := grown_trans a_22 hgT
  have b_23 := b_22.ext hgT
  have r_23 := Rows3.ext r_22 hgT
  have g_23 := rdRows3.mono g_22 (frame_ext hgT)
  clear a_22 b_22 r_22 g_22
  have s_23 := Lib.hid hgT.size
  go_wp2
  go_ret
  exact ⟨_, rfl, a_23, rfl⟩

end Go.Proofs.YtdklekdpdbjfiaaGreat

/- The rows' arguments: how a presentation that came in, or a list, reads in this claim's words. -/
namespace Go.Proofs.YtdklekdpdbjfiaaGreat
open Go.RowKit Go.ChangeShapes Go.WideShapes Go.Deep

theorem cells_int64 : Tryz.prog.cellsOf 2 = 1 := by kernel_rfl
theorem cells_ints : Tryz.prog.cellsOf 22 = 1 := by kernel_rfl
theorem cells_rows : Tryz.prog.cellsOf 23 = 1 := by kernel_rfl
theorem und_int64r : Tryz.prog.underlying 2 = some (.int .i64) := by kernel_rfl

section
variable {H : Type} {enc : TypeId × Value → H} {W : World} {sp : Nat → Bool}

/-- a slice that was read is one of this claim's slices -/
theorem open_sl {α : Type} [Inhabited α] {El : World → Value → α → Prop} {t e : TypeId} (ht : Tryz.prog.underlying t = some (.slice e)) (hc : Tryz.prog.cellsOf e = 1)
    (hEl : ∀ n c x, DataW.trod enc Tryz.prog W 0 sp true n e [c] = some x → ∃ y, El W c y) {fuel : Nat} {c : Value} {x : DataW H × List MemPlace} (h : DataW.trod enc Tryz.prog W 0 sp true fuel t [c] = some x) :
    ∃ xs : List α, Sl El Any W c xs := by
  rcases open_slice1 ht hc h with ⟨hcs, _⟩ | ⟨a, len, cap, m, n, V, D, Pl, hcs, _, hl, hm, hmm, _, hx⟩
  · cases hcs
    exact ⟨[], none, 0, rfl, ⟨by simp, by simp, fun _ => rfl⟩, fun i hi => by simp at hi⟩
  · cases hcs
    have hlm : len ≤ m := by rw [hmm]; split <;> omega
    obtain ⟨Z, hZ⟩ := choose_lt (α := α) (n := len) (p := fun i y => El W (V i) y) (fun i hi => hEl n (V i) _ (hx i (by omega)).2)
    refine ⟨(List.range len).map Z, some a, cap, by simp, ⟨by simpa using hl, by simp; unfold maxLen at hm; omega, fun h => by cases h⟩, fun i hi => ?_⟩
    simp only [List.length_map, List.length_range] at hi
    obtain ⟨h1, h2⟩ := hx i (by omega)
    obtain ⟨b, off, spot⟩ := a
    have hs : spot = none := by
      have h0 := (hx 0 (by omega)).1
      exact World.cell?_spot (by simpa [Addr.add] using h0)
    subst hs
    have hcell : W.cell? ⟨b, off + i, none⟩ = some (V i) := by
      have e : (⟨b, off, none⟩ : Addr).add i = ⟨b, off + i, none⟩ := by
        unfold Addr.add; split
        · rename_i h; subst h; rfl
        · rfl
      rw [← e]; exact h1
    refine ⟨b, off, V i, rfl, trivial, World.block_lt_of_cell? W _ hcell, hcell, ?_⟩
    have : gt ((List.range len).map Z) i = Z i := by simp [gt, hi]
    rw [this]; exact hZ i hi

theorem open_i64 {n : Nat} {c : Value} {x : DataW H × List MemPlace} (h : DataW.trod enc Tryz.prog W 0 sp true n 2 [c] = some x) : ∃ y, IntEl W c y := by
  cases n with
  | zero => simp [DataW.trod] at h
  | succ n =>
    unfold DataW.trod at h
    rw [und_int64r] at h
    cases c <;> simp at h
    rename_i k z
    obtain ⟨⟨rfl, _⟩, _⟩ := h
    exact ⟨z, rfl⟩
theorem open_i64s {n : Nat} {c : Value} {x : DataW H × List MemPlace} (h : DataW.trod enc Tryz.prog W 0 sp true n 22 [c] = some x) : ∃ l, Ints Any W c l :=
  open_sl und_ints cells_int64 (fun _ _ _ h => open_i64 h) h
theorem open_rows2 {n : Nat} {c : Value} {x : DataW H × List MemPlace} (h : DataW.trod enc Tryz.prog W 0 sp true n 23 [c] = some x) : ∃ l, Rows2 Any W c l :=
  open_sl (El := fun w u x => Ints Any w u x) und_rows cells_ints (fun _ _ _ h => open_i64s h) h
theorem open_rows3 {n : Nat} {c : Value} {x : DataW H × List MemPlace} (h : DataW.trod enc Tryz.prog W 0 sp true n 24 [c] = some x) : ∃ l, Rows3 Any W c l :=
  open_sl (El := fun w u x => Rows2 Any w u x) und_rows3 cells_rows (fun _ _ _ h => open_rows2 h) h

theorem cells_pres : Tryz.prog.cellsOf 26 = 3 := by kernel_rfl

set_option maxRecDepth 100000 in
/-- a presentation that came in -/
theorem open_pres {base : Nat} {v : Value} {d : DataW H} {p : List MemPlace} (hv : Value.okWide Tryz.prog W .any base 26 v) (h : DataW.Trod enc Tryz.prog W 0 sp true 26 v d p) : ∃ P, PresV Any W v P := by
  obtain ⟨fs, hfs, h3⟩ : ∃ fs, Tryz.prog.underlying 26 = some (.struct fs) ∧ fs.map (fun f => (f.offset, f.type)) = #[(0, 22), (1, 23), (2, 24)] := ⟨_, Tryz.underlying26, by simp⟩
  obtain ⟨cs, rfl, hsz⟩ := okWide_struct hfs hv
  rw [cells_pres] at hsz
  obtain ⟨n, hn⟩ := h
  obtain ⟨xs, m, _, _, hl, hlen, hf⟩ := DataW.trod_struct hfs hn
  obtain ⟨c0, c1, c2, rfl⟩ : ∃ c0 c1 c2, cs = #[c0, c1, c2] := by
    match cs, hsz with
    | ⟨[c0, c1, c2]⟩, _ => exact ⟨c0, c1, c2, rfl⟩
  have hfsz : fs.size = 3 := by have := congrArg Array.size h3; simpa using this
  have hget : ∀ i (hi : i < 3), ∃ f, fs[i]? = some f ∧ (f.offset, f.type) = (#[(0, 22), (1, 23), (2, 24)] : Array (Nat × TypeId))[i]'(by simpa using hi) := fun i hi => by
    have h1 : (fs.map (fun f => (f.offset, f.type)))[i]? = (#[(0, 22), (1, 23), (2, 24)] : Array (Nat × TypeId))[i]? := by rw [h3]
    rw [Array.getElem?_map, Array.getElem?_eq_getElem (by omega), Array.getElem?_eq_getElem (by simpa using hi)] at h1
    exact ⟨_, Array.getElem?_eq_getElem (by omega), by simpa using h1⟩
  obtain ⟨f0, g0, e0⟩ := hget 0 (by omega)
  obtain ⟨f1, g1, e1⟩ := hget 1 (by omega)
  obtain ⟨f2, g2, e2⟩ := hget 2 (by omega)
  simp only [Prod.mk.injEq, List.getElem_toArray, List.getElem_cons_zero, List.getElem_cons_succ] at e0 e1 e2
  have k0 := hf 0 f0 g0
  have k1 := hf 1 f1 g1
  have k2 := hf 2 f2 g2
  rw [e0.1, e0.2, cells_ints, List.getElem?_eq_getElem (by omega)] at k0
  rw [e1.1, e1.2, cells_rows, List.getElem?_eq_getElem (by omega)] at k1
  rw [e2.1, e2.2, show Tryz.prog.cellsOf 24 = 1 by kernel_rfl, List.getElem?_eq_getElem (by omega)] at k2
  obtain ⟨o, ho⟩ := open_i64s k0
  obtain ⟨q, hq⟩ := open_rows2 k1
  obtain ⟨r, hr⟩ := open_rows3 k2
  exact ⟨⟨o, q, r⟩, c0, c1, c2, rfl, ⟨ho, hq, hr⟩⟩
end

end Go.Proofs.YtdklekdpdbjfiaaGreat
