/-
  Words: impl.abs, normalWord, invertWord, slices.Reverse; spec.l07Word, l06Invert.
-/
import Derived.Test.YtchbegeklckgnaaGreatSHomLaw
import Derived.Test.YtchbegeklckgnaaGreatK4
namespace Go.Proofs.YtchbegeklckgnaaGreat
open Go.RowKit

/-- the world where one integer is laid by a literal, and the list that it makes -/
theorem ints_lit (w : World) (y : Int) : Ints Any (w.alloc (.cells #[.int .i64 y] 2)) (.slice (some ⟨w.heap.size, 0, none⟩) 1 1) [y] := by
  refine ⟨some ⟨w.heap.size, 0, none⟩, 1, rfl, ⟨by simp, by simp, fun h => by cases h⟩, fun i hi => ⟨w.heap.size, 0, .int .i64 y, rfl, trivial, by simp, ?_, ?_⟩⟩
  · have : i = 0 := by simpa using hi
    subst this
    rw [World.cell?_alloc_at _ _ _ _ rfl]; rfl
  · have : i = 0 := by simpa using hi
    subst this; rfl

theorem abs_ok (a : Int) (w : World) (ha : -1000000 ≤ a ∧ a ≤ 1000000) : Calls Tryz.prog 188 #[.int .i64 a] w fun e w' => e = .returned (.int .i64 (if a < 0 then -a else a)) ∧ w = w' := by
  have e1 : IntKind.i64.wrap (-a) = -a := IntWalk.i64_in _ (by omega)
  go_enter Tryz.func188, Tryz.ntmps188
  obtain ⟨b, hb⟩ : ∃ b, b = (if a < 0 then -a else a) := ⟨_, rfl⟩
  rw [← hb]
  by_cases h0 : a < 0
  · rw [if_pos h0] at hb
    have h1 : ¬ -a ≤ a := by omega
    have hmx : max a (-a) = -a := Int.max_eq_right (by omega)
    have HB := Lib.hid hb; clear hb
    go_wp2
    go_ret
    exact ⟨by rw [HB.out]; first | rfl | (show Ending.returned (.int .i64 (max a (-a))) = _; rw [hmx]), rfl⟩
  · rw [if_neg h0] at hb
    have h1 : -a ≤ a := by omega
    have hmx : max a (-a) = a := Int.max_eq_left (by omega)
    have HB := Lib.hid hb; clear hb
    go_wp2
    go_ret
    exact ⟨by rw [HB.out]; first | rfl | (show Ending.returned (.int .i64 (max a (-a))) = _; rw [hmx]), rfl⟩

set_option maxHeartbeats 1000000 in
theorem normalWord_ok (w : World) (v : Value) (e : List Int) (S : Nat → Prop) (hv : Ints S w v e) (hn : e.length ≤ 6) (he : ∀ i, i < e.length → 0 ≤ gt e i ∧ gt e i ≤ 7) :
    Calls Tryz.prog 148 #[v] w (Ret w fun w' r => Own w.heap.size w' r (nWord e e.length)) := by
  obtain ⟨a, cap, rfl, _, _⟩ := hv.shape
  have hb : ∀ i, gt e i ≤ 7 := fun i => by
    by_cases h : i < e.length
    · exact (he i h).2
    · rw [gt_big (by omega)]; decide
  have HB := Lib.hid (And.intro hb he); clear hb he
  go_enter Tryz.func148, Tryz.ntmps148
  go_wp2
  go_loopw [3, 8] (fun ov iv wr => ∃ (i : Nat) (v3 : Value), v3 = ov ∧ iv = .int .i64 i ∧ i ≤ e.length ∧ Ext w wr ∧ Own w.heap.size wr v3 (nWord e i)) (fun _ iv _ => e.length - (intOf iv).toNat)
  case atStart => exact ⟨0, _, rfl, rfl, by omega, Ext.refl _, World.ownsRow_nil _ _ _ _⟩
  case round =>
    obtain ⟨i, v3, rfl, rfl, hi, hg, hO⟩ := hrel
    by_cases hlt : i < e.length
    · have hlt' : (i : Int) < e.length := by omega
      obtain ⟨b, off, rfl, _, _, hc⟩ := Ints.at (hv.ext hg) i hlt
      obtain ⟨x, hx⟩ : ∃ x, x = (gt e i).toNat := ⟨_, rfl⟩
      have hx0 := HB.out.2 i hlt
      have hxe : gt e i = (x : Int) := by omega
      have hx7 : x ≤ 7 := by omega
      have hnw : nWord e (i + 1) = nWord e i ++ List.replicate x ((i : Int) + 1) := by rw [nWord, hx]
      have hwl := nWord_len HB.out.1 i
      rw [hxe] at hc
      have HX := Lib.hid (And.intro hnw hwl); clear hnw hwl hx0 hxe hx
      go_wp2
      clear hc
      have hO0 : Own w.heap.size wr v3 (nWord e i ++ List.replicate 0 ((i : Int) + 1)) := by simpa using hO
      clear hO
      obtain ⟨wo, hwo⟩ : ∃ wo : World, wo = wr := ⟨_, rfl⟩
      clear hwo
      go_loopw [3, 14] (fun ov kv wr => ∃ (k : Nat) (v4 : Value), v4 = ov ∧ kv = .int .i64 k ∧ k ≤ x ∧ Ext w wr ∧ Own w.heap.size wr v4 (nWord e i ++ List.replicate k ((i : Int) + 1))) (fun _ kv _ => x - (intOf kv).toNat)
      case atStart => exact ⟨0, _, rfl, rfl, by omega, hg, hO0⟩
      case round =>
        clear hO0 hg
        obtain ⟨k, v4, rfl, rfl, hk, hg, hO⟩ := hrel
        by_cases hltk : k < x
        · have hltk' : (k : Int) < x := by omega
          have hlen : (nWord e i ++ List.replicate k ((i : Int) + 1)).length ≤ 1000 := by rw [List.length_append, List.length_replicate]; have := HX.out.2; omega
          have HL := Lib.hid hlen; clear hlen
          go_wp2_with (first | (at_builtin; refine wp_app_ints rfl _ _ rfl w.heap.size v4 _ rfl (hO.ext0 (World.grownBy_alloc _ _ _)) _ _ rfl Any (ints_lit wr _) (by have := HL.out; simp only [List.length_cons, List.length_nil]; omega) (by have := hg.size; simp; omega) ?_; intro v5 w5 hO5 hg5 _) | fail)
          have hg5' : wr.grownBy w5 v4.ownBlock := grown_trans (grown_of_ext _ (World.grownBy_alloc _ _ _)) hg5
          have hge : Ext w w5 := grown_own hg hg5' (fun b hb hlt => by have := (hO.lt b hb).1; omega)
          rw [List.append_assoc, ← List.replicate_succ'] at hO5
          clear hO hg5 hg5'
          go_roundw
          case rel => exact ⟨k + 1, v5, rfl, by go_num, by omega, hge, hO5⟩
          case measure => simp [intOf]; omega
        · have hke : k = x := by omega
          subst hke
          rw [← HX.out.1] at hO
          go_wp2
          go_roundw
          case rel => exact ⟨i + 1, v4, rfl, by go_num, by omega, hg, hO⟩
          case measure => simp [intOf]; omega
    · have hie : i = e.length := by omega
      subst hie
      go_wp2
      go_ret
      exact ⟨_, rfl, hg, hO⟩

end Go.Proofs.YtchbegeklckgnaaGreat
