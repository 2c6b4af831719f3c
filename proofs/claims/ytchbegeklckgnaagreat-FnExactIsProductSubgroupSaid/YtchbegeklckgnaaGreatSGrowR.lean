/-
  slices.Grow at rows, laid from the shelf.
-/
import Derived.Test.YtchbegeklckgnaaGreatK7
import Derived.Shelf.Spec.SlicesGrow
namespace Go.Proofs.YtchbegeklckgnaaGreat
open Go.Proofs Go.Shelf Go.RowKit Go.Lib
def Tryz.growRows_ren : Go.Shelf.Ren := ⟨fun | 4 => 127 | n => n, fun | 22 => 23 | 25 => 22 | 3 => 3 | 4 => 4 | 9 => 9 | 20 => 20 | 0 => 0 | n => n, fun | n => n⟩
theorem Tryz.growRows : Go.Proofs.Lays8.n4 Tryz.prog Tryz.growRows_ren := {
  mixed := by kernel_rfl
  f4 := ⟨Tryz.f127.name, by decide, Tryz.func127.trans (congrArg some (by kernel_rfl))⟩
  t0 := Tryz.underlying0
  a0 := Tryz.isAgg0
  z0 := Tryz.sizeOf0
  v0 := Tryz.zeroValue0
  t3 := Tryz.underlying3
  a3 := Tryz.isAgg3
  z3 := Tryz.sizeOf3
  v3 := Tryz.zeroValue3
  t4 := Tryz.underlying4
  a4 := Tryz.isAgg4
  z4 := Tryz.sizeOf4
  v4 := Tryz.zeroValue4
  t9 := Tryz.underlying9
  a9 := Tryz.isAgg9
  z9 := Tryz.sizeOf9
  v9 := Tryz.zeroValue9
  t20 := Tryz.underlying20
  a20 := Tryz.isAgg20
  z20 := Tryz.sizeOf20
  v20 := Tryz.zeroValue20
  t22 := Tryz.underlying23
  a22 := Tryz.isAgg23
  z22 := Tryz.sizeOf23
  v22 := Tryz.zeroValue23 }

theorem growRows_ok (n : Nat) (hn : n ≤ 1000000) (w : World) : Calls Tryz.prog 127 #[.slice none 0 0, .int .i64 n] w (Ret w fun w' v => OwnV w.heap.size 22 w' v []) := by
  rcases Nat.eq_zero_or_pos n with rfl | h0
  · have h := Any8.slices_Grow_room Tryz.growRows none 0 0 0 w (by omega) (by omega) (by omega) (by omega)
    change Calls Tryz.prog 127 _ _ _ at h
    refine h.mono ?_
    rintro e w' ⟨rfl, rfl⟩
    exact ⟨_, rfl, Ext.refl _, World.ownsRow_nil _ _ _ _⟩
  · obtain ⟨i0, hi, hz0, hz1, hz2⟩ := info_parts Tryz.infoRow
    have hmax : 0 + n ≤ maxLen := by unfold maxLen; omega
    have h := Any8.slices_Grow_grow Tryz.growRows i0 (.slice none 0 0) hi hz0 (by rw [hz1]; decide) none 0 0 n [] w (by omega) (by omega) (by rw [hz2]; omega) (by omega) (by simp) (fun _ => rfl) (fun a ha => by cases ha)
    change Calls Tryz.prog 127 _ _ _ at h
    refine h.mono ?_
    rintro e w' ⟨rfl, rfl⟩
    have hge := grownCap_ge w (0 + n) 0 22
    have hle := grownCap_le_maxLen w (0 + n) 0 22 hmax
    refine ⟨_, rfl, grown_trans (grown_drew w none) (World.grownBy_alloc _ _ _), rfl, .inr ⟨w.heap.size, _, _, rfl, Nat.le_refl _, Array.getElem?_push_size (xs := w.heap), Nat.zero_le _, hle, ?_, by simp⟩⟩
    simp only [Array.size_append, size_zeroCells, List.size_toArray, List.length_nil]
    have e1 : (Value.cells (.slice none 0 0)).size = 1 := rfl
    have hge2 : 0 + n ≤ grownCap w (0 + n) 0 22 := hge
    rw [e1]
    show 0 + (0 + n - 0) * 1 + (grownCap w (0 + n) 0 22 - (0 + n)) * 1 = grownCap w (0 + n) 0 22 * 1
    omega

end Go.Proofs.YtchbegeklckgnaaGreat
