/-
  Finding an element: slices.BinarySearchFunc with slices.Compare, slices.IndexFunc, impl.classNumber.
-/
import Derived.Test.YtdfjgpioaomceaaCmp
namespace Go.Proofs.Ytdfjgpioaomceaa
open Go.RowKit

/-- the binary search of the library: the first place in [lo, hi) whose row is not less than X -/
def bsTo (C : List (List Int)) (X : List Int) : Nat → Nat → Nat → Nat
  | 0, lo, _ => lo
  | f + 1, lo, hi => if lo < hi then (if cmpL (gt C ((lo + hi) / 2)) X < 0 then bsTo C X f ((lo + hi) / 2 + 1) hi else bsTo C X f lo ((lo + hi) / 2)) else lo
def bs (C : List (List Int)) (X : List Int) : Nat := bsTo C X (C.length + 1) 0 C.length
def bsFound (C : List (List Int)) (X : List Int) : Bool := decide (bs C X < C.length) && decide (cmpL (gt C (bs C X)) X = 0)

set_option maxHeartbeats 4000000 in
theorem binSearch_ok (c x : Value) (C : List (List Int)) (X : List Int) (w : World) (Sc Sx : Nat → Prop) (hc : Rows2 Sc w c C) (hx : Ints Sx w x X) (hlen : C.length ≤ 1048576) :
    Calls Try.prog 45 #[c, x, .func (.func 46) #[] #[]] w fun e w' => e = .returned (.tuple #[.int .i64 (bs C X : Nat), .bool (bsFound C X)]) ∧ w' = w := by
  obtain ⟨ac, capc, rfl, _, _⟩ := hc.shape
  go_enter Try.func45, Try.ntmps45
  go_wp2
  go_loopw [9, 10] (fun lv hv wr => ∃ lo hi f : Nat, lv = .int .i64 lo ∧ hv = .int .i64 hi ∧ lo ≤ hi ∧ hi ≤ C.length ∧ hi < lo + f ∧ wr = w ∧ bs C X = bsTo C X f lo hi) (fun lv hv _ => (intOf hv - intOf lv).toNat)
  case atStart => exact ⟨0, C.length, C.length + 1, rfl, rfl, by omega, by omega, by omega, rfl, rfl⟩
  case round =>
    obtain ⟨lo, hi, f, rfl, rfl, hlh, hhi, hf, rfl, hbs⟩ := hrel
    have HB := Lib.hid hbs; clear hbs
    by_cases hlt : lo < hi
    · have hlt' : (lo : Int) < hi := by omega
      obtain ⟨f, rfl⟩ : ∃ f', f = f' + 1 := ⟨f - 1, by omega⟩
      have hbs := HB.out
      simp only [bsTo, if_pos hlt] at hbs
      have HB2 := Lib.hid hbs; clear hbs HB
      obtain ⟨mid, hmid⟩ : ∃ mid, (lo + hi) / 2 = mid := ⟨_, rfl⟩
      have hm1 : lo ≤ mid ∧ mid < hi := by omega
      obtain ⟨bc, oc, ac2, capc2, rfl, _, _, hcc, hci⟩ := Rows2.at hc mid (by omega)
      have hcon := sCompare_ok _ x (gt C mid) X wr _ _ hci hx
      go_wp2_with fail
      refine Calls.mono hcon ?_
      rintro e1 w1 ⟨rfl, rfl⟩
      clear hcon
      rw [hmid] at HB2
      by_cases hneg : cmpL (gt C mid) X < 0
      · have hbs := HB2.out
        rw [if_pos hneg] at hbs
        have HB3 := Lib.hid hbs; clear hbs HB2 hcc
        go_wp2
        go_roundw
        case rel => exact ⟨mid + 1, hi, f, by go_num, rfl, by omega, by omega, by omega, trivial, HB3.out⟩
        case measure => simp [intOf]; omega
      · have hbs := HB2.out
        rw [if_neg hneg] at hbs
        have HB3 := Lib.hid hbs; clear hbs HB2 hcc
        go_wp2
        go_roundw
        case rel => exact ⟨lo, mid, f, rfl, congrArg (Value.int .i64) (by omega), by omega, by omega, by omega, trivial, HB3.out⟩
        case measure => simp [intOf]; omega
    · have hle : hi ≤ lo := by omega
      have hbs := HB.out
      have hbl : bs C X = lo := by
        rw [hbs]; cases f with
        | zero => rfl
        | succ f => simp only [bsTo, if_neg hlt]
      have HBL := Lib.hid hbl; clear hbl hbs HB
      have hbf : bsFound C X = (decide (lo < C.length) && decide (cmpL (gt C lo) X = 0)) := by unfold bsFound; rw [HBL.out]
      have HBF := Lib.hid hbf; clear hbf
      by_cases hin : lo < C.length
      · obtain ⟨bc, oc, ac2, capc2, rfl, _, _, hcc, hci⟩ := Rows2.at hc lo hin
        have hcon := sCompare_ok _ x (gt C lo) X wr _ _ hci hx
        go_wp2_with fail
        refine Calls.mono hcon ?_
        rintro e1 w1 ⟨rfl, rfl⟩
        clear hcon
        go_wp2
        exact bodyPost_ret (v := .tuple #[.int .i64 lo, .bool (cmpL (gt C lo) X == 0)]) (by simp [results, Try.results45, go_sem]) rfl ⟨by rw [HBL.out, HBF.out]; simp [hin]; rfl, rfl⟩
      · have hin' : C.length ≤ lo := by omega
        go_wp2
        exact bodyPost_ret (v := .tuple #[.int .i64 lo, .bool false]) (by simp [results, Try.results45, go_sem]) rfl ⟨by rw [HBL.out, HBF.out]; simp [hin], rfl⟩

set_option maxHeartbeats 4000000 in
theorem numClosure_ok (c x : Value) (pb : Nat) (C : List (List Int)) (X : List Int) (w : World) (Sc Sx : Nat → Prop) (hc : Rows2 Sc w c C) (hx : Ints Sx w x X) (hlen : C.length ≤ 1048576) (hp : w.cell? ⟨pb, 0, none⟩ = some x) :
    Calls Try.prog 44 #[c, .pointer (some ⟨pb, 0, none⟩)] w fun e w' => e = .returned (.bool (bsFound C X)) ∧ w' = w := by
  obtain ⟨ac, capc, rfl, _, _⟩ := hc.shape
  obtain ⟨ax, capx, rfl, _, _⟩ := hx.shape
  go_enter Try.func44, Try.ntmps44
  go_wp2_with fail
  refine Calls.mono (binSearch_ok _ _ C X w _ _ hc hx hlen) ?_
  rintro e1 w1 ⟨rfl, rfl⟩
  go_wp2
  exact bodyPost_ret (v := .bool (bsFound C X)) (by simp [results, Try.results44, go_sem]) rfl ⟨rfl, rfl⟩

/-- r is the first index below n at which p holds, or -1 -/
def FirstAt (p : Nat → Bool) (n : Nat) (r : Int) : Prop := (∃ k : Nat, r = k ∧ k < n ∧ p k = true ∧ ∀ j, j < k → p j = false) ∨ (r = -1 ∧ ∀ j, j < n → p j = false)

set_option maxHeartbeats 4000000 in
theorem indexFunc_ok (cc x : Value) (pb : Nat) (CC : List (List (List Int))) (X : List Int) (w : World) (Sc Sx : Nat → Prop) (hc : Rows3 Sc w cc CC) (hx : Ints Sx w x X) (hlen : ∀ i, i < CC.length → (gt CC i).length ≤ 1048576) (hp : w.cell? ⟨pb, 0, none⟩ = some x) :
    Calls Try.prog 43 #[cc, .func (.func 44) #[] #[.pointer (some ⟨pb, 0, none⟩)]] w fun e w' => (∃ r : Int, e = .returned (.int .i64 r) ∧ FirstAt (fun i => bsFound (gt CC i) X) CC.length r) ∧ w' = w := by
  obtain ⟨ac, capc, rfl, _, _⟩ := Sl.shape hc
  go_enter Try.func43, Try.ntmps43
  go_wp2
  go_loopw [8] (fun v wr => ∃ k : Nat, v = .int .i64 k ∧ k ≤ CC.length ∧ wr = w ∧ ∀ j, j < k → bsFound (gt CC j) X = false) (fun v _ => CC.length - (intOf v).toNat)
  case atStart => exact ⟨0, rfl, by omega, rfl, fun j h => by omega⟩
  case round =>
    obtain ⟨k, rfl, hk, rfl, hno⟩ := hrel
    have HN := Lib.hid hno; clear hno
    by_cases hlt : k < CC.length
    · have hlt' : (k : Int) < CC.length := by omega
      obtain ⟨bc, oc, ac2, capc2, rfl, _, _, hcc, hci⟩ := Rows3.at hc k hlt
      have hl := hlen k hlt
      have hcon := numClosure_ok _ x pb (gt CC k) X wr _ _ hci hx hl hp
      clear hp
      go_wp2_with fail
      refine Calls.mono hcon ?_
      rintro e1 w1 ⟨rfl, rfl⟩
      clear hcon
      cases hb : bsFound (gt CC k) X with
      | true =>
        have HB := Lib.hid hb; clear hb
        go_wp2
        exact bodyPost_ret (v := .int .i64 k) (by simp [results, Try.results43, go_sem]) rfl ⟨⟨_, rfl, .inl ⟨k, rfl, hlt, HB.out, HN.out⟩⟩, rfl⟩
      | false =>
        have HB := Lib.hid hb; clear hb hcc
        go_wp2
        go_roundw
        case rel => exact ⟨k + 1, by go_num, by omega, trivial, fun j hj => by
          rcases Nat.lt_or_ge j k with h | h
          · exact HN.out j h
          · have : j = k := by omega
            rw [this]; exact HB.out⟩
        case measure => simp [intOf]; omega
    · have hke : k = CC.length := by omega
      subst hke
      go_wp2
      exact bodyPost_ret (v := .int .i64 (-1)) (by simp [results, Try.results43, go_sem]) rfl ⟨⟨_, rfl, .inr ⟨rfl, HN.out⟩⟩, rfl⟩

set_option maxHeartbeats 4000000 in
theorem classNumber_ok (cc x : Value) (CC : List (List (List Int))) (X : List Int) (w : World) (Sc Sx : Nat → Prop) (hc : Rows3 Sc w cc CC) (hx : Ints Sx w x X) (hlen : ∀ i, i < CC.length → (gt CC i).length ≤ 1048576) :
    Calls Try.prog 33 #[cc, x] w (Ret w fun _ v => ∃ r : Int, v = .int .i64 r ∧ FirstAt (fun i => bsFound (gt CC i) X) CC.length r) := by
  obtain ⟨ac, capc, rfl, _, _⟩ := Sl.shape hc
  obtain ⟨ax, capx, rfl, _, _⟩ := hx.shape
  go_enter Try.func33, Try.ntmps33
  go_wp2_with fail
  have hg0 : Ext w (w.alloc (.cells #[.slice ax X.length capx] 22)) := World.grownBy_alloc _ _ _
  refine Calls.mono (indexFunc_ok _ _ w.heap.size CC X _ _ _ (Rows3.ext hc hg0) (Ints.ext hx hg0) hlen (by rw [World.cell?_alloc_at _ _ _ _ rfl]; rfl)) ?_
  rintro e1 w1 ⟨⟨r, rfl, hr⟩, rfl⟩
  go_wp2
  exact bodyPost_ret (v := .int .i64 r) (by simp [results, Try.results33, go_sem]) rfl ⟨_, rfl, hg0, r, rfl, hr⟩

end Go.Proofs.Ytdfjgpioaomceaa
