/-
  Exponent vectors, orders.
-/
import Derived.Test.YtdfjgpioaomceaaSmall2
namespace Go.Proofs.Ytdfjgpioaomceaa
open Go.RowKit

def expB (o e : List Int) : Bool := decide (e.length = o.length) && allB e.length (fun i => inB (gt e i) 0 (gt o i - 1))

set_option maxHeartbeats 400000 in
theorem isExponents_ok (w : World) (p v : Value) (P : Pr) (e : List Int) (S S' : Nat → Prop) (hp : PresP S w p P) (hv : Ints S' w v e) (ho : ∀ i, i < P.orders.length → 0 ≤ gt P.orders i ∧ gt P.orders i ≤ 7) :
    Calls Try.prog 71 #[p, v] w fun e1 w' => e1 = .returned (.bool (expB P.orders e)) ∧ w = w' := by
  obtain ⟨pb, po, rfl⟩ := hp.shape
  obtain ⟨a, cap, rfl, _, _⟩ := hv.shape
  obtain ⟨ao, capo, hco, hoi⟩ := hp.ordAt
  have HO := Lib.hid ho; clear ho
  by_cases hl : e.length = P.orders.length
  · have hd : ((e.length : Int) != (P.orders.length : Int)) = false := by simp [hl]
    have hl1 : e.length ≤ P.orders.length ∧ P.orders.length ≤ e.length := by omega
    have HL := Lib.hid hl; clear hl
    go_enter Try.func71, Try.ntmps71
    go_wp2
    go_loop [17] (fun i => ∃ k : Nat, i = .int .i64 k ∧ k ≤ e.length ∧ ∀ i, i < k → inB (gt e i) 0 (gt P.orders i - 1) = true) (fun i => e.length - (intOf i).toNat)
    case atStart => exact ⟨0, rfl, by omega, fun i hi => by omega⟩
    case round =>
      obtain ⟨k, rfl, hk, hz⟩ := hrel
      have HZ := Lib.hid hz; clear hz
      by_cases hlt : k < e.length
      · obtain ⟨b, off, rfl, _, _, hc⟩ := Ints.at hv k hlt
        obtain ⟨b2, off2, rfl, _, _, hc2⟩ := Ints.at hoi k (by omega)
        have ho1 := (HO.out k (by omega)).1
        have ho2 := (HO.out k (by omega)).2
        cases hx : inB (gt e k) 0 (gt P.orders k - 1) with
        | true =>
          go_wp2_with (go_at_call 94; refine (inside_ok _ _ _ _).mono ?_; rintro e1 w1 ⟨rfl, rfl⟩)
          go_round
          case rel => exact ⟨k + 1, by go_num, by omega, fun i hi => by
            rcases Nat.lt_or_ge i k with h1 | h1
            · exact HZ.out i h1
            · have : i = k := by omega
              rw [this, hx]⟩
          case measure => simp [intOf]; omega
        | false =>
          go_wp2_with (go_at_call 94; refine (inside_ok _ _ _ _).mono ?_; rintro e1 w1 ⟨rfl, rfl⟩)
          go_ret
          exact ⟨ret_b (by rw [expB, allB_false hlt hx, Bool.and_false]), rfl⟩
      · go_wp2
        go_ret
        exact ⟨ret_b (by rw [expB, allB_true.2 (fun i hi => HZ.out i (by omega)), Bool.and_true, decide_eq_true HL.out]), rfl⟩
  · have hd : ((e.length : Int) != (P.orders.length : Int)) = true := by simp; omega
    have HL := Lib.hid hl; clear hl
    go_enter Try.func71, Try.ntmps71
    go_wp2
    go_ret
    exact ⟨ret_b (by rw [expB, decide_eq_false HL.out, Bool.false_and]), rfl⟩

/-- some draws -/
def Dr (w w' : World) : Prop := ∃ n, w' = w.drewN n
theorem Dr.refl (w : World) : Dr w w := ⟨0, rfl⟩
theorem Dr.step {w w' : World} (h : Dr w w') (n : Nat) : Dr w (w'.drewN n) := by
  obtain ⟨m, rfl⟩ := h; exact ⟨m + n, by rw [World.drewN_drewN]⟩
theorem Dr.trans {a b c : World} (h : Dr a b) (k : Dr b c) : Dr a c := by
  obtain ⟨n, rfl⟩ := k; exact h.step n
theorem Dr.ext {w w' : World} (h : Dr w w') : Ext w w' := by
  obtain ⟨n, rfl⟩ := h; exact grown_drewN _ _ _

/-- a read-only call: it may draw -/
def Rd (w : World) (v : Value) (e : Ending) (w' : World) : Prop := e = .returned v ∧ Dr w w'

theorem Rd.ret {w : World} {v : Value} {e : Ending} {w' : World} {φ : World → Value → Prop} (h : Rd w v e w') (hv : ∀ w', Dr w w' → φ w' v) : Ret w φ e w' := by
  obtain ⟨rfl, hd⟩ := h; exact ⟨_, rfl, hd.ext, hv _ hd⟩

theorem rd_b {w w' : World} {a b : Bool} (hd : Dr w w') (h : b = a) : Rd w (.bool a) (.returned (.bool b)) w' := ⟨by rw [h], hd⟩
theorem rd_i {w w' : World} {a b : Int} (hd : Dr w w') (h : b = a) : Rd w (.int .i64 a) (.returned (.int .i64 b)) w' := ⟨by rw [h], hd⟩

/-- a read-only call inside a region that draws -/
theorem quiet_rd {f : FuncId} {args : Array Value} {w : World} {n : Nat} {v : Value} (h : Calls Try.prog f args (w.drewN n) (Rd (w.drewN n) v)) :
    Calls Try.prog f args (w.drewN n) fun e w'' => e = .returned v ∧ ∃ m, w'' = w.drewN m :=
  Calls.quiet_of (h.mono fun _ _ h => h)
theorem quiet_eq {f : FuncId} {args : Array Value} {w : World} {n : Nat} {v : Value} (h : Calls Try.prog f args (w.drewN n) fun e w' => e = .returned v ∧ w.drewN n = w') :
    Calls Try.prog f args (w.drewN n) fun e w'' => e = .returned v ∧ ∃ m, w'' = w.drewN m :=
  Calls.quiet_of_same (h.mono fun _ _ h => ⟨h.1, h.2.symm⟩)

def expZB (o e : List Int) (z : Int) : Bool := decide (e.length = o.length) && allB e.length (fun i => inB (gt e i) 0 (gt o i - 1) && !(decide ((i : Int) ≤ z) && (gt e i != 0)))

set_option maxHeartbeats 1000000 in
theorem l07Exponents_ok (w : World) (vo v : Value) (o e : List Int) (z : Int) (S S' : Nat → Prop) (hoi : Ints S w vo o) (hv : Ints S' w v e) (ho : ∀ i, i < o.length → 0 ≤ gt o i ∧ gt o i ≤ 7) :
    Calls Try.prog 54 #[vo, v, .int .i64 z] w (Rd w (.bool (expZB o e z))) := by
  obtain ⟨ao, capo, rfl, _, _⟩ := hoi.shape
  obtain ⟨a, cap, rfl, _, _⟩ := hv.shape
  have HO := Lib.hid ho; clear ho
  by_cases hl : e.length = o.length
  · have hd : ((e.length : Int) != (o.length : Int)) = false := by simp [hl]
    have hl1 : e.length ≤ o.length ∧ o.length ≤ e.length := by omega
    have HL := Lib.hid hl; clear hl
    go_enter Try.func54, Try.ntmps54
    go_wp2
    go_loopw [7] (fun i wr => ∃ k : Nat, i = .int .i64 k ∧ k ≤ e.length ∧ Dr w wr ∧ ∀ i, i < k → (inB (gt e i) 0 (gt o i - 1) && !(decide ((i : Int) ≤ z) && (gt e i != 0))) = true) (fun i _ => e.length - (intOf i).toNat)
    case atStart => exact ⟨0, rfl, by omega, Dr.refl _, fun i hi => by omega⟩
    case round =>
      obtain ⟨k, rfl, hk, hdr, hz⟩ := hrel
      have HZ := Lib.hid hz; clear hz
      by_cases hlt : k < e.length
      · obtain ⟨b, off, rfl, _, _, hc⟩ := Ints.at (hv.ext hdr.ext) k hlt
        obtain ⟨b2, off2, rfl, _, _, hc2⟩ := Ints.at (hoi.ext hdr.ext) k (by omega)
        have ho1 := (HO.out k (by omega)).1
        have ho2 := (HO.out k (by omega)).2
        have hk1 : (k : Int) < e.length := by omega
        have hk2 : (k : Int) < o.length := by omega
        clear hl1
        cases hx : inB (gt e k) 0 (gt o k - 1) with
        | true =>
          by_cases hkz : (k : Int) ≤ z
          · have hdz : decide ((k : Int) ≤ z) = true := by simpa using hkz
            by_cases h0 : gt e k = 0
            · have hb : (gt e k != 0) = false := by simp [h0]
              have H0 := Lib.hid h0; clear h0
              have hs1 : IntKind.i64.wrap (gt o k - 1) = gt o k - 1 := IntWalk.i64_in _ (by omega)
              go_wp2
              go_quiet ((go_at_call 67; exact quiet_eq (l01In_ok _ _ _ _)))
              clear hs1
              go_wp2
              go_roundw
              case rel => exact ⟨k + 1, by go_num, by omega, hdr.step _, fun i hi => by
                rcases Nat.lt_or_ge i k with h1 | h1
                · exact HZ.out i h1
                · have : i = k := by omega
                  rw [this, hx, H0.out]; simp⟩
              case measure => simp [intOf]; omega
            · have hb : (gt e k != 0) = true := by simp [h0]
              have H0 := Lib.hid h0; clear h0
              have hs1 : IntKind.i64.wrap (gt o k - 1) = gt o k - 1 := IntWalk.i64_in _ (by omega)
              go_wp2
              go_quiet ((go_at_call 67; exact quiet_eq (l01In_ok _ _ _ _)))
              clear hs1
              go_wp2
              go_ret
              exact rd_b (hdr.step _) (by rw [expZB, allB_false hlt (by rw [hx, hdz, hb]; rfl), Bool.and_false])
          · have hdz : decide ((k : Int) ≤ z) = false := by simpa using hkz
            have HK := Lib.hid hkz; clear hkz
            have hs1 : IntKind.i64.wrap (gt o k - 1) = gt o k - 1 := IntWalk.i64_in _ (by omega)
            go_wp2
            go_quiet ((go_at_call 67; exact quiet_eq (l01In_ok _ _ _ _)))
            clear hs1
            go_wp2
            go_roundw
            case rel => exact ⟨k + 1, by go_num, by omega, hdr.step _, fun i hi => by
              rcases Nat.lt_or_ge i k with h1 | h1
              · exact HZ.out i h1
              · have : i = k := by omega
                rw [this, hx, hdz]; simp⟩
            case measure => simp [intOf]; omega
        | false =>
          have hs1 : IntKind.i64.wrap (gt o k - 1) = gt o k - 1 := IntWalk.i64_in _ (by omega)
          go_wp2
          go_quiet ((go_at_call 67; exact quiet_eq (l01In_ok _ _ _ _)))
          clear hs1
          go_wp2
          go_ret
          exact rd_b (hdr.step _) (by rw [expZB, allB_false hlt (by rw [hx]; rfl), Bool.and_false])
      · go_wp2
        go_ret
        exact rd_b hdr (by rw [expZB, allB_true.2 (fun i hi => HZ.out i (by omega)), Bool.and_true, decide_eq_true HL.out])
  · have hd : ((e.length : Int) != (o.length : Int)) = true := by simp; omega
    have HL := Lib.hid hl; clear hl
    go_enter Try.func54, Try.ntmps54
    go_wp2
    go_ret
    exact rd_b (Dr.refl _) (by rw [expZB, decide_eq_false HL.out, Bool.false_and])

end Go.Proofs.Ytdfjgpioaomceaa
