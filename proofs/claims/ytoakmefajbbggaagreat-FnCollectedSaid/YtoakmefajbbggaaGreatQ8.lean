/-
  Texts: spec.l07Text.
  Drawing: spec.CyclicPresentation.
  Drawing: spec.ParsePresentation, l07Table.
  Drawing: spec.l07Table.
  Drawing: spec.l07Meta.
  Drawing: spec.l07Heisenberg.
-/
import Derived.Test.YtoakmefajbbggaaGreatQ1
import Derived.Test.YtoakmefajbbggaaGreatQ2
import Derived.Test.YtoakmefajbbggaaGreatQ5
import Derived.Test.YtoakmefajbbggaaGreatQ6
import Derived.Test.YtoakmefajbbggaaGreatQ7
import Derived.Deep.RegionHeld3
namespace Go.Proofs.YtoakmefajbbggaaGreat
open Go.RowKit
attribute [local go_sem ↓] Go.wp_at_zero Go.wp_at_succ

theorem Own.ints' {B : Nat} {w : World} {v : Value} {l : List Int} (h : Own B w v l) (hl : l.length ≤ 1000000) : Ints Any w v l := ints_of_own h (by omega) (fun _ _ => trivial)

theorem strOfNums_app (a b : List Int) : strOfNums (a ++ b) = strOfNums a ++ strOfNums b := by
  apply ByteArray.ext
  simp [strOfNums, ByteArray.data_append]

def ordT (o : List Int) : Nat → List Int
  | 0 => []
  | k + 1 => ordT o k ++ ((if 0 < k then [32] else []) ++ [48 + gt o k])
def powE (P : Pr) (k : Nat) : List Int := [59, 32] ++ ([97 + (k : Int)] ++ ([94] ++ ([48 + gt P.orders k] ++ ([61] ++ wtx (nWord (gt P.powers k) P.orders.length)))))
def powT (P : Pr) : Nat → List Int
  | 0 => []
  | k + 1 => powT P k ++ (if isZeroB (gt P.powers k) then [] else powE P k)
def cnjE (P : Pr) (i k : Nat) : List Int := [59, 32] ++ ([97 + ((i + 1 + k : Nat) : Int)] ++ ([94] ++ ([97 + (i : Int)] ++ ([61] ++ wtx (nWord (gt (gt P.conj i) k) P.orders.length)))))
def cnjR (P : Pr) (i : Nat) : Nat → List Int
  | 0 => []
  | k + 1 => cnjR P i k ++ (if eqB (gt (gt P.conj i) k) (unitV P.orders.length (i + 1 + k)) then [] else cnjE P i k)
def cnjT (P : Pr) : Nat → List Int
  | 0 => []
  | i + 1 => cnjT P i ++ cnjR P i (P.orders.length - 1 - i)
def textP (P : Pr) : List Int := if P.orders.length = 0 then [49] else ordT P.orders P.orders.length ++ (powT P P.orders.length ++ cnjT P P.orders.length)

theorem nWord_mem {e : List Int} {n : Nat} {x : Int} (h : x ∈ nWord e n) : 1 ≤ x ∧ x ≤ n := by
  induction n with
  | zero => simp [nWord] at h
  | succ n ih =>
    rcases List.mem_append.1 h with h | h
    · have := ih h; omega
    · have := List.eq_of_mem_replicate h; omega

theorem ordT_len (o : List Int) : ∀ k, (ordT o k).length ≤ 2 * k
  | 0 => by simp [ordT]
  | k + 1 => by
    have := ordT_len o k
    simp only [ordT, List.length_append, List.length_singleton]
    split <;> simp <;> omega

section
variable {P : Pr} (hP : Valid P)
include hP
theorem vec7 {e : List Int} (he : Vec P.orders e) : ∀ i, gt e i ≤ 7 := fun i => by
  by_cases h : i < P.orders.length
  · have := he.2 i h; have := hP.ord7 i h; omega
  · rw [show gt e i = 0 by simp [gt, show e.length ≤ i by rw [he.1]; omega]]; omega
theorem wtx_bd {e : List Int} (he : Vec P.orders e) : (wtx (nWord e P.orders.length)).length ≤ 43 := by
  have hn := hP.n6
  refine wtx_len _ 42 (Nat.le_trans (nWord_len (fun i => ?_) _) (by omega))
  by_cases h : i < P.orders.length
  · have := he.2 i h; have := hP.ord7 i h; omega
  · rw [show gt e i = 0 by simp [gt, show e.length ≤ i by rw [he.1]; omega]]; omega
theorem powT_len : ∀ k, k ≤ P.orders.length → (powT P k).length ≤ 50 * k
  | 0, _ => by simp [powT]
  | k + 1, h => by
    have h1 := powT_len k (by omega)
    have h2 := wtx_bd hP (hP.pv k (by omega)).1
    simp only [powT, List.length_append]
    split
    · simp; omega
    · simp only [powE, List.length_append, List.length_cons, List.length_nil]; omega
theorem cnjR_len {i : Nat} (hi : i < P.orders.length) : ∀ k, k ≤ P.orders.length - 1 - i → (cnjR P i k).length ≤ 50 * k
  | 0, _ => by simp [cnjR]
  | k + 1, h => by
    have h1 := cnjR_len hi k (by omega)
    have h2 := wtx_bd hP ((hP.cv i hi).2 k (by omega)).1
    simp only [cnjR, List.length_append]
    split
    · simp; omega
    · simp only [cnjE, List.length_append, List.length_cons, List.length_nil]; omega
theorem cnjT_len : ∀ i, i ≤ P.orders.length → (cnjT P i).length ≤ 300 * i
  | 0, _ => by simp [cnjT]
  | i + 1, h => by
    have h1 := cnjT_len i (by omega)
    have h2 := cnjR_len hP (show i < P.orders.length by omega) (P.orders.length - 1 - i) (Nat.le_refl _)
    have := hP.n6
    simp only [cnjT, List.length_append]; omega
end

set_option maxRecDepth 100000 in
set_option maxHeartbeats 8000000 in
theorem l07Text_ok (P : Pr) (hP : Valid P) (w : World) (pv : Value) (S : Nat → Prop) (hpv : PresV S w pv P) :
    Calls Tryz.prog 273 #[pv] w (Ret w fun _ r => r = .string (strOfNums (textP P))) := by
  have hn6 := hP.n6
  obtain ⟨vo, vp, vc, rfl, h3⟩ := hpv
  have hp0 := PresP.box h3 28
  have hg0 : Ext w (w.alloc (.cells #[vo, vp, vc] 28)) := World.grownBy_alloc _ _ _
  obtain ⟨vo6, vp6, vc6, _, _, hc0, hc1, hc2, h36⟩ := hp0.at
  simp only [Nat.zero_add] at hc1 hc2
  obtain ⟨ao, co, rfl, _, _⟩ := h36.o.shape
  obtain ⟨ap, cp, hvp, _, _⟩ := Sl.shape h36.p
  obtain ⟨ac, cc, hvc, _, _⟩ := Sl.shape h36.c
  rw [hP.pl] at hvp
  rw [hP.cl] at hvc
  subst hvp hvc
  by_cases hn : P.orders.length = 0
  · have ht : textP P = [49] := by unfold textP; rw [if_pos hn]
    have hni : ((P.orders.length : Int) == 0) = true := by rw [hn]; rfl
    have HT := Lib.hid ht; clear ht
    go_enter Tryz.func273, Tryz.ntmps273
    go_wp2
    go_ret
    exact ⟨_, rfl, hg0, by rw [HT.out]; rfl⟩
  have ht : textP P = ordT P.orders P.orders.length ++ (powT P P.orders.length ++ cnjT P P.orders.length) := by unfold textP; rw [if_neg hn]
  have hni : ((P.orders.length : Int) == 0) = false := by simp; intro h; exact hn (by rw [h]; rfl)
  have HT := Lib.hid (And.intro ht hn); clear ht hn
  go_enter Tryz.func273, Tryz.ntmps273
  go_wp2
  generalize w.alloc (.cells #[vo, vp, vc] 28) = w0 at *
  have hb0 : ∀ w', Ext w0 w' → w'.cell? ⟨w.heap.size, 0, none⟩ = some (.slice ao P.orders.length co) := fun w' h => h.cell hc0 (by simp)
  have hb1 : ∀ w', Ext w0 w' → w'.cell? ⟨w.heap.size, 1, none⟩ = some (.slice ap P.orders.length cp) := fun w' h => h.cell hc1 (by simp)
  have hb2 : ∀ w', Ext w0 w' → w'.cell? ⟨w.heap.size, 2, none⟩ = some (.slice ac P.orders.length cc) := fun w' h => h.cell hc2 (by simp)
  have HB := Lib.hid (And.intro hb0 (And.intro hb1 hb2)); clear hb0 hb1 hb2 hc0 hc1 hc2
  go_loopw [4, 5] (fun ov iv wr => ∃ (i : Nat), ov = .string (strOfNums (ordT P.orders i)) ∧ iv = .int .i64 i ∧ i ≤ P.orders.length ∧ Ext w0 wr) (fun _ iv _ => P.orders.length - (intOf iv).toNat)
  case atStart => exact ⟨0, rfl, rfl, by omega, Ext.refl _⟩
  case round =>
    obtain ⟨i, rfl, rfl, hi, hg⟩ := hrel
    have hol := ordT_len P.orders i
    by_cases hlt : i < P.orders.length
    · have hlt' : (i : Int) < P.orders.length := by omega
      obtain ⟨bo, oo, rfl, _, _, hco⟩ := Ints.at (Ints.ext h36.o hg) i hlt
      have h7 := hP.ord7 i hlt
      have hb0 := HB.out.1 wr hg
      obtain ⟨y, hy⟩ : ∃ y, y = gt P.orders i := ⟨_, rfl⟩
      have hst : ordT P.orders (i + 1) = ordT P.orders i ++ ((if 0 < i then [32] else []) ++ [48 + y]) := by rw [hy]; rfl
      rw [← hy] at hco h7
      obtain ⟨l, hl⟩ : ∃ l, l = ordT P.orders i := ⟨_, rfl⟩
      rw [← hl] at hst hol
      have hl2 : l.length ≤ 1000 := by omega
      have HS := Lib.hid (And.intro hst (And.intro hl hy)); clear hst hy hl hol
      rw [show strOfNums (ordT P.orders i) = strOfNums l by rw [HS.out.2.1]]
      have hsz := strOfNums_size l
      rcases hb : decide (0 < i) with _ | _
      · have hsn : strOfNums (ordT P.orders (i + 1)) = strOfNums l ++ strOfNums [48 + y] := by
          have : ¬ 0 < i := by simpa using hb
          rw [HS.out.1, if_neg this, List.nil_append, strOfNums_app]
        have HN := Lib.hid hsn; clear hsn
        go_wp2_with fail
        refine Calls.mono (l01Dec_ok wr y (by omega) (by omega)) ?_
        rintro e1 w1 ⟨v1, rfl, hg1, rfl⟩
        have hs1 := strOfNums_size [48 + y]
        clear hco
        go_wp2_with fail
        go_roundw
        case rel => exact ⟨i + 1, by rw [HN.out], by go_num, by omega, grown_trans hg hg1⟩
        case measure => simp [intOf]; omega
      · have hsn : strOfNums (ordT P.orders (i + 1)) = strOfNums l ++ ⟨#[32]⟩ ++ strOfNums [48 + y] := by
          have : 0 < i := by simpa using hb
          rw [HS.out.1, if_pos this, strOfNums_app, strOfNums_app, ByteArray.append_assoc]; rfl
        have HN := Lib.hid hsn; clear hsn
        go_wp2_with fail
        refine Calls.mono (l01Dec_ok wr y (by omega) (by omega)) ?_
        rintro e1 w1 ⟨v1, rfl, hg1, rfl⟩
        have hs1 := strOfNums_size [48 + y]
        clear hco
        go_wp2_with fail
        go_roundw
        case rel => exact ⟨i + 1, by rw [HN.out], by go_num, by omega, grown_trans hg hg1⟩
        case measure => simp [intOf]; omega
    · have hie : i = P.orders.length := by omega
      subst hie
      go_wp2
      clear hlt hol
      have hgx := hg
      clear hg
      go_loopw [4, 6] (fun ov iv wr => ∃ (i : Nat), ov = .string (strOfNums (ordT P.orders P.orders.length ++ powT P i)) ∧ iv = .int .i64 i ∧ i ≤ P.orders.length ∧ Ext w0 wr) (fun _ iv _ => P.orders.length - (intOf iv).toNat)
      case atStart => exact ⟨0, by rw [show powT P 0 = [] from rfl, List.append_nil], rfl, by omega, hgx⟩
      case round =>
        clear hgx
        obtain ⟨i, rfl, rfl, hi, hg⟩ := hrel
        have hol := ordT_len P.orders P.orders.length
        have hpl := powT_len hP i hi
        by_cases hlt : i < P.orders.length
        · have hlt' : (i : Int) < P.orders.length := by omega
          obtain ⟨bp, op, ae, ce, rfl, _, _, hcp, hre⟩ := Rows2.at (Rows2.ext h36.p hg) i (by rw [hP.pl]; exact hlt)
          have hb1 := HB.out.2.1 wr hg
          have hpv := (hP.pv i hlt).1
          obtain ⟨e, he⟩ : ∃ e, e = gt P.powers i := ⟨_, rfl⟩
          rw [← he] at hcp hre hpv
          have hel := hpv.1
          obtain ⟨l, hl⟩ : ∃ l, l = ordT P.orders P.orders.length ++ powT P i := ⟨_, rfl⟩
          have hl2 : l.length ≤ 1000 := by rw [hl, List.length_append]; omega
          rw [← hl]
          rcases hz : isZeroB e with _ | _
          · have hst : ordT P.orders P.orders.length ++ powT P (i + 1) = l ++ powE P i := by
              rw [hl, List.append_assoc, powT, ← he, hz]; rfl
            obtain ⟨bo, oo, rfl, _, _, hco⟩ := Ints.at (Ints.ext h36.o hg) i hlt
            have h7 := hP.ord7 i hlt
            have hwb := wtx_bd hP hpv
            have hee : powE P i = [59, 32] ++ ([97 + (i : Int)] ++ ([94] ++ ([48 + gt P.orders i] ++ ([61] ++ wtx (nWord e P.orders.length))))) := by rw [he]; rfl
            obtain ⟨y, hy⟩ : ∃ y, y = gt P.orders i := ⟨_, rfl⟩
            rw [← hy] at hco h7 hee
            obtain ⟨W, hW⟩ : ∃ W, W = nWord e P.orders.length := ⟨_, rfl⟩
            have hwl : W.length ≤ 42 := by rw [hW]; exact Nat.le_trans (nWord_len (vec7 hP hpv) _) (by omega)
            have hwm : ∀ x ∈ W, -26 ≤ x ∧ x ≤ 26 := by rw [hW]; exact fun x hx => by have := nWord_mem hx; omega
            rw [← hW] at hee hwb
            have hsn : strOfNums (ordT P.orders P.orders.length ++ powT P (i + 1)) = strOfNums l ++ ⟨#[59, 32]⟩ ++ strOfNums [97 + (i : Int)] ++ ⟨#[94]⟩ ++ strOfNums [48 + y] ++ ⟨#[61]⟩ ++ strOfNums (wtx W) := by
              rw [hst, hee]
              simp only [strOfNums_app, ByteArray.append_assoc]; rfl
            have hwo : ∀ j, j < e.length → 0 ≤ gt e j ∧ gt e j ≤ 7 := fun j hj => by have := hpv.2 j (by omega); have := hP.ord7 j (by omega); omega
            have HS := Lib.hid (And.intro hsn (And.intro hwl (And.intro hwm (And.intro hwo (And.intro hel hW))))); clear hst hpv he hl hel hol hpl hee hy hW hwl hwm hsn hwo
            have hcz := l01Zero_ok _ e wr _ hre
            rw [hz] at hcz
            clear hz
            go_wp2_with fail
            refine Calls.mono hcz ?_
            rintro _ _ ⟨rfl, rfl⟩
            clear hcz
            have hcp0 := hcp
            clear hcp
            have e0 : ∀ w', Ext wr w' → w'.cell? ⟨w.heap.size, 0, none⟩ = some (.slice (some ⟨bo, oo, none⟩) P.orders.length co) := fun w' h => HB.out.1 w' (grown_trans hg h)
            have e1 : ∀ w', Ext wr w' → w'.cell? ⟨w.heap.size, 1, none⟩ = some (.slice (some ⟨bp, op, none⟩) P.orders.length cp) := fun w' h => HB.out.2.1 w' (grown_trans hg h)
            have e2 : ∀ w', Ext wr w' → w'.cell? ⟨bo, oo + i, none⟩ = some (.int .i64 y) := fun w' h => h.cell hco (by simp)
            have e3 : ∀ w', Ext wr w' → w'.cell? ⟨bp, op + i, none⟩ = some (.slice ae e.length ce) := fun w' h => h.cell hcp0 (by simp)
            have z0 := strOfNums_size l
            have z1 := strOfNums_size [97 + (i : Int)]
            have z2 := strOfNums_size [48 + y]
            have z3 := strOfNums_size (wtx W)
            have q1 : ¬ 9223372036854775807 < l.length + 2 := by omega
            have q2 : ¬ 9223372036854775807 < l.length + 2 + 1 := by omega
            have q3 : ¬ 9223372036854775807 < l.length + 2 + 1 + 1 := by omega
            have q4 : ¬ 9223372036854775807 < l.length + 2 + 1 + 1 + 1 := by omega
            have q5 : ¬ 9223372036854775807 < l.length + 2 + 1 + 1 + 1 + 1 := by omega
            have q6 : ¬ 9223372036854775807 < l.length + 2 + 1 + 1 + 1 + 1 + (wtx W).length := by omega
            clear hco hcp0
            go_wp2_with fail
            go_region_held3 (fun w' => Ext wr w') (first | exact grown_drew _ _ | assumption)
              (first
                | (go_at_call 295; refine Calls.mono (Calls.rel (w0 := wr) (by assumption) (l06Text_ok _ _ W Any hWI HS.out.2.2.1 (by have := HS.out.2.1; omega))) ?_; rintro eD wD ⟨vD, rfl, hgD, hsD, rfl⟩)
                | (go_at_call 69; refine Calls.mono (Calls.rel (w0 := wr) (by assumption) (l07Word_ok _ _ e Any (Ints.sub (Ints.ext hre (by assumption)) (fun _ _ _ => trivial)) (by have := HS.out.2.2.2.2.1; omega) HS.out.2.2.2.1)) ?_; rintro eC wC ⟨vC, rfl, hgC, hsC, hOC⟩; rw [HS.out.2.2.2.2.1, ← HS.out.2.2.2.2.2] at hOC; have hWI : Ints Any wC vC W := hOC.ints' (by have := HS.out.2.1; omega))
                | (go_at_call 293; refine Calls.mono (Calls.rel (w0 := wr) (by assumption) (l01Dec_ok _ y (by omega) (by omega))) ?_; rintro eB wB ⟨vB, rfl, hgB, hsB, rfl⟩)
                | (go_at_call 294; refine Calls.mono (Calls.rel (w0 := wr) (by first | exact grown_drew _ _ | assumption) (l07Letter_ok _ i (by omega))) ?_; rintro eA wA ⟨vA, rfl, hgA, hsA, rfl⟩))
            clear e0 e1 e2 e3 z0 z1 z2 z3 q1 q2 q3 q4 q5 q6
            go_wp2
            go_roundw
            case rel => exact ⟨i + 1, by rw [HS.out.1], by go_num, by omega, grown_trans hg hgD⟩
            case measure => simp [intOf]; omega
          · have hst : ordT P.orders P.orders.length ++ powT P (i + 1) = l := by
              rw [hl, powT, ← he, hz]; simp
            have HS := Lib.hid (And.intro hst (And.intro hpv (And.intro he hl))); clear hst hpv he hl hel hol hpl
            have hcz := l01Zero_ok _ e wr _ hre
            rw [hz] at hcz
            clear hz
            go_wp2_with fail
            refine Calls.mono hcz ?_
            rintro _ _ ⟨rfl, rfl⟩
            clear hcz hcp
            go_wp2_with fail
            go_roundw
            case rel => exact ⟨i + 1, by rw [HS.out.1], by go_num, by omega, hg⟩
            case measure => simp [intOf]; omega
        · have hie : i = P.orders.length := by omega
          subst hie
          go_wp2
          clear hlt hol hpl
          have hgx := hg
          clear hg
          obtain ⟨l0, hl0⟩ : ∃ l0, l0 = ordT P.orders P.orders.length ++ powT P P.orders.length := ⟨_, rfl⟩
          have hl0l : l0.length ≤ 400 := by
            have h1 := ordT_len P.orders P.orders.length
            have h2 := powT_len hP P.orders.length (Nat.le_refl _)
            rw [hl0, List.length_append]; omega
          rw [← hl0]
          have HL0 := Lib.hid hl0; clear hl0
          go_loopw [4, 7] (fun ov iv wr => ∃ (i : Nat), ov = .string (strOfNums (l0 ++ cnjT P i)) ∧ iv = .int .i64 i ∧ i ≤ P.orders.length ∧ Ext w0 wr) (fun _ iv _ => P.orders.length - (intOf iv).toNat)
          case atStart => exact ⟨0, by rw [show cnjT P 0 = [] from rfl, List.append_nil], rfl, by omega, hgx⟩
          case round =>
            clear hgx
            obtain ⟨i, rfl, rfl, hi, hg⟩ := hrel
            by_cases hlt : i < P.orders.length
            · have hlt' : (i : Int) < P.orders.length := by omega
              obtain ⟨wo, rfl⟩ : ∃ wo : World, wo = wr := ⟨_, rfl⟩
              have hcl := cnjT_len hP i hi
              obtain ⟨l1, hl1⟩ : ∃ l1, l1 = l0 ++ cnjT P i := ⟨_, rfl⟩
              have hl1l : l1.length ≤ 2200 := by rw [hl1, List.length_append]; omega
              rw [← hl1]
              have HL1 := Lib.hid hl1; clear hl1 hcl
              go_wp2
              go_loopw [4, 8] (fun ov jv wr => ∃ (k j : Nat), ov = .string (strOfNums (l1 ++ cnjR P i k)) ∧ jv = .int .i64 j ∧ Hid (j = i + 1 + k ∧ k ≤ P.orders.length - 1 - i) ∧ j ≤ P.orders.length ∧ Ext w0 wr) (fun _ jv _ => P.orders.length - (intOf jv).toNat)
              case atStart => exact ⟨0, i + 1, by rw [show cnjR P i 0 = [] from rfl, List.append_nil], by go_num, Lib.hid ⟨rfl, by omega⟩, by omega, hg⟩
              case round =>
                have hgo := hg
                clear hg
                obtain ⟨k, j, rfl, rfl, HJ, hj, hg⟩ := hrel
                by_cases hltj : j < P.orders.length
                · have hltj' : (j : Int) < P.orders.length := by omega
                  have hk : k < P.orders.length - 1 - i := by have := HJ.out; omega
                  obtain ⟨bc, oc, ar, cr, rfl, _, _, hcc, hrr⟩ := Rows3.at (Rows3.ext h36.c hg) i (by rw [hP.cl]; exact hlt)
                  have hrl := (hP.cv i hlt).1
                  have hcv := (hP.cv i hlt).2 k hk
                  rw [hrl] at hcc
                  obtain ⟨be, oe, ae, ce, rfl, _, _, hce, hre⟩ := Rows2.at hrr k (by rw [hrl]; exact hk)
                  obtain ⟨e, he⟩ : ∃ e, e = gt (gt P.conj i) k := ⟨_, rfl⟩
                  rw [← he] at hce hre hcv
                  have hel := hcv.1.1
                  have hwb := wtx_bd hP hcv.1
                  have hRl := cnjR_len hP hlt k (by omega)
                  have hjk := HJ.out.1
                  obtain ⟨l, hl⟩ : ∃ l, l = l1 ++ cnjR P i k := ⟨_, rfl⟩
                  have hl2 : l.length ≤ 3000 := by rw [hl, List.length_append]; omega
                  rw [← hl]
                  obtain ⟨m, hm⟩ : ∃ m, m = P.orders.length - 1 - i := ⟨_, rfl⟩
                  rw [← hm] at hcc hk
                  have hki : (k : Int) < m := by omega
                  have hs1 : IntKind.i64.wrap ((j : Int) - (i : Int)) = (k : Int) + 1 := by rw [show (j : Int) - (i : Int) = (k : Int) + 1 by omega]; exact IntWalk.i64_in _ (by omega)
                  have hs2 : IntKind.i64.wrap (k : Int) = (k : Int) := IntWalk.i64_in _ (by omega)
                  have e0 : ∀ w', Ext wr w' → w'.cell? ⟨w.heap.size, 2, none⟩ = some (.slice (some ⟨bc, oc, none⟩) P.orders.length cc) := fun w' h => HB.out.2.2 w' (grown_trans hg h)
                  have e1 : ∀ w', Ext wr w' → w'.cell? ⟨bc, oc + i, none⟩ = some (.slice (some ⟨be, oe, none⟩) m cr) := fun w' h => h.cell hcc (by simp)
                  have e2 : ∀ w', Ext wr w' → w'.cell? ⟨be, oe + k, none⟩ = some (.slice ae e.length ce) := fun w' h => h.cell hce (by simp)
                  have HS := Lib.hid (And.intro hel (And.intro hcv (And.intro he (And.intro hl (And.intro hm (And.intro hwb (And.intro hjk hrl))))))); clear hel hcv he hl hm hwb hRl hjk hrl hcc hce
                  have HE := Lib.hid (And.intro e0 (And.intro e1 e2))
                  go_wp2
                  go_region_held3 (fun w' => Ext wr w') (first | exact grown_drew _ _ | assumption)
                    (first
                      | (go_at_call 275; refine Calls.mono (Calls.rel (w0 := wr) (by assumption) (l01Same_ok _ _ e (unitV P.orders.length j) _ Any Any (Ints.sub (Ints.ext hre (by assumption)) (fun _ _ _ => trivial)) hUI)) ?_; rintro eB wB ⟨vB, rfl, hgB, hsB, rfl⟩)
                      | (go_at_call 167; refine Calls.mono (Calls.rel (w0 := wr) (by first | exact grown_drew _ _ | assumption) (l07Unit_ok P.orders.length j _ hltj (by omega))) ?_; rintro eA wA ⟨vA, rfl, hgA, hsA, hOA⟩; have hUI : Ints Any wA vA (unitV P.orders.length j) := hOA.ints' (by rw [unitV_len]; omega)))
                  clear e0 e1 e2 hs1 hs2
                  rcases hq : eqB e (unitV P.orders.length j) with _ | _
                  · have hee : cnjE P i k = [59, 32] ++ ([97 + (j : Int)] ++ ([94] ++ ([97 + (i : Int)] ++ ([61] ++ wtx (nWord e P.orders.length))))) := by
                      unfold cnjE; rw [← HS.out.2.2.1, ← HS.out.2.2.2.2.2.2.1]
                    obtain ⟨W, hW⟩ : ∃ W, W = nWord e P.orders.length := ⟨_, rfl⟩
                    rw [← hW] at hee
                    have hwl : W.length ≤ 42 := by rw [hW]; exact Nat.le_trans (nWord_len (vec7 hP HS.out.2.1.1) _) (by omega)
                    have hwm : ∀ x ∈ W, -26 ≤ x ∧ x ≤ 26 := by rw [hW]; exact fun x hx => by have := nWord_mem hx; omega
                    have hwb : (wtx W).length ≤ 43 := by rw [hW]; exact HS.out.2.2.2.2.2.1
                    have hsn : strOfNums (l1 ++ cnjR P i (k + 1)) = strOfNums l ++ ⟨#[59, 32]⟩ ++ strOfNums [97 + (j : Int)] ++ ⟨#[94]⟩ ++ strOfNums [97 + (i : Int)] ++ ⟨#[61]⟩ ++ strOfNums (wtx W) := by
                      have h1 : cnjR P i (k + 1) = cnjR P i k ++ cnjE P i k := by rw [cnjR, ← HS.out.2.2.1, ← HS.out.2.2.2.2.2.2.1, hq]; rfl
                      rw [h1, ← List.append_assoc, ← HS.out.2.2.2.1, hee]
                      simp only [strOfNums_app, ByteArray.append_assoc]; rfl
                    have hwo : ∀ j, j < e.length → 0 ≤ gt e j ∧ gt e j ≤ 7 := fun j hj => by have := HS.out.2.1.1.2 j (by have := HS.out.1; omega); have := hP.ord7 j (by have := HS.out.1; omega); omega
                    have HW := Lib.hid (And.intro hsn (And.intro hwl (And.intro hwm (And.intro hwo hW)))); clear hee hW hwl hwm hsn hwo
                    have hs1 : IntKind.i64.wrap ((j : Int) - (i : Int)) = (k : Int) + 1 := by have := HS.out.2.2.2.2.2.2.1; rw [show (j : Int) - (i : Int) = (k : Int) + 1 by omega]; exact IntWalk.i64_in _ (by omega)
                    have hs2 : IntKind.i64.wrap (k : Int) = (k : Int) := IntWalk.i64_in _ (by have := HS.out.2.2.2.2.1; omega)
                    have z0 := strOfNums_size l
                    have z1 := strOfNums_size [97 + (i : Int)]
                    have z2 := strOfNums_size [97 + (j : Int)]
                    have z3 := strOfNums_size (wtx W)
                    have q1 : ¬ 9223372036854775807 < l.length + 2 := by omega
                    have q2 : ¬ 9223372036854775807 < l.length + 2 + 1 := by omega
                    have q3 : ¬ 9223372036854775807 < l.length + 2 + 1 + 1 := by omega
                    have q4 : ¬ 9223372036854775807 < l.length + 2 + 1 + 1 + 1 := by omega
                    have q5 : ¬ 9223372036854775807 < l.length + 2 + 1 + 1 + 1 + 1 := by omega
                    have q6 : ¬ 9223372036854775807 < l.length + 2 + 1 + 1 + 1 + 1 + (wtx W).length := by omega
                    go_wp2_with fail
                    have e0 := HE.out.1
                    have e1 := HE.out.2.1
                    have e2 := HE.out.2.2
                    go_region_held3 (fun w' => Ext wr w') (first | exact grown_trans hgB (grown_drew _ _) | assumption)
                      (first
                        | (go_at_call 295; refine Calls.mono (Calls.rel (w0 := wr) (by assumption) (l06Text_ok _ _ W Any hWI HW.out.2.2.1 (by have := HW.out.2.1; omega))) ?_; rintro eD wD ⟨vD, rfl, hgD, hsD, rfl⟩)
                        | (go_at_call 69; refine Calls.mono (Calls.rel (w0 := wr) (by assumption) (l07Word_ok _ _ e Any (Ints.sub (Ints.ext hre (by assumption)) (fun _ _ _ => trivial)) (by have := HS.out.1; omega) HW.out.2.2.2.1)) ?_; rintro eC wC ⟨vC, rfl, hgC, hsC, hOC⟩; rw [HS.out.1, ← HW.out.2.2.2.2] at hOC; have hWI : Ints Any wC vC W := hOC.ints' (by have := HW.out.2.1; omega))
                        | (go_at_call 294; refine Calls.mono (Calls.rel (w0 := wr) (by first | exact grown_trans hgB (grown_drew _ _) | assumption) (l07Letter_ok _ j (by omega))) ?_; rintro eL wL ⟨vL, rfl, hgL, hsL, rfl⟩)
                        | (go_at_call 294; refine Calls.mono (Calls.rel (w0 := wr) (by first | exact grown_trans hgB (grown_drew _ _) | assumption) (l07Letter_ok _ i (by omega))) ?_; rintro eM wM ⟨vM, rfl, hgM, hsM, rfl⟩))
                    clear e0 e1 e2 z0 z1 z2 z3 q1 q2 q3 q4 q5 q6 hs1 hs2
                    go_wp2
                    go_roundw
                    case rel => exact ⟨k + 1, j + 1, by rw [HW.out.1], by go_num, Lib.hid ⟨by have := HS.out.2.2.2.2.2.2.1; omega, by have := HS.out.2.2.2.2.1; omega⟩, by omega, grown_trans hg hgD⟩
                    case measure => simp [intOf]; omega
                  · have hsn : strOfNums (l1 ++ cnjR P i (k + 1)) = strOfNums l := by
                      rw [cnjR, ← HS.out.2.2.1, ← HS.out.2.2.2.2.2.2.1, hq, ← List.append_assoc, ← HS.out.2.2.2.1]; simp
                    have HN := Lib.hid hsn; clear hsn
                    go_wp2_with fail
                    go_roundw
                    case rel => exact ⟨k + 1, j + 1, by rw [HN.out], by go_num, Lib.hid ⟨by have := HS.out.2.2.2.2.2.2.1; omega, by have := HS.out.2.2.2.2.1; omega⟩, by omega, grown_trans hg hgB⟩
                    case measure => simp [intOf]; omega
                · have hfin : strOfNums (l1 ++ cnjR P i k) = strOfNums (l0 ++ cnjT P (i + 1)) := by
                    have := HJ.out
                    rw [HL1.out, cnjT, show k = P.orders.length - 1 - i by omega, List.append_assoc]
                  have HF := Lib.hid hfin; clear hfin
                  have hltj' : ¬ ((j : Int) < P.orders.length) := by omega
                  go_wp2
                  go_roundw
                  case rel => exact ⟨i + 1, by rw [HF.out], by go_num, by omega, hg⟩
                  case measure => simp [intOf]; omega
            · have hie : i = P.orders.length := by omega
              subst hie
              have hfin : strOfNums (l0 ++ cnjT P P.orders.length) = strOfNums (textP P) := by rw [HT.out.1, HL0.out, List.append_assoc]
              have HF := Lib.hid hfin; clear hfin
              go_wp2
              go_ret
              exact ⟨_, rfl, grown_trans hg0 hg, by rw [← HF.out]; rfl⟩

end Go.Proofs.YtoakmefajbbggaaGreat
namespace Go.Proofs.YtoakmefajbbggaaGreat
open Go.RowKit
attribute [local go_sem ↓] Go.wp_at_zero Go.wp_at_succ

/-- the empty presentation -/
theorem presN_nil (N B : Nat) (w : World) : PresN N B w (.agg #[.slice none 0 0, .slice none 0 0, .slice none 0 0]) :=
  ⟨⟨[], [], []⟩, ⟨Nat.zero_le _, rfl, rfl, fun i h => absurd h (by simp), by simp, by simp⟩, _, _, _, rfl, fun _ => False, fun _ => False, fun _ => False,
    ⟨World.ownsRow_nil _ _ _ _, by simp [Value.ownBlock], by simp⟩,
    ⟨[], fun _ _ => False, rfl, by simp, World.ownsRow_nil _ _ _ _, by simp [Value.ownBlock], by simp, by simp, by simp⟩, ⟨[], fun _ _ => False, rfl, by simp, World.ownsRow_nil _ _ _ _, by simp [Value.ownBlock], by simp, by simp, by simp⟩,
    fun _ h => h.elim, fun _ h => h.elim, fun _ h => h.elim⟩

/-- a presentation and a code -/
def PresC (N B : Nat) (w' : World) (v : Value) : Prop := ∃ (vo vp vc : Value) (c : Int), v = .tuple #[.agg #[vo, vp, vc], .int .i64 c] ∧ PresN N B w' (.agg #[vo, vp, vc])

set_option maxRecDepth 100000 in
set_option maxHeartbeats 4000000 in
theorem CyclicPresentation_ok (w : World) (n : Nat) (hn : 1 ≤ n ∧ n ≤ 729) :
    Calls Tryz.prog 262 #[.int .i64 n] w (Ret w (PresC 9 w.heap.size)) := by
  have hz0 : ∀ w', Ext (w.alloc (.cells #[.slice none 0 0, .slice none 0 0, .slice none 0 0] 28)) w' → Box3 w' w.heap.size (.slice none 0 0) (.slice none 0 0) (.slice none 0 0) := fun w' h => (Box3.made w 28 _ _ _).ext h
  have hg0 : Ext w (w.alloc (.cells #[.slice none 0 0, .slice none 0 0, .slice none 0 0] 28)) := World.grownBy_alloc _ _ _
  have hs0 : (w.alloc (.cells #[.slice none 0 0, .slice none 0 0, .slice none 0 0] 28)).heap.size = w.heap.size + 1 := by simp
  have hin : inB n 1 729 = true := by simp [inB]; omega
  have HN := Lib.hid (And.intro hn (And.intro hz0 (And.intro hg0 hs0))); clear hn hz0 hs0
  go_enter Tryz.func262, Tryz.ntmps262
  go_wp2_with fail
  generalize w.alloc (.cells #[.slice none 0 0, .slice none 0 0, .slice none 0 0] 28) = w0 at *
  refine Calls.mono (l01In_ok n 1 729 w0) ?_
  rintro _ _ ⟨rfl, rfl⟩
  rw [hin]
  clear hin
  go_wp2_with fail
  refine Calls.mono (l07Factors_ok w0 n HN.out.1) ?_
  rintro e1 w1 ⟨v1, rfl, hg1, a1, c1, l, r, rfl, hO1, hl9, hlx⟩
  have HL := Lib.hid (And.intro hO1 (And.intro hlx hl9)); clear hO1 hlx
  have hz1 := HN.out.2.1 w1 hg1
  obtain ⟨k0, k1, k2, k3, k4⟩ := id hz1
  cases r
  · go_wp2_with fail
    have hZ := hz1.all (.slice none 0 0) (.slice none 0 0) (.slice none 0 0)
    have hT := grown_set3 w1 w.heap.size (.slice none 0 0) (.slice none 0 0) (.slice none 0 0)
    obtain ⟨_, z0, z1, z2, _⟩ := id hZ
    have HT := Lib.hid hT; clear hT hZ
    go_wp2
    refine bodyPost_ret (v := .tuple #[.agg #[.slice none 0 0, .slice none 0 0, .slice none 0 0], .int .i64 2]) (by simp [results, Tryz.results262, go_sem, z0, z1, z2]) rfl ?_
    exact ⟨_, rfl, grown_own (grown_trans hg0 hg1) HT.out (fun j hj hlt => by cases hj; omega), _, _, _, _, rfl, presN_nil 9 _ _⟩
  by_cases h6 : 6 < l.length
  · go_wp2_with fail
    have hZ := hz1.all (.slice none 0 0) (.slice none 0 0) (.slice none 0 0)
    have hT := grown_set3 w1 w.heap.size (.slice none 0 0) (.slice none 0 0) (.slice none 0 0)
    obtain ⟨_, z0, z1, z2, _⟩ := id hZ
    have HT := Lib.hid hT; clear hT hZ
    go_wp2
    refine bodyPost_ret (v := .tuple #[.agg #[.slice none 0 0, .slice none 0 0, .slice none 0 0], .int .i64 3]) (by simp [results, Tryz.results262, go_sem, z0, z1, z2]) rfl ?_
    exact ⟨_, rfl, grown_own (grown_trans hg0 hg1) HT.out (fun j hj hlt => by cases hj; omega), _, _, _, _, rfl, presN_nil 9 _ _⟩
  clear k0 k1 k2 k3 k4
  go_wp2_with fail
  refine Calls.mono (l07Trivial_ok w1 _ l _ (HL.out.1.ints (by omega)) (by omega)) ?_
  rintro e2 w2 ⟨v2, rfl, hg2, vo, vp, vc, rfl, hX2⟩
  obtain ⟨ao, co, ap, cp, ac, cc, rfl, rfl, rfl⟩ := trivX_shape hX2
  go_wp2_with fail
  have hs2 := hg2.size
  have hs1 := hg1.size
  have hgA : Ext w2 (w2.alloc (.cells #[.slice ao l.length co, .slice ap l.length cp, .slice ac l.length cc] 28)) := World.grownBy_alloc _ _ _
  have hX := BX.start (N := 9) (B := w1.heap.size) (by omega) hX2 hgA (Box3.made w2 28 (.slice ao l.length co) (.slice ap l.length cp) (.slice ac l.length cc)) hs2
  generalize w2.alloc (.cells #[.slice ao l.length co, .slice ap l.length cp, .slice ac l.length cc] 28) = w3 at *
  have hg3 : Ext w1 w3 := grown_trans hg2 hgA
  clear hX2 hg2
  go_loopw [7] (fun iv wr => ∃ i : Nat, iv = .int .i64 i ∧ i ≤ l.length ∧ Ext w1 wr ∧ BX 9 l w1.heap.size w2.heap.size wr (.slice ao l.length co) (.slice ap l.length cp) (.slice ac l.length cc)) (fun iv _ => l.length - (intOf iv).toNat)
  case atStart => exact ⟨0, rfl, by omega, hg3, hX⟩
  case round =>
    clear hX hg3
    obtain ⟨i, rfl, hi, hg, hX⟩ := hrel
    by_cases hlt : i + 1 < l.length
    · have hlt' : (i : Int) + 1 < l.length := by omega
      obtain ⟨g, cap, z, hvg, hgB, hgp, hgl, hcc, hst⟩ := hX.storeP i (by omega)
      obtain ⟨rfl, rfl⟩ : ap = some ⟨g, 0, none⟩ ∧ cp = cap := by cases hvg; exact ⟨rfl, rfl⟩
      clear hvg
      have e1 : ∀ w', Near wr g w' → w'.cell? ⟨w2.heap.size, 1, none⟩ = some (.slice (some ⟨g, 0, none⟩) l.length cp) := fun w' h => h.cell hX.box.2.2.1 (by simp; omega)
      have hcon : ∀ w, Calls Tryz.prog 167 #[.int .i64 l.length, .int .i64 ((i : Int) + 1)] w (Ret w fun w' v => Own w.heap.size w' v (unitV l.length (i + 1))) := fun w => by
        have h := l07Unit_ok l.length (i + 1) w (by omega) (by omega)
        rwa [show ((i + 1 : Nat) : Int) = (i : Int) + 1 by omega] at h
      have HX := Lib.hid (And.intro hX (And.intro hst hcc)); clear hX hst hcc
      have hl2 : (i : Int) < l.length := by omega
      have hwi : IntKind.i64.wrap ((i : Int) + 1) = (i : Int) + 1 := IntWalk.i64_in _ (by omega)
      have hwj : wrap64 ((i : Int) + 1) = (i : Int) + 1 := IntWalk.wrap64_in _ (by omega)
      go_wp2
      go_region_held3 (fun w' => Near wr g w') (first | exact Near.of (grown_drew _ _) | exact Near.of (by assumption) | exact Near.store (by assumption) | assumption)
        (first
          | (go_at_call 167; refine Calls.mono (Calls.rel (w0 := wr) (by first | exact grown_drew _ _ | assumption) (hcon _)) ?_; rintro eE wE ⟨vE, rfl, hgE, hsE, hOE⟩; obtain ⟨aE, cE, hvE, _⟩ := (hOE.ints (by rw [unitV_len]; omega)).shape; subst hvE; have hcl := (HX.out.2.2 wE hgE).1; have hfr := (HX.out.2.2 wE hgE).2))
      have hsz := hgE.size
      have hX5 := HX.out.2.1 wE _ (unitV l.length (i + 1)) hgE (OwnIn.of hOE (by rw [unitV_len]; omega) (fun k hk _ => Nat.le_trans (by assumption) hk)) (by rw [unitV_len]; omega)
      have hgn : Ext w1 (wE.setCell ⟨g, i, none⟩ (.slice aE (unitV l.length (i + 1)).length cE)) := grown_own (grown_trans hg hgE) (grown_set1 _ _ _ _) (fun j hj hlt => by cases hj; omega)
      clear hcl hfr e1
      go_wp2
      go_roundw
      case rel => exact ⟨i + 1, by go_num, by omega, hgn, hX5⟩
      case measure => simp [intOf]; omega
    · have hlt' : ¬ ((i : Int) + 1 < l.length) := by omega
      have hz := HN.out.2.1 wr (grown_trans hg1 hg)
      obtain ⟨h0, h1, h2, h3', h4⟩ := id hX.box
      obtain ⟨k0, k1, k2, k3, k4⟩ := id hz
      have hZ := hz.all (.slice ao l.length co) (.slice ap l.length cp) (.slice ac l.length cc)
      have hT := grown_set3 wr w.heap.size (.slice ao l.length co) (.slice ap l.length cp) (.slice ac l.length cc)
      obtain ⟨_, z0, z1, z2, _⟩ := id hZ
      have HT := Lib.hid (And.intro hT hX); clear hT hZ hX
      go_wp2
      refine bodyPost_ret (v := .tuple #[.agg #[.slice ao l.length co, .slice ap l.length cp, .slice ac l.length cc], .int .i64 0]) (by simp [results, Tryz.results262, go_sem, z0, z1, z2]) rfl ?_
      exact ⟨_, rfl, grown_own (grown_trans hg0 (grown_trans hg1 hg)) HT.out.1 (fun j hj hlt => by cases hj; omega), _, _, _, _, rfl, (HT.out.2.ret HT.out.1 (by have := HN.out.2.2.2; omega)).weak (by have := HN.out.2.2.2; omega)⟩

end Go.Proofs.YtoakmefajbbggaaGreat
namespace Go.Proofs.YtoakmefajbbggaaGreat
open Go.RowKit
attribute [local go_sem ↓] Go.wp_at_zero Go.wp_at_succ

/-- some presentation by value that can be read, of bounded shape, in new blocks -/
def PresN3 (N B : Nat) (w' : World) (vo vp vc : Value) : Prop := ∃ Q, Shp N Q ∧ Pres3 (From B) w' vo vp vc Q
def PresC3 (N B : Nat) (w' : World) (v : Value) : Prop := ∃ (vo vp vc : Value) (c : Int), v = .tuple #[.agg #[vo, vp, vc], .int .i64 c] ∧ PresN3 N B w' vo vp vc

theorem pres3_nil (S : Nat → Prop) (w : World) : Pres3 S w (.slice none 0 0) (.slice none 0 0) (.slice none 0 0) ⟨[], [], []⟩ :=
  ⟨⟨none, 0, rfl, ⟨by simp, by simp, fun _ => rfl⟩, fun i hi => by simp at hi⟩, ⟨none, 0, rfl, ⟨by simp, by simp, fun _ => rfl⟩, fun i hi => by simp at hi⟩, ⟨none, 0, rfl, ⟨by simp, by simp, fun _ => rfl⟩, fun i hi => by simp at hi⟩⟩
theorem shp_nil (N : Nat) : Shp N ⟨[], [], []⟩ := ⟨Nat.zero_le _, rfl, rfl, fun i h => absurd h (by simp), by simp, by simp⟩

set_option maxRecDepth 100000 in
set_option maxHeartbeats 8000000 in
theorem ParsePresentation_ok (w : World) (s : ByteArray) (hs : s.size ≤ 1000) :
    Calls Tryz.prog 227 #[.string s] w (Ret w (PresC3 6 w.heap.size)) := by
  have hbB := Box3.made w 28 (.slice none 0 0) (.slice none 0 0) (.slice none 0 0)
  have hg0 : Ext w (w.alloc (.cells #[.slice none 0 0, .slice none 0 0, .slice none 0 0] 28)) := World.grownBy_alloc _ _ _
  have hs0 : (w.alloc (.cells #[.slice none 0 0, .slice none 0 0, .slice none 0 0] 28)).heap.size = w.heap.size + 1 := by simp
  go_enter Tryz.func227, Tryz.ntmps227
  go_wp2_with fail
  generalize w.alloc (.cells #[.slice none 0 0, .slice none 0 0, .slice none 0 0] 28) = w0 at *
  refine Calls.mono (l01Split_ok w0 s 59 hs) ?_
  rintro e1 w1 ⟨v1, rfl, hg1, av, cv, ts, rfl, hl1, hlM, hts, hT⟩
  obtain ⟨bt, rfl, hc0⟩ := StrsR.at hT 0 (by omega)
  have hm0 := hts _ (gtMem (show 0 < ts.length by omega))
  have hli : (0 : Int) < ts.length := by omega
  have hgw1 := grown_trans hg0 hg1
  have hts1 : ts.length ≤ 1001 := by omega
  go_wp2_with fail
  refine Calls.mono (l07Orders_ok w1 _ (by omega)) ?_
  rintro e2 w2 ⟨v2, rfl, hg2, ao, n, co, r, rfl, hR⟩
  have hgw2 := grown_trans hgw1 hg2
  have hb2 := (hbB.ext hg1).ext hg2
  have hs2 : w.heap.size + 1 ≤ w2.heap.size := by have := hg1.size; have := hg2.size; omega
  have hTlt := (hT.lt bt rfl).2
  have HT := Lib.hid (And.intro hT (And.intro hts hlM)); clear hT hts hlM hc0
  cases r
  case' false =>
    obtain ⟨n0, n1, n2, n3, n4⟩ := id hb2
    have hZn := hb2.all (.slice none 0 0) (.slice none 0 0) (.slice none 0 0)
    obtain ⟨-, z0, z1, z2, -⟩ := id hZn
    have hTn := grown_set3 w2 w.heap.size (.slice none 0 0) (.slice none 0 0) (.slice none 0 0)
    have HTn := Lib.hid hTn; clear hZn hTn
    go_wp2_with fail
    refine bodyPost_ret (v := .tuple #[.agg #[.slice none 0 0, .slice none 0 0, .slice none 0 0], .int .i64 6]) (by simp [results, Tryz.results227, go_sem, z0, z1, z2]) rfl ?_
    exact ⟨_, rfl, grown_own hgw2 HTn.out (fun j hj hlt => by cases hj; omega), _, _, _, _, rfl, _, shp_nil 6, pres3_nil _ _⟩
  obtain ⟨o, hno, ho6, hop, hO⟩ := hR rfl
  have hno := hno
  subst hno
  clear hR
  have hO3 := hO.ints (by omega)
  have HO := Lib.hid (And.intro hop hO); clear hop hO
  go_wp2_with fail
  refine Calls.mono (l07Trivial_ok w2 _ o _ hO3 (by omega)) ?_
  rintro e3 w3 ⟨v3, rfl, hg3, vo, vp, vc, rfl, hX3⟩
  obtain ⟨a1, c1, a2, c2, a3, c3, rfl, rfl, rfl⟩ := trivX_shape hX3
  have hgq : Ext w3 (w3.alloc (.cells #[.slice a1 o.length c1, .slice a2 o.length c2, .slice a3 o.length c3] 28)) := World.grownBy_alloc _ _ _
  have hbq := Box3.made w3 28 (.slice a1 o.length c1) (.slice a2 o.length c2) (.slice a3 o.length c3)
  have hP4 : Pres3 (fun k => w2.heap.size ≤ k ∧ k ≠ w3.heap.size) (w3.alloc (.cells #[.slice a1 o.length c1, .slice a2 o.length c2, .slice a3 o.length c3] 28)) (.slice a1 o.length c1) (.slice a2 o.length c2) (.slice a3 o.length c3) (trivP o) :=
    hX3.p3.mono (fun k hk hlt => ⟨⟨hk, by omega⟩, Nat.lt_of_lt_of_le hlt hgq.size, hgq.block k hlt (by simp)⟩)
  have hs3 := hg3.size
  have hg24 := grown_trans hg3 hgq
  go_wp2_with fail
  generalize w3.alloc (.cells #[.slice a1 o.length c1, .slice a2 o.length c2, .slice a3 o.length c3] 28) = w4 at *
  clear hX3 hO3
  go_loopw [6, 8] (fun okv iv wr => ∃ (i : Nat) (qo qp qc : Value) (Q : Pr), okv = .bool true ∧ iv = .int .i64 i ∧ i ≤ ts.length ∧ Ext w2 wr ∧ Box3 wr w3.heap.size qo qp qc ∧ Shp 6 Q ∧ Q.orders = o ∧ Pres3 (fun k => w2.heap.size ≤ k ∧ k ≠ w3.heap.size) wr qo qp qc Q) (fun _ iv _ => ts.length - (intOf iv).toNat)
  case atStart => exact ⟨1, _, _, _, trivP o, rfl, rfl, by omega, hg24, hbq, trivP_shp o ho6, rfl, hP4⟩
  case round =>
    clear hP4 hbq hg24
    obtain ⟨i, qo, qp, qc, Q, rfl, rfl, hi, hg, hB, hQs, hQo, hQ⟩ := hrel
    have hgw := grown_trans hgw2 hg
    by_cases hlt : i < ts.length
    · have hlt' : (i : Int) < ts.length := by omega
      obtain ⟨_, hbe, hci⟩ := StrsR.at HT.out.1 i hlt
      cases hbe
      have hcr := (grown_trans hg2 hg).cell hci (by simp)
      clear hci
      have hsi := HT.out.2.1 _ (gtMem hlt)
      have hsM : (gt ts i).size ≤ 1000 := by omega
      obtain ⟨t0, ht0⟩ : ∃ t0, t0 = gt ts i := ⟨_, rfl⟩
      rw [← ht0] at hcr hsM
      clear hsi ht0
      have hop : ∀ x ∈ Q.orders, primeB x = true := by rw [hQo]; exact HO.out.1
      obtain ⟨a5, c5, hqo, _, _⟩ := hQ.o.shape
      obtain ⟨a6, c6, hqp, _, _⟩ := Sl.shape hQ.p
      obtain ⟨a7, c7, hqc, _, _⟩ := Sl.shape hQ.c
      subst hqo hqp hqc
      have hBd := hB.ext (grown_drew _ none)
      have hQd : Pres3 (fun k => w2.heap.size ≤ k ∧ k ≠ w3.heap.size) wr.drew _ _ _ Q := hQ.ext (grown_drew _ none)
      obtain ⟨d0, d1, d2, d3, d4⟩ := id hBd
      have f1 : wr.drew.cell? ⟨bt, i, none⟩ = some (.string t0) := hcr
      have HQ := Lib.hid (And.intro hQs (And.intro hQo (And.intro hop (And.intro hQd hB)))); clear hQs hQo hop hQd hB hQ hBd hcr
      go_wp2_with fail
      go_region_law (first
        | (go_simp; go_at_call 272; refine Calls.mono (l07Relation_ok _ _ Q _ t0 ⟨_, _, _, rfl, HQ.out.2.2.2.1⟩ HQ.out.1 HQ.out.2.2.1 hsM) ?_; rintro eC wC ⟨vC, rfl, hgC, yo, yp, yc, r, Q2, rfl, hS2, ho2, hP2⟩; have HO2 := Lib.hid ho2; clear ho2; obtain ⟨e5, k5, rfl, _, _⟩ := hP2.o.shape; obtain ⟨e6, k6, rfl, _, _⟩ := Sl.shape hP2.p; obtain ⟨e7, k7, rfl, _, _⟩ := Sl.shape hP2.c; have hBC := (HQ.out.2.2.2.2.ext (grown_drew _ none)).ext hgC; obtain ⟨g0, g1, g2, g3, g4⟩ := id hBC))
      all_goals
        have hgC2 : Ext wr wC := grown_trans (grown_drew _ _) hgC
        have hpbl := HQ.out.2.2.2.2.1
        have hsr := hg.size
        have hB9 := hBC.all (.slice e5 Q2.orders.length k5) (.slice e6 Q2.powers.length k6) (.slice e7 Q2.conj.length k7)
        have hT9 := grown_set3 wC w3.heap.size (.slice e5 Q2.orders.length k5) (.slice e6 Q2.powers.length k6) (.slice e7 Q2.conj.length k7)
        have hg9 : Ext w2 (((wC.setCell ⟨w3.heap.size, 0, none⟩ (.slice e5 Q2.orders.length k5)).setCell ⟨w3.heap.size, 1, none⟩ (.slice e6 Q2.powers.length k6)).setCell ⟨w3.heap.size, 2, none⟩ (.slice e7 Q2.conj.length k7)) := grown_own (grown_trans hg hgC2) hT9 (fun j hj hlt => by cases hj; omega)
        have hP9 : Pres3 (fun k => w2.heap.size ≤ k ∧ k ≠ w3.heap.size) (((wC.setCell ⟨w3.heap.size, 0, none⟩ (.slice e5 Q2.orders.length k5)).setCell ⟨w3.heap.size, 1, none⟩ (.slice e6 Q2.powers.length k6)).setCell ⟨w3.heap.size, 2, none⟩ (.slice e7 Q2.conj.length k7)) (.slice e5 Q2.orders.length k5) (.slice e6 Q2.powers.length k6) (.slice e7 Q2.conj.length k7) Q2 :=
          hP2.mono (fun k hk hlt => by
            have hk2 : w2.heap.size ≤ k ∧ k ≠ w3.heap.size := by
              have hd : wr.drew.heap.size = wr.heap.size := rfl
              rcases hk with hk | hk
              · exact hk
              · exact ⟨by omega, by omega⟩
            exact ⟨hk2, Nat.lt_of_lt_of_le hlt hT9.size, hT9.block k hlt (fun e => hk2.2 (by cases e; rfl))⟩)
        have HF := Lib.hid (And.intro hB9 (And.intro hP9 (And.intro hS2 HO2.out))); clear hB9 hP9 hS2 HO2 hP2 hT9 g0 g1 g2 g3 g4 hBC d0 d1 d2 d3 d4 f1
        generalize ((wC.setCell ⟨w3.heap.size, 0, none⟩ (.slice e5 Q2.orders.length k5)).setCell ⟨w3.heap.size, 1, none⟩ (.slice e6 Q2.powers.length k6)).setCell ⟨w3.heap.size, 2, none⟩ (.slice e7 Q2.conj.length k7) = w9 at *
        cases r
        case' false =>
          have hb9 := hb2.ext hg9
          have hgw9 := grown_trans hgw2 hg9
          obtain ⟨n0, n1, n2, n3, n4⟩ := id hb9
          have hZn := hb9.all (.slice none 0 0) (.slice none 0 0) (.slice none 0 0)
          obtain ⟨-, z0, z1, z2, -⟩ := id hZn
          have hTn := grown_set3 w9 w.heap.size (.slice none 0 0) (.slice none 0 0) (.slice none 0 0)
          have HTn := Lib.hid hTn; clear hZn hTn
          go_wp2_with fail
          refine bodyPost_ret (v := .tuple #[.agg #[.slice none 0 0, .slice none 0 0, .slice none 0 0], .int .i64 6]) (by simp [results, Tryz.results227, go_sem, z0, z1, z2]) rfl ?_
          exact ⟨_, rfl, grown_own hgw9 HTn.out (fun j hj hlt => by cases hj; omega), _, _, _, _, rfl, _, shp_nil 6, pres3_nil _ _⟩
        go_wp2_with fail
        go_roundw
        case rel => exact ⟨i + 1, _, _, _, Q2, rfl, by go_num, by omega, hg9, HF.out.1, HF.out.2.2.1, by rw [HF.out.2.2.2]; exact HQ.out.2.1, HF.out.2.1⟩
        case measure => simp [intOf]; omega
    · have hlt' : ¬ ((i : Int) < ts.length) := by omega
      obtain ⟨a5, c5, hqo, _, _⟩ := hQ.o.shape
      obtain ⟨a6, c6, hqp, _, _⟩ := Sl.shape hQ.p
      obtain ⟨a7, c7, hqc, _, _⟩ := Sl.shape hQ.c
      subst hqo hqp hqc
      obtain ⟨d0, d1, d2, d3, d4⟩ := id hB
      have HQ := Lib.hid (And.intro hQs (And.intro hQo (And.intro hQ hB))); clear hQs hQo hQ hB
      go_wp2_with fail
      refine Calls.mono (sIsPresentation_ok wr _ Q _ ⟨_, _, _, rfl, HQ.out.2.2.1⟩) ?_
      rintro e5 w5 ⟨v5, rfl, hg5, rfl⟩
      have hB5 := HQ.out.2.2.2.ext hg5
      obtain ⟨p0, p1, p2, p3, p4⟩ := id hB5
      have hg25 := grown_trans hg hg5
      rcases hv : validB Q with _ | _
      case' false =>
        have hb5 := hb2.ext hg25
        have hgw5 := grown_trans hgw2 hg25
        obtain ⟨n0, n1, n2, n3, n4⟩ := id hb5
        have hZn := hb5.all (.slice none 0 0) (.slice none 0 0) (.slice none 0 0)
        obtain ⟨-, z0, z1, z2, -⟩ := id hZn
        have hTn := grown_set3 w5 w.heap.size (.slice none 0 0) (.slice none 0 0) (.slice none 0 0)
        have HTn := Lib.hid hTn; clear hZn hTn
        go_wp2_with fail
        refine bodyPost_ret (v := .tuple #[.agg #[.slice none 0 0, .slice none 0 0, .slice none 0 0], .int .i64 6]) (by simp [results, Tryz.results227, go_sem, z0, z1, z2]) rfl ?_
        exact ⟨_, rfl, grown_own hgw5 HTn.out (fun j hj hlt => by cases hj; omega), _, _, _, _, rfl, _, shp_nil 6, pres3_nil _ _⟩
      have hV := valid_of hv
      clear hv
      have HV := Lib.hid hV; clear hV
      go_wp2_with fail
      refine Calls.mono (l07Text_ok Q HV.out w5 _ _ ⟨_, _, _, rfl, HQ.out.2.2.1.ext hg5⟩) ?_
      rintro e6 w6 ⟨v6, rfl, hg6, rfl⟩
      have hg26 := grown_trans hg25 hg6
      have hb6 := hb2.ext hg26
      have hgw6 := grown_trans hgw2 hg26
      have hB6 := hB5.ext hg6
      have hP6 := (HQ.out.2.2.1.ext hg5).ext hg6
      clear p0 p1 p2 p3 p4 d0 d1 d2 d3 d4 hB5
      rcases hcmp : ((strOfNums (textP Q)).toList == s.toList) with _ | _
      case' false =>
        obtain ⟨n0, n1, n2, n3, n4⟩ := id hb6
        have hZn := hb6.all (.slice none 0 0) (.slice none 0 0) (.slice none 0 0)
        obtain ⟨-, z0, z1, z2, -⟩ := id hZn
        have hTn := grown_set3 w6 w.heap.size (.slice none 0 0) (.slice none 0 0) (.slice none 0 0)
        have HTn := Lib.hid hTn; clear hZn hTn
        go_wp2_with fail
        refine bodyPost_ret (v := .tuple #[.agg #[.slice none 0 0, .slice none 0 0, .slice none 0 0], .int .i64 6]) (by simp [results, Tryz.results227, go_sem, z0, z1, z2]) rfl ?_
        exact ⟨_, rfl, grown_own hgw6 HTn.out (fun j hj hlt => by cases hj; omega), _, _, _, _, rfl, _, shp_nil 6, pres3_nil _ _⟩
      obtain ⟨p0, p1, p2, p3, p4⟩ := id hB6
      obtain ⟨n0, n1, n2, n3, n4⟩ := id hb6
      have hZn := hb6.all (.slice a5 Q.orders.length c5) (.slice a6 Q.powers.length c6) (.slice a7 Q.conj.length c7)
      obtain ⟨-, z0, z1, z2, -⟩ := id hZn
      have hTn := grown_set3 w6 w.heap.size (.slice a5 Q.orders.length c5) (.slice a6 Q.powers.length c6) (.slice a7 Q.conj.length c7)
      have HTn := Lib.hid (And.intro hTn hP6); clear hZn hTn hP6
      go_wp2_with fail
      refine bodyPost_ret (v := .tuple #[.agg #[.slice a5 Q.orders.length c5, .slice a6 Q.powers.length c6, .slice a7 Q.conj.length c7], .int .i64 0]) (by simp [results, Tryz.results227, go_sem, z0, z1, z2]) rfl ?_
      exact ⟨_, rfl, grown_own hgw6 HTn.out.1 (fun j hj hlt => by cases hj; omega), _, _, _, _, rfl, Q, HQ.out.1, HTn.out.2.mono (fun k hk hlt => ⟨(by show w.heap.size ≤ k; omega), Nat.lt_of_lt_of_le hlt HTn.out.1.size, HTn.out.1.block k hlt (fun e => by cases e; omega)⟩)⟩

end Go.Proofs.YtoakmefajbbggaaGreat
namespace Go.Proofs.YtoakmefajbbggaaGreat
open Go.RowKit
attribute [local go_sem ↓] Go.wp_at_zero Go.wp_at_succ

/-- some presentation by value that can be read, of bounded shape, in new blocks -/
def PresQ (N B : Nat) (w' : World) (v : Value) : Prop := ∃ (vo vp vc : Value), v = .agg #[vo, vp, vc] ∧ PresN3 N B w' vo vp vc
theorem PresN.q {N B : Nat} {w' : World} {v : Value} (h : PresN N B w' v) : PresQ N B w' v := by
  obtain ⟨P, h1, vo, vp, vc, rfl, h2⟩ := h
  exact ⟨_, _, _, rfl, P, h1, h2.p3⟩
theorem PresQ.mono {N M B B' : Nat} {w' : World} {v : Value} (h : PresQ N B w' v) (hN : N ≤ M) (hB : B' ≤ B) : PresQ M B' w' v := by
  obtain ⟨vo, vp, vc, rfl, P, h1, h2⟩ := h
  exact ⟨_, _, _, rfl, P, h1.mono hN, h2.mono (fun k hk hlt => ⟨Nat.le_trans hB hk, hlt, rfl⟩)⟩
theorem PresN3.shape {N B : Nat} {w' : World} {vo vp vc : Value} (h : PresN3 N B w' vo vp vc) : ∃ a n c a2 n2 c2 a3 n3 c3, vo = .slice a n c ∧ vp = .slice a2 n2 c2 ∧ vc = .slice a3 n3 c3 := by
  obtain ⟨Q, _, h2⟩ := h
  obtain ⟨a5, c5, hqo, _, _⟩ := h2.o.shape
  obtain ⟨a6, c6, hqp, _, _⟩ := Sl.shape h2.p
  obtain ⟨a7, c7, hqc, _, _⟩ := Sl.shape h2.c
  exact ⟨_, _, _, _, _, _, _, _, _, hqo, hqp, hqc⟩

/-- the result's box is written: what lies elsewhere reads on -/
theorem hQ3 {B r : Nat} {w w' : World} {vo vp vc : Value} {Q : Pr} (hT : w.grownBy w' (some r)) (h : Pres3 (fun k => B ≤ k ∧ k ≠ r) w vo vp vc Q) : Pres3 (From B) w' vo vp vc Q :=
  h.mono (fun k hk hlt => ⟨hk.1, Nat.lt_of_lt_of_le hlt hT.size, hT.block k hlt (fun e => hk.2 (by cases e; rfl))⟩)

set_option maxRecDepth 100000 in
set_option maxHeartbeats 8000000 in
theorem l07Table_ok (w : World) (k : Int) (h0 : 0 ≤ k) (h9 : k < 10) :
    Calls Tryz.prog 177 #[.int .i64 k] w (Ret w (PresQ 6 w.heap.size)) := by
  have hbB := Box3.made w 28 (.slice none 0 0) (.slice none 0 0) (.slice none 0 0)
  have hg0 : Ext w (w.alloc (.cells #[.slice none 0 0, .slice none 0 0, .slice none 0 0] 28)) := World.grownBy_alloc _ _ _
  have hs0 : (w.alloc (.cells #[.slice none 0 0, .slice none 0 0, .slice none 0 0] 28)).heap.size = w.heap.size + 1 := by simp
  rcases (show k = 0 ∨ k = 1 ∨ k = 2 ∨ k = 3 ∨ k = 4 ∨ k = 5 ∨ k = 6 ∨ k = 7 ∨ k = 8 ∨ k = 9 by omega) with rfl | rfl | rfl | rfl | rfl | rfl | rfl | rfl | rfl | rfl
  all_goals
    clear h0 h9
    go_enter Tryz.func177, Tryz.ntmps177
    go_wp2_with fail
    refine Calls.mono (ParsePresentation_ok _ _ (by decide)) ?_
    rintro e1 w1 ⟨v1, rfl, hg1, vo, vp, vc, c, rfl, hP⟩
    obtain ⟨a1, n1, c1, a2, n2, c2, a3, n3, c3, rfl, rfl, rfl⟩ := hP.shape
    have hg1 := grown_trans (World.grownBy_alloc _ _ _) hg1
    have hb1 := hbB.ext hg1
    have hgw1 := grown_trans hg0 hg1
    have hs1 := hg1.size
    clear hbB hg0 hg1
    generalize w.alloc (.cells #[.slice none 0 0, .slice none 0 0, .slice none 0 0] 28) = w0 at *
    have hP3 : ∃ Q, Shp 6 Q ∧ Pres3 (fun k => w.heap.size ≤ k ∧ k ≠ w.heap.size) w1 (.slice a1 n1 c1) (.slice a2 n2 c2) (.slice a3 n3 c3) Q := by
      obtain ⟨Q, q1, q2⟩ := hP
      exact ⟨Q, q1, q2.mono (fun k hk hlt => ⟨by have hk : _ ≤ k := hk; simp at hk; omega, hlt, rfl⟩)⟩
    have hs1w : w.heap.size + 1 ≤ w1.heap.size := by omega
    have hs0' := Lib.hid hs0
    clear hs0 hP hg1
    obtain ⟨q0, q1, q2, q3, q4⟩ := id hb1
    by_cases hc : c = 0
    · subst hc
      have hgA := World.grownBy_alloc (((w1.setCell ⟨w.heap.size, 0, none⟩ (.slice a1 n1 c1)).setCell ⟨w.heap.size, 1, none⟩ (.slice a2 n2 c2)).setCell ⟨w.heap.size, 2, none⟩ (.slice a3 n3 c3)) (.cells #[.slice a1 n1 c1, .slice a2 n2 c2, .slice a3 n3 c3] 28) none
      have hZn := (hb1.all (.slice a1 n1 c1) (.slice a2 n2 c2) (.slice a3 n3 c3)).ext hgA
      obtain ⟨-, z0, z1, z2, -⟩ := id hZn
      have hTn := grown_set3 w1 w.heap.size (.slice a1 n1 c1) (.slice a2 n2 c2) (.slice a3 n3 c3)
      have HTn := Lib.hid (And.intro hTn (And.intro hP3 hgA)); clear hZn hTn hP3 hgA
      go_wp2_with fail
      refine bodyPost_ret (v := .agg #[.slice a1 n1 c1, .slice a2 n2 c2, .slice a3 n3 c3]) (by simp [results, Tryz.results177, go_sem, z0, z1, z2]) rfl ?_
      obtain ⟨hTn, ⟨Q, k1, k2⟩, hgA⟩ := HTn.out
      exact ⟨_, rfl, grown_trans (grown_own hgw1 hTn (fun j hj hlt => by cases hj; omega)) hgA, _, _, _, rfl, Q, k1, (hQ3 hTn k2).ext hgA⟩
    · have hc' : (c != 0) = true := by simp [hc]
      clear hc
      have hgA : Ext w1 (w1.alloc (.cells #[.slice a1 n1 c1, .slice a2 n2 c2, .slice a3 n3 c3] 28)) := World.grownBy_alloc _ _ _
      have hbA := Box3.made w1 28 (.slice a1 n1 c1) (.slice a2 n2 c2) (.slice a3 n3 c3)
      have hsA : (w1.alloc (.cells #[.slice a1 n1 c1, .slice a2 n2 c2, .slice a3 n3 c3] 28)).heap.size = w1.heap.size + 1 := by simp
      go_wp2_with fail
      generalize w1.alloc (.cells #[.slice a1 n1 c1, .slice a2 n2 c2, .slice a3 n3 c3] 28) = w2 at *
      have hgL : Ext w2 (w2.alloc (.cells #[.int .i64 2] 2)) := World.grownBy_alloc _ _ _
      have hL : Ints Any (w2.alloc (.cells #[.int .i64 2] 2)) (.slice (some ⟨w2.heap.size, 0, none⟩) 1 1) [2] :=
        ints_of_own (show Own 0 _ _ [2] from World.ownsRow_lit w2 #[.int .i64 2] 1 (Nat.zero_le _) (by decide) rfl) (by simp) (fun _ _ => trivial)
      rw [hsA] at hL
      refine Calls.mono (l07Trivial_ok _ _ [2] _ hL (by simp)) ?_
      rintro e3 w3 ⟨v3, rfl, hg3, vo, vp, vc, rfl, hX3⟩
      obtain ⟨a4, c4, a5, c5, a6, c6, rfl, rfl, rfl⟩ := trivX_shape hX3
      have hg13 := grown_trans hgA (grown_trans hgL hg3)
      have hb3 := hb1.ext hg13
      have hbA3 := hbA.ext (grown_trans hgL hg3)
      have hgw3 := grown_trans hgw1 hg13
      have hX4 : Pres3 (fun k => w.heap.size ≤ k ∧ k ≠ w.heap.size) w3 (.slice a4 1 c4) (.slice a5 1 c5) (.slice a6 1 c6) (trivP [2]) := hX3.p3.mono (fun k hk hlt => ⟨by have hk : _ ≤ k := hk; simp at hk; omega, hlt, rfl⟩)
      have hX5 : Pres3 (fun k => w1.heap.size < k) w3 (.slice a4 1 c4) (.slice a5 1 c5) (.slice a6 1 c6) (trivP [2]) := hX3.p3.mono (fun k hk hlt => ⟨by have hk : _ ≤ k := hk; simp at hk; omega, hlt, rfl⟩)
      clear hX3 hX4 hL hbA hP3 q0 q1 q2 q3 q4 hg3 hgL
      obtain ⟨p0, p1, p2, p3, p4⟩ := id hbA3
      obtain ⟨q0, q1, q2, q3, q4⟩ := id hb3
      have hT1 := grown_set3 w3 w1.heap.size (.slice a4 1 c4) (.slice a5 1 c5) (.slice a6 1 c6)
      have hbA4 := hbA3.all (.slice a4 1 c4) (.slice a5 1 c5) (.slice a6 1 c6)
      have hb4 := Box3.keep hb3 hT1.size (hT1.block _ hb3.1 (fun e => by have := Option.some.inj e; omega))
      obtain ⟨r0, r1, r2, r3, r4⟩ := id hbA4
      obtain ⟨s0, s1, s2, s3, s4⟩ := id hb4
      have hZn := hb4.all (.slice a4 1 c4) (.slice a5 1 c5) (.slice a6 1 c6)
      obtain ⟨-, z0, z1, z2, -⟩ := id hZn
      have hTn := grown_set3 (((w3.setCell ⟨w1.heap.size, 0, none⟩ (.slice a4 1 c4)).setCell ⟨w1.heap.size, 1, none⟩ (.slice a5 1 c5)).setCell ⟨w1.heap.size, 2, none⟩ (.slice a6 1 c6)) w.heap.size (.slice a4 1 c4) (.slice a5 1 c5) (.slice a6 1 c6)
      have HTn := Lib.hid (And.intro hT1 (And.intro hTn hX5)); clear hZn hTn hT1 hX5 hb3 hbA3 hbA4 hb4
      go_wp2_with fail
      refine bodyPost_ret (v := .agg #[.slice a4 1 c4, .slice a5 1 c5, .slice a6 1 c6]) (by simp [results, Tryz.results177, go_sem, z0, z1, z2]) rfl ?_
      obtain ⟨hT1, hTn, hX5⟩ := HTn.out
      refine ⟨_, rfl, grown_own (grown_own hgw3 hT1 (fun j hj hlt => by have := Option.some.inj hj; omega)) hTn (fun j hj hlt => by have := Option.some.inj hj; omega), _, _, _, rfl, trivP [2], trivP_shp _ (by simp), hX5.mono (fun k hk hlt => ⟨(show w.heap.size ≤ k by omega), ?_, ?_⟩)⟩
      · exact Nat.lt_of_lt_of_le hlt (Nat.le_trans hT1.size hTn.size)
      · exact (hTn.block k (Nat.lt_of_lt_of_le hlt hT1.size) (fun e => by have := Option.some.inj e; omega)).trans (hT1.block k hlt (fun e => by have := Option.some.inj e; omega))

end Go.Proofs.YtoakmefajbbggaaGreat
namespace Go.Proofs.YtoakmefajbbggaaGreat
open Go.RowKit
attribute [local go_sem ↓] Go.wp_at_zero Go.wp_at_succ

theorem i64_succ (i : Nat) (h : i < 100000) : IntKind.i64.wrap ((i : Int) + 1) = (i : Int) + 1 := IntWalk.i64_in _ (by omega)
theorem w64_succ (i : Nat) (h : i < 100000) : wrap64 ((i : Int) + 1) = (i : Int) + 1 := IntWalk.wrap64_in _ (by omega)
theorem i64_sp (k : Nat) (h : k < 100000) : IntKind.i64.wrap (((k + 1 : Nat) : Int) - 1) = (k : Int) := by
  rw [show ((k + 1 : Nat) : Int) - 1 = (k : Int) by omega]; exact IntWalk.i64_in _ (by omega)
theorem w64_sp (k : Nat) (h : k < 100000) : wrap64 (((k + 1 : Nat) : Int) - 1) = (k : Int) := by
  rw [show ((k + 1 : Nat) : Int) - 1 = (k : Int) by omega]; exact IntWalk.wrap64_in _ (by omega)

set_option maxRecDepth 100000 in
set_option maxHeartbeats 4000000 in
theorem l07Meta_ok (w : World) (n m r s : Int) (hn : 1 ≤ n ∧ n ≤ 729) (hm : 1 ≤ m ∧ m ≤ 729) (hr : 0 ≤ r ∧ r < 30000) (hs : 0 ≤ s ∧ s ≤ 1000000000) :
    Calls Tryz.prog 178 #[.int .i64 n, .int .i64 m, .int .i64 r, .int .i64 s] w (Ret w (PresN 18 w.heap.size)) := by
  obtain ⟨n, rfl⟩ := Int.eq_ofNat_of_zero_le (show 0 ≤ n by omega)
  obtain ⟨m, rfl⟩ := Int.eq_ofNat_of_zero_le (show 0 ≤ m by omega)
  have hz0 : ∀ w', Ext (w.alloc (.cells #[.slice none 0 0, .slice none 0 0, .slice none 0 0] 28)) w' → Box3 w' w.heap.size (.slice none 0 0) (.slice none 0 0) (.slice none 0 0) := fun w' h => (Box3.made w 28 _ _ _).ext h
  have hg0 : Ext w (w.alloc (.cells #[.slice none 0 0, .slice none 0 0, .slice none 0 0] 28)) := World.grownBy_alloc _ _ _
  have hs0 : (w.alloc (.cells #[.slice none 0 0, .slice none 0 0, .slice none 0 0] 28)).heap.size = w.heap.size + 1 := by simp
  have hp0 : 0 ≤ r % (m : Int) := Int.emod_nonneg _ (by omega)
  have hp1 : r % (m : Int) < m := Int.emod_lt_of_pos _ (by omega)
  obtain ⟨pw, hpw⟩ : ∃ pw, pw = r % (m : Int) := ⟨_, rfl⟩
  rw [← hpw] at hp0 hp1
  have hm0 : (m : Int) ≠ 0 := by omega
  have HN := Lib.hid (And.intro hn (And.intro hm (And.intro hs (And.intro hz0 (And.intro hs0 (And.intro hp0 hp1)))))); clear hn hz0 hs0 hp0 hp1 hs hm
  go_enter Tryz.func178, Tryz.ntmps178
  go_wp2_with fail
  generalize w.alloc (.cells #[.slice none 0 0, .slice none 0 0, .slice none 0 0] 28) = w0 at *
  refine Calls.mono (l07Factors_ok w0 n (by have := HN.out.1; omega)) ?_
  rintro e1 w1 ⟨v1, rfl, hg1, a1, c1, t, r1, rfl, hO1, ht9, htx⟩
  go_wp2_with fail
  refine Calls.mono (l07Factors_ok w1 m (by have := HN.out.2.1; omega)) ?_
  rintro e2 w2 ⟨v2, rfl, hg2, a2, c2, b, r2, rfl, hO2, hb9, hbx⟩
  go_wp2_with fail
  refine Calls.mono (l01Own_ok w2 _ t _ (Ints.ext (hO1.ints (by omega)) hg2) (by omega)) ?_
  rintro e3 w3 ⟨v3, rfl, hg3, hO3⟩
  go_wp2_with (at_builtin; refine wp_app_ints rfl _ _ rfl w2.heap.size v3 t rfl hO3 _ b rfl _ (Ints.ext (hO2.ints (by omega)) hg3) (by omega) hg3.size ?_; intro v4 w4 hO4 hg4 _)
  have hg24 : Ext w2 w4 := grown_own hg3 hg4 (fun j hj hlt => by have := (hO3.lt j hj).1; omega)
  obtain ⟨o, ho⟩ : ∃ o, o = t ++ b := ⟨_, rfl⟩
  rw [← ho] at hO4
  have hol : o.length = t.length + b.length := by rw [ho]; simp
  have hox : ∀ i, i < o.length → 1 ≤ gt o i ∧ gt o i ≤ 7 := fun i hi => by
    have hmem : gt o i ∈ t ++ b := by rw [← ho, gt_eq o i hi]; exact List.getElem_mem hi
    rcases List.mem_append.1 hmem with h | h
    · have := htx _ h; omega
    · have := hbx _ h; omega
  clear ho
  have HT := Lib.hid (And.intro hol (And.intro hox (And.intro htx (And.intro ht9 hb9)))); clear hol hox htx hbx hb9 ht9
  have ho18 : o.length ≤ 18 := by have := HT.out; omega
  have htk : t.length ≤ o.length := by have := HT.out; omega
  obtain ⟨a4, c4, hv4, _⟩ := (hO4.ints (by omega)).shape
  subst hv4
  have hs4 := hg24.size
  have hOi : Ints Any w4 (.slice a4 o.length c4) o := (hO4.ints (by omega)).sub (fun _ _ _ => trivial)
  refine Calls.mono (l07Trivial_ok w4 _ o _ hOi (by omega)) ?_
  rintro e5 w5 ⟨v5, rfl, hg5, vo, vp, vc, rfl, hX5⟩
  obtain ⟨ao, co, ap, cp, ac, cc, rfl, rfl, rfl⟩ := trivX_shape hX5
  go_wp2_with fail
  have hgA : Ext w5 (w5.alloc (.cells #[.slice ao o.length co, .slice ap o.length cp, .slice ac o.length cc] 28)) := World.grownBy_alloc _ _ _
  have hX := BX.start (N := 18) (B := w4.heap.size) (by omega) hX5 hgA (Box3.made w5 28 (.slice ao o.length co) (.slice ap o.length cp) (.slice ac o.length cc)) hg5.size
  have hs5 := hg5.size
  generalize w5.alloc (.cells #[.slice ao o.length co, .slice ap o.length cp, .slice ac o.length cc] 28) = w6 at *
  have hg6 : Ext w4 w6 := grown_trans hg5 hgA
  have hg04 : Ext w0 w4 := grown_trans hg1 (grown_trans hg2 hg24)
  have ht6 : Ints Any w1 (.slice a1 t.length c1) t := (hO1.ints (by omega)).sub (fun _ _ _ => trivial)
  have hgt : Ext w1 w4 := grown_trans hg2 hg24
  clear hX5 hg5 hO1 hO2 hO3 hO4 hg3 hg4
  go_loopw [16] (fun iv wr => ∃ i : Nat, iv = .int .i64 i ∧ i ≤ o.length ∧ Ext w4 wr ∧ BX 18 o w4.heap.size w5.heap.size wr (.slice ao o.length co) (.slice ap o.length cp) (.slice ac o.length cc)) (fun iv _ => o.length - (intOf iv).toNat)
  case atStart => exact ⟨0, rfl, by omega, hg6, hX⟩
  case round =>
    clear hX hg6
    obtain ⟨i, rfl, hi, hg, hX⟩ := hrel
    by_cases hlt : i + 1 < o.length
    · have hlt' : (i : Int) + 1 < o.length := by omega
      have hi5 : i < 100000 := by omega
      have ht5 : t.length < 100000 := by omega
      by_cases hk : (i : Int) = (t.length : Int) - 1
      · skip
        go_wp2
        go_roundw
        case rel => exact ⟨i + 1, by go_num, by omega, hg, hX⟩
        case measure => simp [intOf]; omega
      · obtain ⟨g, cap, z, hvg, hgB, hgp, hgl, hcc, hst⟩ := hX.storeP i (by omega)
        obtain ⟨rfl, rfl⟩ : ap = some ⟨g, 0, none⟩ ∧ cp = cap := by cases hvg; exact ⟨rfl, rfl⟩
        clear hvg
        have e1 : ∀ w', Near wr g w' → w'.cell? ⟨w5.heap.size, 1, none⟩ = some (.slice (some ⟨g, 0, none⟩) o.length cp) := fun w' h => h.cell hX.box.2.2.1 (by simp; omega)
        have hcon : ∀ w, Calls Tryz.prog 167 #[.int .i64 o.length, .int .i64 ((i : Int) + 1)] w (Ret w fun w' v => Own w.heap.size w' v (unitV o.length (i + 1))) := fun w => by
          have h := l07Unit_ok o.length (i + 1) w (by omega) (by omega)
          rwa [show ((i + 1 : Nat) : Int) = (i : Int) + 1 by omega] at h
        have hul : (unitV o.length (i + 1)).length ≤ 9223372036854775807 := by rw [unitV_len]; omega
        have HX := Lib.hid (And.intro hX (And.intro hst (And.intro hcc hul))); clear hX hst hcc hul
        have hl2 : (i : Int) < o.length := by omega
        go_wp2
        clear hk
        have hwi : IntKind.i64.wrap ((i : Int) + 1) = (i : Int) + 1 := i64_succ _ hi5
        have hwj : wrap64 ((i : Int) + 1) = (i : Int) + 1 := w64_succ _ hi5
        go_region_held3 (fun w' => Near wr g w') (first | exact Near.of (grown_drew _ _) | exact Near.of (by assumption) | exact Near.store (by assumption) | assumption)
          (first
            | (go_at_call 167; refine Calls.mono (Calls.rel (w0 := wr) (by first | exact grown_drew _ _ | assumption) (hcon _)) ?_; rintro eE wE ⟨vE, rfl, hgE, hsE, hOE⟩; obtain ⟨aE, cE, hvE, _⟩ := (hOE.ints HX.out.2.2.2).shape; subst hvE; have hcl := (HX.out.2.2.1 wE hgE).1; have hfr := (HX.out.2.2.1 wE hgE).2))
        clear hwi hwj
        have hsz := hgE.size
        have hX5 := HX.out.2.1 wE _ (unitV o.length (i + 1)) hgE (OwnIn.of hOE (by rw [unitV_len]; omega) (fun k hk _ => Nat.le_trans (by assumption) hk)) (by rw [unitV_len]; omega)
        have hgn : Ext w4 (wE.setCell ⟨g, i, none⟩ (.slice aE (unitV o.length (i + 1)).length cE)) := grown_own (grown_trans hg hgE) (grown_set1 _ _ _ _) (fun j hj hlt => by cases hj; omega)
        clear hcl hfr e1
        go_wp2
        go_roundw
        case rel => exact ⟨i + 1, by go_num, by omega, hgn, hX5⟩
        case measure => simp [intOf]; omega
    · have hlt' : ¬ ((i : Int) + 1 < o.length) := by omega
      have htl18 : t.length ≤ 18 := by omega
      have hmI : (1 : Int) ≤ m ∧ (m : Int) ≤ 729 := HN.out.2.1
      by_cases ht0 : t.length = 0
      · have ht0' : ¬ (0 : Int) < t.length := by omega
        go_wp2
        clear hpw
        generalize hr' : r % (m : Int) = pw' 
        clear hr'
        go_loopw [18] (fun iv wx => iv = .int .i64 0 ∧ wx = wr) (fun _ _ => 0)
        case atStart => exact ⟨rfl, rfl⟩
        case round =>
          obtain ⟨rfl, rfl⟩ := hrel
          have hz := HN.out.2.2.2.1 _ (grown_trans hg04 hg)
          obtain ⟨h0, h1, h2, h3', h4⟩ := id hX.box
          obtain ⟨k0, k1, k2, k3, k4⟩ := id hz
          have hZ := hz.all (.slice ao o.length co) (.slice ap o.length cp) (.slice ac o.length cc)
          have hT := grown_set3 wr w.heap.size (.slice ao o.length co) (.slice ap o.length cp) (.slice ac o.length cc)
          obtain ⟨_, z0, z1, z2, _⟩ := id hZ
          have HQ := Lib.hid (And.intro hT hX); clear hT hZ hX
          go_wp2
          refine bodyPost_ret (v := .agg #[.slice ao o.length co, .slice ap o.length cp, .slice ac o.length cc]) (by simp [results, Tryz.results178, go_sem, z0, z1, z2]) rfl ?_
          have hq1 := HN.out.2.2.2.2.1
          have hq2 := hg04.size
          exact ⟨_, rfl, grown_own (grown_trans hg0 (grown_trans hg04 hg)) HQ.out.1 (fun j hj hlt => by cases hj; omega), (HQ.out.2.ret HQ.out.1 (by omega)).weak (by omega)⟩
      · have ht0' : (0 : Int) < t.length := by omega
        obtain ⟨kt, hkt⟩ : ∃ kt, t.length = kt + 1 := ⟨t.length - 1, by omega⟩
        obtain ⟨g, cap, z, hvg, hgB, hgp, hgl, hcc, hst⟩ := hX.storeP kt (by omega)
        obtain ⟨rfl, rfl⟩ : ap = some ⟨g, 0, none⟩ ∧ cp = cap := by cases hvg; exact ⟨rfl, rfl⟩
        clear hvg
        have e1 : ∀ w', Near wr g w' → w'.cell? ⟨w5.heap.size, 1, none⟩ = some (.slice (some ⟨g, 0, none⟩) o.length cp) := fun w' h => h.cell hX.box.2.2.1 (by simp; omega)
        have hox := HT.out.2.1
        have hdig : ∀ w' (k : Nat) (x : Int), Ext w4 w' → 0 ≤ x → x ≤ 1000000000 → Calls Tryz.prog 229 #[.slice a4 o.length c4, .int .i64 k, .int .i64 x] w' (Ret w' fun w'' r => ∃ l, l.length = o.length ∧ Own w'.heap.size w'' r l) := fun w' k x he h1 h2 =>
          l07Digits_ok w' _ o k x Any (hOi.ext he) (by omega) hox ⟨h1, h2⟩
        have hbig : o.length ≤ 9223372036854775807 := by omega
        have hkl : (kt : Int) < o.length := by omega
        have HX := Lib.hid (And.intro hX (And.intro hst (And.intro hcc (And.intro hdig (And.intro hbig hkt))))); clear hX hst hcc hdig hox hbig hkt
        have hpl := HN.out.2.2.2.2.2
        have hsI := HN.out.2.2.1
        go_wp2
        have hkt2 : kt < 100000 := by omega
        have hkt := HX.out.2.2.2.2.2
        have hwi : IntKind.i64.wrap ((t.length : Int) - 1) = (kt : Int) := by rw [hkt]; exact i64_sp kt hkt2
        have hwj : wrap64 ((t.length : Int) - 1) = (kt : Int) := by rw [hkt]; exact w64_sp kt hkt2
        clear hkt
        go_region_held3 (fun w' => Near wr g w') (first | exact Near.of (grown_drew _ _) | exact Near.of (by assumption) | exact Near.store (by assumption) | assumption)
          (first
            | (go_at_call 229; refine Calls.mono (Calls.rel (w0 := wr) (by first | exact grown_drew _ _ | assumption) (HX.out.2.2.2.1 _ t.length s (grown_trans hg (by first | exact grown_drew _ _ | assumption)) hsI.1 hsI.2)) ?_; rintro eE wE ⟨vE, rfl, hgE, hsE, lE, hlE, hOE⟩; obtain ⟨aE, cE, hvE, _⟩ := (hOE.ints (by rw [hlE]; exact HX.out.2.2.2.2.1)).shape; subst hvE; have hcl := (HX.out.2.2.1 wE hgE).1; have hfr := (HX.out.2.2.1 wE hgE).2))
        clear hwi hwj
        have hsz := hgE.size
        have hX5 := HX.out.2.1 wE _ lE hgE (OwnIn.of hOE (by rw [hlE]; exact HX.out.2.2.2.2.1) (fun k hk _ => Nat.le_trans (by assumption) hk)) (by rw [hlE]; exact ho18)
        have hgn : Ext w4 (wE.setCell ⟨g, kt, none⟩ (.slice aE lE.length cE)) := grown_own (grown_trans hg hgE) (grown_set1 _ _ _ _) (fun j hj hlt => by cases hj; omega)
        rw [hlE] at hX5 hgn
        have hdig := HX.out.2.2.2.1
        have hbig := HX.out.2.2.2.2.1
        have HD := Lib.hid (And.intro hdig hbig); clear hdig hlE hbig HX
        clear hcl hfr e1 hlt hlt' hkl hgB hgp hgl hsI hOE hgE hsz hsE
        go_wp2
        rw [← hpw]
        clear hpw
        clear hi hg
        generalize wE.setCell ⟨g, kt, none⟩ (.slice aE o.length cE) = w7 at *
        go_loopw [17, 18] (fun pv iv wr => ∃ (i : Nat) (p : Int), iv = .int .i64 i ∧ pv = .int .i64 p ∧ i ≤ t.length ∧ 0 ≤ p ∧ p < 30000 ∧ Ext w4 wr ∧ BX 18 o w4.heap.size w5.heap.size wr (.slice ao o.length co) (.slice (some ⟨g, 0, none⟩) o.length cp) (.slice ac o.length cc)) (fun _ iv _ => t.length - (intOf iv).toNat)
        case atStart => exact ⟨0, pw, rfl, rfl, by omega, hpl.1, by have := hpl.2; omega, hgn, hX5⟩
        case round =>
          clear hX5 hgn hpl
          obtain ⟨i, p, rfl, rfl, hi, hp0, hp1, hg, hX⟩ := hrel
          by_cases hlt : i < t.length
          · have hlt' : (i : Int) < t.length := by omega
            obtain ⟨wo, hwo⟩ : ∃ wo : World, wo = wr := ⟨_, rfl⟩
            go_wp2
            go_loopw [19] (fun jv wx => ∃ (J : Nat) (y : Int), jv = .int .i64 y ∧ y = ((i + 1 + J : Nat) : Int) ∧ i + 1 + J ≤ o.length ∧ Ext w4 wx ∧ BX 18 o w4.heap.size w5.heap.size wx (.slice ao o.length co) (.slice (some ⟨g, 0, none⟩) o.length cp) (.slice ac o.length cc)) (fun jv _ => o.length - (intOf jv).toNat)
            case atStart => exact ⟨t.length - i - 1, _, rfl, by omega, by omega, hg, hX⟩
            case round =>
              clear hX hg hwo
              obtain ⟨J, y, rfl, hy, hJ, hg, hX⟩ := hrel
              by_cases hltj : i + 1 + J < o.length
              · have hyl : y < o.length := by omega
                have hy0 : 0 ≤ y := by omega
                obtain ⟨gc, capc, b, capb, z2, hvc, hcB, hcp, hcl, hcell, hbB, hbp, hbg, hbl, hcc2, hst2⟩ := hX.storeC i J (by omega) (by omega)
                obtain ⟨rfl, rfl⟩ : ac = some ⟨gc, 0, none⟩ ∧ cc = capc := by cases hvc; exact ⟨rfl, rfl⟩
                clear hvc
                have e1 : ∀ w', Near wr b w' → w'.cell? ⟨w5.heap.size, 2, none⟩ = some (.slice (some ⟨gc, 0, none⟩) o.length cc) := fun w' h => h.cell hX.box.2.2.2.1 (by simp; omega)
                have e2 : ∀ w', Near wr b w' → w'.cell? ⟨gc, i, none⟩ = some (.slice (some ⟨b, 0, none⟩) (o.length - 1 - i) capb) := fun w' h => h.cell hcell (by simp; omega)
                have hd2 := HD.out.1
                have hcon : ∀ w', Ext w4 w' → Calls Tryz.prog 229 #[.slice a4 o.length c4, .int .i64 y, .int .i64 p] w' (Ret w' fun w'' r => ∃ l, l.length = o.length ∧ Own w'.heap.size w'' r l) := fun w' he => by
                  rw [hy]; exact hd2 w' _ p he hp0 (by omega)
                have HY := Lib.hid (And.intro hX (And.intro hst2 (And.intro hcc2 (And.intro hcon hy)))); clear hX hst2 hcc2 hcon hd2 hcell
                have hJl : (J : Int) < ((o.length - 1 - i : Nat) : Int) := by omega
                have hio : (i : Int) < o.length := by omega
                go_wp2
                obtain ⟨d, hd⟩ : ∃ d, d = y - (i : Int) := ⟨_, rfl⟩
                have hw1 : IntKind.i64.wrap (y - (i : Int)) = d := by rw [hd]; exact IntWalk.i64_in _ (by omega)
                have hw3 : IntKind.i64.wrap (d - 1) = (J : Int) := by rw [show d - 1 = (J : Int) by omega]; exact IntWalk.i64_in _ (by omega)
                have hw2 : wrap64 (y - (i : Int)) = d := by rw [hd]; exact IntWalk.wrap64_in _ (by clear hw1 hw3; omega)
                have hw4 : wrap64 (d - 1) = (J : Int) := by rw [show d - 1 = (J : Int) by clear hw1 hw2 hw3; omega]; exact IntWalk.wrap64_in _ (by clear hw1 hw2 hw3; omega)
                clear hd hy
                go_region_held3 (fun w' => Near wr b w') (first | exact Near.of (grown_drew _ _) | exact Near.of (by assumption) | exact Near.store (by assumption) | assumption)
                  (first
                    | (go_at_call 229; refine Calls.mono (Calls.rel (w0 := wr) (by first | exact grown_drew _ _ | assumption) (HY.out.2.2.2.1 _ (grown_trans hg (by first | exact grown_drew _ _ | assumption)))) ?_; rintro eE wE ⟨vE, rfl, hgE, hsE, lE, hlE, hOE⟩; obtain ⟨aE, cE, hvE, _⟩ := (hOE.ints (by rw [hlE]; exact HD.out.2)).shape; subst hvE; have hcl := (HY.out.2.2.1 wE hgE).1; have hfr := (HY.out.2.2.1 wE hgE).2))
                clear hw1 hw2 hw3 hw4
                have hX5 := HY.out.2.1 wE _ lE hgE (OwnIn.of hOE (by rw [hlE]; exact HD.out.2) (fun k hk _ => Nat.le_trans (by assumption) hk)) (by rw [hlE]; exact ho18)
                have hgn : Ext w4 (wE.setCell ⟨b, J, none⟩ (.slice aE lE.length cE)) := grown_own (grown_trans hg hgE) (grown_set1 _ _ _ _) (fun j hj hlt => by cases hj; omega)
                rw [hlE] at hX5 hgn
                have hyJ := HY.out.2.2.2.2
                clear hcl hfr e1 e2 hlE
                have HZ := Lib.hid hyJ; clear hyJ
                go_wp2
                go_roundw
                case rel => exact ⟨J + 1, y + 1, rfl, by have := HZ.out; omega, by omega, hgn, hX5⟩
                case measure => have := HZ.out; simp [intOf]; omega
              · have hyl : ¬ (y < o.length) := by omega
                obtain ⟨bt, ot, rfl, _, _, hct⟩ := Ints.at (Ints.ext ht6 (grown_trans hgt hg)) i hlt
                have hte : 2 ≤ gt t i ∧ gt t i ≤ 7 := HT.out.2.2.1 _ (by rw [gt_eq t i hlt]; exact List.getElem_mem hlt)
                have hpow := l01Power_ok wr p (gt t i) m ⟨hp0, hp1⟩ (by omega) (by omega)
                have HP := Lib.hid (And.intro hte hy); clear hte hy
                go_wp2_with fail
                refine Calls.mono hpow ?_
                rintro eP wP ⟨vP, rfl, hgP, pn, rfl, hpn0, hpn1⟩
                have hgn := grown_trans hg hgP
                have hXn := hX.ext hgP
                clear hX hg hpow
                go_wp2
                go_roundw
                case rel => exact ⟨i + 1, pn, by go_num, rfl, by omega, hpn0, hpn1, hgn, hXn⟩
                case measure => simp [intOf]; omega
          · have hlt' : ¬ ((i : Int) < t.length) := by omega
            have hz := HN.out.2.2.2.1 _ (grown_trans hg04 hg)
            obtain ⟨h0, h1, h2, h3', h4⟩ := id hX.box
            obtain ⟨k0, k1, k2, k3, k4⟩ := id hz
            have hZ := hz.all (.slice ao o.length co) (.slice (some ⟨g, 0, none⟩) o.length cp) (.slice ac o.length cc)
            have hT := grown_set3 wr w.heap.size (.slice ao o.length co) (.slice (some ⟨g, 0, none⟩) o.length cp) (.slice ac o.length cc)
            obtain ⟨_, z0, z1, z2, _⟩ := id hZ
            have HQ := Lib.hid (And.intro hT hX); clear hT hZ hX
            go_wp2
            refine bodyPost_ret (v := .agg #[.slice ao o.length co, (.slice (some ⟨g, 0, none⟩) o.length cp), (.slice ac o.length cc)]) (by simp [results, Tryz.results178, go_sem, z0, z1, z2]) rfl ?_
            have hq1 := HN.out.2.2.2.2.1
            have hq2 := hg04.size
            exact ⟨_, rfl, grown_own (grown_trans hg0 (grown_trans hg04 hg)) HQ.out.1 (fun j hj hlt => by cases hj; omega), (HQ.out.2.ret HQ.out.1 (by omega)).weak (by omega)⟩
end Go.Proofs.YtoakmefajbbggaaGreat
namespace Go.Proofs.YtoakmefajbbggaaGreat
open Go.RowKit
attribute [local go_sem ↓] Go.wp_at_zero Go.wp_at_succ

/-- a store elsewhere leaves it -/
theorem BX.by {N : Nat} {o : List Int} {B pb : Nat} {w w' : World} {vo vp vc : Value} (h : BX N o B pb w vo vp vc) {r : Option Nat} (hT : w.grownBy w' r) (hr : ∀ k, r = some k → k < B) : BX N o B pb w' vo vp vc := by
  obtain ⟨P, h1, h2, h3⟩ := h.px
  have hB := h.hB
  refine ⟨hB, Box3.keep h.box hT.size (hT.block _ h.box.1 (fun e => by have := hr _ e.symm; omega)), P, h1, h2, h3.mono (fun k hk hlt => ⟨hk, Nat.lt_of_lt_of_le hlt hT.size, hT.block k hlt (fun e => by have := hr _ e.symm; have : B ≤ k := hk.1; omega)⟩)⟩

/-- reached by growth and by writes into s and g -/
def NearS (w : World) (s g : Nat) (w' : World) : Prop := ∀ k, k < w.heap.size → k ≠ s → k ≠ g → w'.heap[k]? = w.heap[k]?
theorem NearS.of {w w' : World} {s g : Nat} (h : w.grownBy w' (some s)) : NearS w s g w' := fun k hk hs _ => h.block k hk (fun e => hs (by cases e; rfl))
theorem NearS.ext {w w' : World} {s g : Nat} (h : Ext w w') : NearS w s g w' := NearS.of (grown_of_ext _ h)
theorem NearS.two {w w1 w' : World} {s g : Nat} (h : w.grownBy w1 (some s)) (h2 : w1.grownBy w' (some g)) : NearS w s g w' := fun k hk hs hg =>
  (h2.block k (Nat.lt_of_lt_of_le hk h.size) (fun e => hg (by cases e; rfl))).trans (h.block k hk (fun e => hs (by cases e; rfl)))
theorem NearS.cell {w w' : World} {s g : Nat} (h : NearS w s g w') {a : Addr} {v : Value} (hc : w.cell? a = some v) (hne : a.block ≠ g) (hns : a.block ≠ s) : w'.cell? a = some v :=
  (World.cell?_of_block (h a.block (World.block_lt_of_cell? w a hc) hns hne)).trans hc

/-- a list of three integers just made -/
theorem own_lit3 (w : World) (x y z : Int) {B : Nat} (hB : B ≤ w.heap.size) : OwnIn (From B) (w.alloc (.cells #[.int .i64 x, .int .i64 y, .int .i64 z] 2)) (.slice (some ⟨w.heap.size, 0, none⟩) 3 3) [x, y, z] :=
  OwnIn.of (Own.of (World.ownsRow_lit w #[.int .i64 x, .int .i64 y, .int .i64 z] 3 hB (by decide) rfl)) (by simp) (fun k hk _ => hk)

/-- a drawn value and its source -/
def DrawR (B0 sb : Nat) (Φ : World → Value → Prop) (w' : World) (v : Value) : Prop := Φ w' v ∧ Src B0 w' sb

set_option maxRecDepth 100000 in
set_option maxHeartbeats 4000000 in
theorem l07Heisenberg_ok (B0 : Nat) (w : World) (sb : Nat) (p : Int) (hB0 : B0 ≤ w.heap.size) (hs : Src B0 w sb) :
    Calls Tryz.prog 263 #[.pointer (some ⟨sb, 0, none⟩), .int .i64 p] w (Mut w (some sb) (DrawR B0 sb (PresN 3 w.heap.size))) := by
  have hz0 : ∀ w' r, (w.alloc (.cells #[.slice none 0 0, .slice none 0 0, .slice none 0 0] 28)).grownBy w' r → (∀ k, r = some k → k ≠ w.heap.size) → Box3 w' w.heap.size (.slice none 0 0) (.slice none 0 0) (.slice none 0 0) := fun w' r h hr =>
    Box3.keep (Box3.made w 28 _ _ _) h.size (h.block _ (by simp) (fun e => hr _ e.symm rfl))
  have hg0 : Ext w (w.alloc (.cells #[.slice none 0 0, .slice none 0 0, .slice none 0 0] 28)) := World.grownBy_alloc _ _ _
  have hs0 : (w.alloc (.cells #[.slice none 0 0, .slice none 0 0, .slice none 0 0] 28)).heap.size = w.heap.size + 1 := by simp
  have hsl := hs.lt
  have HN := Lib.hid (And.intro hz0 (And.intro hs0 (And.intro hs hsl))); clear hz0 hs0 hs hsl
  go_enter Tryz.func263, Tryz.ntmps263
  go_wp2_with fail
  generalize w.alloc (.cells #[.slice none 0 0, .slice none 0 0, .slice none 0 0] 28) = w0 at *
  have hO1 := own_lit3 w0 p p p (Nat.le_refl _)
  have hgA : Ext w0 (w0.alloc (.cells #[.int .i64 p, .int .i64 p, .int .i64 p] 2)) := World.grownBy_alloc _ _ _
  rw [HN.out.2.1] at hO1
  obtain ⟨o, ho⟩ : ∃ o, o = [p, p, p] := ⟨_, rfl⟩
  have hol : o.length = 3 := by rw [ho]; rfl
  rw [← ho] at hO1
  clear ho
  have hsA : (w0.alloc (.cells #[.int .i64 p, .int .i64 p, .int .i64 p] 2)).heap.size = w.heap.size + 2 := by simp [HN.out.2.1]
  generalize w0.alloc (.cells #[.int .i64 p, .int .i64 p, .int .i64 p] 2) = w1 at *
  refine Calls.mono (l07Trivial_ok w1 _ o _ hO1.ints (by omega)) ?_
  rintro e5 w5 ⟨v5, rfl, hg5, vo, vp, vc, rfl, hX5⟩
  obtain ⟨ao, co, ap, cp, ac, cc, h1, h2, h3⟩ := trivX_shape hX5
  subst h1 h2 h3
  have HO := Lib.hid hol; clear hol
  go_wp2_with fail
  have hgA2 : Ext w5 (w5.alloc (.cells #[.slice ao o.length co, .slice ap o.length cp, .slice ac o.length cc] 28)) := World.grownBy_alloc _ _ _
  have hX := BX.start (N := 3) (B := w1.heap.size) (by have := HO.out; omega) hX5 hgA2 (Box3.made w5 28 (.slice ao o.length co) (.slice ap o.length cp) (.slice ac o.length cc)) hg5.size
  have hs5 := hg5.size
  generalize w5.alloc (.cells #[.slice ao o.length co, .slice ap o.length cp, .slice ac o.length cc] 28) = w6 at *
  have hg6 : Ext w w6 := grown_trans hg0 (grown_trans hgA (grown_trans hg5 hgA2))
  have hg06 : Ext w0 w6 := grown_trans hgA (grown_trans hg5 hgA2)
  clear hX5 hO1 hg5
  obtain ⟨gc, capc, b, capb, z2, hvc, hcB, hcp, hcl, hcell, hbB, hbp, hbg, hbl, hcc2, hst2⟩ := hX.storeC 0 0 (by have := HO.out; omega) (by have := HO.out; omega)
  obtain ⟨rfl, rfl⟩ : ac = some ⟨gc, 0, none⟩ ∧ cc = capc := by cases hvc; exact ⟨rfl, rfl⟩
  clear hvc
  have hgL : Ext w6 (w6.alloc (.cells #[.int .i64 0, .int .i64 1, .int .i64 1] 2)) := World.grownBy_alloc _ _ _
  have hOL := own_lit3 w6 0 1 1 (Nat.le_refl _)
  have c1 := (hX.ext hgL).box.2.2.2.1
  have c2 := hgL.cell hcell (by simp)
  obtain ⟨c3, c4⟩ := hcc2 _ hgL
  have k1 := hX.box.2.2.2.1
  have hX7 := hst2 _ _ _ hgL hOL (by simp)
  have hs7 := hgL.size
  have hgn : Ext w ((w6.alloc (.cells #[.int .i64 0, .int .i64 1, .int .i64 1] 2)).setCell ⟨b, 0, none⟩ (.slice (some ⟨w6.heap.size, 0, none⟩) 3 3)) := grown_own (grown_trans hg6 hgL) (grown_set1 _ _ _ _) (fun j hj hlt => by cases hj; omega)
  have hgn0 : Ext w0 ((w6.alloc (.cells #[.int .i64 0, .int .i64 1, .int .i64 1] 2)).setCell ⟨b, 0, none⟩ (.slice (some ⟨w6.heap.size, 0, none⟩) 3 3)) := grown_own (grown_trans hg06 hgL) (grown_set1 _ _ _ _) (fun j hj hlt => by cases hj; have := HN.out.2.1; omega)
  clear hst2 hX
  obtain ⟨m, hm⟩ : ∃ m, m = o.length - 1 - 0 := ⟨_, rfl⟩
  have hm0 : (0 : Int) < m := by have := HO.out; omega
  have hn0 : 0 < o.length := by have := HO.out; omega
  have hn1 : 1 < o.length := by have := HO.out; omega
  have hnm : 0 < m := by have := HO.out; omega
  have hl0 : (0 : Int) < o.length := by have := HO.out; omega
  have hl1 : (1 : Int) < o.length := by have := HO.out; omega
  rw [← hm] at hcell c2
  clear hm
  have heq : (w6.alloc (.cells #[.int .i64 0, .int .i64 1, .int .i64 1] 2)).setCell ⟨b, 0, none⟩ (.slice (some ⟨w6.heap.size, 0, none⟩) 3 3) = (w6.setCell ⟨b, 0, none⟩ (.slice (some ⟨w6.heap.size, 0, none⟩) 3 3)).alloc (.cells #[.int .i64 0, .int .i64 1, .int .i64 1] 2) := by
    simp [go_sem, hbl]
  rw [heq] at hX7 hgn hgn0
  have i1 : ∀ w', (Instr.indexAt 26 (.slice (some ⟨gc, 0, none⟩) o.length cc) (.int .i64 0)).run Tryz.prog w' = .ok (.pointer (some ⟨gc, 0, none⟩)) w' := fun w' => by
    rw [run_indexAt_slice (h := by rfl), if_pos ⟨by decide, hl0⟩]; kernel_rfl
  go_wp2
  rw [i1]
  clear i1
  go_wp2_with fail
  generalize (w6.setCell ⟨b, 0, none⟩ (.slice (some ⟨w6.heap.size, 0, none⟩) 3 3)).alloc (.cells #[.int .i64 0, .int .i64 1, .int .i64 1] 2) = w7 at *
  have hsb := HN.out.2.2.2
  refine Calls.mono (l01Next_ok B0 w7 sb 2 (HN.out.2.2.1.ext hgn)) ?_
  rintro e8 w8 ⟨v8, rfl, hg8, x, rfl, hx0, hx1, hs8⟩
  have hX8 := hX7.by hg8 (fun k e => by cases e; omega)
  have hgw8 := grown_trans (grown_of_ext (some sb) hgn) hg8
  have hgw08 := grown_trans (grown_of_ext (some sb) hgn0) hg8
  clear hX7 hg8 hgn hgn0 c1 c2 c3 c4 k1 hx0 hx1 hcell hcc2 heq
  by_cases hx : x = 0
  · subst hx
    go_wp2
    obtain ⟨g, capg, z, hvg, hgB, hgp, hgl, hcc, hst⟩ := hX8.storeP 0 (by omega)
    obtain ⟨rfl, rfl⟩ : ap = some ⟨g, 0, none⟩ ∧ cp = capg := by cases hvg; exact ⟨rfl, rfl⟩
    clear hvg
    have e1 : ∀ w', NearS w8 sb g w' → w'.cell? ⟨w5.heap.size, 1, none⟩ = some (.slice (some ⟨g, 0, none⟩) o.length cp) := fun w' h => h.cell hX8.box.2.2.1 (by simp; omega) (by simp; omega)
    have HXa := Lib.hid (And.intro hX8 (And.intro hs8 (And.intro hgw8 hgw08))); clear hX8 hs8 hgw8 hgw08 hcc hst
    go_region_held3 (fun w' => NearS w8 sb g w') (first | exact NearS.ext (grown_drew _ _) | exact NearS.of (by assumption) | exact NearS.of hgL | exact NearS.two hg9 (grown_trans (grown_set1 _ _ _ _) (grown_of_ext _ (World.grownBy_alloc _ _ _))) | assumption)
      (first
        | (go_at_call 84; refine Calls.mono (l01Next_ok B0 w8.drew sb p (HXa.out.2.1.ext (grown_drew _ _))) ?_; rintro e9 w9a ⟨v9, rfl, hg9, xa, rfl, hx0, hx1, hs9⟩; have hg9 : w8.grownBy w9a (some sb) := grown_trans (grown_of_ext (some sb) (grown_drew _ _)) hg9; have hgL : w8.grownBy (w9a.alloc (.cells #[.int .i64 0, .int .i64 0, .int .i64 xa] 2)) (some sb) := grown_trans hg9 (grown_of_ext _ (World.grownBy_alloc _ _ _)); have hX9 := HXa.out.1.by hg9 (fun k e => by cases e; omega); obtain ⟨g', capg', z', hvg', _, _, _, hcc9, hst9⟩ := hX9.storeP 0 (by omega); cases hvg'; have hcl := (hcc9 (w9a.alloc (.cells #[.int .i64 0, .int .i64 0, .int .i64 xa] 2)) (World.grownBy_alloc _ _ _)).1; have hfr := (hcc9 (w9a.alloc (.cells #[.int .i64 0, .int .i64 0, .int .i64 xa] 2)) (World.grownBy_alloc _ _ _)).2))
    have hXa := hst9 _ _ _ (World.grownBy_alloc _ _ _) (own_lit3 w9a 0 0 xa (Nat.le_refl _)) (by simp)
    have hq : (w9a.alloc (.cells #[.int .i64 0, .int .i64 0, .int .i64 xa] 2)).setCell ⟨g, 0, none⟩ (.slice (some ⟨w9a.heap.size, 0, none⟩) 3 3) = (w9a.setCell ⟨g, 0, none⟩ (.slice (some ⟨w9a.heap.size, 0, none⟩) 3 3)).alloc (.cells #[.int .i64 0, .int .i64 0, .int .i64 xa] 2) := by
      simp [go_sem, Nat.lt_of_lt_of_le hgl hg9.size]
    rw [hq] at hXa
    have hT : w9a.grownBy ((w9a.setCell ⟨g, 0, none⟩ (.slice (some ⟨w9a.heap.size, 0, none⟩) 3 3)).alloc (.cells #[.int .i64 0, .int .i64 0, .int .i64 xa] 2)) (some g) := grown_trans (grown_set1 _ _ _ _) (grown_of_ext _ (World.grownBy_alloc _ _ _))
    have hsA2 := hs9.own hT (fun k e => by cases e; omega)
    have hgwA := grown_own (grown_trans HXa.out.2.2.1 hg9) hT (fun j hj hlt => by cases hj; omega)
    have hgw0A := grown_own (grown_trans HXa.out.2.2.2 hg9) hT (fun j hj hlt => by cases hj; have := HN.out.2.1; omega)
    have hXA := hXa
    clear hXa hq hT hcl hfr hcc9 hst9 hX9 hgL hg9 hs9 hx0 hx1 e1
    go_wp2
    generalize (w9a.setCell ⟨g, 0, none⟩ (.slice (some ⟨w9a.heap.size, 0, none⟩) 3 3)).alloc (.cells #[.int .i64 0, .int .i64 0, .int .i64 xa] 2) = wA at *
    have hsw0 := HN.out.2.1
    obtain ⟨g2, capg, z, hvg, hgB, hgp, hgl, hcc, hst⟩ := hXA.storeP 1 (by omega)
    cases hvg
    have e1 : ∀ w', NearS wA sb g w' → w'.cell? ⟨w5.heap.size, 1, none⟩ = some (.slice (some ⟨g, 0, none⟩) o.length cp) := fun w' h => h.cell hXA.box.2.2.1 (by simp; omega) (by simp; omega)
    have HXb := Lib.hid (And.intro hXA (And.intro hsA2 (And.intro hgwA hgw0A))); clear hXA hsA2 hgwA hgw0A hcc hst
    go_region_held3 (fun w' => NearS wA sb g w') (first | exact NearS.ext (grown_drew _ _) | exact NearS.of (by assumption) | exact NearS.of hgL | exact NearS.two hg9 (grown_trans (grown_set1 _ _ _ _) (grown_of_ext _ (World.grownBy_alloc _ _ _))) | assumption)
      (first
        | (go_at_call 84; refine Calls.mono (l01Next_ok B0 wA.drew sb p (HXb.out.2.1.ext (grown_drew _ _))) ?_; rintro e9 w9b ⟨v9, rfl, hg9, xb, rfl, hx0, hx1, hs9⟩; have hg9 : wA.grownBy w9b (some sb) := grown_trans (grown_of_ext (some sb) (grown_drew _ _)) hg9; have hgL : wA.grownBy (w9b.alloc (.cells #[.int .i64 0, .int .i64 0, .int .i64 xb] 2)) (some sb) := grown_trans hg9 (grown_of_ext _ (World.grownBy_alloc _ _ _)); have hX9 := HXb.out.1.by hg9 (fun k e => by cases e; omega); obtain ⟨g', capg', z', hvg', _, _, _, hcc9, hst9⟩ := hX9.storeP 1 (by omega); cases hvg'; have hcl := (hcc9 (w9b.alloc (.cells #[.int .i64 0, .int .i64 0, .int .i64 xb] 2)) (World.grownBy_alloc _ _ _)).1; have hfr := (hcc9 (w9b.alloc (.cells #[.int .i64 0, .int .i64 0, .int .i64 xb] 2)) (World.grownBy_alloc _ _ _)).2))
    have hXa := hst9 _ _ _ (World.grownBy_alloc _ _ _) (own_lit3 w9b 0 0 xb (Nat.le_refl _)) (by simp)
    have hq : (w9b.alloc (.cells #[.int .i64 0, .int .i64 0, .int .i64 xb] 2)).setCell ⟨g, 1, none⟩ (.slice (some ⟨w9b.heap.size, 0, none⟩) 3 3) = (w9b.setCell ⟨g, 1, none⟩ (.slice (some ⟨w9b.heap.size, 0, none⟩) 3 3)).alloc (.cells #[.int .i64 0, .int .i64 0, .int .i64 xb] 2) := by
      simp [go_sem, Nat.lt_of_lt_of_le hgl hg9.size]
    rw [hq] at hXa
    have hT : w9b.grownBy ((w9b.setCell ⟨g, 1, none⟩ (.slice (some ⟨w9b.heap.size, 0, none⟩) 3 3)).alloc (.cells #[.int .i64 0, .int .i64 0, .int .i64 xb] 2)) (some g) := grown_trans (grown_set1 _ _ _ _) (grown_of_ext _ (World.grownBy_alloc _ _ _))
    have hsB := hs9.own hT (fun k e => by cases e; omega)
    have hgwB := grown_own (grown_trans HXb.out.2.2.1 hg9) hT (fun j hj hlt => by cases hj; omega)
    have hgw0B := grown_own (grown_trans HXb.out.2.2.2 hg9) hT (fun j hj hlt => by cases hj; have := HN.out.2.1; omega)
    have hXB := hXa
    clear hXa hq hT hcl hfr hcc9 hst9 hX9 hgL hg9 hs9 hx0 hx1 e1
    generalize (w9b.setCell ⟨g, 1, none⟩ (.slice (some ⟨w9b.heap.size, 0, none⟩) 3 3)).alloc (.cells #[.int .i64 0, .int .i64 0, .int .i64 xb] 2) = wB at *
    have hz := HN.out.1 wB (some sb) hgw0B (fun k e => by cases e; have := HN.out.2.2.2.2; omega)
    obtain ⟨h0, h1, h2, h3', h4⟩ := id hXB.box
    obtain ⟨k0, k1, k2, k3, k4⟩ := id hz
    have hZ := hz.all (.slice ao o.length co) (.slice (some ⟨g, 0, none⟩) o.length cp) (.slice (some ⟨gc, 0, none⟩) o.length cc)
    have hT := grown_set3 wB w.heap.size (.slice ao o.length co) (.slice (some ⟨g, 0, none⟩) o.length cp) (.slice (some ⟨gc, 0, none⟩) o.length cc)
    obtain ⟨_, z0, z1, z2, _⟩ := id hZ
    have HQ := Lib.hid (And.intro hT (And.intro hXB hsB)); clear hT hZ
    go_wp2
    refine bodyPost_ret (v := .agg #[.slice ao o.length co, (.slice (some ⟨g, 0, none⟩) o.length cp), .slice (some ⟨gc, 0, none⟩) o.length cc]) (by simp [results, Tryz.results263, go_sem, z0, z1, z2]) rfl ?_
    exact ⟨_, rfl, grown_own hgwB HQ.out.1 (fun j hj hlt => by cases hj; omega), (HQ.out.2.1.ret HQ.out.1 (by omega)).weak (by omega), HQ.out.2.2.own HQ.out.1 (fun k e => by cases e; exact hB0)⟩
  · skip
    have hz := HN.out.1 w8 (some sb) hgw08 (fun k e => by cases e; have := HN.out.2.2.2.2; omega)
    obtain ⟨h0, h1, h2, h3', h4⟩ := id hX8.box
    obtain ⟨k0, k1, k2, k3, k4⟩ := id hz
    have hZ := hz.all (.slice ao o.length co) (.slice ap o.length cp) (.slice (some ⟨gc, 0, none⟩) o.length cc)
    have hT := grown_set3 w8 w.heap.size (.slice ao o.length co) (.slice ap o.length cp) (.slice (some ⟨gc, 0, none⟩) o.length cc)
    obtain ⟨_, z0, z1, z2, _⟩ := id hZ
    have HQ := Lib.hid (And.intro hT (And.intro hX8 hs8)); clear hT hZ
    go_wp2
    refine bodyPost_ret (v := .agg #[.slice ao o.length co, (.slice ap o.length cp), .slice (some ⟨gc, 0, none⟩) o.length cc]) (by simp [results, Tryz.results263, go_sem, z0, z1, z2]) rfl ?_
    exact ⟨_, rfl, grown_own hgw8 HQ.out.1 (fun j hj hlt => by cases hj; omega), (HQ.out.2.1.ret HQ.out.1 (by omega)).weak (by omega), HQ.out.2.2.own HQ.out.1 (fun k e => by cases e; exact hB0)⟩

end Go.Proofs.YtoakmefajbbggaaGreat
