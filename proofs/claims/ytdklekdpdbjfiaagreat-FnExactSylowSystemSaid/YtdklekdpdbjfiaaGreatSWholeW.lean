/-
  impl.whole: the sequence of all elements.
-/
import Derived.Test.YtdklekdpdbjfiaaGreatK2
import Derived.Test.YtdklekdpdbjfiaaGreatK1
import Derived.Test.YtdklekdpdbjfiaaGreatK9
import Derived.Test.YtdklekdpdbjfiaaGreatSFratLaw
namespace Go.Proofs.YtdklekdpdbjfiaaGreat
open Go.RowKit

set_option maxRecDepth 100000 in
set_option maxHeartbeats 1000000 in
theorem whole_ok (P : Pr) (G : Grp P) (w : World) (p : Value) (Sp : Nat → Prop) (hp : PresP Sp w p P) :
    Calls Tryz.prog 96 #[p] w (Ret w fun w' v => RowsO w.heap.size w' v (cseq P (Vec P.orders))) := by
  have hn6 := G.v.n6
  have hgen := generators_ok P G.v w p Sp hp
  obtain ⟨pb, po, rfl⟩ := hp.shape
  have hl : (gensOf P.orders.length).length ≤ 6 := by rw [gensOf_len]; exact hn6
  rw [G.cseq_all]
  generalize gensOf P.orders.length = GS at *
  go_enter Tryz.func96, Tryz.ntmps96
  go_wp2_with fail
  refine Calls.mono hgen ?_
  rintro e1 w1 ⟨v1, rfl, hg1, hO⟩
  obtain ⟨az, capz, hvz, _, _⟩ := SlD.shape (hO.toD (by omega))
  subst hvz
  clear hgen
  go_wp2
  go_ret
  exact ⟨_, rfl, hg1, hO⟩

end Go.Proofs.YtdklekdpdbjfiaaGreat
