/-
  Drawing: spec.l12Draw.
  Drawing: spec.l12Pair and spec.l13Draw.
  Drawing: spec.l01From makes the source of numbers.
  Drawing: laws.big, spec.DrawProductSize.
  Drawing: spec.l14Pair, spec.DrawDoubleCosets (printed by gen_drawdb.py).
  Moebius values of the lattice: the sum over all subgroups above one; the number of generating lists.
  Plain: the elements of a consistent presentation as a type with products; subgroups, cosets, their counting.
  Plain: double cosets as sets; their sizes; the count of the fixed cosets (Burnside).
  append of a row that lay there before: the list takes it out of the set of blocks that it avoids.
  [][]int64{row} as a list of the call's own.
  The library's sort at [][]int64, laid from the shelf.
  A row that the call has built, sorted by the library: any elements of one cell. (After the library's Sort/OwnSortedInts, at a general reading.)
-/
import Derived.Test.YtdcobapnlpeaaaaGreatD10
import Derived.Test.YtdcobapnlpeaaaaGreatD11
import Derived.Test.YtdcobapnlpeaaaaGreatD14
import Derived.Test.YtdcobapnlpeaaaaGreatD2
import Derived.Test.YtdcobapnlpeaaaaGreatD3
import Derived.Test.YtdcobapnlpeaaaaGreatD7
import Derived.Test.YtdcobapnlpeaaaaGreatD8
import Derived.Test.YtdcobapnlpeaaaaGreatD9
import Derived.StillTailTactics
import Derived.Shelf.SlSortCmp.NoneTotal
import Derived.Sort.OwnSortedInts
namespace Go.Proofs.YtdcobapnlpeaaaaGreat
open Go.RowKit
attribute [local go_sem ↓] Go.wp_at_zero Go.wp_at_succ
def RowsDr (B:Nat) (w':World) (v:Value):Prop:=∃U:List (List Int),U.length≤8∧(∀x∈U,x.length≤21)∧Rows2 (From B) w' v U
theorem drow_one {w:World}{B n:Nat}{a:Option Addr}{c:Nat}{l:List Int} (hl:l.length≤21) (hO:Own B w (.slice a n c) l) (hB:B≤w.heap.size) :
  RowsDr B (w.alloc (.cells #[.slice a n c] 24)) (.slice (some ⟨w.heap.size,0,none⟩) 1 1):=by
 refine⟨[l],by simp,by simpa using hl,⟨_,_,rfl,⟨Nat.le_refl _,by simp,fun h=>by cases h⟩,fun i hi=>⟨w.heap.size,0,.slice a n c,rfl,hB,by simp,?_,?_⟩⟩⟩
 ·have:i=0:=by simpa using hi
  subst this
  rw[World.cell?_alloc_at _ _ _ _ rfl];rfl
 ·have:i=0:=by simpa using hi
  subst this
  exact Ints.ext (xs:=l) (ints_of_own hO (by omega) (fun k hk=>(hO.lt k hk).1)) (World.grownBy_alloc _ _ _)
theorem shq_dr {w:World}{B:Nat}{v:Value}{U:List (List Int)} (h1:U.length≤8) (h2:∀x∈U,x.length≤21) (h:ShQ (fun k=>k<B) B w v U):RowsDr B w v:=
 ⟨U,h1,h2,Rows2.sub (ShQ.rowsB h (fun _ hk=>hk)) (fun _ hk _=>Nat.le_of_not_lt hk)⟩
theorem rowsO_put {w w':World}{g n cap:Nat}{a:Option Addr}{m c:Nat}{U:List (List Int)}{l:List Int}{B C:Nat} (hO:RowsO B w (.slice (some ⟨g,0,none⟩) n cap) U) (hn:n=U.length) (hU:U.length≤8) (h2:∀x∈U,x.length≤21) (hs:w.heap.size≤C)
  (hb:∀k,B≤k→k<w.heap.size→w'.heap[k]? = w.heap[k]?) (hsz:w.heap.size≤w'.heap.size) (hl:l.length≤21) (hu:Own C w' (.slice a m c) l) (hi:0<U.length) (hBC:B≤C) :
  (∃z,w'.cell? ⟨g,0,none⟩=some z)∧w'.frozen? ⟨g,0,none⟩=false∧B≤g∧g<w.heap.size∧RowsDr B (w'.setCell ⟨g,0,none⟩ (.slice a m c)) (.slice (some ⟨g,0,none⟩) n cap):=by
 have h1:RowsI (fun k=>B≤k∧k<w.heap.size) w (.slice (some ⟨g,0,none⟩) n cap) U:=SlI.of hO (by omega) (fun k h h'=>⟨h,h'⟩)
 have h3:RowsI (fun k=>B≤k∧k<w.heap.size) w' (.slice (some ⟨g,0,none⟩) n cap) U:=rdRowsI.mono h1 (fun k hk hlt=>⟨hk,Nat.lt_of_lt_of_le hlt hsz,hb k hk.1 hlt⟩)
 obtain⟨hz,hf⟩:=SlI.place h3 0 hi
 have hg:B≤g∧g<w.heap.size:=by
  rcases SlI.form h3 with⟨e,_⟩|⟨g',c',e,hF,_⟩
  ·cases e
  ·cases e;exact hF
 have h3':SlI (fun F w u (x:List Int)=>Ints F w u x) 24 (fun k=>B≤k∧k<w.heap.size) w' (.slice (some ⟨g,0,none⟩) n cap) U:=SlI.map (fun _ _ _ _ h=>h.ints) h3
 have hrd:RdOk (fun F w u (x:List Int)=>Ints F w u x):=⟨fun h hb=>Ints.mono h hb,fun h=>by obtain⟨_,_,rfl,_⟩:=h.shape;rfl⟩
 have hui:Ints (From C) w' (.slice a m c) l:=ints_of_own hu (by omega) (fun k hk=>(hu.lt k hk).1)
 have hp:=SlI.putR hrd h3' hui (fun k hk h=>by have hk:C≤k:=hk;omega) 0
 refine⟨hz,hf,hg.1,hg.2,U.set 0 l,by simpa using hU,fun x hx => ?_,Rows2.sub (S:=fun k=>(B≤k∧k<w.heap.size)∨From C k) hp (fun k hk _ => ?_)⟩
 ·rcases List.mem_or_eq_of_mem_set hx with h|h
  ·exact h2 x h
  ·rw[h];exact hl
 ·rcases hk with h|h
  ·exact h.1
  ·exact Nat.le_trans hBC h
set_option maxRecDepth 100000 in
set_option maxHeartbeats 16000000 in
theorem l12Draw_ok (B0:Nat) (w:World) (sb:Nat) (pv:Value) (P:Pr) (F:Nat→Prop) (hB0:B0≤w.heap.size) (hs:Src B0 w sb) (hp:PresV F w pv P) (hF:∀k,F k→k≠sb) (hn:P.orders.length≤20) :
  Calls Tryz.prog 138 #[.pointer (some ⟨sb,0,none⟩),pv] w (Mut w (some sb) (DrawR B0 sb (RowsDr w.heap.size))):=by
 have hsb:=hs.lt
 obtain⟨vo,vp,vc,rfl,h3⟩:=hp
 obtain⟨ao,co,hvo,_,_⟩:=h3.o.shape
 obtain⟨ap,cp,hvp,_,_⟩:=Sl.shape h3.p
 obtain⟨ac,cc,hvc,_,_⟩:=Sl.shape h3.c
 subst hvo hvp hvc
 have hbA:=Box3.made w 28 (.slice ao P.orders.length co) (.slice ap P.powers.length cp) (.slice ac P.conj.length cc)
 have hgA:Ext w (w.alloc (.cells #[.slice ao P.orders.length co,.slice ap P.powers.length cp,.slice ac P.conj.length cc] 28)):=World.grownBy_alloc _ _ _
 have h3A:=h3.ext hgA
 have hsA:=hs.ext hgA
 have hzA:(w.alloc (.cells #[.slice ao P.orders.length co,.slice ap P.powers.length cp,.slice ac P.conj.length cc] 28)).heap.size=w.heap.size+1:=by simp
 have HZ:=Lib.hid (And.intro hsA h3A);clear hsA hs h3 h3A
 go_enter Tryz.func138,Tryz.ntmps138
 go_wp2_with fail
 generalize w.alloc (.cells #[.slice ao P.orders.length co,.slice ap P.powers.length cp,.slice ac P.conj.length cc] 28)=w0 at *
 refine Calls.mono (l08Group_ok P w0 _ F ⟨_,_,_,rfl,HZ.out.2⟩) ?_
 rintro e1 w1 ⟨v1,rfl,hg1,rfl⟩
 have hb1:=hbA.ext hg1
 have hs1:=HZ.out.1.ext hg1
 have hP1:PresV F w1 (.agg #[.slice ao P.orders.length co,.slice ap P.powers.length cp,.slice ac P.conj.length cc]) P:=⟨_,_,_,rfl,HZ.out.2.ext hg1⟩
 have hgw1:=grown_trans (grown_of_ext (some sb) hgA) (grown_of_ext (some sb) hg1)
 have hz1:w.heap.size+1≤w1.heap.size:=by have:=hg1.size;omega
 have H1:=Lib.hid (And.intro hs1 (And.intro hP1 hgw1));clear hs1 hP1 hgw1 hgA hg1 hbA HZ hzA
 obtain⟨b0,b1,b2,b3,b4⟩:=id hb1
 cases hr:rconsB P with
 | false=>
  go_wp2_with fail
  refine Calls.mono (l07Vectors_ok B0 w1 sb _ P F (by omega) H1.out.1 H1.out.2.1 hF hn) ?_
  rintro e2 w2 ⟨v2,rfl,hg2,⟨a2,c2,l2,rfl,hl2,hO2⟩,hs2⟩
  have hz2:=hg2.size
  have H2:=Lib.hid (And.intro hl2 (And.intro hO2 (And.intro hs2 hg2)));clear hl2 hO2 hs2 hg2
  go_wp2_with fail
  go_ret
  have hgE:=World.grownBy_alloc w2 (.cells #[.slice a2 l2.length c2] 24) none
  refine⟨_,rfl,grown_trans H1.out.2.2 (grown_trans H2.out.2.2.2 (grown_of_ext _ hgE)),?_,H2.out.2.2.1.ext hgE⟩
  exact drow_one H2.out.1 (Own.weak H2.out.2.1 (by omega)) (by omega)
 | true=>
  have G:=grp_of_r hr
  have hn6:=G.v.n6
  go_wp2_with fail
  refine Calls.mono (l12Some_ok B0 w1 sb _ P F G (by omega) H1.out.1 H1.out.2.1 hF) ?_
  rintro e2 w2 ⟨v2,rfl,hg2,⟨U,hUl,hUv,hQ⟩,hs2⟩
  have hb2:=hb1.moved hg2 (by omega)
  have hz2:=hg2.size
  obtain⟨aU,cU,rfl,hUm⟩:=hQ.shape
  have HU:=Lib.hid (And.intro hUl (And.intro hUv (And.intro hQ hs2)));clear hUv hQ hs2
  have HG:=Lib.hid hg2;clear hg2 b0 b1 b2 b3 b4
  go_wp2_with fail
  refine Calls.mono (l01Next_ok B0 w2 sb 30 HU.out.2.2.2) ?_
  rintro e3 w3 ⟨v3,rfl,hg3,x,rfl,_,hx1,hs3⟩
  have hb3:=hb2.moved hg3 (by omega)
  have hz3:=hg3.size
  have hQ3:ShQ (fun k=>k<w1.heap.size) w1.heap.size w3 (.slice aU U.length cU) U:=HU.out.2.2.1.kept hg3.size (fun j hj hc=>hg3.block j hj (fun e=>by
   have:=Option.some.inj e
   rcases hc with hc|hc
   ·have:=(HU.out.2.2.1.lt j hc).1;omega
   ·omega)) (fun _ _ h=>h)
  have hP3:PresV F w3 (.agg #[.slice ao P.orders.length co,.slice ap P.powers.length cp,.slice ac P.conj.length cc]) P:=by
   obtain⟨_,_,_,e,h⟩:=H1.out.2.1
   exact⟨_,_,_,e,h.mono (frame_of (grown_trans HG.out hg3) (fun k hk _=>⟨hk,fun e=>hF k hk (Option.some.inj e).symm⟩))⟩
  have hgw3:=grown_trans H1.out.2.2 (grown_trans HG.out hg3)
  have HU2:=Lib.hid (And.intro HU.out.2.1 (And.intro hQ3 (And.intro hs3 (And.intro hP3 hgw3))));clear hQ3 hs3 hP3 hgw3 HU HG H1 hg3 hb2 hb1 hx1
  obtain⟨b0,b1,b2,b3,b4⟩:=id hb3
  have hdone:RowsDr w.heap.size w3 (.slice aU U.length cU):=by
   obtain⟨U',h1,h2,h3⟩:=shq_dr (by omega) (fun x hx=>by have:=HU2.out.1 x hx;omega) HU2.out.2.1
   exact⟨U',h1,h2,Rows2.sub h3 (fun k hk _=>by have hk:w1.heap.size≤k:=hk;show w.heap.size≤k;omega)⟩
  have HD:=Lib.hid hdone;clear hdone
  by_cases hx0:x=0
  ·subst hx0
   go_wp2_with fail
   refine Calls.mono (l07Vectors_ok B0 w3 sb _ P F (by omega) HU2.out.2.2.1 HU2.out.2.2.2.1 hF hn) ?_
   rintro e4 w4 ⟨v4,rfl,hg4,⟨a4,c4,l4,rfl,hl4,hO4⟩,hs4⟩
   have hz4:=hg4.size
   have hQ4:ShQ (fun k=>k<w1.heap.size) w1.heap.size w4 (.slice aU U.length cU) U:=HU2.out.2.1.kept hg4.size (fun j hj hc=>hg4.block j hj (fun e=>by
    have:=Option.some.inj e
    rcases hc with hc|hc
    ·have:=(HU2.out.2.1.lt j hc).1;omega
    ·omega)) (fun _ _ h=>h)
   have hxI:Ints (fun k=>¬k<w1.heap.size∧(Value.slice aU U.length cU).ownBlock≠some k) w4 (.slice a4 l4.length c4) l4:=ints_of_own hO4 (by omega) (fun k hk=>by
    have h1:=(hO4.lt k hk).1
    exact⟨by omega,fun e=>by have:=(HU2.out.2.1.lt k e).2;omega⟩)
   have hob:∀j,(Value.slice aU U.length cU).ownBlock=some j→w1.heap.size≤j:=fun j hj=>(hQ4.lt j hj).1
   have hUU:U.length≤1000000:=by omega
   have hbase:w1.heap.size≤w4.heap.size:=by omega
   have H4:=Lib.hid (And.intro hl4 (And.intro hs4 (And.intro hg4 (And.intro hob (And.intro hUU hbase)))));clear hl4 hs4 hg4 hO4 hob
   go_wp2_with (first|(at_builtin;refine wp_shq_app rfl _ _ rfl (fun k=>k<w1.heap.size) w1.heap.size _ _ U l4 rfl w4 hQ4 rfl hxI rfl H4.out.2.2.2.2.1 H4.out.2.2.2.2.2 ?_;intro v5 w5 hQ5 hg5 hb5)|fail)
   go_ret
   have hg15:=grown_own (grown_trans HU2.out.2.2.2.2 H4.out.2.2.1) hg5 (fun j hj hlt=>by have:=H4.out.2.2.2.1 j hj;omega)
   refine⟨_,rfl,hg15,?_,H4.out.2.1.own hg5 (fun j hj=>by have:=H4.out.2.2.2.1 j hj;omega)⟩
   obtain ⟨U',h1,h2,h3⟩:=shq_dr (by simp;omega) (fun x hx=>by
    rcases List.mem_append.1 hx with h|h
    ·have:=HU2.out.1 x h;omega
    ·rw[List.mem_singleton.1 h];exact H4.out.1) hQ5
   exact⟨U',h1,h2,Rows2.sub h3 (fun k hk _=>by have hk:w1.heap.size≤k:=hk;show w.heap.size≤k;omega)⟩
  by_cases hx1:x=1
  ·subst hx1
   clear hx0
   by_cases hU1:1<U.length
   ·obtain ⟨u0,U1,rfl⟩:∃u U1,U=u :: U1:=by
     cases U with
     | nil=>simp at hU1
     | cons u U1=>exact⟨_,_,rfl⟩
    have hT:=HU2.out.2.1.tail
    have hrt:=run_tail_rows w3 aU (u0 :: U1).length cU 1 (by omega) (by omega)
    rw[show(1:Int).toNat=1 from rfl] at hrt
    generalize subSl (.slice aU (u0 :: U1).length cU) 1 (u0 :: U1).length=vT at hT hrt
    obtain⟨aT,cT,rfl,_⟩:=hT.shape
    have hi1:(1:Int)<((u0 :: U1).length:Nat):=by omega
    have HT:=Lib.hid hT;clear hT
    obtain⟨m,hm⟩:∃m,m=(u0 :: U1).length:=⟨_,rfl⟩
    rw[←hm] at hrt hi1 hU1 hUl hUm
    rw[←hm]
    have HM:=Lib.hid hm;clear hm
    go_wp2_with fail
    go_ret
    refine⟨_,rfl,HU2.out.2.2.2.2,?_,HU2.out.2.2.1⟩
    obtain⟨U',h1,h2,h3⟩:=shq_dr (by have:=HM.out;simp at this;omega) (fun x hx=>by have:=HU2.out.1 x (List.mem_cons_of_mem _ hx);omega) HT.out
    exact⟨U',h1,h2,Rows2.sub h3 (fun k hk _=>by have hk:w1.heap.size≤k:=hk;show w.heap.size≤k;omega)⟩
   ·go_wp2_with fail
    go_ret
    exact⟨_,rfl,HU2.out.2.2.2.2,HD.out,HU2.out.2.2.1⟩
  by_cases hx2:x=2
  ·subst hx2
   clear hx0 hx1
   by_cases hU0:0<U.length
   ·have hRU:=HU2.out.2.1.rows
    have hUv:∀x∈U,x.length≤1000000:=fun x hx=>by have:=HU2.out.1 x hx;omega
    have hUU:U.length≤1000000:=by omega
    have HC:=Lib.hid (And.intro hRU (And.intro hUv hUU));clear hRU hUv hUU
    go_wp2_with fail
    refine Calls.mono (l01Own2N_ok w3 _ U Any HC.out.1 HC.out.2.1 HC.out.2.2) ?_
    rintro e4 w4 ⟨v4,rfl,hg4,hO4,g4,c4,rfl⟩
    have hb4:=hb3.ext hg4
    have hz4:=hg4.size
    have hs4:=HU2.out.2.2.1.ext hg4
    have hP4:PresV F w4 (.agg #[.slice ao P.orders.length co,.slice ap P.powers.length cp,.slice ac P.conj.length cc]) P:=by
     obtain⟨_,_,_,e,h⟩:=HU2.out.2.2.2.1
     exact⟨_,_,_,e,h.ext hg4⟩
    have H4:=Lib.hid (And.intro hs4 (And.intro hP4 (And.intro hO4 (grown_trans HU2.out.2.2.2.2 (grown_of_ext _ hg4)))));clear hs4 hP4 hO4 hg4 b0 b1 b2 b3 b4 hb3
    obtain⟨b0,b1,b2,b3,b4⟩:=id hb4
    go_wp2_with fail
    refine Calls.mono (l07Vectors_ok B0 w4 sb _ P F (by omega) H4.out.1 H4.out.2.1 hF hn) ?_
    rintro e5 w5 ⟨v5,rfl,hg5,⟨a5,c5,l5,rfl,hl5,hO5⟩,hs5⟩
    have hz5:=hg5.size
    obtain⟨⟨z,hz⟩,hfz,hgB,hgl,hR⟩:=rowsO_put (w':=w5) H4.out.2.2.1 rfl (by omega) (fun x hx=>by have:=HU2.out.1 x hx;omega) (Nat.le_refl _) (fun k hk hlt=>hg5.block k hlt (fun e=>by have:=Option.some.inj e;omega)) hz5 hl5 hO5 hU0 hz4
    have H5:=Lib.hid (And.intro hg5 (And.intro hs5 hR));clear hg5 hs5 hR hl5 hO5 hb4 b0 b1 b2 b3 b4
    have hi0:(0:Int)<(U.length:Nat):=by omega
    go_wp2_with fail
    go_ret
    have hgs:=grown_set1 w5 g4 0 (.slice a5 l5.length c5)
    refine⟨_,rfl,grown_own (grown_trans H4.out.2.2.2 H5.out.1) hgs (fun j hj hlt=>by have:=Option.some.inj hj;omega),?_,H5.out.2.1.own hgs (fun j hj=>by have:=Option.some.inj hj;omega)⟩
    obtain⟨U',h1,h2,h3⟩:=H5.out.2.2
    exact⟨U',h1,h2,Rows2.sub h3 (fun k hk _=>by have hk:w3.heap.size≤k:=hk;show w.heap.size≤k;omega)⟩
   ·go_wp2_with fail
    go_ret
    exact⟨_,rfl,HU2.out.2.2.2.2,HD.out,HU2.out.2.2.1⟩
  ·have e0:(x == 0)=false:=by simp[hx0]
   have e1:(x == 1)=false:=by simp[hx1]
   have e2:(x == 2)=false:=by simp[hx2]
   clear hx0 hx1 hx2
   go_wp2_with fail
   go_ret
   exact⟨_,rfl,HU2.out.2.2.2.2,HD.out,HU2.out.2.2.1⟩
end Go.Proofs.YtdcobapnlpeaaaaGreat
namespace Go.Proofs.YtdcobapnlpeaaaaGreat
open Go.RowKit
attribute [local go_sem ↓] Go.wp_at_zero Go.wp_at_succ
theorem RowsDr.shape {B:Nat}{w:World}{v:Value} (h:RowsDr B w v):∃a n c,v=.slice a n c:=by
 obtain⟨U,_,_,h⟩:=h
 obtain⟨a,c,rfl,_⟩:=Sl.shape h
 exact⟨_,_,_,rfl⟩
theorem RowsDr.low {B B':Nat}{w:World}{v:Value} (h:RowsDr B w v) (hB:B'≤B):RowsDr B' w v:=by
 obtain⟨U,h1,h2,h3⟩:=h
 exact⟨U,h1,h2,Rows2.sub h3 (fun k hk _=>Nat.le_trans hB hk)⟩
theorem RowsDr.kept {B:Nat}{r:Option Nat}{w w':World}{v:Value} (h:RowsDr B w v) (hg:w.grownBy w' r) (hr:∀k,r=some k→k<B):RowsDr B w' v:=by
 obtain⟨U,h1,h2,h3⟩:=h
 exact⟨U,h1,h2,Rows2.mono h3 (frame_of hg (fun k hk _=>⟨hk,fun e=>by have:=hr k e;have hk:B≤k:=hk;omega⟩))⟩
theorem Pres3.keptB {B:Nat}{r:Option Nat}{w w':World}{vo vp vc:Value}{P:Pr} (h:Pres3 (From B) w vo vp vc P) (hg:w.grownBy w' r) (hr:∀k,r=some k→k<B):Pres3 (From B) w' vo vp vc P:=
 h.mono (frame_of hg (fun k hk _=>⟨hk,fun e=>by have:=hr k e;have hk:B≤k:=hk;omega⟩))
theorem Pres3.low {B B':Nat}{w:World}{vo vp vc:Value}{P:Pr} (h:Pres3 (From B) w vo vp vc P) (hB:B'≤B):Pres3 (From B') w vo vp vc P:=
 h.mono (fun _ hk hlt=>⟨Nat.le_trans hB hk,hlt,rfl⟩)
def PairA (M B:Nat) (w':World) (v:Value):Prop:=∃vo vp vc rv P,v=.tuple #[.agg #[vo,vp,vc],rv]∧P.orders.length≤M∧Pres3 (From B) w' vo vp vc P∧RowsDr B w' rv
def TripA (M B:Nat) (w':World) (v:Value):Prop:=∃vo vp vc rv sv P,v=.tuple #[.agg #[vo,vp,vc],rv,sv]∧P.orders.length≤M∧Pres3 (From B) w' vo vp vc P∧RowsDr B w' rv∧RowsDr B w' sv
theorem pair_ret {w wX:World}{sb B0 M B:Nat}{x y z rv:Value}{Q:Pr} (hgw:w.grownBy wX (some sb)) (hB:w.heap.size<B) (hsrc:Src B0 wX sb) (hB0:B0≤w.heap.size) (hM:Q.orders.length≤M) (hP:Pres3 (From B) wX x y z Q) (hr:RowsDr B wX rv) :
  Mut w (some sb) (DrawR B0 sb (PairA M w.heap.size)) (.returned (.tuple #[.agg #[x,y,z],rv])) (((wX.setCell ⟨w.heap.size,0,none⟩ x).setCell ⟨w.heap.size,1,none⟩ y).setCell ⟨w.heap.size,2,none⟩ z):=by
 have hT:=grown_set3 wX w.heap.size x y z
 exact⟨_,rfl,grown_own hgw hT (fun j hj hlt=>by cases hj;omega),⟨x,y,z,rv,Q,rfl,hM,(hP.keptB hT (fun k hk=>by cases hk;omega)).low (by omega),(hr.kept hT (fun k hk=>by cases hk;omega)).low (by omega)⟩,hsrc.own hT (fun k hk=>by cases hk;exact hB0)⟩
set_option maxRecDepth 100000 in
set_option maxHeartbeats 8000000 in
theorem l12Pair_ok (B0:Nat) (w:World) (sb:Nat) (limit:Int) (hB0:B0≤w.heap.size) (hs:Src B0 w sb) :
  Calls Tryz.prog 114 #[.pointer (some ⟨sb,0,none⟩),.int .i64 limit] w (Mut w (some sb) (DrawR B0 sb (PairA 7 w.heap.size))):=by
 have hsb:=hs.lt
 have hbB:=Box3.made w 28 (.slice none 0 0) (.slice none 0 0) (.slice none 0 0)
 have hg0:Ext w (w.alloc (.cells #[.slice none 0 0,.slice none 0 0,.slice none 0 0] 28)):=World.grownBy_alloc _ _ _
 have hs0:(w.alloc (.cells #[.slice none 0 0,.slice none 0 0,.slice none 0 0] 28)).heap.size=w.heap.size+1:=by simp
 have hsW:=Lib.hid (hs.ext hg0);clear hs
 go_enter Tryz.func114,Tryz.ntmps114
 go_wp2_with fail
 generalize w.alloc (.cells #[.slice none 0 0,.slice none 0 0,.slice none 0 0] 28)=w0 at *
 have hs00:w.heap.size+1≤w0.heap.size:=by omega
 clear hs0
 refine Calls.mono (l07Draw_ok B0 w0 sb limit (by omega) hsW.out) ?_
 rintro e1 w1 ⟨v1,rfl,hg1,⟨vo,vp,vc,Q,rfl,hQl,hQ⟩,hs1⟩
 obtain⟨a1,n1,c1,hy1⟩:∃a n c,vo=.slice a n c:=by obtain⟨a,c,e,_⟩:=hQ.o.shape;exact⟨_,_,_,e⟩
 obtain⟨a2,n2,c2,hy2⟩:∃a n c,vp=.slice a n c:=by obtain⟨a,c,e,_⟩:=Sl.shape hQ.p;exact⟨_,_,_,e⟩
 obtain⟨a3,n3,c3,hy3⟩:∃a n c,vc=.slice a n c:=by obtain⟨a,c,e,_⟩:=Sl.shape hQ.c;exact⟨_,_,_,e⟩
 subst hy1 hy2 hy3
 have hgq:Ext w1 (w1.alloc (.cells #[.slice a1 n1 c1,.slice a2 n2 c2,.slice a3 n3 c3] 28)):=World.grownBy_alloc _ _ _
 have hbQ:=Box3.made w1 28 (.slice a1 n1 c1) (.slice a2 n2 c2) (.slice a3 n3 c3)
 obtain⟨pb,hpb⟩:∃pb,pb=w1.heap.size:=⟨_,rfl⟩
 rw[←hpb] at hbQ
 have hs1':=hg1.size
 have hQ2:=hQ.ext hgq
 have hb1:=hbB.moved hg1 (by omega)
 have hb2:=hb1.ext hgq
 have hs2:=hs1.ext hgq
 have hgw2:=grown_trans (grown_of_ext (some sb) hg0) (grown_trans hg1 (grown_of_ext (some sb) hgq))
 have hzq:w1.heap.size≤(w1.alloc (.cells #[.slice a1 n1 c1,.slice a2 n2 c2,.slice a3 n3 c3] 28)).heap.size:=hgq.size
 have HP:=Lib.hid hpb
 have HQ:=Lib.hid (And.intro hQ2 (And.intro hs2 (And.intro hgw2 hQl)));clear hQ hQ2 hs2 hs1 hg1 hbB hg0 hsW hb1 hgq hgw2 hQl
 go_wp2_with fail
 rw[←HP.out]
 generalize w1.alloc (.cells #[.slice a1 n1 c1,.slice a2 n2 c2,.slice a3 n3 c3] 28)=w2 at *
 have hpw:w0.heap.size≤pb:=by omega
 clear hpb HP
 obtain⟨q0,q1,q2,q3,q4⟩:=id hbQ
 have e0:∀w',NearS w2 sb w.heap.size w'→w'.cell? ⟨pb,0,none⟩=some (.slice a1 n1 c1):=fun w' h=>h.cell q1 (by simp;omega) (by simp;omega)
 have e1:∀w',NearS w2 sb w.heap.size w'→w'.cell? ⟨pb,1,none⟩=some (.slice a2 n2 c2):=fun w' h=>h.cell q2 (by simp;omega) (by simp;omega)
 have e2:∀w',NearS w2 sb w.heap.size w'→w'.cell? ⟨pb,2,none⟩=some (.slice a3 n3 c3):=fun w' h=>h.cell q3 (by simp;omega) (by simp;omega)
 clear q0 q1 q2 q3 q4 hbQ
 go_region_held3 (fun w'=>NearS w2 sb w.heap.size w') (first|exact NearS.ext (grown_drew _ _)|exact NearS.of (by assumption)|exact NearS.two hg3 (grown_set3 _ _ _ _ _)|assumption)
  (first
   | (go_at_call 138;refine Calls.mono (l12Draw_ok B0 w2.drew sb _ Q _ (by have:=(grown_drew w2 none).size;omega) (HQ.out.2.1.ext (grown_drew _ _)) ⟨_,_,_,rfl,HQ.out.1.ext (grown_drew _ _)⟩ (fun k hk e=>by have hk:w0.heap.size≤k:=hk;omega) (by have:=HQ.out.2.2.2;omega)) ?_;rintro e3 w3 ⟨rv,rfl,hg3a,hR,hs3⟩;have hg3:w2.grownBy w3 (some sb):=grown_trans (grown_of_ext (some sb) (grown_drew _ _)) hg3a;obtain⟨sa,sn,sc,rfl⟩:=hR.shape;have hb3:=hb2.moved hg3 (by omega);obtain⟨b0,b1,b2,b3,b4⟩:=id hb3))
 have hdz:=(grown_drew w2 none).size
 have hZ:=hb3.all (.slice a1 n1 c1) (.slice a2 n2 c2) (.slice a3 n3 c3)
 obtain⟨-,z0,z1,z2,-⟩:=id hZ
 have hP3:=HQ.out.1.keptB hg3 (fun k hk=>by have:=Option.some.inj hk;omega)
 have HF:=Lib.hid (And.intro (grown_trans HQ.out.2.2.1 hg3) (And.intro hR (And.intro hs3 (And.intro hP3 HQ.out.2.2.2))));clear hR hs3 hP3 HQ hg3 hg3a hb2 hb3 hZ e0 e1 e2
 go_wp2_with fail
 refine bodyPost_ret (v := .tuple #[.agg #[.slice a1 n1 c1,.slice a2 n2 c2,.slice a3 n3 c3],.slice sa sn sc]) (by simp[results,Tryz.results114,go_sem,z0,z1,z2]) rfl ?_
 exact pair_ret HF.out.1 (B:=w0.heap.size) (by omega) HF.out.2.2.1 hB0 HF.out.2.2.2.2 HF.out.2.2.2.1 (HF.out.2.1.low (by omega))
end Go.Proofs.YtdcobapnlpeaaaaGreat
namespace Go.Proofs.YtdcobapnlpeaaaaGreat
open Go.RowKit
attribute [local go_sem ↓] Go.wp_at_zero Go.wp_at_succ
set_option maxRecDepth 100000 in
set_option maxHeartbeats 8000000 in
theorem l01From_ok (w:World) (cv:Value) (bs:List Int) (S:Nat→Prop) (hb:Bytes S w cv bs) :
  Calls Tryz.prog 96 #[cv] w (Ret w fun w' v=>v=.pointer (some ⟨w.heap.size,0,none⟩)∧Src (w.heap.size+1) w' w.heap.size):=by
 obtain⟨a,cap,rfl,_,hlen⟩:=Sl.shape hb
 have hbA:=Box3.made w 172 (.slice a bs.length cap) (.int .i64 0) (.int .i64 76001)
 have hgA:Ext w (w.alloc (.cells #[.slice a bs.length cap,.int .i64 0,.int .i64 76001] 172)):=World.grownBy_alloc _ _ _
 go_enter Tryz.func96,Tryz.ntmps96
 go_wp2_with fail
 generalize w.alloc (.cells #[.slice a bs.length cap,.int .i64 0,.int .i64 76001] 172)=w0 at *
 go_loopw [4] (fun iv wr=>∃(i seed:Nat),iv=.int .i64 i∧i≤bs.length∧seed<2147483647∧Ext w wr∧Box3 wr w.heap.size (.slice a bs.length cap) (.int .i64 0) (.int .i64 seed)) (fun iv _=>bs.length-(intOf iv).toNat)
 case atStart=>exact⟨0,76001,rfl,by omega,by omega,hgA,hbA⟩
 case round=>
  clear hbA hgA
  obtain⟨i,seed,rfl,hi,hs,hg,hB⟩:=hrel
  by_cases hlt:i<bs.length
  ·by_cases h64:i<64
   ·obtain ⟨b,off,rfl,hbS,hbl,hcb,hx0,hx1⟩:=Bytes.at hb i hlt
    have hcr:=hg.cell hcb (by simp)
    generalize gt bs i=x at hcb hcr hx0 hx1
    have hli:(i:Int)<(bs.length:Nat):=by omega
    have h6i:(i:Int)<64:=by omega
    obtain⟨s2,hs2⟩:∃s2:Nat,((seed:Int)*71+x)%2147483647=(s2:Int)∧s2<2147483647:=⟨(((seed:Int)*71+x)%2147483647).toNat,by omega,by omega⟩
    have hBs:=(hB.put (.int .i64 (s2:Nat))).2.2
    have hgs:=grown_set wr w.heap.size 2 (.int .i64 (s2:Nat))
    have hgn:Ext w (wr.setCell ⟨w.heap.size,2,none⟩ (.int .i64 (s2:Nat))):=grown_own hg hgs (fun j hj hlt=>by have:=Option.some.inj hj;omega)
    have hBd:=hBs.ext (grown_drew (wr.setCell ⟨w.heap.size,2,none⟩ (.int .i64 (s2:Nat))) none)
    have hgd:=grown_trans hgn (grown_drew (wr.setCell ⟨w.heap.size,2,none⟩ (.int .i64 (s2:Nat))) none)
    have hw1:IntKind.i64.wrap ((seed:Int)*71)=(seed:Int)*71:=IntWalk.i64_in _ (by omega)
    have hw2:IntKind.i64.wrap ((seed:Int)*71+x)=(seed:Int)*71+x:=IntWalk.i64_in _ (by omega)
    have hw0:IntKind.i64.wrap x=x:=IntWalk.i64_in _ (by omega)
    have hrem:((seed:Int)*71+x).tmod 2147483647=(s2:Int):=by rw[Int.tmod_eq_emod_of_nonneg (by omega)];exact hs2.1
    obtain⟨h0,h1,h2,h3,h4⟩:=id hB
    have c0:wr.drew.cell? ⟨w.heap.size,2,none⟩=some (.int .i64 seed):=h3
    have c1:wr.drew.cell? ⟨b,off+i,none⟩=some (.int .u8 x):=hcr
    have c2:w.heap.size<wr.drew.heap.size:=h0
    have c3:=h4
    have HQ:=Lib.hid (And.intro hgd (And.intro hBd (And.intro hs2.2 hb)));clear hgd hBd hs2 hb hgn hgs hBs hB hg h0 h1 h2 h3 hcb hcr
    go_wp2
    go_still_tail 15,(by kernel_rfl)
    change wpList _ _ _ _ _ wr.drew
    go_wp2
    go_roundw
    case rel=>exact⟨i+1,s2,by go_num,by omega,HQ.out.2.2.1,HQ.out.1,HQ.out.2.1⟩
    case measure=>simp[intOf];omega
   ·have hli:(i:Int)<(bs.length:Nat):=by omega
    have h6i:¬(i:Int)<64:=by omega
    have HQ:=Lib.hid (And.intro hg hB);clear hg hB
    go_wp2
    go_ret
    exact⟨_,rfl,HQ.out.1,rfl,_,0,seed,bs,HQ.out.2,Bytes.mono hb (fun k _ hlt=>⟨⟨by omega,by omega⟩,Nat.lt_of_lt_of_le hlt HQ.out.1.size,HQ.out.1.block k hlt (by simp)⟩),by omega,hs,by omega⟩
  ·have hli:¬(i:Int)<(bs.length:Nat):=by omega
   have HQ:=Lib.hid (And.intro hg hB);clear hg hB
   go_wp2
   go_ret
   exact⟨_,rfl,HQ.out.1,rfl,_,0,seed,bs,HQ.out.2,Bytes.mono hb (fun k _ hlt=>⟨⟨by omega,by omega⟩,Nat.lt_of_lt_of_le hlt HQ.out.1.size,HQ.out.1.block k hlt (by simp)⟩),by omega,hs,by omega⟩
end Go.Proofs.YtdcobapnlpeaaaaGreat
namespace Go.Proofs.YtdcobapnlpeaaaaGreat
open Go.RowKit
attribute [local go_sem ↓] Go.wp_at_zero Go.wp_at_succ
theorem big_ok (w:World) (cv:Value) (bs:List Int) (S:Nat→Prop) (hb:Bytes S w cv bs) :
  Calls Tryz.prog 15 #[cv] w fun e w'=>e=.returned (.bool (decide (4096<bs.length)))∧w=w':=by
 obtain⟨a,cap,rfl,_,hlen⟩:=Sl.shape hb
 go_enter Tryz.func15,Tryz.ntmps15
 by_cases h:4096<bs.length
 ·have hi:(4096:Int)<(bs.length:Nat):=by omega
  go_wp2
  go_ret
  exact⟨ret_b (by simp[h]),rfl⟩
 ·have hi:¬(4096:Int)<(bs.length:Nat):=by omega
  go_wp2
  go_ret
  exact⟨ret_b (by simp),rfl⟩
end Go.Proofs.YtdcobapnlpeaaaaGreat
namespace Go.Proofs.YtdcobapnlpeaaaaGreat
open Go.RowKit
attribute [local go_sem ↓] Go.wp_at_zero Go.wp_at_succ
set_option maxRecDepth 100000 in
set_option maxHeartbeats 8000000 in
theorem l14Pair_ok (B0:Nat) (w:World) (sb:Nat) (hB0:B0≤w.heap.size) (hs:Src B0 w sb) :
  Calls Tryz.prog 176 #[.pointer (some ⟨sb,0,none⟩)] w (Mut w (some sb) (DrawR B0 sb (PairA 7 w.heap.size))):=by
 have hsb:=hs.lt
 have hbB:=Box3.made w 28 (.slice none 0 0) (.slice none 0 0) (.slice none 0 0)
 have hg0:Ext w (w.alloc (.cells #[.slice none 0 0,.slice none 0 0,.slice none 0 0] 28)):=World.grownBy_alloc _ _ _
 have hs0:(w.alloc (.cells #[.slice none 0 0,.slice none 0 0,.slice none 0 0] 28)).heap.size=w.heap.size+1:=by simp
 have hsW:=Lib.hid (hs.ext hg0);clear hs
 go_enter Tryz.func176,Tryz.ntmps176
 go_wp2_with fail
 generalize w.alloc (.cells #[.slice none 0 0,.slice none 0 0,.slice none 0 0] 28)=w0 at *
 have hs00:w.heap.size+1≤w0.heap.size:=by omega
 clear hs0
 refine Calls.mono (l01Next_ok B0 w0 sb 15 hsW.out) ?_
 rintro e3 w3 ⟨v3,rfl,hg3,x,rfl,_,hx1,hs3⟩
 have hb3:=hbB.moved hg3 (by omega)
 have hgw3:=grown_trans (grown_of_ext (some sb) hg0) hg3
 have hsz3:=hg3.size
 have HS:=Lib.hid hs3;clear hs3 hg3 hbB hg0 hsW hx1
 by_cases hx0:x=0
 ·subst hx0
  go_wp2_with fail
  refine Calls.mono (l12Pair_ok B0 w3 sb 243 (by omega) HS.out) ?_
  rintro e4 w4 ⟨v4,rfl,hg4,⟨uo,up,uc,rv,R,rfl,hRl,hR,hR1⟩,hs4⟩
  obtain⟨y1,m1,k1,hy1⟩:∃a n c,uo=.slice a n c:=by obtain⟨a,c,e,_⟩:=hR.o.shape;exact⟨_,_,_,e⟩
  obtain⟨y2,m2,k2,hy2⟩:∃a n c,up=.slice a n c:=by obtain⟨a,c,e,_⟩:=Sl.shape hR.p;exact⟨_,_,_,e⟩
  obtain⟨y3,m3,k3,hy3⟩:∃a n c,uc=.slice a n c:=by obtain⟨a,c,e,_⟩:=Sl.shape hR.c;exact⟨_,_,_,e⟩
  obtain⟨ra,rn,rc,rfl⟩:=hR1.shape
  subst hy1 hy2 hy3
  have hb4:=hb3.moved hg4 (by omega)
  have hgw4:=grown_trans hgw3 hg4
  have hs44:=hg4.size
  obtain⟨b0,b1,b2,b3,b4⟩:=id hb4
  have hT:=grown_set3 w4 w.heap.size (.slice y1 m1 k1) (.slice y2 m2 k2) (.slice y3 m3 k3)
  have hA:=World.grownBy_alloc (((w4.setCell ⟨w.heap.size,0,none⟩ (.slice y1 m1 k1)).setCell ⟨w.heap.size,1,none⟩ (.slice y2 m2 k2)).setCell ⟨w.heap.size,2,none⟩ (.slice y3 m3 k3)) (.cells #[.slice y1 m1 k1,.slice y2 m2 k2,.slice y3 m3 k3] 28) none
  have hZ:=(hb4.all (.slice y1 m1 k1) (.slice y2 m2 k2) (.slice y3 m3 k3)).ext hA
  obtain⟨-,z0,z1,z2,-⟩:=id hZ
  have hin:∀k,some w.heap.size=some k→k<w3.heap.size:=fun k hk=>by have:=Option.some.inj hk;omega
  have hend:Mut w (some sb) (DrawR B0 sb (PairA 7 w.heap.size)) (.returned (.tuple #[.agg #[.slice y1 m1 k1,.slice y2 m2 k2,.slice y3 m3 k3],.slice ra rn rc])) ((((w4.setCell ⟨w.heap.size,0,none⟩ (.slice y1 m1 k1)).setCell ⟨w.heap.size,1,none⟩ (.slice y2 m2 k2)).setCell ⟨w.heap.size,2,none⟩ (.slice y3 m3 k3)).alloc (.cells #[.slice y1 m1 k1,.slice y2 m2 k2,.slice y3 m3 k3] 28)):=
   ⟨_,rfl,grown_trans (grown_own hgw4 hT (fun j hj hlt=>by have:=Option.some.inj hj;omega)) (grown_of_ext (some sb) hA),⟨_,_,_,_,R,rfl,hRl,((hR.keptB hT hin).ext hA).low (by omega),((hR1.kept hT hin).kept hA (fun k hk=>by cases hk)).low (by omega)⟩,(hs4.own hT (fun k hk=>by have:=Option.some.inj hk;omega)).ext hA⟩
  have HE:=Lib.hid hend;clear hend hT hA hZ hb4 hgw4 hg4 hR hR1 hs4 hRl
  go_wp2_with fail
  refine bodyPost_ret (v := .tuple #[.agg #[.slice y1 m1 k1,.slice y2 m2 k2,.slice y3 m3 k3],.slice ra rn rc]) (by simp[results,Tryz.results176,go_sem,z0,z1,z2]) rfl ?_
  exact HE.out
 have hxb0:(x == 0)=false:=by simp[hx0]
 clear hx0
 go_wp2_with fail
 refine Calls.mono (l12Pair_ok B0 w3 sb 48 (by omega) HS.out) ?_
 rintro e4 w4 ⟨v4,rfl,hg4,⟨uo,up,uc,rv,R,rfl,hRl,hR,hR1⟩,hs4⟩
 obtain⟨y1,m1,k1,hy1⟩:∃a n c,uo=.slice a n c:=by obtain⟨a,c,e,_⟩:=hR.o.shape;exact⟨_,_,_,e⟩
 obtain⟨y2,m2,k2,hy2⟩:∃a n c,up=.slice a n c:=by obtain⟨a,c,e,_⟩:=Sl.shape hR.p;exact⟨_,_,_,e⟩
 obtain⟨y3,m3,k3,hy3⟩:∃a n c,uc=.slice a n c:=by obtain⟨a,c,e,_⟩:=Sl.shape hR.c;exact⟨_,_,_,e⟩
 obtain⟨ra,rn,rc,rfl⟩:=hR1.shape
 subst hy1 hy2 hy3
 have hb4:=hb3.moved hg4 (by omega)
 have hgw4:=grown_trans hgw3 hg4
 have hs44:=hg4.size
 obtain⟨b0,b1,b2,b3,b4⟩:=id hb4
 have hT:=grown_set3 w4 w.heap.size (.slice y1 m1 k1) (.slice y2 m2 k2) (.slice y3 m3 k3)
 have hA:=World.grownBy_alloc (((w4.setCell ⟨w.heap.size,0,none⟩ (.slice y1 m1 k1)).setCell ⟨w.heap.size,1,none⟩ (.slice y2 m2 k2)).setCell ⟨w.heap.size,2,none⟩ (.slice y3 m3 k3)) (.cells #[.slice y1 m1 k1,.slice y2 m2 k2,.slice y3 m3 k3] 28) none
 have hZ:=(hb4.all (.slice y1 m1 k1) (.slice y2 m2 k2) (.slice y3 m3 k3)).ext hA
 obtain⟨-,z0,z1,z2,-⟩:=id hZ
 have hin:∀k,some w.heap.size=some k→k<w3.heap.size:=fun k hk=>by have:=Option.some.inj hk;omega
 have hend:Mut w (some sb) (DrawR B0 sb (PairA 7 w.heap.size)) (.returned (.tuple #[.agg #[.slice y1 m1 k1,.slice y2 m2 k2,.slice y3 m3 k3],.slice ra rn rc])) ((((w4.setCell ⟨w.heap.size,0,none⟩ (.slice y1 m1 k1)).setCell ⟨w.heap.size,1,none⟩ (.slice y2 m2 k2)).setCell ⟨w.heap.size,2,none⟩ (.slice y3 m3 k3)).alloc (.cells #[.slice y1 m1 k1,.slice y2 m2 k2,.slice y3 m3 k3] 28)):=
  ⟨_,rfl,grown_trans (grown_own hgw4 hT (fun j hj hlt=>by have:=Option.some.inj hj;omega)) (grown_of_ext (some sb) hA),⟨_,_,_,_,R,rfl,hRl,((hR.keptB hT hin).ext hA).low (by omega),((hR1.kept hT hin).kept hA (fun k hk=>by cases hk)).low (by omega)⟩,(hs4.own hT (fun k hk=>by have:=Option.some.inj hk;omega)).ext hA⟩
 have HE:=Lib.hid hend;clear hend hT hA hZ hb4 hgw4 hg4 hR hR1 hs4 hRl
 go_wp2_with fail
 refine bodyPost_ret (v := .tuple #[.agg #[.slice y1 m1 k1,.slice y2 m2 k2,.slice y3 m3 k3],.slice ra rn rc]) (by simp[results,Tryz.results176,go_sem,z0,z1,z2]) rfl ?_
 exact HE.out
set_option maxRecDepth 100000 in
set_option maxHeartbeats 8000000 in
theorem DrawDoubleCosets_ok (w:World) (cv:Value) (bs:List Int) (S:Nat→Prop) (hb:Bytes S w cv bs) :
  Calls Tryz.prog 80 #[cv] w (Ret w (TripA 7 w.heap.size)):=by
 obtain⟨a,cap,rfl,_,_⟩:=Sl.shape hb
 have hbB:=Box3.made w 28 (.slice none 0 0) (.slice none 0 0) (.slice none 0 0)
 have hg0:Ext w (w.alloc (.cells #[.slice none 0 0,.slice none 0 0,.slice none 0 0] 28)):=World.grownBy_alloc _ _ _
 have hs0:(w.alloc (.cells #[.slice none 0 0,.slice none 0 0,.slice none 0 0] 28)).heap.size=w.heap.size+1:=by simp
 have hb0:=Bytes.ext hb hg0
 go_enter Tryz.func80,Tryz.ntmps80
 go_wp2_with fail
 generalize w.alloc (.cells #[.slice none 0 0,.slice none 0 0,.slice none 0 0] 28)=w0 at *
 have hs00:w.heap.size+1≤w0.heap.size:=by omega
 clear hs0
 refine Calls.mono (l01From_ok w0 _ bs S hb0) ?_
 rintro e0 wS ⟨v0,rfl,hgS,rfl,hsS⟩
 have hzS:w0.heap.size+1≤wS.heap.size:=by have:=hsS.lt;omega
 have hbS:=hbB.ext hgS
 obtain⟨sb,hsb⟩:∃sb,sb=w0.heap.size:=⟨_,rfl⟩
 rw[←hsb] at hsS
 have hsb1:w.heap.size+1≤sb∧sb+1≤wS.heap.size:=by omega
 have hgw0:=grown_trans hg0 hgS
 have HSB:=Lib.hid hsb
 clear hbB hb0 hg0 hgS hzS hs00
 go_wp2_with fail
 rw[←HSB.out]
 refine Calls.mono (l14Pair_ok (sb+1) wS sb (by omega) (by rw[HSB.out];rw[HSB.out] at hsS;exact hsS)) ?_
 rintro e1 w1 ⟨v1,rfl,hg1,⟨vo,vp,vc,rv,Q,rfl,hQl,hQ,hR1⟩,hs1⟩
 obtain⟨a1,n1,c1,hy1⟩:∃a n c,vo=.slice a n c:=by obtain⟨a,c,e,_⟩:=hQ.o.shape;exact⟨_,_,_,e⟩
 obtain⟨a2,n2,c2,hy2⟩:∃a n c,vp=.slice a n c:=by obtain⟨a,c,e,_⟩:=Sl.shape hQ.p;exact⟨_,_,_,e⟩
 obtain⟨a3,n3,c3,hy3⟩:∃a n c,vc=.slice a n c:=by obtain⟨a,c,e,_⟩:=Sl.shape hQ.c;exact⟨_,_,_,e⟩
 obtain⟨ra,rn,rc,rfl⟩:=hR1.shape
 subst hy1 hy2 hy3
 have hgq:Ext w1 (w1.alloc (.cells #[.slice a1 n1 c1,.slice a2 n2 c2,.slice a3 n3 c3] 28)):=World.grownBy_alloc _ _ _
 have hbQ:=Box3.made w1 28 (.slice a1 n1 c1) (.slice a2 n2 c2) (.slice a3 n3 c3)
 obtain⟨pb,hpb⟩:∃pb,pb=w1.heap.size:=⟨_,rfl⟩
 rw[←hpb] at hbQ
 have hs1':=hg1.size
 have hQ2:=hQ.ext hgq
 have hR2:=hR1.kept hgq (fun k hk=>by cases hk)
 clear hsb
 have hb1:=hbS.moved hg1 (by omega)
 have hb2:=hb1.ext hgq
 have hs2:=hs1.ext hgq
 have hgw2:Ext w (w1.alloc (.cells #[.slice a1 n1 c1,.slice a2 n2 c2,.slice a3 n3 c3] 28)):=grown_trans (grown_own hgw0 hg1 (fun j hj hlt=>by have:=Option.some.inj hj;omega)) hgq
 have hzq:w1.heap.size≤(w1.alloc (.cells #[.slice a1 n1 c1,.slice a2 n2 c2,.slice a3 n3 c3] 28)).heap.size:=hgq.size
 have HP:=Lib.hid hpb
 have HQ:=Lib.hid (And.intro hQ2 (And.intro hs2 (And.intro hgw2 (And.intro hQl hR2))));clear hQ hQ2 hs2 hs1 hg1 hbS hgw0 hsS hb1 hgq hgw2 hQl hR1 hR2
 go_wp2_with fail
 rw[←HP.out]
 generalize w1.alloc (.cells #[.slice a1 n1 c1,.slice a2 n2 c2,.slice a3 n3 c3] 28)=w2 at *
 have hpw:wS.heap.size≤pb:=by omega
 clear hpb HP
 obtain⟨q0,q1,q2,q3,q4⟩:=id hbQ
 have e0:∀w',NearS w2 sb w.heap.size w'→w'.cell? ⟨pb,0,none⟩=some (.slice a1 n1 c1):=fun w' h=>h.cell q1 (by simp;omega) (by simp;omega)
 have e1:∀w',NearS w2 sb w.heap.size w'→w'.cell? ⟨pb,1,none⟩=some (.slice a2 n2 c2):=fun w' h=>h.cell q2 (by simp;omega) (by simp;omega)
 have e2:∀w',NearS w2 sb w.heap.size w'→w'.cell? ⟨pb,2,none⟩=some (.slice a3 n3 c3):=fun w' h=>h.cell q3 (by simp;omega) (by simp;omega)
 clear q0 q1 q2 q3 q4 hbQ
 go_region_held3 (fun w'=>NearS w2 sb w.heap.size w') (first|exact NearS.ext (grown_drew _ _)|exact NearS.of (by assumption)|exact NearS.two hg3 (grown_set3 _ _ _ _ _)|assumption)
  (first
   | (go_at_call 138;refine Calls.mono (l12Draw_ok (sb+1) w2.drew sb _ Q _ (by have:=(grown_drew w2 none).size;omega) (HQ.out.2.1.ext (grown_drew _ _)) ⟨_,_,_,rfl,HQ.out.1.ext (grown_drew _ _)⟩ (fun k hk e=>by have hk:wS.heap.size≤k:=hk;omega) (by have:=HQ.out.2.2.2.1;omega)) ?_;rintro e3 w3 ⟨sv,rfl,hg3a,hR,hs3⟩;have hg3:w2.grownBy w3 (some sb):=grown_trans (grown_of_ext (some sb) (grown_drew _ _)) hg3a;obtain⟨sa,sn,sc,rfl⟩:=hR.shape;have hb3:=hb2.moved hg3 (by omega);obtain⟨b0,b1,b2,b3,b4⟩:=id hb3))
 have hdz:=(grown_drew w2 none).size
 have hZ:=hb3.all (.slice a1 n1 c1) (.slice a2 n2 c2) (.slice a3 n3 c3)
 obtain⟨-,z0,z1,z2,-⟩:=id hZ
 have hP3:=HQ.out.1.keptB hg3 (fun k hk=>by have:=Option.some.inj hk;omega)
 have hR3:=HQ.out.2.2.2.2.kept hg3 (fun k hk=>by have:=Option.some.inj hk;omega)
 have hT:=grown_set3 w3 w.heap.size (.slice a1 n1 c1) (.slice a2 n2 c2) (.slice a3 n3 c3)
 have hin:∀k,some w.heap.size=some k→k<wS.heap.size:=fun k hk=>by have:=Option.some.inj hk;omega
 have hend:Ret w (TripA 7 w.heap.size) (.returned (.tuple #[.agg #[.slice a1 n1 c1,.slice a2 n2 c2,.slice a3 n3 c3],.slice ra rn rc,.slice sa sn sc])) (((w3.setCell ⟨w.heap.size,0,none⟩ (.slice a1 n1 c1)).setCell ⟨w.heap.size,1,none⟩ (.slice a2 n2 c2)).setCell ⟨w.heap.size,2,none⟩ (.slice a3 n3 c3)):=
  ⟨_,rfl,grown_own (grown_own HQ.out.2.2.1 hg3 (fun j hj hlt=>by have:=Option.some.inj hj;omega)) hT (fun j hj hlt=>by have:=Option.some.inj hj;omega),_,_,_,_,_,Q,rfl,HQ.out.2.2.2.1,(hP3.keptB hT hin).low (by omega),(hR3.kept hT hin).low (by omega),(hR.kept hT (fun k hk=>by have:=Option.some.inj hk;omega)).low (by omega)⟩
 have HE:=Lib.hid hend
 clear hend hT hZ hR hs3 hP3 HQ hg3 hg3a hb2 hb3 hR3 e0 e1 e2
 go_wp2_with fail
 refine bodyPost_ret (v := .tuple #[.agg #[.slice a1 n1 c1,.slice a2 n2 c2,.slice a3 n3 c3],.slice ra rn rc,.slice sa sn sc]) (by simp[results,Tryz.results80,go_sem,z0,z1,z2]) rfl ?_
 exact HE.out
end Go.Proofs.YtdcobapnlpeaaaaGreat
namespace Go.Proofs.YtdcobapnlpeaaaaGreat
open Go.RowKit
section
variable {P:Pr} (G:Grp P)
include G
theorem Grp.order_elems {H:List Int→Prop} (S:Sub P H):prodU P (cseq P H) (cseq P H).length=(elemsIn P H).length:=by
 rw[←G.els_sorted S,(sortL_perm _).length_eq]
 exact(elsP_len G.v (G.seq_facts S).1 _ (Nat.le_refl _)).symm
omit G in
theorem elemsIn_nodup {P:Pr} (hP:Valid P) (H:List Int→Prop):(elemsIn P H).Nodup:=
 List.nodup_iff_pairwise_ne.2 ((elemsIn_asc hP H).imp (fun {a b} h e=>by subst e;omega))
end
section
variable {P:Pr} (G:Grp P)
include G
end
end Go.Proofs.YtdcobapnlpeaaaaGreat
namespace Go.Proofs.YtdcobapnlpeaaaaGreat
def El {P:Pr} (_:Grp P):Type := {x:List Int // Vec P.orders x}
section
variable {P:Pr}{G:Grp P}
instance:Mul (El G):=⟨fun x y=>⟨rMul P x.1 y.1,G.mulV x.2 y.2⟩⟩
instance:One (El G):=⟨⟨zeros P.orders.length,G.oneV⟩⟩
instance:Inv (El G):=⟨fun x=>⟨rInv P x.1,G.invV x.2⟩⟩
theorem El.ass (x y z:El G):x*y*z=x*(y*z):=Subtype.ext (G.ass x.2 y.2 z.2)
theorem El.ol (x:El G):1*x=x:=Subtype.ext (G.grp.el _ x.2)
theorem El.or (x:El G):x*1=x:=Subtype.ext (G.grp.er _ x.2)
theorem El.il (x:El G):x⁻¹ * x=1:=Subtype.ext (G.inv_mul x.2)
theorem El.ir (x:El G):x*x⁻¹ = 1:=Subtype.ext (G.mul_inv x.2)
theorem El.ilc (x y:El G):x⁻¹ * (x*y)=y:=by rw[←El.ass,El.il,El.ol]
theorem El.irc (x y:El G):x*(x⁻¹ * y)=y:=by rw[←El.ass,El.ir,El.ol]
theorem El.inv_of {x y:El G} (h:x*y=1):y=x⁻¹ :=by rw[←El.ilc x y,h,El.or]
theorem El.mi (x y:El G):(x*y)⁻¹ = y⁻¹ * x⁻¹ := (El.inv_of (by rw[El.ass,El.irc,El.ir])).symm
theorem El.ii (x:El G):x⁻¹⁻¹ = x:=(El.inv_of (El.il x)).symm
def ep (x:El G):Nat→El G
 | 0=>1
 | k+1=>ep x k*x
theorem ep_val (x:El G):∀k,(ep x k).1=pw P x.1 k
 | 0=>rfl
 | k+1=>by
  show rMul P (ep x k).1 x.1=_
  rw[ep_val x k];rfl
structure SG (H:El G→Prop):Prop where
 one:H 1
 mul:∀x y,H x→H y→H (x*y)
 inv:∀x,H x→H x⁻¹
theorem SG.ep {H:El G→Prop} (S:SG H) {x:El G} (hx:H x) (k:Nat):H (ep x k):=by
 induction k with
 | zero=>exact S.one
 | succ k ih=>exact S.mul _ _ ih hx
theorem SG.and {H K:El G→Prop} (S:SG H) (R:SG K):SG (fun x=>H x∧K x):=
 ⟨⟨S.one,R.one⟩,fun _ _ h k=>⟨S.mul _ _ h.1 k.1,R.mul _ _ h.2 k.2⟩,fun _ h=>⟨S.inv _ h.1,R.inv _ h.2⟩⟩
def dT (d:Nat) (x:El G):Prop:=∀k,k<d→gt x.1 k=0
theorem dT_T {d:Nat}{x:El G} : dT d x↔T P d x.1:=⟨fun h=>⟨x.2,h⟩,fun h=>h.2⟩
theorem dT_sg {d:Nat} (hd:d≤P.orders.length):SG (dT (G:=G) d):=
 ⟨dT_T.2 (T.zeros G.v d),fun _ _ h k=>dT_T.2 (G.T_mul hd (dT_T.1 h) (dT_T.1 k)),fun _ h=>dT_T.2 (G.T_inv hd (dT_T.1 h))⟩
theorem dT_top {x:El G} (h:dT P.orders.length x):x=1:=Subtype.ext ((dT_T.1 h).top G.v)
theorem dT_up {d:Nat}{x:El G} (h:dT d x) (h0:gt x.1 d=0):dT (d+1) x:=dT_T.2 ((dT_T.1 h).up h0)
theorem dT_down {d:Nat}{x:El G} (h:dT (d+1) x):dT d x:=fun k hk=>h k (by omega)
theorem dT_zero (x:El G):dT 0 x:=fun k hk=>by omega
def pv (H:El G→Prop) (d:Nat):Prop:=d<P.orders.length∧∃x,H x∧dT d x∧gt x.1 d≠0
theorem hit7 (q b c:Nat) (hq:q=2∨q=3∨q=5∨q=7) (h0:0<b) (h1:b<q) (hc:c<q):∃j,(j*b)%q=c:=by
 have key:∀q,q<8→(q=2∨q=3∨q=5∨q=7)→∀b,b<q→0<b→∀c,c<q→∃j,j<q∧(j*b)%q=c:=by decide
 obtain⟨j,_,h⟩:=key q (by omega) hq b h1 h0 c hc
 exact⟨j,h⟩
theorem ordN (G:Grp P) {d:Nat} (hd:d<P.orders.length):∃q:Nat,gt P.orders d=(q:Int)∧(gt P.orders d).toNat=q∧(q=2∨q=3∨q=5∨q=7):=by
 have:=G.v.ord d hd
 exact⟨(gt P.orders d).toNat,by omega,rfl,by omega⟩
theorem ep_dT {d:Nat} (hd:d≤P.orders.length) {x:El G} (h:dT d x) (k:Nat):dT d (ep x k):=(dT_sg hd).ep h k
theorem ep_at {d:Nat} (hd:d<P.orders.length) {x:El G} (h:dT d x) (k:Nat):gt (ep x k).1 d=((k:Int)*gt x.1 d)%gt P.orders d:=by
 rw[ep_val];exact G.pw_at hd (dT_T.1 h) k
theorem lead_hit {d:Nat} (hd:d<P.orders.length) {x:El G} (h:dT d x) (h0:gt x.1 d≠0) {c:Int} (hc:0≤c∧c<gt P.orders d):∃j,gt (ep x j).1 d=c:=by
 obtain⟨q,h1,h2,h3⟩:=ordN G hd
 have hb:=x.2.2 d hd
 obtain⟨b,hbe⟩:∃b:Nat,gt x.1 d=(b:Int):=⟨(gt x.1 d).toNat,by omega⟩
 obtain⟨e,he⟩:∃e:Nat,c=(e:Int):=⟨c.toNat,by omega⟩
 obtain⟨j,hj⟩:=hit7 q b e h3 (by omega) (by omega) (by omega)
 refine⟨j,?_⟩
 rw[ep_at hd h,h1,hbe,he,←hj,Int.natCast_emod,Int.natCast_mul]
theorem el_diff {d:Nat} (hd:d<P.orders.length) {x y:El G} (hx:dT d x) (hy:dT d y) (h:gt x.1 d=gt y.1 d):dT (d+1) (x⁻¹ * y):=
 dT_T.2 (G.diff hd (dT_T.1 hx) (dT_T.1 hy) h)
theorem el_same {d:Nat} (hd:d<P.orders.length) {x y:El G} (h:dT (d+1) (x⁻¹ * y)):gt x.1 d=gt y.1 d:=by
 have h1:=(G.right (Nat.succ_le_of_lt hd) x.2 (dT_T.1 h)).1 d (by omega)
 have h2:rMul P x.1 (x⁻¹ * y).1=y.1:=congrArg Subtype.val (El.irc x y)
 rw[h2] at h1
 exact h1.symm
theorem le_of_pv {H K:El G→Prop} (S:SG H) (R:SG K) (hle:∀x,H x→K x) (hp:∀d,pv K d→pv H d):∀x,K x→H x:=by
 have key:∀f d,d+f=P.orders.length→∀x,K x→dT d x→H x:=by
  intro f
  induction f with
  | zero=>
   intro d hd x _ hT
   have:d=P.orders.length:=by omega
   subst this
   rw[dT_top hT];exact S.one
  | succ f ih=>
   intro d hd x hx hT
   by_cases h0:gt x.1 d=0
   ·exact ih (d+1) (by omega) x hx (dT_up hT h0)
   ·obtain ⟨hdn,y,hy,hyT,hy0⟩:=hp d ⟨by omega,x,hx,hT,h0⟩
    obtain⟨j,hj⟩:=lead_hit hdn hyT hy0 (x.2.2 d hdn)
    have hyj:=ep_dT (Nat.le_of_lt hdn) hyT j
    have h1:=ih (d+1) (by omega) _ (R.mul _ _ (R.inv _ (R.ep (hle _ hy) j)) hx) (el_diff hdn hyj hT hj)
    have h2:=S.mul _ _ (S.ep hy j) h1
    rwa [El.irc] at h2
 exact fun x hx=>key P.orders.length 0 (by omega) x hx (dT_zero x)
theorem els_ex (G:Grp P):∃l:List (El G),l.Nodup∧∀x,x∈l:=by
 have key:∀m:List (List Int),m.Nodup→∃l:List (El G),l.Nodup∧∀x:El G,x∈l↔x.1∈m:=by
  intro m
  induction m with
  | nil=>intro _;exact⟨[],List.nodup_nil,fun x=>by simp⟩
  | cons a m ih=>
   intro h
   obtain⟨h1,h2⟩:=List.nodup_cons.1 h
   obtain⟨l,hl,hm⟩:=ih h2
   by_cases ha:Vec P.orders a
   ·obtain ⟨y,hy⟩:∃y:El G,y.1=a:=⟨⟨a,ha⟩,rfl⟩
    refine⟨y :: l,List.nodup_cons.2 ⟨fun hh=>h1 (hy▸(hm _).1 hh),hl⟩,fun x => ?_⟩
    rw[List.mem_cons,List.mem_cons,hm x]
    exact⟨fun hh=>hh.elim (fun e => .inl (by rw[e];exact hy)) .inr,fun hh=>hh.elim (fun e => .inl (Subtype.ext (e.trans hy.symm))) .inr⟩
   ·refine ⟨l,hl,fun x => ?_⟩
    rw[hm x,List.mem_cons]
    exact⟨.inr,fun hh=>hh.elim (fun e=>absurd (e▸x.2) ha) id⟩
 obtain⟨l,h1,h2⟩:=key (elemsIn P (Vec P.orders)) (elemsIn_nodup G.v _)
 exact⟨l,h1,fun x=>(h2 x).2 ((elemsIn_mem G.v (fun _ h=>h)) x.1 |>.2 x.2)⟩
noncomputable def els (G:Grp P):List (El G):=Classical.choose (els_ex G)
theorem els_nodup (G:Grp P):(els G).Nodup:=(Classical.choose_spec (els_ex G)).1
theorem els_mem (G:Grp P) (x:El G):x∈els G:=(Classical.choose_spec (els_ex G)).2 x
open Classical in
noncomputable def elsIn (H:El G→Prop):List (El G):=(els G).filter (fun x=>decide (H x))
theorem elsIn_nodup (H:El G→Prop):(elsIn H).Nodup:=(els_nodup G).filter _
theorem elsIn_mem {H:El G→Prop}{x:El G} : x∈elsIn H↔H x:=by
 classical
 unfold elsIn;rw[List.mem_filter,decide_eq_true_iff];exact⟨fun h=>h.2,fun h=>⟨els_mem G x,h⟩⟩
noncomputable def cd (H:El G→Prop):Nat:=(elsIn H).length
theorem cd_list {H:El G→Prop}{l:List (El G)} (h1:l.Nodup) (h2:∀x,x∈l↔H x):cd H=l.length:=
 ((List.perm_ext_iff_of_nodup (elsIn_nodup H) h1).2 (fun x=>elsIn_mem.trans (h2 x).symm)).length_eq
theorem cd_congr {H K:El G→Prop} (h:∀x,H x↔K x):cd H=cd K:=by
 have:H=K:=funext fun x=>propext (h x)
 rw[this]
theorem cd_pos {H:El G→Prop} (S:SG H):0<cd H:=List.length_pos_of_mem (elsIn_mem.2 S.one)
def eqv (N:El G→Prop) (x y:El G):Prop:=N (x⁻¹ * y)
theorem eqv_refl {N:El G→Prop} (S:SG N) (x:El G):eqv N x x:=by unfold eqv;rw[El.il];exact S.one
theorem eqv_symm {N:El G→Prop} (S:SG N) {x y:El G} (h:eqv N x y):eqv N y x:=by
 have:=S.inv _ h
 rwa [El.mi,El.ii] at this
theorem eqv_trans {N:El G→Prop} (S:SG N) {x y z:El G} (h:eqv N x y) (k:eqv N y z):eqv N x z:=by
 have:=S.mul _ _ h k
 rwa [El.ass,El.irc] at this
theorem flat_len {α β:Type} (l:List α) (f:α→List β) (n:Nat) (h:∀x∈l,(f x).length=n):(l.flatMap f).length=l.length*n:=flatMap_len' l f n h
theorem cd_mul {N B:El G→Prop} (S:SG N) {ts:List (El G)} (hn:ts.Nodup) (hc:∀t∈ts,∀n,N n→B (t*n)) (h1:∀t∈ts,∀u∈ts,eqv N t u→t=u) (h2:∀x,B x→∃t∈ts,eqv N t x):cd B=ts.length*cd N:=by
 rw[cd_list (H:=B) (l:=ts.flatMap (fun t=>(elsIn N).map (fun n=>t*n))) ?_ ?_]
 ·exact flat_len _ _ _ (fun x _=>List.length_map ..)
 ·refine List.nodup_iff_pairwise_ne.2 (List.pairwise_flatMap.2 ⟨fun t _ => ?_,?_⟩)
  ·rw [List.pairwise_map]
   refine(List.nodup_iff_pairwise_ne.1 (elsIn_nodup N)).imp (fun {a b} hab e=>hab ?_)
   have:=congrArg (fun z=>t⁻¹ * z) e
   simpa only[El.ilc] using this
  ·refine (List.nodup_iff_pairwise_ne.1 hn).imp_of_mem (fun {a b} ha hb hab x hx y hy e=>hab (h1 a ha b hb ?_))
   obtain⟨n,hn1,rfl⟩:=List.mem_map.1 hx
   obtain⟨m,hm1,rfl⟩:=List.mem_map.1 hy
   unfold eqv
   have e2:a⁻¹ * b=n*m⁻¹ :=by
    have e3:b=a*n*m⁻¹ :=by rw[e,El.ass,El.ir,El.or]
    rw[e3,El.ass,El.ilc]
   rw[e2]
   exact S.mul _ _ (elsIn_mem.1 hn1) (S.inv _ (elsIn_mem.1 hm1))
 ·intro x
  rw[List.mem_flatMap]
  constructor
  ·rintro ⟨t,ht,hx⟩
   obtain⟨n,hn1,rfl⟩:=List.mem_map.1 hx
   exact hc t ht n (elsIn_mem.1 hn1)
  ·intro hx
   obtain⟨t,ht,h⟩:=h2 x hx
   exact⟨t,ht,List.mem_map.2 ⟨t⁻¹ * x,elsIn_mem.2 h,El.irc t x⟩⟩
open Classical in
noncomputable def rp (N:El G→Prop) (x:El G):El G:=((els G).find? (fun t=>decide (eqv N t x))).getD 1
theorem rp_eqv {N:El G→Prop} (S:SG N) (x:El G):eqv N (rp N x) x:=by
 classical
 unfold rp
 cases h:(els G).find? (fun t=>decide (eqv N t x)) with
 | none=>
  have:=List.find?_eq_none.1 h x (els_mem G x)
  exact absurd (decide_eq_true (eqv_refl S x)) this
 | some t=>
  have h2:=List.find?_some h
  exact of_decide_eq_true h2
theorem rp_one {N:El G→Prop} (S:SG N) {x y:El G} (h:eqv N x y):rp N x=rp N y:=by
 classical
 unfold rp
 have:(fun t=>decide (eqv N t x))=fun t=>decide (eqv N t y):=funext fun t=>by
  rw[decide_eq_decide]
  exact⟨fun k=>eqv_trans S k h,fun k=>eqv_trans S k (eqv_symm S h)⟩
 rw[this]
noncomputable def trv (N B:El G→Prop):List (El G):=elsIn (fun x=>B x∧rp N x=x)
theorem trv_mem {N B:El G→Prop}{x:El G} : x∈trv N B↔B x∧rp N x=x:=elsIn_mem
theorem rp_in {N B:El G→Prop} (S:SG N) (R:SG B) (h:∀x,N x→B x) {x:El G} (hx:B x):rp N x∈trv N B:=by
 have h1:=rp_eqv S x
 refine trv_mem.2 ⟨?_,rp_one S h1⟩
 have h2:=R.mul _ _ hx (h _ (eqv_symm S h1))
 rwa [El.irc] at h2
theorem trv_one {N B:El G→Prop} (S:SG N) {t u:El G} (ht:t∈trv N B) (hu:u∈trv N B) (h:eqv N t u):t=u:=by
 rw[←(trv_mem.1 ht).2,←(trv_mem.1 hu).2];exact rp_one S h
theorem cd_trv {N B:El G→Prop} (S:SG N) (R:SG B) (h:∀x,N x→B x):cd B=(trv N B).length*cd N:=
 cd_mul S (elsIn_nodup _) (fun _ ht n hn=>R.mul _ _ (trv_mem.1 ht).1 (h n hn)) (fun _ ht _ hu e=>trv_one S ht hu e) (fun x hx=>⟨rp N x,rp_in S R h hx,rp_eqv S x⟩)
open Classical in
noncomputable def prd (P:Pr) (Q:Nat→Prop):Nat→Nat→Nat
 | 0,_=>1
 | f+1,d=>(if Q d then (gt P.orders d).toNat else 1)*prd P Q f (d+1)
theorem prd_congr {Q R:Nat→Prop} : ∀f d,(∀k,d≤k→k<d+f→(Q k↔R k))→prd P Q f d=prd P R f d
 | 0,_,_=>rfl
 | f+1,d,h=>by
  have h1:=h d (by omega) (by omega)
  unfold prd
  rw[prd_congr f (d+1) (fun k a b=>h k (by omega) (by omega))]
  by_cases hq:Q d
  ·rw[if_pos hq,if_pos (h1.1 hq)]
  ·rw[if_neg hq,if_neg (fun hr=>hq (h1.2 hr))]
theorem prd_mul {Q R:Nat→Prop} : ∀f d,(∀k,d≤k→k<d+f→Q k→¬R k)→prd P Q f d*prd P R f d=prd P (fun k=>Q k∨R k) f d
 | 0,_,_=>rfl
 | f + 1,d,h=>by
  have h1:=h d (by omega) (by omega)
  have ih:=prd_mul f (d+1) (fun k a b=>h k (by omega) (by omega))
  unfold prd
  rw[←ih]
  by_cases hq:Q d
  ·rw [if_pos hq,if_neg (h1 hq),if_pos (.inl hq)]
   simp only[Nat.one_mul,Nat.mul_assoc]
  ·by_cases hr:R d
   ·rw [if_neg hq,if_pos hr,if_pos (.inr hr)]
    simp only[Nat.one_mul,Nat.mul_left_comm]
   ·rw [if_neg hq,if_neg hr,if_neg (fun hh=>hh.elim hq hr)]
    simp only[Nat.one_mul]
theorem prd_pos (G:Grp P) (Q:Nat→Prop):∀f d,d+f=P.orders.length→0<prd P Q f d
 | 0,_,_=>Nat.one_pos
 | f+1,d,h=>by
  have:=prd_pos G Q f (d+1) (by omega)
  obtain⟨q,_,h2,h3⟩:=ordN G (show d<P.orders.length by omega)
  unfold prd
  split
  ·exact Nat.mul_pos (by omega) this
  ·rw[Nat.one_mul];exact this
theorem cd_pv {H:El G→Prop} (S:SG H):∀f d,d+f=P.orders.length→cd (fun x=>H x∧dT d x)=prd P (pv H) f d
 | 0, d,hd=>by
  have:d=P.orders.length:=by omega
  subst this
  have:=cd_list (H:=fun x=>H x∧dT P.orders.length x) (l:=[(1:El G)]) (by simp) (fun x=>by
   rw[List.mem_singleton]
   exact⟨fun e=>by rw[e];exact⟨S.one,(dT_sg (Nat.le_refl _)).one⟩,fun h=>dT_top h.2⟩)
  exact this
 | f + 1,d,hd=>by
  have hdn:d<P.orders.length:=by omega
  have ih:=cd_pv S f (d+1) (by omega)
  have S':SG (fun x=>H x∧dT (d+1) x):=S.and (dT_sg (by omega))
  have Sd:SG (dT (G:=G) d):=dT_sg (by omega)
  rw[prd,←ih]
  by_cases hp:pv H d
  ·rw [if_pos hp]
   obtain⟨_,y0,hy0,hT0,hn0⟩:=hp
   obtain⟨q,hq1,hq2,hq3⟩:=ordN G hdn
   obtain⟨j,hj⟩:=lead_hit hdn hT0 hn0 (c:=1) (by omega)
   obtain⟨y,hy⟩:∃y,y=ep y0 j:=⟨_,rfl⟩
   have hyH:H y:=by rw[hy];exact S.ep hy0 j
   have hyT:dT d y:=by rw[hy];exact ep_dT (by omega) hT0 j
   have hy1:gt y.1 d=1:=by rw[hy];exact hj
   have hat:∀i,i<q→gt (ep y i).1 d=(i:Int):=fun i hi=>by
    rw[ep_at hdn hyT,hy1,hq1,Int.mul_one,Int.emod_eq_of_lt (by omega) (by omega)]
   have hinj:∀i j,i<q→j<q→eqv (fun x=>H x∧dT (d+1) x) (ep y i) (ep y j)→i=j:=fun i j hi hj h=>by
    have:=el_same hdn h.2
    rw[hat i hi,hat j hj] at this
    omega
   have hl:((List.range q).map (fun i=>ep y i)).length=(gt P.orders d).toNat:=by rw[List.length_map,List.length_range,hq2]
   rw[←hl]
   refine cd_mul S' ?_ ?_ ?_ ?_
   ·refine List.nodup_iff_pairwise_ne.2 ?_
    rw[List.pairwise_map]
    refine(List.nodup_iff_pairwise_ne.1 List.nodup_range).imp_of_mem (fun {a b} ha hb hab e=>hab (hinj a b (List.mem_range.1 ha) (List.mem_range.1 hb) ?_))
    rw[e];exact eqv_refl S' _
   ·intro t ht n hn
    obtain⟨i,_,rfl⟩:=List.mem_map.1 ht
    exact⟨S.mul _ _ (S.ep hyH i) hn.1,Sd.mul _ _ (Sd.ep hyT i) (dT_down hn.2)⟩
   ·intro t ht u hu h
    obtain⟨i,hi,rfl⟩:=List.mem_map.1 ht
    obtain⟨k,hk,rfl⟩:=List.mem_map.1 hu
    rw[hinj i k (List.mem_range.1 hi) (List.mem_range.1 hk) h]
   ·intro x hx
    have hb:=x.2.2 d hdn
    refine⟨ep y (gt x.1 d).toNat,List.mem_map.2 ⟨_,List.mem_range.2 (by omega),rfl⟩,S.mul _ _ (S.inv _ (S.ep hyH _)) hx.1,el_diff hdn (Sd.ep hyT _) hx.2 ?_⟩
    rw[hat _ (by omega)];omega
  ·rw [if_neg hp,Nat.one_mul]
   exact cd_congr (fun x=>⟨fun h=>⟨h.1,dT_up h.2 (Classical.byContradiction fun h0=>hp ⟨hdn,x,h.1,h.2,h0⟩)⟩,fun h=>⟨h.1,dT_down h.2⟩⟩)
theorem cd_eq {H:El G→Prop} (S:SG H):cd H=prd P (pv H) P.orders.length 0:=by
 rw[←cd_pv S _ _ (Nat.zero_add _)]
 exact cd_congr (fun x=>⟨fun h=>⟨h,dT_zero x⟩,fun h=>h.1⟩)
end
end Go.Proofs.YtdcobapnlpeaaaaGreat
namespace Go.Proofs.YtdcobapnlpeaaaaGreat
open Go.RowKit
open Classical
noncomputable def sm {α:Type} (f:α→Nat):List α→Nat
 | []=>0
 | a :: l=>f a+sm f l
theorem sm_congr {α:Type}{f g:α→Nat} : ∀ {l:List α},(∀x∈l,f x=g x)→sm f l=sm g l
 | [],_=>rfl
 | a :: l,h=>by
  simp only[sm]
  rw[h a (List.mem_cons_self ..),sm_congr (l:=l) (fun x hx=>h x (List.mem_cons_of_mem _ hx))]
theorem sm_const {α:Type}{f:α→Nat}{n:Nat} : ∀ {l:List α},(∀x∈l,f x=n)→sm f l=l.length*n
 | [],_=>by simp[sm]
 | a :: l,h=>by
  simp only[sm,List.length_cons]
  rw[h a (List.mem_cons_self ..),sm_const (l:=l) (fun x hx=>h x (List.mem_cons_of_mem _ hx)),Nat.add_mul]
  omega
theorem sm_zero {α:Type} (l:List α):sm (fun _=>0) l=0:=by rw[sm_const (fun _ _=>rfl)];omega
theorem sm_add {α:Type} (f g:α→Nat):∀l:List α,sm (fun x=>f x+g x) l=sm f l+sm g l
 | []=>rfl
 | a :: l=>by simp only[sm,sm_add f g l];omega
theorem sm_swap {α β:Type} (f:α→β→Nat) (m:List β):∀l:List α,sm (fun x=>sm (fun y=>f x y) m) l=sm (fun y=>sm (fun x=>f x y) l) m
 | []=>by simp only[sm];rw[sm_zero]
 | a :: l=>by
  simp only[sm]
  rw[sm_swap f m l,←sm_add]
theorem sm_filter {α:Type} (f:α→Nat) (p:α→Prop):∀l:List α,sm f (l.filter (fun x=>decide (p x)))=sm (fun x=>if p x then f x else 0) l
 | []=>rfl
 | a :: l=>by
  by_cases h:p a
  ·rw [List.filter_cons_of_pos (by simpa using h)]
   simp only[sm,if_pos h,sm_filter f p l]
  ·rw [List.filter_cons_of_neg (by simpa using h)]
   simp only[sm,if_neg h,sm_filter f p l];omega
theorem sm_len {α:Type} (l:List α):sm (fun _=>1) l=l.length:=by rw[sm_const (fun _ _=>rfl)];omega
theorem len_filter {α:Type} (p:α→Prop) (l:List α):(l.filter (fun x=>decide (p x))).length=sm (fun x=>if p x then 1 else 0) l:=by
 rw[←sm_len,sm_filter]
theorem sm_one {β:Type} (q:β→Prop) (n:Nat):∀ {R:List β},R.Pairwise (fun r s=>q r→¬q s)→(∃r∈R,q r)→sm (fun r=>if q r then n else 0) R=n
 | [],_,⟨r,hr,_⟩=>by cases hr
 | a :: R,hp,⟨r,hr,hq⟩=>by
  rw[List.pairwise_cons] at hp
  simp only[sm]
  by_cases ha:q a
  ·rw[if_pos ha,sm_congr (g:=fun _=>0) (fun x hx=>if_neg (hp.1 x hx ha)),sm_zero];omega
  ·rw [if_neg ha,sm_one q n hp.2 (by
    rcases List.mem_cons.1 hr with rfl|hr
    ·exact absurd hq ha
    ·exact⟨r,hr,hq⟩)];omega
theorem sm_part {α β:Type} (f:α→Nat) (D:β→α→Prop) {R:List β}{T:List α} (h1:∀x∈T,R.Pairwise (fun r s=>D r x→¬D s x)) (h2:∀x∈T,∃r∈R,D r x):sm f T=sm (fun r=>sm f (T.filter (fun x=>decide (D r x)))) R:=by
 have e:sm (fun r=>sm f (T.filter (fun x=>decide (D r x)))) R=sm (fun r=>sm (fun x=>if D r x then f x else 0) T) R:=sm_congr (fun r _=>sm_filter f (D r) T)
 rw[e,sm_swap]
 exact sm_congr (fun x hx=>(sm_one (fun r=>D r x) (f x) (h1 x hx) (h2 x hx)).symm)
variable {P:Pr}{G:Grp P}
def dD (H K:El G→Prop) (x g:El G):Prop:=∃h k,H h∧K k∧g=h*x*k
theorem dD_self {H K:El G→Prop} (S:SG H) (R:SG K) (x:El G):dD H K x x:=⟨1,1,S.one,R.one,by rw[El.ol,El.or]⟩
theorem dD_symm {H K:El G→Prop} (S:SG H) (R:SG K) {x y:El G} (h:dD H K x y):dD H K y x:=by
 obtain⟨a,b,ha,hb,e⟩:=h
 refine⟨a⁻¹,b⁻¹,S.inv _ ha,R.inv _ hb,?_⟩
 rw[e,El.ass,El.ass,El.ass,El.ilc,El.ir,El.or]
theorem dD_trans {H K:El G→Prop} (S:SG H) (R:SG K) {x y z:El G} (h:dD H K x y) (k:dD H K y z):dD H K x z:=by
 obtain⟨a,b,ha,hb,e⟩:=h
 obtain⟨c,d,hc,hd,e2⟩:=k
 refine⟨c*a,b*d,S.mul _ _ hc ha,R.mul _ _ hb hd,?_⟩
 rw[e2,e];simp only[El.ass]
def stb (H K:El G→Prop) (x y:El G):Prop:=H y∧K (x⁻¹ * y*x)
theorem stb_sg {H K:El G→Prop} (S:SG H) (R:SG K) (x:El G):SG (stb H K x):=by
 refine⟨⟨S.one,?_⟩,?_,?_⟩
 ·rw[El.or,El.il];exact R.one
 ·rintro a b ⟨h1,h2⟩ ⟨k1,k2⟩
  refine⟨S.mul _ _ h1 k1,?_⟩
  have e:x⁻¹ * (a*b)*x=(x⁻¹ * a*x)*(x⁻¹ * b*x):=by
   simp only[El.ass];rw[El.irc]
  rw[e];exact R.mul _ _ h2 k2
 ·rintro a ⟨h1,h2⟩
  refine⟨S.inv _ h1,?_⟩
  have e:x⁻¹ * a⁻¹ * x=(x⁻¹ * a*x)⁻¹ :=by
   rw[El.mi,El.mi,El.ii];simp only[El.ass]
  rw[e];exact R.inv _ h2
theorem cd_dD {H K:El G→Prop} (S:SG H) (R:SG K) (x:El G):cd (dD H K x)*cd (stb H K x)=cd H*cd K:=by
 have SS:=stb_sg S R x
 have hsub:∀y,stb H K x y→H y:=fun y h=>h.1
 have h1:=cd_trv SS S hsub
 have h2:cd (dD H K x)=((trv (stb H K x) H).map (fun t=>t*x)).length*cd K:=by
  refine cd_mul R ?_ ?_ ?_ ?_
  ·rw [List.nodup_iff_pairwise_ne,List.pairwise_map]
   refine(List.nodup_iff_pairwise_ne.1 (elsIn_nodup _)).imp (fun {_ _} hab e=>hab ?_)
   have:=congrArg (fun z=>z*x⁻¹) e
   simpa only[El.ass,El.ir,El.or] using this
  ·intro t ht n hn
   obtain⟨u,hu,rfl⟩:=List.mem_map.1 ht
   exact⟨u,n,(trv_mem.1 hu).1,hn,rfl⟩
  ·intro t ht u hu he
   obtain⟨a,ha,rfl⟩:=List.mem_map.1 ht
   obtain⟨b,hb,rfl⟩:=List.mem_map.1 hu
   have e:a=b:=trv_one SS ha hb (by
    refine⟨S.mul _ _ (S.inv _ (trv_mem.1 ha).1) (trv_mem.1 hb).1,?_⟩
    have h:K ((a*x)⁻¹ * (b*x)):=he
    rw[El.mi] at h
    simpa only[El.ass] using h)
   rw[e]
  ·rintro g ⟨a,b,ha,hb,rfl⟩
   refine⟨rp (stb H K x) a*x,List.mem_map.2 ⟨_,rp_in SS S hsub ha,rfl⟩,?_⟩
   have h3:=(rp_eqv SS a).2
   show K ((rp (stb H K x) a*x)⁻¹ * (a*x*b))
   have e:(rp (stb H K x) a*x)⁻¹ * (a*x*b)=(x⁻¹ * ((rp (stb H K x) a)⁻¹ * a)*x)*b:=by
    rw[El.mi];simp only[El.ass]
   rw[e];exact R.mul _ _ h3 hb
 rw[List.length_map] at h2
 rw[h2,h1,Nat.mul_assoc,Nat.mul_assoc,Nat.mul_comm (cd K)]
structure DRep (H K:El G→Prop) (R:List (El G)):Prop where
 one:R.Pairwise (fun x y=>¬dD H K x y)
 all:∀g,∃r∈R,dD H K r g
theorem DRep.dis {H K:El G→Prop} (S:SG H) (T:SG K) {R:List (El G)} (h:DRep H K R) (g:El G):R.Pairwise (fun r s=>dD H K r g→¬dD H K s g):=
 h.one.imp (fun {_ _} hab k1 k2=>hab (dD_trans S T k1 (dD_symm S T k2)))
theorem cd_sum {H K:El G→Prop} (S:SG H) (T:SG K) {R:List (El G)} (h:DRep H K R):sm (fun r=>cd (dD H K r)) R=(els G).length:=by
 rw[←sm_len (els G),sm_part (fun _=>1) (dD H K) (fun x _=>h.dis S T x) (fun x _=>h.all x)]
 exact sm_congr (fun r _=>by rw[sm_len];rfl)
structure LRep (K:El G→Prop) (L:List (El G)):Prop where
 nd:L.Nodup
 one:∀t∈L,∀u∈L,eqv K t u→t=u
 all:∀g,∃t∈L,eqv K t g
theorem cd_pos' {B:El G→Prop}{x:El G} (h:B x):0<cd B:=List.length_pos_of_mem (elsIn_mem.2 h)
theorem burn {H K:El G→Prop} (S:SG H) (T:SG K) {R L:List (El G)} (h:DRep H K R) (hL:LRep K L):sm (fun x=>cd (stb H K x)) L=R.length*cd H:=by
 rw[sm_part (fun x=>cd (stb H K x)) (dD H K) (fun x _=>h.dis S T x) (fun x _=>h.all x)]
 refine sm_const (fun r hr => ?_)
 have h0:0<cd (dD H K r):=cd_pos' (dD_self S T r)
 have hm:cd (dD H K r)=(L.filter (fun x=>decide (dD H K r x))).length*cd K:=by
  refine cd_mul T (hL.nd.filter _) ?_ ?_ ?_
  ·intro t ht n hn
   obtain⟨a,b,ha,hb,e⟩:dD H K r t:=by simpa using (List.mem_filter.1 ht).2
   exact⟨a,b*n,ha,T.mul _ _ hb hn,by rw[e];simp only[El.ass]⟩
  ·intro t ht u hu he
   exact hL.one t (List.mem_filter.1 ht).1 u (List.mem_filter.1 hu).1 he
  ·intro g hg
   obtain⟨t,ht,he⟩:=hL.all g
   refine⟨t,List.mem_filter.2 ⟨ht,?_⟩,he⟩
   obtain⟨a,b,ha,hb,e⟩:=hg
   have hk:K (g⁻¹ * t):=eqv_symm T he
   have:dD H K r t:=⟨a,b*(g⁻¹ * t),ha,T.mul _ _ hb hk,by
    have e2:g*(g⁻¹ * t)=t:=El.irc g t
    rw[←El.ass (a*r) b,←e,e2]⟩
   simpa using this
 have hc:∀x∈L.filter (fun x=>decide (dD H K r x)),cd (stb H K x)*cd (dD H K r)=cd H*cd K:=fun x hx=>by
  have hx:dD H K r x:=by simpa using (List.mem_filter.1 hx).2
  have e:cd (dD H K r)=cd (dD H K x):=cd_congr (fun g=>⟨fun k=>dD_trans S T (dD_symm S T hx) k,fun k=>dD_trans S T hx k⟩)
  rw[e,Nat.mul_comm];exact cd_dD S T x
 have hs:sm (fun x=>cd (stb H K x)*cd (dD H K r)) (L.filter (fun x=>decide (dD H K r x)))=(L.filter (fun x=>decide (dD H K r x))).length*(cd H*cd K):=sm_const hc
 have hmul:∀(l:List (El G)) (f:El G→Nat) (n:Nat),sm (fun x=>f x*n) l=sm f l*n:=by
  intro l f n
  induction l with
  | nil=>simp[sm]
  | cons a l ih=>simp only[sm,ih,Nat.add_mul]
 rw[hmul] at hs
 refine Nat.eq_of_mul_eq_mul_right h0 ?_
 rw[hs,Nat.mul_comm (cd H),←Nat.mul_assoc,←hm,Nat.mul_comm]
theorem burn' {H K:El G→Prop} (S:SG H) (T:SG K) {R L V:List (El G)} (h:DRep H K R) (hL:LRep K L) (hV:V.Nodup) (hV2:∀x,x∈V↔H x):sm (fun y=>(L.filter (fun x=>decide (K (x⁻¹ * y*x)))).length) V=R.length*V.length:=by
 have hc:cd H=V.length:=cd_list hV hV2
 rw[←hc,←burn S T h hL]
 have e:sm (fun y=>(L.filter (fun x=>decide (K (x⁻¹ * y*x)))).length) V=sm (fun y=>sm (fun x=>if K (x⁻¹ * y*x) then 1 else 0) L) V:=sm_congr (fun y _=>len_filter _ L)
 rw[e,sm_swap]
 refine sm_congr (fun x _ => ?_)
 have e2:cd (stb H K x)=(V.filter (fun y=>decide (K (x⁻¹ * y*x)))).length:=cd_list (hV.filter _) (fun y=>by
  rw[List.mem_filter,hV2];simp[stb])
 rw[e2,len_filter]
end Go.Proofs.YtdcobapnlpeaaaaGreat
namespace Go.Proofs.YtdcobapnlpeaaaaGreat
open Go.RowKit
theorem wp_app_take {ops:Array Oper}{rest:List Oper}{o:Oper}{a:Act}{Q:Exit→Act→World→Prop}{w:World} (hgd:o.guard=none) (s x:Operand)
  (ho:o.op=Op.call { callee:=Callee.builtin Builtin.append,args := #[s,x],argTypes := #[25,25] }) (B:Nat) (A A' F:Nat→Prop) (w0:World) (v u:Value) (xs:List (List Int)) (y:List Int) (hs:a.eval s=v)
  (hown:SlOA OwnIn 24 B A w0 v xs) (hu:OwnIn F w0 u y) (hF:∀k,F k→k<w0.heap.size→A k∧B≤k) (hA':∀k,A' k→A k∧¬F k) (hAl:∀k,A k→k<w0.heap.size) (hw:w=w0.alloc (.cells #[u] 24))
  (hx:a.eval x=.slice (some ⟨w0.heap.size,0,none⟩) 1 1) (hlen:xs.length≤1000000) (hbase:B≤w0.heap.size)
  (h:∀v' w',SlOA OwnIn 24 B A' w' v' (xs++[y])→w0.grownBy w' v.ownBlock→(v'.ownBlock=v.ownBlock∨∀k,v'.ownBlock=some k→w0.heap.size≤k)→wpList Tryz.prog ops Q rest (a.put o.dst v') w') :
  wpList Tryz.prog ops Q (o :: rest) a w:=by
 subst hw
 obtain⟨vs,G,hvl,hO,hG,hd,hE,hr,hr2⟩:=hown
 have hga:Ext w0 (w0.alloc (.cells #[u] 24)):=World.grownBy_alloc _ _ _
 refine wp_app 25 24 (.slice none 0 0) 24 und_rows Tryz.infoRow rfl (by decide) hgd s x ho B v vs hs (hO.kept hga (by cases hv:v.ownBlock<;>simp)) (some ⟨w0.heap.size,0,none⟩) 1 1 [u] hx rfl (by simp) ?_ ?_ (by simp;omega) (by have:=hga.size;omega) ?_
 ·intro j hj
  have:j=0:=by omega
  subst this
  exact⟨_,_,rfl,by rw[World.cell?_alloc_at _ _ _ _ rfl];rfl⟩
 ·intro u' hu'
  simp at hu';subst hu';exact rdOwn.one hu
 ·intro v' w' k1 k2 _ k4
  have hg:w0.grownBy w' v.ownBlock:=grown_trans (grown_of_ext _ hga) k2
  have hown2:v'.ownBlock=v.ownBlock∨∀k,v'.ownBlock=some k→w0.heap.size≤k:=by
   rcases k4 with h|h
   ·exact .inl h
   ·refine .inr (fun k hk => ?_)
    rw[h] at hk
    have:(w0.alloc (.cells #[u] 24)).heap.size=k:=by simpa using hk
    simp at this
    omega
  have hown:∀k,v'.ownBlock=some k→v.ownBlock=some k∨w0.heap.size≤k:=fun k hk=>by
   rcases k4 with h|h
   ·exact .inl (by rw[←h];exact hk)
   ·rw [h] at hk
    have:(w0.alloc (.cells #[u] 24)).heap.size=k:=by simpa using hk
    simp at this
    exact .inr (by omega)
  refine h v' w' ⟨vs++[u],fun i k=>if i<xs.length then G i k else F k∧k<w0.heap.size,by simp[hvl],k1,?_,?_,?_,?_,?_⟩ hg hown2
  ·intro i k hi hk
   split at hk
   ·rename_i hlt
    obtain⟨a1,a2,a3⟩:=hG i k hlt hk
    exact⟨a1,fun e=>(hown k e).elim a2 (fun h=>by omega),Nat.lt_of_lt_of_le a3 hg.size⟩
   ·obtain ⟨b1,b2⟩:=hF k hk.1 hk.2
    exact⟨b2,fun e=>(hown k e).elim (fun h=>hr2 k h b1) (fun h=>by have:=hk.2;omega),Nat.lt_of_lt_of_le hk.2 hg.size⟩
  ·intro i j k hi hj hk hk'
   simp only[List.length_append,List.length_singleton] at hi hj
   split at hk<;>split at hk'
   ·exact hd i j k (by assumption) (by assumption) hk hk'
   ·exact absurd (hF k hk'.1 hk'.2).1 (hr i k (by assumption) hk)
   ·exact absurd (hF k hk.1 hk.2).1 (hr j k (by assumption) hk')
   ·omega
  ·intro i hi
   simp only[List.length_append,List.length_singleton] at hi
   by_cases hlt:i<xs.length
   ·rw [gt_append_left _ _ _ (by omega),gt_append_left _ _ _ hlt]
    simp only[if_pos hlt]
    exact rdOwn.mono (hE i hlt) (fun k hk hkl=>⟨hk,Nat.lt_of_lt_of_le hkl hg.size,hg.block k hkl (fun e=>(hG i k hlt hk).2.1 e.symm)⟩)
   ·have hi2:i=xs.length:=by omega
    subst hi2
    rw[gt_concat,←hvl,gt_concat]
    simp only[hvl,Nat.lt_irrefl,if_false]
    exact rdOwn.mono hu (fun k hk hkl=>⟨⟨hk,hkl⟩,Nat.lt_of_lt_of_le hkl hg.size,hg.block k hkl (fun e=>hr2 k e.symm (hF k hk hkl).1)⟩)
  ·intro i k hi hk ha
   obtain⟨c1,c2⟩:=hA' k ha
   split at hk
   ·rename_i hlt;exact hr i k hlt hk c1
   ·exact c2 hk.1
  ·intro k hk ha
   obtain⟨c1,_⟩:=hA' k ha
   rcases hown k hk with h|h
   ·exact hr2 k h c1
   ·have:=hAl k c1;omega
end Go.Proofs.YtdcobapnlpeaaaaGreat
namespace Go.Proofs.YtdcobapnlpeaaaaGreat
open Go.RowKit
theorem rowsOne {B:Nat}{w2:World}{u:Value}{y:List Int} (hu:OwnIn (From B) w2 u y) (hB:B≤w2.heap.size):RowsO B (w2.alloc (.cells #[u] 24)) (.slice (some ⟨w2.heap.size,0,none⟩) 1 1) [y]:=by
 have hga:Ext w2 (w2.alloc (.cells #[u] 24)):=World.grownBy_alloc _ _ _
 refine⟨[u],fun _ k=>B≤k∧k<w2.heap.size,rfl,World.ownsRow_lit w2 #[u] 1 hB (by decide) rfl,fun i k hi hk => ?_,fun i j k hi hj _ _ => ?_,fun i hi => ?_⟩
 ·exact⟨hk.1,fun e=>by have:=own_blk e;omega,Nat.lt_of_lt_of_le hk.2 hga.size⟩
 ·simp at hi hj;omega
 ·have:i=0:=by simpa using hi
  subst this
  exact rdOwn.mono hu (fun k hk hkl=>⟨⟨hk,hkl⟩,Nat.lt_of_lt_of_le hkl hga.size,hga.block k hkl (by simp)⟩)
end Go.Proofs.YtdcobapnlpeaaaaGreat
namespace Go.Proofs.YtdcobapnlpeaaaaGreat
open Go.Proofs Go.Shelf Go.RowKit Go.Lib Go.Sort
def Tryz.sortRows_ren:Go.Shelf.Ren:=⟨fun|6=>247|15=>297|14=>296|28=>332|29=>333|20=>324|21=>325|22=>326|23=>327|24=>328|25=>329|26=>330|27=>331|46=>351|47=>352|48=>353|49=>354|50=>355|57=>367|n=>n,fun|22=>25|24=>24|25=>195|3=>3|39=>139|0=>0|53=>266|55=>62|4=>4|46=>260|45=>259|50=>193|5=>5|9=>9|66=>281|70=>285|76=>296|77=>297|n=>n,fun|n=>n⟩
theorem Tryz.sortRows:Go.Proofs.SlLaysF.n6 Tryz.prog Tryz.sortRows_ren := {
  mixed:=by kernel_rfl
  f6:=⟨Tryz.f247.name,by decide,Tryz.func247.trans (congrArg some (by kernel_rfl))⟩
  f14:=⟨Tryz.f296.name,by decide,Tryz.func296.trans (congrArg some (by kernel_rfl))⟩
  f15:=Tryz.func297.trans (congrArg some (by kernel_rfl))
  f20:=⟨Tryz.f324.name,by decide,Tryz.func324.trans (congrArg some (by kernel_rfl))⟩
  f21:=⟨Tryz.f325.name,by decide,Tryz.func325.trans (congrArg some (by kernel_rfl))⟩
  f22:=⟨Tryz.f326.name,by decide,Tryz.func326.trans (congrArg some (by kernel_rfl))⟩
  f23:=⟨Tryz.f327.name,by decide,Tryz.func327.trans (congrArg some (by kernel_rfl))⟩
  f24:=⟨Tryz.f328.name,by decide,Tryz.func328.trans (congrArg some (by kernel_rfl))⟩
  f25:=⟨Tryz.f329.name,by decide,Tryz.func329.trans (congrArg some (by kernel_rfl))⟩
  f26:=⟨Tryz.f330.name,by decide,Tryz.func330.trans (congrArg some (by kernel_rfl))⟩
  f27:=⟨Tryz.f331.name,by decide,Tryz.func331.trans (congrArg some (by kernel_rfl))⟩
  f28:=Tryz.func332.trans (congrArg some (by kernel_rfl))
  f29:=Tryz.func333.trans (congrArg some (by kernel_rfl))
  f46:=⟨Tryz.f351.name,by decide,Tryz.func351.trans (congrArg some (by kernel_rfl))⟩
  f47:=Tryz.func352.trans (congrArg some (by kernel_rfl))
  f48:=Tryz.func353.trans (congrArg some (by kernel_rfl))
  f49:=⟨Tryz.f354.name,by decide,Tryz.func354.trans (congrArg some (by kernel_rfl))⟩
  f50:=⟨Tryz.f355.name,by decide,Tryz.func355.trans (congrArg some (by kernel_rfl))⟩
  f57:=⟨Tryz.f367.name,by decide,Tryz.func367.trans (congrArg some (by kernel_rfl))⟩
  t0:=Tryz.underlying0
  a0:=Tryz.isAgg0
  z0:=Tryz.sizeOf0
  v0:=Tryz.zeroValue0
  t3:=Tryz.underlying3
  a3:=Tryz.isAgg3
  z3:=Tryz.sizeOf3
  v3:=Tryz.zeroValue3
  t4:=Tryz.underlying4
  a4:=Tryz.isAgg4
  z4:=Tryz.sizeOf4
  v4:=Tryz.zeroValue4
  t5:=Tryz.underlying5
  a5:=Tryz.isAgg5
  z5:=Tryz.sizeOf5
  v5:=Tryz.zeroValue5
  t9:=Tryz.underlying9
  a9:=Tryz.isAgg9
  z9:=Tryz.sizeOf9
  v9:=Tryz.zeroValue9
  t22:=Tryz.underlying25
  a22:=Tryz.isAgg25
  z22:=Tryz.sizeOf25
  v22:=Tryz.zeroValue25
  a24:=Tryz.isAgg24
  z24:=Tryz.sizeOf24
  t25:=Tryz.underlying195
  a25:=Tryz.isAgg195
  z25:=Tryz.sizeOf195
  v25:=Tryz.zeroValue195
  t39:=Tryz.underlying139
  a39:=Tryz.isAgg139
  z39:=Tryz.sizeOf139
  v39:=Tryz.zeroValue139
  t45:=Tryz.underlying259
  a45:=Tryz.isAgg259
  z45:=Tryz.sizeOf259
  v45:=Tryz.zeroValue259
  t46:=Tryz.underlying260
  a46:=Tryz.isAgg260
  z46:=Tryz.sizeOf260
  v46:=Tryz.zeroValue260
  t50:=Tryz.underlying193
  a50:=Tryz.isAgg193
  z50:=Tryz.sizeOf193
  v50:=Tryz.zeroValue193
  t53:=Tryz.underlying266
  a53:=Tryz.isAgg266
  z53:=Tryz.sizeOf266
  v53:=Tryz.zeroValue266
  t55:=Tryz.underlying62
  a55:=Tryz.isAgg62
  z55:=Tryz.sizeOf62
  v55:=Tryz.zeroValue62
  t66:=Tryz.underlying281
  a66:=Tryz.isAgg281
  z66:=Tryz.sizeOf281
  v66:=Tryz.zeroValue281
  t70:=Tryz.underlying285
  a70:=Tryz.isAgg285
  z70:=Tryz.sizeOf285
  v70:=Tryz.zeroValue285
  t76:=Tryz.underlying296
  a76:=Tryz.isAgg296
  z76:=Tryz.sizeOf296
  v76:=Tryz.zeroValue296
  t77:=Tryz.underlying297
  a77:=Tryz.isAgg297
  z77:=Tryz.sizeOf297
  v77:=Tryz.zeroValue297 }
end Go.Proofs.YtdcobapnlpeaaaaGreat
namespace Go.Proofs.YtdcobapnlpeaaaaGreat
open Go.Proofs Go.Shelf Go.RowKit Go.Lib Go.Sort
section
variable {α:Type} [Inhabited α] {enc:α→Value}
theorem holds_of_blockV {w:World}{g:Nat}{cur:Array Value}{e:TypeId}{ss:List α} (hb:w.heap[g]? = some (.cells cur e (0,0))) (ht:cur.toList.take ss.length=ss.map enc):Go.Sort.Holds enc w g 0 ss.toArray:=by
 intro j hj
 have hj':j<ss.length:=by simpa using hj
 refine⟨?_,by simp[World.frozen?,hb]⟩
 have h1:(cur.toList.take ss.length)[j]? = (ss.map enc)[j]? :=by rw[ht]
 rw[List.getElem?_take_of_lt hj'] at h1
 simp only[World.cell?,hb,Nat.zero_add]
 simp only[Option.isSome_none,Bool.false_eq_true,if_false]
 rw[←Array.getElem?_toList,h1]
 simp[hj']
theorem heap_sortedV {w:World}{g n:Nat}{os:Array Obj}{cur:Array Value}{e:TypeId}{fr:Nat × Nat} (d:Array α) (hb:w.heap[g]? = some (.cells cur e fr)) :
  (sortWorld enc w g 0 n d os).heap[g]? = some (.cells (putCells enc 0 d cur) e fr):=by
 have hg:g<w.heap.size:=(Array.getElem?_eq_some_iff.1 hb).1
 unfold sortWorld
 rw[heap_grow_old _ _ (by simpa using hg)]
 simp[putRow,mapBlock,Sort.ahead,Array.getElem?_modify,hb,onCells]
theorem grownBy_sortedV {w:World}{g n:Nat}{os:Array Obj} (d:Array α):w.grownBy (sortWorld enc w g 0 n d os) (some g):=by
 unfold sortWorld
 refine⟨rfl,rfl,rfl,by simp,fun k hk hne => ?_⟩
 rw[heap_grow_old _ _ (by simpa using hk)]
 have:g≠k:=fun e=>hne (by rw[e])
 simp[putRow,mapBlock,Sort.ahead,Array.getElem?_modify,this]
theorem take_putCellsV (cur:Array Value) (ts:List α) (h:ts.length≤cur.size):(putCells enc 0 ts.toArray cur).toList.take ts.length=ts.map enc:=by
 apply List.ext_getElem?
 intro j
 by_cases hj:j<ts.length
 ·rw [List.getElem?_take_of_lt hj,Array.getElem?_toList]
  simp[putCells,hj,show j<cur.size by omega]
 ·rw[List.getElem?_take_eq_none (by omega),List.getElem?_eq_none (by simp;omega)]
theorem ownsRow_sortedV {w:World}{base g cap n:Nat}{e:TypeId}{os:Array Obj}{cur:Array Value}{ss ts:List α} (hl:ts.length=ss.length) (hbase:base≤g) (hb:w.heap[g]? = some (.cells cur e (0,0)))
  (h1:ss.length≤cap) (h2:cap≤maxLen) (h3:cur.size=cap*1) :
  (sortWorld enc w g 0 n ts.toArray os).ownsRow base e 1 (.slice (some ⟨g,0,none⟩) ss.length cap) ss.length (ts.map enc):=
 ⟨by simp[hl],.inr ⟨g,cap,_,rfl,hbase,heap_sortedV _ hb,h1,h2,by simp[putCells,h3],by rw[Nat.mul_one,←hl];exact take_putCellsV cur ts (by omega)⟩⟩
end
def encAt (vs:List Value) (k:Nat):Value:=if k<vs.length then gt vs k else .slice none 0 0
def cfAt (L:List (List Int)) (i j:Nat):Int:=cmpL (gt L i) (gt L j)
theorem ltOf_true {L:List (List Int)}{x y:Nat} : ltOf (cfAt L) x y=true↔cmpL (gt L x) (gt L y)<0:=by unfold ltOf;rw[decide_eq_true_iff];rfl
theorem ltOf_false {L:List (List Int)}{x y:Nat} : ltOf (cfAt L) x y=false↔0≤cmpL (gt L x) (gt L y):=by
 unfold ltOf;rw[decide_eq_false_iff_not];show ¬(cmpL (gt L x) (gt L y)<0)↔_;omega
theorem swo_cfAt (L:List (List Int)):SWO (ltOf (cfAt L)) where
 irrefl x:=by
  have:=(cmpL_zero (gt L x) (gt L x)).2 rfl
  rw[ltOf_false];omega
 trans x y z h k:=by
  rw[ltOf_true] at *
  have h1:=cmpL_le_trans (gt L x) (gt L y) (gt L z) (by omega) (by omega)
  have h2:cmpL (gt L x) (gt L z)≠0:=by
   intro e
   rw[cmpL_zero] at e
   rw[e] at h
   have:=cmpL_swap (gt L z) (gt L y)
   omega
  omega
 ntrans x y z h k:=by
  rw[ltOf_false] at *
  have h1:=cmpL_swap (gt L x) (gt L y)
  have h2:=cmpL_swap (gt L y) (gt L z)
  have h3:=cmpL_swap (gt L x) (gt L z)
  have h4:=cmpL_le_trans (gt L z) (gt L y) (gt L x) (by omega) (by omega)
  omega
theorem encAt_one {vs:List Value} (h:∀i,i<vs.length→(gt vs i).oneCell'=true):OneCell (encAt vs):=by
 intro k
 unfold encAt
 split
 ·exact h k (by assumption)
 ·rfl
theorem gt_inj {α:Type} [Inhabited α] {l:List α} (h:l.Nodup) {i j:Nat} (hi:i<l.length) (hj:j<l.length) (he:gt l i=gt l j):i=j:=by
 simp only[gt,List.getD_eq_getElem?_getD,List.getElem?_eq_getElem hi,List.getElem?_eq_getElem hj,Option.getD_some] at he
 rcases Nat.lt_trichotomy i j with h1|h1|h1
 ·exact absurd he (List.pairwise_iff_getElem.1 h i j hi hj h1)
 ·exact h1
 ·exact absurd he.symm (List.pairwise_iff_getElem.1 h j i hj hi h1)
theorem sortRows_ok (w:World) (v:Value) (L:List (List Int)) (B:Nat) (hL:RowsO B w v L) (hne:0<L.length) (hlen:L.length≤1000000) :
  Calls Tryz.prog 247 #[v,.func (.func 245) #[] #[]] w fun e w'=>e=.returned (.tuple #[])∧RowsO B w' v (sortL L)∧w.grownBy w' v.ownBlock:=by
 obtain⟨vs,G,hvl,hO,hG,hd,hE⟩:=hL
 obtain⟨_,⟨rfl,h0⟩|⟨g,cap,cur,rfl,hBg,hb,hnc,hcm,hsz,hx⟩⟩:=hO
 ·omega
 have hgs:g<w.heap.size:=(Array.getElem?_eq_some_iff.1 hb).1
 have hone:OneCell (encAt vs):=encAt_one fun i hi=>by
  exact rdOwn.one (hE i (by omega))
 have hmap:(List.range L.length).map (encAt vs)=vs:=by
  apply List.ext_getElem (by simp[hvl])
  intro j h1 h2
  simp[encAt,gt,h2]
 have hH:Go.Sort.Holds (encAt vs) w g 0 (List.range L.length).toArray:=holds_of_blockV hb (by rw[hmap,List.length_range,←hvl];simpa using hx)
 have eg:∀args w,(callFunc 245 args).run Tryz.prog w=.ok (.enter 245 args) w:=enters_of Tryz.func245 (by kernel_rfl) rfl
 have hcmp:CmpReads Tryz.prog 245 #[] (encAt vs) (cfAt L) g 0 (List.range L.length).toArray.size w:=by
  intro m os dk _ x y
  have hgr:w.grownBy (sortWorld (encAt vs) w g 0 m dk os) (some g):=grownBy_sortedV dk
  have hread:∀k,Ints Any (sortWorld (encAt vs) w g 0 m dk os) (encAt vs k) (gt L k):=by
   intro k
   by_cases hk:k<vs.length
   ·have he:=(hE k (by omega)).ints
    unfold encAt
    rw[if_pos hk]
    exact Ints.mono he (fun b hb2 hlt=>⟨trivial,Nat.lt_of_lt_of_le hlt hgr.size,hgr.block b hlt (fun e=>(hG k b (by omega) hb2).2.1 (by cases e;rfl))⟩)
   ·have h1:gt L k=[]:=by simp[gt,show ¬k<L.length by omega];rfl
    unfold encAt
    rw[if_neg hk,h1]
    exact⟨none,0,rfl,⟨by simp,by simp,fun _=>rfl⟩,fun i hi=>by simp at hi⟩
  refine(sCompare_ok _ _ _ _ _ _ _ (hread x) (hread y)).mono ?_
  rintro e w' ⟨rfl,rfl⟩
  exact⟨rfl,0,rfl⟩
 have hcon:=Any.slices_SortFunc Tryz.sortRows (encAt vs) hone (cfAt L) (swo_cfAt L) 245 #[] g 0 cap (List.range L.length).toArray w eg hcmp.lays hH hgs (by simp;omega)
 change Calls Tryz.prog 247 _ _ _ at hcon
 have hsz2:(List.range L.length).toArray.size=vs.length:=by simp[hvl]
 rw[hsz2] at hcon
 refine hcon.mono ?_
 rintro e w' ⟨he,d',n,os,⟨hs1,_,hperm⟩,hsorted,rfl⟩
 have hts:d'.toList.length=L.length:=by simpa [hvl] using hs1
 have hP:d'.toList.Perm (List.range L.length):=by
  have h1:d'.extract 0 vs.length=d':=by
   apply Array.ext'
   rw[hvl,←hts];simp
  have h2:(List.range L.length).toArray.extract 0 vs.length=(List.range L.length).toArray:=by
   apply Array.ext'
   rw[hvl];simp
  rw[h1,h2] at hperm
  simpa using hperm
 have hin:∀i,i<L.length→gt d'.toList i<L.length:=fun i hi=>by
  have:=hP.subset (gt_mem (l:=d'.toList) (i:=i) (by omega))
  simpa using this
 have hnd:d'.toList.Nodup:=hP.symm.nodup List.nodup_range
 have hmapL:(List.range L.length).map (gt L)=L:=by
  apply List.ext_getElem (by simp)
  intro j h1 h2
  simp[gt,h2]
 have hsort:d'.toList.map (gt L)=sortL L:=by
  refine sortL_unique ?_ ?_
  ·have:=hP.map (gt L)
   rwa [hmapL] at this
  ·refine List.pairwise_iff_getElem.2 ?_
   intro i j hi hj hij
   have hi':i<d'.size:=by simpa using hi
   have hj':j<d'.size:=by simpa using hj
   have h1:=hsorted i j (Nat.zero_le _) hij (by rw[hs1,hsz2] at hj';exact hj')
   rw[ltOf_false,getElem!_pos d' i hi',getElem!_pos d' j hj'] at h1
   have h2:=cmpL_swap (gt L d'[j]) (gt L d'[i])
   simp only[List.getElem_map,Array.getElem_toList]
   omega
 have hgr:w.grownBy (sortWorld (encAt vs) w g 0 n d' os) (some g):=grownBy_sortedV d'
 have hgv:∀i,i<L.length→gt (d'.toList.map (encAt vs)) i=gt vs (gt d'.toList i):=fun i hi=>by
  have h1:gt (d'.toList.map (encAt vs)) i=encAt vs (gt d'.toList i):=gt_map _ _ _ (by omega)
  rw[h1];unfold encAt;rw[if_pos (by rw[hvl];exact hin i hi)]
 have hgL:∀i,i<L.length→gt (sortL L) i=gt L (gt d'.toList i):=fun i hi=>by
  rw[←hsort];exact gt_map _ _ _ (by omega)
 have hsl:(sortL L).length=L.length:=(sortL_perm L).length_eq
 refine⟨he,⟨d'.toList.map (encAt vs),fun i k=>G (gt d'.toList i) k,by simp[hsl,←hts],?_,?_,?_,?_⟩,hgr⟩
 ·have:=ownsRow_sortedV (enc:=encAt vs) (n:=n) (os:=os) (ss:=List.range L.length) (ts:=d'.toList) (by rw[hts,List.length_range]) hBg hb (by rw[List.length_range,←hvl];exact hnc) hcm hsz
  rw[List.length_range,←hvl] at this
  unfold OwnV
  rw[show(d'.toList.map (encAt vs)).length=vs.length by rw[List.length_map,hts,hvl]]
  simpa using this
 ·intro i k hi hk
  obtain⟨a1,a2,a3⟩:=hG _ k (hin i (by omega)) hk
  exact⟨a1,a2,Nat.lt_of_lt_of_le a3 hgr.size⟩
 ·intro i j k hi hj hk hk'
  exact gt_inj hnd (by omega) (by omega) (hd _ _ k (hin i (by omega)) (hin j (by omega)) hk hk')
 ·intro i hi
  show OwnIn _ _ _ _
  rw[hgv i (by omega),hgL i (by omega)]
  have he:=hE _ (hin i (by omega))
  exact rdOwn.mono he (fun b hb2 hlt=>⟨hb2,Nat.lt_of_lt_of_le hlt hgr.size,hgr.block b hlt (fun e=>(hG _ b (hin i (by omega)) hb2).2.1 (by cases e;rfl))⟩)
end Go.Proofs.YtdcobapnlpeaaaaGreat
