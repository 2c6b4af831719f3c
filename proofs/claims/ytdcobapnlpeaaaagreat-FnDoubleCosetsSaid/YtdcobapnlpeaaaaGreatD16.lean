/-
  impl.elementsOf.
  The reference's test of a sequence: spec.l10Element, l10Elements, l01Same2, l12Is, IsSubgroup, l13Two.
  Small things of the subgroup statements.
  impl.meet, impl.productSize.
  impl.conjugates, impl.conjugateSubgroup.
  impl.productSize: the size of a product set.
  The subgroup of a list.
  SubgroupElements on both sides.
  Plain: the representatives of the double cosets, in the order of the elements' numbers.
  Plain: the left cosets that are fixed: the representative of y x is x exactly if the conjugate of y by x lies in the subgroup.
  Plain: the transversal of a sequence, listed by the program and by number.
  Plain: the greatest normal subgroup within a subgroup.
  Plain: the conjugates of a subgroup, as sequences and as masks; the classes of conjugate subgroups.
  Plain: Hall subgroups as sequences: the orders, the way up to one, their one class, the one ascending list.
  spec.l01Part, l20Part: the part of an order for a set of primes.
  Plain: the index of a subgroup as a product over the free indices; the number of fixed cosets.
  Plain: sizes of subgroups: the size of one divides that of a greater one; the equations of the law of product sets.
  Plain: the lists of the program as representatives of double cosets and of left cosets; the number of fixed cosets.
  Plain: the transversal holds one element of each left coset; fixed cosets as a count.
-/
import Derived.Test.YtdcobapnlpeaaaaGreatD1
import Derived.Test.YtdcobapnlpeaaaaGreatD10
import Derived.Test.YtdcobapnlpeaaaaGreatD12
import Derived.Test.YtdcobapnlpeaaaaGreatD14
import Derived.Test.YtdcobapnlpeaaaaGreatD15
import Derived.Test.YtdcobapnlpeaaaaGreatD2
import Derived.Test.YtdcobapnlpeaaaaGreatD3
import Derived.Test.YtdcobapnlpeaaaaGreatD7
import Derived.Test.YtdcobapnlpeaaaaGreatD8
import Derived.Test.YtdcobapnlpeaaaaGreatD9
namespace Go.Proofs.YtdcobapnlpeaaaaGreat
open Go.RowKit
def Rest (m:Nat) (F:Nat→Nat→Prop) (i n:Nat):Nat→Prop:=fun k=>k<m∧∃j,i≤j∧j<n∧F j k
theorem SlOA.nil {α:Type} [Inhabited α] (El:(Nat→Prop)→World→Value→α→Prop) (E B:Nat) (A:Nat→Prop) (w:World):SlOA El E B A w (.slice none 0 0) ([]:List α):=
 ⟨[],fun _ _=>False,rfl,World.ownsRow_nil _ _ _ _,by simp,by simp,by simp,by simp,by simp[Value.ownBlock]⟩
set_option maxRecDepth 100000 in
set_option maxHeartbeats 4000000 in
theorem elementsOf_ok (P:Pr) (G:Grp P) (w:World) (p uv:Value) (U:List (List Int)) (Sp Su:Nat→Prop) (hp:PresP Sp w p P) (hu:Rows2 Su w uv U) (hU:SeqOk P U) (hl:U.length≤6) :
  Calls Tryz.prog 162 #[p,uv] w (Ret w fun w' v=>RowsO w.heap.size w' v (sortL (elsP P U U.length))):=by
 have hP:=G.v
 have hn6:=hP.n6
 obtain⟨pb,po,rfl⟩:=hp.shape
 obtain⟨ao,capo,hco0,hoi⟩:=hp.ordAt
 obtain⟨au,capu,rfl,_,_⟩:=Sl.shape hu
 have hUz:∀z∈U,dep z<z.length:=fun z hz=>by have:=hU.1 z hz;rw[this.1.1];exact this.2.1
 have HU:=Lib.hid hU;clear hU
 go_enter Tryz.func162,Tryz.ntmps162
 go_wp2_with (first|(at_make;refine wp_make_ints rfl _ _ rfl w.heap.size P.orders.length w.heap.size rfl _ rfl rfl rfl (by omega) (Nat.le_refl _) ?_;intro w1 ho1 hg1 hlt1)|fail)
 have hz1:OwnIn (From w.heap.size) w1 (.slice (some ⟨w.heap.size,0,none⟩) P.orders.length P.orders.length) (zeros P.orders.length):=OwnIn.of ho1 (by simp[zeros];omega) (fun j h1 _=>h1)
 have hO1:=rowsOne hz1 hg1.size
 have hga:Ext w1 (w1.alloc (.cells #[.slice (some ⟨w.heap.size,0,none⟩) P.orders.length P.orders.length] 24)):=World.grownBy_alloc _ _ _
 have hg2:=grown_trans hg1 hga
 clear ho1 hz1 hga hg1 hlt1
 generalize hw2:w1.alloc (.cells #[.slice (some ⟨w.heap.size,0,none⟩) P.orders.length P.orders.length] 24)=w2 at *
 clear hw2
 refine Calls.mono (pivots_ok _ U w2 Su (Rows2.ext hu hg2) hUz (by omega)) ?_
 rintro e3 w3 ⟨pv,rfl,hg3,hV3⟩
 have hg03:=grown_trans hg2 hg3
 have hO3:=SlO.ext rdOwn hO1 hg3
 clear hO1 hg2 hg3 hUz
 have hpvs:∃az capz,pv=.slice az U.length capz:=by
  rcases hV3.form with⟨h1,h2⟩|⟨g,cp,h1,_⟩
  ·have h3:U.length=0:=by unfold depV at h2;rw[List.map_eq_nil_iff] at h2;rw[h2];rfl
   exact⟨none,0,by rw[h1,h3]⟩
  ·exact⟨_,_,by rw[h1];unfold depV;rw[List.length_map]⟩
 obtain⟨ap,capp,rfl⟩:=hpvs
 go_wp2
 go_loopw [5,21] (fun ov iv wr=>∃(k:Nat) (v4:Value),v4=ov∧iv=.int .i64 k∧k≤U.length∧Ext w3 wr∧RowsO w.heap.size wr v4 (elsP P U k)) (fun _ iv _=>U.length-(intOf iv).toNat)
 case atStart=>exact⟨0,_,rfl,rfl,by omega,Ext.refl _,hO3⟩
 case round=>
  clear hO3
  obtain⟨k,v4,rfl,rfl,hk,hg,hO⟩:=hrel
  have hXl0:=elsP_len hP HU.out k hk
  have hX729:=prodU_729 hP HU.out k hk
  by_cases hlt:k<U.length
  ·have hlt':(k:Int)<U.length:=by omega
   have hdi:gt (depV U) k=.int .i64 (dep (gt U k)):=by unfold depV;rw[gt_map _ _ _ hlt]
   have hpf:∃g,ap=some ⟨g,0,none⟩:=by
    rcases hV3.form with⟨h1,h2⟩|⟨g,cp,h1,_⟩
    ·unfold depV at h2;rw[List.map_eq_nil_iff] at h2;rw[h2] at hlt;simp at hlt
    ·simp only[Value.slice.injEq] at h1;exact⟨g,h1.1⟩
   obtain⟨gp,rfl⟩:=hpf
   have hcp3:=hV3.cell k (by unfold depV;rw[List.length_map];exact hlt)
   rw[hdi] at hcp3
   clear hdi
   have hcp:=hg.cell hcp3 (by simp)
   clear hcp3
   obtain⟨d,hd⟩:∃d,d=dep (gt U k):=⟨_,rfl⟩
   obtain⟨z,hz⟩:∃z,z=gt U k:=⟨_,rfl⟩
   have hdn:d<P.orders.length:=by rw[hd];exact(HU.out.1 _ (gtMem hlt)).2.1
   have hzV:Vec P.orders z:=by rw[hz];exact(HU.out.1 _ (gtMem hlt)).1
   obtain⟨o,ho⟩:∃o,o=(gt P.orders d).toNat:=⟨_,rfl⟩
   have ho7:=hP.ord7 d hdn
   have hoo:gt P.orders d=(o:Int):=by omega
   obtain⟨X,hX⟩:∃X,X=elsP P U k:=⟨_,rfl⟩
   have hXn:elsP P U (k+1)=X.flatMap (stepE P z o):=by rw[hX,ho,hd,hz];rfl
   have hXV:∀x∈X,Vec P.orders x:=by rw[hX];exact elsP_sub G.sub_all (fun z hz=>(HU.out.1 z hz).1) k hk
   rw[←hd] at hcp
   rw[←hX] at hO hXl0
   have hXl:X.length≤729:=by omega
   have hX1:1≤X.length:=by omega
   clear hXl0 hX729
   obtain⟨vs,F,hvl,hOv,hF,hFd,hFE⟩:=hO
   obtain ⟨gx,capx,hv4⟩:∃gx capx,v4=.slice (some ⟨gx,0,none⟩) X.length capx:=by
    rcases hOv.form with⟨h1,h2⟩|⟨g,cp,h1,_⟩
    ·rw[h2] at hvl;simp at hvl;omega
    ·exact⟨g,cp,by rw[h1,hvl]⟩
   subst hv4
   have HX:=Lib.hid (And.intro hXn (And.intro hXV (And.intro hX (And.intro hd (And.intro hz ho)))));clear hXn hXV hX hd ho
   obtain⟨wo,rfl⟩:∃wo:World,wo=wr:=⟨_,rfl⟩
   have hgw:=grown_trans hg03 hg
   obtain⟨bo,oo,rfl,_,_,hcod⟩:=Ints.at (hoi.ext hgw) d hdn
   have hc0:=hgw.cell hco0 (by simp)
   obtain⟨bu,ou,a2,cap2,hau,_,_,hcu,hui⟩:=Rows2.at hu k hlt
   subst hau
   rw[←hz] at hcu hui
   have hcu:=hgw.cell hcu (by simp)
   clear hz
   have hdn':(d:Int)<P.orders.length:=by omega
   have HC:=Lib.hid (And.intro hc0 (And.intro hcod hcu));clear hc0 hcod hcu
   go_wp2
   clear hcp
   go_loopw [8,28] (fun nv jv wr=>∃(j:Nat) (v5:Value),v5=nv∧jv=.int .i64 j∧j≤X.length∧Ext wo wr∧SlOA OwnIn 24 w.heap.size (Rest wo.heap.size F j X.length) wr v5 ((X.take j).flatMap (stepE P z o))∧Hid (∀b,v5.ownBlock=some b→wo.heap.size≤b)) (fun _ jv _=>X.length-(intOf jv).toNat)
   case atStart=>exact⟨0,_,rfl,rfl,by omega,Ext.refl _,SlOA.nil _ _ _ _ _,Lib.hid (fun b hb=>by simp[Value.ownBlock] at hb)⟩
   case round=>
    obtain⟨j,v5,rfl,rfl,hj,hgm,hA,hob⟩:=hrel
    by_cases hjl:j<X.length
    ·have hjl':(j:Int)<X.length:=by omega
     have hxE:=hFE j hjl
     obtain⟨ax,cx,hvx,_,_⟩:=hxE.ints.shape
     have hcx:=hgm.cell (hOv.cell j (by omega)) (by simp)
     rw[hvx] at hcx hxE
     have hc0:=hgm.cell HC.out.1 (by simp)
     have hcod:=hgm.cell HC.out.2.1 (by simp)
     rw[hoo] at hcod
     have hxV:=HX.out.2.1 _ (gtMem hjl)
     have hxe:rMul P (gt X j) (pw P z 0)=gt X j:=G.grp.er _ hxV
     have hpl:((X.take j).flatMap (stepE P z o)).length≤729*7:=by
      rw[flatMap_len,List.length_take]
      exact Nat.mul_le_mul (by omega) (by omega)
     have HPL:=Lib.hid (And.intro hxV (And.intro hxe hpl));clear hxV hxe hpl hvx
     obtain⟨x,hx⟩:∃x,x=gt X j:=⟨_,rfl⟩
     rw[←hx] at hcx hxE HPL
     have HXJ:=Lib.hid hx;clear hx
     have hxE2:=rdOwn.mono (F':=F j) hxE (fun b hb hlt=>⟨hb,Nat.lt_of_lt_of_le hlt hgm.size,hgm.block b hlt (by simp)⟩)
     go_wp2
     clear hc0 hcod hcx
     go_loopw [8,10,39] (fun nv xv tv wr=>∃(t:Nat) (v6:Value) (Y:List Int) (A Fx:Nat→Prop),v6=nv∧tv=.int .i64 t∧t≤o∧Ext wo wr∧OwnIn Fx wr xv Y∧SlOA OwnIn 24 w.heap.size A wr v6 ((X.take j).flatMap (stepE P z o)++stepE P z t x) ∧
       Hid (Y=rMul P x (pw P z t)∧(∀b,Fx b→b<wr.heap.size→A b∧w.heap.size≤b)∧(∀b,Rest wo.heap.size F (j+1) X.length b→A b∧¬Fx b)∧(∀b,A b→b<wr.heap.size)∧∀b,v6.ownBlock=some b→wo.heap.size≤b)) (fun _ _ tv _=>o-(intOf tv).toNat)
     case atStart=>
      refine⟨0,v5,x,Rest wo.heap.size F j X.length,F j,rfl,rfl,by omega,hgm,hxE2,?_,Lib.hid ⟨HPL.out.2.1.symm,fun b hb _ => ?_,fun b hb => ?_,fun b hb=>Nat.lt_of_lt_of_le hb.1 hgm.size,hob.out⟩⟩
      ·unfold stepE;rw[List.range_zero,List.map_nil,List.append_nil];exact hA
      ·obtain ⟨f1,_,f3⟩:=hF j b hjl hb
       exact⟨⟨f3,j,Nat.le_refl _,hjl,hb⟩,f1⟩
      ·obtain ⟨h1,i,h2,h3,h4⟩:=hb
       exact⟨⟨h1,i,by omega,h3,h4⟩,fun h=>by have:=hFd i j b h3 hjl h4 h;omega⟩
     case round=>
      clear hxE2 hA hob hxE
      obtain⟨t,v6,Y,A,Fx,rfl,rfl,ht,hgi,hxv,hA,hH⟩:=hrel
      by_cases htl:t<o
      ·have htl':(t:Int)<o:=by omega
       obtain⟨ay,cy,hvy,_,_⟩:=hxv.ints.shape
       subst hvy
       have hgwr:=grown_trans hgw hgi
       have hYV:Vec P.orders Y:=by rw[hH.out.1];exact G.mulV HPL.out.1 (G.pw_vec hzV t)
       have hYn:tv P Y z=rMul P x (pw P z (t+1)):=by rw[G.tv_eq hYV hzV,hH.out.1,G.step_mul HPL.out.1 hzV]
       have hsl:((X.take j).flatMap (stepE P z o)++stepE P z t x).length≤1000000:=by
        rw[List.length_append,stepE_len];have:=HPL.out.2.2;omega
       have hYV2:=G.mulV HPL.out.1 (G.pw_vec hzV (t+1))
       have HY:=Lib.hid (And.intro hYV (And.intro hYn (And.intro hsl hYV2)));clear hYV hYn hsl hYV2
       have hcur:=hgi.cell HC.out.2.2 (by simp)
       go_wp2_with (first|(at_builtin;refine wp_app_take rfl _ _ rfl w.heap.size A (Rest wo.heap.size F (j+1) X.length) Fx wr v6 _ _ Y rfl hA hxv hH.out.2.1 hH.out.2.2.1 hH.out.2.2.2.1 rfl rfl HY.out.2.2.1 hgwr.size ?_;intro v7 w7 hA7 hg7 hob7;have hcur7:=grown_own hgi hg7 (fun b hb hlt=>by have:=hH.out.2.2.2.2 b hb;omega);have hcu7:=hcur7.cell HC.out.2.2 (by simp))|fail)
       have hxv7:Ints Any w7 (.slice ay Y.length cy) Y:=Ints.mono hxv.ints (fun b hb hlt=>⟨trivial,Nat.lt_of_lt_of_le hlt hg7.size,hg7.block b hlt (fun e=>by
        obtain⟨a1,_⟩:=hH.out.2.1 b hb hlt
        exact(hA.avoids b e.symm).1 a1)⟩)
       have hgw7:=grown_trans hgw hcur7
       refine Calls.mono (multiply_ok P hP w7 _ _ _ Y z Sp Any Su (hp.ext hgw7) hxv7 (Ints.ext hui hgw7) HY.out.1 hzV) ?_
       rintro eC wC ⟨vC,rfl,hgC,hOC⟩
       rw[HY.out.2.1] at hOC
       have hOC2:OwnIn (fun b=>w7.heap.size≤b∧b<wC.heap.size) wC vC (rMul P x (pw P z (t+1))):=OwnIn.of hOC (by rw[HY.out.2.2.2.1];omega) (fun j h1 h2=>⟨h1,h2⟩)
       have hA8:SlOA OwnIn 24 w.heap.size (fun b=>Rest wo.heap.size F (j+1) X.length b∨(w7.heap.size≤b∧b<wC.heap.size)) wC v7 ((X.take j).flatMap (stepE P z o)++stepE P z (t+1) x):=by
        rw[stepE_succ,←List.append_assoc,←hH.out.1]
        exact(hA7.more (fun b hb=>hb.elim .inl (fun h => .inr h.1))).ext rdOwn hgC
       have hH2:Hid ((∀b,(w7.heap.size≤b∧b<wC.heap.size)→b<wC.heap.size→(Rest wo.heap.size F (j+1) X.length b∨(w7.heap.size≤b∧b<wC.heap.size))∧w.heap.size≤b)∧(∀b,Rest wo.heap.size F (j+1) X.length b→(Rest wo.heap.size F (j+1) X.length b∨(w7.heap.size≤b∧b<wC.heap.size))∧¬(w7.heap.size≤b∧b<wC.heap.size)) ∧
         (∀b,Rest wo.heap.size F (j+1) X.length b∨(w7.heap.size≤b∧b<wC.heap.size)→b<wC.heap.size)∧∀b,v7.ownBlock=some b→wo.heap.size≤b):=by
        refine Lib.hid ⟨fun b hb _=>⟨.inr hb,by have:=hgw7.size;omega⟩,fun b hb=>⟨.inl hb,fun h=>by have:=hb.1;have:=hcur7.size;omega⟩,fun b hb => ?_,fun b hb => ?_⟩
        ·rcases hb with h|h
         ·have:=h.1;have:=hcur7.size;have:=hgC.size;omega
         ·exact h.2
        ·rcases hob7 with h|h
         ·exact hH.out.2.2.2.2 b (by rw[←h];exact hb)
         ·have:=h b hb;have:=hgi.size;omega
       clear hA hH hxv hA7 hob7 hOC hxv7 hcu7 hcur
       go_wp2
       go_roundw
       case rel=>exact⟨t+1,v7,_,_,_,rfl,by go_num,by omega,grown_trans hcur7 hgC,hOC2,hA8,Lib.hid ⟨rfl,hH2.out⟩⟩
       case measure=>simp[intOf];omega
      ·have hte:t=o:=by omega
       subst hte
       have hst:=flatMap_take_succ X (stepE P z t) j hjl
       rw[←HXJ.out] at hst
       have hA9:SlOA OwnIn 24 w.heap.size (Rest wo.heap.size F (j+1) X.length) wr v6 ((X.take (j+1)).flatMap (stepE P z t)):=by
        rw[hst];exact hA.less (fun b hb=>(hH.out.2.2.1 b hb).1)
       have hob9:=Lib.hid hH.out.2.2.2.2
       clear hst hA hH hxv
       go_wp2
       go_roundw
       case rel=>exact⟨j+1,v6,rfl,by go_num,by omega,hgi,hA9,hob9⟩
       case measure=>simp[intOf];omega
    ·have hje:j=X.length:=by omega
     subst hje
     have hO9:RowsO w.heap.size wr v5 (elsP P U (k+1)):=by
      rw[HX.out.1]
      have:=hA.o
      rw[List.take_length] at this
      exact this
     clear hA hob
     go_wp2
     go_roundw
     case rel=>exact⟨k+1,v5,rfl,by go_num,by omega,grown_trans hg hgm,hO9⟩
     case measure=>simp[intOf];omega
  ·have hke:k=U.length:=by omega
   subst hke
   have hne:0<(elsP P U U.length).length:=by omega
   have hl9:(elsP P U U.length).length≤1000000:=by omega
   obtain⟨az,capz,hvz,_,_⟩:=SlD.shape (hO.toD (by omega))
   have HN:=Lib.hid (And.intro hne hl9);clear hXl0 hX729 hne hl9
   subst hvz
   go_wp2_with fail
   refine Calls.mono (sortRows_ok wr _ (elsP P U U.length) w.heap.size hO HN.out.1 HN.out.2) ?_
   rintro eS wS ⟨rfl,hOS,hgS⟩
   have hgwS:Ext w wS:=grown_own (grown_trans hg03 hg) hgS (fun b hb hlt=>by have:=(hO.lt b hb).1;omega)
   clear hO
   go_wp2
   go_ret
   exact⟨_,rfl,hgwS,hOS⟩
end Go.Proofs.YtdcobapnlpeaaaaGreat
namespace Go.Proofs.YtdcobapnlpeaaaaGreat
open Go.RowKit
theorem expZ_neg (o e:List Int):expZB o e (-1)=expB o e:=by
 unfold expZB expB
 congr 1
 congr 1
 funext i
 have:decide ((i:Int) ≤ -1)=false:=by simp;omega
 rw[this];simp
theorem l10Element_ok (P:Pr) (hP:Valid P) (w:World) (pv xv:Value) (X:List Int) (Sp Sx:Nat→Prop) (hpv:PresV Sp w pv P) (hx:Ints Sx w xv X) :
  Calls Tryz.prog 119 #[pv,xv] w (Ret w fun _ v=>v=.bool (expB P.orders X)):=by
 obtain⟨vo,vp,vc,rfl,h3⟩:=hpv
 have hp0:=PresP.box h3 28
 have hg0:Ext w (w.alloc (.cells #[vo,vp,vc] 28)):=World.grownBy_alloc _ _ _
 have hx0:=hx.ext hg0
 obtain⟨ao,capo,hco,hoi⟩:=hp0.ordAt
 obtain⟨ax,capx,rfl,_,_⟩:=hx.shape
 have hcon:=l07Exponents_ok _ _ _ P.orders X (-1) Any Sx hoi hx0 (fun i hi=>by have:=hP.ord7 i hi;omega)
 rw[expZ_neg] at hcon
 go_enter Tryz.func119,Tryz.ntmps119
 go_wp2_with fail
 refine Calls.mono hcon ?_
 rintro e1 w1 ⟨rfl,hd⟩
 clear hcon
 go_wp2
 go_ret
 exact⟨_,rfl,grown_trans hg0 hd.ext,rfl⟩
set_option maxHeartbeats 1000000 in
theorem l10Elements_ok (P:Pr) (hP:Valid P) (w:World) (pv lv:Value) (L:List (List Int)) (Sp Sr:Nat→Prop) (hpv:PresV Sp w pv P) (hl:Rows2 Sr w lv L) :
  Calls Tryz.prog 161 #[pv,lv] w (Ret w fun _ v=>∃r:Bool,v=.bool r∧(r=true↔∀x∈L,Vec P.orders x)):=by
 obtain⟨vo,vp,vc,rfl,h3⟩:=hpv
 have hp0:=PresP.box h3 28
 have hg0:Ext w (w.alloc (.cells #[vo,vp,vc] 28)):=World.grownBy_alloc _ _ _
 have hl0:=Rows2.ext hl hg0
 obtain⟨al,capl,rfl,_,_⟩:=Sl.shape hl
 obtain⟨vo6,vp6,vc6,_,_,hc0,hc1,hc2,h36⟩:=hp0.at
 simp only[Nat.zero_add] at hc1 hc2
 clear hp0 hl
 go_enter Tryz.func161,Tryz.ntmps161
 go_wp2
 generalize hw0:w.alloc (.cells #[vo,vp,vc] 28)=w0 at *
 clear hw0
 go_loopw [5] (fun iv wr=>∃i:Nat,iv=.int .i64 i∧i≤L.length∧Ext w0 wr∧Hid (∀j,j<i→Vec P.orders (gt L j))) (fun iv _=>L.length-(intOf iv).toNat)
 case atStart=>exact⟨0,rfl,by omega,Ext.refl _,Lib.hid (fun j h=>by omega)⟩
 case round=>
  obtain⟨i,rfl,hi,hg,hV⟩:=hrel
  by_cases hlt:i<L.length
  ·have hlt':(i:Int)<L.length:=by omega
   obtain⟨b,off,a2,cap2,rfl,_,_,hc,hr⟩:=Rows2.at (Rows2.ext hl0 hg) i hlt
   have e1:∀w',Ext wr w'→w'.cell? ⟨w.heap.size,0,none⟩=some vo6:=fun w' h=>(grown_trans hg h).cell hc0 (by simp)
   have e2:∀w',Ext wr w'→w'.cell? ⟨w.heap.size,1,none⟩=some vp6:=fun w' h=>(grown_trans hg h).cell hc1 (by simp)
   have e3:∀w',Ext wr w'→w'.cell? ⟨w.heap.size,2,none⟩=some vc6:=fun w' h=>(grown_trans hg h).cell hc2 (by simp)
   have e4:∀w',Ext wr w'→w'.cell? ⟨b,off+i,none⟩=some (.slice a2 (gt L i).length cap2):=fun w' h=>h.cell hc (by simp)
   clear hc
   cases hx:expB P.orders (gt L i) with
   | true=>
    have HX:=Lib.hid (expB_vec.1 hx)
    have HX2:=Lib.hid hx;clear hx
    go_wp2
    go_region_held3 (fun w'=>Ext wr w') (first|exact grown_drew _ _|assumption)
     (first
      | (go_at_call 119;refine Calls.mono (Calls.rel (w0:=wr) (by assumption) (l10Element_ok P hP _ _ _ (gt L i) Any Any ⟨_,_,_,rfl,Pres3.ext (Pres3.ext h36 hg) (by assumption)⟩ (Ints.sub (Ints.ext hr (by assumption)) (fun _ _ _=>trivial)))) ?_;rintro eA wA ⟨vA,rfl,hgA,hsA,hvA⟩;rw[HX2.out] at hvA;subst hvA))
    clear e1 e2 e3 e4
    go_wp2
    go_roundw
    case rel=>exact⟨i+1,by go_num,by omega,grown_trans hg hgA,Lib.hid (fun j hj=>by
     rcases Nat.lt_succ_iff_lt_or_eq.1 hj with h|h
     ·exact hV.out j h
     ·rw[h];exact HX.out)⟩
    case measure=>simp[intOf];omega
   | false=>
    have hno:¬ ∀x∈L,Vec P.orders x:=fun h=>by
     have:=expB_vec.2 (h _ (gtMem hlt))
     rw[hx] at this;cases this
    have HX:=Lib.hid hno
    have HX2:=Lib.hid hx;clear hx hno
    go_wp2
    go_region_held3 (fun w'=>Ext wr w') (first|exact grown_drew _ _|assumption)
     (first
      | (go_at_call 119;refine Calls.mono (Calls.rel (w0:=wr) (by assumption) (l10Element_ok P hP _ _ _ (gt L i) Any Any ⟨_,_,_,rfl,Pres3.ext (Pres3.ext h36 hg) (by assumption)⟩ (Ints.sub (Ints.ext hr (by assumption)) (fun _ _ _=>trivial)))) ?_;rintro eA wA ⟨vA,rfl,hgA,hsA,hvA⟩;rw[HX2.out] at hvA;subst hvA))
    clear e1 e2 e3 e4
    go_wp2
    go_ret
    exact⟨_,rfl,grown_trans hg0 (grown_trans hg hgA),false,rfl,by simp only[Bool.false_eq_true,false_iff];exact HX.out⟩
  ·have hie:i=L.length:=by omega
   subst hie
   go_wp2
   go_ret
   exact ⟨_,rfl,grown_trans hg0 hg,true,rfl,by
    simp only[true_iff]
    intro x hx
    obtain⟨l,hl,rfl⟩:=List.getElem_of_mem hx
    rw[←gt_eq L l hl];exact hV.out l hl⟩
set_option maxRecDepth 100000 in
set_option maxHeartbeats 2000000 in
theorem l01Same2_ok (v1 v2:Value) (l1 l2:List (List Int)) (w:World) (S1 S2:Nat→Prop) (h1:Rows2 S1 w v1 l1) (h2:Rows2 S2 w v2 l2) :
  Calls Tryz.prog 288 #[v1,v2] w (Ret w fun _ v=>v=.bool (eqB l1 l2)):=by
 obtain⟨a,cap,rfl,_,_⟩:=Sl.shape h1
 obtain⟨a2,cap2,rfl,_,_⟩:=Sl.shape h2
 by_cases hl:l1.length=l2.length
 ·have hd:((l1.length:Int) != (l2.length:Int))=false:=by simp[hl]
  have hl1:l1.length≤l2.length∧l2.length≤l1.length:=by omega
  have HL:=Lib.hid hl;clear hl
  go_enter Tryz.func288,Tryz.ntmps288
  go_wp2
  go_loopw [5] (fun i wr=>∃k:Nat,i=.int .i64 k∧k≤l1.length∧Ext w wr∧∀i,i<k→gt l1 i=gt l2 i) (fun i _=>l1.length-(intOf i).toNat)
  case atStart=>exact⟨0,rfl,by omega,Ext.refl _,fun i hi=>by omega⟩
  case round=>
   obtain⟨k,rfl,hk,hg,hz⟩:=hrel
   have HZ:=Lib.hid hz;clear hz
   by_cases hlt:k<l1.length
   ·obtain ⟨b,off,x1,c1,rfl,_,_,hc,hi1⟩:=Rows2.at (Rows2.ext h1 hg) k hlt
    obtain⟨b2,off2,x2,c2,rfl,_,_,hc2,hi2⟩:=Rows2.at (Rows2.ext h2 hg) k (by omega)
    have e1:∀w',Ext wr w'→w'.cell? ⟨b,off+k,none⟩=some (.slice x1 (gt l1 k).length c1):=fun w' h=>h.cell hc (by simp)
    have e2:∀w',Ext wr w'→w'.cell? ⟨b2,off2+k,none⟩=some (.slice x2 (gt l2 k).length c2):=fun w' h=>h.cell hc2 (by simp)
    clear hc hc2
    have hlt2:k<l2.length:=by omega
    go_wp2
    cases hx:eqB (gt l1 k) (gt l2 k) with
    | true=>
     have hx2:=Lib.hid hx
     go_region_held3 (fun w'=>Ext wr w') (first|exact grown_drew _ _|assumption)
      (first
       | (go_at_call 153;refine Calls.mono (Calls.rel (w0:=wr) (by assumption) (l01Same_ok _ _ _ _ _ Any Any (Ints.sub (Ints.ext hi1 (by assumption)) (fun _ _ _=>trivial)) (Ints.sub (Ints.ext hi2 (by assumption)) (fun _ _ _=>trivial)))) ?_;rintro eA wA ⟨vA,rfl,hgA,hsA,rfl⟩))
     clear e1 e2
     go_wp2
     go_roundw
     case rel=>exact⟨k+1,by go_num,by omega,grown_trans hg hgA,fun i hi=>by
      rcases Nat.lt_or_ge i k with h1|h1
      ·exact HZ.out i h1
      ·have:i=k:=by omega
       rw[this];exact eqB_true.1 hx2.out⟩
     case measure=>simp[intOf];omega
    | false=>
     have hx2:=Lib.hid hx
     go_region_held3 (fun w'=>Ext wr w') (first|exact grown_drew _ _|assumption)
      (first
       | (go_at_call 153;refine Calls.mono (Calls.rel (w0:=wr) (by assumption) (l01Same_ok _ _ _ _ _ Any Any (Ints.sub (Ints.ext hi1 (by assumption)) (fun _ _ _=>trivial)) (Ints.sub (Ints.ext hi2 (by assumption)) (fun _ _ _=>trivial)))) ?_;rintro eA wA ⟨vA,rfl,hgA,hsA,rfl⟩))
     clear e1 e2
     go_wp2
     go_ret
     exact⟨_,rfl,grown_trans hg hgA,by rw[eqB_false_at (hx:=eqB_false.1 hx2.out)];rfl⟩
   ·go_wp2
    go_ret
    exact⟨_,rfl,hg,by rw[eqB_true.2 (ext_gt HL.out (fun i hi=>HZ.out i (by omega)))];rfl⟩
 ·have hd:((l1.length:Int) != (l2.length:Int))=true:=by simp;omega
  have HL:=Lib.hid hl;clear hl
  go_enter Tryz.func288,Tryz.ntmps288
  go_wp2
  go_ret
  exact⟨_,rfl,Ext.refl _,by rw[eqB_false.2 (fun e=>HL.out (by rw[e]))];rfl⟩
theorem subB_iff {P:Pr} (G:Grp P) (u:List (List Int)):SubB P u↔u.length≤P.orders.length∧(∀x∈u,Vec P.orders x)∧cseq P (genP P (fun x=>x∈u))=u:=
 ⟨fun h=>⟨G.sub_len h,h.1,h.2.symm⟩,fun h=>⟨h.2.1,h.2.2.symm⟩⟩
set_option maxRecDepth 100000 in
set_option maxHeartbeats 4000000 in
theorem l12Is_ok (P:Pr) (G:Grp P) (w:World) (pv uv:Value) (U:List (List Int)) (Sp Su:Nat→Prop) (hpv:PresV Sp w pv P) (hu:Rows2 Su w uv U) :
  Calls Tryz.prog 223 #[pv,uv] w (Ret w fun _ v=>∃r:Bool,v=.bool r∧(r=true↔SubB P U)):=by
 have hP:=G.v
 have hn6:=hP.n6
 obtain⟨vo,vp,vc,rfl,h3⟩:=hpv
 have hp0:=PresP.box h3 28
 have hg0:Ext w (w.alloc (.cells #[vo,vp,vc] 28)):=World.grownBy_alloc _ _ _
 obtain⟨vo6,vp6,vc6,_,_,hc0,hc1,hc2,h36⟩:=hp0.at
 simp only[Nat.zero_add] at hc1 hc2
 obtain⟨ao,capo,rfl,_,_⟩:=h36.o.shape
 have hu0:=Rows2.ext hu hg0
 obtain⟨au,capu,rfl,_,_⟩:=Sl.shape hu
 clear hp0 hu
 have hiff:=subB_iff G U
 go_enter Tryz.func223,Tryz.ntmps223
 by_cases hl:U.length≤P.orders.length
 ·have hle:(U.length:Int)≤P.orders.length:=by omega
  have hE:=l10Elements_ok P hP (w.alloc (.cells #[vo,vp,vc] 28)) _ _ U Any Su ⟨_,_,_,rfl,h36⟩ hu0
  go_wp2_with fail
  generalize hw0:w.alloc (.cells #[vo,vp,vc] 28)=w0 at *
  clear hw0
  refine Calls.mono hE ?_
  rintro e1 w1 ⟨v1,rfl,hg1,r1,rfl,hr1⟩
  clear hE
  have hb0:=hg1.cell hc0 (by simp)
  have hb1:=hg1.cell hc1 (by simp)
  have hb2:=hg1.cell hc2 (by simp)
  cases r1 with
  | false=>
   have hno:¬SubB P U:=fun h=>by have:=hr1.2 (hiff.1 h).2.1;cases this
   have HN:=Lib.hid hno;clear hno hiff hr1 hc0 hc1 hc2
   go_wp2
   go_ret
   exact⟨_,rfl,grown_trans hg0 hg1,false,rfl,by simp only[Bool.false_eq_true,false_iff];exact HN.out⟩
  | true=>
   have hV:=hr1.1 rfl
   have HI:=Lib.hid (And.intro hiff hV);clear hiff hV hr1 hc0 hc1 hc2
   go_wp2_with fail
   clear hb0 hb1 hb2
   refine Calls.mono (l12Close_ok P G w1 _ _ U Any Su ⟨_,_,_,rfl,Pres3.ext h36 hg1⟩ (Rows2.ext hu0 hg1) HI.out.2 (by omega)) ?_
   rintro e2 w2 ⟨v2,rfl,hg2,hR2⟩
   obtain⟨a2,cap2,rfl,_,_⟩:=Sl.shape hR2
   go_wp2_with fail
   refine Calls.mono (l01Same2_ok _ _ _ U w2 _ _ hR2 (Rows2.ext (Rows2.ext hu0 hg1) hg2)) ?_
   rintro e3 w3 ⟨v3,rfl,hg3,rfl⟩
   go_wp2
   go_ret
   exact ⟨_,rfl,grown_trans hg0 (grown_trans hg1 (grown_trans hg2 hg3)),_,rfl,by
    rw[eqB_true,HI.out.1]
    exact⟨fun h=>⟨hl,HI.out.2,h⟩,fun h=>h.2.2⟩⟩
 ·have hle:¬(U.length:Int)≤P.orders.length:=by omega
  have hno:¬SubB P U:=fun h=>hl (hiff.1 h).1
  have HN:=Lib.hid hno;clear hno hiff hl
  go_wp2
  go_ret
  exact⟨_,rfl,hg0,.inl ⟨rfl,HN.out⟩⟩
set_option maxRecDepth 100000 in
set_option maxHeartbeats 2000000 in
theorem sIsSubgroup_ok (P:Pr) (w:World) (pv uv:Value) (U:List (List Int)) (Sp Su:Nat→Prop) (hpv:PresV Sp w pv P) (hu:Rows2 Su w uv U) :
  Calls Tryz.prog 118 #[pv,uv] w (Ret w fun _ v=>∃r:Bool,v=.bool r∧(r=true↔rconsB P=true∧SubB P U)):=by
 obtain⟨vo,vp,vc,rfl,h3⟩:=hpv
 have hp0:=PresP.box h3 28
 have hg0:Ext w (w.alloc (.cells #[vo,vp,vc] 28)):=World.grownBy_alloc _ _ _
 obtain⟨vo6,vp6,vc6,_,_,hc0,hc1,hc2,h36⟩:=hp0.at
 simp only[Nat.zero_add] at hc1 hc2
 have hu0:=Rows2.ext hu hg0
 obtain⟨au,capu,rfl,_,_⟩:=Sl.shape hu
 clear hp0 hu
 have hE:=l08Group_ok P (w.alloc (.cells #[vo,vp,vc] 28)) _ Any ⟨_,_,_,rfl,h36⟩
 go_enter Tryz.func118,Tryz.ntmps118
 go_wp2_with fail
 generalize hw0:w.alloc (.cells #[vo,vp,vc] 28)=w0 at *
 clear hw0
 refine Calls.mono hE ?_
 rintro e1 w1 ⟨v1,rfl,hg1,rfl⟩
 clear hE
 have hb0:=hg1.cell hc0 (by simp)
 have hb1:=hg1.cell hc1 (by simp)
 have hb2:=hg1.cell hc2 (by simp)
 clear hc0 hc1 hc2
 cases hr:rconsB P with
 | false=>
  have HR:=Lib.hid hr;clear hr
  go_wp2
  go_ret
  exact⟨_,rfl,grown_trans hg0 hg1,false,rfl,by simp only[Bool.false_eq_true,false_iff];rintro⟨h,_⟩;rw[HR.out] at h;exact Bool.noConfusion h⟩
 | true=>
  have G:=grp_of_r hr
  have HR:=Lib.hid hr;clear hr
  go_wp2_with fail
  clear hb0 hb1 hb2
  refine Calls.mono (l12Is_ok P G w1 _ _ U Any Su ⟨_,_,_,rfl,Pres3.ext h36 hg1⟩ (Rows2.ext hu0 hg1)) ?_
  rintro e2 w2 ⟨v2,rfl,hg2,r2,rfl,hr2⟩
  have HR2:=Lib.hid hr2;clear hr2
  go_wp2
  go_ret
  exact⟨_,rfl,grown_trans hg0 (grown_trans hg1 hg2),r2,rfl,⟨fun h=>⟨HR.out,HR2.out.1 h⟩,fun h=>HR2.out.2 h.2⟩⟩
set_option maxRecDepth 100000 in
set_option maxHeartbeats 2000000 in
theorem l13Two_ok (P:Pr) (w:World) (pv uv vv:Value) (U V:List (List Int)) (Sp Su Sv:Nat→Prop) (hpv:PresV Sp w pv P) (hu:Rows2 Su w uv U) (hv:Rows2 Sv w vv V) :
  Calls Tryz.prog 130 #[pv,uv,vv] w (Ret w fun _ v=>∃r:Bool,v=.bool r∧(r=true↔rconsB P=true∧SubB P U∧SubB P V)):=by
 obtain⟨vo,vp,vc,rfl,h3⟩:=hpv
 have hp0:=PresP.box h3 28
 have hg0:Ext w (w.alloc (.cells #[vo,vp,vc] 28)):=World.grownBy_alloc _ _ _
 obtain⟨vo6,vp6,vc6,_,_,hc0,hc1,hc2,h36⟩:=hp0.at
 simp only[Nat.zero_add] at hc1 hc2
 have hu0:=Rows2.ext hu hg0
 have hv0:=Rows2.ext hv hg0
 obtain⟨au,capu,rfl,_,_⟩:=Sl.shape hu
 obtain⟨av,capv,rfl,_,_⟩:=Sl.shape hv
 clear hp0 hu hv
 have hE:=sIsSubgroup_ok P (w.alloc (.cells #[vo,vp,vc] 28)) _ _ U Any Su ⟨_,_,_,rfl,h36⟩ hu0
 go_enter Tryz.func130,Tryz.ntmps130
 go_wp2_with fail
 generalize hw0:w.alloc (.cells #[vo,vp,vc] 28)=w0 at *
 clear hw0
 refine Calls.mono hE ?_
 rintro e1 w1 ⟨v1,rfl,hg1,r1,rfl,hr1⟩
 clear hE
 have hb0:=hg1.cell hc0 (by simp)
 have hb1:=hg1.cell hc1 (by simp)
 have hb2:=hg1.cell hc2 (by simp)
 clear hc0 hc1 hc2
 cases r1 with
 | false=>
  have HR:=Lib.hid hr1;clear hr1
  go_wp2
  go_ret
  exact ⟨_,rfl,grown_trans hg0 hg1,false,rfl,by
   simp only[Bool.false_eq_true,false_iff]
   rintro⟨h,h2,_⟩
   have:=HR.out.2 ⟨h,h2⟩;cases this⟩
 | true=>
  obtain⟨hr,hS⟩:=hr1.1 rfl
  have G:=grp_of_r hr
  have HR:=Lib.hid (And.intro hr hS);clear hr hS hr1
  go_wp2_with fail
  clear hb0 hb1 hb2
  refine Calls.mono (l12Is_ok P G w1 _ _ V Any Sv ⟨_,_,_,rfl,Pres3.ext h36 hg1⟩ (Rows2.ext hv0 hg1)) ?_
  rintro e2 w2 ⟨v2,rfl,hg2,r2,rfl,hr2⟩
  have HR2:=Lib.hid hr2;clear hr2
  go_wp2
  go_ret
  exact⟨_,rfl,grown_trans hg0 (grown_trans hg1 hg2),r2,rfl,by rw[HR2.out];exact⟨fun h=>⟨HR.out.1,HR.out.2,h⟩,fun h=>h.2.2⟩⟩
end Go.Proofs.YtdcobapnlpeaaaaGreat
namespace Go.Proofs.YtdcobapnlpeaaaaGreat
open Go.RowKit
theorem rows3One {S:Nat→Prop}{w:World}{u:Value}{U:List (List Int)} (h:Rows2 S w u U):Rows3 Any (w.alloc (.cells #[u] 25)) (.slice (some ⟨w.heap.size,0,none⟩) 1 1) [U]:=by
 refine⟨_,1,rfl,⟨by simp,by simp,fun h=>by cases h⟩,fun i hi => ?_⟩
 have:i=0:=by simpa using hi
 subst this
 refine⟨w.heap.size,0,u,rfl,trivial,by simp,by rw[World.cell?_alloc_at _ _ _ _ rfl];rfl,?_⟩
 exact Rows2.sub (Rows2.ext h (World.grownBy_alloc _ _ _)) (fun _ _ _=>trivial)
theorem rows3Two {S S':Nat→Prop}{w:World}{u v:Value}{U V:List (List Int)} (h:Rows2 S w u U) (k:Rows2 S' w v V):Rows3 Any (w.alloc (.cells #[u,v] 25)) (.slice (some ⟨w.heap.size,0,none⟩) 2 2) [U,V]:=by
 refine⟨_,2,rfl,⟨by simp,by simp,fun h=>by cases h⟩,fun i hi => ?_⟩
 rcases(show i=0∨i=1 by simp at hi;omega) with rfl|rfl
 ·refine ⟨w.heap.size,0,u,rfl,trivial,by simp,by rw[World.cell?_alloc_at _ _ _ _ rfl];rfl,?_⟩
  exact Rows2.sub (Rows2.ext h (World.grownBy_alloc _ _ _)) (fun _ _ _=>trivial)
 ·refine ⟨w.heap.size,0,v,rfl,trivial,by simp,by rw[World.cell?_alloc_at _ _ _ _ rfl];rfl,?_⟩
  exact Rows2.sub (Rows2.ext k (World.grownBy_alloc _ _ _)) (fun _ _ _=>trivial)
theorem elemsIn_len {P:Pr} (hP:Valid P) (H:List Int→Prop):(elemsIn P H).length≤729:=by
 have h1:=elemsTo_len P H (ordP P).toNat
 rw[elemsTo_all] at h1
 have h2:ordP P≤729:=hP.le729
 omega
end Go.Proofs.YtdcobapnlpeaaaaGreat
namespace Go.Proofs.YtdcobapnlpeaaaaGreat
open Go.RowKit
def inTo (E:List (List Int)) (K:List Int→Prop) (k:Nat) (x:List Int):Prop:=x∈E.take k∧K x
theorem inTo_succ {E:List (List Int)}{K:List Int→Prop}{k:Nat} (hk:k<E.length) (hK:K (gt E k)):(fun x=>inTo E K k x∨x∈[gt E k])=inTo E K (k+1):=by
 funext x
 unfold inTo
 rw[take_succ_gt E k hk]
 simp only[List.mem_append,List.mem_singleton,eq_iff_iff]
 constructor
 ·rintro (⟨h1,h2⟩|h)
  ·exact⟨.inl h1,h2⟩
  ·exact⟨.inr h,by rw[h];exact hK⟩
 ·rintro ⟨h|h,h2⟩
  ·exact .inl ⟨h,h2⟩
  ·exact .inr h
theorem inTo_skip {E:List (List Int)}{K:List Int→Prop}{k:Nat} (hk:k<E.length) (hK:¬K (gt E k)):inTo E K (k+1)=inTo E K k:=by
 funext x
 unfold inTo
 rw[take_succ_gt E k hk]
 simp only[List.mem_append,List.mem_singleton,eq_iff_iff]
 constructor
 ·rintro ⟨h|h,h2⟩
  ·exact⟨h,h2⟩
  ·exact absurd (by rw[←h];exact h2) hK
 ·rintro ⟨h,h2⟩
  exact⟨.inl h,h2⟩
theorem inTo_zero (E:List (List Int)) (K:List Int→Prop):inTo E K 0=fun _=>False:=by
 funext x;unfold inTo;simp
theorem inTo_all {P:Pr}{H K:List Int→Prop} (hP:Valid P) (S:Sub P H) (E:List (List Int)) (hE:E=elemsIn P H):inTo E K E.length=fun x=>H x∧K x:=by
 funext x
 unfold inTo
 rw[List.take_length,hE,elemsIn_mem hP S.vec]
theorem rows2One {S S':Nat→Prop}{w:World}{u:Value}{X:List Int} (h:Ints S w u X) (hS:∀k,S k→k<w.heap.size→S' k) (hn:S' w.heap.size):Rows2 S' (w.alloc (.cells #[u] 24)) (.slice (some ⟨w.heap.size,0,none⟩) 1 1) [X]:=by
 refine⟨_,1,rfl,⟨by simp,by simp,fun h=>by cases h⟩,fun i hi => ?_⟩
 have:i=0:=by simpa using hi
 subst this
 have hg:Ext w (w.alloc (.cells #[u] 24)):=World.grownBy_alloc _ _ _
 refine⟨w.heap.size,0,u,rfl,hn,by simp,by rw[World.cell?_alloc_at _ _ _ _ rfl];rfl,?_⟩
 exact Ints.mono h (fun k hk hlt=>⟨hS k hk hlt,Nat.lt_of_lt_of_le hlt hg.size,hg.block k hlt (by simp)⟩)
set_option maxRecDepth 100000 in
set_option maxHeartbeats 8000000 in
theorem meet_ok (P:Pr) (G:Grp P) (w:World) (p uv vv:Value) (H K:List Int→Prop) (Sp Su Sv:Nat→Prop) (S:Sub P H) (R:Sub P K) (hp:PresP Sp w p P) (hu:Rows2 Su w uv (cseq P H)) (hv:Rows2 Sv w vv (cseq P K)) :
  Calls Tryz.prog 174 #[p,uv,vv] w (Ret w fun w' v=>RowsO w.heap.size w' v (cseq P (fun x=>H x∧K x))):=by
 have hP:=G.v
 have hn6:=hP.n6
 obtain⟨pb,po,rfl⟩:=hp.shape
 have hlH:=G.cseq_len S
 have hlK:=G.cseq_len R
 have hsH:=(G.seq_facts S).1
 have hsK:=(G.seq_facts R).1
 obtain⟨au,capu,rfl,_,_⟩:=Sl.shape hu
 obtain⟨av,capv,rfl,_,_⟩:=Sl.shape hv
 have hsel:∃(H1 K1:List Int→Prop) (u1 v1:Value),Sub P H1∧Sub P K1∧Rows2 Any w u1 (cseq P H1)∧Rows2 Any w v1 (cseq P K1)∧(fun x=>H1 x∧K1 x)=(fun x=>H x∧K x) ∧
   ((prodU P (cseq P K) (cseq P K).length<prodU P (cseq P H) (cseq P H).length∧u1=.slice av (cseq P K).length capv∧v1=.slice au (cseq P H).length capu) ∨
    (¬prodU P (cseq P K) (cseq P K).length<prodU P (cseq P H) (cseq P H).length∧u1=.slice au (cseq P H).length capu∧v1=.slice av (cseq P K).length capv)):=by
  have hu':=Rows2.sub hu (S':=Any) (fun _ _ _=>trivial)
  have hv':=Rows2.sub hv (S':=Any) (fun _ _ _=>trivial)
  by_cases h:prodU P (cseq P K) (cseq P K).length<prodU P (cseq P H) (cseq P H).length
  ·exact⟨K,H,_,_,R,S,hv',hu',funext fun x=>propext ⟨fun h=>⟨h.2,h.1⟩,fun h=>⟨h.2,h.1⟩⟩,.inl ⟨h,rfl,rfl⟩⟩
  ·exact⟨H,K,_,_,S,R,hu',hv',rfl,.inr ⟨h,rfl,rfl⟩⟩
 obtain⟨H1,K1,u1,v1,S1,R1,hu1,hv1,hHK,hsel⟩:=hsel
 have hlH1:=G.cseq_len S1
 have hE:=G.els_sorted S1
 have hs1:=(G.seq_facts S1).1
 have HX:=Lib.hid (And.intro hsH (And.intro hsK (And.intro hHK (And.intro hE hs1))));clear hsH hsK hHK hE hs1
 obtain⟨E,hEe⟩:∃E,E=elemsIn P H1:=⟨_,rfl⟩
 have hEl:E.length≤729:=by rw[hEe];exact elemsIn_len hP H1
 have HE:=Lib.hid hEe;clear hEe
 go_enter Tryz.func174,Tryz.ntmps174
 go_wp2_with fail
 refine Calls.mono (sizeOf_ok P hP w _ _ (cseq P H) Sp Su hp hu HX.out.1 (by omega)) ?_
 rintro eA wA ⟨vA,rfl,hgA,rfl⟩
 go_wp2_with fail
 refine Calls.mono (sizeOf_ok P hP wA _ _ (cseq P K) Sp Sv (hp.ext hgA) (Rows2.ext hv hgA) HX.out.2.1 (by omega)) ?_
 rintro eB wB ⟨vB,rfl,hgB,rfl⟩
 have hgw:=grown_trans hgA hgB
 obtain⟨m1,hm1⟩:∃m1,m1=prodU P (cseq P H) (cseq P H).length:=⟨_,rfl⟩
 obtain⟨m2,hm2⟩:∃m2,m2=prodU P (cseq P K) (cseq P K).length:=⟨_,rfl⟩
 rw[←hm1,←hm2] at hsel ⊢
 clear hm1 hm2 hu hv
 rcases hsel with⟨hc,rfl,rfl⟩|⟨hc,rfl,rfl⟩
 all_goals
  go_wp2_with fail
  clear hc
  refine Calls.mono (newSequence_ok P wB _ Sp (fun _=>False) (hp.ext hgw) hn6) ?_
  rintro e1 w1 ⟨v1,rfl,hg1,sb,gb,rfl,hs⟩
  have hgb:=hs.tab.lt
  have hsb:=hs.sB
  have hsl:=hs.slt
  have hgw1:=grown_trans hgw hg1
  go_wp2_with fail
  refine Calls.mono (elementsOf_ok P G w1 _ _ (cseq P H1) Sp Any (hp.ext hgw1) (Rows2.ext hu1 hgw1) HX.out.2.2.2.2 (by omega)) ?_
  rintro e2 w2 ⟨v2,rfl,hg2,hO⟩
  rw[HX.out.2.2.2.1,←HE.out] at hO
  have hgw2:=grown_trans hgw1 hg2
  have hER:=RowsD.rows (SlO.toD hO (by omega))
  obtain⟨ae,cape,hve,_,_⟩:=Sl.shape hER
  subst hve
  have hER2:Rows2 (fun j=>w1.heap.size≤j) w2 (.slice ae E.length cape) E:=hER
  have hs2:=hs.ext hg2
  have hwB:=hgw.size
  clear hO hER hs
  go_wp2
  go_loopw [25] (fun iv wr=>∃(k:Nat) (b:List (List Int)),iv=.int .i64 k∧k≤E.length∧Ext w wr∧SeqAt wB.heap.size (fun _=>False) wr sb gb (.pointer (some ⟨pb,po,none⟩)) P.orders.length b∧Rows2 (fun j=>w1.heap.size≤j) wr (.slice ae E.length cape) E∧Hid (Ind P (genP P (inTo E K1 k)) (gt b))) (fun iv _=>E.length-(intOf iv).toNat)
  case atStart=>exact⟨0,_,rfl,by omega,hgw2,hs2,hER2,Lib.hid (by rw[inTo_zero,G.genP_none];exact G.ind_one)⟩
  case round=>
   clear hs2 hER2
   obtain⟨k,b,rfl,hk,hg,hs,hER,hI⟩:=hrel
   by_cases hlt:k<E.length
   ·have hlt':(k:Int)<E.length:=by omega
    obtain⟨bb,off,a2,cap2,rfl,_,_,hc,hr⟩:=Rows2.at hER k hlt
    have hXV:Vec P.orders (gt E k):=S1.vec _ ((elemsIn_mem hP S1.vec _).1 (by rw[←HE.out];exact gtMem hlt))
    have HXV:=Lib.hid hXV;clear hXV
    go_wp2_with fail
    clear hc
    refine Calls.mono (isMember_ok P G wr _ _ _ K1 (gt E k) Sp Any _ R1 (hp.ext hg) (Rows2.ext hv1 hg) hr HXV.out) ?_
    rintro e3 w3 ⟨v3,rfl,hg3,r,rfl,hr3⟩
    have hg03:=grown_trans hg hg3
    cases r with
    | false=>
     have hI2:Hid (Ind P (genP P (inTo E K1 (k+1))) (gt b)):=Lib.hid (by rw[inTo_skip hlt (fun h=>by have:=hr3.2 h;cases this)];exact hI.out)
     have hs3:=hs.ext hg3
     have hER3:=Rows2.ext hER hg3
     clear hr3
     go_wp2
     go_roundw
     case rel=>exact⟨k+1,b,by go_num,by omega,hg03,hs3,hER3,hI2⟩
     case measure=>simp[intOf];omega
    | true=>
     have hin:=inTo_succ hlt (hr3.1 rfl)
     have HIN:=Lib.hid hin;clear hin hr3
     have hga:Ext w3 (w3.alloc (.cells #[.slice a2 (gt E k).length cap2] 24)):=World.grownBy_alloc _ _ _
     have hg3s:=hg3.size
     have hws:=hs.slt
     have hwt:=hs.tab.lt
     have hlit:=rows2One (S':=fun j=>¬(j=gb∨j=sb)) (Ints.ext hr hg3) (fun j hj hlt=>by omega) (by omega)
     have hgwa:=grown_trans hg03 hga
     have hadd:=add_ok P G (w3.alloc (.cells #[.slice a2 (gt E k).length cap2] 24)) sb gb wB.heap.size _ _ [gt E k] b _ (hp.mono (fun j _ hj=>⟨by omega,Nat.lt_of_lt_of_le hj hgwa.size,hgwa.block j hj (by simp)⟩)) ((hs.ext hg3).ext hga) hI.out (fun x hx=>by rw[List.mem_singleton.1 hx];exact HXV.out) hlit (by simp)
     have HA:=Lib.hid hadd;clear hadd
     go_wp2_with fail
     refine Calls.mono HA.out ?_
     rintro e4 w4 ⟨b4,g4,rfl,hg4,hs4,hA4,_,_⟩
     rw[genP_or,HIN.out] at hA4
     have hgw4:Ext w w4:=grown_own hgwa hg4 (fun j hj hlt=>by cases hj;omega)
     have hER4:Rows2 (fun j=>w1.heap.size≤j) w4 (.slice (some ⟨bb,off,none⟩) E.length cape) E:=Rows2.mono hER (fun j hj hlt=>⟨hj,Nat.lt_of_lt_of_le hlt (Nat.le_trans hg3.size (Nat.le_trans hga.size hg4.size)),(hg4.block j (Nat.lt_of_lt_of_le hlt (Nat.le_trans hg3.size hga.size)) (fun e=>by cases e;omega)).trans ((hga.block j (Nat.lt_of_lt_of_le hlt hg3.size) (by simp)).trans (hg3.block j hlt (by simp)))⟩)
     have HA4:=Lib.hid hA4;clear hA4 HA hlit
     go_wp2
     go_roundw
     case rel=>exact⟨k+1,b4,by go_num,by omega,hgw4,hs4,hER4,HA4⟩
     case measure=>simp[intOf];omega
   ·have hke:k=E.length:=by omega
    have hI2:Hid (Ind P (fun x=>H x∧K x) (gt b)):=Lib.hid (by
     have h:=hI.out
     rw[hke,inTo_all hP S1 E HE.out,genP_self (S1.and R1),HX.out.2.2.1] at h
     exact h)
    subst hke
    clear hI
    go_wp2_with fail
    refine Calls.mono (canonical_ok P G wr sb gb wB.heap.size _ b _ _ _ (hp.ext hg) hs hI2.out) ?_
    rintro e5 w5 ⟨v5,rfl,hg5,hO5⟩
    go_wp2
    go_ret
    exact⟨_,rfl,grown_trans hg hg5,hO5.weak hg.size⟩
end Go.Proofs.YtdcobapnlpeaaaaGreat
namespace Go.Proofs.YtdcobapnlpeaaaaGreat
open Go.RowKit
def conjL (P:Pr) (L:List (List Int)) (X:List Int):List (List Int):=L.map (fun y=>rConj P y X)
set_option maxHeartbeats 1000000 in
theorem conjugates_ok (P:Pr) (G:Grp P) (w:World) (p lv xv:Value) (L:List (List Int)) (X:List Int) (Sp Sr Sx:Nat→Prop) (hp:PresP Sp w p P) (hl:Rows2 Sr w lv L) (hL:∀y∈L,Vec P.orders y) (hlen:L.length≤10000) (hx:Ints Sx w xv X) (hX:Vec P.orders X) :
  Calls Tryz.prog 230 #[p,lv,xv] w (Ret w fun w' v=>RowsO w.heap.size w' v (conjL P L X)):=by
 have hP:=G.v
 have hn6:=hP.n6
 obtain⟨pb,po,rfl⟩:=hp.shape
 obtain⟨al,capl,rfl,_,_⟩:=Sl.shape hl
 obtain⟨ax,capx,rfl,_,_⟩:=hx.shape
 have HL:=Lib.hid (And.intro hL hX);clear hL hX
 have hcl:(conjL P L X).length=L.length:=by unfold conjL;rw[List.length_map]
 have HCL:=Lib.hid hcl;clear hcl
 go_enter Tryz.func230,Tryz.ntmps230
 go_wp2
 go_loopw [7,12] (fun ov iv wr=>∃(k:Nat) (v4:Value),v4=ov∧iv=.int .i64 k∧k≤L.length∧Ext w wr∧RowsO w.heap.size wr v4 ((conjL P L X).take k)) (fun _ iv _=>L.length-(intOf iv).toNat)
 case atStart=>exact⟨0,_,rfl,rfl,by omega,Ext.refl _,SlO.nil _ _ _ _⟩
 case round=>
  obtain⟨k,v4,rfl,rfl,hk,hg,hO⟩:=hrel
  by_cases hlt:k<L.length
  ·have hlt':(k:Int)<L.length:=by omega
   obtain⟨b,off,a2,cap2,rfl,_,_,hc,hi⟩:=Rows2.at (Rows2.ext hl hg) k hlt
   have hyV:=HL.out.1 _ (gtMem hlt)
   have hstep:(conjL P L X).take (k+1)=(conjL P L X).take k++[rConj P (gt L k) X]:=by
    rw[take_succ_gt _ k (by rw[HCL.out];exact hlt)]
    unfold conjL
    rw[gt_map _ _ _ hlt]
   have htl:((conjL P L X).take k).length≤1000000:=by rw[List.length_take];have:=HCL.out;omega
   have HS:=Lib.hid (And.intro hstep hyV);clear hstep hyV
   go_wp2_with fail
   refine Calls.mono (conjugate_ok P hP wr _ _ _ (gt L k) X Sp Sr Sx (hp.ext hg) hi (hx.ext hg) HS.out.2 HL.out.2) ?_
   rintro eC wC ⟨vC,rfl,hgC,hOC⟩
   rw[G.iConj_eq HS.out.2 HL.out.2] at hOC
   have hcV:=G.conjV HS.out.2 HL.out.2
   have hYO:OwnIn (From wr.heap.size) wC vC (rConj P (gt L k) X):=OwnIn.of hOC (by rw[hcV.1];omega) (fun j h1 _=>h1)
   obtain⟨ay,capy,hvy,_,_⟩:=hYO.ints.shape
   subst hvy
   clear hc hcV
   go_wp2_with (first|(at_builtin;refine wp_app_row rfl _ _ rfl w.heap.size wr wC v4 _ ((conjL P L X).take k) (rConj P (gt L k) X) rfl hO hgC hYO rfl rfl htl hg.size ?_;intro v5 w5 hO5 hg5 hg6;have hgw5:=hO.extw hg (Nat.le_refl _) hg5)|fail)
   go_roundw
   case rel=>exact⟨k+1,v5,rfl,by go_num,by omega,hgw5,by rw[HS.out.1];exact hO5⟩
   case measure=>simp[intOf];omega
  ·have hke:k=L.length:=by omega
   subst hke
   rw[List.take_of_length_le (by rw[HCL.out];exact Nat.le_refl _)] at hO
   obtain⟨az,capz,hvz,_,_⟩:=SlD.shape (hO.toD (by rw[HCL.out];omega))
   subst hvz
   go_wp2
   go_ret
   exact⟨_,rfl,hg,hO⟩
set_option maxHeartbeats 400000 in
theorem conjugateSubgroup_ok (P:Pr) (G:Grp P) (w:World) (p lv xv:Value) (L:List (List Int)) (X:List Int) (Sp Sr Sx:Nat→Prop) (hp:PresP Sp w p P) (hl:Rows2 Sr w lv L) (hL:∀y∈L,Vec P.orders y) (hlen:L.length≤10000) (hx:Ints Sx w xv X) (hX:Vec P.orders X) :
  Calls Tryz.prog 132 #[p,lv,xv] w (Ret w fun w' v=>RowsO w.heap.size w' v (cseq P (genP P (fun z=>z∈conjL P L X)))):=by
 have hcl:(conjL P L X).length=L.length:=by unfold conjL;rw[List.length_map]
 have hcon:=conjugates_ok P G w p lv xv L X Sp Sr Sx hp hl hL hlen hx hX
 obtain⟨pb,po,rfl⟩:=hp.shape
 obtain⟨al,capl,rfl,_,_⟩:=Sl.shape hl
 obtain⟨ax,capx,rfl,_,_⟩:=hx.shape
 have hCV:∀z∈conjL P L X,Vec P.orders z:=fun z hz=>by
  unfold conjL at hz
  obtain⟨y,hy,rfl⟩:=List.mem_map.1 hz
  exact G.conjV (hL y hy) hX
 have HC:=Lib.hid (And.intro hCV hcl);clear hCV hcl
 go_enter Tryz.func132,Tryz.ntmps132
 go_wp2_with fail
 refine Calls.mono hcon ?_
 rintro e1 w1 ⟨v1,rfl,hg1,hO⟩
 clear hcon
 have hR:=RowsD.rows (hO.toD (by rw[HC.out.2];omega))
 obtain⟨a1,cap1,hv1,_,_⟩:=Sl.shape hR
 subst hv1
 go_wp2_with fail
 refine Calls.mono (generated_ok P G w1 _ _ (conjL P L X) Sp _ (hp.ext hg1) hR HC.out.1 (by rw[HC.out.2];omega)) ?_
 rintro e2 w2 ⟨v2,rfl,hg2,hO2⟩
 go_wp2
 go_ret
 exact⟨_,rfl,grown_trans hg1 hg2,hO2.weak hg1.size⟩
end Go.Proofs.YtdcobapnlpeaaaaGreat
namespace Go.Proofs.YtdcobapnlpeaaaaGreat
open Go.RowKit
noncomputable def prodSz (P:Pr) (H K:List Int→Prop):Int:=
 prodU P (cseq P H) (cseq P H).length*prodU P (cseq P K) (cseq P K).length/prodU P (cseq P (fun x=>H x∧K x)) (cseq P (fun x=>H x∧K x)).length
set_option maxRecDepth 100000 in
set_option maxHeartbeats 4000000 in
theorem productSize_ok (P:Pr) (G:Grp P) (w:World) (p uv vv:Value) (H K:List Int→Prop) (Sp Su Sv:Nat→Prop) (S:Sub P H) (R:Sub P K) (hp:PresP Sp w p P) (hu:Rows2 Su w uv (cseq P H)) (hv:Rows2 Sv w vv (cseq P K)) :
  Calls Tryz.prog 172 #[p,uv,vv] w (Ret w fun _ v=>v=.int .i64 (prodSz P H K)):=by
 have hP:=G.v
 have hn6:=hP.n6
 obtain⟨pb,po,rfl⟩:=hp.shape
 have hlH:=G.cseq_len S
 have hlK:=G.cseq_len R
 have hlM:=G.cseq_len (S.and R)
 have hsH:=(G.seq_facts S).1
 have hsK:=(G.seq_facts R).1
 have hsM:=(G.seq_facts (S.and R)).1
 have hbH:=prodU_729 hP hsH _ (Nat.le_refl _)
 have hbK:=prodU_729 hP hsK _ (Nat.le_refl _)
 have hbM:=prodU_729 hP hsM _ (Nat.le_refl _)
 have hE:prodSz P H K=prodU P (cseq P H) (cseq P H).length*prodU P (cseq P K) (cseq P K).length/prodU P (cseq P (fun x=>H x∧K x)) (cseq P (fun x=>H x∧K x)).length:=rfl
 obtain⟨au,capu,rfl,_,_⟩:=Sl.shape hu
 obtain⟨av,capv,rfl,_,_⟩:=Sl.shape hv
 obtain⟨a,ha⟩:∃a,a=prodU P (cseq P H) (cseq P H).length:=⟨_,rfl⟩
 obtain⟨b,hb⟩:∃b,b=prodU P (cseq P K) (cseq P K).length:=⟨_,rfl⟩
 obtain⟨c,hc⟩:∃c,c=prodU P (cseq P (fun x=>H x∧K x)) (cseq P (fun x=>H x∧K x)).length:=⟨_,rfl⟩
 rw[←ha] at hbH hE
 rw[←hb] at hbK hE
 rw[←hc] at hbM hE
 have hab0:0≤a*b:=Int.mul_nonneg (by omega) (by omega)
 have hab1:a*b≤729*729:=Int.mul_le_mul (by omega) (by omega) (by omega) (by omega)
 have hq0:0≤a*b/c:=Int.ediv_nonneg hab0 (by omega)
 have hq1:a*b/c≤a*b:=Int.ediv_le_self _ hab0
 have e1:IntKind.i64.wrap (a*b)=a*b:=IntWalk.i64_in _ (by omega)
 have e2:(a*b).tdiv c=a*b/c:=Int.tdiv_eq_ediv_of_nonneg hab0
 have e3:IntKind.i64.wrap (a*b/c)=a*b/c:=IntWalk.i64_in _ (by omega)
 have hc0:(c == 0)=false:=by simp;omega
 have HX:=Lib.hid (And.intro hsH (And.intro hsK (And.intro hsM (And.intro hE (And.intro ha (And.intro hb hc))))));clear hsH hsK hsM hE ha hb hc
 go_enter Tryz.func172,Tryz.ntmps172
 go_wp2_with fail
 refine Calls.mono (sizeOf_ok P hP w _ _ (cseq P H) Sp Su hp hu HX.out.1 (by omega)) ?_
 rintro eA wA ⟨vA,rfl,hgA,rfl⟩
 rw[←HX.out.2.2.2.2.1]
 go_wp2_with fail
 refine Calls.mono (sizeOf_ok P hP wA _ _ (cseq P K) Sp Sv (hp.ext hgA) (Rows2.ext hv hgA) HX.out.2.1 (by omega)) ?_
 rintro eB wB ⟨vB,rfl,hgB,rfl⟩
 rw[←HX.out.2.2.2.2.2.1]
 have hgw:=grown_trans hgA hgB
 go_wp2_with fail
 refine Calls.mono (meet_ok P G wB _ _ _ H K Sp Su Sv S R (hp.ext hgw) (Rows2.ext hu hgw) (Rows2.ext hv hgw)) ?_
 rintro eC wC ⟨vC,rfl,hgC,hOC⟩
 have hgwC:=grown_trans hgw hgC
 have hMR:=RowsD.rows (SlO.toD hOC (by omega))
 obtain⟨am,capm,hvm,_,_⟩:=Sl.shape hMR
 subst hvm
 go_wp2_with fail
 refine Calls.mono (sizeOf_ok P hP wC _ _ (cseq P (fun x=>H x∧K x)) Sp _ (hp.ext hgwC) hMR HX.out.2.2.1 (by omega)) ?_
 rintro eD wD ⟨vD,rfl,hgD,rfl⟩
 rw[←HX.out.2.2.2.2.2.2]
 go_wp2
 go_ret
 exact⟨_,rfl,grown_trans hgwC hgD,by rw[HX.out.2.2.2.1];rfl⟩
end Go.Proofs.YtdcobapnlpeaaaaGreat
namespace Go.Proofs.YtdcobapnlpeaaaaGreat
abbrev gU (P:Pr) (U:List (List Int)):List Int→Prop:=genP P (fun x=>x∈U)
def twoOk (P:Pr) (U V:List (List Int)):Prop:=rconsB P=true∧SubB P U∧SubB P V
end Go.Proofs.YtdcobapnlpeaaaaGreat
namespace Go.Proofs.YtdcobapnlpeaaaaGreat
open Go.RowKit
open Classical in
noncomputable def selC (P:Pr) (U:List (List Int)):Int:=if rconsB P=true∧SubB P U then (if 128<prodU P U U.length then 3 else 0) else 1
open Classical in
noncomputable def selL (P:Pr) (U:List (List Int)):List (List Int):=if selC P U=0 then elemsIn P (genP P (fun x=>x∈U)) else []
theorem selL_bad {P:Pr}{U:List (List Int)} (h:¬(rconsB P=true∧SubB P U)):selC P U=1∧selL P U=[]:=by
 have h1:selC P U=1:=by unfold selC;rw[if_neg h]
 exact⟨h1,by unfold selL;rw[h1,if_neg (by decide)]⟩
theorem selL_big {P:Pr}{U:List (List Int)} (h:rconsB P=true∧SubB P U) (h2:128<prodU P U U.length):selC P U=3∧selL P U=[]:=by
 have h1:selC P U=3:=by unfold selC;rw[if_pos h,if_pos h2]
 exact⟨h1,by unfold selL;rw[h1,if_neg (by decide)]⟩
theorem selL_ok {P:Pr}{U:List (List Int)} (h:rconsB P=true∧SubB P U) (h2:¬ 128<prodU P U U.length):selC P U=0∧selL P U=elemsIn P (genP P (fun x=>x∈U)):=by
 have h1:selC P U=0:=by unfold selC;rw[if_pos h,if_neg h2]
 exact⟨h1,by unfold selL;rw[h1,if_pos rfl]⟩
set_option maxRecDepth 100000 in
set_option maxHeartbeats 4000000 in
theorem iSubEl_ok (P:Pr) (w:World) (pv uv:Value) (U:List (List Int)) (Sp Su:Nat→Prop) (hpv:PresV Sp w pv P) (hu:Rows2 Su w uv U) :
  Calls Tryz.prog 59 #[pv,uv] w (Ret w fun w' v=>∃a n c,v=.tuple #[.slice a n c,.int .i64 (selC P U)]∧RowsO w.heap.size w' (.slice a n c) (selL P U)):=by
 obtain⟨vo,vp,vc,rfl,h3⟩:=hpv
 have hp0:=PresP.box h3 28
 have hg0:Ext w (w.alloc (.cells #[vo,vp,vc] 28)):=World.grownBy_alloc _ _ _
 have hs0:(w.alloc (.cells #[vo,vp,vc] 28)).heap.size=w.heap.size+1:=by simp
 have hu0:=Rows2.ext hu hg0
 obtain⟨au,capu,rfl,_,_⟩:=Sl.shape hu
 have hg1:Ext (w.alloc (.cells #[vo,vp,vc] 28)) ((w.alloc (.cells #[vo,vp,vc] 28)).alloc (.cells #[.slice au U.length capu] 25)):=World.grownBy_alloc _ _ _
 have hl:=rows3One hu0
 have hcon:=areSubgroups_ok P _ _ _ [U] Any Any (hp0.ext hg1) hl
 rw[hs0] at hcon
 clear hl hu
 go_enter Tryz.func59,Tryz.ntmps59
 go_wp2_with fail
 refine Calls.mono hcon ?_
 rintro e1 w1 ⟨v1,rfl,hgA,r1,rfl,hr1⟩
 clear hcon
 have hr1:r1=true↔rconsB P=true∧SubB P U:=by rw[hr1];simp
 have hg01:=grown_trans hg1 hgA
 have HS:=Lib.hid hs0;clear hs0
 generalize hw0:w.alloc (.cells #[vo,vp,vc] 28)=w0 at *
 clear hw0 hg1 hgA
 have hp1:=hp0.ext hg01
 have hu1:=Rows2.ext hu0 hg01
 have hs1:w.heap.size≤w1.heap.size:=by have:=hg01.size;have:=HS.out;omega
 cases r1 with
 | false=>
  obtain⟨hc,hL⟩:=selL_bad (P:=P) (U:=U) (fun h=>by have:=hr1.2 h;cases this)
  have HC:=Lib.hid (And.intro hc hL);clear hc hL hr1
  go_wp2
  go_ret2
  exact⟨_,rfl,grown_trans hg0 hg01,none,0,0,by rw[HC.out.1];rfl,by rw[HC.out.2];exact SlO.nil _ _ _ _⟩
 | true=>
  obtain⟨hr,hS⟩:=hr1.1 rfl
  have G:=grp_of_r hr
  have hSub:=G.subB hS
  have hfac:=G.seq_facts hSub
  rw[←hS.2] at hfac
  have hn6:=G.v.n6
  have hul:=G.sub_len hS
  have hels:=G.els_sorted hSub
  rw[←hS.2] at hels
  have HR:=Lib.hid (And.intro hr (And.intro hS (And.intro hfac hels)));clear hr hS hfac hels hr1
  go_wp2_with fail
  refine Calls.mono (sizeOf_ok P G.v w1 _ _ U Any Su hp1 hu1 HR.out.2.2.1.1 (by omega)) ?_
  rintro e2 w2 ⟨v2,rfl,hg2,rfl⟩
  have hg02:=grown_trans hg01 hg2
  by_cases hb:128<prodU P U U.length
  ·obtain ⟨hc,hL⟩:=selL_big (P:=P) (U:=U) ⟨HR.out.1,HR.out.2.1⟩ hb
   have HC:=Lib.hid (And.intro hc hL);clear hc hL
   go_wp2
   go_ret2
   exact⟨_,rfl,grown_trans hg0 hg02,none,0,0,by rw[HC.out.1];rfl,by rw[HC.out.2];exact SlO.nil _ _ _ _⟩
  ·obtain ⟨hc,hL⟩:=selL_ok (P:=P) (U:=U) ⟨HR.out.1,HR.out.2.1⟩ hb
   have HC:=Lib.hid (And.intro hc hL);clear hc hL
   go_wp2_with fail
   refine Calls.mono (elementsOf_ok P G w2 _ _ U Any Su (hp0.ext hg02) (Rows2.ext hu0 hg02) HR.out.2.2.1.1 (by omega)) ?_
   rintro e3 w3 ⟨v3,rfl,hg3,hO⟩
   rw[HR.out.2.2.2] at hO
   have hlen:=elemsIn_len G.v (genP P (fun x=>x∈U))
   obtain⟨az,capz,hvz,_,_⟩:=SlD.shape (hO.toD (by omega))
   subst hvz
   go_wp2
   go_ret2
   exact⟨_,rfl,grown_trans hg0 (grown_trans hg02 hg3),_,_,_,by rw[HC.out.1];rfl,by rw[HC.out.2];exact hO.weak (by have:=hg02.size;have:=HS.out;omega)⟩
theorem selL_len (P:Pr) (U:List (List Int)):(selL P U).length≤729:=by
 by_cases h:rconsB P=true∧SubB P U
 ·by_cases h2:128<prodU P U U.length
  ·rw[(selL_big h h2).2];simp
  ·rw[(selL_ok h h2).2];exact elemsIn_len (grp_of_r h.1).v _
 ·rw[(selL_bad h).2];simp
end Go.Proofs.YtdcobapnlpeaaaaGreat
namespace Go.Proofs.YtdcobapnlpeaaaaGreat
def dcSeen (P:Pr) (H K:List Int→Prop) (c:List (List Int)) (a:Int):Prop:=∃x∈c,∃v u,H v∧K u∧a=num P (rMul P (rMul P v x) u)
open Classical in
noncomputable def dcTo (P:Pr) (H K:List Int→Prop):Nat→List (List Int)
 | 0=>[]
 | k+1=>if dcSeen P H K (dcTo P H K k) k then dcTo P H K k else dcTo P H K k++[elAt P k]
theorem dcTo_seen {P:Pr}{H K:List Int→Prop}{k:Nat} (h:dcSeen P H K (dcTo P H K k) k):dcTo P H K (k+1)=dcTo P H K k:=by
 rw[dcTo,if_pos h]
theorem dcTo_new {P:Pr}{H K:List Int→Prop}{k:Nat} (h:¬dcSeen P H K (dcTo P H K k) k):dcTo P H K (k+1)=dcTo P H K k++[elAt P k]:=by
 rw[dcTo,if_neg h]
theorem dcTo_len (P:Pr) (H K:List Int→Prop) (k:Nat):(dcTo P H K k).length≤k:=by
 induction k with
 | zero=>simp[dcTo]
 | succ k ih=>
  by_cases h:dcSeen P H K (dcTo P H K k) k
  ·rw[dcTo_seen h];omega
  ·rw[dcTo_new h];simp;exact ih
theorem dcSeen_app {P:Pr}{H K:List Int→Prop}{c:List (List Int)}{x:List Int}{a:Int} : dcSeen P H K (c++[x]) a↔dcSeen P H K c a∨dcSeen P H K [x] a:=by
 constructor
 ·rintro ⟨y,hy,h⟩
  rcases List.mem_append.1 hy with h1|h1
  ·exact Or.inl ⟨y,h1,h⟩
  ·exact Or.inr ⟨y,h1,h⟩
 ·rintro (⟨y,hy,h⟩|⟨y,hy,h⟩)
  ·exact⟨y,List.mem_append.2 (Or.inl hy),h⟩
  ·exact⟨y,List.mem_append.2 (Or.inr hy),h⟩
def innM (P:Pr) (y:List Int) (B:List (List Int)):Nat→List Int
 | 0=>[]
 | j+1=>num P (rMul P y (gt B j)) :: innM P y B j
def rowM (P:Pr) (A B:List (List Int)) (x:List Int):Nat→List Int
 | 0=>[]
 | i+1=>innM P (rMul P (gt A i) x) B B.length++rowM P A B x i
open Classical in
noncomputable def dcM (P:Pr) (H K:List Int→Prop):Nat→List Int
 | 0=>[]
 | k+1=>if dcSeen P H K (dcTo P H K k) k then dcM P H K k else rowM P (elemsIn P H) (elemsIn P K) (elAt P k) (elemsIn P H).length++dcM P H K k
theorem dcM_seen {P:Pr}{H K:List Int→Prop}{k:Nat} (h:dcSeen P H K (dcTo P H K k) k):dcM P H K (k+1)=dcM P H K k:=by
 rw[dcM,if_pos h]
theorem dcM_new {P:Pr}{H K:List Int→Prop}{k:Nat} (h:¬dcSeen P H K (dcTo P H K k) k):dcM P H K (k+1)=rowM P (elemsIn P H) (elemsIn P K) (elAt P k) (elemsIn P H).length++dcM P H K k:=by
 rw[dcM,if_neg h]
theorem innM_len (P:Pr) (y:List Int) (B:List (List Int)) (j:Nat):(innM P y B j).length=j:=by
 induction j with
 | zero=>rfl
 | succ j ih=>rw[innM,List.length_cons,ih]
theorem rowM_len (P:Pr) (A B:List (List Int)) (x:List Int) (i:Nat):(rowM P A B x i).length=i*B.length:=by
 induction i with
 | zero=>simp[rowM]
 | succ i ih=>rw[rowM,List.length_append,ih,innM_len,Nat.succ_mul,Nat.add_comm]
theorem innM_mem {P:Pr}{y:List Int}{B:List (List Int)}{j:Nat}{a:Int} : a∈innM P y B j↔∃t,t<j∧a=num P (rMul P y (gt B t)):=by
 induction j with
 | zero=>simp[innM]
 | succ j ih=>
  rw[innM,List.mem_cons,ih]
  constructor
  ·rintro (h|⟨t,ht,h⟩)
   ·exact⟨j,by omega,h⟩
   ·exact⟨t,by omega,h⟩
  ·rintro ⟨t,ht,h⟩
   rcases Nat.lt_succ_iff_lt_or_eq.1 ht with h1|h1
   ·exact Or.inr ⟨t,h1,h⟩
   ·exact Or.inl (h1▸h)
theorem rowM_mem {P:Pr}{A B:List (List Int)}{x:List Int}{i:Nat}{a:Int} : a∈rowM P A B x i↔∃s,s<i∧∃t,t<B.length∧a=num P (rMul P (rMul P (gt A s) x) (gt B t)):=by
 induction i with
 | zero=>simp[rowM]
 | succ i ih=>
  rw[rowM,List.mem_append,ih,innM_mem]
  constructor
  ·rintro (⟨t,ht,h⟩|⟨s,hs,h⟩)
   ·exact⟨i,by omega,t,ht,h⟩
   ·exact⟨s,by omega,h⟩
  ·rintro ⟨s,hs,h⟩
   rcases Nat.lt_succ_iff_lt_or_eq.1 hs with h1|h1
   ·exact Or.inr ⟨s,h1,h⟩
   ·exact Or.inl (h1▸h)
section
variable {P:Pr} (G:Grp P)
include G
theorem Grp.rowM_seen {H K:List Int→Prop} (S:Sub P H) (R:Sub P K) {x:List Int}{a:Int} : a∈rowM P (elemsIn P H) (elemsIn P K) x (elemsIn P H).length↔dcSeen P H K [x] a:=by
 rw[rowM_mem]
 constructor
 ·rintro ⟨s,hs,t,ht,h⟩
  exact⟨x,by simp,gt (elemsIn P H) s,gt (elemsIn P K) t,(elemsIn_mem G.v S.vec _).1 (gtMem hs),(elemsIn_mem G.v R.vec _).1 (gtMem ht),h⟩
 ·rintro ⟨y,hy,v,u,hv,hu,h⟩
  have hyx:y=x:=by simpa using hy
  subst hyx
  obtain⟨s,hs,rfl⟩:=mem_gt ((elemsIn_mem G.v S.vec v).2 hv)
  obtain⟨t,ht,rfl⟩:=mem_gt ((elemsIn_mem G.v R.vec u).2 hu)
  exact⟨s,hs,t,ht,h⟩
theorem Grp.dcM_mem {H K:List Int→Prop} (S:Sub P H) (R:Sub P K) (k:Nat) (a:Int):a∈dcM P H K k↔dcSeen P H K (dcTo P H K k) a:=by
 induction k with
 | zero=>simp[dcM,dcTo,dcSeen]
 | succ k ih=>
  by_cases h:dcSeen P H K (dcTo P H K k) k
  ·rw[dcM_seen h,dcTo_seen h,ih]
  ·rw [dcM_new h,dcTo_new h,dcSeen_app,List.mem_append,ih,G.rowM_seen S R]
   exact Or.comm
omit G in
theorem dcM_len {H K:List Int→Prop} (k:Nat):(dcM P H K k).length≤k*((elemsIn P H).length*(elemsIn P K).length):=by
 induction k with
 | zero=>simp[dcM]
 | succ k ih=>
  rw[Nat.succ_mul]
  by_cases h:dcSeen P H K (dcTo P H K k) k
  ·rw[dcM_seen h];omega
  ·rw[dcM_new h,List.length_append,rowM_len];omega
end
end Go.Proofs.YtdcobapnlpeaaaaGreat
namespace Go.Proofs.YtdcobapnlpeaaaaGreat
open Go.RowKit
def Zr (P:Pr) (U:List (List Int)) (x:List Int):Prop:=Vec P.orders x∧∀j,j<U.length→gt x (dep (gt U j))=0
theorem Grp.zr_one {P:Pr} (G:Grp P) {H:List Int→Prop} (S:Sub P H) {x y:List Int} (hx:Zr P (cseq P H) x) (hy:Zr P (cseq P H) y) (h:H (rMul P (rInv P x) y)):x=y:=by
 obtain⟨_,_,h3⟩:=G.seq_facts S
 have hxi:=G.invV hx.1
 have e1:rMul P x (rMul P (rInv P x) y)=y:=by rw[←G.ass hx.1 hxi hy.1,G.mul_inv hx.1,G.grp.el _ hy.1]
 by_cases hz:rMul P (rInv P x) y=zeros P.orders.length
 ·rw[hz,G.grp.er _ hx.1] at e1;exact e1
 ·exfalso
  have hzv:=S.vec _ h
  obtain⟨e,he,hT,h0⟩:=depth_ex hzv hz
  obtain⟨j,hj,hje⟩:=h3 _ h e he hT h0
  have h2:=(G.right (Nat.le_of_lt he) hx.1 hT).2 he
  have hx0:=hx.2 j hj
  have hy0:=hy.2 j hj
  rw[hje] at hx0 hy0
  rw[e1,hx0,hy0,Int.zero_add] at h2
  have hb:=hzv.2 e he
  rw[Int.emod_eq_of_lt hb.1 hb.2] at h2
  exact h0 h2.symm
theorem Grp.fix_iff {P:Pr} (G:Grp P) {H:List Int→Prop} (S:Sub P H) {x y Y:List Int} (hx:Zr P (cseq P H) x) (hy:Vec P.orders y) (hR:RepTo P (cseq P H) (rMul P y x) (cseq P H).length Y):Y=x↔H (rConj P y x):=by
 have hm:=(G.seq_facts S).2.1
 have hyx:=G.mulV hy hx.1
 have hc:=hR.cos H S hm
 have hxi:=G.invV hx.1
 have hyi:=G.invV hy
 have e2:rMul P (rInv P (rMul P y x)) x=rInv P (rConj P y x):=by
  unfold rConj
  rw[G.inv_mulR hxi hyx,G.inv_inv hx.1]
 constructor
 ·rintro rfl
  rw[e2] at hc
  have:=S.inv _ hc
  have hcv:Vec P.orders (rConj P y Y):=G.mulV hxi hyx
  rwa [G.inv_inv hcv] at this
 ·intro h
  have h1:H (rMul P (rInv P (rMul P y x)) x):=by rw[e2];exact S.inv _ h
  refine G.zr_one S ⟨hR.vec,hR.zer⟩ hx ?_
  have e3:rMul P (rInv P Y) x=rMul P (rInv P (rMul P (rInv P (rMul P y x)) Y)) (rMul P (rInv P (rMul P y x)) x):=by
   have hA:=G.invV hyx
   have hYi:=G.invV hR.vec
   rw[G.inv_mulR hA hR.vec,G.inv_inv hyx,G.ass hYi hyx (G.mulV hA hx.1),←G.ass hyx hA hx.1,G.mul_inv hyx,G.grp.el _ hx.1]
  rw[e3]
  exact S.mul _ _ (S.inv _ hc) h1
end Go.Proofs.YtdcobapnlpeaaaaGreat
namespace Go.Proofs.YtdcobapnlpeaaaaGreat
open Go.RowKit
def frI (P:Pr) (U:List (List Int)):List Nat:=(List.range P.orders.length).filter (fun i => !(U.map dep).contains i)
def ordN' (P:Pr) (i:Nat):Nat:=(gt P.orders i).toNat
def trS (P:Pr) (out:List (List Int)) (i:Nat):List (List Int):=out.flatMap (fun x=>(List.range (ordN' P i)).map (fun e=>x.set i (e:Int)))
def trT (P:Pr) (is:List Nat):List (List Int):=is.foldl (trS P) [zeros P.orders.length]
def elR (P:Pr):List Nat→Nat→List Int
 | [],_=>zeros P.orders.length
 | i :: r,t=>(elR P r (t/ordN' P i)).set i ((t%ordN' P i:Nat):Int)
def szR (P:Pr):List Nat→Nat
 | []=>1
 | i :: r=>szR P r*ordN' P i
theorem range_mul {α:Type} (g:Nat→Nat→α) (o:Nat):∀N,(List.range N).flatMap (fun a=>(List.range o).map (g a))=(List.range (N*o)).map (fun t=>g (t/o) (t%o))
 | 0=>by simp
 | N+1=>by
  rw[List.range_succ,List.flatMap_append,range_mul g o N,Nat.succ_mul,List.range_add,List.map_append]
  congr 1
  rw[List.flatMap_singleton,List.map_map]
  refine List.map_congr_left (fun e he => ?_)
  have he':=List.mem_range.1 he
  have ho:0<o:=by omega
  show g N e=g ((N*o+e)/o) ((N*o+e)%o)
  rw[Nat.add_comm (N*o) e,Nat.add_mul_div_right _ _ ho,Nat.div_eq_of_lt he',Nat.zero_add,Nat.add_mul_mod_self_right,Nat.mod_eq_of_lt he']
theorem trT_eq (P:Pr):∀r:List Nat,trT P r.reverse=(List.range (szR P r)).map (elR P r)
 | []=>by simp[trT,szR,elR]
 | i :: r=>by
  have ih:=trT_eq P r
  unfold trT at ih ⊢
  rw[List.reverse_cons,List.foldl_append,ih]
  show trS P _ i=_
  unfold trS
  rw[List.flatMap_map]
  exact range_mul (fun a e=>(elR P r a).set i (e:Int)) (ordN' P i) (szR P r)
end Go.Proofs.YtdcobapnlpeaaaaGreat
namespace Go.Proofs.YtdcobapnlpeaaaaGreat
def cjS (P:Pr) (K:List Int→Prop) (g x:List Int):Prop:=∃y,K y∧x=rConj P y g
section
variable {P:Pr} (G:Grp P)
include G
theorem Grp.conj_zeros {g:List Int} (hg:Vec P.orders g):rConj P (zeros P.orders.length) g=zeros P.orders.length:=by
 unfold rConj
 rw[G.grp.el _ hg,G.inv_mul hg]
theorem Grp.conj_inv {x g:List Int} (hx:Vec P.orders x) (hg:Vec P.orders g):rConj P (rInv P x) g=rInv P (rConj P x g):=by
 refine G.inv_of (G.conjV hx hg) (G.conjV (G.invV hx) hg) ?_
 rw[←G.conj_hom hx (G.invV hx) hg,G.mul_inv hx,G.conj_zeros hg]
theorem Grp.pull_sub {H:List Int→Prop} (S:Sub P H) {g:List Int} (hg:Vec P.orders g):Sub P (fun y=>Vec P.orders y∧H (rConj P y g)):=
 ⟨fun _ h=>h.1,⟨G.oneV,by rw[G.conj_zeros hg];exact S.one⟩,fun x y hx hy=>⟨G.mulV hx.1 hy.1,by rw[G.conj_hom hx.1 hy.1 hg];exact S.mul _ _ hx.2 hy.2⟩,
  fun x hx=>⟨G.invV hx.1,by rw[G.conj_inv hx.1 hg];exact S.inv _ hx.2⟩⟩
theorem Grp.cj_sub {K:List Int→Prop} (S:Sub P K) {g:List Int} (hg:Vec P.orders g):Sub P (cjS P K g):=by
 refine⟨?_,⟨_,S.one,(G.conj_zeros hg).symm⟩,?_,?_⟩
 ·rintro x ⟨y,hy,rfl⟩;exact G.conjV (S.vec y hy) hg
 ·rintro x x' ⟨y,hy,rfl⟩ ⟨y',hy',rfl⟩
  exact⟨_,S.mul _ _ hy hy',(G.conj_hom (S.vec y hy) (S.vec y' hy') hg).symm⟩
 ·rintro x ⟨y,hy,rfl⟩
  exact⟨_,S.inv _ hy,(G.conj_inv (S.vec y hy) hg).symm⟩
theorem Grp.genP_conjL {K:List Int→Prop} (S:Sub P K) {g:List Int} (hg:Vec P.orders g):genP P (fun z=>z∈conjL P (cseq P K) g)=cjS P K g:=by
 have hf:=(G.seq_facts S).2.1
 have hV:∀z,z∈conjL P (cseq P K) g→Vec P.orders z:=fun z hz=>by
  unfold conjL at hz
  obtain⟨y,hy,rfl⟩:=List.mem_map.1 hz
  exact G.conjV (S.vec y (hf y hy)) hg
 have S2:=G.genP_sub (Q:=fun z=>z∈conjL P (cseq P K) g) hV
 refine funext fun x=>propext ⟨fun h=>h _ (G.cj_sub S hg) (fun z hz => ?_),?_⟩
 ·unfold conjL at hz
  obtain⟨y,hy,rfl⟩:=List.mem_map.1 hz
  exact⟨y,hf y hy,rfl⟩
 ·rintro ⟨y,hy,rfl⟩
  have h1:genP P (fun z=>z∈cseq P K) y:=by rw[G.genP_cseq S];exact hy
  exact(h1 _ (G.pull_sub S2 hg) (fun z hz=>⟨S.vec z (hf z hz),genP_mem (List.mem_map.2 ⟨z,hz,rfl⟩)⟩)).2
end
end Go.Proofs.YtdcobapnlpeaaaaGreat
namespace Go.Proofs.YtdcobapnlpeaaaaGreat
open Go.RowKit
abbrev gP (P:Pr) (u:List (List Int)):List Int→Prop:=genP P (fun z=>z∈u)
section
variable {P:Pr} (G:Grp P)
include G
end
end Go.Proofs.YtdcobapnlpeaaaaGreat
namespace Go.Proofs.YtdcobapnlpeaaaaGreat
open Go.RowKit
section
variable {P:Pr}{G:Grp P}
def toE (G:Grp P) (H:List Int→Prop):El G→Prop:=fun x=>H x.1
theorem toE_sg {H:List Int→Prop} (S:Sub P H):SG (toE G H):=⟨S.one,fun _ _ h k=>S.mul _ _ h k,fun _ h=>S.inv _ h⟩
theorem order_cd {H:List Int→Prop} (S:Sub P H):prodU P (cseq P H) (cseq P H).length=(cd (toE G H):Int):=by
 rw[G.order_elems S]
 have h1:((elsIn (toE G H)).map (fun x:El G=>x.1)).Nodup:=by
  refine List.nodup_iff_pairwise_ne.2 ?_
  rw[List.pairwise_map]
  exact(List.nodup_iff_pairwise_ne.1 (elsIn_nodup _)).imp (fun {a b} hab e=>hab (Subtype.ext e))
 have h2:=(List.perm_ext_iff_of_nodup (elemsIn_nodup G.v H) h1).2 (fun x=>by
  rw[elemsIn_mem G.v S.vec,List.mem_map]
  constructor
  ·intro hx
   exact⟨⟨x,S.vec x hx⟩,elsIn_mem.2 hx,rfl⟩
  ·rintro ⟨y,hy,rfl⟩
   exact elsIn_mem.1 hy)
 rw[h2.length_eq,List.length_map]
 rfl
def pvU (G:Grp P) (u:List (List Int)):Nat→Prop:=pv (toE G (gP P u))
theorem ordU (G:Grp P) {u:List (List Int)} (hu:SubB P u):prodU P u u.length=(prd P (pvU G u) P.orders.length 0:Nat):=by
 have S:=G.subB hu
 have h:=order_cd (G:=G) S
 rw[cd_eq (toE_sg S)] at h
 have e:cseq P (genP P fun x=>x∈u)=u:=hu.2.symm
 rw[e] at h
 exact h
noncomputable def prF (P:Pr) (Q:Nat→Prop) (d:Nat):Nat:=prd P Q d 0
theorem prd_app (Q:Nat→Prop):∀f d,prd P Q (f+1) d=prd P Q f d*prd P Q 1 (d+f)
 | 0,d=>by
  show prd P Q 1 d=1*prd P Q 1 (d+0)
  rw[Nat.one_mul];rfl
 | f+1,d=>by
  have ih:=prd_app Q f (d+1)
  rw[prd,ih,←Nat.mul_assoc,show d+1+f=d+(f+1) by omega]
  conv=>rhs;rw[prd]
open Classical in
theorem prF_succ (Q:Nat→Prop) (d:Nat):prF P Q (d+1)=prF P Q d*(if Q d then (gt P.orders d).toNat else 1):=by
 unfold prF
 rw[prd_app,Nat.zero_add,prd,prd,Nat.mul_one]
end
end Go.Proofs.YtdcobapnlpeaaaaGreat
namespace Go.Proofs.YtdcobapnlpeaaaaGreat
open Go.RowKit
section
variable {P:Pr}
theorem prd_all (G:Grp P):((prd P (fun _=>True) P.orders.length 0:Nat):Int)=ordP P:=by
 have key:∀k,k≤P.orders.length→((prF P (fun _=>True) k:Nat):Int)=prodTo P.orders k:=by
  intro k
  induction k with
  | zero=>intro _;rfl
  | succ k ih=>
   intro h
   obtain⟨q,h1,h2,h3⟩:=ordN G (show k<P.orders.length by omega)
   rw[prF_succ,if_pos trivial,Int.natCast_mul,ih (by omega),h2,prodTo,h1]
 exact key _ (Nat.le_refl _)
end
end Go.Proofs.YtdcobapnlpeaaaaGreat
namespace Go.Proofs.YtdcobapnlpeaaaaGreat
open Go.RowKit
section
variable {P:Pr}
theorem frI_mem {U:List (List Int)}{i:Nat} : i∈frI P U↔i<P.orders.length∧¬i∈U.map dep:=by
 unfold frI
 rw[List.mem_filter,List.mem_range]
 simp
theorem szR_prF (p:Nat→Bool):∀k,szR P ((List.range k).filter p).reverse=prF P (fun d=>p d=true) k
 | 0=>rfl
 | k + 1=>by
  rw[List.range_succ,List.filter_append,List.reverse_append,prF_succ]
  by_cases h:p k=true
  ·rw [List.filter_cons_of_pos h,List.filter_nil,List.reverse_singleton,List.singleton_append,if_pos h]
   show szR P _*ordN' P k=_
   rw[szR_prF p k];rfl
  ·rw[List.filter_cons_of_neg h,List.filter_nil,List.reverse_nil,List.nil_append,if_neg h,Nat.mul_one,szR_prF p k]
theorem pvU_dep (G:Grp P) {U:List (List Int)} (h:SubB P U) (d:Nat):pvU G U d↔d∈U.map dep:=by
 have S:=G.subB h
 obtain⟨h1,h2,h3⟩:=G.seq_facts S
 have e:cseq P (gP P U)=U:=h.2.symm
 rw[e] at h1 h2 h3
 constructor
 ·rintro ⟨hd,x,hx,hT,h0⟩
  obtain⟨j,hj,hjd⟩:=h3 x.1 hx d hd (dT_T.1 hT) h0
  exact List.mem_map.2 ⟨_,gt_mem hj,hjd⟩
 ·intro hm
  obtain⟨z,hz,rfl⟩:=List.mem_map.1 hm
  obtain⟨hv,hlt,h1z⟩:=h1.1 z hz
  exact⟨hlt,⟨z,hv⟩,h2 z hz,dT_T.2 (dep_T hv),by show gt z (dep z)≠0;rw[h1z];decide⟩
theorem idx_mul (G:Grp P) {U:List (List Int)} (h:SubB P U):ordP P=prodU P U U.length*((szR P (frI P U).reverse:Nat):Int):=by
 have e1:szR P (frI P U).reverse=prd P (fun d=>¬pvU G U d) P.orders.length 0:=by
  unfold frI
  rw[szR_prF]
  exact prd_congr _ _ (fun k _ _=>by rw[pvU_dep G h];simp)
 rw[ordU G h,e1,←Int.natCast_mul,prd_mul _ _ (fun k _ _ hk hh=>hh hk)]
 rw[←prd_all G,Int.natCast_inj]
 exact prd_congr _ _ (fun k _ _=>⟨fun _=>Classical.em _,fun _=>trivial⟩)
theorem elR_zr (G:Grp P) {U:List (List Int)} (t:Nat):Zr P U (elR P (frI P U).reverse t):=by
 have key:∀(r:List Nat),(∀i∈r,i<P.orders.length∧¬i∈U.map dep)→∀t,Vec P.orders (elR P r t)∧∀k,k∈U.map dep→gt (elR P r t) k=0:=by
  intro r
  induction r with
  | nil=>intro _ t;exact⟨G.oneV,fun k _=>gt_replicate _ _⟩
  | cons i r ih=>
   intro hr t
   obtain⟨h1,h2⟩:=ih (fun j hj=>hr j (List.mem_cons_of_mem _ hj)) (t/ordN' P i)
   obtain⟨hi,hn⟩:=hr i (List.mem_cons_self ..)
   obtain⟨q,e1,e2,e3⟩:=ordN G hi
   have hq:ordN' P i=q:=e2
   have hq2:2≤q:=by omega
   unfold elR
   refine⟨⟨by rw[List.length_set];exact h1.1,fun k hk => ?_⟩,fun k hk => ?_⟩
   ·by_cases hki:k=i
    ·subst hki
     rw[gt_set_eq _ _ _ (by rw[h1.1];exact hi),hq,e1]
     have:=Nat.mod_lt t (show 0<q by omega)
     omega
    ·rw [gt_set_ne _ _ _ _ (fun h=>hki h.symm)]
     exact h1.2 k hk
   ·have hki:k≠i:=fun h=>hn (h▸hk)
    rw[gt_set_ne _ _ _ _ (fun h=>hki h.symm)]
    exact h2 k hk
 obtain⟨h1,h2⟩:=key (frI P U).reverse (fun i hi=>frI_mem.1 (List.mem_reverse.1 hi)) t
 exact⟨h1,fun j hj=>h2 _ (List.mem_map.2 ⟨_,gt_mem hj,rfl⟩)⟩
open Classical in
noncomputable def fixN (P:Pr) (U V:List (List Int)):Nat:=((trT P (frI P U)).filter (fun x=>decide (∀y∈V,gP P U (rConj P y x)))).length
end
end Go.Proofs.YtdcobapnlpeaaaaGreat
namespace Go.Proofs.YtdcobapnlpeaaaaGreat
open Go.RowKit
section
variable {P:Pr} (G:Grp P)
noncomputable def szP (P:Pr) (H:List Int→Prop):Int:=prodU P (cseq P H) (cseq P H).length
include G in
theorem Grp.sz_pos {H:List Int→Prop} (S:Sub P H):1≤szP P H:=by
 unfold szP;rw[order_cd (G:=G) S]
 have:=cd_pos (toE_sg (G:=G) S)
 omega
include G in
include G in
theorem Grp.sz_mul {H K:List Int→Prop} (S:Sub P H) (R:Sub P K) (h:∀x,H x→K x):∃m:Int,1≤m∧szP P K=m*szP P H:=by
 have e:=cd_trv (toE_sg (G:=G) S) (toE_sg (G:=G) R) (fun x hx=>h x.1 hx)
 have p:=cd_pos (toE_sg (G:=G) R)
 refine⟨(trv (toE G H) (toE G K)).length,?_,?_⟩
 ·rcases Nat.eq_zero_or_pos (trv (toE G H) (toE G K)).length with h0|h0
  ·rw[h0,Nat.zero_mul] at e;omega
  ·omega
 ·unfold szP;rw[order_cd (G:=G) S,order_cd (G:=G) R,e];push_cast;rfl
theorem prodSz_sz (P:Pr) (H K:List Int→Prop):prodSz P H K=szP P H*szP P K/szP P (fun x=>H x∧K x):=rfl
include G in
theorem Grp.psz_mul {H K:List Int→Prop} (S:Sub P H) (R:Sub P K):prodSz P H K*szP P (fun x=>H x∧K x)=szP P H*szP P K:=by
 have SR:=S.and R
 obtain⟨m,_,hm⟩:=G.sz_mul SR S (fun _ h=>h.1)
 have h1:=G.sz_pos SR
 rw[prodSz_sz]
 refine Int.ediv_mul_cancel ⟨m*szP P K,?_⟩
 rw[hm,Int.mul_assoc,Int.mul_comm m,Int.mul_assoc,Int.mul_comm (szP P K) m]
include G in
theorem Grp.idx_mul {A B C:List Int→Prop} (SA:Sub P A) (SB:Sub P B) (SC:Sub P C) (h1:∀x,A x→B x) (h2:∀x,B x→C x):szP P C/szP P B*(szP P B/szP P A)=szP P C/szP P A:=by
 obtain⟨m,hm,em⟩:=G.sz_mul SA SB h1
 obtain⟨k,hk,ek⟩:=G.sz_mul SB SC h2
 have pa:=G.sz_pos SA
 have pb:=G.sz_pos SB
 have d1:szP P C/szP P B=k:=by rw[ek];exact Int.mul_ediv_cancel k (by omega)
 have d2:szP P B/szP P A=m:=by rw[em];exact Int.mul_ediv_cancel m (by omega)
 have d3:szP P C/szP P A=k*m:=by rw[ek,em,←Int.mul_assoc];exact Int.mul_ediv_cancel (k*m) (by omega)
 rw[d1,d2,d3]
include G in
end
end Go.Proofs.YtdcobapnlpeaaaaGreat
namespace Go.Proofs.YtdcobapnlpeaaaaGreat
open Go.RowKit
open Classical
def elOf {P:Pr} (G:Grp P) (x:List Int) (h:Vec P.orders x):El G:=⟨x,h⟩
noncomputable def mkE {P:Pr} (G:Grp P) (x:List Int):El G:=if h:Vec P.orders x then elOf G x h else 1
theorem mkE_val {P:Pr} (G:Grp P) {x:List Int} (h:Vec P.orders x):(mkE G x).1=x:=by unfold mkE;rw[dif_pos h];rfl
theorem mkE_el {P:Pr} (G:Grp P) (x:El G):mkE G x.1=x:=Subtype.ext (mkE_val G x.2)
section
variable {P:Pr} (G:Grp P)
include G
theorem dcTo_vec (H K:List Int→Prop):∀k,k≤(ordP P).toNat→∀x∈dcTo P H K k,Vec P.orders x
 | 0,_,x,hx=>by cases hx
 | k + 1,hk,x,hx=>by
  by_cases h:dcSeen P H K (dcTo P H K k) k
  ·rw[dcTo_seen h] at hx;exact dcTo_vec H K k (by omega) x hx
  ·rw [dcTo_new h] at hx
   rcases List.mem_append.1 hx with h1|h1
   ·exact dcTo_vec H K k (by omega) x h1
   ·rw[List.mem_singleton.1 h1];exact elAt_vec G.v (k:Int) (by omega)
theorem dcSeen_dD {H K:List Int→Prop}{x:List Int} (hx:Vec P.orders x) {k:Nat} (hk:k<(ordP P).toNat) (h:dD (toE G H) (toE G K) (mkE G x) (mkE G (elAt P (k:Int)))):dcSeen P H K [x] k:=by
 obtain⟨a,b,ha,hb,e⟩:=h
 refine⟨x,List.mem_singleton.2 rfl,a.1,b.1,ha,hb,?_⟩
 have e2:=congrArg Subtype.val e
 rw[mkE_val G (elAt_vec G.v (k:Int) (by omega))] at e2
 have e3:rMul P (rMul P a.1 x) b.1=elAt P (k:Int):=by
  rw[e2];show _=rMul P (rMul P a.1 (mkE G x).1) b.1;rw[mkE_val G hx]
 rw[e3,num_elAt G.v (k:Int) (by omega) (by omega)]
theorem dD_seen {H K:List Int→Prop} (S:Sub P H) (R:Sub P K) {c:List (List Int)} (hc:∀x∈c,Vec P.orders x) {k:Nat} (h:dcSeen P H K c k):∃x∈c,dD (toE G H) (toE G K) (mkE G x) (mkE G (elAt P (k:Int))):=by
 obtain⟨x,hx,a,b,ha,hb,e⟩:=h
 have hxV:=hc x hx
 refine⟨x,hx,⟨a,S.vec a ha⟩,⟨b,R.vec b hb⟩,ha,hb,Subtype.ext ?_⟩
 rw[mkE_val G (elAt_vec G.v (k:Int) (by omega)),e]
 show _=rMul P (rMul P a (mkE G x).1) b
 rw[mkE_val G hxV]
 exact elAt_num G.v (G.mulV (G.mulV (S.vec a ha) hxV) (R.vec b hb))
theorem Grp.dcTo_rep {H K:List Int→Prop} (S:Sub P H) (R:Sub P K):DRep (toE G H) (toE G K) ((dcTo P H K (ordP P).toNat).map (mkE G)):=by
 have SS:=toE_sg (G:=G) S
 have RR:=toE_sg (G:=G) R
 have key:∀k,k≤(ordP P).toNat→(dcTo P H K k).Pairwise (fun x y=>¬dD (toE G H) (toE G K) (mkE G x) (mkE G y))∧∀j,j<k→∃x∈dcTo P H K k,dD (toE G H) (toE G K) (mkE G x) (mkE G (elAt P (j:Int))):=by
  intro k
  induction k with
  | zero=>intro _;exact⟨List.Pairwise.nil,fun j hj=>by omega⟩
  | succ k ih=>
   intro hk
   obtain⟨h1,h2⟩:=ih (by omega)
   have hv:=dcTo_vec G H K k (by omega)
   by_cases h:dcSeen P H K (dcTo P H K k) k
   ·rw [dcTo_seen h]
    refine⟨h1,fun j hj => ?_⟩
    by_cases hjk:j=k
    ·subst hjk;exact dD_seen G S R hv h
    ·exact h2 j (by omega)
   ·rw [dcTo_new h]
    refine⟨?_,fun j hj => ?_⟩
    ·rw [List.pairwise_append]
     refine⟨h1,List.pairwise_singleton _ _,fun x hx y hy hd => ?_⟩
     rw[List.mem_singleton.1 hy] at hd
     obtain⟨z,hz,hh⟩:=dcSeen_dD G (hv x hx) (by omega) hd
     rw[List.mem_singleton.1 hz] at hh
     exact h ⟨x,hx,hh⟩
    ·by_cases hjk:j=k
     ·subst hjk
      exact⟨_,List.mem_append.2 (.inr (List.mem_singleton.2 rfl)),dD_self SS RR _⟩
     ·obtain ⟨x,hx,hd⟩:=h2 j (by omega)
      exact⟨x,List.mem_append.2 (.inl hx),hd⟩
 obtain⟨h1,h2⟩:=key _ (Nat.le_refl _)
 refine⟨List.pairwise_map.2 h1,fun g => ?_⟩
 obtain⟨h3,h4⟩:=G.num_lt g.2
 obtain⟨x,hx,hd⟩:=h2 _ h3
 rw[h4,mkE_el] at hd
 exact⟨_,List.mem_map.2 ⟨x,hx,rfl⟩,hd⟩
theorem cd_cj (A:El G→Prop) (x:El G):cd (fun y=>A (x*y*x⁻¹))=cd A:=by
 have h:cd (fun y=>A (x*y*x⁻¹))=((elsIn A).map (fun y=>x⁻¹ * y*x)).length:=by
  refine cd_list ?_ (fun y => ?_)
  ·rw [List.nodup_iff_pairwise_ne,List.pairwise_map]
   refine(List.nodup_iff_pairwise_ne.1 (elsIn_nodup _)).imp (fun {_ _} hab e=>hab ?_)
   have h1:=congrArg (fun z=>x*z*x⁻¹) e
   simpa only[El.ass,El.irc,El.ir,El.or] using h1
  ·rw [List.mem_map]
   constructor
   ·rintro ⟨z,hz,rfl⟩
    have e:x*(x⁻¹ * z*x)*x⁻¹ = z:=by simp only[El.ass,El.irc,El.ir,El.or]
    show A _
    rw[e];exact elsIn_mem.1 hz
   ·intro hy
    exact⟨x*y*x⁻¹,elsIn_mem.2 hy,by simp only[El.ass,El.ilc,El.il,El.or]⟩
 rw[h,List.length_map];rfl
theorem Grp.dc_size {U:List (List Int)}{K:List Int→Prop} (hU:SubB P U) (R:Sub P K) {X:List Int} (hX:Vec P.orders X):prodSz P (genP P (fun z=>z∈conjL P U X)) K=(cd (dD (toE G (gP P U)) (toE G K) (mkE G X)):Int):=by
 have S:=G.subB hU
 have e1:genP P (fun z=>z∈conjL P U X)=cjS P (gP P U) X:=by
  have:=G.genP_conjL S hX
  rwa [←hU.2] at this
 rw[e1]
 have SC:Sub P (cjS P (gP P U) X):=G.cj_sub S hX
 have hm:=G.psz_mul SC R
 have SA:Sub P (fun x=>cjS P (gP P U) X x∧K x):=⟨fun x h=>R.vec x h.2,⟨SC.one,R.one⟩,fun x y h k=>⟨SC.mul _ _ h.1 k.1,R.mul _ _ h.2 k.2⟩,fun x h=>⟨SC.inv _ h.1,R.inv _ h.2⟩⟩
 have z1:szP P (cjS P (gP P U) X)=(cd (toE G (cjS P (gP P U) X)):Int):=order_cd SC
 have z2:szP P K=(cd (toE G K):Int):=order_cd R
 have z3:szP P (fun x=>cjS P (gP P U) X x∧K x)=(cd (toE G (fun x=>cjS P (gP P U) X x∧K x)):Int):=order_cd SA
 have hcj:∀y:El G,toE G (cjS P (gP P U) X) y↔toE G (gP P U) (mkE G X*y*(mkE G X)⁻¹):=fun y=>by
  constructor
  ·rintro ⟨z,hz,e⟩
   have e2:mkE G X*y*(mkE G X)⁻¹ = elOf G z (S.vec z hz):=by
    have e3:y=(mkE G X)⁻¹ * (elOf G z (S.vec z hz)*mkE G X):=Subtype.ext (by
     rw[e];show rConj P z X=rMul P (rInv P (mkE G X).1) (rMul P z (mkE G X).1)
     rw[mkE_val G hX];rfl)
    rw[e3];simp only[El.ass,El.irc,El.ir,El.or]
   rw[e2];exact hz
  ·intro h
   refine⟨_,h,?_⟩
   have e3:y=(mkE G X)⁻¹ * ((mkE G X*y*(mkE G X)⁻¹)*mkE G X):=by simp only[El.ass,El.il,El.or,El.ilc]
   have e4:=congrArg Subtype.val e3
   rw[e4]
   show rMul P (rInv P (mkE G X).1) (rMul P _ (mkE G X).1)=rMul P (rInv P X) (rMul P _ X)
   rw[mkE_val G hX]
 have c1:cd (toE G (cjS P (gP P U) X))=cd (toE G (gP P U)):=by
  rw[cd_congr hcj];exact cd_cj G _ _
 have c2:cd (toE G (fun x=>cjS P (gP P U) X x∧K x))=cd (stb (toE G (gP P U)) (toE G K) (mkE G X)):=by
  rw[←cd_cj G (stb (toE G (gP P U)) (toE G K) (mkE G X)) (mkE G X)]
  refine cd_congr (fun y => ?_)
  have e:(mkE G X)⁻¹ * (mkE G X*y*(mkE G X)⁻¹)*mkE G X=y:=by simp only[El.ass,El.ilc,El.il,El.or]
  constructor
  ·rintro ⟨h1,h2⟩
   exact⟨(hcj y).1 h1,by rw[e];exact h2⟩
  ·rintro ⟨h1,h2⟩
   rw[e] at h2
   exact⟨(hcj y).2 h1,h2⟩
 have hd:=cd_dD (toE_sg (G:=G) S) (toE_sg (G:=G) R) (mkE G X)
 have hp:0<cd (stb (toE G (gP P U)) (toE G K) (mkE G X)):=cd_pos (stb_sg (toE_sg S) (toE_sg R) _)
 rw[z1,z2,z3,c1,c2] at hm
 have hd2:(cd (dD (toE G (gP P U)) (toE G K) (mkE G X)):Int)*(cd (stb (toE G (gP P U)) (toE G K) (mkE G X)):Int)=(cd (toE G (gP P U)):Int)*(cd (toE G K):Int):=by
  rw[←Int.natCast_mul,←Int.natCast_mul,hd]
 rw[←hd2] at hm
 exact Int.eq_of_mul_eq_mul_right (by omega) hm
end
end Go.Proofs.YtdcobapnlpeaaaaGreat
namespace Go.Proofs.YtdcobapnlpeaaaaGreat
open Go.RowKit
open Classical
section
variable {P:Pr} (G:Grp P)
include G
theorem elR_ok:∀(r:List Nat),r.Nodup→(∀i∈r,i<P.orders.length)→∀t,(elR P r t).length=P.orders.length∧∀k,¬k∈r→gt (elR P r t) k=0
 | [],_,_,_=>⟨G.oneV.1,fun _ _=>gt_replicate _ _⟩
 | i :: r,hn,hr,t=>by
  rw[List.nodup_cons] at hn
  obtain⟨h1,h2⟩:=elR_ok r hn.2 (fun j hj=>hr j (List.mem_cons_of_mem _ hj)) (t/ordN' P i)
  unfold elR
  refine⟨by rw[List.length_set];exact h1,fun k hk => ?_⟩
  have hki:¬i=k:=fun e=>hk (e▸List.mem_cons_self ..)
  rw[gt_set_ne _ _ _ _ hki]
  exact h2 k (fun h=>hk (List.mem_cons_of_mem _ h))
theorem elR_inj:∀(r:List Nat),r.Nodup→(∀i∈r,i<P.orders.length)→∀t u,t<szR P r→u<szR P r→elR P r t=elR P r u→t=u
 | [],_,_,t,u,ht,hu,_=>by unfold szR at ht hu;omega
 | i :: r,hn,hr,t,u,ht,hu,e=>by
  rw[List.nodup_cons] at hn
  have hr':∀j∈r,j<P.orders.length:=fun j hj=>hr j (List.mem_cons_of_mem _ hj)
  obtain⟨a1,a2⟩:=elR_ok G r hn.2 hr' (t/ordN' P i)
  obtain⟨b1,b2⟩:=elR_ok G r hn.2 hr' (u/ordN' P i)
  have hi:=hr i (List.mem_cons_self ..)
  unfold elR at e
  unfold szR at ht hu
  have ho:0<ordN' P i:=by
   rcases Nat.eq_zero_or_pos (ordN' P i) with h|h
   ·rw[h] at ht;omega
   ·exact h
  have e1:t%ordN' P i=u%ordN' P i:=by
   have:=congrArg (fun l=>gt l i) e
   rw[gt_set_eq _ _ _ (by rw[a1];exact hi),gt_set_eq _ _ _ (by rw[b1];exact hi)] at this
   omega
  have e2:elR P r (t/ordN' P i)=elR P r (u/ordN' P i):=by
   refine ext_gt (by rw[a1,b1]) (fun k hk => ?_)
   by_cases hki:i=k
   ·subst hki;rw[a2 _ hn.1,b2 _ hn.1]
   ·have:=congrArg (fun l=>gt l k) e
    rwa [gt_set_ne _ _ _ _ hki,gt_set_ne _ _ _ _ hki] at this
  have e3:=elR_inj r hn.2 hr' _ _ (Nat.div_lt_of_lt_mul (by rw[Nat.mul_comm];exact ht)) (Nat.div_lt_of_lt_mul (by rw[Nat.mul_comm];exact hu)) e2
  have t1:=Nat.div_add_mod t (ordN' P i)
  have u1:=Nat.div_add_mod u (ordN' P i)
  rw[e3,e1] at t1
  omega
omit G in
theorem trT_els (U:List (List Int)):trT P (frI P U)=(List.range (szR P (frI P U).reverse)).map (elR P (frI P U).reverse):=by
 have:=trT_eq P (frI P U).reverse
 rwa [List.reverse_reverse] at this
theorem Grp.els_len:((els G).length:Int)=ordP P:=by
 have hp:=G.v.ordP_pos
 have h1:((els G).map (fun x:El G=>(num P x.1).toNat)).Nodup:=by
  rw[List.nodup_iff_pairwise_ne,List.pairwise_map]
  refine(List.nodup_iff_pairwise_ne.1 (els_nodup G)).imp (fun {a b} hab e=>hab (Subtype.ext ?_))
  have ha:=G.num_lt a.2
  have hb:=G.num_lt b.2
  rw[←ha.2,←hb.2,e]
 have h2:=(List.perm_ext_iff_of_nodup h1 (List.nodup_range (n:=(ordP P).toNat))).2 (fun m=>by
  rw[List.mem_map,List.mem_range]
  constructor
  ·rintro⟨x,_,rfl⟩;exact(G.num_lt x.2).1
  ·intro hm
   have hv:=elAt_vec G.v (m:Int) (by omega)
   refine⟨mkE G (elAt P (m:Int)),els_mem G _,?_⟩
   rw[mkE_val G hv,num_elAt G.v (m:Int) (by omega) (by omega)]
   rfl)
 have h3:=h2.length_eq
 rw[List.length_map,List.length_range] at h3
 omega
theorem Grp.trT_rep {U:List (List Int)} (hU:SubB P U):LRep (toE G (gP P U)) ((trT P (frI P U)).map (mkE G)):=by
 have S:=G.subB hU
 have SS:=toE_sg (G:=G) S
 have hnd:(frI P U).reverse.Nodup:=by
  rw[List.nodup_iff_pairwise_ne,List.pairwise_reverse];exact(List.nodup_iff_pairwise_ne.1 (List.nodup_range.filter _)).imp (fun h=>h.symm)
 have hlt:∀i∈(frI P U).reverse,i<P.orders.length:=fun i hi=>(frI_mem.1 (List.mem_reverse.1 hi)).1
 have hz:∀x∈trT P (frI P U),Zr P U x:=fun x hx=>by
  rw[trT_els (P:=P) U] at hx
  obtain⟨t,_,rfl⟩:=List.mem_map.1 hx
  exact elR_zr G t
 have hone:∀t∈(trT P (frI P U)).map (mkE G),∀u∈(trT P (frI P U)).map (mkE G),eqv (toE G (gP P U)) t u→t=u:=by
  intro t ht u hu he
  obtain⟨x,hx,rfl⟩:=List.mem_map.1 ht
  obtain⟨y,hy,rfl⟩:=List.mem_map.1 hu
  have zx:=hz x hx
  have zy:=hz y hy
  have he:gP P U (rMul P (rInv P (mkE G x).1) (mkE G y).1):=he
  rw[mkE_val G zx.1,mkE_val G zy.1] at he
  have hUe:cseq P (gP P U)=U:=hU.2.symm
  have:=G.zr_one S (x:=x) (y:=y) (by rw[hUe];exact zx) (by rw[hUe];exact zy) he
  rw[this]
 have hLn:((trT P (frI P U)).map (mkE G)).Nodup:=by
  rw[trT_els (P:=P) U,List.map_map,List.nodup_iff_pairwise_ne,List.pairwise_map]
  refine List.pairwise_lt_range.imp_of_mem (fun {a b} ha hb hab e => ?_)
  have e2:=congrArg Subtype.val e
  simp only[Function.comp] at e2
  rw[mkE_val G (elR_zr G (U:=U) a).1,mkE_val G (elR_zr G (U:=U) b).1] at e2
  have:=elR_inj G _ hnd hlt a b (List.mem_range.1 ha) (List.mem_range.1 hb) e2
  omega
 refine⟨hLn,hone,?_⟩
 have hcd:cd (fun g=>∃t∈(trT P (frI P U)).map (mkE G),eqv (toE G (gP P U)) t g)=((trT P (frI P U)).map (mkE G)).length*cd (toE G (gP P U)):=by
  refine cd_mul SS hLn ?_ hone (fun x hx=>hx)
  intro t ht n hn
  refine⟨t,ht,?_⟩
  show toE G (gP P U) (t⁻¹ * (t*n))
  rw[El.ilc];exact hn
 have hlen:((trT P (frI P U)).map (mkE G)).length=szR P (frI P U).reverse:=by
  rw[trT_els (P:=P) U,List.length_map,List.length_map,List.length_range]
 have ho:=order_cd (G:=G) S
 rw[←hU.2] at ho
 have hi:=Go.Proofs.YtdcobapnlpeaaaaGreat.idx_mul G hU
 have hels:((els G).length:Int)=ordP P:=G.els_len
 intro g
 have hall:(elsIn (fun g=>∃t∈(trT P (frI P U)).map (mkE G),eqv (toE G (gP P U)) t g)).length=(els G).length:=by
  have h1:((elsIn (fun g=>∃t∈(trT P (frI P U)).map (mkE G),eqv (toE G (gP P U)) t g)).length:Int)=((els G).length:Int):=by
   show((cd _:Nat):Int)=_
   rw[hels,hi,hcd,hlen,Int.natCast_mul,ho,Int.mul_comm]
  omega
 have:=(List.length_filter_eq_length_iff.1 hall) g (els_mem G g)
 simpa using this
theorem Grp.gen_pull {H:List Int→Prop} (S:Sub P H) {y x:List Int} (hy:Vec P.orders y) (hx:Vec P.orders x):(∀z∈cseq P (gU P [y]),H (rConj P z x))↔H (rConj P y x):=by
 have SG1:Sub P (gU P [y]):=G.genP_sub (fun z hz=>by rw[List.mem_singleton.1 hz];exact hy)
 have SP:=G.pull_sub S hx
 constructor
 ·intro h
  have h1:genP P (fun z=>z∈cseq P (gU P [y])) y:=by
   rw[show genP P (fun z=>z∈cseq P (gU P [y]))=gU P [y] from G.genP_cseq SG1]
   exact fun A hA hz=>hz y (List.mem_singleton.2 rfl)
  exact(h1 _ SP (fun z hz=>⟨SG1.vec z ((G.seq_facts SG1).2.1 z hz),h z hz⟩)).2
 ·intro h z hz
  have h1:=(G.seq_facts SG1).2.1 z hz
  exact(h1 _ SP (fun t ht=>by rw[List.mem_singleton.1 ht];exact⟨hy,h⟩)).2
theorem Grp.fix_count {U:List (List Int)} (hU:SubB P U) {y:List Int} (hy:Vec P.orders y):fixN P U (cseq P (gU P [y]))=(((trT P (frI P U)).map (mkE G)).filter (fun x=>decide (toE G (gP P U) (x⁻¹ * mkE G y*x)))).length:=by
 have S:=G.subB hU
 have hz:∀x∈trT P (frI P U),Vec P.orders x:=fun x hx=>by
  rw[trT_els (P:=P) U] at hx
  obtain⟨t,_,rfl⟩:=List.mem_map.1 hx
  exact(elR_zr G (U:=U) t).1
 rw[List.filter_map,List.length_map]
 unfold fixN
 refine congrArg List.length (List.filter_congr (fun x hx => ?_))
 have hx:=hz x hx
 have e:(∀z∈cseq P (gU P [y]),gP P U (rConj P z x))↔toE G (gP P U) ((mkE G x)⁻¹ * mkE G y*mkE G x):=by
  rw[G.gen_pull S hy hx]
  have e2:((mkE G x)⁻¹ * mkE G y*mkE G x).1=rConj P y x:=by
   rw[El.ass]
   show rMul P (rInv P (mkE G x).1) (rMul P (mkE G y).1 (mkE G x).1)=_
   rw[mkE_val G hx,mkE_val G hy];rfl
  show _↔gP P U ((mkE G x)⁻¹ * mkE G y*mkE G x).1
  rw[e2]
 simp only[Function.comp]
 exact decide_eq_decide.2 e
theorem Grp.burn_prog {U V:List (List Int)} (hU:SubB P U) (hV:SubB P V):sm (fun y=>fixN P U (cseq P (gU P [y]))) (elemsIn P (gP P V))=(dcTo P (gP P V) (gP P U) (ordP P).toNat).length*(elemsIn P (gP P V)).length:=by
 have S:=G.subB hU
 have R:=G.subB hV
 have hv:∀y∈elemsIn P (gP P V),Vec P.orders y:=fun y hy=>R.vec y ((elemsIn_mem G.v R.vec y).1 hy)
 have hb:=burn' (toE_sg (G:=G) R) (toE_sg (G:=G) S) (G.dcTo_rep R S) (G.trT_rep hU) (V:=(elemsIn P (gP P V)).map (mkE G)) (by
  rw[List.nodup_iff_pairwise_ne,List.pairwise_map]
  refine(List.nodup_iff_pairwise_ne.1 (elemsIn_nodup G.v _)).imp_of_mem (fun {a b} ha hb hab e=>hab ?_)
  rw[←mkE_val G (hv a ha),←mkE_val G (hv b hb),e]) (fun x=>by
  rw[List.mem_map]
  constructor
  ·rintro ⟨y,hy,rfl⟩
   show gP P V (mkE G y).1
   rw[mkE_val G (hv y hy)];exact(elemsIn_mem G.v R.vec y).1 hy
  ·intro hx
   exact⟨x.1,(elemsIn_mem G.v R.vec x.1).2 hx,mkE_el G x⟩)
 rw[List.length_map,List.length_map] at hb
 rw[←hb]
 have hm:∀(l:List (List Int)) (f:El G→Nat),sm f (l.map (mkE G))=sm (fun y=>f (mkE G y)) l:=by
  intro l f
  induction l with
  | nil=>rfl
  | cons a l ih=>simp only[List.map_cons,sm,ih]
 rw[hm]
 exact sm_congr (fun y hy=>G.fix_count hU (hv y hy))
theorem Grp.dc_total {U V:List (List Int)} (hU:SubB P U) (hV:SubB P V):((sm (fun x=>cd (dD (toE G (gP P U)) (toE G (gP P V)) (mkE G x))) (dcTo P (gP P U) (gP P V) (ordP P).toNat):Nat):Int)=ordP P:=by
 have S:=G.subB hU
 have R:=G.subB hV
 have h:=cd_sum (toE_sg (G:=G) S) (toE_sg (G:=G) R) (G.dcTo_rep S R)
 have hm:∀(l:List (List Int)) (f:El G→Nat),sm f (l.map (mkE G))=sm (fun y=>f (mkE G y)) l:=by
  intro l f
  induction l with
  | nil=>rfl
  | cons a l ih=>simp only[List.map_cons,sm,ih]
 rw[hm] at h
 rw[h];exact G.els_len
end
end Go.Proofs.YtdcobapnlpeaaaaGreat
