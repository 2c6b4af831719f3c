/- Merged from templates. -/
import Derived.Test.YtdcobapnlpeaaaaGreatY15
set_option maxRecDepth 100000
set_option maxHeartbeats 8000000
namespace Go.Proofs.YtdcobapnlpeaaaaGreat
open Go.RowKit
theorem wp_app_take {C:Array Oper}{rest:List Oper}{o:Oper}{a:Act}{Q:Exit->Act->World->Prop}{w:World}(I:o.guard=none) (s x:Operand)
  (V:o.op=Op.call { callee:=Callee.builtin Builtin.append,args := #[s,x],argTypes := #[25,25] }) (B:Nat) (A N F:Nat->Prop) (w0:World) (v u:Value) (xs:List (List Int)) (y:List Int) (W:a.eval s=v)
  (b:SlOA OwnIn 24 B A w0 v xs) (O:OwnIn F w0 u y) (hF:∀k,F k->k<w0.heap.size->A k/\B<=k) (D:∀k,N k->A k/\¬F k) (J:∀k,A k->k<w0.heap.size) (X:w=w0.alloc (.cells #[u] 24))
  (hx:a.eval x=.slice (some ⟨w0.heap.size,0,none⟩) 1 1) (P:xs.length<=1000000) (K:B<=w0.heap.size)
  (h:∀n w',SlOA OwnIn 24 B N w' n (xs++[y])->w0.grownBy w' v.ownBlock->(n.ownBlock=v.ownBlock\/∀k,n.ownBlock=some k->w0.heap.size<=k)->wpList Tryz.prog C Q rest (a.put o.dst n) w') :
  wpList Tryz.prog C Q (o :: rest) a w:=by
 subst X;obtain⟨R,G,p,hO,S,hd,Y,L,hr2⟩:=b;have q:Ext w0 (w0.alloc (.cells #[u] 24)):=World.grownBy_alloc _ _ _;refine wp_app 25 24 (.slice none 0 0) 24 und_rows Tryz.infoRow rfl (by decide) I s x V B v R W (hO.kept q (by cases hv:v.ownBlock<;>simp)) (some ⟨w0.heap.size,0,none⟩) 1 1 [u] hx rfl (by simp) ?_ ?_ (by simp;omega) (by have:=q.size;omega) ?_
 ·intro j T
  have:j=0:=by omega
  subst this;exact⟨_,_,rfl,by rw[World.cell?_alloc_at _ _ _ _ rfl];rfl⟩
 ·intro u' E
  simp at E;subst E;exact rdOwn.one O
 ·intro n w' Z k2 _ U
  have r:w0.grownBy w' v.ownBlock:=grown_trans (grown_of_ext _ q) k2
  have z:n.ownBlock=v.ownBlock\/∀k,n.ownBlock=some k->w0.heap.size<=k:=by
   rcases U with h|h
   ·exact .inl h
   ·refine .inr (λk hk => ?_)
    rw[h] at hk;have:(w0.alloc (.cells #[u] 24)).heap.size=k:=by simpa using hk
    simp at this
    omega
  have b:∀k,n.ownBlock=some k->v.ownBlock=some k\/w0.heap.size<=k:=λk hk=>by
   rcases U with h|h
   ·exact .inl (by rw[<-h];exact hk)
   ·rw [h] at hk
    have:(w0.alloc (.cells #[u] 24)).heap.size=k:=by simpa using hk
    simp at this
    exact .inr (by omega)
  refine h n w' ⟨R++[u],λi k=>if i<xs.length then G i k else F k/\k<w0.heap.size,by simp[p],Z,?_,?_,?_,?_,?_⟩ r z
  ·intro i k H hk
   split at hk
   ·rename_i g
    obtain⟨a1,a2,a3⟩:=S i k g hk;exact⟨a1,λe=>(b k e).elim a2 (λh=>by omega),Nat.lt_of_lt_of_le a3 r.size⟩
   ·obtain ⟨b1,b2⟩:=hF k hk.1 hk.2
    exact⟨b2,λe=>(b k e).elim (λh=>hr2 k h b1) (λh=>by have:=hk.2;omega),Nat.lt_of_lt_of_le hk.2 r.size⟩
  ·intro i j k H T hk m
   simp only[List.length_append,List.length_singleton] at H T;split at hk<;>split at m
   ·exact hd i j k (by assumption) (by assumption) hk m
   ·exact absurd (hF k m.1 m.2).1 (L i k (by assumption) hk)
   ·exact absurd (hF k hk.1 hk.2).1 (L j k (by assumption) m)
   ·omega
  ·intro i H
   simp only[List.length_append,List.length_singleton] at H;by_cases g:i<xs.length
   ·rw [gt_append_left _ _ _ (by omega),gt_append_left _ _ _ g]
    simp only[if_pos g];exact rdOwn.mono (Y i g) (λk hk l=>⟨hk,Nat.lt_of_lt_of_le l r.size,r.block k l (λe=>(S i k g hk).2.1 e.symm)⟩)
   ·have M:i=xs.length:=by omega
    subst M;rw[gt_concat,<-p,gt_concat];simp only[p,Nat.lt_irrefl,if_false];exact rdOwn.mono O (λk hk l=>⟨⟨hk,l⟩,Nat.lt_of_lt_of_le l r.size,r.block k l (λe=>hr2 k e.symm (hF k hk l).1)⟩)
  ·intro i k H hk ha
   obtain⟨c1,c2⟩:=D k ha;split at hk
   ·rename_i g;exact L i k g hk c1
   ·exact c2 hk.1
  ·intro k hk ha
   obtain⟨c1,_⟩:=D k ha;rcases b k hk with h|h
   ·exact hr2 k h c1
   ·have:=J k c1;omega
theorem rowsOne {B:Nat}{a:World}{u:Value}{y:List Int}(m:OwnIn (From B) a u y) (hB:B<=a.heap.size):RowsO B (a.alloc (.cells #[u] 24)) (.slice (some ⟨a.heap.size,0,none⟩) 1 1) [y]:=by
 have b:Ext a (a.alloc (.cells #[u] 24)):=World.grownBy_alloc _ _ _;refine⟨[u],λ_ k=>B<=k/\k<a.heap.size,rfl,World.ownsRow_lit a #[u] 1 hB (by decide) rfl,λi k l hk => ?_,λi j k l n _ _ => ?_,λi l => ?_⟩
 ·exact⟨hk.1,λe=>by have:=own_blk e;omega,Nat.lt_of_lt_of_le hk.2 b.size⟩
 ·simp at l n;omega
 ·have:i=0:=by simpa using l
  subst this;exact rdOwn.mono m (λk hk g=>⟨⟨hk,g⟩,Nat.lt_of_lt_of_le g b.size,b.block k g (by simp)⟩)
def Rest (m:Nat) (F:Nat->Nat->Prop) (i n:Nat):Nat->Prop:=λk=>k<m/\∃j,i<=j/\j<n/\F j k
theorem SlOA.nil {α:Type} [Inhabited α] (El:(Nat->Prop)->World->Value->α->Prop) (E B:Nat) (A:Nat->Prop) (w:World):SlOA El E B A w (.slice none 0 0) ([]:List α):=
 ⟨[],λ_ _=>False,rfl,World.ownsRow_nil _ _ _ _,by simp,by simp,by simp,by simp,by simp[Value.ownBlock]⟩
theorem elementsOf_ok (P:Pr) (G:Grp P) (w:World) (p uv:Value) (U:List (List Int)) (Sp Su:Nat->Prop) (hp:PresP Sp w p P) (hu:Rows2 Su w uv U) (hU:SeqOk P U) (hl:U.length<=6) :
  Calls Tryz.prog 162 #[p,uv] w (Ret w λw' v=>RowsO w.heap.size w' v (sortL (elsP P U U.length))):=by
 have hP:=G.v;have bH:=hP.n6;obtain⟨pb,po,rfl⟩:=hp.shape;obtain⟨ao,capo,fI,bc⟩:=hp.ordAt;obtain⟨au,capu,rfl,_,_⟩:=Sl.shape hu;have an:∀z∈U,dep z<z.length:=λz O=>by have:=hU.1 z O;rw[this.1.1];exact this.2.1
 have HU:=Lib.hid hU;clear hU;go_enter Tryz.func162,Tryz.ntmps162;go_wp2_with (first|(at_make;refine wp_make_ints rfl _ _ rfl w.heap.size P.orders.length w.heap.size rfl _ rfl rfl rfl (by omega) (Nat.le_refl _) ?_;intro w1 ar ac av)|fail)
 have aw:OwnIn (From w.heap.size) w1 (.slice (some ⟨w.heap.size,0,none⟩) P.orders.length P.orders.length) (zeros P.orders.length):=OwnIn.of ar (by simp[zeros];omega) (λj h1 _=>h1);have aA:=rowsOne aw ac.size;have aB:Ext w1 (w1.alloc (.cells #[.slice (some ⟨w.heap.size,0,none⟩) P.orders.length P.orders.length] 24)):=World.grownBy_alloc _ _ _;have ad:=grown_trans ac aB;clear ar aw aB ac av;generalize bd:w1.alloc (.cells #[.slice (some ⟨w.heap.size,0,none⟩) P.orders.length P.orders.length] 24)=w2 at *;clear bd;refine Calls.mono (pivots_ok _ U w2 Su (Rows2.ext hu ad) an (by omega)) ?_;rintro e3 w3 ⟨pv,rfl,hg3,ae⟩;have S:=grown_trans ad hg3;have aC:=SlO.ext rdOwn aA hg3;clear aA ad hg3 an
 have aD:∃az T,pv=.slice az U.length T:=by
  rcases ae.form with⟨h1,y⟩|⟨g,cp,h1,_⟩
  ·have h3:U.length=0:=by unfold depV at y;rw[List.map_eq_nil_iff] at y;rw[y];rfl
   exact⟨none,0,by rw[h1,h3]⟩
  ·exact⟨_,_,by rw[h1];unfold depV;rw[List.length_map]⟩
 obtain⟨ap,capp,rfl⟩:=aD;go_wp2;go_loopw [5,21] (λov iv wr=>∃(k:Nat) (v4:Value),v4=ov/\iv=.int .i64 k/\k<=U.length/\Ext w3 wr/\RowsO w.heap.size wr v4 (elsP P U k)) (λ_ iv _=>U.length-(intOf iv).toNat)
 case atStart=>exact⟨0,_,rfl,rfl,by omega,Ext.refl _,aC⟩
 case round=>
  clear aC;obtain⟨k,v4,rfl,rfl,hk,hg,hO⟩:=hrel;have B:=elsP_len hP HU.out k hk;have C:=prodU_729 hP HU.out k hk;by_cases a:k<U.length
  ·have bA:(k:Int)<U.length:=by omega
   have aE:gt (depV U) k=.int .i64 (dep (gt U k)):=by unfold depV;rw[gt_map _ _ _ a]
   have bf:∃g,ap=some ⟨g,0,none⟩:=by
    rcases ae.form with⟨h1,y⟩|⟨g,cp,h1,_⟩
    ·unfold depV at y;rw[List.map_eq_nil_iff] at y;rw[y] at a;simp at a
    ·simp only[Value.slice.injEq] at h1;exact⟨g,h1.1⟩
   obtain⟨gp,rfl⟩:=bf;have D:=ae.cell k (by unfold depV;rw[List.length_map];exact a);rw[aE] at D;clear aE;have aF:=hg.cell D (by simp);clear D;obtain⟨d,hd⟩:∃d,d=dep (gt U k):=⟨_,rfl⟩;obtain⟨z,O⟩:∃z,z=gt U k:=⟨_,rfl⟩;have aH:d<P.orders.length:=by rw[hd];exact(HU.out.1 _ (gtMem a)).2.1
   have E:Vec P.orders z:=by rw[O];exact(HU.out.1 _ (gtMem a)).1
   obtain⟨o,ho⟩:∃o,o=(gt P.orders d).toNat:=⟨_,rfl⟩;have bL:=hP.ord7 d aH;have bh:gt P.orders d=(o:Int):=by omega
   obtain⟨X,hX⟩:∃X,X=elsP P U k:=⟨_,rfl⟩;have aJ:elsP P U (k+1)=X.flatMap (stepE P z o):=by rw[hX,ho,hd,O];rfl
   have aK:∀x∈X,Vec P.orders x:=by rw[hX];exact elsP_sub G.sub_all (λz O=>(HU.out.1 z O).1) k hk
   rw[<-hd] at aF;rw[<-hX] at hO B;have bM:X.length<=729:=by omega
   have bN:1<=X.length:=by omega
   clear B C;obtain⟨vs,F,af,aL,hF,Bi,Bj⟩:=hO
   obtain ⟨gx,V,hv4⟩:∃gx V,v4=.slice (some ⟨gx,0,none⟩) X.length V:=by
    rcases aL.form with⟨h1,y⟩|⟨g,cp,h1,_⟩
    ·rw[y] at af;simp at af;omega
    ·exact⟨g,cp,by rw[h1,af]⟩
   subst hv4;have HX:=Lib.hid (And.intro aJ (And.intro aK (And.intro hX (And.intro hd (And.intro O ho)))));clear aJ aK hX hd ho;obtain⟨n,rfl⟩:∃n:World,n=wr:=⟨_,rfl⟩;have H:=grown_trans S hg;obtain⟨bo,oo,rfl,_,_,q⟩:=Ints.at (bc.ext H) d aH;have Q:=H.cell fI (by simp);obtain⟨bu,ou,a2,cap2,qV,_,_,I,aM⟩:=Rows2.at hu k a;subst qV;rw[<-O] at I aM;have I:=H.cell I (by simp);clear O;have bD:(d:Int)<P.orders.length:=by omega
   have HC:=Lib.hid (And.intro Q (And.intro q I));clear Q q I;go_wp2;clear aF;go_loopw [8,28] (λnv jv wr=>∃(j:Nat) (v5:Value),v5=nv/\jv=.int .i64 j/\j<=X.length/\Ext n wr/\SlOA OwnIn 24 w.heap.size (Rest n.heap.size F j X.length) wr v5 ((X.take j).flatMap (stepE P z o))/\Hid (∀b,v5.ownBlock=some b->n.heap.size<=b)) (λ_ jv _=>X.length-(intOf jv).toNat)
   case atStart=>exact⟨0,_,rfl,rfl,by omega,Ext.refl _,SlOA.nil _ _ _ _ _,Lib.hid (λb l=>by simp[Value.ownBlock] at l)⟩
   case round=>
    obtain⟨j,v5,rfl,rfl,hj,jX,N,qW⟩:=hrel;by_cases r:j<X.length
    ·have bE:(j:Int)<X.length:=by omega
     have J:=Bj j r;obtain⟨ax,cx,aN,_,_⟩:=J.ints.shape;have ah:=jX.cell (aL.cell j (by omega)) (by simp);rw[aN] at ah J;have Q:=jX.cell HC.out.1 (by simp);have q:=jX.cell HC.out.2.1 (by simp);rw[bh] at q;have ai:=HX.out.2.1 _ (gtMem r);have aO:rMul P (gt X j) (pw P z 0)=gt X j:=G.grp.er _ ai
     have aP:((X.take j).flatMap (stepE P z o)).length<=729*7:=by
      rw[flatMap_len,List.length_take];exact Nat.mul_le_mul (by omega) (by omega)
     have u:=Lib.hid (And.intro ai (And.intro aO aP));clear ai aO aP aN;obtain⟨x,hx⟩:∃x,x=gt X j:=⟨_,rfl⟩;rw[<-hx] at ah J u;have bk:=Lib.hid hx;clear hx;have W:=rdOwn.mono (F':=F j) J (λb l a=>⟨l,Nat.lt_of_lt_of_le a jX.size,jX.block b a (by simp)⟩);go_wp2;clear Q q ah
     go_loopw [8,10,39] (λnv xv tv wr=>∃(t:Nat) (v6:Value) (Y:List Int) (A Fx:Nat->Prop),v6=nv/\tv=.int .i64 t/\t<=o/\Ext n wr/\OwnIn Fx wr xv Y/\SlOA OwnIn 24 w.heap.size A wr v6 ((X.take j).flatMap (stepE P z o)++stepE P z t x) /\
       Hid (Y=rMul P x (pw P z t)/\(∀b,Fx b->b<wr.heap.size->A b/\w.heap.size<=b)/\(∀b,Rest n.heap.size F (j+1) X.length b->A b/\¬Fx b)/\(∀b,A b->b<wr.heap.size)/\∀b,v6.ownBlock=some b->n.heap.size<=b)) (λ_ _ tv _=>o-(intOf tv).toNat)
     case atStart=>
      refine⟨0,v5,x,Rest n.heap.size F j X.length,F j,rfl,rfl,by omega,jX,W,?_,Lib.hid ⟨u.out.2.1.symm,λb l _ => ?_,λb l => ?_,λb l=>Nat.lt_of_lt_of_le l.1 jX.size,qW.out⟩⟩
      ·unfold stepE;rw[List.range_zero,List.map_nil,List.append_nil];exact N
      ·obtain ⟨f1,_,f3⟩:=hF j b r l
       exact⟨⟨f3,j,Nat.le_refl _,r,l⟩,f1⟩
      ·obtain ⟨h1,i,y,h3,h4⟩:=l
       exact⟨⟨h1,i,by omega,h3,h4⟩,λh=>by have:=Bi i j b h3 r h4 h;omega⟩
     case round=>
      clear W N qW J;obtain⟨t,v6,Y,A,Fx,rfl,rfl,ht,hgi,K,N,hH⟩:=hrel;by_cases bP:t<o
      ·have bF:(t:Int)<o:=by omega
       obtain⟨ay,cy,gK,_,_⟩:=K.ints.shape;subst gK;have aR:=grown_trans H hgi;have aj:Vec P.orders Y:=by rw[hH.out.1];exact G.mulV u.out.1 (G.pw_vec E t)
       have aS:tv P Y z=rMul P x (pw P z (t+1)):=by rw[G.tv_eq aj E,hH.out.1,G.step_mul u.out.1 E]
       have aT:((X.take j).flatMap (stepE P z o)++stepE P z t x).length<=1000000:=by
        rw[List.length_append,stepE_len];have:=u.out.2.2;omega
       have Z:=G.mulV u.out.1 (G.pw_vec E (t+1));have HY:=Lib.hid (And.intro aj (And.intro aS (And.intro aT Z)));clear aj aS aT Z;have aU:=hgi.cell HC.out.2.2 (by simp);go_wp2_with (first|(at_builtin;refine wp_app_take rfl _ _ rfl w.heap.size A (Rest n.heap.size F (j+1) X.length) Fx wr v6 _ _ Y rfl N K hH.out.2.1 hH.out.2.2.1 hH.out.2.2.2.1 rfl rfl HY.out.2.2.1 aR.size ?_;intro v7 R aV ak aa;have m:=grown_own hgi ak (λb l a=>by have:=hH.out.2.2.2.2 b l;omega);have aW:=m.cell HC.out.2.2 (by simp))|fail)
       have ab:Ints Any R (.slice ay Y.length cy) Y:=Ints.mono K.ints (λb l a=>⟨trivial,Nat.lt_of_lt_of_le a ak.size,ak.block b a (λe=>by
        obtain⟨a1,_⟩:=hH.out.2.1 b l a;exact(N.avoids b e.symm).1 a1)⟩)
       have L:=grown_trans H m;refine Calls.mono (multiply_ok P hP R _ _ _ Y z Sp Any Su (hp.ext L) ab (Ints.ext aM L) HY.out.1 E) ?_;rintro eC M ⟨vC,rfl,gN,al⟩;rw[HY.out.2.1] at al;have aX:OwnIn (λb=>R.heap.size<=b/\b<M.heap.size) M vC (rMul P x (pw P z (t+1))):=OwnIn.of al (by rw[HY.out.2.2.2.1];omega) (λj h1 y=>⟨h1,y⟩)
       have bm:SlOA OwnIn 24 w.heap.size (λb=>Rest n.heap.size F (j+1) X.length b\/(R.heap.size<=b/\b<M.heap.size)) M v7 ((X.take j).flatMap (stepE P z o)++stepE P z (t+1) x):=by
        rw[stepE_succ,<-List.append_assoc,<-hH.out.1];exact(aV.more (λb l=>l.elim .inl (λh => .inr h.1))).ext rdOwn gN
       have bn:Hid ((∀b,(R.heap.size<=b/\b<M.heap.size)->b<M.heap.size->(Rest n.heap.size F (j+1) X.length b\/(R.heap.size<=b/\b<M.heap.size))/\w.heap.size<=b)/\(∀b,Rest n.heap.size F (j+1) X.length b->(Rest n.heap.size F (j+1) X.length b\/(R.heap.size<=b/\b<M.heap.size))/\¬(R.heap.size<=b/\b<M.heap.size)) /\
         (∀b,Rest n.heap.size F (j+1) X.length b\/(R.heap.size<=b/\b<M.heap.size)->b<M.heap.size)/\∀b,v7.ownBlock=some b->n.heap.size<=b):=by
        refine Lib.hid ⟨λb l _=>⟨.inr l,by have:=L.size;omega⟩,λb l=>⟨.inl l,λh=>by have:=l.1;have:=m.size;omega⟩,λb l => ?_,λb l => ?_⟩
        ·rcases l with h|h
         ·have:=h.1;have:=m.size;have:=gN.size;omega
         ·exact h.2
        ·rcases aa with h|h
         ·exact hH.out.2.2.2.2 b (by rw[<-h];exact l)
         ·have:=h b l;have:=hgi.size;omega
       clear N hH K aV aa al ab aW aU;go_wp2;go_roundw
       case rel=>exact⟨t+1,v7,_,_,_,rfl,by go_num,by omega,grown_trans m gN,aX,bm,Lib.hid ⟨rfl,bn.out⟩⟩
       case measure=>simp[intOf];omega
      ·have bp:t=o:=by omega
       subst bp;have am:=flatMap_take_succ X (stepE P z t) j r;rw[<-bk.out] at am
       have bq:SlOA OwnIn 24 w.heap.size (Rest n.heap.size F (j+1) X.length) wr v6 ((X.take (j+1)).flatMap (stepE P z t)):=by
        rw[am];exact N.less (λb l=>(hH.out.2.2.1 b l).1)
       have aY:=Lib.hid hH.out.2.2.2.2;clear am N hH K;go_wp2;go_roundw
       case rel=>exact⟨j+1,v6,rfl,by go_num,by omega,hgi,bq,aY⟩
       case measure=>simp[intOf];omega
    ·have br:j=X.length:=by omega
     subst br
     have bs:RowsO w.heap.size wr v5 (elsP P U (k+1)):=by
      rw[HX.out.1];have:=N.o;rw[List.take_length] at this;exact this
     clear N qW;go_wp2;go_roundw
     case rel=>exact⟨k+1,v5,rfl,by go_num,by omega,grown_trans hg jX,bs⟩
     case measure=>simp[intOf];omega
  ·have bt:k=U.length:=by omega
   subst bt;have aZ:0<(elsP P U U.length).length:=by omega
   have a0:(elsP P U U.length).length<=1000000:=by omega
   obtain⟨az,T,fk,_,_⟩:=SlD.shape (hO.toD (by omega));have HN:=Lib.hid (And.intro aZ a0);clear B C aZ a0;subst fk;go_wp2_with fail
   refine Calls.mono (sortRows_ok wr _ (elsP P U U.length) w.heap.size hO HN.out.1 HN.out.2) ?_;rintro eS wS ⟨rfl,Bk,bv⟩;have a3:Ext w wS:=grown_own (grown_trans S hg) bv (λb l a=>by have:=(hO.lt b l).1;omega);clear hO;go_wp2;go_ret;exact⟨_,rfl,a3,Bk⟩
theorem rows3One {S:Nat->Prop}{w:World}{u:Value}{U:List (List Int)}(h:Rows2 S w u U):Rows3 Any (w.alloc (.cells #[u] 25)) (.slice (some ⟨w.heap.size,0,none⟩) 1 1) [U]:=by
 refine⟨_,1,rfl,⟨by simp,by simp,λh=>by cases h⟩,λi a => ?_⟩;have:i=0:=by simpa using a
 subst this;refine⟨w.heap.size,0,u,rfl,trivial,by simp,by rw[World.cell?_alloc_at _ _ _ _ rfl];rfl,?_⟩;exact Rows2.sub (Rows2.ext h (World.grownBy_alloc _ _ _)) (λ_ _ _=>trivial)
theorem elemsIn_len {P:Pr}(hP:Valid P) (H:List Int->Prop):(elemsIn P H).length<=729:=by
 have h1:=elemsTo_len P H (ordP P).toNat;rw[elemsTo_all] at h1;have a:ordP P<=729:=hP.le729;omega
end Go.Proofs.YtdcobapnlpeaaaaGreat
namespace Go.Proofs.YtdcobapnlpeaaaaGreat
open Go.RowKit
open Go.Maps (Keyed)
theorem Bl:Tryz.prog.underlying 213=some (.map 9 4):=by kernel_rfl
theorem Bn (w:World):(Instr.makeMap 213 none).run Tryz.prog w=.ok (.map (some w.heap.size)) (w.alloc (.map #[] 0)):=by kernel_rfl
def oN:jC ByteArray Bool where
 t:=213
 k:=9
 e:=4
 kv s := .string s
 kl s := .string s.data.toList
 mA s:=s.size<=maxLen
 ev x := .bool x
 el x := .bool x
 oA _:=True
 z:=false
 keyed:=Maps.string_keyed oO
 und:=Bl
 key s hs:=WideMaps.keyOf_string_mk oO hs
 inj a c h:=by
  cases a with|mk a=>cases c with|mk c=>
  simp only[Lit.string.injEq] at h;rw[Array.toList_inj.1 h]
 isKey _:=trivial
 elem x _:=plainElem_bool tS x
 inv v x ps h:=by
  unfold plainElem at h;rw[tS] at h;cases v<;>simp at h
  rw[h.1]
 zero w:=by kernel_rfl
 tR:=trivial
theorem Bo (P:Pr):(allEl P).length=(ordP P).toNat:=by unfold allEl;rw[List.length_map,List.length_range]
theorem uR {P:Pr}{t:Nat}(h:t<(ordP P).toNat):gt (allEl P) t=elAt P (t:Int):=by
 unfold allEl;rw[gt_map _ _ _ (by rw[List.length_range];exact h)];congr 2
 simp[gt,h]
def jo (S:List (List (List Int))) (s:ByteArray):Bool:=S.any (λv=>decide (gV v=s))
theorem Bp {P:Pr}(hP:Valid P) {S:List (List (List Int))}(b:∀v∈S,SubB P v) {u:List (List Int)}(e:SubB P u):jo S (gV u)=decide (u∈S):=by
 rw[Bool.eq_iff_iff,decide_eq_true_iff];unfold jo;rw[List.any_eq_true];constructor
 ·rintro ⟨v,a,h⟩
  rw[<-A8 hP (b v a) e (of_decide_eq_true h)];exact a
 ·intro h;exact⟨u,h,by simp⟩
theorem Bq (S:List (List (List Int))) (u:List (List Int)) (s:ByteArray):(if s=gV u then true else jo S s)=jo (S++[u]) s:=by
 unfold jo;rw[List.any_append,List.any_cons,List.any_nil,Bool.or_false];by_cases h:s=gV u
 ·rw[if_pos h,h];simp
 ·rw [if_neg h]
  have:decide (gV u=s)=false:=by simpa using λe=>h e.symm
  rw[this,Bool.or_false]
theorem Br {P:Pr}(G:Grp P) {u:List (List Int)}(b:SubB P u):(gV u).size<=maxLen/\(∀x∈u,∀e∈x,0<=e/\e<256)/\(∀x∈u,x.length<=1000)/\u.length<=100:=by
 have g:=G.v.n6;have i:=G.sub_len b;have j:=uS u 6 (λz a=>by rw[(b.1 z a).1];exact g);have k:=Bt u;refine⟨by unfold maxLen;have:(6+1)*u.length<=100:=(by omega);omega,λz a=>(qT G.v (b.1 z a)).2,λz a=>by rw[(b.1 z a).1];omega,by omega⟩
end Go.Proofs.YtdcobapnlpeaaaaGreat
namespace Go.Proofs.YtdcobapnlpeaaaaGreat
open Go.RowKit
theorem qX {P:Pr}(G:Grp P) {u:List (List Int)}(a:SubB P u):SeqOk P u:=by
 have h:=(G.seq_facts (G.subB a)).1;have e:cseq P (genP P λx=>x∈u)=u:=a.2.symm;rw[e] at h;exact h
set_option maxHeartbeats 16000000 in
set_option linter.unusedSimpArgs false in
theorem Bu (P:Pr) (G:Grp P) (pr:List Int) (w:World) (p v:Value) (Sp S:Nat->Prop) (hp:PresP Sp w p P) (hv:Ints S w v pr) :
  Calls Tryz.prog 194 #[p,v] w (Ret w λw' r=>∃L,gR P pr L/\SlO (λF w u (x:List (List Int))=>RowsD F w u x) 25 w.heap.size w' r L):=by
 have hP:=G.v;have c0:=hP.n6;have b3:ordP P<=729:=hP.le729;have b4:=hP.ordP_pos;obtain⟨pb,po,rfl⟩:=hp.shape;obtain⟨av,cv,rfl,_,_⟩:=hv.shape;have aC:Ext w (w.alloc (.cells #[.pointer (some ⟨pb,po,none⟩)] 86)):=World.grownBy_alloc _ _ _;have b5:∀w',Ext (w.alloc (.cells #[.pointer (some ⟨pb,po,none⟩)] 86)) w'->w'.cell? ⟨w.heap.size,0,none⟩=some (.pointer (some ⟨pb,po,none⟩)):=λw' h=>h.cell (by rw[World.cell?_alloc_at _ _ _ _ rfl];rfl) (by simp);have b6:w.heap.size<(w.alloc (.cells #[.pointer (some ⟨pb,po,none⟩)] 86)).heap.size:=by simp
 have V:=hp.ext aC;have bF:=uf P hP pr _ _ _ Sp S V (Ints.ext hv aC);have HB:=Lib.hid b5;clear b5 hv;have c3:=Lib.hid b6;clear b6;obtain⟨N,hN⟩:∃N,N=(ordP P).toNat:=⟨_,rfl⟩;have c4:N<=729:=by omega
 have HN:=Lib.hid hN;clear hN b4 b3;have bg:=uF G pr;obtain⟨j,aj⟩:∃j,j=dU P pr:=⟨_,rfl⟩;rw[<-aj] at bF bg;have HW:=Lib.hid aj;clear aj;go_enter Tryz.func194,Tryz.ntmps194;go_wp2_with fail
 generalize c5:w.alloc (.cells #[.pointer (some ⟨pb,po,none⟩)] 86)=w0 at *;clear c5;refine Calls.mono bF ?_;rintro e1 w1 ⟨v1,rfl,bH,rfl⟩;clear bF;have J:=HB.out w1 bH;go_wp2_with fail
 clear J;refine Calls.mono (allElements_ok P hP w1 _ Sp (V.ext bH)) ?_;rintro e2 w2 ⟨v2,rfl,Z,hA⟩;have Z:=grown_trans bH Z;have dt:=grown_trans aC Z;have bi:(allEl P).length=N:=by rw[Bo,HN.out]
 have bI:=RowsD.rows (hA.toD (by omega));obtain⟨ea,ec,Bv,_,_⟩:=Sl.shape bI;subst Bv;rw[bi];have bp:Rows2 Any w2 (.slice ea N ec) (allEl P):=by rw[<-bi];exact Rows2.sub bI (λ_ _ _=>trivial)
 have HA:=Lib.hid (And.intro bi bp);clear bi bI bp hA;have bq:=G.uG;have b7:=Lib.hid bq;clear bq;go_wp2;go_loopg [6] ((j-1).toNat) (λgk hv wr=>∃U:List (List Int),gk=(j-prodU P U U.length).toNat/\Ext w2 wr/\Rows2 Any wr hv U/\Hid (SubB P U/\prodU P U U.length∣dU P pr))
 case atStart=>exact⟨[],rfl,Ext.refl _,⟨none,0,rfl,⟨by simp,by simp,λ_=>rfl⟩,λi hi=>by simp at hi⟩,Lib.hid ⟨b7.out,Int.one_dvd _⟩⟩
 case round=>
  obtain⟨U,bJ,hg,hU,hS⟩:=hrel;have b8:=grown_trans Z hg;have dF:=G.sub_len hS.out.1;have aP:=qX G hS.out.1;have b9:=G.oK hS.out.1;have bs:prodU P U U.length<=j:=by rw[HW.out];exact oI hS.out.2 (by rw[<-HW.out];exact bg.1)
  obtain⟨ua,uc,huv,_,_⟩:=Sl.shape hU;subst huv;have bK:=sizeOf_ok P hP wr _ _ U Sp Any (V.ext b8) hU aP (by omega);obtain⟨s,hs⟩:∃s,s=prodU P U U.length:=⟨_,rfl⟩;rw[<-hs] at b9 bs bK bJ;have bL:=Lib.hid (And.intro hs aP);clear hs aP;have c8:=Lib.hid bJ;clear bJ;have J:=HB.out wr b8;go_wp2_with fail
  clear J;refine Calls.mono bK ?_;rintro e3 T ⟨v3,rfl,hg3,rfl⟩;clear bK;have aQ:=grown_trans hg hg3;have b':=Rows2.ext hU hg3;clear hU;by_cases A:s<j
  ·have cb:=gT.start (G:=G) hS.out.1 hS.out.2
   have c9:=Lib.hid cb;clear cb;go_wp2;go_loopw [6,29] (λhv tv wr=>∃(t:Nat) (U':List (List Int)),tv=.int .i64 t/\t<=N/\Ext T wr/\Rows2 Any wr hv U'/\Hid (gT G pr U U' t)) (λ_ tv _=>N-(intOf tv).toNat)
   case atStart=>exact⟨0,U,by go_num,by omega,Ext.refl _,b',c9⟩
   case round=>
    obtain⟨t,U',rfl,ht,M,hU,hI⟩:=hrel;have hg:=aQ;have g:=grown_trans Z (grown_trans hg M);have du:=G.sub_len hI.out.sub;obtain⟨xa,xc,qY,_,_⟩:=Sl.shape hU;subst qY;by_cases aR:t<N
    ·have cd:(t:Int)<N:=by omega
     have aE:t<(ordP P).toNat:=by rw[<-HN.out];exact aR
     have O:Vec P.orders (elAt P (t:Int)):=G.elAtV aE;obtain⟨bt,ot,ax,cx,hbt,_,_,ak,W⟩:=Rows2.at (Rows2.ext HA.out.2 (grown_trans hg M)) t (by rw[HA.out.1];exact aR);cases hbt
     rw[uR aE] at ak W;have aS:=λ(h:¬jm G pr U' t)=>hI.out.skip h;have aa:=λ(h1:¬gP P U' (elAt P (t:Int))) h2=>hI.out.take aE h1 h2;have ce:∀q:Prop,(jm G pr U' t->q)->¬q->¬jm G pr U' t:=λq h1 h2 h3=>h2 (h1 h3)
     have bj:jm G pr U' t=(¬gP P U' (elAt P (t:Int))/\prodU P (cseq P (extP P (gP P U') (elAt P (t:Int)))) (cseq P (extP P (gP P U') (elAt P (t:Int)))).length∣dU P pr /\
      ∀d,pv (ey G (iO P (elAt P (t:Int)))) d->gt P.orders d∈pr):=rfl
     have hE:=ext_sub G hI.out.sub O;have bN:=Aq P G wr _ _ (elAt P (t:Int)) Sp Any (V.ext g) W O
     have al:=λ(w':World) (h:Ext wr w')=>isMember_ok P G w' (.pointer (some ⟨pb,po,none⟩)) _ _ (gP P U') (elAt P (t:Int)) Sp Any Any (G.subB hI.out.sub) (V.ext (grown_trans g h)) (by
      have e:cseq P (gP P U')=U':=hI.out.sub.2.symm;rw[e];exact Rows2.ext hU h) (Ints.ext W h) O
     obtain⟨X,aF⟩:∃X,X=elAt P (t:Int):=⟨_,rfl⟩;obtain⟨Y,az⟩:∃Y,Y=cseq P (extP P (gP P U') X):=⟨_,rfl⟩;rw[<-aF] at ak W O hE bN al aa bj;rw[<-az] at aa bj;have cf:SubB P Y:=by rw[az];exact G.subB_cseq hE
     have cg:cseq P (genP P (λz=>z∈U'++[X]))=Y:=by rw[uE,az]
     have dH:X.length<=6:=by rw[O.1];exact c0
     have H:=Lib.hid (And.intro aS (And.intro aa (And.intro bj (And.intro cf (And.intro cg (And.intro al O))))));clear aS aa bj cf cg al O hE ce aF az;have hX:=W;clear W;have J:=HB.out wr g;go_wp2_with fail
     clear ak J;refine Calls.mono bN ?_;rintro e4 w4 ⟨v4,rfl,aG,m,rfl,hm1,hm2,bk⟩;clear bN;by_cases bl:j%m=0
     ·have J:=HB.out w4 (grown_trans g aG)
      have ci:=H.out.2.2.2.2.2.1 w4 aG;have HM:=Lib.hid bk;clear bk;go_wp2_with fail
      clear J;refine Calls.mono ci ?_;rintro e5 w5 ⟨v5,rfl,aH,r,rfl,hr⟩;clear ci bl;have ae:=grown_trans aG aH;have aT:=grown_trans M ae;have bP:=Rows2.ext hU ae;have ck:=Ints.ext hX ae;have am:=grown_trans g ae;clear hU hX;cases r with
      | true=>
       have l:=H.out.1 (by rw[H.out.2.2.1];intro h;exact h.1 (hr.1 rfl));have Q:=Lib.hid l;clear l hr;go_wp2;go_roundw
       case rel=>exact⟨t+1,U',by go_num,by omega,aT,bP,Q⟩
       case measure=>simp[intOf];omega
      | false=>
       have cm:¬gP P U' X:=λh=>by have:=hr.2 h;cases this
       have dd:=G.sub_len H.out.2.2.2.1;have co:=qX G H.out.2.2.2.1;have cp:=G.oK H.out.2.2.2.1
       have aU:∀z∈U'++[X],Vec P.orders z:=λz hz=>by
        rcases List.mem_append.1 hz with h|h
        ·exact hI.out.sub.1 z h
        ·rw[List.mem_singleton.1 h];exact H.out.2.2.2.2.2.2
       have aV:(U'++[X]).length<=10000:=by rw[List.length_append,List.length_singleton];omega
       have cq:j%(prodU P Y Y.length)=0->gT G pr U Y (t+1):=λh=>H.out.2.1 cm (by rw[<-HW.out];exact qP.1 h);have cr:¬j%(prodU P Y Y.length)=0->gT G pr U U' (t+1):=λh=>H.out.1 (by rw[H.out.2.2.1];intro hh;exact h (qP.2 (by rw[HW.out];exact hh.2.1)));have HX:=Lib.hid (And.intro aU (And.intro aV (And.intro H.out.2.2.2.2.1 (And.intro (show Y.length<=100 by omega) (And.intro co (And.intro cp (And.intro cq cr)))))));clear aU aV dd co cp cq cr hr cm;obtain⟨wo,pQ⟩:∃wo:World,wo=wr:=⟨_,rfl⟩;have e1:∀w',Ext w5 w'->w'.cell? ⟨w.heap.size,0,none⟩=some (.pointer (some ⟨pb,po,none⟩)):=λw' h=>HB.out w' (grown_trans am h);clear M g aG aH ae pQ;clear H;go_wp2;generalize w5=wr at *;have M:=aT;have g:=am;have hU:=bP;have hX:=ck;clear aT am bP ck;refine wp_region_held_drew (S:=λw'=>Ext wr w') (by kernel_rfl) (grown_drew _ _) (λB => ?_);refine tk 0 ?_;refine tk 1 ?_;refine tk 3 ?_;refine jx 2 4 (λKc y => ?_) (λKc y => ?_)
       ·go_simp
        go_at_call 203;refine Calls.mono (cloneRows_ok wr.drew _ U' Any (λ_=>False) (Rows2.ext hU (grown_drew wr none)) (λ_ _ _ h=>h) (by omega)) ?_;rintro eC wC ⟨vC,rfl,aI,ab⟩;have E:Ext wr wC:=grown_trans (grown_drew wr none) aI;obtain⟨ca,cc,hcv,_⟩:=ab.shape;subst hcv;go_wp2_with fail
        refine ko y ?_ (λB => ?_)
        ·exact E
        clear y Kc;refine eu 4 (λKc y => ?_);go_simp;refine ko y ?_ (λB => ?_)
        ·exact grown_trans E (World.grownBy_alloc _ _ _)
        clear y Kc;refine eu 5 (λKc y => ?_);have bQ:Ints (λk=>¬(λ_:Nat=>False) k/\(Value.slice ca U'.length cc).ownBlock≠some k) (wC.alloc (.cells #[.slice ax X.length cx] 24)) (.slice ax X.length cx) X:=Ints.mono hX (λk _ A=>⟨⟨λh=>h,λe=>by have h1:=(ab.lt k e).1;have h2:wr.heap.size<=wr.drew.heap.size:=(grown_drew wr none).size;  omega⟩,Nat.lt_of_lt_of_le A ((grown_trans E (World.grownBy_alloc wC (.cells #[.slice ax X.length cx] 24) none):Ext wr (wC.alloc (.cells #[.slice ax X.length cx] 24)))).size,((grown_trans E (World.grownBy_alloc wC (.cells #[.slice ax X.length cx] 24) none):Ext wr (wC.alloc (.cells #[.slice ax X.length cx] 24)))).block k A (by simp)⟩);refine oL rfl _ _ rfl (λ_=>False) wr.drew.heap.size _ (Value.slice ca U'.length cc) _ U' X rfl (ab.ext (World.grownBy_alloc _ _ _)) bQ rfl (by rw[World.cell?_alloc_at _ _ _ _ rfl];rfl) (by omega) (Nat.le_trans aI.size (World.grownBy_alloc wC _ none).size) ?_;intro v5 w5 aW aH;have R:Ext wr w5:=grown_own ((grown_trans E (World.grownBy_alloc wC (.cells #[.slice ax X.length cx] 24) none):Ext wr (wC.alloc (.cells #[.slice ax X.length cx] 24)))) aH (λb hb A=>by have h1:=(ab.lt b hb).1;have h2:wr.heap.size<=wr.drew.heap.size:=(grown_drew wr none).size;  omega);have bR:=aW.rows;obtain⟨da,dc,I,_⟩:=aW.shape;have af:(U'++[X]).length=U'.length+1:=by simp
        rw[af] at I;clear af;subst I;refine ko y ?_ (λB => ?_)
        ·exact R
        clear y Kc;refine eu 6 (λKc y => ?_);go_simp;go_at_call 159;refine Calls.mono (generated_ok P G w5 _ _ (U'++[X]) Sp Any (V.ext (grown_trans g R)) bR HX.out.1 HX.out.2.1) ?_;rintro e6 w6 ⟨v6,rfl,gj,aX⟩;have C:=grown_trans R gj;rw[HX.out.2.2.1] at aX;have ao:Rows2 Any w6 v6 Y:=Rows2.sub (RowsD.rows (aX.toD (by have:=HX.out.2.2.2.1;omega))) (λ_ _ _=>trivial);obtain⟨ga,gc,kH,_,_⟩:=Sl.shape ao;subst kH;go_wp2_with fail
        refine ko y ?_ (λB => ?_)
        ·exact C
        clear y Kc;refine tk 7 ?_;refine wpAnyH_done (by kernel_rfl) ?_ _;clear e1;have aY:=HB.out w6 (grown_trans (grown_trans Z (grown_trans hg M)) C);go_wp2_with fail
        clear aY;refine Calls.mono (sizeOf_ok P hP w6 _ _ Y Sp Any (V.ext (grown_trans g C)) ao HX.out.2.2.2.2.1 HX.out.2.2.2.1) ?_;rintro e7 w7 ⟨v7,rfl,ap,rfl⟩;have ag:=grown_trans M (grown_trans C ap);have aZ:=Rows2.ext ao ap;have aK:=HX.out.2.2.2.2.2.1;obtain⟨s2,D⟩:∃s2,s2=prodU P Y Y.length:=⟨_,rfl⟩;rw[<-D] at aK ⊢;by_cases I:j%s2=0
        ·have l:=HX.out.2.2.2.2.2.2.1 (by rw[<-D];exact I)
         have Q:=Lib.hid l;clear l D;go_wp2;go_roundw
         case rel=>exact⟨t+1,Y,by go_num,by omega,ag,aZ,Q⟩
         case measure=>simp[intOf];omega
        ·have l:=HX.out.2.2.2.2.2.2.2 (by rw[<-D];exact I)
         have Q:=Lib.hid l;clear l D;have bT:(j%s2 == 0)=false:=by simpa using I
         have bU:=Rows2.ext hU (grown_trans C ap);go_wp2;go_roundw
         case rel=>exact⟨t+1,U',by go_num,by omega,ag,bU,Q⟩
         case measure=>simp[intOf];omega
       ·go_simp
        have a0:Ext wr (wr.drew.alloc (.cells #[.slice ax X.length cx] 24)):=grown_trans (grown_drew _ _) (World.grownBy_alloc _ _ _);have ar:(wr.drew.alloc (.cells #[.slice ax X.length cx] 24)).cell? ⟨wr.drew.heap.size,0,none⟩=some (.slice ax X.length cx):=by rw[World.cell?_alloc_at _ _ _ _ rfl];rfl
        refine ko y ?_ (λB => ?_)
        ·exact a0
        clear y Kc;refine eu 2 (λKc y => ?_);go_simp;go_at_call 203;refine Calls.mono (cloneRows_ok (wr.drew.alloc (.cells #[.slice ax X.length cx] 24)) _ U' Any (λ_=>False) (Rows2.ext hU a0) (λ_ _ _ h=>h) (by omega)) ?_;rintro eC wC ⟨vC,rfl,aI,ab⟩;have E:Ext wr wC:=grown_trans a0 aI;obtain⟨ca,cc,hcv,_⟩:=ab.shape;subst hcv;go_wp2_with fail
        refine ko y ?_ (λB => ?_)
        ·exact E
        clear y Kc;refine eu 5 (λKc y => ?_);have bQ:Ints (λk=>¬(λ_:Nat=>False) k/\(Value.slice ca U'.length cc).ownBlock≠some k) (wC) (.slice ax X.length cx) X:=Ints.mono hX (λk _ A=>⟨⟨λh=>h,λe=>by have h1:=(ab.lt k e).1;have h2:wr.heap.size<=wr.drew.heap.size:=(grown_drew wr none).size;have h3:=a0.size;omega⟩,Nat.lt_of_lt_of_le A (E).size,(E).block k A (by simp)⟩);refine oL rfl _ _ rfl (λ_=>False) (wr.drew.alloc (.cells #[.slice ax X.length cx] 24)).heap.size _ (Value.slice ca U'.length cc) _ U' X rfl ab bQ rfl (aI.cell ar (by simp)) (by omega) (aI.size) ?_;intro v5 w5 aW aH;have R:Ext wr w5:=grown_own (E) aH (λb hb A=>by have h1:=(ab.lt b hb).1;have h2:wr.heap.size<=wr.drew.heap.size:=(grown_drew wr none).size;have h3:=a0.size;omega);have bR:=aW.rows;obtain⟨da,dc,I,_⟩:=aW.shape;have af:(U'++[X]).length=U'.length+1:=by simp
        rw[af] at I;clear af;subst I;refine ko y ?_ (λB => ?_)
        ·exact R
        clear y Kc;refine eu 6 (λKc y => ?_);go_simp;go_at_call 159;refine Calls.mono (generated_ok P G w5 _ _ (U'++[X]) Sp Any (V.ext (grown_trans g R)) bR HX.out.1 HX.out.2.1) ?_;rintro e6 w6 ⟨v6,rfl,gj,aX⟩;have C:=grown_trans R gj;rw[HX.out.2.2.1] at aX;have ao:Rows2 Any w6 v6 Y:=Rows2.sub (RowsD.rows (aX.toD (by have:=HX.out.2.2.2.1;omega))) (λ_ _ _=>trivial);obtain⟨ga,gc,kH,_,_⟩:=Sl.shape ao;subst kH;go_wp2_with fail
        refine ko y ?_ (λB => ?_)
        ·exact C
        clear y Kc;refine tk 7 ?_;refine wpAnyH_done (by kernel_rfl) ?_ _;clear e1;have aY:=HB.out w6 (grown_trans (grown_trans Z (grown_trans hg M)) C);go_wp2_with fail
        clear aY;refine Calls.mono (sizeOf_ok P hP w6 _ _ Y Sp Any (V.ext (grown_trans g C)) ao HX.out.2.2.2.2.1 HX.out.2.2.2.1) ?_;rintro e7 w7 ⟨v7,rfl,ap,rfl⟩;have ag:=grown_trans M (grown_trans C ap);have aZ:=Rows2.ext ao ap;have aK:=HX.out.2.2.2.2.2.1;obtain⟨s2,D⟩:∃s2,s2=prodU P Y Y.length:=⟨_,rfl⟩;rw[<-D] at aK ⊢;by_cases I:j%s2=0
        ·have l:=HX.out.2.2.2.2.2.2.1 (by rw[<-D];exact I)
         have Q:=Lib.hid l;clear l D;go_wp2;go_roundw
         case rel=>exact⟨t+1,Y,by go_num,by omega,ag,aZ,Q⟩
         case measure=>simp[intOf];omega
        ·have l:=HX.out.2.2.2.2.2.2.2 (by rw[<-D];exact I)
         have Q:=Lib.hid l;clear l D;have bT:(j%s2 == 0)=false:=by simpa using I
         have bU:=Rows2.ext hU (grown_trans C ap);go_wp2;go_roundw
         case rel=>exact⟨t+1,U',by go_num,by omega,ag,bU,Q⟩
         case measure=>simp[intOf];omega
     ·have bT:(j%m != 0)=true:=by simpa using bl
      have l:=H.out.1 (by
       rw[H.out.2.2.1];intro h;apply bl;rw[HW.out];exact qP.2 (bk pr h.2.2))
      have Q:=Lib.hid l;clear l bk;have cu:=grown_trans M aG;have de:=Rows2.ext hU aG;go_wp2;clear bT bl;go_roundw
      case rel=>exact⟨t+1,U',by go_num,by omega,cu,de,Q⟩
      case measure=>simp[intOf];omega
    ·have a1:t=N:=by omega
     have l:=hI.out;rw[a1,HN.out] at l;have bV:=l.fin hS.out.1 hS.out.2 (by rw[<-bL.out.1,<-HW.out];omega);rw[<-bL.out.1] at bV;have bw:prodU P U' U'.length<=j:=by rw[HW.out];exact oI l.dv (by rw[<-HW.out];exact bg.1)
     have HE:=Lib.hid (And.intro bV (And.intro bw (And.intro l.sub l.dv)));clear l bV bw a1;have df:¬(t:Int)<N:=by omega
     go_wp2;go_roundg ((j-prodU P U' U'.length).toNat)
     case rel=>exact⟨U',rfl,grown_trans hg M,hU,Lib.hid ⟨HE.out.2.2.1,HE.out.2.2.2⟩⟩
     case measure=>have:=HE.out.1;have:=HE.out.2.1;have:=c8.out;omega
  ·have cw:s=j:=by omega
   have a3:gQ P pr U:=⟨hS.out.1,by rw[<-bL.out.1,cw,HW.out]⟩;have bx:=qQ G hS.out.1;have HH:=Lib.hid (And.intro a3 bx);clear a3 bx cw bg b9 bs;have cy:=fH.made oN T;have dh:=Bn T;have cz:Ext T (T.alloc (.map #[] 0)):=World.grownBy_alloc _ _ _;have bz:fH oN (T.alloc (.map #[] 0)) T.heap.size (jo []) 0:=cy;have cA:=Lib.hid (And.intro cz bz);clear cz cy bz
   have dS:1<=N:=by
    have:=hP.ordP_pos;have:=HN.out;omega
   go_wp2;clear dh
   go_loopw [11,63] (λov tv wr=>∃(t:Nat) (v11:Value),v11=ov/\tv=.int .i64 t/\t<=N/\Ext T wr/\SlOA (λF w u (x:List (List Int))=>RowsD F w u x) 25 T.heap.size (λb=>b=T.heap.size) wr v11 (fO P U t) /\
    fH oN wr T.heap.size (jo (fO P U t)) (fO P U t).length) (λ_ tv _=>N-(intOf tv).toNat)
   case atStart=>exact⟨0,_,rfl,by go_num,by omega,cA.out.1,⟨[],λ_ _=>False,rfl,World.ownsRow_nil _ _ _ _,by simp,by simp,by simp[fO,fu],by simp,by simp[Value.ownBlock]⟩,cA.out.2⟩
   case round=>
    obtain⟨t,v11,rfl,rfl,ht,a4,hO,hM⟩:=hrel;have bA:=grown_trans aQ a4;have g:=grown_trans Z bA;have bW:=qQ G hS.out.1 t (by rw[<-HN.out];exact ht);have di:=Ax P U t;have a5:¬dK P U (elAt P (t:Int))∈fO P U t->fO P U (t+1)=fO P U t++[dK P U (elAt P (t:Int))]:=λh=>by unfold fO at *;rw[oD h]
    have bX:dK P U (elAt P (t:Int))∈fO P U t->fO P U (t+1)=fO P U t:=λh=>by unfold fO at *;rw[oC h]
    obtain⟨cn,ah⟩:∃cn,cn=fO P U t:=⟨_,rfl⟩;rw[<-ah] at hO hM bW di a5 bX;have HY:=Lib.hid (And.intro a5 (And.intro bX (And.intro ah bW)));clear a5 bX bW ah;have a6:=hO.avoids;have cD:=hM.lt;by_cases aR:t<N
    ·have cd:(t:Int)<N:=by omega
     have aE:t<(ordP P).toNat:=by rw[<-HN.out];exact aR
     have O:Vec P.orders (elAt P (t:Int)):=G.elAtV aE;obtain⟨bt,ot,a2,cap2,hbt,_,_,ak,W⟩:=Rows2.at (Rows2.ext HA.out.2 bA) t (by rw[HA.out.1];exact aR);cases hbt
     rw[uR aE] at ak W;have dj:=HB.out wr g;have bm:=conjugateSubgroup_ok P G wr _ _ _ U (elAt P (t:Int)) Sp _ _ (V.ext g) (Rows2.ext b' a4) hS.out.1.1 (by omega) W O;have ar:=G.jD hS.out.1 O;obtain⟨X,aF⟩:∃X,X=elAt P (t:Int):=⟨_,rfl⟩;rw[<-aF] at ak bm ar;obtain⟨cj,aA⟩:∃cj,cj=dK P U X:=⟨_,rfl⟩;have a7:cseq P (genP P (λz=>z∈conjL P U X))=cj:=by rw[aA];rfl
     rw[a7] at bm;rw[<-aA] at ar;have aL:=Lib.hid (And.intro aF aA);clear aF aA a7 O W;go_wp2_with fail
     clear ak dj;refine Calls.mono bm ?_;rintro e9 w9 ⟨v9,rfl,jQ,uT⟩;clear bm;obtain⟨J,cE,cF,cG⟩:=Br G ar;have aB:RowsD (From wr.heap.size) w9 v9 cj:=uT.toD (by omega);obtain⟨ja,jc,qZ,_,_⟩:=SlD.shape aB;subst qZ;have a8:=Bw cj w9 _ _ (RowsD.rows aB) cE cF cG;have bY:=hM.ext jQ;have K:∀w',Ext w9 w'->(Instr.lookup 213 (.map (some T.heap.size)) (.string (gV cj)) false).run Tryz.prog w'=.ok (.bool (jo cn (gV cj))) w':=λw' h=>(bY.ext h).look _ J;have bn:=Bp hP HY.out.2.2.2.sub ar;have a9:=Bq cn cj;obtain⟨s2,aK⟩:∃s2,s2=gV cj:=⟨_,rfl⟩;rw[<-aK] at a8 K bn a9 J;obtain⟨r,hr⟩:∃r,r=jo cn s2:=⟨_,rfl⟩;rw[<-hr] at K bn;have HK:=Lib.hid (And.intro bn (And.intro a9 J));clear bn a9 aK hr J cE cF cG uT ar;go_wp2_with fail
     refine Calls.mono a8 ?_;rintro eA wA ⟨vA,rfl,dR,rfl⟩;clear a8;have a':=K wA dR;clear K;have bo:=bY.ext dR;have ba:=grown_trans jQ dR;have cH:=grown_trans a4 ba;have bb:RowsD (From wr.heap.size) wA (.slice ja cj.length jc) cj:=rdRows.mono aB (λk hk A=>⟨hk,Nat.lt_of_lt_of_le A dR.size,dR.block k A (by simp)⟩);clear hM bY aB;cases r with
     | true=>
      have bc:cj∈cn:=of_decide_eq_true HK.out.1.symm;have aM:=HY.out.2.1 (by rw[<-aL.out.1,<-aL.out.2];exact bc);have cI:=hO.ext rdRows ba;have ac:=Lib.hid (And.intro aM (And.intro cI bo));clear bc aM bo cI hO bb;go_wp2;clear a';go_roundw
      case rel=>exact⟨t+1,v11,rfl,by go_num,by omega,cH,by rw[ac.out.1];exact ac.out.2.1,by rw[ac.out.1];exact ac.out.2.2⟩
      case measure=>simp[intOf];omega
     | false=>
      have bc:¬cj∈cn:=λh=>by
       have:=HK.out.1;rw[decide_eq_true h] at this;cases this
      have aM:=HY.out.1 (by rw[<-aL.out.1,<-aL.out.2];exact bc);rw[<-aL.out.1,<-aL.out.2] at aM;obtain⟨wU,hrun,uU,bZ⟩:=bo.update s2 HK.out.2.2 true trivial (by omega);have b0:(Instr.mapUpdate 213 (.map (some T.heap.size)) (.string s2) (.bool true)).run Tryz.prog wA=.ok () wU:=hrun
      have bB:fH oN wU T.heap.size (jo (cn++[cj])) (cn++[cj]).length:=by
       rw[List.length_append,List.length_singleton];exact uU.congr (λs=>HK.out.2.1 s)
      have bC:wr.grownBy wU (some T.heap.size):=grown_trans (grown_of_ext _ ba) bZ
      have bD:RowsD (From wr.heap.size) wU (.slice ja cj.length jc) cj:=rdRows.mono bb (λk hk A=>⟨hk,Nat.lt_of_lt_of_le A bZ.size,bZ.block k A (λe=>by
       have h1:wr.heap.size<=k:=hk;cases e;omega)⟩)
      have dm:cn.length<=1000000:=by omega
      have b1:=a4.size;have cJ:Ext T wU:=grown_own a4 bC (λb hb A=>by cases hb;omega);have ac:=Lib.hid (And.intro aM (And.intro bB bD));clear bc aM bo uU bB hrun bb bD;go_wp2_with (first|(at_builtin;refine wp_app_oneA rdRows 26 25 (.slice none 0 0) 24 lu Tryz.lz rfl (by decide) rfl _ _ rfl T.heap.size _ wr wU _ _ cn cj rfl hO (λb hb=>by subst hb;exact cD) (some T.heap.size) bC (λb hb=>by cases hb;rfl) ac.out.2.2 rfl rfl dm b1 ?_;intro v8 w8 cK cL)|fail)
      have cM:Ext T w8:=grown_own cJ cL (λb hb A=>by have:=(a6 b hb).2.1;omega);have cN:=ac.out.2.1.kept cL (λe=>(a6 _ e.symm).1 rfl);have cO:=Lib.hid (And.intro cK cN);clear cK cN hO;clear a' b0;go_roundw
      case rel=>exact⟨t+1,v8,rfl,by go_num,by omega,cM,by rw[ac.out.1];exact cO.out.1,by rw[ac.out.1];exact cO.out.2⟩
      case measure=>simp[intOf];omega
    ·have a1:t=N:=by omega
     have df:¬(t:Int)<N:=by omega
     have ah:=HY.out.2.2.1;rw[a1,HN.out] at ah;have bd:U∈cn:=by rw[ah];exact(oJ G HH.out.1 U).2 HH.out.1
     have dn:0<cn.length:=List.length_pos_of_mem bd
     have cP:∀u∈cn,SeqOk P u/\u.length<=100:=λu hu=>by
      have h1:=HY.out.2.2.2.sub u hu;have:=G.sub_len h1;exact⟨qX G h1,by omega⟩
     have dY:w.heap.size<T.heap.size:=by
      have:=c3.out;have:=(grown_trans Z aQ).size;omega
     have cQ:v11.ownBlock≠some w.heap.size:=λe=>by have:=(a6 _ e).2.1;omega
     have cR:PresP (λk=>v11.ownBlock≠some k) wr (.pointer (some ⟨pb,po,none⟩)) P:=hp.mono (λk _ A=>⟨λe=>by have:=(a6 _ e).2.1;omega,Nat.lt_of_lt_of_le A (grown_trans aC g).size,(grown_trans aC g).block k A (by simp)⟩);have be:=A4 P hP wr v11 cn _ T.heap.size w.heap.size pb po hO dn (by omega) cP (HB.out wr g) cQ cR
     obtain ⟨dZ,Ej,Ek,hlv⟩:∃a n c,v11=.slice a n c:=by
      obtain⟨a,c,h,_⟩:=SlD.shape (hO.o.toD (by omega));exact⟨_,_,_,h⟩
     subst hlv;have dp:=Lib.hid ah;clear ah bd cP cR cQ hO hM;clear a1;go_wp2_with fail
     refine Calls.mono be ?_;rintro eZ wZ ⟨rfl,L',cS,jU,lF,cT⟩;clear be;have cU:gR P pr L':=Ay G HH.out.1 (by rw[<-dp.out];exact jU) lF;have cV:Ext w wZ:=grown_own (grown_trans aC g) cT (λb hb A=>by have:=(a6 b hb).2.1;omega);have HF:=Lib.hid (And.intro cU (cS.o.weak (show w.heap.size<=T.heap.size by omega)));clear cU cS jU lF cT;go_wp2;go_ret;exact⟨_,rfl,cV,L',HF.out.1,HF.out.2⟩
section
variable {P:Pr}
theorem uV (G:Grp P) (pr:List Int):∃u,gQ P pr u:=by
 obtain⟨A,SA,b⟩:=tP G (λq=>q∈pr);have S:=qD SA;refine⟨cseq P (jE A),G.subB_cseq S,?_⟩;rw[kB (G:=G) S,qE,iZ SA,kC G,Int.natCast_inj];exact fC _ _ (λk _ hk=>(b k).trans ⟨λa=>a.2,λa=>⟨by omega,a⟩⟩)
theorem gR.pos (G:Grp P) {pr:List Int}{L:List (List (List Int))}(h:gR P pr L):0<L.length:=by
 obtain⟨u,a⟩:=uV G pr;exact List.length_pos_of_mem ((h.2 u).2 a)
end
open Classical in
noncomputable def q7 (P:Pr) (pr:List Int):List (List (List Int)):=if h:ew P pr=0/\∃L,gR P pr L then Classical.choose h.2 else []
theorem oP {P:Pr}{pr:List Int}{L:List (List (List Int))}(h:ew P pr=0) (a:gR P pr L):q7 P pr=L:=by
 have hx:ew P pr=0/\∃L,gR P pr L:=⟨h,L,a⟩;unfold q7;rw[dif_pos hx];exact gR.one (Classical.choose_spec hx.2) a
noncomputable def gJ (P:Pr) (pr:List Int):List (List Int):=gt (q7 P pr) 0
def inTo (E:List (List Int)) (K:List Int->Prop) (k:Nat) (x:List Int):Prop:=x∈E.take k/\K x
theorem inTo_succ {E:List (List Int)}{K:List Int->Prop}{k:Nat}(hk:k<E.length) (a:K (gt E k)):(λx=>inTo E K k x\/x∈[gt E k])=inTo E K (k+1):=by
 funext x
 unfold inTo;rw[take_succ_gt E k hk];simp only[List.mem_append,List.mem_singleton,eq_iff_iff];constructor
 ·rintro (⟨h1,h2⟩|h)
  ·exact⟨.inl h1,h2⟩
  ·exact⟨.inr h,by rw[h];exact a⟩
 ·rintro ⟨h|h,h2⟩
  ·exact .inl ⟨h,h2⟩
  ·exact .inr h
theorem inTo_skip {E:List (List Int)}{K:List Int->Prop}{k:Nat}(hk:k<E.length) (a:¬K (gt E k)):inTo E K (k+1)=inTo E K k:=by
 funext x
 unfold inTo;rw[take_succ_gt E k hk];simp only[List.mem_append,List.mem_singleton,eq_iff_iff];constructor
 ·rintro ⟨h|h,h2⟩
  ·exact⟨h,h2⟩
  ·exact absurd (by rw[<-h];exact h2) a
 ·rintro ⟨h,h2⟩
  exact⟨.inl h,h2⟩
theorem inTo_zero (E:List (List Int)) (K:List Int->Prop):inTo E K 0=λ_=>False:=by
 funext x;unfold inTo;simp
theorem inTo_all {P:Pr}{H K:List Int->Prop}(hP:Valid P) (S:Sub P H) (E:List (List Int)) (a:E=elemsIn P H):inTo E K E.length=λx=>H x/\K x:=by
 funext x
 unfold inTo;rw[List.take_length,a,elemsIn_mem hP S.vec]
theorem rows2One {S S':Nat->Prop}{w:World}{u:Value}{X:List Int}(h:Ints S w u X) (e:∀k,S k->k<w.heap.size->S' k) (g:S' w.heap.size):Rows2 S' (w.alloc (.cells #[u] 24)) (.slice (some ⟨w.heap.size,0,none⟩) 1 1) [X]:=by
 refine⟨_,1,rfl,⟨by simp,by simp,λh=>by cases h⟩,λi j => ?_⟩;have:i=0:=by simpa using j
 subst this;have b:Ext w (w.alloc (.cells #[u] 24)):=World.grownBy_alloc _ _ _;refine⟨w.heap.size,0,u,rfl,g,by simp,by rw[World.cell?_alloc_at _ _ _ _ rfl];rfl,?_⟩;exact Ints.mono h (λk hk a=>⟨e k hk a,Nat.lt_of_lt_of_le a b.size,b.block k a (by simp)⟩)
theorem meet_ok (P:Pr) (G:Grp P) (w:World) (p uv vv:Value) (H K:List Int->Prop) (Y Su Sv:Nat->Prop) (S:Sub P H) (R:Sub P K) (A:PresP Y w p P) (hu:Rows2 Su w uv (cseq P H)) (hv:Rows2 Sv w vv (cseq P K)) :
  Calls Tryz.prog 174 #[p,uv,vv] w (Ret w λw' v=>RowsO w.heap.size w' v (cseq P (λx=>H x/\K x))):=by
 have hP:=G.v;have aC:=hP.n6;obtain⟨pb,po,rfl⟩:=A.shape;have a3:=G.cseq_len S;have a4:=G.cseq_len R;have aa:=(G.seq_facts S).1;have ab:=(G.seq_facts R).1;obtain⟨au,B,rfl,_,_⟩:=Sl.shape hu;obtain⟨av,C,rfl,_,_⟩:=Sl.shape hv
 have l:∃(M N:List Int->Prop) (u1 v1:Value),Sub P M/\Sub P N/\Rows2 Any w u1 (cseq P M)/\Rows2 Any w v1 (cseq P N)/\(λx=>M x/\N x)=(λx=>H x/\K x) /\
   ((prodU P (cseq P K) (cseq P K).length<prodU P (cseq P H) (cseq P H).length/\u1=.slice av (cseq P K).length C/\v1=.slice au (cseq P H).length B) \/
    (¬prodU P (cseq P K) (cseq P K).length<prodU P (cseq P H) (cseq P H).length/\u1=.slice au (cseq P H).length B/\v1=.slice av (cseq P K).length C)):=by
  have ac:=Rows2.sub hu (S':=Any) (λ_ _ _=>trivial);have ad:=Rows2.sub hv (S':=Any) (λ_ _ _=>trivial);by_cases h:prodU P (cseq P K) (cseq P K).length<prodU P (cseq P H) (cseq P H).length
  ·exact⟨K,H,_,_,R,S,ad,ac,funext λx=>propext ⟨λh=>⟨h.2,h.1⟩,λh=>⟨h.2,h.1⟩⟩,.inl ⟨h,rfl,rfl⟩⟩
  ·exact⟨H,K,_,_,S,R,ac,ad,rfl,.inr ⟨h,rfl,rfl⟩⟩
 obtain⟨M,N,u1,v1,O,R1,aD,aE,af,l⟩:=l;have aS:=G.cseq_len O;have hE:=G.els_sorted O;have ag:=(G.seq_facts O).1;have HX:=Lib.hid (And.intro aa (And.intro ab (And.intro af (And.intro hE ag))));clear aa ab af hE ag;obtain⟨E,Q⟩:∃E,E=elemsIn P M:=⟨_,rfl⟩;have a5:E.length<=729:=by rw[Q];exact elemsIn_len hP M
 have HE:=Lib.hid Q;clear Q;go_enter Tryz.func174,Tryz.ntmps174;go_wp2_with fail
 refine Calls.mono (sizeOf_ok P hP w _ _ (cseq P H) Y Su A hu HX.out.1 (by omega)) ?_;rintro eA wA ⟨vA,rfl,T,rfl⟩;go_wp2_with fail
 refine Calls.mono (sizeOf_ok P hP wA _ _ (cseq P K) Y Sv (A.ext T) (Rows2.ext hv T) HX.out.2.1 (by omega)) ?_;rintro eB wB ⟨vB,rfl,hgB,rfl⟩;have U:=grown_trans T hgB;obtain⟨m1,ai⟩:∃m1,m1=prodU P (cseq P H) (cseq P H).length:=⟨_,rfl⟩;obtain⟨m2,hm2⟩:∃m2,m2=prodU P (cseq P K) (cseq P K).length:=⟨_,rfl⟩;rw[<-ai,<-hm2] at l ⊢;clear ai hm2 hu hv;rcases l with⟨hc,rfl,rfl⟩|⟨hc,rfl,rfl⟩
 all_goals
  go_wp2_with fail
  clear hc;refine Calls.mono (newSequence_ok P wB _ Y (λ_=>False) (A.ext U) aC) ?_;rintro e1 w1 ⟨v1,rfl,hg1,sb,gb,rfl,m⟩;have a7:=m.tab.lt;have a8:=m.sB;have a9:=m.slt;have n:=grown_trans U hg1;go_wp2_with fail
  refine Calls.mono (elementsOf_ok P G w1 _ _ (cseq P M) Y Any (A.ext n) (Rows2.ext aD n) HX.out.2.2.2.2 (by omega)) ?_;rintro e2 w2 ⟨v2,rfl,hg2,hO⟩;rw[HX.out.2.2.2.1,<-HE.out] at hO;have aj:=grown_trans n hg2;have i:=RowsD.rows (SlO.toD hO (by omega));obtain⟨ae,q,q8,_,_⟩:=Sl.shape i;subst q8;have D:Rows2 (λj=>w1.heap.size<=j) w2 (.slice ae E.length q) E:=i;have ak:=m.ext hg2;have ba:=U.size;clear hO i m;go_wp2;go_loopw [25] (λiv wr=>∃(k:Nat) (b:List (List Int)),iv=.int .i64 k/\k<=E.length/\Ext w wr/\SeqAt wB.heap.size (λ_=>False) wr sb gb (.pointer (some ⟨pb,po,none⟩)) P.orders.length b/\Rows2 (λj=>w1.heap.size<=j) wr (.slice ae E.length q) E/\Hid (Ind P (genP P (inTo E N k)) (gt b))) (λiv _=>E.length-(intOf iv).toNat)
  case atStart=>exact⟨0,_,rfl,by omega,aj,ak,D,Lib.hid (by rw[inTo_zero,G.genP_none];exact G.ind_one)⟩
  case round=>
   clear ak D;obtain⟨k,b,rfl,hk,Z,m,i,hI⟩:=hrel;by_cases a:k<E.length
   ·have aX:(k:Int)<E.length:=by omega
    obtain⟨bb,off,a2,F,rfl,_,_,hc,hr⟩:=Rows2.at i k a;have al:Vec P.orders (gt E k):=O.vec _ ((elemsIn_mem hP O.vec _).1 (by rw[<-HE.out];exact gtMem a));have am:=Lib.hid al;clear al;go_wp2_with fail
    clear hc;refine Calls.mono (isMember_ok P G wr _ _ _ N (gt E k) Y Any _ R1 (A.ext Z) (Rows2.ext aE Z) hr am.out) ?_;rintro e3 w3 ⟨v3,rfl,g,r,rfl,z⟩;have I:=grown_trans Z g;cases r with
    | false=>
     have V:Hid (Ind P (genP P (inTo E N (k+1))) (gt b)):=Lib.hid (by rw[inTo_skip a (λh=>by have:=z.2 h;cases this)];exact hI.out);have aI:=m.ext g;have an:=Rows2.ext i g;clear z;go_wp2;go_roundw
     case rel=>exact⟨k+1,b,by go_num,by omega,I,aI,an,V⟩
     case measure=>simp[intOf];omega
    | true=>
     have ao:=inTo_succ a (z.1 rfl);have aJ:=Lib.hid ao;clear ao z;have u:Ext w3 (w3.alloc (.cells #[.slice a2 (gt E k).length F] 24)):=World.grownBy_alloc _ _ _;have aZ:=g.size;have bd:=m.slt;have be:=m.tab.lt;have J:=rows2One (S':=λj=>¬(j=gb\/j=sb)) (Ints.ext hr g) (λj W a=>by omega) (by omega);have y:=grown_trans I u;have L:=add_ok P G (w3.alloc (.cells #[.slice a2 (gt E k).length F] 24)) sb gb wB.heap.size _ _ [gt E k] b _ (A.mono (λj _ W=>⟨by omega,Nat.lt_of_lt_of_le W y.size,y.block j W (by simp)⟩)) ((m.ext g).ext u) hI.out (λx hx=>by rw[List.mem_singleton.1 hx];exact am.out) J (by simp);have HA:=Lib.hid L;clear L;go_wp2_with fail
     refine Calls.mono HA.out ?_;rintro e4 w4 ⟨b4,g4,rfl,X,hs4,q9,_,_⟩;rw[genP_or,aJ.out] at q9;have ap:Ext w w4:=grown_own y X (λj W a=>by cases W;omega);have aq:Rows2 (λj=>w1.heap.size<=j) w4 (.slice (some ⟨bb,off,none⟩) E.length q) E:=Rows2.mono i (λj W a=>⟨W,Nat.lt_of_lt_of_le a (Nat.le_trans g.size (Nat.le_trans u.size X.size)),(X.block j (Nat.lt_of_lt_of_le a (Nat.le_trans g.size u.size)) (λe=>by cases e;omega)).trans ((u.block j (Nat.lt_of_lt_of_le a g.size) (by simp)).trans (g.block j a (by simp)))⟩);have aK:=Lib.hid q9;clear q9 HA J;go_wp2;go_roundw
     case rel=>exact⟨k+1,b4,by go_num,by omega,ap,hs4,aq,aK⟩
     case measure=>simp[intOf];omega
   ·have ar:k=E.length:=by omega
    have V:Hid (Ind P (λx=>H x/\K x) (gt b)):=Lib.hid (by
     have h:=hI.out;rw[ar,inTo_all hP O E HE.out,genP_self (O.and R1),HX.out.2.2.1] at h;exact h)
    subst ar;clear hI;go_wp2_with fail
    refine Calls.mono (canonical_ok P G wr sb gb wB.heap.size _ b _ _ _ (A.ext Z) m V.out) ?_;rintro e5 w5 ⟨v5,rfl,fR,jG⟩;go_wp2;go_ret;exact⟨_,rfl,grown_trans Z fR,jG.weak Z.size⟩
theorem Bx {B:Nat}{w:World}{p:Value}{L:List (List (List Int))}(h:SlO (λF w u (x:List (List Int))=>RowsD F w u x) 25 B w p L) (q:0<L.length) :
  ∃g c i j,p=.slice (some ⟨g,0,none⟩) L.length c/\w.cell? ⟨g,0,none⟩=some (.slice i (gt L 0).length j)/\RowsD (From B) w (.slice i (gt L 0).length j) (gt L 0):=by
 obtain⟨y,Gb,b,e,l,hd,hE⟩:=h;rcases e.form with⟨r,e2⟩|⟨g,cp,r,_⟩
 ·have:L.length=0:=by rw[<-b,e2];rfl
  omega
 ·subst r
  have v:=e.cell 0 (by omega);have a:=hE 0 q;obtain⟨i,j,m,_,_⟩:=SlD.shape a;rw[m] at v a;refine⟨g,cp,i,j,by rw[b],v,rdRows.mono a (λk hk n=>⟨(l 0 k q hk).1,n,rfl⟩)⟩
theorem Bz {P:Pr}{pr:List Int}(h:ew P []=0) (a:gy pr):ew P pr=0:=by
 obtain⟨h1,_,h3⟩:=ji h;unfold ew;rw[if_pos h1,if_pos a,if_neg (by omega)]
section
variable {P:Pr}
theorem uW (G:Grp P):∀l:List (List (List Int)),(∀u∈l,SubB P u)->∃L:List (List (List Int)),L.Pairwise (subLt P)/\∀u,u∈L↔u∈l
 | [],_=>⟨[],List.Pairwise.nil,λ_=>Iff.rfl⟩
 | a :: l,h=>by
  obtain⟨L,hL,i⟩:=uW G l (λu b=>h u (List.mem_cons_of_mem _ b));by_cases ha:a∈L
  ·refine ⟨L,hL,λu=>(i u).trans ⟨λb=>List.mem_cons_of_mem _ b,λb => ?_⟩⟩
   rcases List.mem_cons.1 b with rfl|b
   ·exact(i _).1 ha
   ·exact b
  ·have k:=h a (List.mem_cons_self ..)
   have r:DecidablePred (λu=>subLt P u a):=λ_=>Classical.propDecidable _;have m:DecidablePred (λu=>subLt P a u):=λ_=>Classical.propDecidable _;refine⟨L.filter (λu=>decide (subLt P u a))++a :: L.filter (λu=>decide (subLt P a u)),?_,λu => ?_⟩
   ·refine List.pairwise_append.2 ⟨hL.filter _,List.pairwise_cons.2 ⟨λu b => ?_,hL.filter _⟩,λu b v n => ?_⟩
    ·exact of_decide_eq_true (List.mem_filter.1 b).2
    ·have h1:subLt P u a:=of_decide_eq_true (List.mem_filter.1 b).2
     rcases List.mem_cons.1 n with rfl|n
     ·exact h1
     ·exact subLt_trans h1 (of_decide_eq_true (List.mem_filter.1 n).2)
   ·rw [List.mem_append,List.mem_cons,List.mem_filter,List.mem_filter,List.mem_cons]
    constructor
    ·rintro (⟨h1,_⟩|rfl|⟨h1,_⟩)
     ·exact .inr ((i u).1 h1)
     ·exact .inl rfl
     ·exact .inr ((i u).1 h1)
    ·rintro (rfl|b)
     ·exact .inr (.inl rfl)
     ·have g:=(i u).2 b
      have p:=h u (List.mem_cons_of_mem _ b);have q:u≠a:=λe=>ha (by rw[<-e];exact g);by_cases j:subLt P u a
      ·exact .inl ⟨g,decide_eq_true j⟩
      ·exact .inr (.inr ⟨g,decide_eq_true (subLt_total G p k q j)⟩)
theorem uX (G:Grp P) (pr:List Int):∃L,gR P pr L:=by
 obtain⟨u,a⟩:=uV G pr;obtain⟨L,h1,b⟩:=uW G (fO P u (ordP P).toNat) (λv e=>((oJ G a v).1 e).1);exact⟨L,h1,λv=>(b v).trans (oJ G a v)⟩
theorem oQ {pr:List Int}(h:ew P pr=0):SubB P (gJ P pr):=by
 have G:=grp_of_r (ji h).1;obtain⟨L,a⟩:=uX G pr;unfold gJ;rw[oP h a];exact((a.2 _).1 (gt_mem (a.pos G))).1
end
theorem BA {pr:List Int}(h1:∀q∈pr,q=2\/q=3\/q=5\/q=7) (b:pr.Pairwise (· < ·)):gy pr:=λi a=>by
 refine⟨?_,λk => ?_⟩
 ·have g:=h1 _ (gt_mem a)
  rcases g with e|e|e|e<;>rw[e]<;>decide
 ·have j:=List.pairwise_iff_getElem.1 b (i-1) i (by omega) a (by omega)
  rw[gt_eq pr (i-1) (by omega),gt_eq pr i a];exact j
def fA (P:Pr) (i:Nat):List Int:=(dr (ordP P)).take i++(dr (ordP P)).drop (i+1)
theorem rj (P:Pr) (i:Nat):(fA P i).Sublist (dr (ordP P)):=by
 have h:=List.Sublist.append (List.Sublist.refl ((dr (ordP P)).take i)) (List.drop_sublist 1 ((dr (ordP P)).drop i));rw[List.take_append_drop,List.drop_drop] at h;exact h
theorem uY (P:Pr) (i:Nat):gy (fA P i):=
 BA (λ_ a=>(Ac ((rj P i).subset a)).1) ((ux _).sublist (rj P i))
theorem mJ {P:Pr}(h:ew P []=0) (i:Nat):ew P (fA P i)=0:=Bz h (uY P i)
theorem uZ (P:Pr) (i:Nat):(fA P i).length<=4:=Nat.le_trans (rj P i).length_le (kE _)
noncomputable def fc (P:Pr) (k:Nat):List (List (List Int)):=(List.range k).map (λi=>gJ P (fA P i))
theorem u5 (P:Pr) (k:Nat):fc P (k+1)=fc P k++[gJ P (fA P k)]:=by unfold fc;rw[List.range_succ,List.map_append];rfl
theorem mK (P:Pr) (k:Nat):(fc P k).length=k:=by unfold fc;simp
theorem u6 (P:Pr) {k j:Nat}(h:j<k):gt (fc P k) j=gJ P (fA P j):=by
 rw[gt_eq _ j (by rw[mK];exact h)];unfold fc;simp
def ez (P:Pr) (i:Nat):Nat->List Int->Prop
 | 0=>Vec P.orders
 | j+1=>if j=i then ez P i j else λx=>ez P i j x/\gP P (gJ P (fA P j)) x
theorem mL {P:Pr}(h:ew P []=0) (i:Nat):∀j,Sub P (ez P i j)
 | 0=>(grp_of_r (ji h).1).sub_all
 | j+1=>by
  have G:=grp_of_r (ji h).1;unfold ez;by_cases e:j=i
  ·rw[if_pos e];exact mL h i j
  ·rw[if_neg e];exact(mL h i j).and (G.subB (oQ (mJ h j)))
noncomputable def fS (P:Pr) (k:Nat):List (List (List Int)):=(List.range k).map (λi=>cseq P (ez P i (dr (ordP P)).length))
theorem u7 (P:Pr) (k:Nat):fS P (k+1)=fS P k++[cseq P (ez P k (dr (ordP P)).length)]:=by unfold fS;rw[List.range_succ,List.map_append];rfl
theorem lI (P:Pr) (k:Nat):(fS P k).length=k:=by unfold fS;simp
noncomputable def dP (P:Pr):List (List (List Int)):=if ew P []=0 then fS P (dr (ordP P)).length else []
theorem rq {P:Pr}(h:ew P []≠0):dP P=[]:=by unfold dP;rw[if_neg h]
theorem mM {P:Pr}(h:ew P []=0):dP P=fS P (dr (ordP P)).length:=by unfold dP;rw[if_pos h]
theorem ru (P:Pr):(dP P).length<=4/\∀u∈dP P,u.length<=6/\∀x∈u,x.length<=6:=by
 by_cases h:ew P []=0
 ·have G:=grp_of_r (ji h).1
  rw[mM h];refine⟨by rw[lI];exact kE _,λu b => ?_⟩;unfold fS at b;obtain⟨i,_,rfl⟩:=List.mem_map.1 b;have a:=mL h i (dr (ordP P)).length;have h1:=G.cseq_len a;have e:=(G.seq_facts a).2.1;have:=G.v.n6;exact⟨by omega,λx hx=>by rw[(a.vec x (e x hx)).1];omega⟩
 ·rw[rq h];exact⟨by decide,λx hx=>by cases hx⟩
theorem BB (P:Pr):(dP P).length<=17408:=by have:=(ru P).1;omega
noncomputable def prodSz (P:Pr) (H K:List Int->Prop):Int:=
 prodU P (cseq P H) (cseq P H).length*prodU P (cseq P K) (cseq P K).length/prodU P (cseq P (λx=>H x/\K x)) (cseq P (λx=>H x/\K x)).length
theorem productSize_ok (P:Pr) (G:Grp P) (w:World) (p M N:Value) (H K:List Int->Prop) (q z A:Nat->Prop) (S:Sub P H) (R:Sub P K) (r:PresP q w p P) (B:Rows2 z w M (cseq P H)) (C:Rows2 A w N (cseq P K)) :
  Calls Tryz.prog 172 #[p,M,N] w (Ret w λ_ v=>v=.int .i64 (prodSz P H K)):=by
 have hP:=G.v;have Q:=hP.n6;obtain⟨pb,po,rfl⟩:=r.shape;have T:=G.cseq_len S;have U:=G.cseq_len R;have V:=G.cseq_len (S.and R);have j:=(G.seq_facts S).1;have k:=(G.seq_facts R).1;have l:=(G.seq_facts (S.and R)).1;have D:=prodU_729 hP j _ (Nat.le_refl _);have E:=prodU_729 hP k _ (Nat.le_refl _);have F:=prodU_729 hP l _ (Nat.le_refl _);have u:prodSz P H K=prodU P (cseq P H) (cseq P H).length*prodU P (cseq P K) (cseq P K).length/prodU P (cseq P (λx=>H x/\K x)) (cseq P (λx=>H x/\K x)).length:=rfl;obtain⟨au,capu,rfl,_,_⟩:=Sl.shape B;obtain⟨av,capv,rfl,_,_⟩:=Sl.shape C;obtain⟨a,ha⟩:∃a,a=prodU P (cseq P H) (cseq P H).length:=⟨_,rfl⟩;obtain⟨b,I⟩:∃b,b=prodU P (cseq P K) (cseq P K).length:=⟨_,rfl⟩;obtain⟨c,J⟩:∃c,c=prodU P (cseq P (λx=>H x/\K x)) (cseq P (λx=>H x/\K x)).length:=⟨_,rfl⟩;rw[<-ha] at D u;rw[<-I] at E u;rw[<-J] at F u;have e:0<=a*b:=Int.mul_nonneg (by omega) (by omega);have O:a*b<=729*729:=Int.mul_le_mul (by omega) (by omega) (by omega) (by omega);have W:0<=a*b/c:=Int.ediv_nonneg e (by omega);have X:a*b/c<=a*b:=Int.ediv_le_self _ e;have e1:IntKind.i64.wrap (a*b)=a*b:=IntWalk.i64_in _ (by omega);have e2:(a*b).tdiv c=a*b/c:=Int.tdiv_eq_ediv_of_nonneg e;have e3:IntKind.i64.wrap (a*b/c)=a*b/c:=IntWalk.i64_in _ (by omega);have Y:(c == 0)=false:=by simp;omega
 have m:=Lib.hid (And.intro j (And.intro k (And.intro l (And.intro u (And.intro ha (And.intro I J))))));clear j k l u ha I J;go_enter Tryz.func172,Tryz.ntmps172;go_wp2_with fail
 refine Calls.mono (sizeOf_ok P hP w _ _ (cseq P H) q z r B m.out.1 (by omega)) ?_;rintro eA Z ⟨vA,rfl,n,rfl⟩;rw[<-m.out.2.2.2.2.1];go_wp2_with fail
 refine Calls.mono (sizeOf_ok P hP Z _ _ (cseq P K) q A (r.ext n) (Rows2.ext C n) m.out.2.1 (by omega)) ?_;rintro eB wB ⟨vB,rfl,hgB,rfl⟩;rw[<-m.out.2.2.2.2.2.1];have g:=grown_trans n hgB;go_wp2_with fail
 refine Calls.mono (meet_ok P G wB _ _ _ H K q z A S R (r.ext g) (Rows2.ext B g) (Rows2.ext C g)) ?_;rintro eC wC ⟨vC,rfl,gN,L⟩;have i:=grown_trans g gN;have y:=RowsD.rows (SlO.toD L (by omega));obtain⟨am,capm,BC,_,_⟩:=Sl.shape y;subst BC;go_wp2_with fail
 refine Calls.mono (sizeOf_ok P hP wC _ _ (cseq P (λx=>H x/\K x)) q _ (r.ext i) y m.out.2.2.1 (by omega)) ?_;rintro eD wD ⟨vD,rfl,mN,rfl⟩;rw[<-m.out.2.2.2.2.2.2];go_wp2;go_ret;exact⟨_,rfl,grown_trans i mN,by rw[m.out.2.2.2.1];rfl⟩
def oU (P:Pr) (u:List (List Int)):Int:=prodU P u u.length
noncomputable def iH (P:Pr) (u v:List (List Int)):Int:=oU P (cseq P (genP P (λx=>x∈u++v)))
theorem vg (P:Pr) (u v:List (List Int)):iH P u v=iH P v u:=by
 unfold iH;have e:(λx=>x∈u++v)=(λx=>x∈v++u):=funext λx=>propext (by rw[List.mem_append,List.mem_append];exact Or.comm);rw[e]
def kI (P:Pr) (a:List (List (List Int))):Prop:=
 a.length=(dr (ordP P)).length/\(∀i,i<a.length->oU P (gt a i)=dU P [gt (dr (ordP P)) i])/\(∀i j,j<i->i<a.length->iH P (gt a j) (gt a i)=oU P (gt a j)*oU P (gt a i))
open Classical in
noncomputable def oT (P:Pr) (a:List (List (List Int))):Int:=if rconsB P=true/\∀u∈a,SubB P u then 0 else 1
open Classical in
noncomputable def jY (P:Pr) (a:List (List (List Int))):Bool:=if (rconsB P=true/\∀u∈a,SubB P u)/\kI P a then true else false
theorem oV {P:Pr}{a:List (List (List Int))}(h:rconsB P=true/\∀u∈a,SubB P u):oT P a=0:=if_pos h
theorem BD {P:Pr}{a:List (List (List Int))}(h:¬(rconsB P=true/\∀u∈a,SubB P u)):oT P a=1:=if_neg h
theorem ry {P:Pr}{a:List (List (List Int))}(h:rconsB P=true/\∀u∈a,SubB P u) (b:kI P a):jY P a=true:=if_pos ⟨h,b⟩
theorem rz {P:Pr}{a:List (List (List Int))}(b:¬((rconsB P=true/\∀u∈a,SubB P u)/\kI P a)):jY P a=false:=if_neg b
section
variable {P:Pr}
theorem vk:∀f d,dg P (λ_=>False) f d=1
 | 0,_=>rfl
 | f+1,d=>by unfold dg;rw[if_neg (λh=>h),vk f (d+1)]
theorem BF (G:Grp P) {u v:List (List Int)}(a:SubB P u) (b:SubB P v) {p q:Int}(h1:oU P u=dU P [p]) (j:oU P v=dU P [q]) (g:p≠q):prodSz P (gP P u) (gP P v)=oU P u*oU P v:=by
 have S:=G.subB a;have R:=G.subB b;have i:=S.and R;have k:=(jS G a [p]).1 h1;have l:=(jS G b [q]).1 j
 have m:prodU P (cseq P (λx=>gP P u x/\gP P v x)) (cseq P (λx=>gP P u x/\gP P v x)).length=1:=by
  rw[kB (G:=G) i,iZ (jF i)]
  have e:dg P (pv (ey G (λx=>gP P u x/\gP P v x))) P.orders.length 0=dg P (λ_=>False) P.orders.length 0:=fC _ _ (λd _ _=>⟨λh=>by
   have a1:fW G u d:=gL (λx hx=>hx.1) h;have a2:fW G v d:=gL (λx hx=>hx.2) h;have b1:=((k d).1 a1).2;have b2:=((l d).1 a2).2;simp only[List.mem_singleton] at b1 b2;exact g (b1.symm.trans b2),λh=>h.elim⟩)
  rw[e,vk];rfl
 unfold prodSz;rw[m];have n:cseq P (gP P u)=u:=a.2.symm;have r:cseq P (gP P v)=v:=b.2.symm;rw[n,r,Int.ediv_one];rfl
end
end Go.Proofs.YtdcobapnlpeaaaaGreat
namespace Go.Proofs.YtdcobapnlpeaaaaGreat
open Go.Proofs Go.Shelf Go.RowKit Go.Lib
def Tryz.vn_ren : Go.Shelf.Ren := ⟨fun | 4 => 253 | n => n, fun | 22 => 25 | 25 => 24 | 3 => 3 | 4 => 4 | 9 => 9 | 20 => 20 | 0 => 0 | n => n, fun | n => n⟩
theorem Tryz.vn : Go.Proofs.Lays8.n4 Tryz.prog Tryz.vn_ren := {
  mixed := by kernel_rfl
  f4 := ⟨Tryz.f253.name, by decide, Tryz.func253.trans (congrArg some (by kernel_rfl))⟩
  t0 := Tryz.underlying0
  a0 := Tryz.isAgg0
  z0 := Tryz.sizeOf0
  v0 := Tryz.zeroValue0
  t3 := Tryz.underlying3
  a3 := Tryz.isAgg3
  z3 := Tryz.sizeOf3
  v3 := Tryz.zeroValue3
  t4 := Tryz.underlying4
  a4 := Tryz.isAgg4
  z4 := Tryz.sizeOf4
  v4 := Tryz.zeroValue4
  t9 := Tryz.underlying9
  a9 := Tryz.isAgg9
  z9 := Tryz.sizeOf9
  v9 := Tryz.zeroValue9
  t20 := Tryz.underlying20
  a20 := Tryz.isAgg20
  z20 := Tryz.sizeOf20
  v20 := Tryz.zeroValue20
  t22 := Tryz.underlying25
  a22 := Tryz.isAgg25
  z22 := Tryz.sizeOf25
  v22 := Tryz.zeroValue25 }
theorem BG (n:Nat) (u:n<=1000000) (w:World):Calls Tryz.prog 253 #[.slice none 0 0,.int .i64 n] w (Ret w λw' v=>OwnV w.heap.size 24 w' v []):=by
 rcases Nat.eq_zero_or_pos n with rfl|y
 ·have h:=Any8.slices_Grow_room Tryz.vn none 0 0 0 w (by omega) (by omega) (by omega) (by omega)
  change Calls Tryz.prog 253 _ _ _ at h;refine h.mono ?_;rintro e w' ⟨rfl,rfl⟩;exact⟨_,rfl,Ext.refl _,World.ownsRow_nil _ _ _ _⟩
 ·obtain ⟨p,q,g,i,j⟩:=info_parts Tryz.infoRow
  have b:0+n<=maxLen:=by unfold maxLen;omega
  have h:=Any8.slices_Grow_grow Tryz.vn p (.slice none 0 0) q g (by rw[i];decide) none 0 0 n [] w (by omega) (by omega) (by rw[j];omega) (by omega) (by simp) (λ_=>rfl) (λa ha=>by cases ha);change Calls Tryz.prog 253 _ _ _ at h;refine h.mono ?_;rintro e w' ⟨rfl,rfl⟩;have k:=grownCap_ge w (0+n) 0 24;have l:=grownCap_le_maxLen w (0+n) 0 24 b;refine⟨_,rfl,grown_trans (grown_drew w none) (World.grownBy_alloc _ _ _),rfl,.inr ⟨w.heap.size,_,_,rfl,Nat.le_refl _,Array.getElem?_push_size (xs:=w.heap),Nat.zero_le _,l,?_,by simp⟩⟩;simp only[Array.size_append,size_zeroCells,List.size_toArray,List.length_nil];have r:(Value.cells (.slice none 0 0)).size=1:=rfl;have m:0+n<=grownCap w (0+n) 0 24:=k;rw[r];show 0+(0+n-0)*1+(grownCap w (0+n) 0 24-(0+n))*1=grownCap w (0+n) 0 24*1
  omega
end Go.Proofs.YtdcobapnlpeaaaaGreat
namespace Go.Proofs.YtdcobapnlpeaaaaGreat
open Go.RowKit
def fK (a:List (List (List Int))):Nat->List (List Int)
 | 0=>[]
 | k+1=>fK a k++gt a k
theorem BH (a:List (List (List Int))) (b:Nat) (h:∀u∈a,u.length<=b) (k:Nat) (hk:k<=a.length):(fK a k).length<=b*k:=by
 induction k with
 | zero=>simp[fK]
 | succ k e=>
  have h1:=e (by omega);have g:=h _ (gt_mem (l:=a) (i:=k) (by omega));simp only[fK,List.length_append,Nat.mul_succ];omega
theorem BI (w:World) (lv:Value) (a:List (List (List Int))) (Sr:Nat->Prop) (W:Rows3 Sr w lv a) (X:∀u∈a,u.length<=1000) (hn:a.length<=100) :
  Calls Tryz.prog 175 #[lv] w (Ret w λw' v=>Rows2 Any w' v (fK a a.length)):=by
 obtain⟨al,capl,rfl,_,_⟩:=Sl.shape W;have M:∀k,k<=a.length->(fK a k).length<=100000:=λk hk=>by have:=BH a 1000 X k hk;omega
 have N:=Lib.hid (And.intro M X);clear M X;go_enter Tryz.func175,Tryz.ntmps175;go_wp2;go_loopw [3,11] (λsv G wr=>∃k:Nat,sv=.int .i64 ((fK a k).length:Nat)/\G=.int .i64 k/\k<=a.length/\w=wr) (λ_ G _=>a.length-(intOf G).toNat)
 case atStart=>exact⟨0,rfl,rfl,by omega,rfl⟩
 case round=>
  obtain⟨k,rfl,rfl,hk,rfl⟩:=hrel;have A:=N.out.1 k hk;by_cases p:k<a.length
  ·have O:(k:Int)<a.length:=by omega
   obtain⟨b,off,a2,r,rfl,_,_,U,V⟩:=Rows3.at W k p;have P:=N.out.1 (k+1) p;have B:(fK a (k+1)).length=(fK a k).length+(gt a k).length:=by simp only[fK,List.length_append]
   obtain⟨m,J⟩:∃m,m=(fK a k).length:=⟨_,rfl⟩;obtain⟨K,H⟩:∃K,K=(gt a k).length:=⟨_,rfl⟩;rw[<-J] at A B ⊢;rw[<-H] at U V B;have ai:m+K<=100000:=by omega
   have hw:IntKind.i64.wrap ((m:Int)+(K:Int))=((m+K:Nat):Int):=by rw[IntWalk.i64_in _ (by omega)];omega
   have aj:¬((m+K:Nat):Int)<0:=by omega
   have HS:=Lib.hid (And.intro B (And.intro J H));clear B J H P;go_wp2;go_roundw
   case rel=>exact⟨k+1,by rw[HS.out.1,Int.natCast_add],by go_num,by omega,trivial⟩
   case measure=>simp[intOf];omega
  ·have I:k=a.length:=by omega
   subst I;obtain⟨m,J⟩:∃m,m=(fK a a.length).length:=⟨_,rfl⟩;rw[<-J] at A ⊢;clear J;go_wp2_with fail
   refine Calls.mono (BG m (by omega) w) ?_;rintro e1 w1 ⟨v1,rfl,hg1,gi⟩;go_wp2;go_loopw [6,27] (λov G wr=>∃(k:Nat) (v4:Value) (l:List Value),v4=ov/\G=.int .i64 k/\k<=a.length/\Ext w wr/\OwnV w.heap.size 24 wr v4 l/\Hid (l.length=(fK a k).length/\∀i,i<l.length->Ints Any w (gt l i) (gt (fK a k) i))) (λ_ G _=>a.length-(intOf G).toNat)
   case atStart=>exact⟨0,v1,[],rfl,rfl,by omega,hg1,gi,Lib.hid ⟨rfl,λi C=>by simp at C⟩⟩
   case round=>
    clear gi;obtain⟨k,v4,l,rfl,rfl,hk,L,hO,q⟩:=hrel;by_cases p:k<a.length
    ·have O:(k:Int)<a.length:=by omega
     obtain⟨b,off,a2,r,rfl,_,_,U,V⟩:=Rows3.at W k p;have Y:=L.cell U (by simp);obtain⟨e,y,n⟩:=Sl.vals V
     have D:a2=none->r=0:=by
      obtain⟨a',cap',hv,hl',_⟩:=V;cases hv;exact hl'.2.2
     have Z:=N.out.2 _ (gt_mem p);have A:=N.out.1 k hk
     have z:∀j,j<(gt a k).length->∃b off,a2=some ⟨b,off,none⟩/\wr.cell? ⟨b,off+j,none⟩=some (gt e j):=λj Q=>by
      obtain⟨⟨b,off,h1,h2⟩,_⟩:=n j Q;exact⟨b,off,h1,L.cell h2 (by simp)⟩
     have E:∀u,u∈e->u.oneCell'=true:=λu hu=>by
      obtain⟨j,Q,rfl⟩:=List.getElem_of_mem hu;rw[<-gt_eq e j Q];exact rdInts.one (n j (by omega)).2
     have R:Hid ((l++e).length=(fK a (k+1)).length/\∀i,i<(l++e).length->Ints Any w (gt (l++e) i) (gt (fK a (k+1)) i)):=by
      refine Lib.hid ⟨by simp only[List.length_append,fK,q.out.1,y],λi C => ?_⟩;simp only[fK];by_cases h:i<l.length
      ·rw [gt_append_left _ _ _ h,gt_append_left _ _ _ (by rw[<-q.out.1];exact h)]
       exact q.out.2 i h
      ·have aa:i-l.length<(gt a k).length:=by simp only[List.length_append] at C;omega
       have e1:gt (l++e) i=gt e (i-l.length):=by
        simp only[gt,List.getD_eq_getElem?_getD];rw[List.getElem?_append_right (by omega)]
       have e2:gt (fK a k++gt a k) i=gt (gt a k) (i-l.length):=by
        rw[q.out.1];simp only[gt,List.getD_eq_getElem?_getD];rw[List.getElem?_append_right (by rw[<-q.out.1];omega)]
       rw[e1,e2];exact Ints.sub (n _ aa).2 (λ_ _ _=>trivial)
     have F:l.length+(gt a k).length<=2147483648:=by rw[q.out.1];omega
     have S:=Lib.hid (And.intro z (And.intro E (And.intro y (And.intro D F))));clear z E y n F D Z A U;go_wp2_with (first|(at_builtin;refine wp_app 25 24 (.slice none 0 0) 24 und_rows Tryz.infoRow rfl (by decide) rfl _ _ rfl w.heap.size v4 l rfl hO a2 (gt a k).length r e rfl S.out.2.2.1 S.out.2.2.2.1 S.out.1 S.out.2.1 S.out.2.2.2.2 L.size ?_;intro v5 w5 ab ac _ _;have T:=grown_own L ac (λj Q p=>by have:=(hO.lt j Q).1;omega))|fail)
     clear Y;go_roundw
     case rel=>exact⟨k+1,v5,_,rfl,by go_num,by omega,T,ab,R⟩
     case measure=>simp[intOf];omega
    ·have I:k=a.length:=by omega
     subst I
     have hR:Rows2 Any wr v4 (fK a a.length):=by
      have aq:=N.out.1 a.length (Nat.le_refl _);rcases hO.form with⟨rfl,rfl⟩|⟨g,cp,rfl,gC,hgB,hgs⟩
      ·have h0:fK a a.length=[]:=List.eq_nil_of_length_eq_zero q.out.1.symm
       rw[h0];exact⟨none,0,rfl,⟨by simp,by simp,λ_=>rfl⟩,λi C=>by simp at C⟩
      ·refine ⟨_,cp,by rw[q.out.1],⟨by rw[<-q.out.1];exact gC,by omega,λh=>by cases h⟩,λi C=>⟨g,0,gt l i,rfl,trivial,hgs,?_,?_⟩⟩
       ·rw[Nat.zero_add];exact hO.cell i (by rw[q.out.1];exact C)
       ·exact Ints.ext (q.out.2 i (by rw[q.out.1];exact C)) L
     obtain⟨az,capz,fk,_,_⟩:=Sl.shape hR;subst fk;clear q hO;go_wp2;go_ret;exact⟨_,rfl,L,hR⟩
theorem BJ (w:World) (a:Option Addr) (n cap:Nat) (l h:Int) (b:0<=l) (h1:l<=h) (e:h<=cap) :
  (Instr.slice 24 (.slice a n cap) (some (.int .i64 l)) (some (.int .i64 h)) none).run Tryz.prog w=.ok (subSl (.slice a n cap) l.toNat h.toNat) w:=by
 rw[run_slice_lh w 24 a n cap (by kernel_rfl) .i64 .i64 l h b h1 e];have:(sizeOf (Tryz.prog.elem 24)).run Tryz.prog w=.ok 1 w:=by kernel_rfl
 rw[this];simp[Result.andThen,sliced,subSl]
theorem BK (w:World) (a:Option Addr) (n cap:Nat) (k:Int) (b:0<=k) (h1:k<=cap) :
  (Instr.slice 26 (.slice a n cap) none (some (.int .i64 k)) none).run Tryz.prog w=.ok (.slice a k.toNat cap) w:=by
 rw[run_slice_h w 26 a n cap (by kernel_rfl) .i64 k b h1];have:(sizeOf (Tryz.prog.elem 26)).run Tryz.prog w=.ok 1 w:=by kernel_rfl
 rw[this];cases a with
 | none=>simp[Result.andThen,sliced]
 | some a=>simp[Result.andThen,sliced,Addr.add]
theorem BL {w:World}{v1 a:Value}{e g:List (List Int)}(h1:Rows2 Any w v1 e) (k:Rows2 Any w a g):Rows3 Any (w.alloc (.cells #[v1,a] 25)) (.slice (some ⟨w.heap.size,0,none⟩) 2 2) [e,g]:=by
 have j:Ext w (w.alloc (.cells #[v1,a] 25)):=World.grownBy_alloc _ _ _;refine⟨_,2,rfl,⟨by simp,by simp,λh=>by cases h⟩,λi l => ?_⟩;have b:i=0\/i=1:=by simp at l;omega
 rcases b with rfl|rfl
 ·exact⟨w.heap.size,0,v1,rfl,trivial,by simp,by rw[World.cell?_alloc_at _ _ _ _ rfl];rfl,Rows2.ext h1 j⟩
 ·exact⟨w.heap.size,0,a,rfl,trivial,by simp,by rw[World.cell?_alloc_at _ _ _ _ rfl];rfl,Rows2.ext k j⟩
theorem BM {P:Pr}(G:Grp P) {u:List (List Int)}(h:SubB P u):SeqOk P u:=by
 have:=(G.seq_facts (G.subB h)).1;rw[h.2];exact this
theorem oW (n:Int) {i j:Nat}(h:j<i) (a:i<(dr n).length):gt (dr n) i≠gt (dr n) j:=by
 have b:=List.pairwise_iff_getElem.1 (ux n) j i (by omega) a h;rw[gt_eq (dr n) i a,gt_eq (dr n) j (by omega)];omega
theorem vq (P:Pr) (w:World) (pv uv:Value) (e:List (List (List Int))) (Sp S:Nat->Prop) (bk:PresV Sp w pv P) (hu:Rows3 S w uv e) :
  Calls Tryz.prog 94 #[pv,uv] w (Ret w λ_ r=>r=.tuple #[.bool (jY P e),.int .i64 (oT P e)]):=by
 obtain⟨vo,vp,vc,rfl,h3⟩:=bk;have A:=PresP.box h3 28;have K:Ext w (w.alloc (.cells #[vo,vp,vc] 28)):=World.grownBy_alloc _ _ _;have ab:Rows3 Any (w.alloc (.cells #[vo,vp,vc] 28)) uv e:=Rows3.sub (Rows3.ext hu K) (λ_ _ _=>trivial);have aI:=areSubgroups_ok P _ _ uv e Any Any A ab;obtain⟨au,cu,rfl,bm,_⟩:=Sl.shape hu;go_enter Tryz.func94,Tryz.ntmps94;go_wp2_with fail
 generalize bn:w.alloc (.cells #[vo,vp,vc] 28)=w0 at *;clear bn;refine Calls.mono aI ?_;rintro e1 w1 ⟨v1,rfl,am,r,rfl,hr⟩;clear aI;have aJ:=grown_trans K am;cases r with
 | false=>
  have L:¬(rconsB P=true/\∀u∈e,SubB P u):=λh=>by have:=hr.2 h;cases this
  have E:=Lib.hid (And.intro (BD L) (rz (λh=>L h.1)));clear hr L;go_wp2;go_ret2
  exact⟨_,rfl,aJ,by rw[E.out.1,E.out.2];rfl⟩
 | true =>
  have O:=hr.1 rfl;clear hr;have G:=grp_of_r O.1;have bp:=kE (ordP P);have aK:=orderOf_ok w1 _ P Any G.v (A.ext am);have aL:=uz P G w1;have HY:=Lib.hid O;clear O;go_wp2_with fail
  refine Calls.mono aK ?_;rintro e1 w1 ⟨rfl,rfl⟩;go_wp2_with fail
  refine Calls.mono aL ?_;rintro e2 w2 ⟨v2,rfl,hg2,vd,ve,rfl,hD⟩;have an:=hD.ints (by omega);obtain⟨da,dc,rfl,br,_⟩:=an.shape;clear aK aL hD;obtain⟨n,hn⟩:∃n,n=(dr (ordP P)).length:=⟨_,rfl⟩;rw[<-hn] at bp an br ⊢;have HN:=Lib.hid hn;clear hn;obtain⟨m,hm⟩:∃m,m=e.length:=⟨_,rfl⟩;rw[<-hm] at ab bm ⊢;have HM:=Lib.hid hm;clear hm;have ag:=grown_trans am hg2;have aN:=grown_trans K ag;by_cases Q:m=n
  ·have aO:((m:Int) != (n:Int))=false:=by rw[Q];simp
   obtain⟨sz,ac⟩:∃sz,sz=oT P e:=⟨_,rfl⟩;have aP:=oV HY.out;have L:¬kI P e->jY P e=false:=λh=>rz (λhh=>h hh.2);have HZ:=Lib.hid (And.intro aP (And.intro L Q));clear aP L Q ac;go_wp2;go_loopw [27] (λiv wr=>∃(i:Nat),iv=.int .i64 (i:Int)/\i<=m/\Ext w2 wr/\Hid ((∀k,k<i->oU P (gt e k)=dU P [gt (dr (ordP P)) k])/\∀k j,j<k->k<i->iH P (gt e j) (gt e k)=oU P (gt e j)*oU P (gt e k))) (λiv _=>m-(intOf iv).toNat)
   case atStart=>exact⟨0,by go_num,Nat.zero_le _,Ext.refl _,Lib.hid ⟨λk hk=>by omega,λk j _ hk=>by omega⟩⟩
   case round=>
    obtain⟨i,rfl,hi,hg,hI⟩:=hrel;have M:=grown_trans ag hg;by_cases ao:i<m
    ·have bP:(i:Int)<(m:Int):=by omega
     have ap:i<e.length:=by rw[<-HM.out];exact ao
     have aq:i<(dr (ordP P)).length:=by rw[<-HN.out,<-HZ.out.2.2];exact ao
     have R:=HY.out.2 _ (gt_mem ap);obtain⟨bl,ol,a2,l,kJ,_,hbl,hcl,iI⟩:=Rows3.at ab i (by rw[<-HM.out];exact ao);subst kJ;have N:=M.cell hcl (by simp);have F:=Rows2.ext iI M;have aR:=G.sub_len R;have b0:=G.v.n6;have ar:=BM G R;obtain⟨i1,hi1⟩:∃i1:Int,i1=(i:Int)+1:=⟨_,rfl⟩;have bx:IntKind.i64.wrap ((i:Int)+1)=i1:=by rw[IntWalk.i64_in _ (by omega),hi1]
     have p:=subSl_ints an i (i+1) (by omega) (by omega)
     have av:∀w',(Instr.slice 24 (.slice da n dc) (some (.int .i64 (i:Int))) (some (.int .i64 i1)) none).run Tryz.prog w'=.ok (subSl (.slice da n dc) i (i+1)) w':=λw'=>by
      have h:=BJ w' da n dc (i:Int) i1 (by omega) (by omega) (by have:=HZ.out.2.2;omega);rw[show i1.toNat=i+1 by omega,Int.toNat_natCast] at h;exact h
     have e1:((dr (ordP P)).take (i+1)).drop i=[gt (dr (ordP P)) i]:=by
      rw[List.take_succ_eq_append_getElem aq,gt_eq _ i aq];rw[List.drop_append_of_le_length (by rw[List.length_take];omega)];rw[List.drop_of_length_le (by rw[List.length_take];omega)];rfl
     rw[e1] at p;obtain⟨sa,sc,aS,_,_⟩:=p.shape;rw[aS] at p av;obtain⟨X,hX⟩:∃X,X=gt e i:=⟨_,rfl⟩;obtain⟨q,hq⟩:∃q,q=gt (dr (ordP P)) i:=⟨_,rfl⟩;rw[<-hX] at N F aR ar R;rw[<-hq] at p av;obtain⟨a,ha⟩:∃a,a=oU P X:=⟨_,rfl⟩;obtain⟨b,hb⟩:∃b,b=dU P [q]:=⟨_,rfl⟩
     have ac:∀w',Ext wr w'->Calls Tryz.prog 139 #[.pointer (some ⟨w.heap.size,0,none⟩),.slice a2 X.length l] w' (Ret w' λ_ v=>v=.int .i64 a):=λw' h=>by
      rw[ha];exact sizeOf_ok P G.v w' _ _ X Any _ (A.ext (grown_trans M h)) (Rows2.ext F h) ar (by omega)
     have aT:∀w',Ext wr w'->Calls Tryz.prog 202 #[.pointer (some ⟨w.heap.size,0,none⟩),.slice sa [q].length sc] w' (Ret w' λ_ v=>v=.int .i64 b):=λw' h=>by
      rw[hb];exact uf P G.v [q] w' _ _ Any Any (A.ext (grown_trans M h)) (Ints.ext p (grown_trans hg h))
     have B:=Lib.hid (And.intro hX (And.intro hq (And.intro ha (And.intro hb (And.intro R F)))));clear hX hq ha hb R F iI hcl e1 aS p hi1 ar;have aU:∀w',Ext wr w'->w'.cell? ⟨bl,ol+i,none⟩=some (.slice a2 X.length l):=λw' h=>h.cell N (by simp);go_wp2
     go_region_held3 (λw'=>Ext wr w') (first|exact grown_drew _ _|exact Ext.refl _|assumption)
      (first
       | (go_at_call 139;refine Calls.mono (Calls.rel (w0:=wr) (by first|assumption|exact grown_drew _ _) (ac _ (by first|assumption|exact grown_drew _ _))) ?_;rintro e3 w3 ⟨v3,rfl,hg3,aV,rfl⟩)
       | (go_at_call 202;refine Calls.mono (Calls.rel (w0:=wr) (by first|assumption|exact grown_drew _ _) (aT _ (by first|assumption|exact grown_drew _ _))) ?_;rintro e4 w4 ⟨v4,rfl,ax,hs4,rfl⟩))
     clear aU ac aT av bx N;have T:=grown_trans M ax;have aW:=grown_trans hg ax;by_cases C:a=b
     ·have U:(a != b)=false:=by rw[C];simp
      have bB:Hid (∀k,k<i+1->oU P (gt e k)=dU P [gt (dr (ordP P)) k]):=Lib.hid (λk hk=>by
       rcases Nat.lt_succ_iff_lt_or_eq.1 hk with h|h
       ·exact hI.out.1 k h
       ·rw[h,<-B.out.1,<-B.out.2.1,<-B.out.2.2.1,<-B.out.2.2.2.1];exact C)
      have aV:∀w',(Instr.slice 26 (.slice (some ⟨bl,ol,none⟩) m cu) none (some (.int .i64 (i:Int))) none).run Tryz.prog w'=.ok (.slice (some ⟨bl,ol,none⟩) i cu) w':=λw'=>by
       have h:=BK w' (some ⟨bl,ol,none⟩) m cu (i:Int) (by omega) (by omega);rw[Int.toNat_natCast] at h;exact h
      have bQ:X.length<=6:=by omega
      have bC:=Lib.hid C;clear C aR;rw[U];clear U;go_wp2;clear aV;go_loopw [45] (λjv wr=>∃(j:Nat),jv=.int .i64 (j:Int)/\j<=i/\Ext w4 wr/\Hid (∀k,k<j->iH P (gt e k) X=oU P (gt e k)*oU P X)) (λjv _=>i-(intOf jv).toNat)
      case atStart=>exact⟨0,by go_num,Nat.zero_le _,Ext.refl _,Lib.hid (λk hk=>by omega)⟩
      case round=>
       obtain⟨j,rfl,hj,ad,hJ⟩:=hrel;by_cases V:j<i
       ·have bE:(j:Int)<(i:Int):=by omega
        have bF:j<e.length:=by omega
        have g:=HY.out.2 _ (gt_mem bF);have H:=grown_trans T ad;obtain⟨b4,Em,a3,I,BN,_,BO,vr,vw⟩:=Rows3.at ab j (by omega);cases BN
        have N:=H.cell vr (by simp);have J:=Rows2.ext vw H;have W:=Rows2.ext B.out.2.2.2.2.2 (grown_trans ax ad);obtain⟨Y,hY⟩:∃Y,Y=gt e j:=⟨_,rfl⟩;have ay:=hI.out.1 j V;rw[<-hY] at N J g ay;have y:=B.out.2.2.2.2.1;have bS:Y.length<=6:=by have:=G.sub_len g;omega
        have aX:oU P X=dU P [gt (dr (ordP P)) i]:=by rw[<-B.out.2.1,<-B.out.2.2.1,<-B.out.2.2.2.1];exact bC.out
        have aY:=oW (ordP P) V aq;have aZ:=BF G y g aX ay aY;have eX:cseq P (gP P X)=X:=y.2.symm;have eY:cseq P (gP P Y)=Y:=g.2.symm
        have ae:Calls Tryz.prog 172 #[.pointer (some ⟨w.heap.size,0,none⟩),.slice a2 X.length l,.slice a3 Y.length I] wr (Ret wr λ_ v=>v=.int .i64 (prodSz P (gP P X) (gP P Y))):=
         productSize_ok P G wr _ _ _ (gP P X) (gP P Y) Any Any Any (G.subB y) (G.subB g) (A.ext H) (by rw[eX];exact Rows2.sub W (λ_ _ _=>trivial)) (by rw[eY];exact Rows2.sub J (λ_ _ _=>trivial))
        rw[aZ] at ae;obtain⟨pz,Z⟩:∃pz,pz=oU P X*oU P Y:=⟨_,rfl⟩;rw[<-Z] at ae;have a1:Rows2 Any wr (.slice a2 X.length l) X:=Rows2.sub W (λ_ _ _=>trivial);have a4:Rows2 Any wr (.slice a3 Y.length I) Y:=Rows2.sub J (λ_ _ _=>trivial)
        have ai:∀x∈X++Y,Vec P.orders x:=λx hx=>by
         rcases List.mem_append.1 hx with h|h
         ·exact y.1 x h
         ·exact g.1 x h
        have HP:=Lib.hid (And.intro Z (And.intro hY (And.intro ai (And.intro y g))));clear Z aZ hY ai y g aX ay aY eX eY W J vw vr;go_wp2_with fail
        clear N;refine Calls.mono ae ?_;rintro e5 w5 ⟨v5,rfl,af,rfl⟩;clear ae;have az:Ext w5 (w5.alloc (.cells #[.slice a2 X.length l,.slice a3 Y.length I] 25)):=World.grownBy_alloc _ _ _
        have aA:=BI (w5.alloc (.cells #[.slice a2 X.length l,.slice a3 Y.length I] 25)) _ _ Any (BL (Rows2.ext a1 af) (Rows2.ext a4 af)) (λu hu=>by
         simp only[List.mem_cons,List.not_mem_nil,or_false] at hu;rcases hu with rfl|rfl<;>omega) (by simp)
        have a5:fK [X,Y] ([X,Y]:List (List (List Int))).length=X++Y:=by show([]++X)++Y=X++Y;rw[List.nil_append]
        rw[a5] at aA;have a6:=grown_trans (grown_trans H af) az;have HA:=Lib.hid az;clear az a5 a1 a4;go_wp2_with fail
        refine Calls.mono aA ?_;rintro e6 w6 ⟨v6,rfl,a7,aB⟩;clear aA;have aj:=grown_trans a6 a7;have ak:=generated_ok P G w6 _ v6 (X++Y) Any Any (A.ext aj) aB HP.out.2.2.1 (by rw[List.length_append];omega);obtain⟨ra,rc,a8,_,_⟩:=Sl.shape aB;obtain⟨rl,a9⟩:∃rl,rl=(X++Y).length:=⟨_,rfl⟩;rw[<-a9] at a8;subst a8;clear aB a9;go_wp2_with fail
        refine Calls.mono ak ?_;rintro e7 w7 ⟨v7,rfl,a',aC⟩;clear ak;have ba:=grown_trans aj a';have aD:Sub P (genP P (λx=>x∈X++Y)):=G.genP_sub HP.out.2.2.1;have bI:=G.cseq_len aD;have aa:=sizeOf_ok P G.v w7 _ v7 _ Any _ (A.ext ba) (RowsD.rows (aC.toD (by omega))) (G.seq_facts aD).1 (by omega);obtain⟨jz,rA⟩:∃jz,jz=iH P X Y:=⟨_,rfl⟩;rw[show prodU P (cseq P (genP P (λx=>x∈X++Y))) (cseq P (genP P (λx=>x∈X++Y))).length=iH P X Y from rfl,<-rA] at aa;obtain⟨ja,jc,bc,_,_⟩:=SlD.shape (aC.toD (by omega));obtain⟨jl,bd⟩:∃jl,jl=(cseq P (genP P (λx=>x∈X++Y))).length:=⟨_,rfl⟩;rw[<-bd] at bc;subst bc;have be:=Lib.hid rA;clear rA bd aD bI aC;go_wp2_with fail
        refine Calls.mono aa ?_;rintro e8 w8 ⟨v8,rfl,bJ,rfl⟩;clear aa;have al:=grown_trans ad (grown_trans af (grown_trans HA.out (grown_trans a7 (grown_trans a' bJ))));by_cases D:pz=jz
        ·have bf:(pz != jz)=false:=by rw[D];simp
         have bK:Hid (∀k,k<j+1->iH P (gt e k) X=oU P (gt e k)*oU P X):=Lib.hid (λk hk=>by
          rcases Nat.lt_succ_iff_lt_or_eq.1 hk with h|h
          ·exact hJ.out k h
          ·rw[h,<-HP.out.2.1,vg,<-be.out,<-D,HP.out.1,Int.mul_comm])
         have b9:=Lib.hid D;clear D;go_wp2;go_roundw
         case rel=>exact⟨j+1,by go_num,by omega,al,bK⟩
         case measure=>simp[intOf];omega
        ·have bf:(pz != jz)=true:=by simpa using D
         have z:jY P e=false:=HZ.out.2.1 (λhh=>D (by
          have h:=hh.2.2 i j V ap;rw[<-B.out.1,<-HP.out.2.1,vg,<-be.out,Int.mul_comm,<-HP.out.1] at h;exact h.symm))
         have E:=Lib.hid (And.intro HZ.out.1 z);clear z D;go_wp2;go_ret2
         exact⟨_,rfl,grown_trans K (grown_trans T al),by rw[E.out.1,E.out.2];rfl⟩
       ·have bL:j=i:=by omega
        subst bL
        have bM:Hid ((∀k,k<j+1->oU P (gt e k)=dU P [gt (dr (ordP P)) k])/\∀k q,q<k->k<j+1->iH P (gt e q) (gt e k)=oU P (gt e q)*oU P (gt e k)):=Lib.hid ⟨bB.out,λk q hq hk=>by
         rcases Nat.lt_succ_iff_lt_or_eq.1 hk with h|h
         ·exact hI.out.2 k q hq h
         ·rw [h] at hq ⊢
          rw[<-B.out.1];exact hJ.out q hq⟩
        go_wp2;go_roundw
        case rel=>exact⟨j+1,by go_num,by omega,grown_trans aW ad,bM⟩
        case measure=>simp[intOf];omega
     ·have U:(a != b)=true:=by simpa using C
      have z:jY P e=false:=HZ.out.2.1 (λhh=>C (by
       have h:=hh.2.1 i ap;rw[<-B.out.1,<-B.out.2.1,<-B.out.2.2.1,<-B.out.2.2.2.1] at h;exact h))
      have E:=Lib.hid (And.intro HZ.out.1 z);clear z C;go_wp2;go_ret2
      exact⟨_,rfl,grown_trans K T,by rw[E.out.1,E.out.2];rfl⟩
    ·have bN:i=m:=by omega
     subst bN;have hV:jY P e=true:=ry HY.out ⟨by rw[<-HM.out,<-HN.out];exact HZ.out.2.2,by rw[<-HM.out];exact hI.out.1,by rw[<-HM.out];exact λk j hj hk=>hI.out.2 k j hj hk⟩;have E:=Lib.hid (And.intro HZ.out.1 hV);clear hV;go_wp2;go_ret2
     exact⟨_,rfl,grown_trans K M,by rw[E.out.1,E.out.2];rfl⟩
  ·have aO:((m:Int) != (n:Int))=true:=by simp;omega
   have E:=Lib.hid (And.intro (oV HY.out) (rz (λh=>Q (by rw[HM.out,HN.out];exact h.2.1)):jY P e=false));clear Q;go_wp2;go_ret2
   exact⟨_,rfl,aN,by rw[E.out.1,E.out.2];rfl⟩
section
variable {P:Pr}(G:Grp P)
include G
theorem Grp.BP:Red P (Vec P.orders) (λd=>unitV P.orders.length d) where
 sub:=G.sub_all
 mem d a _:=⟨unitV_vec G.v d,T.unit G.v (Nat.le_refl _) a,by rw[gt_unit _ _ _ a,if_pos rfl]⟩
 piv x hx d a hT h0:=by
  intro e;have:(unitV P.orders.length d).length=0:=by rw[e];rfl
  rw[(unitV_vec G.v d).1] at this;omega
 red d e hde b _ _:=by rw[gt_unit _ _ _ b,if_neg (by omega)]
theorem Grp.rB:cseq P (Vec P.orders)=gensOf P.orders.length:=by
 rw[G.cseq_red G.BP];unfold seqOf gensOf
 have : ∀l:List Nat,(∀d∈l,d<P.orders.length)->l.filterMap (λd=>if unitV P.orders.length d=[] then none else some (unitV P.orders.length d))=l.map (λk:Nat=>unitV P.orders.length k):=by
  intro l;induction l with
  | nil=>intro _;rfl
  | cons a l i=>
   intro h
   have b:¬unitV P.orders.length a=[]:=λe=>by
    have h1:(unitV P.orders.length a).length=0:=by rw[e];rfl
    rw[(unitV_vec G.v a).1] at h1;have:=h a (List.mem_cons_self ..);omega
   rw[List.filterMap_cons,if_neg b,List.map_cons,i (λd g=>h d (List.mem_cons_of_mem _ g))]
 exact this _ (λd g=>List.mem_range.1 g)
end
end Go.Proofs.YtdcobapnlpeaaaaGreat
