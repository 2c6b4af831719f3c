/- Merged from templates. -/
import Derived.Test.YtdcobapnlpeaaaaGreatX14
set_option maxRecDepth 100000
set_option maxHeartbeats 8000000
namespace Go.Proofs.YtdcobapnlpeaaaaGreat
open Go.RowKit
def Rest (m:Nat) (F:Nat->Nat->Prop) (i n:Nat):Nat->Prop:=λk=>k<m/\∃j,i<=j/\j<n/\F j k
theorem SlOA.nil {α:Type} [Inhabited α] (El:(Nat->Prop)->World->Value->α->Prop) (E B:Nat) (A:Nat->Prop) (w:World):SlOA El E B A w (.slice none 0 0) ([]:List α):=
 ⟨[],λ_ _=>False,rfl,World.ownsRow_nil _ _ _ _,by simp,by simp,by simp,by simp,by simp[Value.ownBlock]⟩
theorem elementsOf_ok (P:Pr) (G:Grp P) (w:World) (p uv:Value) (U:List (List Int)) (Sp Su:Nat->Prop) (hp:PresP Sp w p P) (hu:Rows2 Su w uv U) (hU:SeqOk P U) (hl:U.length<=6) :
  Calls Tryz.prog 162 #[p,uv] w (Ret w λw' v=>RowsO w.heap.size w' v (sortL (elsP P U U.length))):=by
 have hP:=G.v;have bH:=hP.n6;obtain⟨pb,po,rfl⟩:=hp.shape;obtain⟨ao,capo,gy,bc⟩:=hp.ordAt;obtain⟨au,capu,rfl,_,_⟩:=Sl.shape hu;have an:∀z∈U,dep z<z.length:=λz O=>by have:=hU.1 z O;rw[this.1.1];exact this.2.1
 have HU:=Lib.hid hU;clear hU;go_enter Tryz.func162,Tryz.ntmps162;go_wp2_with (first|(at_make;refine wp_make_ints rfl _ _ rfl w.heap.size P.orders.length w.heap.size rfl _ rfl rfl rfl (by omega) (Nat.le_refl _) ?_;intro w1 ar ac av)|fail)
 have aw:OwnIn (From w.heap.size) w1 (.slice (some ⟨w.heap.size,0,none⟩) P.orders.length P.orders.length) (zeros P.orders.length):=OwnIn.of ar (by simp[zeros];omega) (λj h1 _=>h1);have aA:=rowsOne aw ac.size;have aB:Ext w1 (w1.alloc (.cells #[.slice (some ⟨w.heap.size,0,none⟩) P.orders.length P.orders.length] 24)):=World.grownBy_alloc _ _ _;have ad:=grown_trans ac aB;clear ar aw aB ac av;generalize bd:w1.alloc (.cells #[.slice (some ⟨w.heap.size,0,none⟩) P.orders.length P.orders.length] 24)=w2 at *;clear bd;refine Calls.mono (pivots_ok _ U w2 Su (Rows2.ext hu ad) an (by omega)) ?_;rintro e3 w3 ⟨pv,rfl,hg3,ae⟩;have S:=grown_trans ad hg3;have aC:=SlO.ext rdOwn aA hg3;clear aA ad hg3 an
 have aD:∃az T,pv=.slice az U.length T:=by
  rcases ae.form with⟨h1,y⟩|⟨g,cp,h1,_⟩
  ·have h3:U.length=0:=by unfold depV at y;rw[List.map_eq_nil_iff] at y;rw[y];rfl
   exact⟨none,0,by rw[h1,h3]⟩
  ·exact⟨_,_,by rw[h1];unfold depV;rw[List.length_map]⟩
 obtain⟨ap,capp,rfl⟩:=aD;go_wp2;go_loopw [5,21] (λov iv wr=>∃(k:Nat) (v4:Value),v4=ov/\iv=.int .i64 k/\k<=U.length/\Ext w3 wr/\RowsO w.heap.size wr v4 (elsP P U k)) (λ_ iv _=>U.length-(intOf iv).toNat)
 case atStart=>exact⟨0,_,rfl,rfl,by omega,Ext.refl _,aC⟩
 case round=>
  clear aC;obtain⟨k,v4,rfl,rfl,hk,hg,hO⟩:=hrel;have B:=elsP_len hP HU.out k hk;have C:=prodU_729 hP HU.out k hk;by_cases a:k<U.length
  ·have bA:(k:Int)<U.length:=by omega
   have aE:gt (depV U) k=.int .i64 (dep (gt U k)):=by unfold depV;rw[gt_map _ _ _ a]
   have bf:∃g,ap=some ⟨g,0,none⟩:=by
    rcases ae.form with⟨h1,y⟩|⟨g,cp,h1,_⟩
    ·unfold depV at y;rw[List.map_eq_nil_iff] at y;rw[y] at a;simp at a
    ·simp only[Value.slice.injEq] at h1;exact⟨g,h1.1⟩
   obtain⟨gp,rfl⟩:=bf;have D:=ae.cell k (by unfold depV;rw[List.length_map];exact a);rw[aE] at D;clear aE;have aF:=hg.cell D (by simp);clear D;obtain⟨d,hd⟩:∃d,d=dep (gt U k):=⟨_,rfl⟩;obtain⟨z,O⟩:∃z,z=gt U k:=⟨_,rfl⟩;have aH:d<P.orders.length:=by rw[hd];exact(HU.out.1 _ (gtMem a)).2.1
   have E:Vec P.orders z:=by rw[O];exact(HU.out.1 _ (gtMem a)).1
   obtain⟨o,ho⟩:∃o,o=(gt P.orders d).toNat:=⟨_,rfl⟩;have bL:=hP.ord7 d aH;have bh:gt P.orders d=(o:Int):=by omega
   obtain⟨X,hX⟩:∃X,X=elsP P U k:=⟨_,rfl⟩;have aJ:elsP P U (k+1)=X.flatMap (stepE P z o):=by rw[hX,ho,hd,O];rfl
   have aK:∀x∈X,Vec P.orders x:=by rw[hX];exact elsP_sub G.sub_all (λz O=>(HU.out.1 z O).1) k hk
   rw[<-hd] at aF;rw[<-hX] at hO B;have bM:X.length<=729:=by omega
   have bN:1<=X.length:=by omega
   clear B C;obtain⟨vs,F,af,aL,hF,yN,yO⟩:=hO
   obtain ⟨gx,V,hv4⟩:∃gx V,v4=.slice (some ⟨gx,0,none⟩) X.length V:=by
    rcases aL.form with⟨h1,y⟩|⟨g,cp,h1,_⟩
    ·rw[y] at af;simp at af;omega
    ·exact⟨g,cp,by rw[h1,af]⟩
   subst hv4;have HX:=Lib.hid (And.intro aJ (And.intro aK (And.intro hX (And.intro hd (And.intro O ho)))));clear aJ aK hX hd ho;obtain⟨n,rfl⟩:∃n:World,n=wr:=⟨_,rfl⟩;have H:=grown_trans S hg;obtain⟨bo,oo,rfl,_,_,q⟩:=Ints.at (bc.ext H) d aH;have Q:=H.cell gy (by simp);obtain⟨bu,ou,a2,cap2,pF,_,_,I,aM⟩:=Rows2.at hu k a;subst pF;rw[<-O] at I aM;have I:=H.cell I (by simp);clear O;have bD:(d:Int)<P.orders.length:=by omega
   have HC:=Lib.hid (And.intro Q (And.intro q I));clear Q q I;go_wp2;clear aF;go_loopw [8,28] (λnv jv wr=>∃(j:Nat) (v5:Value),v5=nv/\jv=.int .i64 j/\j<=X.length/\Ext n wr/\SlOA OwnIn 24 w.heap.size (Rest n.heap.size F j X.length) wr v5 ((X.take j).flatMap (stepE P z o))/\Hid (∀b,v5.ownBlock=some b->n.heap.size<=b)) (λ_ jv _=>X.length-(intOf jv).toNat)
   case atStart=>exact⟨0,_,rfl,rfl,by omega,Ext.refl _,SlOA.nil _ _ _ _ _,Lib.hid (λb l=>by simp[Value.ownBlock] at l)⟩
   case round=>
    obtain⟨j,v5,rfl,rfl,hj,jM,N,iq⟩:=hrel;by_cases r:j<X.length
    ·have bE:(j:Int)<X.length:=by omega
     have J:=yO j r;obtain⟨ax,cx,aN,_,_⟩:=J.ints.shape;have ah:=jM.cell (aL.cell j (by omega)) (by simp);rw[aN] at ah J;have Q:=jM.cell HC.out.1 (by simp);have q:=jM.cell HC.out.2.1 (by simp);rw[bh] at q;have ai:=HX.out.2.1 _ (gtMem r);have aO:rMul P (gt X j) (pw P z 0)=gt X j:=G.grp.er _ ai
     have aP:((X.take j).flatMap (stepE P z o)).length<=729*7:=by
      rw[flatMap_len,List.length_take];exact Nat.mul_le_mul (by omega) (by omega)
     have u:=Lib.hid (And.intro ai (And.intro aO aP));clear ai aO aP aN;obtain⟨x,hx⟩:∃x,x=gt X j:=⟨_,rfl⟩;rw[<-hx] at ah J u;have bk:=Lib.hid hx;clear hx;have W:=rdOwn.mono (F':=F j) J (λb l a=>⟨l,Nat.lt_of_lt_of_le a jM.size,jM.block b a (by simp)⟩);go_wp2;clear Q q ah
     go_loopw [8,10,39] (λnv xv tv wr=>∃(t:Nat) (v6:Value) (Y:List Int) (A Fx:Nat->Prop),v6=nv/\tv=.int .i64 t/\t<=o/\Ext n wr/\OwnIn Fx wr xv Y/\SlOA OwnIn 24 w.heap.size A wr v6 ((X.take j).flatMap (stepE P z o)++stepE P z t x) /\
       Hid (Y=rMul P x (pw P z t)/\(∀b,Fx b->b<wr.heap.size->A b/\w.heap.size<=b)/\(∀b,Rest n.heap.size F (j+1) X.length b->A b/\¬Fx b)/\(∀b,A b->b<wr.heap.size)/\∀b,v6.ownBlock=some b->n.heap.size<=b)) (λ_ _ tv _=>o-(intOf tv).toNat)
     case atStart=>
      refine⟨0,v5,x,Rest n.heap.size F j X.length,F j,rfl,rfl,by omega,jM,W,?_,Lib.hid ⟨u.out.2.1.symm,λb l _ => ?_,λb l => ?_,λb l=>Nat.lt_of_lt_of_le l.1 jM.size,iq.out⟩⟩
      ·unfold stepE;rw[List.range_zero,List.map_nil,List.append_nil];exact N
      ·obtain ⟨f1,_,f3⟩:=hF j b r l
       exact⟨⟨f3,j,Nat.le_refl _,r,l⟩,f1⟩
      ·obtain ⟨h1,i,y,h3,h4⟩:=l
       exact⟨⟨h1,i,by omega,h3,h4⟩,λh=>by have:=yN i j b h3 r h4 h;omega⟩
     case round=>
      clear W N iq J;obtain⟨t,v6,Y,A,Fx,rfl,rfl,ht,hgi,K,N,hH⟩:=hrel;by_cases bP:t<o
      ·have bF:(t:Int)<o:=by omega
       obtain⟨ay,cy,gM,_,_⟩:=K.ints.shape;subst gM;have aR:=grown_trans H hgi;have aj:Vec P.orders Y:=by rw[hH.out.1];exact G.mulV u.out.1 (G.pw_vec E t)
       have aS:tv P Y z=rMul P x (pw P z (t+1)):=by rw[G.tv_eq aj E,hH.out.1,G.step_mul u.out.1 E]
       have aT:((X.take j).flatMap (stepE P z o)++stepE P z t x).length<=1000000:=by
        rw[List.length_append,stepE_len];have:=u.out.2.2;omega
       have Z:=G.mulV u.out.1 (G.pw_vec E (t+1));have HY:=Lib.hid (And.intro aj (And.intro aS (And.intro aT Z)));clear aj aS aT Z;have aU:=hgi.cell HC.out.2.2 (by simp);go_wp2_with (first|(at_builtin;refine wp_app_take rfl _ _ rfl w.heap.size A (Rest n.heap.size F (j+1) X.length) Fx wr v6 _ _ Y rfl N K hH.out.2.1 hH.out.2.2.1 hH.out.2.2.2.1 rfl rfl HY.out.2.2.1 aR.size ?_;intro v7 R aV ak aa;have m:=grown_own hgi ak (λb l a=>by have:=hH.out.2.2.2.2 b l;omega);have aW:=m.cell HC.out.2.2 (by simp))|fail)
       have ab:Ints Any R (.slice ay Y.length cy) Y:=Ints.mono K.ints (λb l a=>⟨trivial,Nat.lt_of_lt_of_le a ak.size,ak.block b a (λe=>by
        obtain⟨a1,_⟩:=hH.out.2.1 b l a;exact(N.avoids b e.symm).1 a1)⟩)
       have L:=grown_trans H m;refine Calls.mono (multiply_ok P hP R _ _ _ Y z Sp Any Su (hp.ext L) ab (Ints.ext aM L) HY.out.1 E) ?_;rintro eC M ⟨vC,rfl,iL,al⟩;rw[HY.out.2.1] at al;have aX:OwnIn (λb=>R.heap.size<=b/\b<M.heap.size) M vC (rMul P x (pw P z (t+1))):=OwnIn.of al (by rw[HY.out.2.2.2.1];omega) (λj h1 y=>⟨h1,y⟩)
       have bm:SlOA OwnIn 24 w.heap.size (λb=>Rest n.heap.size F (j+1) X.length b\/(R.heap.size<=b/\b<M.heap.size)) M v7 ((X.take j).flatMap (stepE P z o)++stepE P z (t+1) x):=by
        rw[stepE_succ,<-List.append_assoc,<-hH.out.1];exact(aV.more (λb l=>l.elim .inl (λh => .inr h.1))).ext rdOwn iL
       have bn:Hid ((∀b,(R.heap.size<=b/\b<M.heap.size)->b<M.heap.size->(Rest n.heap.size F (j+1) X.length b\/(R.heap.size<=b/\b<M.heap.size))/\w.heap.size<=b)/\(∀b,Rest n.heap.size F (j+1) X.length b->(Rest n.heap.size F (j+1) X.length b\/(R.heap.size<=b/\b<M.heap.size))/\¬(R.heap.size<=b/\b<M.heap.size)) /\
         (∀b,Rest n.heap.size F (j+1) X.length b\/(R.heap.size<=b/\b<M.heap.size)->b<M.heap.size)/\∀b,v7.ownBlock=some b->n.heap.size<=b):=by
        refine Lib.hid ⟨λb l _=>⟨.inr l,by have:=L.size;omega⟩,λb l=>⟨.inl l,λh=>by have:=l.1;have:=m.size;omega⟩,λb l => ?_,λb l => ?_⟩
        ·rcases l with h|h
         ·have:=h.1;have:=m.size;have:=iL.size;omega
         ·exact h.2
        ·rcases aa with h|h
         ·exact hH.out.2.2.2.2 b (by rw[<-h];exact l)
         ·have:=h b l;have:=hgi.size;omega
       clear N hH K aV aa al ab aW aU;go_wp2;go_roundw
       case rel=>exact⟨t+1,v7,_,_,_,rfl,by go_num,by omega,grown_trans m iL,aX,bm,Lib.hid ⟨rfl,bn.out⟩⟩
       case measure=>simp[intOf];omega
      ·have bp:t=o:=by omega
       subst bp;have am:=flatMap_take_succ X (stepE P z t) j r;rw[<-bk.out] at am
       have bq:SlOA OwnIn 24 w.heap.size (Rest n.heap.size F (j+1) X.length) wr v6 ((X.take (j+1)).flatMap (stepE P z t)):=by
        rw[am];exact N.less (λb l=>(hH.out.2.2.1 b l).1)
       have aY:=Lib.hid hH.out.2.2.2.2;clear am N hH K;go_wp2;go_roundw
       case rel=>exact⟨j+1,v6,rfl,by go_num,by omega,hgi,bq,aY⟩
       case measure=>simp[intOf];omega
    ·have br:j=X.length:=by omega
     subst br
     have bs:RowsO w.heap.size wr v5 (elsP P U (k+1)):=by
      rw[HX.out.1];have:=N.o;rw[List.take_length] at this;exact this
     clear N iq;go_wp2;go_roundw
     case rel=>exact⟨k+1,v5,rfl,by go_num,by omega,grown_trans hg jM,bs⟩
     case measure=>simp[intOf];omega
  ·have bt:k=U.length:=by omega
   subst bt;have aZ:0<(elsP P U U.length).length:=by omega
   have a0:(elsP P U U.length).length<=1000000:=by omega
   obtain⟨az,T,fM,_,_⟩:=SlD.shape (hO.toD (by omega));have HN:=Lib.hid (And.intro aZ a0);clear B C aZ a0;subst fM;go_wp2_with fail
   refine Calls.mono (sortRows_ok wr _ (elsP P U U.length) w.heap.size hO HN.out.1 HN.out.2) ?_;rintro eS wS ⟨rfl,yP,bv⟩;have a3:Ext w wS:=grown_own (grown_trans S hg) bv (λb l a=>by have:=(hO.lt b l).1;omega);clear hO;go_wp2;go_ret;exact⟨_,rfl,a3,yP⟩
theorem rows3One {S:Nat->Prop}{w:World}{u:Value}{U:List (List Int)}(h:Rows2 S w u U):Rows3 Any (w.alloc (.cells #[u] 25)) (.slice (some ⟨w.heap.size,0,none⟩) 1 1) [U]:=by
 refine⟨_,1,rfl,⟨by simp,by simp,λh=>by cases h⟩,λi a => ?_⟩;have:i=0:=by simpa using a
 subst this;refine⟨w.heap.size,0,u,rfl,trivial,by simp,by rw[World.cell?_alloc_at _ _ _ _ rfl];rfl,?_⟩;exact Rows2.sub (Rows2.ext h (World.grownBy_alloc _ _ _)) (λ_ _ _=>trivial)
theorem rows3Two {S S':Nat->Prop}{w:World}{u v:Value}{U V:List (List Int)}(h:Rows2 S w u U) (k:Rows2 S' w v V):Rows3 Any (w.alloc (.cells #[u,v] 25)) (.slice (some ⟨w.heap.size,0,none⟩) 2 2) [U,V]:=by
 refine⟨_,2,rfl,⟨by simp,by simp,λh=>by cases h⟩,λi a => ?_⟩;rcases(show i=0\/i=1 by simp at a;omega) with rfl|rfl
 ·refine ⟨w.heap.size,0,u,rfl,trivial,by simp,by rw[World.cell?_alloc_at _ _ _ _ rfl];rfl,?_⟩
  exact Rows2.sub (Rows2.ext h (World.grownBy_alloc _ _ _)) (λ_ _ _=>trivial)
 ·refine ⟨w.heap.size,0,v,rfl,trivial,by simp,by rw[World.cell?_alloc_at _ _ _ _ rfl];rfl,?_⟩
  exact Rows2.sub (Rows2.ext k (World.grownBy_alloc _ _ _)) (λ_ _ _=>trivial)
theorem elemsIn_len {P:Pr}(hP:Valid P) (H:List Int->Prop):(elemsIn P H).length<=729:=by
 have h1:=elemsTo_len P H (ordP P).toNat;rw[elemsTo_all] at h1;have a:ordP P<=729:=hP.le729;omega
def iM (P:Pr) (E:List (List Int)):List Nat:=E.map (λx=>(num P x).toNat)
theorem yQ (P:Pr) (E:List (List Int)) (k:Nat) (h:k<E.length):iM P (E.take (k+1))=iM P (E.take k)++[(num P (gt E k)).toNat]:=by
 unfold iM;rw[take_succ_gt E k h,List.map_append];rfl
section
variable {P:Pr}(G:Grp P)
include G
theorem Grp.yR {H:List Int->Prop}(S:Sub P H) {k:Nat}(hk:k<(elemsIn P H).length):¬(num P (gt (elemsIn P H) k)).toNat∈iM P ((elemsIn P H).take k):=by
 intro h;unfold iM at h;obtain⟨x,hx,m⟩:=List.mem_map.1 h;have a:=elemsIn_mem G.v S.vec;obtain⟨j,g,rfl⟩:=mem_gt hx;have b:j<k:=by rw[List.length_take] at g;omega
 have e:gt ((elemsIn P H).take k) j=gt (elemsIn P H) j:=by
  rw[gt_eq _ _ g,gt_eq _ _ (by omega),List.getElem_take]
 rw[e] at m;have h1:=List.pairwise_iff_getElem.1 (elemsIn_asc G.v H) j k (by omega) hk b;rw[<-gt_eq _ _ (by omega),<-gt_eq _ _ hk] at h1;have b1:=num_bd G.v (S.vec _ ((a _).1 (gtMem (l:=elemsIn P H) (i:=j) (by omega))));have b2:=num_bd G.v (S.vec _ ((a _).1 (gtMem hk)));omega
theorem Grp.yS {H:List Int->Prop}(S:Sub P H) {m:Nat}(g:Bits m (iM P (elemsIn P H))):m=msk P H:=by
 have a:=elemsIn_mem G.v S.vec;refine msk_eq (λt i => ?_) (λt i => ?_)
 ·rw [g t]
  unfold iM;constructor
  ·intro h
   obtain⟨x,hx,rfl⟩:=List.mem_map.1 h;have b:=(a x).1 hx;rw[(G.num_lt (S.vec x b)).2];exact b
  ·intro h
   exact List.mem_map.2 ⟨_,(a _).2 h,G.num_el i⟩
 ·rw [Bool.eq_false_iff]
  intro e;have:=(g t).1 e;unfold iM at this;obtain⟨x,hx,rfl⟩:=List.mem_map.1 this;have:=(G.num_lt (S.vec x ((a x).1 hx))).1;omega
end
theorem yT (P:Pr) (G:Grp P) (w:World) (pv uv:Value) (H:List Int->Prop) (Sp Su:Nat->Prop) (S:Sub P H) (ay:ordP P<=32) (ab:PresV Sp w pv P) (hu:Rows2 Su w uv (cseq P H)) :
  Calls Tryz.prog 305 #[pv,uv] w (Ret w λ_ v=>v=.int .i64 ((msk P H:Nat):Int)):=by
 have hP:=G.v;have az:=hP.n6;have an:=hP.ordP_pos;obtain⟨vo,vp,vc,rfl,h3⟩:=ab;have J:=PresP.box h3 28;have K:Ext w (w.alloc (.cells #[vo,vp,vc] 28)):=World.grownBy_alloc _ _ _;have ad:=Rows2.ext hu K;obtain⟨au,capu,rfl,_,_⟩:=Sl.shape hu;obtain⟨L,fB,fu,_,_,hc0,B,C,fq⟩:=J.at;simp only[Nat.zero_add] at B C;have M:∀w',Ext (w.alloc (.cells #[vo,vp,vc] 28)) w'->w'.cell? ⟨w.heap.size,0,none⟩=some L/\w'.cell? ⟨w.heap.size,1,none⟩=some fB/\w'.cell? ⟨w.heap.size,2,none⟩=some fu:=λw' h=>⟨h.cell hc0 (by simp),h.cell B (by simp),h.cell C (by simp)⟩;have HB:=Lib.hid M;clear M J hu;have hE:=l12Elements_ok P G (w.alloc (.cells #[vo,vp,vc] 28)) _ _ H Any Su S ⟨_,_,_,rfl,fq⟩ ad;obtain⟨E,n⟩:∃E,E=elemsIn P H:=⟨_,rfl⟩;have aA:E.length<=729:=by rw[n];exact elemsIn_len hP H
 rw[<-n] at hE;have N:=Lib.hid n;clear n;go_enter Tryz.func305,Tryz.ntmps305;go_wp2_with fail
 clear hc0 B C;generalize ah:w.alloc (.cells #[vo,vp,vc] 28)=w0 at *;clear ah;refine Calls.mono hE ?_;rintro e1 w1 ⟨v1,rfl,hg1,hO⟩;clear hE;have D:=RowsD.rows (hO.toD (by omega));obtain⟨ae,O,pG,_,_⟩:=Sl.shape D;subst pG;have Q:Rows2 Any w1 (.slice ae E.length O) E:=Rows2.sub D (λ_ _ _=>trivial);clear hO D;go_wp2;go_loopw [6,7] (λmv iv wr=>∃(i m:Nat),mv=.int .i64 (m:Int)/\iv=.int .i64 i/\i<=E.length/\Ext w1 wr/\Hid (Bits m (iM P (E.take i)))) (λ_ iv _=>E.length-(intOf iv).toNat)
 case atStart=>exact⟨0,0,rfl,rfl,by omega,Ext.refl _,Lib.hid (λt=>by simp[iM])⟩
 case round=>
  obtain⟨i,m,rfl,rfl,hi,hg,R⟩:=hrel;have b:=grown_trans hg1 hg;by_cases j:i<E.length
  ·have aq:(i:Int)<E.length:=by omega
   obtain⟨bb,off,a2,T,rfl,_,_,hc,hr⟩:=Rows2.at Q i j;have F:=hg.cell hc (by simp);have q:Vec P.orders (gt E i):=S.vec _ ((elemsIn_mem hP S.vec _).1 (by rw[<-N.out];exact gtMem j));have g:¬(num P (gt E i)).toNat∈iM P (E.take i):=by rw[N.out];exact G.yR S (by rw[<-N.out];exact j)
   have a:=yQ P E i j
   have U:m<4294967296:=by
    have h1:m<2 ^ (ordP P).toNat:=Nat.lt_pow_two_of_testBit _ (λt ht=>by
     rw[Bool.eq_false_iff];intro e;have:=(R.out t).1 e;unfold iM at this;obtain⟨x,hx,rfl⟩:=List.mem_map.1 this;have:=(G.num_lt (S.vec x ((elemsIn_mem hP S.vec x).1 (by rw[<-N.out];exact List.mem_of_mem_take hx)))).1;omega)
    have h2:(2:Nat) ^ (ordP P).toNat<=2 ^ 32:=Nat.pow_le_pow_right (by decide) (by omega);omega
   have hb:=num_bd hP q;obtain⟨x,hx⟩:∃x,x=gt E i:=⟨_,rfl⟩;rw[<-hx] at hc F hr q g a hb;obtain⟨y,hy⟩:∃y,y=(num P x).toNat:=⟨_,rfl⟩;rw[<-hy] at g a;have V:num P x=(y:Int):=by omega
   have u:y<32:=by omega
   have r:=R.out.app g;rw[<-a] at r;have k:=oJ y u;have A:(2:Nat) ^ y<2 ^ 32:=Nat.pow_lt_pow_right (by decide) u;obtain⟨p,hp⟩:∃p,p=2 ^ y:=⟨_,rfl⟩;rw[<-hp] at k r A
   have W:IntKind.i64.wrap ((m:Int)+(p:Int))=((m+p:Nat):Int):=by
    rw[IntWalk.i64_in _ ⟨by omega,by omega⟩];omega
   have I:IntKind.i64.wrap (2 ^ min (IntKind.u64.wrap (y:Int)).toNat 64)=(p:Int):=by
    rw[IntWalk.u64_in _ ⟨by omega,by omega⟩,Int.toNat_natCast,Nat.min_eq_left (by omega)];exact k
   have HX:=Lib.hid (And.intro q (And.intro V r));clear q V r g a hb hx hy hp R U A;have e1:∀w',Ext wr w'->w'.cell? ⟨w.heap.size,0,none⟩=some L:=λw' h=>(HB.out w' (grown_trans b h)).1;have e2:∀w',Ext wr w'->w'.cell? ⟨w.heap.size,1,none⟩=some fB:=λw' h=>(HB.out w' (grown_trans b h)).2.1;have e3:∀w',Ext wr w'->w'.cell? ⟨w.heap.size,2,none⟩=some fu:=λw' h=>(HB.out w' (grown_trans b h)).2.2;have e4:∀w',Ext wr w'->w'.cell? ⟨bb,off+i,none⟩=some (.slice a2 x.length T):=λw' h=>h.cell F (by simp);clear F hc;go_wp2
   go_region_held3 (λw'=>Ext wr w') (first|exact grown_drew _ _|assumption)
    (first
     | (go_at_call 255;refine Calls.mono (Calls.rel (w0:=wr) (by assumption) (l10Number_ok P hP _ _ _ x Any Any ⟨_,_,_,rfl,Pres3.ext fq (grown_trans b (by assumption))⟩ (Ints.sub (Ints.ext hr (grown_trans hg (by assumption))) (λ_ _ _=>trivial)) HX.out.1)) ?_;rintro eA wA ⟨vA,rfl,eH,fK,X⟩;rw[HX.out.2.1] at X;subst X))
   clear e1 e2 e3 e4;have Y:=grown_trans hg eH;go_wp2;clear k I W;go_roundw
   case rel=>exact⟨i+1,m+p,rfl,by go_num,by omega,Y,Lib.hid HX.out.2.2⟩
   case measure=>simp[intOf];omega
  ·have Z:i=E.length:=by omega
   have l:=R.out;rw[Z,List.take_length,N.out] at l;have HN:=Lib.hid (G.yS S l);have aH:¬(i:Int)<E.length:=by omega
   clear l Z j R;go_wp2;go_ret;exact⟨_,rfl,grown_trans K b,congrArg (λz:Nat=>Value.int .i64 (z:Int)) HN.out⟩
structure kT (P:Pr) (M:List Nat) (GS:List (List Nat)):Prop where
 len:GS.length=M.length
 gL:∀j,j<M.length->gt M j=msk P (genN P (gt GS j))/\(∀g∈gt GS j,g<(ordP P).toNat)/\(gt GS j).length<=j
theorem kT.app {P:Pr}{M:List Nat}{GS:List (List Nat)}(h:kT P M GS) {k t:Nat}(hk:k<M.length) (e:t<(ordP P).toNat):kT P (M++[msk P (genN P (gt GS k++[t]))]) (GS++[gt GS k++[t]]):=by
 refine⟨by simp[h.len],λj i => ?_⟩;simp only[List.length_append,List.length_singleton] at i;by_cases a:j<M.length
 ·rw [gt_append_left _ _ _ a,gt_append_left _ _ _ (by rw[h.len];exact a)]
  exact h.gL j a
 ·have:j=M.length:=by omega
  subst this;rw[gt_concat,<-h.len,gt_concat];obtain⟨h1,h2,h3⟩:=h.gL k hk;have l:=h.len;refine⟨rfl,λg m => ?_,by simp;omega⟩;rcases List.mem_append.1 m with b|b
  ·exact h2 g b
  ·rw[List.mem_singleton.1 b];exact e
theorem yU {P:Pr}(G:Grp P):kT P [1] [[]]:=by
 refine⟨rfl,λj a => ?_⟩;have:j=0:=by simp at a;omega
 subst this;refine⟨?_,λg b=>(by cases b),by simp[gt]⟩;show(1:Nat)=msk P (genN P [])
 rw[G.genN_nil,G.msk_one]
theorem yV {a b:Nat} : ((a:Int) == (b:Int))=decide (a=b):=by
 by_cases h:a=b
 ·subst h;simp
 ·have:¬(a:Int)=b:=by omega
  simp[h,this]
theorem SlO.low {α:Type} [Inhabited α] {El:(Nat->Prop)->World->Value->α->Prop}{E B:Nat}{A:Nat->Prop}{w:World}{v:Value}{xs:List α}(h:SlO El E B w v xs) (a:∀k,A k->k<B):SlOA El E B A w v xs:=by
 obtain⟨g,G,h1,b,e,h4,h5⟩:=h;exact⟨g,G,h1,b,e,h4,h5,λi k j hk ha=>by have:=(e i k j hk).1;have:=a k ha;omega,λk hk ha=>by have:=(b.lt k hk).1;have:=a k ha;omega⟩
theorem nD {i:Array Oper}{rest:List Oper}{o:Oper}{a:Act}{Q:Exit->Act->World->Prop}{w:World}(q:o.guard=none) (s x:Operand)
  (A:o.op=Op.call { callee:=Callee.builtin Builtin.append,args := #[s,x],argTypes := #[24,24] }) (B:Nat) (v:Value) (l:List Int) (y:Int) (C:a.eval s=v) (b:World) (m:Own B b v l)
  (D:w=b.alloc (.cells #[.int .i64 y] 2)) (hx:a.eval x=.slice (some ⟨b.heap.size,0,none⟩) 1 1) (z:l.length<=1000000) (r:B<=b.heap.size)
  (h:∀n w',Own B w' n (l++[y])->b.grownBy w' v.ownBlock->(∀k,n.ownBlock=some k->v.ownBlock=some k\/b.heap.size<=k)->wpList Tryz.prog i Q rest (a.put o.dst n) w') :
  wpList Tryz.prog i Q (o :: rest) a w:=by
 subst D;have g:Ext b (b.alloc (.cells #[.int .i64 y] 2)):=World.grownBy_alloc _ _ _;refine wp_app 24 2 (.int .i64 0) 8 und_ints Tryz.infoInt rfl (by decide) q s x A B v (l.map (Value.int .i64)) C (m.ext0 g).v (some ⟨b.heap.size,0,none⟩) 1 1 [.int .i64 y] hx rfl (by simp) ?_ ?_ (by simp;omega) (by have:=g.size;omega) ?_
 ·intro j F
  have:j=0:=by omega
  subst this;exact⟨_,_,rfl,by rw[World.cell?_alloc_at _ _ _ _ rfl];rfl⟩
 ·intro G p
  simp at p;subst p;rfl
 ·intro n w' h1 E _ u
  refine h n w' (Own.of (by rw[List.map_append];exact h1)) (grown_trans (grown_of_ext _ g) E) (λk hk => ?_);rcases u with e|e
  ·exact .inl (by rw[<-e];exact hk)
  ·rw [e] at hk
   have:(b.alloc (.cells #[.int .i64 y] 2)).heap.size=k:=by simpa using hk
   exact .inr (by simp at this;omega)
set_option linter.unusedSimpArgs false in
set_option maxHeartbeats 16000000 in
theorem yX (P:Pr) (G:Grp P) (w:World) (pv:Value) (Sp:Nat->Prop) (bC:ordP P<=32) (ej:PresV Sp w pv P) :
  Calls Tryz.prog 264 #[pv] w (Ret w λw' v=>∃sv mv,v=.agg #[sv,mv]/\∃L,LatL P L/\Rows3 (From w.heap.size) w' sv L/\Ints (From w.heap.size) w' mv (dy (L.map (mskU P)))):=by
 have hP:=G.v;have eZ:=hP.n6;have dm:=hP.ordP_pos;obtain⟨vo,vp,vc,rfl,h3⟩:=ej;have dn:=PresP.box h3 28;have dp:Ext w (w.alloc (.cells #[vo,vp,vc] 28)):=World.grownBy_alloc _ _ _;obtain⟨bo,fB,fu,_,_,ax,ao,ap,fq⟩:=dn.at;simp only[Nat.zero_add] at ao ap;have dq:(w.alloc (.cells #[vo,vp,vc] 28)).heap.size=w.heap.size+1:=by simp
 have aA:Ext (w.alloc (.cells #[vo,vp,vc] 28)) ((w.alloc (.cells #[vo,vp,vc] 28)).alloc (.cells #[.slice none 0 0,.slice none 0 0] 215)):=World.grownBy_alloc _ _ _;have dr:((w.alloc (.cells #[vo,vp,vc] 28)).alloc (.cells #[.slice none 0 0,.slice none 0 0] 215)).heap.size=w.heap.size+1+1:=by simp
 have bp:∀k,k<2->((w.alloc (.cells #[vo,vp,vc] 28)).alloc (.cells #[.slice none 0 0,.slice none 0 0] 215)).cell? ⟨w.heap.size+1,k,none⟩=some (.slice none 0 0)/\((w.alloc (.cells #[vo,vp,vc] 28)).alloc (.cells #[.slice none 0 0,.slice none 0 0] 215)).frozen? ⟨w.heap.size+1,k,none⟩=false:=λk hk=>by
  rw[<-dq];constructor
  ·rw [World.cell?_alloc_at _ _ _ _ rfl]
   rcases(show k=0\/k=1 by omega) with rfl|rfl<;>rfl
  ·simp
 have ds:∀w',Ext ((w.alloc (.cells #[vo,vp,vc] 28)).alloc (.cells #[.slice none 0 0,.slice none 0 0] 215)) w'->w'.cell? ⟨w.heap.size,0,none⟩=some bo/\w'.cell? ⟨w.heap.size,1,none⟩=some fB/\w'.cell? ⟨w.heap.size,2,none⟩=some fu:=λw' h=>⟨(grown_trans aA h).cell ax (by simp),(grown_trans aA h).cell ao (by simp),(grown_trans aA h).cell ap (by simp)⟩;obtain⟨N,hN⟩:∃N,N=(ordP P).toNat:=⟨_,rfl⟩;have dt:ordP P=(N:Int):=by omega
 have eG:N<=32:=by omega
 have cE:1<=N:=by omega
 have b':=grown_trans dp aA;have cF:=Pres3.ext fq aA;have HB:=Lib.hid (And.intro ds (And.intro dr (And.intro bp (And.intro hN dt))));clear ds dq dr dn hN dt dm bp fq aA;go_enter Tryz.func264,Tryz.ntmps264;go_wp2_with fail
 clear ax ao ap;generalize ek:(w.alloc (.cells #[vo,vp,vc] 28)).alloc (.cells #[.slice none 0 0,.slice none 0 0] 215)=w0 at *;clear ek dp;refine Calls.mono (rY P G w0 _ Sp ⟨_,_,_,rfl,h3.ext b'⟩) ?_;rintro e1 C ⟨tv,rfl,aW,hT⟩;obtain⟨gL,du,rfl,_,_⟩:=Sl.shape hT;have bE:(tabL P).length=N:=by rw[tabL_len,HB.out.2.2.2.1]
 have dv:Rows2 Any C (.slice gL (tabL P).length du) (tabL P):=Rows2.sub hT (λ_ _ _=>trivial);rw[bE] at dv ⊢;have HT:=Lib.hid bE;clear hT bE;have eI:=grown_trans b' aW;-- the first mask and its generators
 have ay:Own C.heap.size (C.alloc (.cells #[.int .i64 1] 2)) (.slice (some ⟨C.heap.size,0,none⟩) 1 1) (dy [1]):=World.ownsRow_lit C #[.int .i64 1] 1 (Nat.le_refl _) (by decide) rfl;have Z:Ext C (C.alloc (.cells #[.int .i64 1] 2)):=World.grownBy_alloc _ _ _;have dw:(C.alloc (.cells #[.int .i64 1] 2)).heap.size=C.heap.size+1:=by simp
 have bq:Own (C.heap.size+1) ((C.alloc (.cells #[.int .i64 1] 2)).alloc (.cells #[] 2)) (.slice (some ⟨C.heap.size+1,0,none⟩) 0 0) (dy []):=by
  have:Own (C.alloc (.cells #[.int .i64 1] 2)).heap.size ((C.alloc (.cells #[.int .i64 1] 2)).alloc (.cells #[] 2)) (.slice (some ⟨(C.alloc (.cells #[.int .i64 1] 2)).heap.size,0,none⟩) 0 0) (dy []):=World.ownsRow_lit (C.alloc (.cells #[.int .i64 1] 2)) #[] 0 (Nat.le_refl _) (by decide) rfl;rw[dw] at this;exact this
 have az:Ext (C.alloc (.cells #[.int .i64 1] 2)) ((C.alloc (.cells #[.int .i64 1] 2)).alloc (.cells #[] 2)):=World.grownBy_alloc _ _ _;have ca:((C.alloc (.cells #[.int .i64 1] 2)).alloc (.cells #[] 2)).heap.size=C.heap.size+1+1:=by simp
 have bF:=ay.ext0 az;have aX:=grown_trans Z az;obtain⟨wB,cG⟩:∃wB,wB=(C.alloc (.cells #[.int .i64 1] 2)).alloc (.cells #[] 2):=⟨_,rfl⟩;rw[<-cG] at bq ca bF aX;have bG:SlO OwnIn 24 (C.heap.size+1) (wB.alloc (.cells #[.slice (some ⟨C.heap.size+1,0,none⟩) 0 0] 24)) (.slice (some ⟨wB.heap.size,0,none⟩) 1 1) [dy []]:=SlO.rP rdOwn (OwnIn.of bq (by simp[dy]) (λk h1 _=>h1)) (by omega);rw[ca] at bG;have cH:Ext wB (wB.alloc (.cells #[.slice (some ⟨C.heap.size+1,0,none⟩) 0 0] 24)):=World.grownBy_alloc _ _ _;have cI:=bF.ext0 cH;have aY:=grown_trans aX cH
 have aZ:SlOA OwnIn 24 C.heap.size (λk=>(Value.slice (some ⟨C.heap.size,0,none⟩) 1 1).ownBlock=some k) (wB.alloc (.cells #[.slice (some ⟨C.heap.size+1,0,none⟩) 0 0] 24)) (.slice (some ⟨C.heap.size+1+1,0,none⟩) 1 1) ([[]].map dy):=by
  have h1:=bG.low (A:=λk=>(Value.slice (some ⟨C.heap.size,0,none⟩) 1 1).ownBlock=some k) (λk hk=>by have:=own_blk hk;omega);obtain⟨vs,Gg,a1,a2,a3,a4,a5,a6,a7⟩:=h1;exact⟨vs,Gg,a1,OwnV.weak a2 (by omega),λi k hi hk=>by have:=a3 i k hi hk;exact⟨by omega,this.2⟩,a4,a5,a6,a7⟩
 obtain⟨wC,cJ⟩:∃wC,wC=wB.alloc (.cells #[.slice (some ⟨C.heap.size+1,0,none⟩) 0 0] 24):=⟨_,rfl⟩;rw[<-cJ] at cI aY aZ;have HC:=Lib.hid (And.intro cI (And.intro aY (And.intro aZ ca)));clear ay bq bF bG cI aZ aY cH az Z aX dw ca;go_wp2;rw[<-cG,<-cJ];clear cG cJ
 go_loopw [4,5,6] (λfv gv kv wr=>∃(M:List Nat) (GS:List (List Nat)) (k:Nat) (v4 v5:Value),v4=fv/\v5=gv/\kv=.int .i64 k/\k<=M.length/\Ext C wr/\Own C.heap.size wr v4 (dy M) /\
  SlOA OwnIn 24 C.heap.size (λj=>v4.ownBlock=some j) wr v5 (GS.map dy)/\Hid (Fnd P M k 0/\kT P M GS)) (λ_ _ kv _=>17409-(intOf kv).toNat)
 case atStart=>exact⟨[1],[[]],0,_,_,rfl,rfl,rfl,by simp,HC.out.2.1,HC.out.1,HC.out.2.2.1,Lib.hid ⟨by have:=G.fnd_start;rw[G.msk_one] at this;exact this,yU G⟩⟩
 case round =>
  clear HC;obtain⟨M,GS,k,v4,v5,rfl,rfl,rfl,hk,hg,hO,hL,hF⟩:=hrel;have dz:=G.fnd_len bC hF.out.1;have O:=hO.ints (by rw[fE];omega);obtain⟨a4,c4,bH,_,_⟩:=O.shape;rw[fE] at bH;subst bH;by_cases z:k<M.length
  ·have bI : (k:Int)<M.length:=by omega
   obtain⟨m,hm⟩:∃m,m=gt M k:=⟨_,rfl⟩;obtain⟨gk,dA⟩:∃gk,gk=gt GS k:=⟨_,rfl⟩;have T:=Lib.hid (And.intro hm dA);clear O;go_wp2
   go_loopw [4,5,7] (λfv gv tv wr=>∃(M:List Nat) (GS:List (List Nat)) (t:Nat) (v4 v5:Value),v4=fv/\v5=gv/\tv=.int .i64 t/\1<=t/\t<=N/\k<M.length/\Ext C wr/\Own C.heap.size wr v4 (dy M) /\
    SlOA OwnIn 24 C.heap.size (λj=>v4.ownBlock=some j) wr v5 (GS.map dy)/\Hid (Fnd P M k t/\kT P M GS)/\Hid (m=gt M k/\gk=gt GS k)) (λ_ _ tv _=>N-(intOf tv).toNat)
   case atStart=>exact⟨M,GS,1,_,_,rfl,rfl,rfl,by omega,cE,z,hg,hO,hL,Lib.hid ⟨hF.out.1.skip (λH S _ _=>by rw[G.el_zero];exact S.one),hF.out.2⟩,T⟩
   case round =>
    clear hO hL hF dz z bI hk hm dA T hg;obtain⟨M,GS,t,v4,v5,rfl,rfl,rfl,ht1,ht,z,hg,hO,hL,hF,T⟩:=hrel;have aJ:=grown_trans aW hg;obtain⟨ax,ao,ap⟩:=HB.out.1 wr aJ;have cK:=l10Order_ok wr _ P Any hP ⟨_,_,_,rfl,Pres3.ext cF aJ⟩;rw[HB.out.2.2.2.2] at cK;have dz:=G.fnd_len bC hF.out.1;have O:=hO.ints (by rw[fE];omega);obtain⟨a4,c4,bH,_,_⟩:=O.shape;rw[fE] at bH;subst bH;clear O;go_wp2_with fail
    clear ax ao ap;refine Calls.mono cK ?_;rintro eo wo ⟨e5,rfl,hgo,rfl⟩;clear cK;have aK:=grown_trans hg hgo;have bJ:=hO.ext0 hgo;have bK:=hL.ext rdOwn hgo;clear hO hL;by_cases eM:t<N
    ·have eq:(t:Int)<N:=by omega
     have er:(k:Int)<M.length:=by omega
     have O:=bJ.ints (by rw[fE];omega);obtain⟨b4,o4,hb4,_,_,a0⟩:=Ints.at (show Sl IntEl _ wo (.slice a4 M.length c4) (dy M) by rw[<-fE] at O ⊢;exact O) k (by rw[fE];exact z);subst hb4;rw[jJ z,<-T.out.1] at a0;have ah:=mQ m t;have bj:t<(ordP P).toNat:=by have:=HB.out.2.2.2.1;omega
     cases hb:m.testBit t with
     | true=>
      rw[hb] at ah;have ah:((m:Int)/2 ^ t).tmod 2=1:=ah;have bM:=Lib.hid (And.intro (fnd_bit hF.out.1 bj (by rw[<-T.out.1];exact hb)) hF.out.2);clear hF hb O;go_wp2;clear ah a0;go_roundw
      case rel=>exact⟨M,GS,t+1,_,v5,rfl,rfl,by go_num,by omega,by omega,z,aK,bJ,bK,bM,T⟩
      case measure=>simp[intOf];omega
     | false =>
      rw[hb] at ah;have ah:((m:Int)/2 ^ t).tmod 2=0:=ah;obtain⟨bN,bk,dB⟩:=hF.out.2.gL k z;rw[<-T.out.1,<-T.out.2] at bN;rw[<-T.out.2] at bk dB;have dC:(GS.map dy).length=M.length:=by rw[List.length_map,hF.out.2.len]
      have bs:=RowsD.rows (bK.o.toD (by omega));obtain⟨a5,c5,dD,_,_⟩:=Sl.shape bs;rw[dC] at dD;subst dD;have ch:Rows2 (From C.heap.size) wo (.slice a5 (GS.map dy).length c5) (GS.map dy):=by rw[dC];exact bs
      obtain⟨b5,o5,ar,cr,sD,_,_,cL,lT⟩:=Rows2.at ch k (by omega);subst sD;rw[gt_map _ _ _ (by rw[hF.out.2.len];exact z),<-T.out.2] at cL lT;have dE:=fE gk;rw[dE] at cL;have ci:Ints (From C.heap.size) wo (.slice ar gk.length cr) (dy gk):=by rw[<-dE];exact lT
      have dF:SlOA OwnIn 24 C.heap.size (λj=>(Value.slice (some ⟨b4,o4,none⟩) M.length c4).ownBlock=some j\/wo.heap.size<=j) wo (.slice (some ⟨b5,o5,none⟩) M.length c5) (GS.map dy):=bK.more (λj U=>U);have aL:=j0 gk t
      have cj:∀g∈gk++[t],g<(ordP P).toNat:=λg hg=>by
       rcases List.mem_append.1 hg with h|h
       ·exact bk g h
       ·rw[List.mem_singleton.1 h];exact bj
      have a9:=hF.out.2.app z bj;rw[<-T.out.2] at a9;have dG:Sub P (genN P gk):=G.genN_sub bk;have HS:=Lib.hid (And.intro bN (And.intro cj (And.intro aL (And.intro a9 dG))));clear bN bk cj aL a9 dG lT bs ch hb O bK;go_wp2_with fail
      clear ah a0 cL;refine Calls.mono (l01Own_ok wo _ (dy gk) _ ci (by omega)) ?_;rintro eP wP ⟨pv,rfl,cN,cO⟩;clear ci;go_wp2_with (first|(at_builtin;refine wp_app_int rfl _ _ rfl wo.heap.size _ (dy gk) (t:Int) rfl wP cO rfl rfl (by omega) cN.size ?_;intro v8 w8 V F;have ck:Ext wo w8:=grown_own cN F (λb hb z=>by have:=(cO.lt b hb).1;omega))|fail)
      rw[<-HS.out.2.2.1] at V;have cP:=V.ints (by rw[fE];simp;omega);obtain⟨a8,c8,iz,_,_⟩:=cP.shape;subst iz;refine Calls.mono (xh P G w8 _ _ (gk++[t]) Any _ bC (Rows2.ext dv (grown_trans aK ck)) cP HS.out.2.1 (by simp;omega)) ?_;rintro eQ w9 ⟨qv,rfl,iA,rfl⟩;obtain⟨m2,cQ⟩:∃m2,m2=msk P (genN P (gk++[t])):=⟨_,rfl⟩;rw[<-cQ];have dH:=Lib.hid cQ;clear cQ;have dI:=grown_trans ck iA;have dJ:=V.ext0 iA;clear cP V F cN cO;generalize (dy (gk++[t])).length=ml at *;go_wp2;go_loopw [10,11] (λkv iv wr=>∃(i:Nat) (kn:Bool),kv=.bool kn/\iv=.int .i64 i/\i<=M.length/\Ext w9 wr/\Hid (kn=true↔m2∈M.take i)) (λ_ iv _=>M.length-(intOf iv).toNat)
      case atStart=>exact⟨0,false,rfl,rfl,by omega,Ext.refl _,Lib.hid (by simp)⟩
      case round=>
       obtain⟨i,kn,rfl,rfl,hi,lU,aM⟩:=hrel;have aq:=grown_trans dI lU;have cc:=bJ.ext0 aq;by_cases bO:i<M.length
       ·have es:(i:Int)<M.length:=by omega
        have a':m2∈M.take (i+1)↔m2∈M.take i\/gt M i=m2:=by
         rw[take_succ_gt M i bO,List.mem_append,List.mem_singleton];exact or_congr Iff.rfl eq_comm
        have O:=cc.ints (by rw[fE];omega);obtain⟨b6,o6,yY,_,_,cS⟩:=Ints.at (show Sl IntEl _ wr (.slice (some ⟨b4,o4,none⟩) M.length c4) (dy M) by rw[<-fE] at O ⊢;exact O) i (by rw[fE];exact bO);cases yY
        rw[jJ bO] at cS;clear O;cases kn with
        | true=>
         have HK:=Lib.hid (show(true=true)↔m2∈M.take (i+1) from⟨λ_=>a'.2 (.inl (aM.out.1 rfl)),λ_=>rfl⟩);clear a' aM cS;go_wp2;go_roundw
         case rel=>exact⟨i+1,true,rfl,by go_num,by omega,lU,HK⟩
         case measure=>simp[intOf];omega
        | false=>
         obtain⟨mi,bt⟩:∃mi,mi=gt M i:=⟨_,rfl⟩;rw[<-bt] at cS a';by_cases he:mi=m2
         ·have HK:=Lib.hid (show(true=true)↔m2∈M.take (i+1) from⟨λ_=>a'.2 (.inr he),λ_=>rfl⟩)
          clear a' aM bt;subst he;go_wp2;go_roundw
          case rel=>exact⟨i+1,true,by first|rfl|simp,by go_num,by omega,lU,HK⟩
          case measure=>simp[intOf];omega
         ·have HK:=Lib.hid (show(false=true)↔m2∈M.take (i+1) from⟨λh=>(by cases h),λh=>(a'.1 h).elim (λh2=>(by have:=aM.out.2 h2;cases this)) (λh2=>absurd h2 he)⟩)
          have et:((mi:Int) == (m2:Int))=false:=by rw[yV];simpa using he
          clear a' aM bt he;go_wp2;go_roundw
          case rel=>exact⟨i+1,false,by first|rfl|simp[et],by go_num,by omega,lU,HK⟩
          case measure=>simp[intOf];omega
       ·have aN:i=M.length:=by omega
        have bP:=aM.out;rw[aN,List.take_length] at bP;have dM:¬(i:Int)<M.length:=by omega
        have bQ:msk P (extP P (genN P gk) (elAt P (t:Int)))=m2:=by rw[dH.out,genN_app]
        have bR:=grown_trans aK aq;cases kn with
        | true=>
         have bM:=Lib.hid (And.intro (G.fnd_known (x:=t) hF.out.1 HS.out.2.2.2.2 (by rw[<-T.out.1];exact HS.out.1) (by rw[bQ];exact bP.1 rfl)) hF.out.2);have bu:=(dF.less (A':=λj=>(Value.slice (some ⟨b4,o4,none⟩) M.length c4).ownBlock=some j) (λj U => .inl U)).ext rdOwn aq;clear bP aM aN bQ hF;go_wp2;go_roundw
         case rel=>exact⟨M,GS,t+1,_,_,rfl,rfl,by go_num,by omega,by omega,z,bR,cc,bu,bM,T⟩
         case measure=>simp[intOf];omega
        | false=>
         have dN:¬m2∈M:=λh=>by have:=bP.2 h;cases this
         have cU:=G.fnd_new hF.out.1 z HS.out.2.2.2.2 (by rw[<-T.out.1];exact HS.out.1) bj (by rw[bQ];exact dN);rw[bQ] at cU;have cV:=HS.out.2.2.2.1;rw[<-dH.out] at cV;have cn:m=gt (M++[m2]) k/\gk=gt (GS++[gk++[t]]) k:=⟨by rw[gt_append_left _ _ _ z];exact T.out.1,by rw[gt_append_left _ _ _ (by rw[hF.out.2.len];exact z)];exact T.out.2⟩;have co:(GS++[gk++[t]]).map dy=GS.map dy++[dy (gk++[t])]:=by rw[List.map_append];rfl
         have bS:=j0 M m2;have cq:(M++[m2]).length=M.length+1:=by simp
         have dO:(GS.map dy).length<=1000000:=by omega
         have cs:(dy M).length<=1000000:=by rw[fE];omega
         have aO:=Lib.hid (And.intro cU (And.intro cV (And.intro cn (And.intro co (And.intro bS (And.intro cq (And.intro dO cs)))))));have bu:=dF.ext rdOwn aq;have ct:=dJ.ext0 lU;have dP:∀j,(Value.slice (some ⟨b4,o4,none⟩) M.length c4).ownBlock=some j->j<wo.heap.size:=λj U=>(bJ.lt j U).2;have cd:∀j,(Value.slice a8 ml c8).ownBlock=some j->wo.heap.size<=j/\j<wr.heap.size:=λj U=>ct.lt j U;have eO:=aq.size;have eR:=aK.size;clear bP aM aN bQ hF cU cV cn co bS cq dO cs dN
         have kA:∀wA,wr.grownBy wA (Value.slice (some ⟨b4,o4,none⟩) M.length c4).ownBlock->Ext C wA /\
           SlOA OwnIn 24 C.heap.size (λj=>((Value.slice (some ⟨b4,o4,none⟩) M.length c4).ownBlock=some j\/wo.heap.size<=j)/\j<wA.heap.size) wA (.slice (some ⟨b5,o5,none⟩) M.length c5) (GS.map dy) /\
           OwnIn (λj=>(Value.slice a8 ml c8).ownBlock=some j) wA (.slice a8 ml c8) (dy (gk++[t])):=by
          intro wA Z;refine⟨grown_own bR Z (λb hb z=>by have:=(cc.lt b hb).1;omega),?_,?_⟩
          ·refine SlOA.less (A:=λj=>(Value.slice (some ⟨b4,o4,none⟩) M.length c4).ownBlock=some j\/wo.heap.size<=j) ?_ (λj U=>U.1)
           cases hv:(Value.slice (some ⟨b4,o4,none⟩) M.length c4).ownBlock with
           | none=>rw[hv] at Z bu;exact bu.ext rdOwn Z
           | some r=>rw[hv] at Z bu;exact bu.kept rdOwn Z (.inl rfl)
          ·refine ⟨?_,λj U=>U,by rw[fE];simp;omega⟩
           have h1:=(ct.v.kept Z (by
            cases hv:(Value.slice a8 ml c8).ownBlock with
            | none=>exact .inl rfl
            | some r=>exact .inr (λe=>by have h2:=cd r hv;have h3:=dP r e.symm;omega)))
           exact Own.weak (Own.of h1) (Nat.zero_le _)
         have kB:∀(vA:Value) (wA:World),(∀j,vA.ownBlock=some j->(Value.slice (some ⟨b4,o4,none⟩) M.length c4).ownBlock=some j\/wr.heap.size<=j)->Own C.heap.size wA vA (dy M++[(m2:Int)]) ->
           ∀j,vA.ownBlock=some j->(((Value.slice (some ⟨b4,o4,none⟩) M.length c4).ownBlock=some j\/wo.heap.size<=j)/\j<wA.heap.size)/\¬(Value.slice a8 ml c8).ownBlock=some j:=by
          intro vA wA bU ay j U;refine⟨⟨(bU j U).imp id (λh=>by omega),(ay.lt j U).2⟩,λh => ?_⟩;have h1:=cd j h;rcases bU j U with h2|h2
          ·have:=dP j h2;omega
          ·omega
         go_wp2_with (first
          | (revert ay;intro ay;at_builtin;refine wp_app_take rfl _ _ rfl C.heap.size (λj=>((Value.slice (some ⟨b4,o4,none⟩) M.length c4).ownBlock=some j\/wo.heap.size<=j)/\j<wA.heap.size) (λj=>vA.ownBlock=some j) (λj=>(Value.slice a8 ml c8).ownBlock=some j) wA _ _ (GS.map dy) (dy (gk++[t])) rfl bV eu (λj U z=>⟨⟨.inr (cd j U).1,z⟩,by have:=(cd j U).1;omega⟩) (kB vA wA bU ay) (λj U=>U.2) rfl rfl aO.out.2.2.2.2.2.2.1 aC.size ?_;intro vB wB dQ az fb)
          | (at_builtin;refine nD rfl _ _ rfl C.heap.size _ (dy M) (m2:Int) rfl wr cc rfl rfl aO.out.2.2.2.2.2.2.2 bR.size ?_;intro vA wA ay Z bU;obtain⟨aC,bV,eu⟩:=kA wA Z)
          | fail)
         have au:Ext C wB:=grown_own aC az (λb hb z=>by have:=(bV.avoids b hb).2.1;omega)
         have bq:Own C.heap.size wB vA (dy M++[(m2:Int)]):=Own.of (ay.v.kept az (by
          cases hv:vA.ownBlock with
          | none=>exact .inl rfl
          | some r=>exact .inr (λe=>(bV.avoids r e.symm).1 (kB vA wA bU ay r hv).1)))
         rw[<-aO.out.2.2.2.2.1] at bq;rw[<-aO.out.2.2.2.1] at dQ;go_roundw
         case rel=>exact⟨M++[m2],GS++[gk++[t]],t+1,vA,vB,rfl,rfl,by go_num,by omega,by omega,by rw[aO.out.2.2.2.2.2.1];omega,au,bq,dQ,Lib.hid ⟨aO.out.1,aO.out.2.1⟩,Lib.hid aO.out.2.2.1⟩
         case measure=>simp[intOf];omega
    ·have fc:t=N:=by omega
     have bM:=Lib.hid (And.intro (hF.out.1.next (by have:=HB.out.2.2.2.1;omega)) hF.out.2);clear hF;have fd:¬(t:Int)<N:=by omega
     go_wp2;go_roundw
     case rel=>exact⟨M,GS,k+1,_,v5,rfl,rfl,by go_num,by omega,aK,bJ,bK,bM⟩
     case measure=>simp[intOf];omega
  ·have aN:k=M.length:=by omega
   have cv:∀H,Sub P H->msk P H∈M:=λH S=>by
    have h1:=hF.out.1;exact G.fnd_end h1 (by omega) S
   have cW:=hF.out.1.sub
   have cw:∀u,SubB P u↔∃j,j<M.length/\u=cseq P (ofMask P (gt M j)):=λu=>by
    constructor
    ·intro hu
     obtain⟨j,U,he⟩:=mem_gt (cv _ (G.subB hu));exact⟨j,U,by rw[he,G.ofMask_msk (G.subB hu)];exact hu.2⟩
    ·rintro ⟨j,U,rfl⟩
     obtain⟨H,S,e⟩:=cW _ (gt_mem U);rw[e,G.ofMask_msk S];exact G.subB_cseq S
   have HM:=Lib.hid (And.intro cw cW);clear cw cW cv hF;have dR:∀k,(wr.alloc (.cells #[.slice none 0 0,.slice none 0 0] 215)).frozen? ⟨wr.heap.size,k,none⟩=false:=λk=>by simp
   have dS:∀k,k<2->(wr.alloc (.cells #[.slice none 0 0,.slice none 0 0] 215)).cell? ⟨wr.heap.size,k,none⟩=some (.slice none 0 0):=λk hk=>by
    rw[World.cell?_alloc_at _ _ _ _ rfl];rcases(show k=0\/k=1 by omega) with rfl|rfl<;>rfl
   have dT:Ext wr (wr.alloc (.cells #[.slice none 0 0,.slice none 0 0] 215)):=World.grownBy_alloc _ _ _;have dU:wr.heap.size<(wr.alloc (.cells #[.slice none 0 0,.slice none 0 0] 215)).heap.size:=by simp
   have dV:=Lib.hid (And.intro dR (And.intro dS (And.intro dT dU)));clear dR dS dT dU hL;have dW:¬(k:Int)<M.length:=by omega
   clear O;go_wp2;clear dW aN z hk;obtain⟨wF,rfl⟩:∃wF:World,wF=wr:=⟨_,rfl⟩;obtain⟨p,cx⟩:∃p,p=wF.heap.size:=⟨_,rfl⟩;have cY:=dV.out;rw[<-cx] at cY ⊢;have eT:wF.heap.size<=p:=by omega
   have aP:=hg;clear hg;have bW:=Lib.hid cY;clear cY dV cx
   go_loopw [13] (λiv wr=>∃(i:Nat) (sv:Value) (L:List (List (List Int))),iv=.int .i64 i/\i<=M.length/\Ext wF wr/\wr.cell? ⟨p,0,none⟩=some sv/\wr.cell? ⟨p,1,none⟩=some (.slice none 0 0)/\(∀k,wr.frozen? ⟨p,k,none⟩=false)/\p<wr.heap.size /\
    Rows3 (λk=>k≠p/\wF.heap.size<=k) wr sv L/\Hid (L.Pairwise (subLt P)/\(∀u,u∈L↔∃j,j<i/\u=cseq P (ofMask P (gt M j)))/\L.length<=i)) (λiv _=>M.length-(intOf iv).toNat)
   case atStart=>exact⟨0,_,[],rfl,by omega,bW.out.2.2.1,bW.out.2.1 0 (by omega),bW.out.2.1 1 (by omega),bW.out.1,bW.out.2.2.2,⟨none,0,rfl,⟨by simp,by simp,λ_=>rfl⟩,λi hi=>by simp at hi⟩,Lib.hid ⟨List.Pairwise.nil,λu=>by simp,by simp⟩⟩
   case round=>
    obtain⟨i,sv,L,rfl,hi,hg,ho0,ho1,ak,aQ,hL,hI⟩:=hrel;have aJ:=grown_trans (grown_trans aW aP) hg;by_cases z:i<M.length
    ·have bI:(i:Int)<M.length:=by omega
     have cZ:=Pres3.ext cF aJ;have O:=hO.ints (by rw[fE];omega);obtain⟨b4,o4,hb4,_,Ds,bX⟩:=Ints.at (show Sl IntEl _ wF (.slice a4 M.length c4) (dy M) by rw[<-fE] at O ⊢;exact O) i (by rw[fE];exact z);rw[jJ z] at bX;have a0:=hg.cell bX (by simp);subst hb4;obtain⟨H,SH,c0⟩:=HM.out.2 _ (gt_mem z);have bl:=xB P G wr.drew (.agg #[bo,fB,fu]) H Any SH bC ⟨_,_,_,rfl,Pres3.ext cZ (grown_drew _ _)⟩;rw[<-c0] at bl;have dX:cseq P H=cseq P (ofMask P (gt M i)):=by rw[c0,G.ofMask_msk SH]
     have dY:∀v∈L,SubB P v:=λv hv=>by
      obtain⟨j,h1,h2⟩:=(hI.out.2.1 v).1 hv;exact(HM.out.1 v).2 ⟨j,by omega,h2⟩
     have ew:L.length<=i:=hI.out.2.2;have HX:=Lib.hid (And.intro ew (And.intro dX (And.intro dY (And.intro (G.subB_cseq SH) (And.intro hI.out.1 hI.out.2.1)))));obtain⟨mi,bt⟩:∃mi,mi=gt M i:=⟨_,rfl⟩;rw[<-bt] at a0 bl;obtain⟨sa,sc,lV,_,_⟩:=Sl.shape hL;subst lV;obtain⟨ax,ao,ap⟩:=HB.out.1 wr aJ;have bm:=aP.size;have bn:=aW.size;have c3:=HB.out.2.1;have e1:∀w',wr.grownBy w' (some p)->w'.cell? ⟨w.heap.size,0,none⟩=some bo:=λw' h=>h.cell ax (by simp;omega);have e2:∀w',wr.grownBy w' (some p)->w'.cell? ⟨w.heap.size,1,none⟩=some fB:=λw' h=>h.cell ao (by simp;omega);have e3:∀w',wr.grownBy w' (some p)->w'.cell? ⟨w.heap.size,2,none⟩=some fu:=λw' h=>h.cell ap (by simp;omega);have e4:∀w',wr.grownBy w' (some p)->w'.cell? ⟨b4,o4+i,none⟩=some (.int .i64 (mi:Int)):=λw' h=>h.cell a0 (by simp;omega);clear ax ao ap a0 bX hI dX dY bt O c0 SH c3 bm bn;go_wp2;refine wp_region_held_drew (S:=λw'=>wr.grownBy w' (some p)) (by kernel_rfl) (grown_drew _ _) (λy => ?_);refine tk 0 ?_;refine tk 1 ?_;refine tk 3 ?_;refine tk 4 ?_;refine tk 5 ?_;refine tk 6 ?_;refine tk 7 ?_;refine iW 2 8 (λD l => ?_) (λD l => ?_)
     ·go_simp
      refine ko l ?_ (λy => ?_)
      ·assumption
      clear l D;refine fD 8 (λD l => ?_);go_simp;go_at_call 304;refine Calls.mono bl ?_;rintro eA wA ⟨uv,rfl,Z,bb⟩;have I:Ext wr wA:=grown_trans (grown_drew _ _) Z;have aC:wr.grownBy wA (some p):=grown_of_ext _ I;have c6:=I.cell ho0 (by simp);obtain⟨ua,uc,jt,_,_⟩:=Sl.shape bb;subst jt;go_wp2_with fail
      refine ko l ?_ (λy => ?_)
      ·exact aC
      clear l D;refine fD 9 (λD l => ?_);go_simp;go_at_call 277;refine Calls.mono (sA P G wA _ _ _ L (cseq P H) Any (λk=>k≠p/\wF.heap.size<=k) ⟨_,_,_,rfl,Pres3.ext cZ I⟩ (Rows3.ext hL I) (Rows2.sub bb (λk hk _=>by have h1:wr.drew.heap.size<=k:=hk;have h2:=(grown_drew wr none).size;exact⟨by omega,by omega⟩)) HX.out.2.2.1 HX.out.2.2.2.1 HX.out.2.2.2.2.1 (by omega)) ?_;rintro eB wB ⟨rv,rfl,az,R,bY,bZ,b0,bc⟩;obtain⟨ra,rc,pH,_,_⟩:=Sl.shape bc;subst pH;have J:=grown_trans I az;have au:wr.grownBy wB (some p):=grown_of_ext _ J;have b1:=J.cell ho0 (by simp);have aR:=J.cell ho1 (by simp);have b2:∀k,wB.frozen? ⟨p,k,none⟩=false:=λk=>(World.frozen?_of_block (w:=wr) (J.block p aQ (by simp))).trans (ak k);have E:=iT wB ⟨p,0,none⟩ (.slice ra R.length rc);have Q:=grown_trans au E;have HR:=Lib.hid (And.intro bY (And.intro bZ (And.intro b0 bc)));clear bY bZ b0 bc bb;go_wp2_with fail
      refine ko l ?_ (λy => ?_)
      ·exact au
      clear l D;refine tk 10 ?_;refine fD 11 (λD l => ?_);go_simp;refine ko l ?_ (λy => ?_)
      ·exact Q
      clear l D;refine wpAnyH_done (by kernel_rfl) ?_ _;have al:(wB.setCell ⟨p,0,none⟩ (.slice ra R.length rc)).cell? ⟨p,0,none⟩=some (.slice ra R.length rc):=World.cell?_setCell_same _ _ _ b1;have aF:(wB.setCell ⟨p,0,none⟩ (.slice ra R.length rc)).cell? ⟨p,1,none⟩=some (.slice none 0 0):=(World.cell?_setCell_other _ _ _ _ (by simp)).trans aR;have aG:∀k,(wB.setCell ⟨p,0,none⟩ (.slice ra R.length rc)).frozen? ⟨p,k,none⟩=false:=λk=>by rw[World.frozen?_setCell];exact b2 k
      have aH:p<(wB.setCell ⟨p,0,none⟩ (.slice ra R.length rc)).heap.size:=by have:=E.size;have:=J.size;omega
      have c9:Ext wF (wB.setCell ⟨p,0,none⟩ (.slice ra R.length rc)):=grown_own (grown_trans hg J) E (λb hb z=>by have:p=b:=(by simpa using hb);omega);have c':Rows3 (λk=>k≠p/\wF.heap.size<=k) (wB.setCell ⟨p,0,none⟩ (.slice ra R.length rc)) (.slice ra R.length rc) R:=Rows3.mono HR.out.2.2.2 (frame_of E (λk hk z=>by have h1:k≠p/\wF.heap.size<=k:=(by have h2:=I.size;rcases hk with hk|hk;exact hk;exact⟨by omega,by omega⟩);exact⟨h1,λe=>h1.1 (by simpa using e.symm)⟩))
      have b3:Hid (R.Pairwise (subLt P)/\(∀u,u∈R↔∃j,j<i+1/\u=cseq P (ofMask P (gt M j)))/\R.length<=i+1):=Lib.hid ⟨HR.out.1,λu=>by
       rw[HR.out.2.1 u,HX.out.2.2.2.2.2 u];constructor
       ·rintro (⟨j,h1,h2⟩|h1)
        ·exact⟨j,by omega,h2⟩
        ·exact⟨i,by omega,by rw[<-HX.out.2.1];exact h1⟩
       ·rintro ⟨j,h1,h2⟩
        rcases Nat.lt_succ_iff_lt_or_eq.1 h1 with h3|h3
        ·exact .inl ⟨j,h3,h2⟩
        ·subst h3;exact .inr (by rw[h2,<-HX.out.2.1]),by have:=HR.out.2.2.1;omega⟩
      clear c6 b1 aR ho0 ho1 ak b2;go_wp2;go_roundw
      case rel=>exact⟨i+1,_,R,by go_num,by omega,c9,al,aF,aG,aH,c',b3⟩
      case measure=>simp[intOf];omega
     ·go_simp
      go_at_call 304;refine Calls.mono bl ?_;rintro eA wA ⟨uv,rfl,Z,bb⟩;have I:Ext wr wA:=grown_trans (grown_drew _ _) Z;have aC:wr.grownBy wA (some p):=grown_of_ext _ I;have c6:=I.cell ho0 (by simp);obtain⟨ua,uc,jt,_,_⟩:=Sl.shape bb;subst jt;go_wp2_with fail
      refine ko l ?_ (λy => ?_)
      ·exact aC
      clear l D;refine fD 2 (λD l => ?_);go_simp;refine ko l ?_ (λy => ?_)
      ·assumption
      clear l D;refine fD 9 (λD l => ?_);go_simp;go_at_call 277;refine Calls.mono (sA P G wA _ _ _ L (cseq P H) Any (λk=>k≠p/\wF.heap.size<=k) ⟨_,_,_,rfl,Pres3.ext cZ I⟩ (Rows3.ext hL I) (Rows2.sub bb (λk hk _=>by have h1:wr.drew.heap.size<=k:=hk;have h2:=(grown_drew wr none).size;exact⟨by omega,by omega⟩)) HX.out.2.2.1 HX.out.2.2.2.1 HX.out.2.2.2.2.1 (by omega)) ?_;rintro eB wB ⟨rv,rfl,az,R,bY,bZ,b0,bc⟩;obtain⟨ra,rc,pH,_,_⟩:=Sl.shape bc;subst pH;have J:=grown_trans I az;have au:wr.grownBy wB (some p):=grown_of_ext _ J;have b1:=J.cell ho0 (by simp);have aR:=J.cell ho1 (by simp);have b2:∀k,wB.frozen? ⟨p,k,none⟩=false:=λk=>(World.frozen?_of_block (w:=wr) (J.block p aQ (by simp))).trans (ak k);have E:=iT wB ⟨p,0,none⟩ (.slice ra R.length rc);have Q:=grown_trans au E;have HR:=Lib.hid (And.intro bY (And.intro bZ (And.intro b0 bc)));clear bY bZ b0 bc bb;go_wp2_with fail
      refine ko l ?_ (λy => ?_)
      ·exact au
      clear l D;refine tk 10 ?_;refine fD 11 (λD l => ?_);go_simp;refine ko l ?_ (λy => ?_)
      ·exact Q
      clear l D;refine wpAnyH_done (by kernel_rfl) ?_ _;have al:(wB.setCell ⟨p,0,none⟩ (.slice ra R.length rc)).cell? ⟨p,0,none⟩=some (.slice ra R.length rc):=World.cell?_setCell_same _ _ _ b1;have aF:(wB.setCell ⟨p,0,none⟩ (.slice ra R.length rc)).cell? ⟨p,1,none⟩=some (.slice none 0 0):=(World.cell?_setCell_other _ _ _ _ (by simp)).trans aR;have aG:∀k,(wB.setCell ⟨p,0,none⟩ (.slice ra R.length rc)).frozen? ⟨p,k,none⟩=false:=λk=>by rw[World.frozen?_setCell];exact b2 k
      have aH:p<(wB.setCell ⟨p,0,none⟩ (.slice ra R.length rc)).heap.size:=by have:=E.size;have:=J.size;omega
      have c9:Ext wF (wB.setCell ⟨p,0,none⟩ (.slice ra R.length rc)):=grown_own (grown_trans hg J) E (λb hb z=>by have:p=b:=(by simpa using hb);omega);have c':Rows3 (λk=>k≠p/\wF.heap.size<=k) (wB.setCell ⟨p,0,none⟩ (.slice ra R.length rc)) (.slice ra R.length rc) R:=Rows3.mono HR.out.2.2.2 (frame_of E (λk hk z=>by have h1:k≠p/\wF.heap.size<=k:=(by have h2:=I.size;rcases hk with hk|hk;exact hk;exact⟨by omega,by omega⟩);exact⟨h1,λe=>h1.1 (by simpa using e.symm)⟩))
      have b3:Hid (R.Pairwise (subLt P)/\(∀u,u∈R↔∃j,j<i+1/\u=cseq P (ofMask P (gt M j)))/\R.length<=i+1):=Lib.hid ⟨HR.out.1,λu=>by
       rw[HR.out.2.1 u,HX.out.2.2.2.2.2 u];constructor
       ·rintro (⟨j,h1,h2⟩|h1)
        ·exact⟨j,by omega,h2⟩
        ·exact⟨i,by omega,by rw[<-HX.out.2.1];exact h1⟩
       ·rintro ⟨j,h1,h2⟩
        rcases Nat.lt_succ_iff_lt_or_eq.1 h1 with h3|h3
        ·exact .inl ⟨j,h3,h2⟩
        ·subst h3;exact .inr (by rw[h2,<-HX.out.2.1]),by have:=HR.out.2.2.1;omega⟩
      clear c6 b1 aR ho0 ho1 ak b2;go_wp2;go_roundw
      case rel=>exact⟨i+1,_,R,by go_num,by omega,c9,al,aF,aG,aH,c',b3⟩
      case measure=>simp[intOf];omega
    ·have aN:i=M.length:=by omega
     have b8:LatL P L:=⟨hI.out.1,λu=>by rw[hI.out.2.1 u,aN];exact(HM.out.1 u).symm⟩;have fn:L.length<=100000:=by have:=hI.out.2.2;omega
     obtain⟨sa,sc,lV,_,_⟩:=Sl.shape hL;subst lV;have cy:0<L.length:=(G.oQ b8).1;obtain⟨bL,oL,_,_,hbL,dZ,_,_,_⟩:=Rows3.at hL 0 cy;have HL:=Lib.hid b8;clear b8 hI cy;subst hbL;have dZ:bL≠p:=dZ.1;have dM:¬(i:Int)<M.length:=by omega
     go_wp2;clear dM aN z hi;obtain⟨wZ,rfl⟩:∃wZ:World,wZ=wr:=⟨_,rfl⟩;have da:=grown_trans aP hg;have av:=grown_trans aW da;clear hg
     go_loopw [14] (λkv wr=>∃(k:Nat) (mv:Value),kv=.int .i64 k/\k<=L.length/\wZ.grownBy wr (some p)/\wr.cell? ⟨p,0,none⟩=some (.slice (some ⟨bL,oL,none⟩) L.length sc)/\wr.cell? ⟨p,1,none⟩=some mv/\(∀k,wr.frozen? ⟨p,k,none⟩=false)/\p<wr.heap.size /\
      Own wZ.heap.size wr mv (dy ((L.take k).map (mskU P)))) (λkv _=>L.length-(intOf kv).toNat)
     case atStart=>exact⟨0,_,rfl,by omega,grown_refl _ _,ho0,ho1,ak,aQ,World.ownsRow_nil _ _ _ _⟩
     case round=>
      have eV:=aQ;clear ho0 ho1 ak aQ;obtain⟨k,mv,rfl,hk,hg,ho0,ho1,ak,aQ,hO⟩:=hrel;by_cases z:k<L.length
      ·have bI:(k:Int)<L.length:=by omega
       obtain⟨b7,o7,a7,c7,yZ,nE,hbl,db,dc⟩:=Rows3.at hL k z;cases yZ
       have cf:=(HL.out.2 _).1 (gt_mem z);obtain⟨u,hu⟩:∃u,u=gt L k:=⟨_,rfl⟩;rw[<-hu] at db dc cf
       have cz:Rows2 Any wr.drew (.slice a7 u.length c7) (cseq P (genP P (λx=>x∈u))):=by
        rw[<-cf.2];exact Rows2.mono dc (frame_of (grown_trans hg (grown_drew wr (some p))) (λj U _=>⟨trivial,λe=>U.1 (by simpa using e.symm)⟩))
       have bm:=da.size;have bn:=aW.size;have cA:=aP.size;have d':Pres3 Any wr.drew bo fB fu P:=Pres3.mono cF (λj _ z=>⟨trivial,Nat.lt_of_lt_of_le z (Nat.le_trans av.size (grown_trans hg (grown_drew wr (some p))).size),((grown_trans hg (grown_drew wr (some p))).block j (Nat.lt_of_lt_of_le z av.size) (λe=>by have:p=j:=(by first|simpa using e|simpa using e.symm);omega)).trans (av.block j z (by simp))⟩);have bd:=yT P G wr.drew (.agg #[bo,fB,fu]) (.slice a7 u.length c7) _ Any Any (G.subB cf) bC ⟨_,_,_,rfl,d'⟩ cz;obtain⟨q,hq⟩:∃q,q=msk P (genP P (λx=>x∈u)):=⟨_,rfl⟩;rw[<-hq] at bd
       have aL:dy ((L.take (k+1)).map (mskU P))=dy ((L.take k).map (mskU P))++[(q:Int)]:=by
        rw[take_succ_gt L k z,List.map_append,List.map_singleton,j0,hq,hu];rfl
       have ea:(dy ((L.take k).map (mskU P))).length<=1000000:=by rw[fE,List.length_map,List.length_take];omega
       have HU:=Lib.hid (And.intro aL ea);clear aL ea hq cf cz d' hu dc
       obtain ⟨bw,bx,bz,jN⟩:∃a n c,mv=.slice a n c:=by
        rcases hO.2 with⟨h1,_⟩|⟨g,cp,_,h1,_⟩<;>exact⟨_,_,_,h1⟩
       subst jN;obtain⟨ax,ao,ap⟩:=HB.out.1 wZ av;have c3:=HB.out.2.1;have eW:=hg.size;have e1:∀w',wZ.grownBy w' (some p)->w'.cell? ⟨w.heap.size,0,none⟩=some bo:=λw' h=>h.cell ax (by simp;omega);have e2:∀w',wZ.grownBy w' (some p)->w'.cell? ⟨w.heap.size,1,none⟩=some fB:=λw' h=>h.cell ao (by simp;omega);have e3:∀w',wZ.grownBy w' (some p)->w'.cell? ⟨w.heap.size,2,none⟩=some fu:=λw' h=>h.cell ap (by simp;omega);have e4:∀w',wZ.grownBy w' (some p)->w'.cell? ⟨bL,oL+k,none⟩=some (.slice a7 u.length c7):=λw' h=>h.cell db (by simp;omega);clear ax ao ap db c3 bm bn cA;go_wp2;refine wp_region_held_drew (S:=λw'=>wZ.grownBy w' (some p)/\w'.cell? ⟨p,0,none⟩=some (.slice (some ⟨bL,oL,none⟩) L.length sc)) (by kernel_rfl) ⟨grown_trans hg (grown_drew _ _),ho0⟩ (λy => ?_);refine tk 0 ?_ (hy:=by intro w B;(try dsimp only at B);obtain⟨B,jw⟩:=B;go_simp;try with_reducible rfl);refine tk 2 ?_ (hy:=by intro w B;(try dsimp only at B);obtain⟨B,jw⟩:=B;go_simp;try with_reducible rfl);refine tk 3 ?_ (hy:=by intro w B;(try dsimp only at B);obtain⟨B,jw⟩:=B;go_simp;try with_reducible rfl);refine tk 4 ?_ (hy:=by intro w B;(try dsimp only at B);obtain⟨B,jw⟩:=B;go_simp;try with_reducible rfl);refine tk 5 ?_ (hy:=by intro w B;(try dsimp only at B);obtain⟨B,jw⟩:=B;go_simp;try with_reducible rfl);refine tk 6 ?_ (hy:=by intro w B;(try dsimp only at B);obtain⟨B,jw⟩:=B;go_simp;try with_reducible rfl);refine tk 7 ?_ (hy:=by intro w B;(try dsimp only at B);obtain⟨B,jw⟩:=B;go_simp;try with_reducible rfl);refine iW 1 8 (λD l => ?_) (λD l => ?_)
       ·go_simp
        refine ko l ?_ (λy => ?_)
        ·assumption
        clear l D;refine fD 8 (λD l => ?_);go_simp;go_at_call 305;refine Calls.mono bd ?_;rintro eK wK ⟨kv,rfl,dd,rfl⟩;have K:Ext wr wK:=grown_trans (grown_drew _ _) dd;have ae:wZ.grownBy wK (some p):=grown_trans hg (grown_of_ext _ K);have am:=K.cell ho0 (by simp);have be:=K.cell ho1 (by simp);have bf:∀k,wK.frozen? ⟨p,k,none⟩=false:=λk=>(World.frozen?_of_block (w:=wr) (K.block p aQ (by simp))).trans (ak k);have bg:=hO.ext0 K;have ey:=K.size;have eb:p<wK.heap.size:=by omega
        go_wp2_with fail
        refine ko l ?_ (λy => ?_)
        ·exact⟨ae,am⟩
        clear l D;refine fD 9 (λD l => ?_);go_simp;refine ko l ?_ (λy => ?_)
        ·exact⟨grown_trans ae (grown_of_ext _ (World.grownBy_alloc _ _ _)),(World.grownBy_alloc wK _ none).cell am (by simp)⟩
        clear l D;refine fD 10 (λD l => ?_);refine step_app_int rfl _ _ rfl wZ.heap.size (.slice bw bx bz) (dy ((L.take k).map (mskU P))) (q:Int) rfl wK bg rfl rfl HU.out.2 (by omega) ?_;intro v8 w8 V F;have af:∀b,(Value.slice bw bx bz).ownBlock=some b->wZ.heap.size<=b:=λb hb=>(bg.lt b hb).1;have aw:=F.cell am (λe=>by have h0:wZ.heap.size<=p:=af _ e.symm;omega);have aS:=F.cell be (λe=>by have h0:wZ.heap.size<=p:=af _ e.symm;omega);have aT:∀k,w8.frozen? ⟨p,k,none⟩=false:=λk=>(World.frozen?_of_block (w:=wK) (F.block p (by omega) (λe=>by have:=af _ e.symm;omega))).trans (bf k);have aj:wZ.grownBy w8 (some p):=grown_own ae F (λb hb z=>by have:=af b hb;omega);obtain⟨W,X,Y,iU⟩:∃a n c,v8=.slice a n c:=(by rcases V.2 with⟨h1,_⟩|⟨g,cp,_,h1,_⟩<;>exact⟨_,_,_,h1⟩);subst iU;have E:=iT w8 ⟨p,1,none⟩ (.slice W X Y);have al:(w8.setCell ⟨p,1,none⟩ (.slice W X Y)).cell? ⟨p,0,none⟩=some (.slice (some ⟨bL,oL,none⟩) L.length sc):=(World.cell?_setCell_other _ _ _ _ (by simp)).trans aw;have aF:(w8.setCell ⟨p,1,none⟩ (.slice W X Y)).cell? ⟨p,1,none⟩=some (.slice W X Y):=World.cell?_setCell_same _ _ _ aS;have aG:∀k,(w8.setCell ⟨p,1,none⟩ (.slice W X Y)).frozen? ⟨p,k,none⟩=false:=λk=>by rw[World.frozen?_setCell];exact aT k
        have aH:p<(w8.setCell ⟨p,1,none⟩ (.slice W X Y)).heap.size:=by have:=E.size;have:=F.size;omega
        have aU:(Value.slice W X Y).ownBlock=none\/(Value.slice W X Y).ownBlock≠some p := .inr (λe=>by have:=(V.lt _ e).1;omega);have b9:Own wZ.heap.size (w8.setCell ⟨p,1,none⟩ (.slice W X Y)) (.slice W X Y) (dy ((L.take (k+1)).map (mskU P))):=by rw[HU.out.1];exact Own.of (V.v.kept E aU)
        have Q:=grown_trans aj E;refine ko l ?_ (λy => ?_)
        ·exact⟨aj,aw⟩
        clear l D;refine tk 11 ?_ (hy:=by intro w B;(try dsimp only at B);obtain⟨B,jw⟩:=B;go_simp;try with_reducible rfl);refine fD 12 (λD l => ?_);go_simp;refine ko l ?_ (λy => ?_)
        ·exact⟨Q,al⟩
        clear l D;refine wpAnyH_done (by kernel_rfl) ?_ _;clear am be bf aw aS aT ho0 ho1 ak;go_wp2;go_roundw
        case rel=>exact⟨k+1,_,by go_num,by omega,Q,al,aF,aG,aH,b9⟩
        case measure=>simp[intOf];omega
       ·go_simp
        go_at_call 305;refine Calls.mono bd ?_;rintro eK wK ⟨kv,rfl,dd,rfl⟩;have K:Ext wr wK:=grown_trans (grown_drew _ _) dd;have ae:wZ.grownBy wK (some p):=grown_trans hg (grown_of_ext _ K);have am:=K.cell ho0 (by simp);have be:=K.cell ho1 (by simp);have bf:∀k,wK.frozen? ⟨p,k,none⟩=false:=λk=>(World.frozen?_of_block (w:=wr) (K.block p aQ (by simp))).trans (ak k);have bg:=hO.ext0 K;have ey:=K.size;have eb:p<wK.heap.size:=by omega
        go_wp2_with fail
        refine ko l ?_ (λy => ?_)
        ·exact⟨ae,am⟩
        clear l D;refine iW 1 9 (λD l => ?_) (λD l => ?_)
        ·go_simp
         refine ko l ?_ (λy => ?_)
         ·assumption
         clear l D;refine fD 9 (λD l => ?_);go_simp;refine ko l ?_ (λy => ?_)
         ·exact⟨grown_trans ae (grown_of_ext _ (World.grownBy_alloc _ _ _)),(World.grownBy_alloc wK _ none).cell am (by simp)⟩
         clear l D;refine fD 10 (λD l => ?_);refine step_app_int rfl _ _ rfl wZ.heap.size (.slice bw bx bz) (dy ((L.take k).map (mskU P))) (q:Int) rfl wK bg rfl rfl HU.out.2 (by omega) ?_;intro v8 w8 V F;have af:∀b,(Value.slice bw bx bz).ownBlock=some b->wZ.heap.size<=b:=λb hb=>(bg.lt b hb).1;have aw:=F.cell am (λe=>by have h0:wZ.heap.size<=p:=af _ e.symm;omega);have aS:=F.cell be (λe=>by have h0:wZ.heap.size<=p:=af _ e.symm;omega);have aT:∀k,w8.frozen? ⟨p,k,none⟩=false:=λk=>(World.frozen?_of_block (w:=wK) (F.block p (by omega) (λe=>by have:=af _ e.symm;omega))).trans (bf k);have aj:wZ.grownBy w8 (some p):=grown_own ae F (λb hb z=>by have:=af b hb;omega);obtain⟨W,X,Y,iU⟩:∃a n c,v8=.slice a n c:=(by rcases V.2 with⟨h1,_⟩|⟨g,cp,_,h1,_⟩<;>exact⟨_,_,_,h1⟩);subst iU;have E:=iT w8 ⟨p,1,none⟩ (.slice W X Y);have al:(w8.setCell ⟨p,1,none⟩ (.slice W X Y)).cell? ⟨p,0,none⟩=some (.slice (some ⟨bL,oL,none⟩) L.length sc):=(World.cell?_setCell_other _ _ _ _ (by simp)).trans aw;have aF:(w8.setCell ⟨p,1,none⟩ (.slice W X Y)).cell? ⟨p,1,none⟩=some (.slice W X Y):=World.cell?_setCell_same _ _ _ aS;have aG:∀k,(w8.setCell ⟨p,1,none⟩ (.slice W X Y)).frozen? ⟨p,k,none⟩=false:=λk=>by rw[World.frozen?_setCell];exact aT k
         have aH:p<(w8.setCell ⟨p,1,none⟩ (.slice W X Y)).heap.size:=by have:=E.size;have:=F.size;omega
         have aU:(Value.slice W X Y).ownBlock=none\/(Value.slice W X Y).ownBlock≠some p := .inr (λe=>by have:=(V.lt _ e).1;omega);have b9:Own wZ.heap.size (w8.setCell ⟨p,1,none⟩ (.slice W X Y)) (.slice W X Y) (dy ((L.take (k+1)).map (mskU P))):=by rw[HU.out.1];exact Own.of (V.v.kept E aU)
         have Q:=grown_trans aj E;refine ko l ?_ (λy => ?_)
         ·exact⟨aj,aw⟩
         clear l D;refine tk 11 ?_ (hy:=by intro w B;(try dsimp only at B);obtain⟨B,jw⟩:=B;go_simp;try with_reducible rfl);refine fD 12 (λD l => ?_);go_simp;refine ko l ?_ (λy => ?_)
         ·exact⟨Q,al⟩
         clear l D;refine wpAnyH_done (by kernel_rfl) ?_ _;clear am be bf aw aS aT ho0 ho1 ak;go_wp2;go_roundw
         case rel=>exact⟨k+1,_,by go_num,by omega,Q,al,aF,aG,aH,b9⟩
         case measure=>simp[intOf];omega
        ·go_simp
         refine ko l ?_ (λy => ?_)
         ·exact⟨grown_trans ae (grown_of_ext _ (World.grownBy_alloc _ _ _)),(World.grownBy_alloc wK _ none).cell am (by simp)⟩
         clear l D;refine fD 1 (λD l => ?_);go_simp;refine ko l ?_ (λy => ?_)
         ·assumption
         clear l D;refine fD 10 (λD l => ?_);refine step_app_int rfl _ _ rfl wZ.heap.size (.slice bw bx bz) (dy ((L.take k).map (mskU P))) (q:Int) rfl wK bg rfl rfl HU.out.2 (by omega) ?_;intro v8 w8 V F;have af:∀b,(Value.slice bw bx bz).ownBlock=some b->wZ.heap.size<=b:=λb hb=>(bg.lt b hb).1;have aw:=F.cell am (λe=>by have h0:wZ.heap.size<=p:=af _ e.symm;omega);have aS:=F.cell be (λe=>by have h0:wZ.heap.size<=p:=af _ e.symm;omega);have aT:∀k,w8.frozen? ⟨p,k,none⟩=false:=λk=>(World.frozen?_of_block (w:=wK) (F.block p (by omega) (λe=>by have:=af _ e.symm;omega))).trans (bf k);have aj:wZ.grownBy w8 (some p):=grown_own ae F (λb hb z=>by have:=af b hb;omega);obtain⟨W,X,Y,iU⟩:∃a n c,v8=.slice a n c:=(by rcases V.2 with⟨h1,_⟩|⟨g,cp,_,h1,_⟩<;>exact⟨_,_,_,h1⟩);subst iU;have E:=iT w8 ⟨p,1,none⟩ (.slice W X Y);have al:(w8.setCell ⟨p,1,none⟩ (.slice W X Y)).cell? ⟨p,0,none⟩=some (.slice (some ⟨bL,oL,none⟩) L.length sc):=(World.cell?_setCell_other _ _ _ _ (by simp)).trans aw;have aF:(w8.setCell ⟨p,1,none⟩ (.slice W X Y)).cell? ⟨p,1,none⟩=some (.slice W X Y):=World.cell?_setCell_same _ _ _ aS;have aG:∀k,(w8.setCell ⟨p,1,none⟩ (.slice W X Y)).frozen? ⟨p,k,none⟩=false:=λk=>by rw[World.frozen?_setCell];exact aT k
         have aH:p<(w8.setCell ⟨p,1,none⟩ (.slice W X Y)).heap.size:=by have:=E.size;have:=F.size;omega
         have aU:(Value.slice W X Y).ownBlock=none\/(Value.slice W X Y).ownBlock≠some p := .inr (λe=>by have:=(V.lt _ e).1;omega);have b9:Own wZ.heap.size (w8.setCell ⟨p,1,none⟩ (.slice W X Y)) (.slice W X Y) (dy ((L.take (k+1)).map (mskU P))):=by rw[HU.out.1];exact Own.of (V.v.kept E aU)
         have Q:=grown_trans aj E;refine ko l ?_ (λy => ?_)
         ·exact⟨aj,aw⟩
         clear l D;refine tk 11 ?_ (hy:=by intro w B;(try dsimp only at B);obtain⟨B,jw⟩:=B;go_simp;try with_reducible rfl);refine fD 12 (λD l => ?_);go_simp;refine ko l ?_ (λy => ?_)
         ·exact⟨Q,al⟩
         clear l D;refine wpAnyH_done (by kernel_rfl) ?_ _;clear am be bf aw aS aT ho0 ho1 ak;go_wp2;go_roundw
         case rel=>exact⟨k+1,_,by go_num,by omega,Q,al,aF,aG,aH,b9⟩
         case measure=>simp[intOf];omega
      ·have fp:k=L.length:=by omega
       have de:Own wZ.heap.size wr mv (dy (L.map (mskU P))):=by rw[List.take_of_length_le (by omega)] at hO;exact hO
       have df:Ints (λj=>w0.heap.size<=j) wr mv (dy (L.map (mskU P))):=ints_of_own de (by rw[fE,List.length_map];omega) (λj U=>by
        have h1:=(de.lt j U).1;have:=av.size;omega)
       obtain⟨ma,mc,jN,_,_⟩:=df.shape;subst jN;have bm:=da.size;have bn:=aW.size;have cA:=aP.size;have eX:=b'.size;have bs:Rows3 (λj=>w0.heap.size<=j) wr (.slice (some ⟨bL,oL,none⟩) L.length sc) L:=Rows3.mono hL (frame_of hg (λj U _=>⟨by have:=U.2;omega,λe=>U.1 (by simpa using e.symm)⟩));have eY:=HB.out.2.1
       have bp:∀k,k<2->wr.cell? ⟨w.heap.size+1,k,none⟩=some (.slice none 0 0)/\wr.frozen? ⟨w.heap.size+1,k,none⟩=false:=λk hk=>by
        have h1:=(grown_of_ext (some p) av);have h2:=grown_trans h1 hg;exact⟨h2.cell (HB.out.2.2.1 k hk).1 (by simp;omega),(World.frozen?_of_block (w:=w0) (h2.block (w.heap.size+1) (by omega) (by simp;omega))).trans (HB.out.2.2.1 k hk).2⟩
       obtain⟨ez,pI⟩:=bp 0 (by omega);obtain⟨eC,Dt⟩:=bp 1 (by omega);have ed:Ext w wr:=grown_own (grown_trans b' av) hg (λb hb z=>by have:p=b:=(by simpa using hb);omega);generalize (dy (L.map (mskU P))).length=nl at *;have HR:=Lib.hid (And.intro df (And.intro bs ed));clear df bs ed bp hO de;have dW:¬(k:Int)<L.length:=by omega
       have cg:wr.grownBy ((wr.setCell ⟨w.heap.size+1,0,none⟩ (.slice (some ⟨bL,oL,none⟩) L.length sc)).setCell ⟨w.heap.size+1,1,none⟩ (.slice ma nl mc)) (some (w.heap.size+1)):=grown_trans (iT wr ⟨w.heap.size+1,0,none⟩ _) (iT _ ⟨w.heap.size+1,1,none⟩ _);have ee:=grown_own HR.out.2.2 cg (λb hb z=>by have:w.heap.size+1=b:=(by simpa using hb);omega);have ef:Rows3 (From w.heap.size) ((wr.setCell ⟨w.heap.size+1,0,none⟩ (.slice (some ⟨bL,oL,none⟩) L.length sc)).setCell ⟨w.heap.size+1,1,none⟩ (.slice ma nl mc)) (.slice (some ⟨bL,oL,none⟩) L.length sc) L:=Rows3.mono HR.out.2.1 (frame_of cg (λj U _=>⟨by show w.heap.size<=j;omega,λe=>by have:w.heap.size+1=j:=(by simpa using e);omega⟩));have eg:Ints (From w.heap.size) ((wr.setCell ⟨w.heap.size+1,0,none⟩ (.slice (some ⟨bL,oL,none⟩) L.length sc)).setCell ⟨w.heap.size+1,1,none⟩ (.slice ma nl mc)) (.slice ma nl mc) (dy (L.map (mskU P))):=Ints.mono HR.out.1 (frame_of cg (λj U _=>⟨by show w.heap.size<=j;omega,λe=>by have:w.heap.size+1=j:=(by simpa using e);omega⟩));have H9:=Lib.hid (And.intro ee (And.intro ef eg));clear ee ef eg cg;go_wp2;have q0:((wr.setCell ⟨w.heap.size+1,0,none⟩ (.slice (some ⟨bL,oL,none⟩) L.length sc)).setCell ⟨w.heap.size+1,1,none⟩ (.slice ma nl mc)).cell? ⟨w.heap.size+1,0,none⟩=some (.slice (some ⟨bL,oL,none⟩) L.length sc):=(World.cell?_setCell_other _ _ _ _ (by simp)).trans (World.cell?_setCell_same _ _ _ ez);have q1:((wr.setCell ⟨w.heap.size+1,0,none⟩ (.slice (some ⟨bL,oL,none⟩) L.length sc)).setCell ⟨w.heap.size+1,1,none⟩ (.slice ma nl mc)).cell? ⟨w.heap.size+1,1,none⟩=some (.slice ma nl mc):=World.cell?_setCell_same _ _ _ ((World.cell?_setCell_other _ _ _ _ (by simp)).trans eC);refine bodyPost_ret (v := .agg #[.slice (some ⟨bL,oL,none⟩) L.length sc,.slice ma nl mc]) (by simp[results,Tryz.results264,go_sem,q0,q1]) rfl ?_;exact⟨_,rfl,H9.out.1,_,_,rfl,L,HL.out,H9.out.2.1,H9.out.2.2⟩
theorem sF {B B' E i:Nat}{w:World}{v j:Value}{xs b:List Value}(h:OwnV B E w v xs) (k:OwnV B' i w j b) (l:E≠i):v.ownBlock=none\/v.ownBlock≠j.ownBlock:=by
 obtain⟨_,⟨rfl,_⟩|⟨g,cap,cur,rfl,_,m,_⟩⟩:=h
 ·exact .inl rfl
 ·right
  obtain⟨_,⟨rfl,_⟩|⟨n,cap',cur',rfl,_,a,_⟩⟩:=k
  ·intro e;cases e
  ·intro e
   have p:g=n:=by simpa [Value.ownBlock] using e
   subst p;rw[m] at a;simp only[Option.some.injEq,Obj.cells.injEq] at a;exact l a.2.1
theorem nG {S:Nat->Prop}{B B':Nat}{w:World}{v a:Value}{xs:List (List (List Int))}{l:List Int}(h:fU S B w v xs) (b:Own B' w a l):(v.ownBlock=none\/v.ownBlock≠a.ownBlock)/\(a.ownBlock=none\/a.ownBlock≠v.ownBlock):=by
 obtain⟨e,_,h2,_⟩:=h;exact⟨sF h2 b.v (by decide),sF b.v h2 (by decide)⟩
theorem sG {B H:Nat}{w:World}(hB:B<=w.heap.size) (hH:w.heap.size=H):Own B (w.alloc (.cells #[] 2)) (.slice (some ⟨H,0,none⟩) 0 0) []:=by
 subst hH;exact World.ownsRow_lit w #[] 0 hB (by decide) rfl
end Go.Proofs.YtdcobapnlpeaaaaGreat
namespace Go.Proofs.YtdcobapnlpeaaaaGreat
open Go.RowKit
open Go.Maps (Keyed)
theorem y4:Tryz.prog.underlying 213=some (.map 9 4):=by kernel_rfl
theorem y5 (w:World):(Instr.makeMap 213 none).run Tryz.prog w=.ok (.map (some w.heap.size)) (w.alloc (.map #[] 0)):=by kernel_rfl
def lW:iB ByteArray Bool where
 t:=213
 k:=9
 e:=4
 kv s := .string s
 kl s := .string s.data.toList
 j4 s:=s.size<=maxLen
 ev x := .bool x
 el x := .bool x
 kK _:=True
 z:=false
 keyed:=Maps.string_keyed kM
 und:=y4
 key s hs:=WideMaps.keyOf_string_mk kM hs
 inj a c h:=by
  cases a with|mk a=>cases c with|mk c=>
  simp only[Lit.string.injEq] at h;rw[Array.toList_inj.1 h]
 isKey _:=trivial
 elem x _:=plainElem_bool mY x
 inv v x ps h:=by
  unfold plainElem at h;rw[mY] at h;cases v<;>simp at h
  rw[h.1]
 zero w:=by kernel_rfl
 mW:=trivial
theorem y6 (P:Pr):(allEl P).length=(ordP P).toNat:=by unfold allEl;rw[List.length_map,List.length_range]
theorem y7 {P:Pr}{t:Nat}(h:t<(ordP P).toNat):gt (allEl P) t=elAt P (t:Int):=by
 unfold allEl;rw[gt_map _ _ _ (by rw[List.length_range];exact h)];congr 2
 simp[gt,h]
def iC (S:List (List (List Int))) (s:ByteArray):Bool:=S.any (λv=>decide (fL v=s))
theorem sH {P:Pr}(hP:Valid P) {S:List (List (List Int))}(b:∀v∈S,SubB P v) {u:List (List Int)}(e:SubB P u):iC S (fL u)=decide (u∈S):=by
 rw[Bool.eq_iff_iff,decide_eq_true_iff];unfold iC;rw[List.any_eq_true];constructor
 ·rintro ⟨v,a,h⟩
  rw[<-rW hP (b v a) e (of_decide_eq_true h)];exact a
 ·intro h;exact⟨u,h,by simp⟩
theorem y8 (S:List (List (List Int))) (u:List (List Int)) (s:ByteArray):(if s=fL u then true else iC S s)=iC (S++[u]) s:=by
 unfold iC;rw[List.any_append,List.any_cons,List.any_nil,Bool.or_false];by_cases h:s=fL u
 ·rw[if_pos h,h];simp
 ·rw [if_neg h]
  have:decide (fL u=s)=false:=by simpa using λe=>h e.symm
  rw[this,Bool.or_false]
theorem sI {P:Pr}(G:Grp P) {u:List (List Int)}(b:SubB P u):(fL u).size<=maxLen/\(∀x∈u,∀e∈x,0<=e/\e<256)/\(∀x∈u,x.length<=1000)/\u.length<=100:=by
 have g:=G.v.n6;have i:=G.sub_len b;have j:=nH u 6 (λz a=>by rw[(b.1 z a).1];exact g);have k:=pJ u;refine⟨by unfold maxLen;have:(6+1)*u.length<=100:=(by omega);omega,λz a=>(lR G.v (b.1 z a)).2,λz a=>by rw[(b.1 z a).1];omega,by omega⟩
theorem y9 (P:Pr) (G:Grp P) (aO:ordP P<=32) (L:List (List (List Int))) (hL:LatL P L) (w:World) (B lb:Nat) (p lv mv:Value) (Sp:Nat->Prop) (hX:Box3 w lb p lv mv) (hp:PresP Sp w p P)
  (bZ:SlO (λF w u (x:List (List Int))=>RowsD F w u x) 25 B w lv L) (hB:B<=w.heap.size) :
  Calls Tryz.prog 185 #[.pointer (some ⟨lb,0,none⟩)] w (Ret w λw' v=>∃a n c za zn zc,v=.tuple #[.slice a n c,.slice za zn zc] /\
   SlOA (λF w u (x:List (List Int))=>RowsD F w u x) 25 B (λb=>(Value.slice za zn zc).ownBlock=some b) w' (.slice a n c) (dL P L L.length).firsts/\Own w.heap.size w' (.slice za zn zc) (dy (dL P L L.length).sizes)):=by
 have hP:=G.v;have cG:=hP.n6;have cm:=G.j6 aO hL;obtain⟨pb,po,rfl⟩:=hp.shape;obtain⟨vs,R,aP,aQ,ai,hd,hE⟩:=bZ
 obtain ⟨la,lc,hlv⟩:∃a c,lv=.slice a L.length c:=by
  rcases aQ.form with⟨e1,e2⟩|⟨g,cp,e1,_⟩
  ·have:L.length=0:=by rw[<-aP,e2];rfl
   exact⟨none,0,by rw[e1,this]⟩
  ·exact⟨_,_,by rw[e1,aP]⟩
 subst hlv;have aF:∀u∈L,SubB P u:=λu hu=>(hL.2 u).1 hu;have bc:∀w',Ext w w'->w'.cell? ⟨lb,0,none⟩=some (.pointer (some ⟨pb,po,none⟩)):=λw' h=>(hX.ext h).2.1;obtain⟨cI,hx1,hx2,hx3,jd⟩:=id hX;have bd:=hP.ordP_pos;obtain⟨N,hN⟩:∃N,N=(ordP P).toNat:=⟨_,rfl⟩;have cq:N<=32:=by omega
 have be:=fF.made lW w;have b0:=y5 w;have bf:Ext w (w.alloc (.map #[] 0)):=World.grownBy_alloc _ _ _;have aG:fF lW (w.alloc (.map #[] 0)) w.heap.size (iC []) 0:=be;have HL:=Lib.hid (And.intro aF (And.intro bc (And.intro hN (And.intro hL hX))));clear aF bc hN hL hX;have HM:=Lib.hid (And.intro bf aG);clear bf aG be bd;go_enter Tryz.func185,Tryz.ntmps185;go_wp2;clear hx1 hx2 hx3 jd b0
 go_loopw [4,5,19] (λov zv iv wr=>∃(k:Nat) (v4 I:Value),v4=ov/\I=zv/\iv=.int .i64 k/\k<=L.length/\Ext w wr /\
  SlOA (λF w u (x:List (List Int))=>RowsD F w u x) 25 B (λb=>b=w.heap.size\/I.ownBlock=some b\/∃j,k<=j/\j<L.length/\R j b) wr v4 (dL P L k).firsts /\
  Own w.heap.size wr I (dy (dL P L k).sizes)/\fF lW wr w.heap.size (iC (dL P L k).seen) (dL P L k).seen.length/\Hid ((∀b,v4.ownBlock=some b->w.heap.size<=b)/\I.ownBlock≠some w.heap.size)) (λ_ _ iv _=>L.length-(intOf iv).toNat)
 case atStart=>exact⟨0,_,_,rfl,rfl,rfl,by omega,HM.out.1,⟨[],λ_ _=>False,rfl,World.ownsRow_nil _ _ _ _,by simp,by simp,by simp[dL],by simp,by simp[Value.ownBlock]⟩,World.ownsRow_nil _ _ _ _,HM.out.2,Lib.hid (by simp[Value.ownBlock])⟩
 case round=>
  clear HM;obtain⟨k,v4,I,rfl,rfl,rfl,hk,hg,hO,hZ,hM,iq⟩:=hrel;have A:=G.kO HL.out.1 k hk;have b3:=G.nA aO A;obtain⟨b4,b5⟩:=j7 P L k;have C := @jq P L k;have V := @jo P L k;obtain⟨Q,W⟩:∃Q,Q=dL P L k:=⟨_,rfl⟩;rw[<-W] at hO hZ hM A b4 b5 b3 C V;have aT:=Lib.hid (And.intro C (And.intro V W));clear C V W;by_cases l:k<L.length
  ·have cr:(k:Int)<L.length:=by omega
   obtain ⟨gl,hla⟩:∃gl,la=some ⟨gl,0,none⟩:=by
    rcases aQ.form with⟨e1,e2⟩|⟨g,cp,e1,_⟩
    ·have:L.length=0:=by rw[<-aP,e2];rfl
     omega
    ·simp only[Value.slice.injEq] at e1;exact⟨g,e1.1⟩
   subst hla;have hc:=hg.cell (aQ.cell k (by omega)) (by simp);have aj:=hE k l;obtain⟨ua,uc,bh,_,_⟩:=SlD.shape aj;rw[bh] at hc aj;have ak:=HL.out.1 _ (gt_mem l);have av:RowsD (R k) wr (.slice ua (gt L k).length uc) (gt L k):=rdRows.mono aj (λb S l=>⟨S,Nat.lt_of_lt_of_le l hg.size,hg.block b l (by simp)⟩);obtain⟨T,ac,ad,ae⟩:=sI G ak;have y:=nI (gt L k) wr _ _ (RowsD.rows av) ac ad ae;have i:∀w',Ext wr w'->(Instr.lookup 213 (.map (some w.heap.size)) (.string (fL (gt L k))) false).run Tryz.prog w'=.ok (.bool (iC Q.seen (fL (gt L k)))) w':=λw' h=>(hM.ext h).look _ T;have J:=sH hP A.sub ak;obtain⟨u,hu⟩:∃u,u=gt L k:=⟨_,rfl⟩;rw[<-hu] at hc av ak T ac ad ae y i J;obtain⟨s,hs⟩:∃s,s=fL u:=⟨_,rfl⟩;rw[<-hs] at y i J;obtain⟨r,hr⟩:∃r,r=iC Q.seen s:=⟨_,rfl⟩;rw[<-hr] at i J;have HU:=Lib.hid (And.intro hu (And.intro ak (And.intro J (And.intro A aj))));clear hu ak J hs hr A aj T ac ad ae bh;go_wp2_with fail
   refine Calls.mono y ?_;rintro e7 w7 ⟨v7,rfl,hg7,rfl⟩;clear y hc;have D:=i w7 hg7;clear i;have Y:=grown_trans hg hg7;have aw:=hO.ext rdRows hg7;have ax:=hZ.ext0 hg7;have ay:=hM.ext hg7;clear hO hZ hM;cases r with
   | true=>
    have E:u∈Q.seen:=of_decide_eq_true HU.out.2.2.1.symm;have q:=aT.out.2.1 (by rw[<-HU.out.1];exact E);have af:=aw.less (A':=λb=>b=w.heap.size\/I.ownBlock=some b\/∃j,k+1<=j/\j<L.length/\R j b) (λb h=>h.imp id (λh=>h.imp id (λ⟨j,h1,h2,h3⟩=>⟨j,by omega,h2,h3⟩)));have Z:=Lib.hid (And.intro q (And.intro af (And.intro ax ay)));clear E q aw af ax ay;go_wp2;clear D;go_roundw
    case rel=>exact⟨k+1,v4,I,rfl,rfl,by go_num,by omega,Y,by rw[Z.out.1];exact Z.out.2.1,by rw[Z.out.1];exact Z.out.2.2.1,by rw[Z.out.1];exact Z.out.2.2.2,iq⟩
    case measure=>simp[intOf];omega
   | false=>
    have E:¬u∈Q.seen:=λh=>by
     have:=HU.out.2.2.1;rw[decide_eq_true h] at this;cases this
    have q:=aT.out.1 (by rw[<-HU.out.1];exact E);have aU:=HL.out.2.1 w7 Y;have aH:=allElements_ok P hP w7 _ Sp (hp.ext Y);have Z:=Lib.hid (And.intro q (And.intro aw (And.intro ax (And.intro ay av))));clear E q aw ax ay av;go_wp2_with fail
    clear D aU;refine Calls.mono aH ?_;rintro e8 w8 ⟨v8,rfl,al,hA⟩;clear aH;have bm:=grown_trans Y al;have M:=grown_trans hg7 al;have az:(allEl P).length=N:=by rw[y6,HL.out.2.2.1]
    have aV:=RowsD.rows (hA.toD (by omega));obtain⟨ea,ec,ze,_,_⟩:=Sl.shape aV;subst ze;rw[az];have aI:Rows2 (From w7.heap.size) w8 (.slice ea N ec) (allEl P):=by rw[<-az];exact aV
    have HA:=Lib.hid (And.intro az aI);clear az aV aI hA;have cz:=Z.out.2.2.2.1.lt;have bn:=Z.out.2.2.2.1.ext al;go_wp2;go_loopw [9,33] (λcv tv wr=>∃t:Nat,cv=.int .i64 (((fC P u Q.seen t).2:Nat):Int)/\tv=.int .i64 t/\t<=N/\w8.grownBy wr (some w.heap.size)/\fF lW wr w.heap.size (iC (fC P u Q.seen t).1) (fC P u Q.seen t).1.length) (λ_ tv _=>N-(intOf tv).toNat)
    case atStart=>exact⟨0,rfl,by go_num,by omega,grown_refl _ _,bn⟩
    case round=>
     clear bn;obtain⟨t,rfl,rfl,ht,K,ag⟩:=hrel;have H:Ext w wr:=grown_own bm K (λb S l=>by cases S;omega);have bo:=pg P u Q.seen t;have aA:=G.kN HU.out.2.1 HU.out.2.2.2.1 t (by rw[<-HL.out.2.2.1];exact ht);have bp:=G.nA aO aA;have C := @lN P u Q.seen t;have V := @lM P u Q.seen t;obtain⟨cn,am⟩:∃cn,cn=fC P u Q.seen t:=⟨_,rfl⟩;rw[<-am] at ag bo aA bp C V;rw[<-am];have HY:=Lib.hid (And.intro C (And.intro V (And.intro am (And.intro aA bo))));clear C V aA;by_cases aW:t<N
     ·have cA:(t:Int)<N:=by omega
      have aB:Vec P.orders (elAt P (t:Int)):=G.elAtV (by rw[<-HL.out.2.2.1];exact aW)
      have br:Rows2 Any wr (.slice ea N ec) (allEl P):=Rows2.mono HA.out.2 (λj hj l=>⟨trivial,Nat.lt_of_lt_of_le l K.size,K.block j l (λe=>by
       have h1:w7.heap.size<=j:=hj;cases e;omega)⟩)
      obtain⟨bt,ot,a2,cap2,hbt,_,_,aY,aZ⟩:=Rows2.at br t (by rw[HA.out.1];exact aW);cases hbt
      rw[y7 (by rw[<-HL.out.2.2.1];exact aW)] at aY aZ
      have bs:Rows2 (R k) wr (.slice ua u.length uc) u:=RowsD.rows (rdRows.mono Z.out.2.2.2.2 (λj hj l=>⟨hj,Nat.lt_of_lt_of_le l (Nat.le_trans M.size K.size),(K.block j (Nat.lt_of_lt_of_le l M.size) (λe=>by
       have:=(ai k j (by assumption) hj).2.2;cases e;omega)).trans (M.block j l (by simp))⟩))
      have aU:=HL.out.2.1 wr H;have cL:=G.sub_len HU.out.2.1;have aC:=conjugateSubgroup_ok P G wr _ _ _ u (elAt P (t:Int)) Sp _ _ (hp.ext H) bs HU.out.2.1.1 (by omega) aZ aB;have an:=G.nj HU.out.2.1 aB;have cM:=Lib.hid aB;obtain⟨X,a0⟩:∃X,X=elAt P (t:Int):=⟨_,rfl⟩;rw[<-a0] at aY aC an;obtain⟨cj,ab⟩:∃cj,cj=fI P u X:=⟨_,rfl⟩;have ao:cseq P (genP P (λz=>z∈conjL P u X))=cj:=by rw[ab];rfl
      rw[ao] at aC;rw[<-ab] at an;have ah:=Lib.hid (And.intro a0 ab);clear a0 ab ao aB aZ bs br;go_wp2_with fail
      clear aY aU;refine Calls.mono aC ?_;rintro e9 w9 ⟨v9,rfl,bu,bv⟩;clear aC;obtain⟨T,ac,ad,ae⟩:=sI G an;have a1:=RowsD.rows (bv.toD (by omega));obtain⟨ja,jc,zg,_,_⟩:=Sl.shape a1;subst zg;have y:=nI cj w9 _ _ a1 ac ad ae;have a3:=ag.ext bu;have i:∀w',Ext w9 w'->(Instr.lookup 213 (.map (some w.heap.size)) (.string (fL cj)) false).run Tryz.prog w'=.ok (.bool (iC cn.1 (fL cj))) w':=λw' h=>(a3.ext h).look _ T;have J:=sH hP HY.out.2.2.2.1.sub an;have O:=y8 cn.1 cj;obtain⟨s2,bx⟩:∃s2,s2=fL cj:=⟨_,rfl⟩;rw[<-bx] at y i J O T;obtain⟨r,hr⟩:∃r,r=iC cn.1 s2:=⟨_,rfl⟩;rw[<-hr] at i J;have HK:=Lib.hid (And.intro J (And.intro O T));clear J O bx hr T ac ad ae a1 bv an;go_wp2_with fail
      refine Calls.mono y ?_;rintro eA wA ⟨vA,rfl,a4,rfl⟩;clear y;have D:=i wA a4;clear i;have aD:=a3.ext a4;have aJ:w8.grownBy wA (some w.heap.size):=grown_trans K (grown_of_ext _ (grown_trans bu a4));clear ag a3;cases r with
      | true=>
       have E:cj∈cn.1:=of_decide_eq_true HK.out.1.symm;have q:=HY.out.2.1 (by rw[<-ah.out.1,<-ah.out.2];exact E);have m:=Lib.hid (And.intro q aD);clear E q aD;go_wp2;clear D;go_roundw
       case rel=>exact⟨t+1,by rw[m.out.1,HY.out.2.2.1],by go_num,by omega,aJ,by rw[m.out.1];exact m.out.2⟩
       case measure=>simp[intOf];omega
      | false=>
       have E:¬cj∈cn.1:=λh=>by
        have:=HK.out.1;rw[decide_eq_true h] at this;cases this
       have q:=HY.out.1 (by rw[<-ah.out.1,<-ah.out.2];exact E);rw[<-ah.out.1,<-ah.out.2] at q;obtain⟨wU,hrun,sJ,nJ⟩:=aD.update s2 HK.out.2.2 true trivial (by omega);have a5:(Instr.mapUpdate 213 (.map (some w.heap.size)) (.string s2) (.bool true)).run Tryz.prog wA=.ok () wU:=hrun
       have aK:fF lW wU w.heap.size (iC (cn.1++[cj])) (cn.1++[cj]).length:=by
        rw[List.length_append,List.length_singleton];exact sJ.congr (λs=>HK.out.2.1 s)
       have bz:=grown_trans aJ nJ;have ca:wrap64 ((cn.2:Nat)+1:Int)=((cn.2+1:Nat):Int):=by rw[IntWalk.wrap64_in _ (by omega)];omega
       have m:=Lib.hid (And.intro q aK);clear E q aD sJ aK hrun nJ;go_wp2;clear D a5;go_roundw
       case rel=>exact⟨t+1,by rw[m.out.1,<-HY.out.2.2.1];exact congrArg (Value.int .i64) ca,by go_num,by omega,bz,by rw[m.out.1];exact m.out.2⟩
       case measure=>simp[intOf];omega
     ·have bA:t=N:=by omega
      have q:=Z.out.1;rw[<-HU.out.1,<-HL.out.2.2.1,<-bA,<-am] at q;have cb:¬(t:Int)<N:=by omega
      have cD:cn.2<=32:=by omega
      have af:=(Z.out.2.1.ext rdRows al).kept rdRows K (.inl rfl)
      have a6:=(Z.out.2.2.1.ext0 al).ext K (by
       rcases hz:I.ownBlock with _|b
       ·exact .inl rfl
       ·exact .inr (λe=>iq.out.2 (by rw[hz];exact e)))
      have cc:∀b,I.ownBlock=some b->w.heap.size<=b/\b<wr.heap.size:=λb S=>a6.lt b S;have bB:=ag.lt;have bC:=af.avoids;have bD:=af.less (A':=λb=>(b=w.heap.size\/I.ownBlock=some b\/∃j,k<=j/\j<L.length/\R j b)/\b<wr.heap.size) (λb h=>h.1)
      have bE:RowsD (R k) wr (.slice ua u.length uc) u:=rdRows.mono Z.out.2.2.2.2 (λj hj l=>⟨hj,Nat.lt_of_lt_of_le l (Nat.le_trans M.size K.size),(K.block j (Nat.lt_of_lt_of_le l M.size) (λe=>by
       have:=(ai k j (by assumption) hj).2.2;cases e;omega)).trans (M.block j l (by simp))⟩)
      have bF:∀b,R k b->b<wr.heap.size->((b=w.heap.size\/I.ownBlock=some b\/∃j,k<=j/\j<L.length/\R j b)/\b<wr.heap.size)/\B<=b:=λb S bG=>⟨⟨.inr (.inr ⟨k,by omega,by assumption,S⟩),bG⟩,(ai k b (by assumption) S).1⟩
      have bH:∀b,(b=w.heap.size\/I.ownBlock=some b\/∃j,k+1<=j/\j<L.length/\R j b)->((b=w.heap.size\/I.ownBlock=some b\/∃j,k<=j/\j<L.length/\R j b)/\b<wr.heap.size)/\¬R k b:=λb h=>by
       have bI:R k b->b<w.heap.size:=λh=>(ai k b (by assumption) h).2.2;rcases h with h|h|⟨j,h1,h2,h3⟩
       ·exact⟨⟨.inl h,by omega⟩,λh4=>by have:=bI h4;omega⟩
       ·have:=cc b h
        exact⟨⟨.inr (.inl h),this.2⟩,λh4=>by have:=bI h4;omega⟩
       ·have h5:=(ai j b h2 h3).2.2
        have h6:=H.size;exact⟨⟨.inr (.inr ⟨j,by omega,h2,h3⟩),by omega⟩,λh4=>by have:=hd j k b h2 (by assumption) h3 h4;omega⟩
      have cd:Q.firsts.length<=1000000:=by omega
      have aL:(dy Q.sizes).length<=1000000:=by rw[fE];omega
      have O:=j0 Q.sizes cn.2;have m:=Lib.hid (And.intro q (And.intro bD (And.intro a6 (And.intro ag (And.intro bE (And.intro bF (And.intro bH (And.intro aL O))))))));clear q af bD a6 ag bE bF bH aL O am bA
      go_wp2_with (first
       | (at_builtin;refine rX rfl _ _ rfl B (λb=>(b=w.heap.size\/I.ownBlock=some b\/∃j,k<=j/\j<L.length/\R j b)/\b<wr.heap.size) (λb=>b=w.heap.size\/I.ownBlock=some b\/∃j,k+1<=j/\j<L.length/\R j b) (R k) wr v4 _ Q.firsts u rfl m.out.2.1 m.out.2.2.2.2.1 m.out.2.2.2.2.2.1 m.out.2.2.2.2.2.2.1 (λb S=>S.2) rfl rfl cd (by have:=H.size;omega) ?_;intro vB wB bK ap cg;have bL:=m.out.2.2.1.ext ap (by rcases hz:I.ownBlock with _|b;exact .inl rfl;exact .inr (λe=>(bC b e.symm).1 (.inr (.inl hz))));have bM:=m.out.2.2.2.1.kept ap (λe=>(bC _ e.symm).1 (.inl rfl));have aE:=Lib.hid (And.intro bK (And.intro bL bM));clear bK bL bM)
       | (at_builtin;refine nD rfl _ _ rfl w.heap.size _ (dy Q.sizes) ((cn.2:Nat):Int) rfl wB aE.out.2.1 rfl rfl m.out.2.2.2.2.2.2.2.1 (Nat.le_trans H.size ap.size) ?_;intro vC wC ci U bO)
       | fail)
      have U:wB.grownBy wC I.ownBlock:=U;have bP:Ext w wB:=grown_own H ap (λb S l=>by have:=iq.out.1 b S;omega);have bQ:Ext w wC:=grown_own bP U (λb S l=>by have:=(aE.out.2.1.lt b S).1;omega)
      have aq:=aE.out.1.more (A':=λb=>b=w.heap.size\/(I.ownBlock=some b\/vC.ownBlock=some b)\/∃j,k+1<=j/\j<L.length/\R j b) (λb h=>by
       rcases h with h|(h|h)|h
       ·exact .inl (.inl h)
       ·exact .inl (.inr (.inl h))
       ·rcases bO b h with h|h
        ·exact .inl (.inr (.inl h))
        ·exact .inr h
       ·exact .inl (.inr (.inr h)))
      have bR:SlOA (λF w u (x:List (List Int))=>RowsD F w u x) 25 B (λb=>b=w.heap.size\/(I.ownBlock=some b\/vC.ownBlock=some b)\/∃j,k+1<=j/\j<L.length/\R j b) wC vB (Q.firsts++[u]):=by
       rcases hz:I.ownBlock with _|b
       ·rw [hz] at U aq
        exact aq.ext rdRows U
       ·rw [hz] at U aq
        exact aq.kept rdRows U (.inr (.inl (.inl rfl)))
      have aM:=bR.less (A':=λb=>b=w.heap.size\/vC.ownBlock=some b\/∃j,k+1<=j/\j<L.length/\R j b) (λb h=>h.imp id (λh=>h.imp .inr id));have bS:=aE.out.2.2.kept U (λe=>iq.out.2 e.symm);have cE:=Nat.lt_of_lt_of_le bB ap.size
      have aN:(∀b,vB.ownBlock=some b->w.heap.size<=b)/\vC.ownBlock≠some w.heap.size:=⟨λb S=>by
       rcases cg with h|h
       ·exact iq.out.1 b (by rw[<-h];exact S)
       ·have:=h b S;have:=H.size;omega,λe=>by
       rcases bO _ e with h|h
       ·exact iq.out.2 h
       ·omega⟩
      have HC:=Lib.hid (And.intro aN (And.intro aM bS));clear aN bR aM bS aq;go_roundw
      case rel=>exact⟨k+1,vB,vC,rfl,rfl,by go_num,by omega,bQ,by rw[m.out.1];exact HC.out.2.1,by rw[m.out.1,m.out.2.2.2.2.2.2.2.2];exact ci,by rw[m.out.1];exact HC.out.2.2,Lib.hid HC.out.1⟩
      case measure=>simp[intOf];omega
  ·have bT:k=L.length:=by omega
   have cb:¬(k:Int)<L.length:=by omega
   have W:=aT.out.2.2;rw[bT] at W;have a7:=hO.less (A':=λb=>I.ownBlock=some b) (λb h => .inr (.inl h));rw[W] at a7 hZ
   obtain ⟨fa,fn,fc,lX⟩:∃a n c,v4=.slice a n c:=by
    obtain⟨a,c,h,_⟩:=SlD.shape (hO.o.toD (by omega));exact⟨_,_,_,h⟩
   obtain ⟨za,zn,zc,lY⟩:∃a n c,I=.slice a n c:=by
    rcases hZ.v.form with⟨h1,_⟩|⟨g,cp,h1,_⟩<;>exact⟨_,_,_,h1⟩
   subst lX lY;have HE:=Lib.hid (And.intro a7 hZ);clear hO a7 hZ hM W bT;go_wp2;refine bodyPost_ret (v := .tuple #[.slice fa fn fc,.slice za zn zc]) (by simp[results,Tryz.results185,go_sem]) rfl ?_;exact⟨_,rfl,hg,_,_,_,_,_,_,rfl,HE.out.1,HE.out.2⟩
end Go.Proofs.YtdcobapnlpeaaaaGreat
