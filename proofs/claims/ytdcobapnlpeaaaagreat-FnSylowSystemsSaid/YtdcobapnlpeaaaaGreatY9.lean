/- Merged from templates. -/
import Derived.Test.YtdcobapnlpeaaaaGreatY8
set_option maxRecDepth 100000
set_option maxHeartbeats 8000000
namespace Go.Proofs.YtdcobapnlpeaaaaGreat
open Go.RowKit
attribute [local go_sem ↓] Go.wp_at_zero Go.wp_at_succ
def r6 (F:Nat->Prop) (B:Nat) (P:Pr) (w':World) (v:Value):Prop:=∃(vo vp vc:Value) (r:Bool) (Q:Pr),v=.tuple #[.agg #[vo,vp,vc],.bool r]/\Shp 6 Q/\Q.orders=P.orders/\Pres3 (λk=>F k\/B<=k) w' vo vp vc Q
theorem r7 {w b:World}{F F':Nat->Prop}{br:Nat}{x y z:Value}{P Q:Pr}{r:Bool}(g:Ext w b) (l:w.heap.size<=br) (m:Pres3 F' b x y z Q) (hF:∀k,F' k->k<b.heap.size->(F k\/w.heap.size<=k)/\k≠br) (n:Shp 6 Q) (p:Q.orders=P.orders) :
  Ret w (r6 F w.heap.size P) (.returned (.tuple #[.agg #[x,y,z],.bool r])) (((b.setCell ⟨br,0,none⟩ x).setCell ⟨br,1,none⟩ y).setCell ⟨br,2,none⟩ z):=by
 have i:=grown_set3 b br x y z;exact⟨_,rfl,grown_own g i (λj q a=>by cases q;omega),x,y,z,r,Q,rfl,n,p,m.mono (λk hk a=>⟨(hF k hk a).1,Nat.lt_of_lt_of_le a i.size,i.block k a (λe=>(hF k hk a).2 (by cases e;rfl))⟩)⟩
theorem jw {w g:World}{F:Nat->Prop}{br:Nat}{x y z:Value}{P:Pr}{r:Bool}(a:Ext w g) (e:w.heap.size<=br) (i:Pres3 F w x y z P) (j:Shp 6 P) :
  Ret w (r6 F w.heap.size P) (.returned (.tuple #[.agg #[x,y,z],.bool r])) (((g.setCell ⟨br,0,none⟩ x).setCell ⟨br,1,none⟩ y).setCell ⟨br,2,none⟩ z):=
 r7 a e (F':=λk=>F k/\k<w.heap.size) (i.mono (λk hk b=>⟨⟨hk,b⟩,Nat.lt_of_lt_of_le b a.size,a.block k b (by simp)⟩)) (λk hk _=>⟨.inl hk.1,by omega⟩) j rfl
theorem DA (w:World) (pv:Value) (P:Pr) (F:Nat->Prop) (s:ByteArray) (hp:PresV F w pv P) (hS:Shp 6 P) (a9:∀x∈P.orders,primeB x=true) (hs:s.size<=1000) :
  Calls Tryz.prog 345 #[pv,.string s] w (Ret w (r6 F w.heap.size P)):=by
 obtain⟨vo,vp,vc,rfl,R⟩:=hp;obtain⟨M,co,ig,_,_⟩:=R.o.shape;obtain⟨ap,B,ae,_,_⟩:=Sl.shape R.p;obtain⟨C,D,af,_,_⟩:=Sl.shape R.c;rw[hS.p] at ae;rw[hS.c] at af;subst ig ae af;obtain⟨n,hn⟩:∃n,n=P.orders.length:=⟨_,rfl⟩;rw[<-hn] at R;rw[<-hn];have b':n<=6:=by rw[hn];exact hS.n
 have ba:Ext w (w.alloc (.cells #[.slice M n co,.slice ap n B,.slice C n D] 28)):=World.grownBy_alloc _ _ _;have bb:(w.alloc (.cells #[.slice M n co,.slice ap n B,.slice C n D] 28)).heap.size=w.heap.size+1:=by simp
 have aB:=Box3.made w 28 (.slice M n co) (.slice ap n B) (.slice C n D);have l:=Lib.hid (And.intro hS (And.intro a9 hn));clear hS a9 hn;go_enter Tryz.func345,Tryz.ntmps345;go_wp2_with fail
 generalize w.alloc (.cells #[.slice M n co,.slice ap n B,.slice C n D] 28)=wA at *;have ai:Ext wA (wA.alloc (.cells #[.slice none 0 0,.slice none 0 0,.slice none 0 0] 28)):=World.grownBy_alloc _ _ _;have aC:=Box3.made wA 28 (.slice none 0 0) (.slice none 0 0) (.slice none 0 0);have aB:=aB.ext ai;have bI:=grown_trans ba ai;have bd:(wA.alloc (.cells #[.slice none 0 0,.slice none 0 0,.slice none 0 0] 28)).heap.size=w.heap.size+2:=by simp[bb]
 rw[bb] at aC;generalize wA.alloc (.cells #[.slice none 0 0,.slice none 0 0,.slice none 0 0] 28)=w0 at *;clear ai ba;refine Calls.mono (rU w0 s 61 hs) ?_;rintro e1 w1 ⟨v1,rfl,hg1,av,cv,ts,rfl,hl1,be,bf,L⟩;have aj:=grown_trans bI hg1;have ak:=aB.ext hg1;have T:=aC.ext hg1;obtain⟨a0,a1,a2,a3,a4⟩:=id ak;obtain⟨b0,b1,b2,b3,b4⟩:=id T;have bg:=T.all (.slice M n co) (.slice ap n B) (.slice C n D);obtain⟨-,z0,z1,z2,-⟩:=id bg;have bT:w.heap.size+2<=w1.heap.size:=by have:=hg1.size;omega
 have HL:=Lib.hid (And.intro be (And.intro bf bd));clear be bf bd bg aB aC;by_cases aS:ts.length=2
 case neg=>
  have bU:((ts.length:Int) != 2)=true:=by simp;omega
  clear aS;go_wp2_with fail
  refine bodyPost_ret (v := .tuple #[.agg #[.slice M n co,.slice ap n B,.slice C n D],.bool false]) (by simp[results,Tryz.results345,go_sem,z0,z1,z2]) rfl ?_;exact jw aj (by omega) R l.out.1
 obtain⟨bt,rfl,aT⟩:=kP.at L 0 (by omega);obtain⟨_,aE,bh⟩:=kP.at L 1 (by omega);cases aE
 have bL:=HL.out.2.1 _ (gtMem (show 0<ts.length by omega));have bM:=HL.out.2.1 _ (gtMem (show 1<ts.length by omega));obtain⟨t0,bi⟩:∃t0,t0=gt ts 0:=⟨_,rfl⟩;obtain⟨t1,bj⟩:∃t1,t1=gt ts 1:=⟨_,rfl⟩;rw[<-bi] at aT bL;rw[<-bj] at bh bM;have bW:=(L.lt bt rfl).2;clear L bi bj HL;rw[aS];clear aS hl1;by_cases h4:t0.size=4
 case neg=>
  have bN:((t0.size:Int) != 4)=true:=by simp;omega
  clear h4;go_wp2_with fail
  refine bodyPost_ret (v := .tuple #[.agg #[.slice M n co,.slice ap n B,.slice C n D],.bool false]) (by simp[results,Tryz.results345,go_sem,z0,z1,z2]) rfl ?_;exact jw aj (by omega) R l.out.1
 have bN:((t0.size:Int) != 4)=false:=by simp;omega
 have cb:0<t0.size:=by omega
 have cd:2<t0.size:=by omega
 rcases ce:((((t0[0]'cb).toNat:Nat):Int) != 32) with _|_
 case' true=>
  go_wp2_with fail
  refine bodyPost_ret (v := .tuple #[.agg #[.slice M n co,.slice ap n B,.slice C n D],.bool false]) (by simp[results,Tryz.results345,go_sem,z0,z1,z2]) rfl ?_;exact jw aj (by omega) R l.out.1
 rcases cf:((((t0[2]'cd).toNat:Nat):Int) != 94) with _|_
 case' true=>
  go_wp2_with fail
  refine bodyPost_ret (v := .tuple #[.agg #[.slice M n co,.slice ap n B,.slice C n D],.bool false]) (by simp[results,Tryz.results345,go_sem,z0,z1,z2]) rfl ?_;exact jw aj (by omega) R l.out.1
 go_wp2_with fail
 refine Calls.mono (Du w1 n t1 (by omega) (by omega)) ?_;rintro e2 w2 ⟨v2,rfl,hg2,aw,nw,cw,r2,rfl,hW2⟩;clear a0 a1 a2 a3 a4 b0 b1 b2 b3 b4 z0 z1 z2;have am:=ak.ext hg2;have U:=T.ext hg2;clear ak T;obtain⟨a0,a1,a2,a3,a4⟩:=id am;obtain⟨b0,b1,b2,b3,b4⟩:=id U;have bk:=U.all (.slice M n co) (.slice ap n B) (.slice C n D);obtain⟨-,z0,z1,z2,-⟩:=id bk;clear bk;have an:=grown_trans aj hg2;have aJ:=hg2.cell aT (by simp);clear aT bh;cases r2
 case' false=>
  go_wp2_with fail
  refine bodyPost_ret (v := .tuple #[.agg #[.slice M n co,.slice ap n B,.slice C n D],.bool false]) (by simp[results,Tryz.results345,go_sem,z0,z1,z2]) rfl ?_;exact jw an (by omega) R l.out.1
 obtain⟨W,bl,DB,bm,bn⟩:=hW2 rfl;subst DB;clear hW2;have HW:=Lib.hid (And.intro bm bl);clear bm bl;go_wp2_with fail
 refine Calls.mono (Dq w2 n _ W _ (bn.ints (by have:=HW.out.2;omega)) HW.out.1 (by omega) (by have:=HW.out.2;omega)) ?_;rintro e3 w3 ⟨v3,rfl,hg3,ax,nx,cx,r3,rfl,xU⟩;clear a0 a1 a2 a3 a4 b0 b1 b2 b3 b4 z0 z1 z2;have aq:=am.ext hg3;have Z:=U.ext hg3;clear am U;obtain⟨a0,a1,a2,a3,a4⟩:=id aq;obtain⟨b0,b1,b2,b3,b4⟩:=id Z;have br:=Z.all (.slice M n co) (.slice ap n B) (.slice C n D);obtain⟨-,z0,z1,z2,-⟩:=id br;clear br;have bs:=grown_trans an hg3;have aK:=hg3.cell aJ (by simp);clear aJ bn;have cg:1<t0.size:=by omega
 have ch:3<t0.size:=by omega
 go_wp2_with fail
 go_quiet (fail)
 rename_i nq;have ag:Ext w3 (w3.drewN nq):=grown_drewN _ _ _;clear a0 a1 a2 a3 a4 b0 b1 b2 b3 b4 z0 z1 z2;generalize w3.drewN nq=w4 at *;generalize wrap64 (wrap64 ((t0[1]'cg).toNat:Int)-97)=x;generalize wrap64 (wrap64 ((t0[3]'ch).toNat:Int)-97)=y;have ar:=aq.ext ag;have aa:=Z.ext ag;clear aq Z;obtain⟨a0,a1,a2,a3,a4⟩:=id ar;obtain⟨b0,b1,b2,b3,b4⟩:=id aa;have bu:=aa.all (.slice M n co) (.slice ap n B) (.slice C n D);obtain⟨-,z0,z1,z2,-⟩:=id bu;clear bu;have N:=grown_trans bs ag;have aL:=ag.cell aK (by simp);clear aK;cases r3
 case' false=>
  go_wp2_with fail
  refine bodyPost_ret (v := .tuple #[.agg #[.slice M n co,.slice ap n B,.slice C n D],.bool false]) (by simp[results,Tryz.results345,go_sem,z0,z1,z2]) rfl ?_;exact jw N (by omega) R l.out.1
 obtain⟨V,bv,aF,bw,xV⟩:=xU rfl;have aF:=aF.symm;subst aF;have aM:=xV.ext0 ag;clear xU xV;by_cases ci:x<0
 case' pos=>
  go_wp2_with fail
  refine bodyPost_ret (v := .tuple #[.agg #[.slice M n co,.slice ap n B,.slice C n D],.bool false]) (by simp[results,Tryz.results345,go_sem,z0,z1,z2]) rfl ?_;exact jw N (by omega) R l.out.1
 by_cases cj:(n:Int)<=x
 case' pos=>
  go_wp2_with fail
  refine bodyPost_ret (v := .tuple #[.agg #[.slice M n co,.slice ap n B,.slice C n D],.bool false]) (by simp[results,Tryz.results345,go_sem,z0,z1,z2]) rfl ?_;exact jw N (by omega) R l.out.1
 obtain⟨X,rfl⟩:=Int.eq_ofNat_of_zero_le (show 0<=x by omega);have ck:(X:Int)<n:=by omega
 have aN:=R.mono (frame_of N (λk hk _=>⟨hk,by simp⟩));have aU:Pres3 F w4 (.slice M n co) (.slice ap n B) (.slice C n D) P:=aN;clear aN aF;have HV:=Lib.hid (And.intro bv (And.intro bw aM));clear bv bw aM;go_wp2_with fail
 clear a0 a1 a2 a3 a4 b0 b1 b2 b3 b4 z0 z1 z2;refine Calls.mono (pZ w4 _ P F 6 ⟨_,_,_,rfl,aU⟩ l.out.1 (by omega)) ?_;rintro e5 w5 ⟨v5,rfl,fR,qo,qp,qc,rfl,iW⟩;obtain⟨E,G,I,q,J,r,e1,e2,e3⟩:=iW.shape;rw[l.out.1.p] at e2;rw[l.out.1.c] at e3;rw[<-l.out.2.2] at e1 e2 e3;subst e1 e2 e3;have aH:Ext w5 (w5.alloc (.cells #[.slice E n G,.slice I n q,.slice J n r] 28)):=World.grownBy_alloc _ _ _;have bx:=Box3.made w5 28 (.slice E n G) (.slice I n q) (.slice J n r);have cm:=fR.size;have bz:PresX (λk=>w4.heap.size<=k/\k<w5.heap.size) (w5.alloc (.cells #[.slice E n G,.slice I n q,.slice J n r] 28)) (.slice E n G) (.slice I n q) (.slice J n r) P:=iW.mono (λk hk H=>⟨⟨hk,H⟩,Nat.lt_of_lt_of_le H aH.size,aH.block k H (by simp)⟩);have u:=grown_trans fR aH;go_wp2_with fail
 generalize w5.alloc (.cells #[.slice E n G,.slice I n q,.slice J n r] 28)=w6 at *;clear iW fR aH;have au:=ar.ext u;have aO:=aa.ext u;have aP:=grown_trans N u;have aQ:=u.cell aL (by simp);obtain⟨bo,oo,hao,_,hbl,aW⟩:=Ints.at (aU.o.ext u) X (by rw[<-l.out.2.2];omega);subst hao;have aX:=l.out.2.1 _ (gtMem (show X<P.orders.length by rw[<-l.out.2.2];omega));obtain⟨o,ho⟩:∃o,o=gt P.orders X:=⟨_,rfl⟩;rw[<-ho] at aW aX;have cn:=xR aX;clear ho aX ar aa aL;have f1:∀w',Ext w6 w'->w'.cell? ⟨w.heap.size,0,none⟩=some (.slice (some ⟨bo,oo,none⟩) n co):=λw' h=>(au.ext h).2.1;have f2:∀w',Ext w6 w'->w'.cell? ⟨bo,oo+X,none⟩=some (.int .i64 o):=λw' h=>h.cell aW (by simp);have f3:∀w',Ext w6 w'->w'.cell? ⟨bt,0,none⟩=some (.string t0):=λw' h=>h.cell aQ (by simp);have cq:(3:Int)<=t0.size:=by omega
 clear aW aQ
 go_region_held3 (λw'=>Ext w6 w') (first|exact grown_drew _ _|assumption)
  (first
   | (go_at_call 362;refine Calls.mono (Calls.rel (w0:=w6) (by first|exact grown_drew _ _|assumption) (pK _ o (by omega) (by omega))) ?_;rintro eD wD ⟨vD,rfl,S,xW,rfl⟩))
 have cr:=u.size;have bY:w.heap.size+2<=w2.heap.size:=by have:=hg2.size;omega
 have bZ:w2.heap.size<=w4.heap.size:=by have:=hg3.size;have:=ag.size;omega
 have b5:=aP.size;have i:=bx.ext S;have a:=aO.ext S;have ab:=grown_trans aP S;have bA:PresX (λk=>w4.heap.size<=k/\k<w5.heap.size) wD (.slice E n G) (.slice I n q) (.slice J n r) P:=bz.mono (λk hk H=>⟨hk,Nat.lt_of_lt_of_le H S.size,S.block k H (by simp)⟩);have bB:Ints (λk=>w2.heap.size<=k/\k<w4.heap.size) wD (.slice ax n cx) V:=(ints_of_own HV.out.2.2 (by have:=HV.out.1;omega) (λk hk=>⟨(HV.out.2.2.lt k hk).1,(HV.out.2.2.lt k hk).2⟩)).ext (grown_trans u S);have b6:=an.size;have ad:=au.ext S;have HC:=Lib.hid (And.intro bA bB);have bC:=Lib.hid HV.out.1;clear bA bB f1 f2 f3 bz bx aO au aU;rcases aE:((t0.extract 3 4).toList == (strOfNums [48+o]).toList) with _|_
 case' false=>
  clear aE;by_cases cs:y<0
  case' pos=>
   obtain⟨a0,a1,a2,a3,a4⟩:=id ad;obtain⟨b0,b1,b2,b3,b4⟩:=id a;have ay:=a.all (.slice (some ⟨bo,oo,none⟩) n co) (.slice ap n B) (.slice C n D);obtain⟨-,z0,z1,z2,-⟩:=id ay;clear ay HC HV;go_wp2_with fail
   refine bodyPost_ret (v := .tuple #[.agg #[.slice (some ⟨bo,oo,none⟩) n co,.slice ap n B,.slice C n D],.bool false]) (by simp[results,Tryz.results345,go_sem,z0,z1,z2]) rfl ?_;exact jw ab (by omega) R l.out.1
  by_cases ct:(X:Int)<=y
  case' pos=>
   obtain⟨a0,a1,a2,a3,a4⟩:=id ad;obtain⟨b0,b1,b2,b3,b4⟩:=id a;have ay:=a.all (.slice (some ⟨bo,oo,none⟩) n co) (.slice ap n B) (.slice C n D);obtain⟨-,z0,z1,z2,-⟩:=id ay;clear ay HC HV;go_wp2_with fail
   refine bodyPost_ret (v := .tuple #[.agg #[.slice (some ⟨bo,oo,none⟩) n co,.slice ap n B,.slice C n D],.bool false]) (by simp[results,Tryz.results345,go_sem,z0,z1,z2]) rfl ?_;exact jw ab (by omega) R l.out.1
  obtain⟨Y,rfl⟩:=Int.eq_ofNat_of_zero_le (show 0<=y by omega);have ah:=l.out.2.2;have aI:=l.out.1.cl Y (by omega);have bD:=l.out.1.c;have cu:Y<X:=by omega
  obtain⟨K,hK⟩:∃K,K=X-Y-1:=⟨_,rfl⟩;have bQ:K<(gt P.conj Y).length:=by rw[aI];omega
  obtain⟨g,capg,b,capb,z,af,⟨ai,fR⟩,hgl,aY,⟨aC,EW⟩,hbg,BO,hcb,EX,az⟩:=PresX.C8 HC.out.1 Y K (by omega) bQ HC.out.2 (λk hk h=>by omega);obtain⟨rfl,rfl⟩:J=some ⟨g,0,none⟩/\r=capg:=by cases af;exact⟨rfl,rfl⟩
  rw[aI,<-ah] at aY;obtain⟨m,hm⟩:∃m,m=n-1-Y:=⟨_,rfl⟩;rw[<-hm] at aY;have cy:(X:Int)-(Y:Int)-1=(K:Int):=by omega
  have cz:(K:Int)<m:=by omega
  have cA:(Y:Int)<n:=by omega
  have L:=grown_set1 wD b K (.slice ax n cx);have O:Ext w (wD.setCell ⟨b,K,none⟩ (.slice ax n cx)):=grown_own ab L (λj hj H=>by cases hj;omega);have A:=Box3.keep a L.size (L.block _ a.1 (λe=>by cases e;omega));have Q:=Box3.keep i L.size (L.block _ i.1 (λe=>by cases e;omega));have aA:=A.all (.slice E n G) (.slice I n q) (.slice (some ⟨g,0,none⟩) n r);obtain⟨q0,q1,q2,q3,q4⟩:=id i;obtain⟨r0,r1,r2,r3,r4⟩:=id Q;obtain⟨b0,b1,b2,b3,b4⟩:=id A;obtain⟨-,z0,z1,z2,-⟩:=id aA;have HR:=Lib.hid (And.intro az (And.intro O (And.intro af (And.intro aI (And.intro bD ah)))));clear aA az O af aI bD ah L A Q hm hK i a ad HC HV;go_wp2_with fail
  refine bodyPost_ret (v := .tuple #[.agg #[.slice E n G,.slice I n q,.slice (some ⟨g,0,none⟩) n r],.bool true]) (by simp[results,Tryz.results345,go_sem,z0,z1,z2]) rfl ?_;exact r7 HR.out.2.1 (by omega) HR.out.1 (λk hk H=>⟨.inr (by rcases hk with hk|hk<;>omega),by rcases hk with hk|hk<;>omega⟩) (l.out.1.setC Y K (by have:=HR.out.2.2.2.2.2;omega) (by have:=bC.out;omega)) rfl
 case' true=>
  clear aE;have ah:=l.out.2.2;have bE:=l.out.1.p;obtain⟨g,capg,z,ae,⟨ai,fR⟩,hgl,aY,hfg,az⟩:=PresX.p6 HC.out.1 X (by omega) HC.out.2 (λk hk h=>by omega);obtain⟨rfl,rfl⟩:I=some ⟨g,0,none⟩/\q=capg:=by cases ae;exact⟨rfl,rfl⟩
  have L:=grown_set1 wD g X (.slice ax n cx);have O:Ext w (wD.setCell ⟨g,X,none⟩ (.slice ax n cx)):=grown_own ab L (λj hj H=>by cases hj;omega);have A:=Box3.keep a L.size (L.block _ a.1 (λe=>by cases e;omega));have Q:=Box3.keep i L.size (L.block _ i.1 (λe=>by cases e;omega));have aA:=A.all (.slice E n G) (.slice (some ⟨g,0,none⟩) n q) (.slice J n r);obtain⟨q0,q1,q2,q3,q4⟩:=id i;obtain⟨r0,r1,r2,r3,r4⟩:=id Q;obtain⟨b0,b1,b2,b3,b4⟩:=id A;obtain⟨-,z0,z1,z2,-⟩:=id aA;have HR:=Lib.hid (And.intro az (And.intro O (And.intro ae (And.intro bE ah))));clear aA az O ae bE ah L A Q i a ad HC HV;go_wp2_with fail
  refine bodyPost_ret (v := .tuple #[.agg #[.slice E n G,.slice (some ⟨g,0,none⟩) n q,.slice J n r],.bool true]) (by simp[results,Tryz.results345,go_sem,z0,z1,z2]) rfl ?_;exact r7 HR.out.2.1 (by omega) HR.out.1 (λk hk H=>⟨.inr (by rcases hk with hk|hk<;>omega),by rcases hk with hk|hk<;>omega⟩) (l.out.1.setP X (by have:=bC.out;omega)) rfl
end Go.Proofs.YtdcobapnlpeaaaaGreat
namespace Go.Proofs.YtdcobapnlpeaaaaGreat
open Go.RowKit
def prodU (P:Pr) (U:List (List Int)):Nat->Int
 | 0=>1
 | k+1=>prodU P U k*gt P.orders (dep (gt U k))
theorem prodU_le {P:Pr}(hP:Valid P) {U:List (List Int)}(e:SeqOk P U):∀k m,k<=U.length->(∀j,j<k->dep (gt U j)<m)->m<=P.orders.length->1<=prodU P U k/\prodU P U k<=prodTo P.orders m:=by
 intro k;induction k with
 | zero=>intro m _ _ g;exact⟨by simp[prodU],prodTo_pos m (λi l=>hP.pos i (by omega))⟩
 | succ k n=>
  intro m hk a g;have q:=a k (by omega);have b:k<U.length:=by omega
  obtain⟨h1,h2⟩:=n (dep (gt U k)) (by omega) (λj a=>e.2 j k a b) (by omega);have r:=hP.ord7 (dep (gt U k)) (by omega);have u:prodU P U k*gt P.orders (dep (gt U k))<=prodTo P.orders (dep (gt U k))*gt P.orders (dep (gt U k)):=Int.mul_le_mul_of_nonneg_right h2 (by omega);have p:prodTo P.orders (dep (gt U k)+1)<=prodTo P.orders m:=prodTo_mono _ _ (by omega) (λi l=>hP.pos i (by omega));have v:1*1<=prodU P U k*gt P.orders (dep (gt U k)):=Int.mul_le_mul h1 (by omega) (by omega) (by omega);simp only[prodTo] at p;simp only[prodU];exact⟨by omega,by omega⟩
theorem prodU_729 {P:Pr}(hP:Valid P) {U:List (List Int)}(a:SeqOk P U) (k:Nat) (hk:k<=U.length):1<=prodU P U k/\prodU P U k<=729:=by
 obtain⟨h1,h2⟩:=prodU_le hP a k P.orders.length hk (λj b=>(a.1 _ (gtMem (by omega))).2.1) (Nat.le_refl _);have:=hP.le729;exact⟨h1,by omega⟩
theorem sizeOf_ok (P:Pr) (hP:Valid P) (w:World) (p H:Value) (U:List (List Int)) (O I:Nat->Prop) (J:PresP O w p P) (K:Rows2 I w H U) (u:SeqOk P U) (Z:U.length<=100) :
  Calls Tryz.prog 139 #[p,H] w (Ret w λ_ v=>v=.int .i64 (prodU P U U.length)):=by
 have Q:=hP.n6;obtain⟨pb,po,rfl⟩:=J.shape;obtain⟨ao,capo,fI,y⟩:=J.ordAt;obtain⟨au,capu,rfl,_,_⟩:=Sl.shape K;have A:∀z∈U,dep z<z.length:=λz R=>by have:=u.1 z R;rw[this.1.1];exact this.2.1
 have L:=Lib.hid u;clear u;go_enter Tryz.func139,Tryz.ntmps139;go_wp2_with fail
 refine Calls.mono (pivots_ok _ U w I K A (by omega)) ?_;rintro e1 S ⟨pv,rfl,j,k⟩
 have m:∃T n,pv=.slice T U.length n:=by
  rcases k.form with⟨h1,l⟩|⟨g,cp,h1,_⟩
  ·have V:U.length=0:=by unfold depV at l;rw[List.map_eq_nil_iff] at l;rw[l];rfl
   exact⟨none,0,by rw[h1,V]⟩
  ·exact⟨_,_,by rw[h1];unfold depV;rw[List.length_map]⟩
 obtain⟨ap,capp,rfl⟩:=m;go_wp2;go_loopw [5,11] (λW B wr=>∃i:Nat,W=.int .i64 (prodU P U i)/\B=.int .i64 i/\i<=U.length/\S=wr) (λ_ B _=>U.length-(intOf B).toNat)
 case atStart=>exact⟨0,rfl,rfl,by omega,rfl⟩
 case round=>
  obtain⟨i,rfl,rfl,hi,rfl⟩:=hrel;by_cases a:i<U.length
  ·have M:(i:Int)<U.length:=by omega
   have q:gt (depV U) i=.int .i64 (dep (gt U i)):=by unfold depV;rw[gt_map _ _ _ a]
   have C:∃g,ap=some ⟨g,0,none⟩:=by
    rcases k.form with⟨h1,l⟩|⟨g,cp,h1,_⟩
    ·unfold depV at l;rw[List.map_eq_nil_iff] at l;rw[l] at a;simp at a
    ·simp only[Value.slice.injEq] at h1;exact⟨g,h1.1⟩
   obtain⟨gp,rfl⟩:=C;have r:=k.cell i (by unfold depV;rw[List.length_map];exact a);rw[q] at r;clear q;have e:prodU P U (i+1)=prodU P U i*gt P.orders (dep (gt U i)):=rfl;have D:=prodU_729 hP L.out (i+1) a;rw[e] at D;obtain⟨d,E⟩:∃d,d=dep (gt U i):=⟨_,rfl⟩;rw[<-E] at r e D;have F:d<P.orders.length:=by rw[E];exact(L.out.1 _ (gtMem a)).2.1
   clear E;have N:(d:Int)<P.orders.length:=by omega
   obtain⟨b,off,rfl,_,_,dL⟩:=Ints.at (y.ext j) d F;have X:=j.cell fI (by simp);have hw:IntKind.i64.wrap (prodU P U i*gt P.orders d)=prodU P U i*gt P.orders d:=IntWalk.i64_in _ (by omega);have Y:=Lib.hid e;clear e D;go_wp2;go_roundw
   case rel=>exact⟨i+1,by rw[Y.out],by go_num,by omega,trivial⟩
   case measure=>simp[intOf];omega
  ·have G:i=U.length:=by omega
   subst G;go_wp2;go_ret;exact⟨_,rfl,j,rfl⟩
end Go.Proofs.YtdcobapnlpeaaaaGreat
namespace Go.Proofs.YtdcobapnlpeaaaaGreat
def ordsU (P:Pr) (U:List (List Int)):List Int:=U.map (λz=>gt P.orders (dep z))
theorem ordsU_len (P:Pr) (U:List (List Int)):(ordsU P U).length=U.length:=by unfold ordsU;rw[List.length_map]
theorem ordsU_at (P:Pr) (U:List (List Int)) (i:Nat) (a:i<U.length):gt (ordsU P U) i=gt P.orders (dep (gt U i)):=by unfold ordsU;rw[gt_map _ _ _ a]
def prodR (P:Pr) (U:List (List Int)) (a:List Int):Nat->List Int
 | 0=>zeros P.orders.length
 | k+1=>rMul P (prodR P U a k) (pwZ P (gt U k) (gt a k))
def shapeP (o:List Int):Pr:=⟨o,List.replicate o.length (zeros o.length),(List.range o.length).map (λi=>List.replicate (o.length-1-i) (zeros o.length))⟩
theorem gt_rep {α:Type} [Inhabited α] (n:Nat) (x:α) (i:Nat) (a:i<n):gt (List.replicate n x) i=x:=by simp[gt,a]
theorem shapeP_valid {o:List Int}(m:o.length<=6) (g:∀i,i<o.length->gt o i=2\/gt o i=3\/gt o i=5\/gt o i=7) (n:prodTo o o.length<=729):Valid (shapeP o):=by
 have l:Vec o (zeros o.length):=⟨by simp[zeros],λi a=>by
  have:gt (zeros o.length) i=0:=gt_replicate _ _;rw[this];rcases g i a with h|h|h|h<;>rw[h]<;>decide⟩
 have b:∀i,ZeroTo i (zeros o.length):=λi j _=>gt_replicate _ _;refine⟨n,m,by simp[shapeP],by simp[shapeP],g,λi a => ?_,λi a => ?_⟩
 ·show Vec o (gt (List.replicate o.length (zeros o.length)) i)/\ZeroTo i (gt (List.replicate o.length (zeros o.length)) i)
  rw[gt_rep o.length _ _ a];exact⟨l,b i⟩
 ·have e:gt (shapeP o).conj i=List.replicate (o.length-1-i) (zeros o.length):=by
   unfold shapeP;have p:i<(List.range o.length).length:=by rw[List.length_range];exact a
   have:=gt_map (λi=>List.replicate (o.length-1-i) (zeros o.length)) (List.range o.length) i p;rw[this];simp[gt,show i<o.length from a]
  rw[e];refine⟨by simp[shapeP],λk hk => ?_⟩;rw[gt_rep (o.length-1-i) _ _ hk];exact⟨l,b i⟩
theorem prodR_congr {P:Pr}{U:List (List Int)}{a a':List Int}(k:Nat) (h:∀j,j<k->gt a j=gt a' j):prodR P U a k=prodR P U a' k:=by
 induction k with
 | zero=>rfl
 | succ k b=>
  simp only[prodR];rw[b (λj e=>h j (by omega)),h k (by omega)]
theorem prodTo_ordsU (P:Pr) (U:List (List Int)) (k:Nat) (hk:k<=U.length):prodTo (ordsU P U) k=prodU P U k:=by
 induction k with
 | zero=>rfl
 | succ k a=>simp only[prodTo,prodU];rw[a (by omega),ordsU_at P U k (by omega)]
section
variable {P:Pr}(G:Grp P)
include G
theorem Grp.prodR_vec {U:List (List Int)}(b:∀z∈U,Vec P.orders z) (a:List Int) (k:Nat) (hk:k<=U.length):Vec P.orders (prodR P U a k):=by
 induction k with
 | zero=>exact G.oneV
 | succ k e=>exact G.mulV (e (by omega)) (G.pwZ_vec (b _ (gtMem (by omega))) _)
theorem Grp.mem_elsP {U:List (List Int)}(i:SeqOk P U) (x:List Int):∀k,k<=U.length->(x∈elsP P U k↔∃a:List Int,a.length=U.length/\(∀j,j<k->0<=gt a j/\gt a j<gt P.orders (dep (gt U j)))/\x=prodR P U a k):=by
 intro k;induction k generalizing x with
 | zero=>
  intro _;simp only[elsP,List.mem_singleton,prodR];exact⟨λh=>⟨List.replicate U.length 0,by simp,λj b=>by omega,h⟩,λ⟨_,_,_,h⟩=>h⟩
 | succ k g=>
  intro hk;have l:=(i.1 _ (gtMem (show k<U.length by omega))).2.1;have m:=G.v.ord7 _ l;simp only[elsP,List.mem_flatMap,stepE,List.mem_map,List.mem_range];constructor
  ·rintro ⟨y,hy,t,ht,rfl⟩
   obtain⟨a,ha,hb,rfl⟩:=(g y (by omega)).1 hy;refine⟨a.set k t,by simp[ha],λj b => ?_,?_⟩
   ·rcases Nat.lt_succ_iff_lt_or_eq.1 b with h|h
    ·rw[gt_set_ne _ _ _ _ (by omega)];exact hb j h
    ·subst h;rw[gt_set_eq _ _ _ (by omega)];omega
   ·simp only[prodR]
    rw[gt_set_eq _ _ _ (by omega),pwZ_nat _ _ _ (by omega),prodR_congr (a:=a.set k t) (a':=a) k (λj b=>gt_set_ne _ _ _ _ (by omega))];rfl
  ·rintro ⟨a,ha,hb,rfl⟩
   have e:=hb k (by omega);refine⟨prodR P U a k,(g _ (by omega)).2 ⟨a,ha,λj b=>hb j (by omega),rfl⟩,(gt a k).toNat,by omega,?_⟩;simp only[prodR];rw[pwZ_nat _ _ _ e.1]
theorem Grp.mem_prods {H:List Int->Prop}(S:Sub P H) (x:List Int):H x↔∃m:Int,0<=m/\m<prodU P (cseq P H) (cseq P H).length/\x=prodR P (cseq P H) (elAt (shapeP (ordsU P (cseq P H))) m) (cseq P H).length:=by
 obtain⟨h1,p,q⟩:=G.seq_facts S;obtain⟨U,r⟩:∃U,U=cseq P H:=⟨_,rfl⟩;rw[<-r] at h1 p q ⊢;have u:U.length<=P.orders.length:=by rw[r];exact G.cseq_len S
 have z:=G.v.n6;have b:=ordsU_len P U
 have k:Valid (shapeP (ordsU P U)):=by
  refine shapeP_valid (by omega) (λi l => ?_) ?_
  ·rw [ordsU_at P U i (by omega)]
   exact G.v.ord _ (h1.1 _ (gtMem (by omega))).2.1
  ·rw [b,prodTo_ordsU P U U.length (Nat.le_refl _)]
   exact(prodU_729 G.v h1 U.length (Nat.le_refl _)).2
 have hO:ordP (shapeP (ordsU P U))=prodU P U U.length:=by
  unfold ordP;show prodTo (ordsU P U) (ordsU P U).length=_
  rw[b];exact prodTo_ordsU P U U.length (Nat.le_refl _)
 rw[<-G.elsP_mem S h1 p q x,G.mem_elsP h1 x U.length (Nat.le_refl _)];constructor
 ·rintro ⟨a,ha,hb,rfl⟩
  have e:Vec (shapeP (ordsU P U)).orders a:=⟨by rw[ha];exact b.symm,λi l=>by
   have l:i<(ordsU P U).length:=l;show _/\_<gt (ordsU P U) i
   rw[ordsU_at P U i (by omega)];exact hb i (by omega)⟩
  have g:=num_bd k e;refine⟨num _ a,g.1,by rw[<-hO];exact g.2,?_⟩;rw[elAt_num k e]
 ·rintro ⟨m,h4,h5,rfl⟩
  have w:=elAt_vec k m h4;have n:(elAt (shapeP (ordsU P U)) m).length=(ordsU P U).length:=w.1;refine⟨_,by rw[n,b],λj A => ?_,rfl⟩;have y:0<=gt (elAt (shapeP (ordsU P U)) m) j/\gt (elAt (shapeP (ordsU P U)) m) j<gt (ordsU P U) j:=w.2 j (by show j<(ordsU P U).length;omega);rw[ordsU_at P U j A] at y;exact y
end
theorem stepE_succ (P:Pr) (u:List Int) (o:Nat) (x:List Int):stepE P u (o+1) x=stepE P u o x++[rMul P x (pw P u o)]:=by
 unfold stepE;rw[List.range_succ,List.map_append];rfl
theorem flatMap_take_succ {α a:Type} [Inhabited α] (l:List α) (f:α->List a) (i:Nat) (b:i<l.length):(l.take (i+1)).flatMap f=(l.take i).flatMap f++f (gt l i):=by
 rw[take_succ_gt l i b,List.flatMap_append];simp
theorem stepE_len (P:Pr) (u:List Int) (o:Nat) (x:List Int):(stepE P u o x).length=o:=by unfold stepE;simp
theorem flatMap_len (P:Pr) (u:List Int) (o:Nat) (l:List (List Int)):(l.flatMap (stepE P u o)).length=l.length*o:=by
 induction l with
 | nil=>simp
 | cons x l a=>rw[List.flatMap_cons,List.length_append,a,stepE_len,List.length_cons,Nat.add_mul];omega
theorem elsP_len {P:Pr}(hP:Valid P) {U:List (List Int)}(b:SeqOk P U) (k:Nat) (hk:k<=U.length):((elsP P U k).length:Int)=prodU P U k:=by
 induction k with
 | zero=>simp[elsP,prodU]
 | succ k a=>
  have a:=a (by omega);have e:=hP.ord7 (dep (gt U k)) (b.1 _ (gtMem (by omega))).2.1;simp only[elsP,prodU];rw[flatMap_len,Int.natCast_mul,a,show(((gt P.orders (dep (gt U k))).toNat:Nat):Int)=gt P.orders (dep (gt U k)) by omega]
theorem Grp.step_mul {P:Pr}(G:Grp P) {x u:List Int}(hx:Vec P.orders x) (a:Vec P.orders u) (t:Nat):rMul P (rMul P x (pw P u t)) u=rMul P x (pw P u (t+1)):=by
 rw[pw_succ,G.ass hx (G.pw_vec a t) a]
def nWord (e:List Int):Nat->List Int
 | 0=>[]
 | k+1=>nWord e k++List.replicate (gt e k).toNat ((k:Int)+1)
theorem nWord_len {e:List Int}(h:∀i,gt e i<=7):∀k,(nWord e k).length<=7*k
 | 0=>by simp[nWord]
 | k+1=>by
  have:=nWord_len h k;have:=h k;simp only[nWord,List.length_append,List.length_replicate];omega
section
variable {Q:Pr}(G:Grp Q)
include G
end
end Go.Proofs.YtdcobapnlpeaaaaGreat
namespace Go.Proofs.YtdcobapnlpeaaaaGreat
open Go.RowKit
theorem ints_lit (w:World) (y:Int):Ints Any (w.alloc (.cells #[.int .i64 y] 2)) (.slice (some ⟨w.heap.size,0,none⟩) 1 1) [y]:=by
 refine⟨some ⟨w.heap.size,0,none⟩,1,rfl,⟨by simp,by simp,λh=>by cases h⟩,λi a=>⟨w.heap.size,0,.int .i64 y,rfl,trivial,by simp,?_,?_⟩⟩
 ·have:i=0:=by simpa using a
  subst this;rw[World.cell?_alloc_at _ _ _ _ rfl];rfl
 ·have:i=0:=by simpa using a
  subst this;rfl
theorem l07Word_ok (w:World) (v:Value) (e:List Int) (S:Nat->Prop) (K:Ints S w v e) (V:e.length<=6) (C:∀i,i<e.length->0<=gt e i/\gt e i<=7) :
  Calls Tryz.prog 365 #[v] w (Ret w λw' r=>Own w.heap.size w' r (nWord e e.length)):=by
 obtain⟨a,cap,rfl,_,_⟩:=K.shape
 have A:∀i,gt e i<=7:=λi=>by
  by_cases h:i<e.length
  ·exact(C i h).2
  ·rw[gt_big (by omega)];decide
 have L:=Lib.hid (And.intro A C);clear A C;go_enter Tryz.func365,Tryz.ntmps365;go_wp2;go_loopw [3,4] (λD E wr=>∃(i:Nat) (B:Value),B=D/\E=.int .i64 i/\i<=e.length/\Ext w wr/\Own w.heap.size wr B (nWord e i)) (λ_ E _=>e.length-(intOf E).toNat)
 case atStart=>exact⟨0,_,rfl,rfl,by omega,World.grownBy_alloc _ _ _,World.ownsRow_lit w #[] 0 (Nat.le_refl _) (by decide) rfl⟩
 case round=>
  obtain⟨i,B,rfl,rfl,hi,hg,hO⟩:=hrel;by_cases l:i<e.length
  ·have M:(i:Int)<e.length:=by omega
   obtain⟨b,off,rfl,_,_,N⟩:=Ints.at K i l;obtain⟨x,hx⟩:∃x,x=(gt e i).toNat:=⟨_,rfl⟩;have F:=L.out.2 i l;have m:gt e i=(x:Int):=by omega
   have R:x<=7:=by omega
   have n:nWord e (i+1)=nWord e i++List.replicate x ((i:Int)+1):=by rw[nWord,hx]
   have p:=nWord_len L.out.1 i;rw[m] at N;have O:=Lib.hid (And.intro n p);clear n p F m hx;go_wp2;have q:Own w.heap.size wr B (nWord e i++List.replicate 0 ((i:Int)+1)):=by simpa using hO
   clear hO;go_loopw [3,5] (λD kv wr=>∃(k:Nat) (v4:Value),v4=D/\kv=.int .i64 k/\k<=x/\Ext w wr/\Own w.heap.size wr v4 (nWord e i++List.replicate k ((i:Int)+1))) (λ_ kv _=>x-(intOf kv).toNat)
   case atStart=>exact⟨0,_,rfl,rfl,by omega,hg,q⟩
   case round=>
    clear q hg;obtain⟨k,v4,rfl,rfl,hk,hg,hO⟩:=hrel;have u:=hg.cell N (by simp);by_cases P:k<x
    ·have G:(k:Int)<x:=by omega
     have g:(nWord e i++List.replicate k ((i:Int)+1)).length<=1000:=by rw[List.length_append,List.length_replicate];have:=O.out.2;omega
     have T:=Lib.hid g;clear g;go_wp2_with (first|(at_builtin;refine wp_app_ints rfl _ _ rfl w.heap.size v4 _ rfl (hO.ext0 (World.grownBy_alloc _ _ _)) _ _ rfl Any (ints_lit wr _) (by have:=T.out;simp only[List.length_cons,List.length_nil];omega) (by have:=hg.size;simp;omega) ?_;intro U Q y z _)|fail)
     have j:wr.grownBy Q v4.ownBlock:=grown_trans (grown_of_ext _ (World.grownBy_alloc _ _ _)) z;have H:Ext w Q:=grown_own hg j (λb A l=>by have:=(hO.lt b A).1;omega);rw[List.append_assoc,<-List.replicate_succ'] at y;clear hO z j u;go_roundw
     case rel=>exact⟨k+1,U,rfl,by go_num,by omega,H,y⟩
     case measure=>simp[intOf];omega
    ·have I:k=x:=by omega
     subst I;rw[<-O.out.1] at hO;go_wp2;clear u;go_roundw
     case rel=>exact⟨i+1,v4,rfl,by go_num,by omega,hg,hO⟩
     case measure=>simp[intOf];omega
  ·have J:i=e.length:=by omega
   subst J;go_wp2;go_ret;exact⟨_,rfl,hg,hO⟩
theorem l12Reduce_ok (P:Pr) (G:Grp P) (w:World) (pv tv K:Value) (b:List (List Int)) (X:List Int) (H:List Int->Prop) (Sp Sb Sx:Nat->Prop) (L:PresV Sp w pv P) (ht:Rows2 Sb w tv b) (hx:Ints Sx w K X) (M:Vec P.orders X)
  (k:b.length=P.orders.length) (hI:Ind P H (gt b)) :
  Calls Tryz.prog 225 #[pv,tv,K] w (Ret w λw' v=>∃Y,Own w.heap.size w' v Y/\RedTo P H b X P.orders.length Y):=by
 have hP:=G.v;have am:=hP.n6;obtain⟨vo,vp,vc,rfl,h3⟩:=L;have r:=PresP.box h3 28;have l:Ext w (w.alloc (.cells #[vo,vp,vc] 28)):=World.grownBy_alloc _ _ _;have N:=hx.ext l;have O:=Rows2.ext ht l;have an:X.length<=6:=by rw[M.1];omega
 have u:(w.alloc (.cells #[vo,vp,vc] 28)).heap.size=w.heap.size+1:=by simp
 obtain⟨at_,capt,y,_,_⟩:=Sl.shape ht;rw[k] at y;subst y;have p:=Lib.hid (And.intro hI (And.intro M k));clear hI M k;obtain⟨Q,dI,dG,_,_,R,z,A,B⟩:=r.at;simp only[Nat.zero_add] at z A;clear r;go_enter Tryz.func225,Tryz.ntmps225;go_wp2_with fail
 have HS:=Lib.hid u;clear u;generalize S:w.alloc (.cells #[vo,vp,vc] 28)=w0 at *;clear S;refine Calls.mono (l01Own_ok w0 K X Sx N (by omega)) ?_;rintro e1 w1 ⟨ov,rfl,hg1,gi⟩;go_wp2;go_loopw [7,8] (λov T wr=>∃(d:Nat) (Y:List Int),T=.int .i64 d/\d<=P.orders.length/\Ext w0 wr/\Own w.heap.size wr ov Y/\Hid (RedTo P H b X d Y)) (λ_ T _=>P.orders.length-(intOf T).toNat)
 case atStart=>exact⟨0,X,rfl,by omega,hg1,gi.weak (by have:=HS.out;omega),Lib.hid (G.redTo_zero p.out.1.sub p.out.2.1)⟩
 case round=>
  clear gi;obtain⟨d,Y,rfl,hd,e,hO,C⟩:=hrel;have a:=C.out.vec;have U:Y.length=P.orders.length:=a.1;have m:=hO.ints (by omega);obtain⟨ay,capy,D,_,_⟩:=m.shape;rw[U] at D;subst D;by_cases g:d<P.orders.length
  ·have ai:(d:Int)<P.orders.length:=by omega
   obtain⟨bb,off,a2,E,rfl,_,_,hc,hr⟩:=Rows2.at (Rows2.ext O e) d (by rw[p.out.2.2];exact g);obtain⟨V,oy,rfl,_,_,j5⟩:=Ints.at m d (by omega);by_cases j:gt b d=[]
   ·have W:¬(0:Int)<(gt b d).length:=by rw[j];simp
    have i:=Lib.hid (C.out.skip (.inl j));clear j a;go_wp2;go_roundw
    case rel=>exact⟨d+1,Y,by go_num,by omega,e,hO,i⟩
    case measure=>simp[intOf];omega
   ·have W:(0:Int)<(gt b d).length:=by
     have:0<(gt b d).length:=List.length_pos_iff.2 j;omega
    by_cases hy:gt Y d=0
    ·have Z:(gt Y d != 0)=false:=by simp[hy]
     have i:=Lib.hid (C.out.skip (.inr hy));clear j a hy;go_wp2;go_roundw
     case rel=>exact⟨d+1,Y,by go_num,by omega,e,hO,i⟩
     case measure=>simp[intOf];omega
    ·have Z:(gt Y d != 0)=true:=by simp[hy]
     have F:=a.2 d g;have ho:=hP.ord7 d g;have aq:IntKind.i64.wrap (-(gt Y d)) = -(gt Y d):=IntWalk.i64_in _ (by omega);obtain⟨m1,m2,m3⟩:=p.out.1.mem d g j;have i:=Lib.hid (G.redTo_step p.out.1 p.out.2.1 g j C.out);have n:=G.pwZ_vec m2.1 (-(gt Y d));have I:(pwZ P (gt b d) (-(gt Y d))).length<=6:=by rw[n.1];omega
     have q:=Lib.hid (And.intro m2.1 (And.intro n (And.intro I (And.intro a (And.intro F ho)))));clear m1 m2 m3 n I a F ho j hy;have e1:∀w',Ext wr w'->w'.cell? ⟨w.heap.size,0,none⟩=some Q:=λw' h=>(grown_trans e h).cell R (by simp);have e2:∀w',Ext wr w'->w'.cell? ⟨w.heap.size,1,none⟩=some dI:=λw' h=>(grown_trans e h).cell z (by simp);have e3:∀w',Ext wr w'->w'.cell? ⟨w.heap.size,2,none⟩=some dG:=λw' h=>(grown_trans e h).cell A (by simp);have e4:∀w',Ext wr w'->w'.cell? ⟨bb,off+d,none⟩=some (.slice a2 (gt b d).length E):=λw' h=>h.cell hc (by simp);have e5:∀w',Ext wr w'->w'.cell? ⟨V,oy+d,none⟩=some (.int .i64 (gt Y d)):=λw' h=>h.cell j5 (by simp);go_wp2;clear hc j5
     go_region_held3 (λw'=>Ext wr w') (first|exact grown_drew _ _|assumption)
      (first
       | (go_at_call 106;refine Calls.mono (Calls.rel (w0:=wr) (by assumption) (l10Pow_ok P G _ _ _ (gt b d) _ Any Any ⟨_,_,_,rfl,Pres3.ext (Pres3.ext B e) (by assumption)⟩ (Ints.sub (Ints.ext hr (by assumption)) (λ_ _ _=>trivial)) q.out.1 (by have:=q.out.2.2.2.2.1;have:=q.out.2.2.2.2.2;omega))) ?_;rintro eA wA ⟨vA,rfl,dR,eW,gw⟩;have J:=gw.ints (by have:=q.out.2.2.1;omega))
       | (go_at_call 240;refine Calls.mono (Calls.rel (w0:=wr) (by assumption) (l08Mul_ok P hP _ _ _ _ Y _ Any Any Any ⟨_,_,_,rfl,Pres3.ext (Pres3.ext B e) (by assumption)⟩ (Ints.sub (Ints.ext m (by assumption)) (λ_ _ _=>trivial)) J q.out.2.2.2.1 q.out.2.1)) ?_;rintro eB wB ⟨vB,rfl,hgB,hsB,gX⟩))
     clear e1 e2 e3 e4 e5;go_wp2;go_roundw
     case rel=>exact⟨d+1,_,by go_num,by omega,grown_trans e hgB,gX.weak (by have:=e.size;have:=HS.out;omega),i⟩
     case measure=>simp[intOf];omega
  ·have ab:d=P.orders.length:=by omega
   subst ab;go_wp2;go_ret;exact⟨_,rfl,grown_trans l e,Y,hO,C.out⟩
theorem Grp.repTo_mem {P:Pr}(G:Grp P) {H:List Int->Prop}(S:Sub P H) {X Y:List Int}(a:Vec P.orders X) (h:RepTo P (cseq P H) X (cseq P H).length Y):Y=zeros P.orders.length↔H X:=by
 obtain⟨h1,h2,h3⟩:=G.seq_facts S;have i:=G.invV a;have e:=h.cos H S h2;constructor
 ·intro b
  rw[b,G.grp.er _ i] at e;have:=S.inv _ e;rwa [G.inv_inv a] at this
 ·intro hx
  have hy:=S.mul _ _ hx e;rw[<-G.ass a i h.vec,G.mul_inv a,G.grp.el _ h.vec] at hy;by_cases b:Y=zeros P.orders.length
  ·exact b
  ·obtain ⟨d,hd,hT,hne⟩:=depth_ex h.vec b
   obtain⟨j,hj,g⟩:=h3 Y hy d hd hT hne;exact absurd (by rw[<-g];exact h.zer j hj) hne
theorem isZeroB_zeros {o l:List Int}(h:Vec o l):isZeroB l=true↔l=zeros o.length:=by
 rw[isZeroB_true];constructor
 ·intro a
  refine ext_gt (by rw[h.1];simp[zeros]) (λi b => ?_);rw[a i b];exact(gt_replicate _ _).symm
 ·intro a i b
  rw[a];exact gt_replicate _ _
theorem isMember_ok (P:Pr) (G:Grp P) (w:World) (p l m:Value) (H:List Int->Prop) (X:List Int) (q u y:Nat->Prop) (S:Sub P H) (z:PresP q w p P) (A:Rows2 u w l (cseq P H)) (hx:Ints y w m X) (B:Vec P.orders X) :
  Calls Tryz.prog 123 #[p,l,m] w (Ret w λ_ v=>∃r:Bool,v=.bool r/\(r=true↔H X)):=by
 have D:=G.v.n6;have I:=G.cseq_len S;have e:=(G.seq_facts S).1;have b:=representative_ok P G w p l m (cseq P H) X q u y z A e (by omega) hx B;obtain⟨pb,po,rfl⟩:=z.shape;obtain⟨J,capu,rfl,_,_⟩:=Sl.shape A;obtain⟨K,capx,rfl,_,_⟩:=hx.shape;have L:=Lib.hid e;clear e;go_enter Tryz.func123,Tryz.ntmps123;go_wp2_with fail
 refine Calls.mono b ?_;rintro M C ⟨v1,rfl,hg1,Y,hO,k⟩;clear b;have g:=hO.ints (by rw[k.vec.1];omega);obtain⟨N,capy,rfl,_,_⟩:=g.shape;have a:=(isZeroB_zeros k.vec).trans (G.repTo_mem S B k);cases j:isZeroB Y with
 | true=>
  rw[j] at a;have n:=Lib.hid a;have i:=isZero_ok _ _ C Any g;rw[j] at i;clear a j k;go_wp2_with fail
  refine Calls.mono i ?_;rintro E F ⟨rfl,rfl⟩;clear i;go_wp2;go_ret;exact⟨_,rfl,hg1,true,rfl,by simpa using n.out⟩
 | false=>
  rw[j] at a;have n:=Lib.hid a;have i:=isZero_ok _ _ C Any g;rw[j] at i;clear a j k;go_wp2_with fail
  refine Calls.mono i ?_;rintro E F ⟨rfl,rfl⟩;clear i;go_wp2;go_ret;exact⟨_,rfl,hg1,false,rfl,by simpa using n.out⟩
theorem l01Zero_ok (v:Value) (l:List Int) (w:World) (S:Nat->Prop) (h:Ints S w v l) :
  Calls Tryz.prog 313 #[v] w λe w'=>e=.returned (.bool (isZeroB l))/\w=w':=by
 obtain⟨a,cap,rfl,_,_⟩:=h.shape;go_enter Tryz.func313,Tryz.ntmps313;go_wp2;go_loop [3] (λi=>∃k:Nat,i=.int .i64 k/\k<=l.length/\∀j,j<k->gt l j=0) (λi=>l.length-(intOf i).toNat)
 case atStart=>exact⟨0,rfl,by omega,λj n=>by omega⟩
 case round=>
  obtain⟨k,rfl,hk,hz⟩:=hrel;have q:=Lib.hid hz;clear hz;by_cases g:k<l.length
  ·obtain ⟨b,off,rfl,_,_,hc⟩:=Ints.at h k g
   by_cases hx:gt l k=0
   ·have r:(gt l k != 0)=false:=by simp[hx]
    have u:=Lib.hid hx;clear hx;go_wp2;go_round
    case rel=>exact⟨k+1,by go_num,by omega,λj n=>by
     rcases Nat.lt_succ_iff_lt_or_eq.1 n with h1|h1
     ·exact q.out j h1
     ·rw[h1];exact u.out⟩
    case measure=>simp[intOf];omega
   ·have r:(gt l k != 0)=true:=by simp[hx]
    have m:isZeroB l=false:=by
     cases y:isZeroB l with
     | false=>rfl
     | true=>exact absurd (isZeroB_true.1 y k g) hx
    have p:=Lib.hid m;clear m hx;go_wp2;go_ret;exact⟨by rw[p.out];rfl,rfl⟩
  ·have m:isZeroB l=true:=isZeroB_true.2 (λj n=>q.out j (by omega))
   have p:=Lib.hid m;clear m;go_wp2;go_ret;exact⟨by rw[p.out];rfl,rfl⟩
theorem l12Sift_ok (P:Pr) (G:Grp P) (w:World) (pv y z:Value) (H:List Int->Prop) (X:List Int) (D E F:Nat->Prop) (S:Sub P H) (m:PresV D w pv P) (n:Rows2 E w y (cseq P H)) (hx:Ints F w z X) (A:Vec P.orders X) :
  Calls Tryz.prog 120 #[pv,y,z] w (Ret w λw' v=>∃Y,Own w.heap.size w' v Y/\Rep P H (gt (tabTo (cseq P H) P.orders.length (cseq P H).length)) X Y):=by
 have hP:=G.v;have I:=hP.n6;have B:=G.cseq_len S;have g:=(G.seq_facts S).1;have C:=G.ind_tab S;obtain⟨vo,vp,vc,rfl,h3⟩:=m;have i:=PresP.box h3 28;have a:Ext w (w.alloc (.cells #[vo,vp,vc] 28)):=World.grownBy_alloc _ _ _;have p:=Rows2.ext n a;have q:=hx.ext a;have j:(w.alloc (.cells #[vo,vp,vc] 28)).heap.size=w.heap.size+1:=by simp
 obtain⟨O,capu,r8,_,_⟩:=Sl.shape n;obtain⟨Q,capx,mQ,_,_⟩:=hx.shape;subst r8 mQ;obtain⟨r,dI,dG,_,_,hc0,b,e,dy⟩:=i.at;simp only[Nat.zero_add] at b e;have l:=Lib.hid (And.intro g (And.intro C (And.intro A B)));clear g C A B i n hx;go_enter Tryz.func120,Tryz.ntmps120;go_wp2;have J:=Lib.hid j;clear j;generalize u:w.alloc (.cells #[vo,vp,vc] 28)=w0 at *;clear u;have K:∀w',Ext w0 w'->w'.cell? ⟨w.heap.size,0,none⟩=some r:=λw' h=>h.cell hc0 (by simp);have L:∀w',Ext w0 w'->w'.cell? ⟨w.heap.size,1,none⟩=some dI:=λw' h=>h.cell b (by simp);have M:∀w',Ext w0 w'->w'.cell? ⟨w.heap.size,2,none⟩=some dG:=λw' h=>h.cell e (by simp);clear hc0 b e
 go_region_held3 (λw'=>Ext w0 w') (first|exact grown_drew _ _|assumption)
  (first
   | (go_at_call 226;refine Calls.mono (Calls.rel (w0:=w0) (by assumption) (l12Table_ok P hP _ _ _ (cseq P H) Any Any ⟨_,_,_,rfl,Pres3.ext dy (by assumption)⟩ (Rows2.sub (Rows2.ext p (by assumption)) (λ_ _ _=>trivial)) l.out.1 (by have:=l.out.2.2.2;omega))) ?_;rintro R T ⟨U,rfl,dR,eW,k⟩;obtain⟨V,capA,rR,_,_⟩:=Sl.shape k;subst rR)
   | (go_at_call 225;refine Calls.mono (Calls.rel (w0:=w0) (by assumption) (l12Reduce_ok P G _ _ _ _ _ X H Any Any Any ⟨_,_,_,rfl,Pres3.ext dy (by assumption)⟩ k (Ints.sub (Ints.ext q (by assumption)) (λ_ _ _=>trivial)) l.out.2.2.1 (tabTo_len _ _ _) l.out.2.1)) ?_;rintro W Z ⟨vB,rfl,hgB,hsB,Y,gX,xX⟩))
 clear K L M;have N:=Lib.hid xX;clear xX;go_wp2;go_ret;exact⟨_,rfl,grown_trans a hgB,Y,gX.weak (by have:=J.out;omega),N.out.rep⟩
theorem l12Has_ok (P:Pr) (G:Grp P) (w:World) (pv B C:Value) (H:List Int->Prop) (X:List Int) (J D E:Nat->Prop) (S:Sub P H) (p:PresV J w pv P) (q:Rows2 D w B (cseq P H)) (hx:Ints E w C X) (u:Vec P.orders X) :
  Calls Tryz.prog 278 #[pv,B,C] w (Ret w λ_ v=>∃r:Bool,v=.bool r/\(r=true↔H X)):=by
 have K:=G.v.n6;have F:=G.ind_tab S;obtain⟨vo,vp,vc,rfl,h3⟩:=p;have i:=PresP.box h3 28;have b:Ext w (w.alloc (.cells #[vo,vp,vc] 28)):=World.grownBy_alloc _ _ _;have y:=Rows2.ext q b;have z:=hx.ext b;obtain⟨Q,capu,r8,_,_⟩:=Sl.shape q;obtain⟨R,capx,mQ,_,_⟩:=hx.shape;subst r8 mQ;obtain⟨L,dI,dG,_,_,hc0,j,k,dy⟩:=i.at;simp only[Nat.zero_add] at j k;have e:=l12Sift_ok P G (w.alloc (.cells #[vo,vp,vc] 28)) _ _ _ H X Any D E S ⟨_,_,_,rfl,dy⟩ y z u;have I:=Lib.hid (And.intro F u);clear F u i q hx;go_enter Tryz.func278,Tryz.ntmps278;go_wp2_with fail
 clear hc0 j k;refine Calls.mono e ?_;rintro T M ⟨v1,rfl,hg1,Y,hO,l⟩;clear e;have m:=hO.ints (by rw[l.1.1];omega);obtain⟨U,capy,rfl,_,_⟩:=m.shape;have a:=(isZeroB_zeros l.1).trans (G.rep_mem I.out.1 I.out.2 l);have g:=l01Zero_ok _ _ M Any m;cases n:isZeroB Y with
 | true=>
  rw[n] at a g;have A:=Lib.hid a;clear a n l;go_wp2_with fail
  refine Calls.mono g ?_;rintro N O ⟨rfl,rfl⟩;clear g;go_wp2;go_ret;exact⟨_,rfl,grown_trans b hg1,true,rfl,by simpa using A.out⟩
 | false=>
  rw[n] at a g;have A:=Lib.hid a;clear a n l;go_wp2_with fail
  refine Calls.mono g ?_;rintro N O ⟨rfl,rfl⟩;clear g;go_wp2;go_ret;exact⟨_,rfl,grown_trans b hg1,false,rfl,by simpa using A.out⟩
theorem l12Order_ok (P:Pr) (hP:Valid P) (w:World) (pv H:Value) (U:List (List Int)) (O Q:Nat->Prop) (r:PresV O w pv P) (u:Rows2 Q w H U) (I:SeqOk P U) (Z:U.length<=100) :
  Calls Tryz.prog 232 #[pv,H] w (Ret w λ_ v=>v=.int .i64 (prodU P U U.length)):=by
 have R:=hP.n6;obtain⟨vo,vp,vc,rfl,h3⟩:=r;have g:=PresP.box h3 28;have j:Ext w (w.alloc (.cells #[vo,vp,vc] 28)):=World.grownBy_alloc _ _ _;have y:=Rows2.ext u j;obtain⟨ao,capo,A,B⟩:=g.ordAt;obtain⟨au,capu,rfl,_,_⟩:=Sl.shape u;have J:=Lib.hid I;clear I g u;go_enter Tryz.func232,Tryz.ntmps232;go_wp2;generalize C:w.alloc (.cells #[vo,vp,vc] 28)=w0 at *;clear C;go_loopw [5,6] (λS D wr=>∃i:Nat,S=.int .i64 (prodU P U i)/\D=.int .i64 i/\i<=U.length/\Ext w0 wr) (λ_ D _=>U.length-(intOf D).toNat)
 case atStart=>exact⟨0,rfl,rfl,by omega,Ext.refl _⟩
 case round=>
  obtain⟨i,rfl,rfl,hi,k⟩:=hrel;by_cases e:i<U.length
  ·have K:(i:Int)<U.length:=by omega
   obtain⟨b,off,a2,l,rfl,_,_,E,L⟩:=Rows2.at (Rows2.ext y k) i e;have a:prodU P U (i+1)=prodU P U i*gt P.orders (dep (gt U i)):=rfl;have n:=prodU_729 hP J.out (i+1) e;rw[a] at n;obtain⟨z,p⟩:∃z,z=gt U i:=⟨_,rfl⟩;rw[<-p] at E L a n;obtain⟨d,q⟩:∃d,d=dep z:=⟨_,rfl⟩;rw[<-q] at a n;have F:d<P.orders.length:=by rw[q,p];exact(J.out.1 _ (gtMem e)).2.1
   have T:=Lib.hid (And.intro q p);clear q p;have M:(d:Int)<P.orders.length:=by omega
   obtain⟨N,oo,rfl,_,_,hcd⟩:=Ints.at (B.ext k) d F;have hw:IntKind.i64.wrap (prodU P U i*gt P.orders d)=prodU P U i*gt P.orders d:=IntWalk.i64_in _ (by omega);have V:=Lib.hid a;clear a n;have W:∀w',Ext wr w'->w'.cell? ⟨w.heap.size,0,none⟩=some (.slice (some ⟨N,oo,none⟩) P.orders.length capo):=λw' h=>(grown_trans k h).cell A (by simp);have X:∀w',Ext wr w'->w'.cell? ⟨b,off+i,none⟩=some (.slice a2 z.length l):=λw' h=>h.cell E (by simp);have Y:∀w',Ext wr w'->w'.cell? ⟨N,oo+d,none⟩=some (.int .i64 (gt P.orders d)):=λw' h=>h.cell hcd (by simp);clear E hcd;go_wp2
   go_region_held3 (λw'=>Ext wr w') (first|exact grown_drew _ _|assumption)
    (first
     | (go_at_call 289;refine Calls.mono (Calls.rel (w0:=wr) (by first|exact grown_drew _ _|assumption) (l12Depth_ok _ z _ Any (Ints.sub (Ints.ext L (by first|exact grown_drew _ _|assumption)) (λ_ _ _=>trivial)))) ?_;rintro eE wE ⟨vE,rfl,l7,gF,m⟩;rw[<-T.out.1] at m;subst m))
   clear W X Y;go_wp2;go_roundw
   case rel=>exact⟨i+1,by rw[V.out],by go_num,by omega,grown_trans k l7⟩
   case measure=>simp[intOf];omega
  ·have G:i=U.length:=by omega
   subst G;go_wp2;go_ret;exact⟨_,rfl,grown_trans j k,rfl⟩
end Go.Proofs.YtdcobapnlpeaaaaGreat
namespace Go.Proofs.YtdcobapnlpeaaaaGreat
open Go.RowKit
attribute [local go_sem ↓] Go.wp_at_zero Go.wp_at_succ
theorem Own.r9 {B:Nat}{w:World}{v:Value}{l:List Int}(h:Own B w v l) (a:l.length<=1000000):Ints Any w v l:=ints_of_own h (by omega) (λ_ _=>trivial)
theorem nj (a b:List Int):strOfNums (a++b)=strOfNums a++strOfNums b:=by
 apply ByteArray.ext;simp[strOfNums,ByteArray.data_append]
def fU (o:List Int):Nat->List Int
 | 0=>[]
 | k+1=>fU o k++((if 0<k then [32] else [])++[48+gt o k])
def pL (P:Pr) (k:Nat):List Int:=[59,32]++([97+(k:Int)]++([94]++([48+gt P.orders k]++([61]++fT (nWord (gt P.powers k) P.orders.length)))))
def gY (P:Pr):Nat->List Int
 | 0=>[]
 | k+1=>gY P k++(if isZeroB (gt P.powers k) then [] else pL P k)
def nk (P:Pr) (i k:Nat):List Int:=[59,32]++([97+((i+1+k:Nat):Int)]++([94]++([97+(i:Int)]++([61]++fT (nWord (gt (gt P.conj i) k) P.orders.length)))))
def gZ (P:Pr) (i:Nat):Nat->List Int
 | 0=>[]
 | k+1=>gZ P i k++(if eqB (gt (gt P.conj i) k) (unitV P.orders.length (i+1+k)) then [] else nk P i k)
def iU (P:Pr):Nat->List Int
 | 0=>[]
 | i+1=>iU P i++gZ P i (P.orders.length-1-i)
def kQ (P:Pr):List Int:=if P.orders.length=0 then [49] else fU P.orders P.orders.length++(gY P P.orders.length++iU P P.orders.length)
theorem xY {e:List Int}{n:Nat}{x:Int}(h:x∈nWord e n):1<=x/\x<=n:=by
 induction n with
 | zero=>simp[nWord] at h
 | succ n a=>
  rcases List.mem_append.1 h with h|h
  ·have:=a h;omega
  ·have:=List.eq_of_mem_replicate h;omega
theorem pM (o:List Int):∀k,(fU o k).length<=2*k
 | 0=>by simp[fU]
 | k+1=>by
  have:=pM o k;simp only[fU,List.length_append,List.length_singleton];split<;>simp<;>omega
section
variable {P:Pr}(hP:Valid P)
include hP
theorem xZ {e:List Int}(a:Vec P.orders e):∀i,gt e i<=7:=λi=>by
 by_cases h:i<P.orders.length
 ·have:=a.2 i h;have:=hP.ord7 i h;omega
 ·rw[show gt e i=0 by simp[gt,show e.length<=i by rw[a.1];omega]];omega
theorem pN {e:List Int}(a:Vec P.orders e):(fT (nWord e P.orders.length)).length<=43:=by
 have b:=hP.n6;refine Dz _ 42 (Nat.le_trans (nWord_len (λi => ?_) _) (by omega));by_cases h:i<P.orders.length
 ·have:=a.2 i h;have:=hP.ord7 i h;omega
 ·rw[show gt e i=0 by simp[gt,show e.length<=i by rw[a.1];omega]];omega
theorem sj:∀k,k<=P.orders.length->(gY P k).length<=50*k
 | 0,_=>by simp[gY]
 | k+1,h=>by
  have h1:=sj k (by omega);have a:=pN hP (hP.pv k (by omega)).1;simp only[gY,List.length_append];split
  ·simp;omega
  ·simp only[pL,List.length_append,List.length_cons,List.length_nil];omega
theorem sk {i:Nat}(a:i<P.orders.length):∀k,k<=P.orders.length-1-i->(gZ P i k).length<=50*k
 | 0,_=>by simp[gZ]
 | k+1,h=>by
  have h1:=sk a k (by omega);have b:=pN hP ((hP.cv i a).2 k (by omega)).1;simp only[gZ,List.length_append];split
  ·simp;omega
  ·simp only[nk,List.length_append,List.length_cons,List.length_nil];omega
theorem x4:∀i,i<=P.orders.length->(iU P i).length<=300*i
 | 0,_=>by simp[iU]
 | i+1,h=>by
  have h1:=x4 i (by omega);have a:=sk hP (show i<P.orders.length by omega) (P.orders.length-1-i) (Nat.le_refl _);have:=hP.n6;simp only[iU,List.length_append];omega
end
theorem DC (P:Pr) (hP:Valid P) (w:World) (pv:Value) (S:Nat->Prop) (q:PresV S w pv P) :
  Calls Tryz.prog 346 #[pv] w (Ret w λ_ r=>r=.string (strOfNums (kQ P))):=by
 have bt:=hP.n6;obtain⟨vo,vp,vc,rfl,h3⟩:=q;have aM:=PresP.box h3 28;have aC:Ext w (w.alloc (.cells #[vo,vp,vc] 28)):=World.grownBy_alloc _ _ _;obtain⟨bu,dI,dG,_,_,hc0,ah,ai,C⟩:=aM.at;simp only[Nat.zero_add] at ah ai;obtain⟨ao,co,rfl,_,_⟩:=C.o.shape;obtain⟨ap,cp,aD,_,_⟩:=Sl.shape C.p;obtain⟨ac,cc,aE,_,_⟩:=Sl.shape C.c;rw[hP.pl] at aD;rw[hP.cl] at aE;subst aD aE;by_cases hn:P.orders.length=0
 ·have ht:kQ P=[49]:=by unfold kQ;rw[if_pos hn]
  have aN:((P.orders.length:Int) == 0)=true:=by rw[hn];rfl
  have HT:=Lib.hid ht;clear ht;go_enter Tryz.func346,Tryz.ntmps346;go_wp2;go_ret;exact⟨_,rfl,aC,by rw[HT.out];rfl⟩
 have ht:kQ P=fU P.orders P.orders.length++(gY P P.orders.length++iU P P.orders.length):=by unfold kQ;rw[if_neg hn]
 have aN:((P.orders.length:Int) == 0)=false:=by simp;intro h;exact hn (by rw[h];rfl)
 have HT:=Lib.hid (And.intro ht hn);clear ht hn;go_enter Tryz.func346,Tryz.ntmps346;go_wp2;generalize w.alloc (.cells #[vo,vp,vc] 28)=w0 at *;have aj:∀w',Ext w0 w'->w'.cell? ⟨w.heap.size,0,none⟩=some (.slice ao P.orders.length co):=λw' h=>h.cell hc0 (by simp);have ak:∀w',Ext w0 w'->w'.cell? ⟨w.heap.size,1,none⟩=some (.slice ap P.orders.length cp):=λw' h=>h.cell ah (by simp);have aG:∀w',Ext w0 w'->w'.cell? ⟨w.heap.size,2,none⟩=some (.slice ac P.orders.length cc):=λw' h=>h.cell ai (by simp);have HB:=Lib.hid (And.intro aj (And.intro ak aG));clear aj ak aG hc0 ah ai;go_loopw [4,5] (λov I wr=>∃(i:Nat),ov=.string (strOfNums (fU P.orders i))/\I=.int .i64 i/\i<=P.orders.length/\Ext w0 wr) (λ_ I _=>P.orders.length-(intOf I).toNat)
 case atStart=>exact⟨0,rfl,rfl,by omega,Ext.refl _⟩
 case round =>
  obtain⟨i,rfl,rfl,hi,n⟩:=hrel;have D:=pM P.orders i;by_cases b:i<P.orders.length
  ·have ab:(i:Int)<P.orders.length:=by omega
   obtain⟨bo,oo,rfl,_,_,E⟩:=Ints.at (Ints.ext C.o n) i b;have h7:=hP.ord7 i b;have aj:=HB.out.1 wr n;obtain⟨y,hy⟩:∃y,y=gt P.orders i:=⟨_,rfl⟩;have u:fU P.orders (i+1)=fU P.orders i++((if 0<i then [32] else [])++[48+y]):=by rw[hy];rfl
   rw[<-hy] at E h7;obtain⟨l,B⟩:∃l,l=fU P.orders i:=⟨_,rfl⟩;rw[<-B] at u D;have aI:l.length<=1000:=by omega
   have a:=Lib.hid (And.intro u (And.intro B hy));clear u hy B D;rw[show strOfNums (fU P.orders i)=strOfNums l by rw[a.out.2.1]];have bx:=strOfNums_size l;rcases hb:decide (0<i) with _|_
   ·have g:strOfNums (fU P.orders (i+1))=strOfNums l++strOfNums [48+y]:=by
     have:¬ 0<i:=by simpa using hb
     rw[a.out.1,if_neg this,List.nil_append,nj]
    have HN:=Lib.hid g;clear g;go_wp2_with fail
    refine Calls.mono (pK wr y (by omega) (by omega)) ?_;rintro e1 w1 ⟨v1,rfl,hg1,rfl⟩;have J:=strOfNums_size [48+y];clear E;go_wp2_with fail
    go_roundw
    case rel=>exact⟨i+1,by rw[HN.out],by go_num,by omega,grown_trans n hg1⟩
    case measure=>simp[intOf];omega
   ·have g:strOfNums (fU P.orders (i+1))=strOfNums l++⟨#[32]⟩++strOfNums [48+y]:=by
     have:0<i:=by simpa using hb
     rw[a.out.1,if_pos this,nj,nj,ByteArray.append_assoc];rfl
    have HN:=Lib.hid g;clear g;go_wp2_with fail
    refine Calls.mono (pK wr y (by omega) (by omega)) ?_;rintro e1 w1 ⟨v1,rfl,hg1,rfl⟩;have J:=strOfNums_size [48+y];clear E;go_wp2_with fail
    go_roundw
    case rel=>exact⟨i+1,by rw[HN.out],by go_num,by omega,grown_trans n hg1⟩
    case measure=>simp[intOf];omega
  ·have K : i=P.orders.length:=by omega
   subst K;go_wp2;clear b D;have L:=n;clear n;go_loopw [4,6] (λov I wr=>∃(i:Nat),ov=.string (strOfNums (fU P.orders P.orders.length++gY P i))/\I=.int .i64 i/\i<=P.orders.length/\Ext w0 wr) (λ_ I _=>P.orders.length-(intOf I).toNat)
   case atStart=>exact⟨0,by rw[show gY P 0=[] from rfl,List.append_nil],rfl,by omega,L⟩
   case round =>
    clear L;obtain⟨i,rfl,rfl,hi,n⟩:=hrel;have D:=pM P.orders P.orders.length;have am:=sj hP i hi;by_cases b:i<P.orders.length
    ·have ab:(i:Int)<P.orders.length:=by omega
     obtain⟨bp,op,ae,ce,rfl,_,_,V,v⟩:=Rows2.at (Rows2.ext C.p n) i (by rw[hP.pl];exact b);have ak:=HB.out.2.1 wr n;have q:=(hP.pv i b).1;obtain⟨e,M⟩:∃e,e=gt P.powers i:=⟨_,rfl⟩;rw[<-M] at V v q;have G:=q.1;obtain⟨l,B⟩:∃l,l=fU P.orders P.orders.length++gY P i:=⟨_,rfl⟩;have aI:l.length<=1000:=by rw[B,List.length_append];omega
     rw[<-B];rcases hz:isZeroB e with _|_
     ·have u:fU P.orders P.orders.length++gY P (i+1)=l++pL P i:=by
       rw[B,List.append_assoc,gY,<-M,hz];rfl
      obtain⟨bo,oo,rfl,_,_,E⟩:=Ints.at (Ints.ext C.o n) i b;have h7:=hP.ord7 i b;have N:=pN hP q;have z:pL P i=[59,32]++([97+(i:Int)]++([94]++([48+gt P.orders i]++([61]++fT (nWord e P.orders.length))))):=by rw[M];rfl
      obtain⟨y,hy⟩:∃y,y=gt P.orders i:=⟨_,rfl⟩;rw[<-hy] at E h7 z;obtain⟨W,H⟩:∃W,W=nWord e P.orders.length:=⟨_,rfl⟩;have O:W.length<=42:=by rw[H];exact Nat.le_trans (nWord_len (xZ hP q) _) (by omega)
      have Q:∀x∈W,-26<=x/\x<=26:=by rw[H];exact λx hx=>by have:=xY hx;omega
      rw[<-H] at z N
      have g:strOfNums (fU P.orders P.orders.length++gY P (i+1))=strOfNums l++⟨#[59,32]⟩++strOfNums [97+(i:Int)]++⟨#[94]⟩++strOfNums [48+y]++⟨#[61]⟩++strOfNums (fT W):=by
       rw[u,z];simp only[nj,ByteArray.append_assoc];rfl
      have R:∀j,j<e.length->0<=gt e j/\gt e j<=7:=λj hj=>by have:=q.2 j (by omega);have:=hP.ord7 j (by omega);omega
      have a:=Lib.hid (And.intro g (And.intro O (And.intro Q (And.intro R (And.intro G H)))));clear u q M B G D am z hy H O Q g R;have F:=l01Zero_ok _ e wr _ v;rw[hz] at F;clear hz;go_wp2_with fail
      refine Calls.mono F ?_;rintro _ _ ⟨rfl,rfl⟩;clear F;have af:=V;clear V;have e0:∀w',Ext wr w'->w'.cell? ⟨w.heap.size,0,none⟩=some (.slice (some ⟨bo,oo,none⟩) P.orders.length co):=λw' h=>HB.out.1 w' (grown_trans n h);have e1:∀w',Ext wr w'->w'.cell? ⟨w.heap.size,1,none⟩=some (.slice (some ⟨bp,op,none⟩) P.orders.length cp):=λw' h=>HB.out.2.1 w' (grown_trans n h);have e2:∀w',Ext wr w'->w'.cell? ⟨bo,oo+i,none⟩=some (.int .i64 y):=λw' h=>h.cell E (by simp);have e3:∀w',Ext wr w'->w'.cell? ⟨bp,op+i,none⟩=some (.slice ae e.length ce):=λw' h=>h.cell af (by simp);have z0:=strOfNums_size l;have z1:=strOfNums_size [97+(i:Int)];have z2:=strOfNums_size [48+y];have z3:=strOfNums_size (fT W);have q1:¬ 9223372036854775807<l.length+2:=by omega
      have q2:¬ 9223372036854775807<l.length+2+1:=by omega
      have q3:¬ 9223372036854775807<l.length+2+1+1:=by omega
      have q4:¬ 9223372036854775807<l.length+2+1+1+1:=by omega
      have q5:¬ 9223372036854775807<l.length+2+1+1+1+1:=by omega
      have q6:¬ 9223372036854775807<l.length+2+1+1+1+1+(fT W).length:=by omega
      clear E af;go_wp2_with fail
      go_region_held3 (λw'=>Ext wr w') (first|exact grown_drew _ _|assumption)
       (first
        | (go_at_call 364;refine Calls.mono (Calls.rel (w0:=wr) (by assumption) (rY _ _ W Any an a.out.2.2.1 (by have:=a.out.2.1;omega))) ?_;rintro eD wD ⟨vD,rfl,mN,xW,rfl⟩)
        | (go_at_call 365;refine Calls.mono (Calls.rel (w0:=wr) (by assumption) (l07Word_ok _ _ e Any (Ints.sub (Ints.ext v (by assumption)) (λ_ _ _=>trivial)) (by have:=a.out.2.2.2.2.1;omega) a.out.2.2.2.1)) ?_;rintro eC wC ⟨vC,rfl,gN,hsC,gz⟩;rw[a.out.2.2.2.2.1,<-a.out.2.2.2.2.2] at gz;have an:Ints Any wC vC W:=gz.r9 (by have:=a.out.2.1;omega))
        | (go_at_call 362;refine Calls.mono (Calls.rel (w0:=wr) (by assumption) (pK _ y (by omega) (by omega))) ?_;rintro eB wB ⟨vB,rfl,T,hsB,rfl⟩)
        | (go_at_call 363;refine Calls.mono (Calls.rel (w0:=wr) (by first|exact grown_drew _ _|assumption) (rZ _ i (by omega))) ?_;rintro eA wA ⟨vA,rfl,dR,eW,rfl⟩))
      clear e0 e1 e2 e3 z0 z1 z2 z3 q1 q2 q3 q4 q5 q6;go_wp2;go_roundw
      case rel=>exact⟨i+1,by rw[a.out.1],by go_num,by omega,grown_trans n mN⟩
      case measure=>simp[intOf];omega
     ·have u:fU P.orders P.orders.length++gY P (i+1)=l:=by
       rw[B,gY,<-M,hz];simp
      have a:=Lib.hid (And.intro u (And.intro q (And.intro M B)));clear u q M B G D am;have F:=l01Zero_ok _ e wr _ v;rw[hz] at F;clear hz;go_wp2_with fail
      refine Calls.mono F ?_;rintro _ _ ⟨rfl,rfl⟩;clear F V;go_wp2_with fail
      go_roundw
      case rel=>exact⟨i+1,by rw[a.out.1],by go_num,by omega,n⟩
      case measure=>simp[intOf];omega
    ·have K : i=P.orders.length:=by omega
     subst K;go_wp2;clear b D am;have L:=n;clear n;obtain⟨l0,X⟩:∃l0,l0=fU P.orders P.orders.length++gY P P.orders.length:=⟨_,rfl⟩
     have bl:l0.length<=400:=by
      have h1:=pM P.orders P.orders.length;have h2:=sj hP P.orders.length (Nat.le_refl _);rw[X,List.length_append];omega
     rw[<-X];have a4:=Lib.hid X;clear X;go_loopw [4,7] (λov I wr=>∃(i:Nat),ov=.string (strOfNums (l0++iU P i))/\I=.int .i64 i/\i<=P.orders.length/\Ext w0 wr) (λ_ I _=>P.orders.length-(intOf I).toNat)
     case atStart=>exact⟨0,by rw[show iU P 0=[] from rfl,List.append_nil],rfl,by omega,L⟩
     case round=>
      clear L;obtain⟨i,rfl,rfl,hi,n⟩:=hrel;by_cases b:i<P.orders.length
      ·have ab:(i:Int)<P.orders.length:=by omega
       obtain⟨wo,rfl⟩:∃wo:World,wo=wr:=⟨_,rfl⟩;have a5:=x4 hP i hi;obtain⟨l1,Y⟩:∃l1,l1=l0++iU P i:=⟨_,rfl⟩;have bn:l1.length<=2200:=by rw[Y,List.length_append];omega
       rw[<-Y];have a6:=Lib.hid Y;clear Y a5;go_wp2;go_loopw [4,8] (λov jv wr=>∃(k j:Nat),ov=.string (strOfNums (l1++gZ P i k))/\jv=.int .i64 j/\Hid (j=i+1+k/\k<=P.orders.length-1-i)/\j<=P.orders.length/\Ext w0 wr) (λ_ jv _=>P.orders.length-(intOf jv).toNat)
       case atStart=>exact⟨0,i+1,by rw[show gZ P i 0=[] from rfl,List.append_nil],by go_num,Lib.hid ⟨rfl,by omega⟩,by omega,n⟩
       case round=>
        have bJ:=n;clear n;obtain⟨k,j,rfl,rfl,HJ,hj,n⟩:=hrel;by_cases aK:j<P.orders.length
        ·have au:(j:Int)<P.orders.length:=by omega
         have hk:k<P.orders.length-1-i:=by have:=HJ.out;omega
         obtain⟨bc,oc,ar,cr,rfl,_,_,Z,DD⟩:=Rows3.at (Rows3.ext C.c n) i (by rw[hP.cl];exact b);have aa:=(hP.cv i b).1;have U:=(hP.cv i b).2 k hk;rw[aa] at Z;obtain⟨be,oe,ae,ce,rfl,_,_,av,v⟩:=Rows2.at DD k (by rw[aa];exact hk);obtain⟨e,M⟩:∃e,e=gt (gt P.conj i) k:=⟨_,rfl⟩;rw[<-M] at av v U;have G:=U.1.1;have N:=pN hP U.1;have a8:=sk hP b k (by omega);have aL:=HJ.out.1;obtain⟨l,B⟩:∃l,l=l1++gZ P i k:=⟨_,rfl⟩;have aI:l.length<=3000:=by rw[B,List.length_append];omega
         rw[<-B];obtain⟨m,hm⟩:∃m,m=P.orders.length-1-i:=⟨_,rfl⟩;rw[<-hm] at Z hk;have bK:(k:Int)<m:=by omega
         have J:IntKind.i64.wrap ((j:Int)-(i:Int))=(k:Int)+1:=by rw[show(j:Int)-(i:Int)=(k:Int)+1 by omega];exact IntWalk.i64_in _ (by omega)
         have aw:IntKind.i64.wrap (k:Int)=(k:Int):=IntWalk.i64_in _ (by omega);have e0:∀w',Ext wr w'->w'.cell? ⟨w.heap.size,2,none⟩=some (.slice (some ⟨bc,oc,none⟩) P.orders.length cc):=λw' h=>HB.out.2.2 w' (grown_trans n h);have e1:∀w',Ext wr w'->w'.cell? ⟨bc,oc+i,none⟩=some (.slice (some ⟨be,oe,none⟩) m cr):=λw' h=>h.cell Z (by simp);have e2:∀w',Ext wr w'->w'.cell? ⟨be,oe+k,none⟩=some (.slice ae e.length ce):=λw' h=>h.cell av (by simp);have a:=Lib.hid (And.intro G (And.intro U (And.intro M (And.intro B (And.intro hm (And.intro N (And.intro aL aa)))))));clear G U M B hm N a8 aL aa Z av;have HE:=Lib.hid (And.intro e0 (And.intro e1 e2));go_wp2
         go_region_held3 (λw'=>Ext wr w') (first|exact grown_drew _ _|assumption)
          (first
           | (go_at_call 153;refine Calls.mono (Calls.rel (w0:=wr) (by assumption) (l01Same_ok _ _ e (unitV P.orders.length j) _ Any Any (Ints.sub (Ints.ext v (by assumption)) (λ_ _ _=>trivial)) ba)) ?_;rintro eB wB ⟨vB,rfl,T,hsB,rfl⟩)
           | (go_at_call 308;refine Calls.mono (Calls.rel (w0:=wr) (by first|exact grown_drew _ _|assumption) (l07Unit_ok P.orders.length j _ aK (by omega))) ?_;rintro eA wA ⟨vA,rfl,dR,eW,gw⟩;have ba:Ints Any wA vA (unitV P.orders.length j):=gw.r9 (by rw[unitV_len];omega)))
         clear e0 e1 e2 J aw;rcases hq:eqB e (unitV P.orders.length j) with _|_
         ·have z:nk P i k=[59,32]++([97+(j:Int)]++([94]++([97+(i:Int)]++([61]++fT (nWord e P.orders.length))))):=by
           unfold nk;rw[<-a.out.2.2.1,<-a.out.2.2.2.2.2.2.1]
          obtain⟨W,H⟩:∃W,W=nWord e P.orders.length:=⟨_,rfl⟩;rw[<-H] at z;have O:W.length<=42:=by rw[H];exact Nat.le_trans (nWord_len (xZ hP a.out.2.1.1) _) (by omega)
          have Q:∀x∈W,-26<=x/\x<=26:=by rw[H];exact λx hx=>by have:=xY hx;omega
          have N:(fT W).length<=43:=by rw[H];exact a.out.2.2.2.2.2.1
          have g:strOfNums (l1++gZ P i (k+1))=strOfNums l++⟨#[59,32]⟩++strOfNums [97+(j:Int)]++⟨#[94]⟩++strOfNums [97+(i:Int)]++⟨#[61]⟩++strOfNums (fT W):=by
           have h1:gZ P i (k+1)=gZ P i k++nk P i k:=by rw[gZ,<-a.out.2.2.1,<-a.out.2.2.2.2.2.2.1,hq];rfl
           rw[h1,<-List.append_assoc,<-a.out.2.2.2.1,z];simp only[nj,ByteArray.append_assoc];rfl
          have R:∀j,j<e.length->0<=gt e j/\gt e j<=7:=λj hj=>by have:=a.out.2.1.1.2 j (by have:=a.out.1;omega);have:=hP.ord7 j (by have:=a.out.1;omega);omega
          have HW:=Lib.hid (And.intro g (And.intro O (And.intro Q (And.intro R H))));clear z H O Q g R;have J:IntKind.i64.wrap ((j:Int)-(i:Int))=(k:Int)+1:=by have:=a.out.2.2.2.2.2.2.1;rw[show(j:Int)-(i:Int)=(k:Int)+1 by omega];exact IntWalk.i64_in _ (by omega)
          have aw:IntKind.i64.wrap (k:Int)=(k:Int):=IntWalk.i64_in _ (by have:=a.out.2.2.2.2.1;omega);have z0:=strOfNums_size l;have z1:=strOfNums_size [97+(i:Int)];have z2:=strOfNums_size [97+(j:Int)];have z3:=strOfNums_size (fT W);have q1:¬ 9223372036854775807<l.length+2:=by omega
          have q2:¬ 9223372036854775807<l.length+2+1:=by omega
          have q3:¬ 9223372036854775807<l.length+2+1+1:=by omega
          have q4:¬ 9223372036854775807<l.length+2+1+1+1:=by omega
          have q5:¬ 9223372036854775807<l.length+2+1+1+1+1:=by omega
          have q6:¬ 9223372036854775807<l.length+2+1+1+1+1+(fT W).length:=by omega
          go_wp2_with fail
          have e0:=HE.out.1;have e1:=HE.out.2.1;have e2:=HE.out.2.2
          go_region_held3 (λw'=>Ext wr w') (first|exact grown_trans T (grown_drew _ _)|assumption)
           (first
            | (go_at_call 364;refine Calls.mono (Calls.rel (w0:=wr) (by assumption) (rY _ _ W Any an HW.out.2.2.1 (by have:=HW.out.2.1;omega))) ?_;rintro eD wD ⟨vD,rfl,mN,xW,rfl⟩)
            | (go_at_call 365;refine Calls.mono (Calls.rel (w0:=wr) (by assumption) (l07Word_ok _ _ e Any (Ints.sub (Ints.ext v (by assumption)) (λ_ _ _=>trivial)) (by have:=a.out.1;omega) HW.out.2.2.2.1)) ?_;rintro eC wC ⟨vC,rfl,gN,hsC,gz⟩;rw[a.out.1,<-HW.out.2.2.2.2] at gz;have an:Ints Any wC vC W:=gz.r9 (by have:=HW.out.2.1;omega))
            | (go_at_call 363;refine Calls.mono (Calls.rel (w0:=wr) (by first|exact grown_trans T (grown_drew _ _)|assumption) (rZ _ j (by omega))) ?_;rintro eL wL ⟨vL,rfl,EY,hsL,rfl⟩)
            | (go_at_call 363;refine Calls.mono (Calls.rel (w0:=wr) (by first|exact grown_trans T (grown_drew _ _)|assumption) (rZ _ i (by omega))) ?_;rintro eM wM ⟨vM,rfl,rO,qO,rfl⟩))
          clear e0 e1 e2 z0 z1 z2 z3 q1 q2 q3 q4 q5 q6 J aw;go_wp2;go_roundw
          case rel=>exact⟨k+1,j+1,by rw[HW.out.1],by go_num,Lib.hid ⟨by have:=a.out.2.2.2.2.2.2.1;omega,by have:=a.out.2.2.2.2.1;omega⟩,by omega,grown_trans n mN⟩
          case measure=>simp[intOf];omega
         ·have g:strOfNums (l1++gZ P i (k+1))=strOfNums l:=by
           rw[gZ,<-a.out.2.2.1,<-a.out.2.2.2.2.2.2.1,hq,<-List.append_assoc,<-a.out.2.2.2.1];simp
          have HN:=Lib.hid g;clear g;go_wp2_with fail
          go_roundw
          case rel=>exact⟨k+1,j+1,by rw[HN.out],by go_num,Lib.hid ⟨by have:=a.out.2.2.2.2.2.2.1;omega,by have:=a.out.2.2.2.2.1;omega⟩,by omega,grown_trans n T⟩
          case measure=>simp[intOf];omega
        ·have A:strOfNums (l1++gZ P i k)=strOfNums (l0++iU P (i+1)):=by
          have:=HJ.out;rw[a6.out,iU,show k=P.orders.length-1-i by omega,List.append_assoc]
         have HF:=Lib.hid A;clear A;have au:¬((j:Int)<P.orders.length):=by omega
         go_wp2;go_roundw
         case rel=>exact⟨i+1,by rw[HF.out],by go_num,by omega,n⟩
         case measure=>simp[intOf];omega
      ·have K:i=P.orders.length:=by omega
       subst K;have A:strOfNums (l0++iU P P.orders.length)=strOfNums (kQ P):=by rw[HT.out.1,a4.out,List.append_assoc]
       have HF:=Lib.hid A;clear A;go_wp2;go_ret;exact⟨_,rfl,grown_trans aC n,by rw[<-HF.out];rfl⟩
theorem x5 (N B:Nat) (w:World):PresN N B w (.agg #[.slice none 0 0,.slice none 0 0,.slice none 0 0]):=
 ⟨⟨[],[],[]⟩,⟨Nat.zero_le _,rfl,rfl,λi h=>absurd h (by simp),by simp,by simp⟩,_,_,_,rfl,λ_=>False,λ_=>False,λ_=>False,
  ⟨World.ownsRow_nil _ _ _ _,by simp[Value.ownBlock],by simp⟩,
  ⟨[],λ_ _=>False,rfl,by simp,World.ownsRow_nil _ _ _ _,by simp[Value.ownBlock],by simp,by simp,by simp⟩,⟨[],λ_ _=>False,rfl,by simp,World.ownsRow_nil _ _ _ _,by simp[Value.ownBlock],by simp,by simp,by simp⟩,
  λ_ h=>h.elim,λ_ h=>h.elim,λ_ h=>h.elim⟩
def DF (N B:Nat) (w':World) (v:Value):Prop:=∃(vo vp vc:Value) (c:Int),v=.tuple #[.agg #[vo,vp,vc],.int .i64 c]/\PresN N B w' (.agg #[vo,vp,vc])
theorem yu (w:World) (n:Nat) (hn:1<=n/\n<=729) :
  Calls Tryz.prog 318 #[.int .i64 n] w (Ret w (DF 9 w.heap.size)):=by
 have K:∀w',Ext (w.alloc (.cells #[.slice none 0 0,.slice none 0 0,.slice none 0 0] 28)) w'->Box3 w' w.heap.size (.slice none 0 0) (.slice none 0 0) (.slice none 0 0):=λw' h=>(Box3.made w 28 _ _ _).ext h;have m:Ext w (w.alloc (.cells #[.slice none 0 0,.slice none 0 0,.slice none 0 0] 28)):=World.grownBy_alloc _ _ _;have L:(w.alloc (.cells #[.slice none 0 0,.slice none 0 0,.slice none 0 0] 28)).heap.size=w.heap.size+1:=by simp
 have M:inB n 1 729=true:=by simp[inB];omega
 have O:=Lib.hid (And.intro hn (And.intro K (And.intro m L)));clear hn K L;go_enter Tryz.func318,Tryz.ntmps318;go_wp2_with fail
 generalize w.alloc (.cells #[.slice none 0 0,.slice none 0 0,.slice none 0 0] 28)=w0 at *;refine Calls.mono (l01In_ok n 1 729 w0) ?_;rintro _ _ ⟨rfl,rfl⟩;rw[M];clear M;go_wp2_with fail
 refine Calls.mono (l07Factors_ok w0 n O.out.1) ?_;rintro e1 p ⟨v1,rfl,a,a1,c1,l,r,rfl,P,Z,Q⟩;have HL:=Lib.hid (And.intro P (And.intro Q Z));clear P Q;have C:=O.out.2.1 p a;obtain⟨k0,k1,k2,k3,k4⟩:=id C;cases r
 ·go_wp2_with fail
  have y:=C.all (.slice none 0 0) (.slice none 0 0) (.slice none 0 0);have A:=grown_set3 p w.heap.size (.slice none 0 0) (.slice none 0 0) (.slice none 0 0);obtain⟨_,z0,z1,z2,_⟩:=id y;have D:=Lib.hid A;clear A y;go_wp2;refine bodyPost_ret (v := .tuple #[.agg #[.slice none 0 0,.slice none 0 0,.slice none 0 0],.int .i64 2]) (by simp[results,Tryz.results318,go_sem,z0,z1,z2]) rfl ?_;exact⟨_,rfl,grown_own (grown_trans m a) D.out (λj E q=>by cases E;omega),_,_,_,_,rfl,x5 9 _ _⟩
 by_cases h6:6<l.length
 ·go_wp2_with fail
  have y:=C.all (.slice none 0 0) (.slice none 0 0) (.slice none 0 0);have A:=grown_set3 p w.heap.size (.slice none 0 0) (.slice none 0 0) (.slice none 0 0);obtain⟨_,z0,z1,z2,_⟩:=id y;have D:=Lib.hid A;clear A y;go_wp2;refine bodyPost_ret (v := .tuple #[.agg #[.slice none 0 0,.slice none 0 0,.slice none 0 0],.int .i64 3]) (by simp[results,Tryz.results318,go_sem,z0,z1,z2]) rfl ?_;exact⟨_,rfl,grown_own (grown_trans m a) D.out (λj E q=>by cases E;omega),_,_,_,_,rfl,x5 9 _ _⟩
 clear k0 k1 k2 k3 k4;go_wp2_with fail
 refine Calls.mono (l07Trivial_ok p _ l _ (HL.out.1.ints (by omega)) (by omega)) ?_;rintro e2 J ⟨v2,rfl,hg2,vo,vp,vc,rfl,F⟩;obtain⟨G,co,ap,u,H,I,rfl,rfl,rfl⟩:=trivX_shape F;go_wp2_with fail
 have aa:=hg2.size;have aq:=a.size;have R:Ext J (J.alloc (.cells #[.slice G l.length co,.slice ap l.length u,.slice H l.length I] 28)):=World.grownBy_alloc _ _ _;have e:=BX.start (N:=9) (B:=p.heap.size) (by omega) F R (Box3.made J 28 (.slice G l.length co) (.slice ap l.length u) (.slice H l.length I)) aa;generalize J.alloc (.cells #[.slice G l.length co,.slice ap l.length u,.slice H l.length I] 28)=w3 at *;have S:Ext p w3:=grown_trans hg2 R;clear F hg2;go_loopw [7] (λiv wr=>∃i:Nat,iv=.int .i64 i/\i<=l.length/\Ext p wr/\BX 9 l p.heap.size J.heap.size wr (.slice G l.length co) (.slice ap l.length u) (.slice H l.length I)) (λiv _=>l.length-(intOf iv).toNat)
 case atStart=>exact⟨0,rfl,by omega,S,e⟩
 case round=>
  clear e S;obtain⟨i,rfl,hi,hg,e⟩:=hrel;by_cases q:i+1<l.length
  ·have T:(i:Int)+1<l.length:=by omega
   obtain⟨g,cap,z,fF,hgB,jO,hgl,U,V⟩:=e.storeP i (by omega);obtain⟨rfl,rfl⟩:ap=some ⟨g,0,none⟩/\u=cap:=by cases fF;exact⟨rfl,rfl⟩
   clear fF;have e1:∀w',Near wr g w'->w'.cell? ⟨J.heap.size,1,none⟩=some (.slice (some ⟨g,0,none⟩) l.length u):=λw' h=>h.cell e.box.2.2.1 (by simp;omega)
   have W:∀w,Calls Tryz.prog 308 #[.int .i64 l.length,.int .i64 ((i:Int)+1)] w (Ret w λw' v=>Own w.heap.size w' v (unitV l.length (i+1))):=λw=>by
    have h:=l07Unit_ok l.length (i+1) w (by omega) (by omega);rwa [show((i+1:Nat):Int)=(i:Int)+1 by omega] at h
   have HX:=Lib.hid (And.intro e (And.intro V U));clear e V U;have ar:(i:Int)<l.length:=by omega
   have au:IntKind.i64.wrap ((i:Int)+1)=(i:Int)+1:=IntWalk.i64_in _ (by omega);have av:wrap64 ((i:Int)+1)=(i:Int)+1:=IntWalk.wrap64_in _ (by omega);go_wp2
   go_region_held3 (λw'=>Near wr g w') (first|exact Near.of (grown_drew _ _)|exact Near.of (by assumption)|exact Near.store (by assumption)|assumption)
    (first
     | (go_at_call 308;refine Calls.mono (Calls.rel (w0:=wr) (by first|exact grown_drew _ _|assumption) (W _)) ?_;rintro eE Y ⟨vE,rfl,b,gF,X⟩;obtain⟨aE,cE,fQ,_⟩:=(X.ints (by rw[unitV_len];omega)).shape;subst fQ;have af:=(HX.out.2.2 Y b).1;have ag:=(HX.out.2.2 Y b).2))
   have ay:=b.size;have ah:=HX.out.2.1 Y _ (unitV l.length (i+1)) b (OwnIn.of X (by rw[unitV_len];omega) (λk hk _=>Nat.le_trans (by assumption) hk)) (by rw[unitV_len];omega);have ai:Ext p (Y.setCell ⟨g,i,none⟩ (.slice aE (unitV l.length (i+1)).length cE)):=grown_own (grown_trans hg b) (grown_set1 _ _ _ _) (λj E q=>by cases E;omega);clear af ag e1;go_wp2;go_roundw
   case rel=>exact⟨i+1,by go_num,by omega,ai,ah⟩
   case measure=>simp[intOf];omega
  ·have T:¬((i:Int)+1<l.length):=by omega
   have hz:=O.out.2.1 wr (grown_trans a hg);obtain⟨h0,h1,h2,h3',h4⟩:=id e.box;obtain⟨k0,k1,k2,k3,k4⟩:=id hz;have y:=hz.all (.slice G l.length co) (.slice ap l.length u) (.slice H l.length I);have A:=grown_set3 wr w.heap.size (.slice G l.length co) (.slice ap l.length u) (.slice H l.length I);obtain⟨_,z0,z1,z2,_⟩:=id y;have D:=Lib.hid (And.intro A e);clear A y e;go_wp2;refine bodyPost_ret (v := .tuple #[.agg #[.slice G l.length co,.slice ap l.length u,.slice H l.length I],.int .i64 0]) (by simp[results,Tryz.results318,go_sem,z0,z1,z2]) rfl ?_;exact⟨_,rfl,grown_own (grown_trans m (grown_trans a hg)) D.out.1 (λj E q=>by cases E;omega),_,_,_,_,rfl,(D.out.2.ret D.out.1 (by have:=O.out.2.2.2;omega)).weak (by have:=O.out.2.2.2;omega)⟩
def jR (N B:Nat) (w':World) (vo vp vc:Value):Prop:=∃Q,Shp N Q/\Pres3 (From B) w' vo vp vc Q
def DG (N B:Nat) (w':World) (v:Value):Prop:=∃(vo vp vc:Value) (c:Int),v=.tuple #[.agg #[vo,vp,vc],.int .i64 c]/\jR N B w' vo vp vc
theorem pO (S:Nat->Prop) (w:World):Pres3 S w (.slice none 0 0) (.slice none 0 0) (.slice none 0 0) ⟨[],[],[]⟩:=
 ⟨⟨none,0,rfl,⟨by simp,by simp,λ_=>rfl⟩,λi a=>by simp at a⟩,⟨none,0,rfl,⟨by simp,by simp,λ_=>rfl⟩,λi a=>by simp at a⟩,⟨none,0,rfl,⟨by simp,by simp,λ_=>rfl⟩,λi a=>by simp at a⟩⟩
theorem pP (N:Nat):Shp N ⟨[],[],[]⟩:=⟨Nat.zero_le _,rfl,rfl,λi h=>absurd h (by simp),by simp,by simp⟩
theorem DI (w:World) (s:ByteArray) (hs:s.size<=1000) :
  Calls Tryz.prog 306 #[.string s] w (Ret w (DG 6 w.heap.size)):=by
 have aO:=Box3.made w 28 (.slice none 0 0) (.slice none 0 0) (.slice none 0 0);have aP:Ext w (w.alloc (.cells #[.slice none 0 0,.slice none 0 0,.slice none 0 0] 28)):=World.grownBy_alloc _ _ _;have be:(w.alloc (.cells #[.slice none 0 0,.slice none 0 0,.slice none 0 0] 28)).heap.size=w.heap.size+1:=by simp
 go_enter Tryz.func306,Tryz.ntmps306;go_wp2_with fail
 generalize w.alloc (.cells #[.slice none 0 0,.slice none 0 0,.slice none 0 0] 28)=w0 at *;refine Calls.mono (rU w0 s 59 hs) ?_;rintro e1 w1 ⟨v1,rfl,O,av,cv,ts,rfl,hl1,ae,P,hT⟩;obtain⟨bt,rfl,hc0⟩:=kP.at hT 0 (by omega);have bg:=P _ (gtMem (show 0<ts.length by omega));have bh:(0:Int)<ts.length:=by omega
 have af:=grown_trans aP O;have aY:ts.length<=1001:=by omega
 go_wp2_with fail
 refine Calls.mono (Dx w1 _ (by omega)) ?_;rintro e2 E ⟨v2,rfl,G,ao,n,co,r,rfl,hR⟩;have u:=grown_trans af G;have z:=(aO.ext O).ext G;have bi:w.heap.size+1<=E.heap.size:=by have:=O.size;have:=G.size;omega
 have aZ:=(hT.lt bt rfl).2;have HT:=Lib.hid (And.intro hT (And.intro P ae));clear hT P ae hc0;cases r
 case' false=>
  obtain⟨n0,n1,n2,n3,n4⟩:=id z;have b:=z.all (.slice none 0 0) (.slice none 0 0) (.slice none 0 0);obtain⟨-,z0,z1,z2,-⟩:=id b;have g:=grown_set3 E w.heap.size (.slice none 0 0) (.slice none 0 0) (.slice none 0 0);have l:=Lib.hid g;clear b g;go_wp2_with fail
  refine bodyPost_ret (v := .tuple #[.agg #[.slice none 0 0,.slice none 0 0,.slice none 0 0],.int .i64 6]) (by simp[results,Tryz.results306,go_sem,z0,z1,z2]) rfl ?_;exact⟨_,rfl,grown_own u l.out (λj A a=>by cases A;omega),_,_,_,_,rfl,_,pP 6,pO _ _⟩
 obtain⟨o,R,rV,B,hO⟩:=hR rfl;have R:=R;subst R;clear hR;have ag:=hO.ints (by omega);have HO:=Lib.hid (And.intro B hO);clear B hO;go_wp2_with fail
 refine Calls.mono (l07Trivial_ok E _ o _ ag (by omega)) ?_;rintro e3 m ⟨v3,rfl,hg3,vo,vp,vc,rfl,ia⟩;obtain⟨a1,c1,a2,c2,a3,c3,rfl,rfl,rfl⟩:=trivX_shape ia;have S:Ext m (m.alloc (.cells #[.slice a1 o.length c1,.slice a2 o.length c2,.slice a3 o.length c3] 28)):=World.grownBy_alloc _ _ _;have ai:=Box3.made m 28 (.slice a1 o.length c1) (.slice a2 o.length c2) (.slice a3 o.length c3)
 have aj:Pres3 (λk=>E.heap.size<=k/\k≠m.heap.size) (m.alloc (.cells #[.slice a1 o.length c1,.slice a2 o.length c2,.slice a3 o.length c3] 28)) (.slice a1 o.length c1) (.slice a2 o.length c2) (.slice a3 o.length c3) (trivP o):=
  ia.p3.mono (λk hk a=>⟨⟨hk,by omega⟩,Nat.lt_of_lt_of_le a S.size,S.block k a (by simp)⟩)
 have bk:=hg3.size;have L:=grown_trans hg3 S;go_wp2_with fail
 generalize m.alloc (.cells #[.slice a1 o.length c1,.slice a2 o.length c2,.slice a3 o.length c3] 28)=w4 at *;clear ia ag;go_loopw [6,8] (λaQ iv wr=>∃(i:Nat) (qo qp qc:Value) (Q:Pr),aQ=.bool true/\iv=.int .i64 i/\i<=ts.length/\Ext E wr/\Box3 wr m.heap.size qo qp qc/\Shp 6 Q/\Q.orders=o/\Pres3 (λk=>E.heap.size<=k/\k≠m.heap.size) wr qo qp qc Q) (λ_ iv _=>ts.length-(intOf iv).toNat)
 case atStart=>exact⟨1,_,_,_,trivP o,rfl,rfl,by omega,L,ai,trivP_shp o rV,rfl,aj⟩
 case round=>
  clear aj ai L;obtain⟨i,qo,qp,qc,Q,rfl,rfl,hi,hg,hB,H,C,F⟩:=hrel;have bl:=grown_trans u hg;by_cases a:i<ts.length
  ·have al:(i:Int)<ts.length:=by omega
   obtain⟨_,nI,am⟩:=kP.at HT.out.1 i a;cases nI
   have T:=(grown_trans G hg).cell am (by simp);clear am;have aV:=HT.out.2.1 _ (gtMem a);have an:(gt ts i).size<=1000:=by omega
   obtain⟨t0,ap⟩:∃t0,t0=gt ts i:=⟨_,rfl⟩;rw[<-ap] at T an;clear aV ap;have B:∀x∈Q.orders,primeB x=true:=by rw[C];exact HO.out.1
   obtain⟨a5,c5,jM,_,_⟩:=F.o.shape;obtain⟨a6,c6,nr,_,_⟩:=Sl.shape F.p;obtain⟨a7,c7,nu,_,_⟩:=Sl.shape F.c;subst jM nr nu;have aq:=hB.ext (grown_drew _ none);have ar:Pres3 (λk=>E.heap.size<=k/\k≠m.heap.size) wr.drew _ _ _ Q:=F.ext (grown_drew _ none);obtain⟨d0,d1,d2,d3,d4⟩:=id aq;have f1:wr.drew.cell? ⟨bt,i,none⟩=some (.string t0):=T;have y:=Lib.hid (And.intro H (And.intro C (And.intro B (And.intro ar hB))));clear H C B ar hB F aq T;go_wp2_with fail
   go_region_law (first
    | (go_simp;go_at_call 345;refine Calls.mono (DA _ _ Q _ t0 ⟨_,_,_,rfl,y.out.2.2.2.1⟩ y.out.1 y.out.2.2.1 an) ?_;rintro eC wC ⟨vC,rfl,aw,yo,yp,yc,r,q,rfl,ax,ho2,ny⟩;have ay:=Lib.hid ho2;clear ho2;obtain⟨U,k5,rfl,_,_⟩:=ny.o.shape;obtain⟨V,k6,rfl,_,_⟩:=Sl.shape ny.p;obtain⟨e7,k7,rfl,_,_⟩:=Sl.shape ny.c;have W:=(y.out.2.2.2.2.ext (grown_drew _ none)).ext aw;obtain⟨g0,g1,g2,g3,g4⟩:=id W))
   all_goals
    have az:Ext wr wC:=grown_trans (grown_drew _ _) aw;have a4:=y.out.2.2.2.2.1;have bn:=hg.size;have aA:=W.all (.slice U q.orders.length k5) (.slice V q.powers.length k6) (.slice e7 q.conj.length k7);have I:=grown_set3 wC m.heap.size (.slice U q.orders.length k5) (.slice V q.powers.length k6) (.slice e7 q.conj.length k7);have X:Ext E (((wC.setCell ⟨m.heap.size,0,none⟩ (.slice U q.orders.length k5)).setCell ⟨m.heap.size,1,none⟩ (.slice V q.powers.length k6)).setCell ⟨m.heap.size,2,none⟩ (.slice e7 q.conj.length k7)):=grown_own (grown_trans hg az) I (λj A a=>by cases A;omega)
    have aB:Pres3 (λk=>E.heap.size<=k/\k≠m.heap.size) (((wC.setCell ⟨m.heap.size,0,none⟩ (.slice U q.orders.length k5)).setCell ⟨m.heap.size,1,none⟩ (.slice V q.powers.length k6)).setCell ⟨m.heap.size,2,none⟩ (.slice e7 q.conj.length k7)) (.slice U q.orders.length k5) (.slice V q.powers.length k6) (.slice e7 q.conj.length k7) q:=
     ny.mono (λk hk a=>by
      have aC:E.heap.size<=k/\k≠m.heap.size:=by
       have hd:wr.drew.heap.size=wr.heap.size:=rfl;rcases hk with hk|hk
       ·exact hk
       ·exact⟨by omega,by omega⟩
      exact⟨aC,Nat.lt_of_lt_of_le a I.size,I.block k a (λe=>aC.2 (by cases e;rfl))⟩)
    have HF:=Lib.hid (And.intro aA (And.intro aB (And.intro ax ay.out)));clear aA aB ax ay ny I g0 g1 g2 g3 g4 W d0 d1 d2 d3 d4 f1;generalize ((wC.setCell ⟨m.heap.size,0,none⟩ (.slice U q.orders.length k5)).setCell ⟨m.heap.size,1,none⟩ (.slice V q.powers.length k6)).setCell ⟨m.heap.size,2,none⟩ (.slice e7 q.conj.length k7)=w9 at *;cases r
    case' false=>
     have aD:=z.ext X;have aE:=grown_trans u X;obtain⟨n0,n1,n2,n3,n4⟩:=id aD;have b:=aD.all (.slice none 0 0) (.slice none 0 0) (.slice none 0 0);obtain⟨-,z0,z1,z2,-⟩:=id b;have g:=grown_set3 w9 w.heap.size (.slice none 0 0) (.slice none 0 0) (.slice none 0 0);have l:=Lib.hid g;clear b g;go_wp2_with fail
     refine bodyPost_ret (v := .tuple #[.agg #[.slice none 0 0,.slice none 0 0,.slice none 0 0],.int .i64 6]) (by simp[results,Tryz.results306,go_sem,z0,z1,z2]) rfl ?_;exact⟨_,rfl,grown_own aE l.out (λj A a=>by cases A;omega),_,_,_,_,rfl,_,pP 6,pO _ _⟩
    go_wp2_with fail
    go_roundw
    case rel=>exact⟨i+1,_,_,_,q,rfl,by go_num,by omega,X,HF.out.1,HF.out.2.2.1,by rw[HF.out.2.2.2];exact y.out.2.1,HF.out.2.1⟩
    case measure=>simp[intOf];omega
  ·have al:¬((i:Int)<ts.length):=by omega
   obtain⟨a5,c5,jM,_,_⟩:=F.o.shape;obtain⟨a6,c6,nr,_,_⟩:=Sl.shape F.p;obtain⟨a7,c7,nu,_,_⟩:=Sl.shape F.c;subst jM nr nu;obtain⟨d0,d1,d2,d3,d4⟩:=id hB;have y:=Lib.hid (And.intro H (And.intro C (And.intro F hB)));clear H C F hB;go_wp2_with fail
   refine Calls.mono (sIsPresentation_ok wr _ Q _ ⟨_,_,_,rfl,y.out.2.2.1⟩) ?_;rintro U w5 ⟨v5,rfl,J,rfl⟩;have Y:=y.out.2.2.2.ext J;obtain⟨p0,p1,p2,p3,p4⟩:=id Y;have D:=grown_trans hg J;rcases hv:validB Q with _|_
   case' false=>
    have aF:=z.ext D;have aG:=grown_trans u D;obtain⟨n0,n1,n2,n3,n4⟩:=id aF;have b:=aF.all (.slice none 0 0) (.slice none 0 0) (.slice none 0 0);obtain⟨-,z0,z1,z2,-⟩:=id b;have g:=grown_set3 w5 w.heap.size (.slice none 0 0) (.slice none 0 0) (.slice none 0 0);have l:=Lib.hid g;clear b g;go_wp2_with fail
    refine bodyPost_ret (v := .tuple #[.agg #[.slice none 0 0,.slice none 0 0,.slice none 0 0],.int .i64 6]) (by simp[results,Tryz.results306,go_sem,z0,z1,z2]) rfl ?_;exact⟨_,rfl,grown_own aG l.out (λj A a=>by cases A;omega),_,_,_,_,rfl,_,pP 6,pO _ _⟩
   have hV:=valid_of hv;clear hv;have HV:=Lib.hid hV;clear hV;go_wp2_with fail
   refine Calls.mono (DC Q HV.out w5 _ _ ⟨_,_,_,rfl,y.out.2.2.1.ext J⟩) ?_;rintro V w6 ⟨v6,rfl,Z,rfl⟩;have M:=grown_trans D Z;have K:=z.ext M;have N:=grown_trans u M;have aW:=Y.ext Z;have aH:=(y.out.2.2.1.ext J).ext Z;clear p0 p1 p2 p3 p4 d0 d1 d2 d3 d4 Y;rcases bc:((strOfNums (kQ Q)).toList == s.toList) with _|_
   case' false=>
    obtain⟨n0,n1,n2,n3,n4⟩:=id K;have b:=K.all (.slice none 0 0) (.slice none 0 0) (.slice none 0 0);obtain⟨-,z0,z1,z2,-⟩:=id b;have g:=grown_set3 w6 w.heap.size (.slice none 0 0) (.slice none 0 0) (.slice none 0 0);have l:=Lib.hid g;clear b g;go_wp2_with fail
    refine bodyPost_ret (v := .tuple #[.agg #[.slice none 0 0,.slice none 0 0,.slice none 0 0],.int .i64 6]) (by simp[results,Tryz.results306,go_sem,z0,z1,z2]) rfl ?_;exact⟨_,rfl,grown_own N l.out (λj A a=>by cases A;omega),_,_,_,_,rfl,_,pP 6,pO _ _⟩
   obtain⟨p0,p1,p2,p3,p4⟩:=id aW;obtain⟨n0,n1,n2,n3,n4⟩:=id K;have b:=K.all (.slice a5 Q.orders.length c5) (.slice a6 Q.powers.length c6) (.slice a7 Q.conj.length c7);obtain⟨-,z0,z1,z2,-⟩:=id b;have g:=grown_set3 w6 w.heap.size (.slice a5 Q.orders.length c5) (.slice a6 Q.powers.length c6) (.slice a7 Q.conj.length c7);have l:=Lib.hid (And.intro g aH);clear b g aH;go_wp2_with fail
   refine bodyPost_ret (v := .tuple #[.agg #[.slice a5 Q.orders.length c5,.slice a6 Q.powers.length c6,.slice a7 Q.conj.length c7],.int .i64 0]) (by simp[results,Tryz.results306,go_sem,z0,z1,z2]) rfl ?_;exact⟨_,rfl,grown_own N l.out.1 (λj A a=>by cases A;omega),_,_,_,_,rfl,Q,y.out.1,l.out.2.mono (λk hk a=>⟨(by show w.heap.size<=k;omega),Nat.lt_of_lt_of_le a l.out.1.size,l.out.1.block k a (λe=>by cases e;omega)⟩)⟩
def j8 (N B:Nat) (w':World) (v:Value):Prop:=∃(vo vp vc:Value),v=.agg #[vo,vp,vc]/\jR N B w' vo vp vc
theorem PresN.q {N B:Nat}{w':World}{v:Value}(h:PresN N B w' v):j8 N B w' v:=by
 obtain⟨P,h1,vo,vp,vc,rfl,h2⟩:=h;exact⟨_,_,_,rfl,P,h1,h2.p3⟩
theorem j8.mono {N M B B':Nat}{w':World}{v:Value}(h:j8 N B w' v) (b:N<=M) (hB:B'<=B):j8 M B' w' v:=by
 obtain⟨vo,vp,vc,rfl,P,h1,h2⟩:=h;exact⟨_,_,_,rfl,P,h1.mono b,h2.mono (λk hk a=>⟨Nat.le_trans hB hk,a,rfl⟩)⟩
theorem jR.shape {N B:Nat}{w':World}{vo vp vc:Value}(h:jR N B w' vo vp vc):∃a n c a2 b c2 e g c3,vo=.slice a n c/\vp=.slice a2 b c2/\vc=.slice e g c3:=by
 obtain⟨Q,_,h2⟩:=h;obtain⟨i,c5,jM,_,_⟩:=h2.o.shape;obtain⟨j,c6,nr,_,_⟩:=Sl.shape h2.p;obtain⟨k,c7,nu,_,_⟩:=Sl.shape h2.c;exact⟨_,_,_,_,_,_,_,_,_,jM,nr,nu⟩
theorem nJ {B r:Nat}{w w':World}{vo vp vc:Value}{Q:Pr}(b:w.grownBy w' (some r)) (h:Pres3 (λk=>B<=k/\k≠r) w vo vp vc Q):Pres3 (From B) w' vo vp vc Q:=
 h.mono (λk hk a=>⟨hk.1,Nat.lt_of_lt_of_le a b.size,b.block k a (λe=>hk.2 (by cases e;rfl))⟩)
theorem pV (w:World) (k:Int) (h0:0<=k) (h9:k<10) :
  Calls Tryz.prog 269 #[.int .i64 k] w (Ret w (j8 6 w.heap.size)):=by
 have N:=Box3.made w 28 (.slice none 0 0) (.slice none 0 0) (.slice none 0 0);have O:Ext w (w.alloc (.cells #[.slice none 0 0,.slice none 0 0,.slice none 0 0] 28)):=World.grownBy_alloc _ _ _;have P:(w.alloc (.cells #[.slice none 0 0,.slice none 0 0,.slice none 0 0] 28)).heap.size=w.heap.size+1:=by simp
 rcases(show k=0\/k=1\/k=2\/k=3\/k=4\/k=5\/k=6\/k=7\/k=8\/k=9 by omega) with rfl|rfl|rfl|rfl|rfl|rfl|rfl|rfl|rfl|rfl
 all_goals
  clear h0 h9;go_enter Tryz.func269,Tryz.ntmps269;go_wp2_with fail
  refine Calls.mono (DI _ _ (by decide)) ?_;rintro e1 l ⟨v1,rfl,m,vo,vp,vc,c,rfl,hP⟩;obtain⟨a1,q,c1,a2,r,c2,u,y,c3,rfl,rfl,rfl⟩:=hP.shape;have m:=grown_trans (World.grownBy_alloc _ _ _) m;have H:=N.ext m;have B:=grown_trans O m;have af:=m.size;clear N O m;generalize w.alloc (.cells #[.slice none 0 0,.slice none 0 0,.slice none 0 0] 28)=w0 at *
  have I:∃Q,Shp 6 Q/\Pres3 (λk=>w.heap.size<=k/\k≠w.heap.size) l (.slice a1 q c1) (.slice a2 r c2) (.slice u y c3) Q:=by
   obtain⟨Q,q1,q2⟩:=hP;exact⟨Q,q1,q2.mono (λk hk a=>⟨by have hk:_<=k:=hk;simp at hk;omega,a,rfl⟩)⟩
  have aa:w.heap.size+1<=l.heap.size:=by omega
  have ab:=Lib.hid P;clear P hP m;obtain⟨q0,q1,q2,q3,q4⟩:=id H;by_cases W:c=0
  ·subst W
   have i:=World.grownBy_alloc (((l.setCell ⟨w.heap.size,0,none⟩ (.slice a1 q c1)).setCell ⟨w.heap.size,1,none⟩ (.slice a2 r c2)).setCell ⟨w.heap.size,2,none⟩ (.slice u y c3)) (.cells #[.slice a1 q c1,.slice a2 r c2,.slice u y c3] 28) none;have n:=(H.all (.slice a1 q c1) (.slice a2 r c2) (.slice u y c3)).ext i;obtain⟨-,z0,z1,z2,-⟩:=id n;have b:=grown_set3 l w.heap.size (.slice a1 q c1) (.slice a2 r c2) (.slice u y c3);have J:=Lib.hid (And.intro b (And.intro I i));clear n b I i;go_wp2_with fail
   refine bodyPost_ret (v := .agg #[.slice a1 q c1,.slice a2 r c2,.slice u y c3]) (by simp[results,Tryz.results269,go_sem,z0,z1,z2]) rfl ?_;obtain⟨b,⟨Q,k1,k2⟩,i⟩:=J.out;exact⟨_,rfl,grown_trans (grown_own B b (λj R a=>by cases R;omega)) i,_,_,_,rfl,Q,k1,(nJ b k2).ext i⟩
  ·have ah:(c != 0)=true:=by simp[W]
   clear W;have i:Ext l (l.alloc (.cells #[.slice a1 q c1,.slice a2 r c2,.slice u y c3] 28)):=World.grownBy_alloc _ _ _;have S:=Box3.made l 28 (.slice a1 q c1) (.slice a2 r c2) (.slice u y c3);have X:(l.alloc (.cells #[.slice a1 q c1,.slice a2 r c2,.slice u y c3] 28)).heap.size=l.heap.size+1:=by simp
   go_wp2_with fail
   generalize l.alloc (.cells #[.slice a1 q c1,.slice a2 r c2,.slice u y c3] 28)=T at *;have K:Ext T (T.alloc (.cells #[.int .i64 2] 2)):=World.grownBy_alloc _ _ _
   have Y:Ints Any (T.alloc (.cells #[.int .i64 2] 2)) (.slice (some ⟨T.heap.size,0,none⟩) 1 1) [2]:=
    ints_of_own (show Own 0 _ _ [2] from World.ownsRow_lit T #[.int .i64 2] 1 (Nat.zero_le _) (by decide) rfl) (by simp) (λ_ _=>trivial)
   rw[X] at Y;refine Calls.mono (l07Trivial_ok _ _ [2] _ Y (by simp)) ?_;rintro e3 V ⟨v3,rfl,L,vo,vp,vc,rfl,ia⟩;obtain⟨C,c4,D,c5,E,c6,rfl,rfl,rfl⟩:=trivX_shape ia;have F:=grown_trans i (grown_trans K L);have z:=H.ext F;have p:=S.ext (grown_trans K L);have U:=grown_trans B F;have Z:Pres3 (λk=>w.heap.size<=k/\k≠w.heap.size) V (.slice C 1 c4) (.slice D 1 c5) (.slice E 1 c6) (trivP [2]):=ia.p3.mono (λk hk a=>⟨by have hk:_<=k:=hk;simp at hk;omega,a,rfl⟩);have A:Pres3 (λk=>l.heap.size<k) V (.slice C 1 c4) (.slice D 1 c5) (.slice E 1 c6) (trivP [2]):=ia.p3.mono (λk hk a=>⟨by have hk:_<=k:=hk;simp at hk;omega,a,rfl⟩);clear ia Z Y S I q0 q1 q2 q3 q4 L K;obtain⟨p0,p1,p2,p3,p4⟩:=id p;obtain⟨q0,q1,q2,q3,q4⟩:=id z;have g:=grown_set3 V l.heap.size (.slice C 1 c4) (.slice D 1 c5) (.slice E 1 c6);have G:=p.all (.slice C 1 c4) (.slice D 1 c5) (.slice E 1 c6);have M:=Box3.keep z g.size (g.block _ z.1 (λe=>by have:=Option.some.inj e;omega));obtain⟨r0,r1,r2,r3,r4⟩:=id G;obtain⟨s0,s1,s2,s3,s4⟩:=id M;have n:=M.all (.slice C 1 c4) (.slice D 1 c5) (.slice E 1 c6);obtain⟨-,z0,z1,z2,-⟩:=id n;have b:=grown_set3 (((V.setCell ⟨l.heap.size,0,none⟩ (.slice C 1 c4)).setCell ⟨l.heap.size,1,none⟩ (.slice D 1 c5)).setCell ⟨l.heap.size,2,none⟩ (.slice E 1 c6)) w.heap.size (.slice C 1 c4) (.slice D 1 c5) (.slice E 1 c6);have J:=Lib.hid (And.intro g (And.intro b A));clear n b g A z p G M;go_wp2_with fail
   refine bodyPost_ret (v := .agg #[.slice C 1 c4,.slice D 1 c5,.slice E 1 c6]) (by simp[results,Tryz.results269,go_sem,z0,z1,z2]) rfl ?_;obtain⟨g,b,A⟩:=J.out;refine⟨_,rfl,grown_own (grown_own U g (λj R a=>by have:=Option.some.inj R;omega)) b (λj R a=>by have:=Option.some.inj R;omega),_,_,_,rfl,trivP [2],trivP_shp _ (by simp),A.mono (λk hk a=>⟨(show w.heap.size<=k by omega),?_,?_⟩)⟩
   ·exact Nat.lt_of_lt_of_le a (Nat.le_trans g.size b.size)
   ·exact(b.block k (Nat.lt_of_lt_of_le a g.size) (λe=>by have:=Option.some.inj e;omega)).trans (g.block k a (λe=>by have:=Option.some.inj e;omega))
end Go.Proofs.YtdcobapnlpeaaaaGreat
