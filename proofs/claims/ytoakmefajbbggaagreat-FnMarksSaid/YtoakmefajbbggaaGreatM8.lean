/- Merged from templates. -/
import Derived.Test.YtoakmefajbbggaaGreatM7
import Derived.Shelf.Spec.SlicesGrow
set_option maxRecDepth 100000
set_option maxHeartbeats 8000000
namespace Go.Proofs.YtoakmefajbbggaaGreat
open Go.RowKit
theorem S3 (P:Pr) (G:ez P) (w:World) (pv tv N:Value) (b:List (List Int)) (X:List Int) (Sp Sb Sx:Nat->Prop) (O:gy Sp w pv P) (ht:dK Sb w tv b) (hx:Ints Sx w N X) (Q:dL P.orders X)
  (m:b.length=P.orders.length) (l:∀d,d<P.orders.length->gt b d≠[]->T P d (gt b d)/\gt (gt b d) d=1) :
  Calls Tryz.prog 256 #[pv,tv,N] w (fq w λw' v=>∃(d:Nat) (r:Value) (Y:List Int),v=.tuple #[.int .i64 d,r]/\Own w.heap.size w' r Y/\sX P b X d Y/\d<=P.orders.length/\(d<P.orders.length->gt Y d≠0/\gt b d=[])):=by
 have hP:=G.v;have ap:=hP.n6;obtain⟨vo,vp,vc,rfl,h3⟩:=O;have z:=fB.box h3 28;have j:Ext w (w.alloc (.cells #[vo,vp,vc] 28)):=World.grownBy_alloc _ _ _;have R:=hx.ext j;have S:=dK.ext ht j;have aq:X.length<=6:=by rw[Q.1];omega
 have A:(w.alloc (.cells #[vo,vp,vc] 28)).heap.size=w.heap.size+1:=by simp
 obtain⟨at_,JS,B,_,_⟩:=Sl.shape ht;rw[m] at B;subst B;have U:=Lib.hid (And.intro l (And.intro Q m));clear l Q m;obtain⟨V,fN,fM,_,_,W,C,D,E⟩:=z.at;simp only[Nat.zero_add] at C D;clear z;go_enter Tryz.func256,Tryz.ntmps256;go_wp2_with fail
 have HS:=Lib.hid A;clear A;generalize Z:w.alloc (.cells #[vo,vp,vc] 28)=w0 at *;clear Z;refine Calls.mono (mD w0 N X Sx R (by omega)) ?_;rintro e1 w1 ⟨ov,rfl,hg1,nS⟩;go_wp2;go_loopw [8,9] (λov iv wr=>∃(d:Nat) (Y:List Int),iv=.int .i64 d/\d<=P.orders.length/\Ext w0 wr/\Own w.heap.size wr ov Y/\Hid (sX P b X d Y)) (λ_ iv _=>P.orders.length-(intOf iv).toNat)
 case atStart=>exact⟨0,X,rfl,by omega,hg1,nS.weak (by have:=HS.out;omega),Lib.hid (Ry U.out.2.1)⟩
 case round=>
  clear nS;obtain⟨d,Y,rfl,hd,e,hO,F⟩:=hrel;have a:=F.out.vec.1;have ab:Y.length=P.orders.length:=a.1;have p:=hO.ints (by omega);obtain⟨ay,nM,H,_,_⟩:=p.shape;rw[ab] at H;subst H;by_cases i:d<P.orders.length
  ·have al:(d:Int)<P.orders.length:=by omega
   obtain⟨bb,off,a2,I,rfl,_,_,hc,hr⟩:=dK.at (dK.ext S e) d (by rw[U.out.2.2];exact i);obtain⟨ac,oy,rfl,_,_,sZ⟩:=Ints.at p d (by omega);by_cases hy:gt Y d=0
   ·have ad:(gt Y d == 0)=true:=by simp[hy]
    have q:=Lib.hid (F.out.skip hy);clear a hy;go_wp2;go_roundw
    case rel=>exact⟨d+1,Y,by go_num,by omega,e,hO,q⟩
    case measure=>simp[intOf];omega
   ·have ad:(gt Y d == 0)=false:=by simp[hy]
    by_cases u:gt b d=[]
    ·have ae:((((gt b d).length:Nat):Int) == 0)=true:=by rw[u];rfl
     have k:=Lib.hid (And.intro u hy);clear u a hy;go_wp2;go_ret2
     exact⟨_,rfl,dy j e,d,_,Y,rfl,hO,F.out,by omega,λ_=>⟨k.out.2,k.out.1⟩⟩
    ·have ae:((((gt b d).length:Nat):Int) == 0)=false:=by
      have:0<(gt b d).length:=List.length_pos_iff.2 u;simp;omega
     have J:=a.2 d i;have ho:=hP.gh d i;have av:IntKind.i64.wrap (-(gt Y d)) = -(gt Y d):=IntWalk.i64_in _ (by omega);obtain⟨M,m3⟩:=U.out.1 d i u;have q:=Lib.hid (G.Rz i u ⟨M,m3⟩ hy F.out);have y:=G.sV M.1 (-(gt Y d));have K:(iT P (gt b d) (-(gt Y d))).length<=6:=by rw[y.1];omega
     have k:=Lib.hid (And.intro M.1 (And.intro y (And.intro K (And.intro a (And.intro J ho)))));clear M m3 y K a J ho u hy;have e1:∀w',Ext wr w'->w'.cell? ⟨w.heap.size,0,none⟩=some V:=λw' h=>(dy e h).cell W (by simp);have e2:∀w',Ext wr w'->w'.cell? ⟨w.heap.size,1,none⟩=some fN:=λw' h=>(dy e h).cell C (by simp);have e3:∀w',Ext wr w'->w'.cell? ⟨w.heap.size,2,none⟩=some fM:=λw' h=>(dy e h).cell D (by simp);have e4:∀w',Ext wr w'->w'.cell? ⟨bb,off+d,none⟩=some (.slice a2 (gt b d).length I):=λw' h=>h.cell hc (by simp);have e5:∀w',Ext wr w'->w'.cell? ⟨ac,oy+d,none⟩=some (.int .i64 (gt Y d)):=λw' h=>h.cell sZ (by simp);go_wp2;clear hc sZ
     go_region_held3 (λw'=>Ext wr w') (first|exact fk _ _|assumption)
      (first
       | (go_at_call 257;refine Calls.mono (Calls.rel (w0:=wr) (by assumption) (xu P G _ _ _ (gt b d) _ Any Any ⟨_,_,_,rfl,fA.ext (fA.ext E e) (by assumption)⟩ (Ints.sub (Ints.ext hr (by assumption)) (λ_ _ _=>trivial)) k.out.1 (by have:=k.out.2.2.2.2.1;have:=k.out.2.2.2.2.2;omega))) ?_;rintro eA wA ⟨vA,rfl,gK,iZ,mj⟩;have L:=mj.ints (by have:=k.out.2.2.1;omega))
       | (go_at_call 169;refine Calls.mono (Calls.rel (w0:=wr) (by assumption) (qN P hP _ _ _ _ Y _ Any Any Any ⟨_,_,_,rfl,fA.ext (fA.ext E e) (by assumption)⟩ (Ints.sub (Ints.ext p (by assumption)) (λ_ _ _=>trivial)) L k.out.2.2.2.1 k.out.2.1)) ?_;rintro eB wB ⟨vB,rfl,hgB,jV,nj⟩))
     clear e1 e2 e3 e4 e5;go_wp2;go_roundw
     case rel=>exact⟨d+1,_,by go_num,by omega,dy e hgB,nj.weak (by have:=e.size;have:=HS.out;omega),q⟩
     case measure=>simp[intOf];omega
  ·have af:d=P.orders.length:=by omega
   subst af;go_wp2;go_ret2
   exact⟨_,rfl,dy j e,_,_,Y,rfl,hO,F.out,by omega,λh=>absurd h (by omega)⟩
theorem S4 (w:World) (a:Option Addr) (n cap:Nat) (k:Int) (b:0<=k) (h1:k<=cap) :
  (Instr.slice 25 (.slice a n cap) none (some (.int .i64 k)) none).run Tryz.prog w=.ok (.slice a k.toNat cap) w:=by
 rw[run_slice_h w 25 a n cap (by kernel_rfl) .i64 k b h1];have:(sizeOf (Tryz.prog.elem 25)).run Tryz.prog w=.ok 1 w:=by kernel_rfl
 rw[this];cases a with
 | none=>simp[Result.andThen,sliced]
 | some a=>simp[Result.andThen,sliced,Addr.add]
theorem iH.init {B E n cap:Nat}{w:World}{a:Option Addr}{x:Value}{b:List Value}(h:iH B E w (.slice a n cap) (b++[x])):iH B E w (.slice a b.length cap) b:=by
 rcases h with⟨_,h⟩|⟨g,off,cap',cur,e,hb,hg,h1,h2,h3,j⟩
 ·simp at h
 ·simp only[Value.slice.injEq] at e
  obtain⟨rfl,rfl,rfl⟩:=e;simp only[List.length_append,List.length_singleton] at h1 j;exact .inr ⟨g,off,cap,cur,rfl,hb,hg,by omega,h2,h3,λi k=>by rw[j i (by omega),iX _ _ _ k]⟩
theorem gL.init {bad:Nat->Prop}{B n cap:Nat}{w:World}{a:Option Addr}{x:List Int}{xs:List (List Int)}(h:gL bad B w (.slice a n cap) (xs++[x])):gL bad B w (.slice a xs.length cap) xs:=by
 obtain⟨l,m,hq,hr⟩:=h
 obtain ⟨j,u,rfl⟩:∃j u,l=j++[u]:=by
  refine⟨l.dropLast,l.getLast (λe=>by rw[e] at m;simp at m),(List.dropLast_concat_getLast _).symm⟩
 have b:j.length=xs.length:=by simpa using m
 refine⟨j,b,by rw[<-b];exact hq.init,λi q => ?_⟩;have p:=hr i (by simp;omega);rw[iX _ _ _ (by omega),iX _ _ _ q] at p;exact Ints.sub p (λk hk _=>⟨hk.1,λe=>hk.2 (by cases a<;>exact e)⟩)
theorem yj (w:World) (v:Value) (L:List (List Int)) (S:Nat->Prop) (E:dK S w v L) (F:∀x∈L,x.length<=1000000) (G:L.length<=1000000) :
  Calls Tryz.prog 183 #[v] w (fq w λw' r=>iL w.heap.size w' r L):=by
 obtain⟨a,cap,rfl,_,_⟩:=Sl.shape E;have J:=Lib.hid F;clear F;go_enter Tryz.func183,Tryz.ntmps183;go_wp2;go_loopw [3,4] (λK y wr=>∃(i:Nat) (v4:Value),v4=K/\y=.int .i64 i/\i<=L.length/\Ext w wr/\iL w.heap.size wr v4 (L.take i)) (λ_ y _=>L.length-(intOf y).toNat)
 case atStart=>exact⟨0,_,rfl,rfl,by omega,World.grownBy_alloc _ _ _,[],λ_ _=>False,rfl,World.ownsRow_lit w #[] 0 (Nat.le_refl _) (by decide) rfl,by simp,by simp,by simp⟩
 case round=>
  obtain⟨i,v4,rfl,rfl,hi,u,hO⟩:=hrel;by_cases k:i<L.length
  ·have H:(i:Int)<L.length:=by omega
   obtain⟨b,off,a2,jx,rfl,_,_,hc,M⟩:=dK.at (dK.ext E u) i k;have e:=je L i k;have m:=J.out _ (fT k);have z:(L.take i).length<=1000000:=by rw[List.length_take];omega
   have l:=Lib.hid (And.intro e m);clear e m;go_wp2_with fail
   refine Calls.mono (mD wr _ (gt L i) _ M (by have:=l.out.2;omega)) ?_;rintro R I ⟨N,rfl,A,oD⟩;have p:gf (From wr.heap.size) I N (gt L i):=gf.of oD (by have:=l.out.2;omega) (λj h1 _=>h1);obtain⟨T,nM,oF,_,_⟩:=p.ints.shape;subst oF;clear hc;go_wp2_with (first|(at_builtin;refine rA rfl _ _ rfl w.heap.size wr I v4 _ (L.take i) (gt L i) rfl hO A p rfl rfl z u.size ?_;intro O U B C Q;have q:=hO.vn u (Nat.le_refl _) C)|fail)
   go_roundw
   case rel=>exact⟨i+1,O,rfl,by go_num,by omega,q,by rw[l.out.1];exact B⟩
   case measure=>simp[intOf];omega
  ·have D:i=L.length:=by omega
   subst D;rw[List.take_length] at hO;obtain⟨V,rC,lJ,_,_⟩:=jm.shape (hO.iB (by omega));subst lJ;go_wp2;go_ret;exact⟨_,rfl,u,hO⟩
theorem S5 (P:Pr) (G:ez P) (w:World) (pv a b:Value) (A B:List Int) (N H I:Nat->Prop) (O:gy N w pv P) (ha:Ints H w a A) (M:Ints I w b B) (F:dL P.orders A) (hB:dL P.orders B) :
  Calls Tryz.prog 259 #[pv,a,b] w (fq w λw' v=>Own w.heap.size w' v (oO P A B)):=by
 have hP:=G.v;obtain⟨vo,vp,vc,rfl,h3⟩:=O;have Q:=hP.n6;have i:=G.gz hB F;have m:=G.invV i;have p:=G.gz F hB;have l:=Lib.hid (And.intro i (And.intro m p));clear i m p;have j:Ext w (w.alloc (.cells #[vo,vp,vc] 28)):=World.grownBy_alloc _ _ _;have J:=fB.box h3 28;have q:=ha.ext j;have r:=M.ext j;have u:(w.alloc (.cells #[vo,vp,vc] 28)).heap.size=w.heap.size+1:=by simp
 have R:=Lib.hid u;clear u ha M;go_enter Tryz.func259,Tryz.ntmps259;go_wp2;generalize K:w.alloc (.cells #[vo,vp,vc] 28)=w0 at *;clear K;obtain⟨L,fN,fM,_,_,hc0,y,z,fP⟩:=J.at;have S:∀w',Ext w0 w'->w'.cell? ⟨w.heap.size,0,none⟩=some L:=λw' h=>h.cell hc0 (by simp);have T:∀w',Ext w0 w'->w'.cell? ⟨w.heap.size,1,none⟩=some fN:=λw' h=>h.cell (by simpa using y) (by simp);have U:∀w',Ext w0 w'->w'.cell? ⟨w.heap.size,2,none⟩=some fM:=λw' h=>h.cell (by simpa using z) (by simp);clear hc0 y z
 go_region_held3 (λw'=>Ext w0 w') (first|exact fk _ _|assumption)
  (first
   | (revert e;intro e;go_at_call 169;refine Calls.mono (Calls.rel (w0:=w0) (by assumption) (qN P hP _ _ _ _ _ _ Any Any Any ⟨_,_,_,rfl,fA.ext fP (by assumption)⟩ C e l.out.2.1 l.out.2.2)) ?_;rintro V W ⟨X,rfl,p6,xY,oD⟩)
   | (revert k;intro k;go_at_call 169;refine Calls.mono (Calls.jF (w0:=w0) (by assumption) (qN P hP _ _ _ _ A B Any H I ⟨_,_,_,rfl,fA.ext fP (by assumption)⟩ (Ints.ext q (by assumption)) (Ints.ext r (by assumption)) F hB)) ?_;rintro Y Z ⟨vF,rfl,qm,D,pK,lC⟩;have C:=(k.gw D).ints (by rw[l.out.2.1.1];omega);have e:=lC.ints (by rw[l.out.2.2.1];omega))
   | (go_at_call 67;refine Calls.mono (Calls.rel (w0:=w0) (by assumption) (Dj P hP _ _ _ _ Any Any ⟨_,_,_,rfl,fA.ext fP (by assumption)⟩ E l.out.1)) ?_;rintro eB wB ⟨vB,rfl,hgB,jV,k⟩)
   | (go_at_call 169;refine Calls.mono (Calls.rel (w0:=w0) (by assumption) (qN P hP _ _ _ _ B A Any I H ⟨_,_,_,rfl,fA.ext fP (by assumption)⟩ (Ints.ext r (by assumption)) (Ints.ext q (by assumption)) hB F)) ?_;rintro eA wA ⟨vA,rfl,gK,iZ,mj⟩;have E:=mj.ints (by rw[l.out.1.1];omega)))
 clear S T U;go_wp2;go_ret;exact⟨_,rfl,dy j p6,oD.weak (by have:=R.out;omega)⟩
theorem S6 (a m:Int) (w:World) (h1:0<=a) (b:a<m) :
  Calls Tryz.prog 289 #[.int .i64 a,.int .i64 m] w λe w'=>e=.returned (.int .i64 a)/\w=w':=by
 have k:a.tmod m=a:=Int.tmod_eq_of_lt h1 b;have i:m≠0:=by omega
 have j:(m == 0)=false:=by simp;omega
 go_enter Tryz.func289,Tryz.ntmps289;go_wp2;go_ret;exact⟨rfl,rfl⟩
theorem S7 {a m:Int}(b:m=2\/m=3\/m=5\/m=7) (h1:1<=a) (e:a<m):∃y:Int,1<=y/\y<m/\(a*y)%m=1:=by
 rcases b with rfl|rfl|rfl|rfl
 ·have:a=1:=by omega
  subst this;exact⟨1,by decide,by decide,by decide⟩
 ·rcases (show a=1\/a=2 by omega) with rfl|rfl
  ·exact⟨1,by decide,by decide,by decide⟩
  ·exact⟨2,by decide,by decide,by decide⟩
 ·rcases (show a=1\/a=2\/a=3\/a=4 by omega) with rfl|rfl|rfl|rfl
  ·exact⟨1,by decide,by decide,by decide⟩
  ·exact⟨3,by decide,by decide,by decide⟩
  ·exact⟨2,by decide,by decide,by decide⟩
  ·exact⟨4,by decide,by decide,by decide⟩
 ·rcases (show a=1\/a=2\/a=3\/a=4\/a=5\/a=6 by omega) with rfl|rfl|rfl|rfl|rfl|rfl
  ·exact⟨1,by decide,by decide,by decide⟩
  ·exact⟨4,by decide,by decide,by decide⟩
  ·exact⟨5,by decide,by decide,by decide⟩
  ·exact⟨2,by decide,by decide,by decide⟩
  ·exact⟨3,by decide,by decide,by decide⟩
  ·exact⟨6,by decide,by decide,by decide⟩
theorem S8 (a m:Int) (w:World) (z:m=2\/m=3\/m=5\/m=7) (h1:1<=a) (i:a<m) :
  Calls Tryz.prog 258 #[.int .i64 a,.int .i64 m] w (fq w λ_ v=>∃k:Int,v=.int .i64 k/\0<=k/\k<m/\(k*a)%m=1):=by
 have hex:=S7 z h1 i;have B:=Lib.hid hex;clear hex;have j:2<=m/\m<=7:=by omega
 obtain⟨C,j⟩:=j;clear z;have b:=S6 a m w (by omega) i;go_enter Tryz.func258,Tryz.ntmps258;go_wp2;go_loopw [5] (λq wr=>∃x:Int,q=.int .i64 x/\1<=x/\x<=m/\w=wr/\Hid (∀y,1<=y->y<x->(a*y)%m≠1)) (λq _=>(m-intOf q).toNat)
 case atStart=>exact⟨1,rfl,by omega,by omega,rfl,Lib.hid (λy h1 i=>by omega)⟩
 case round=>
  obtain⟨x,rfl,hx1,VG,rfl,A⟩:=hrel;by_cases r:x<m
  ·have l:0<=a*x:=Int.mul_nonneg (by omega) (by omega)
   have D:a*x<=7*7:=Int.mul_le_mul (by omega) (by omega) (by omega) (by omega);have I:IntKind.i64.wrap (a*x)=a*x:=IntWalk.i64_in _ (by omega);have J:(a*x).tmod m=(a*x)%m:=Int.tmod_eq_emod_of_nonneg l;have E:(m == 0)=false:=by simp;omega
   by_cases e:(a*x)%m=1
   ·have F:((a*x)%m == 1)=true:=by simp[e]
    have p:(x*a)%m=1:=by rw[Int.mul_comm];exact e
    have u:=Lib.hid p;clear e p;go_wp2_with fail
    refine Calls.mono b ?_;rintro G H ⟨rfl,rfl⟩;clear b;go_wp2;go_ret;exact⟨_,rfl,Ext.refl _,x,rfl,by omega,r,u.out⟩
   ·have F:((a*x)%m == 1)=false:=by simp[e]
    have u:=Lib.hid e;clear e;go_wp2_with fail
    refine Calls.mono b ?_;rintro G H ⟨rfl,rfl⟩;clear b;go_wp2;go_roundw
    case rel=>exact⟨x+1,by go_num,by omega,by omega,trivial,Lib.hid (λy h1 i=>by
     by_cases hy:y=x
     ·rw[hy];exact u.out
     ·exact A.out y h1 (by omega))⟩
    case measure=>simp[intOf];omega
  ·obtain ⟨y,h1,i,h3⟩:=B.out
   exact absurd h3 (A.out y h1 (by omega))
theorem S9 (o:List Int) (w:World) (vo vp vc:Value) (S:Nat->Prop) (j:Ints S w vo o) (l:o.length<=6) :
  Calls Tryz.prog 215 #[.agg #[vo,vp,vc]] w (fq w λw' v=>Own w.heap.size w' v (zeros o.length)):=by
 obtain⟨i,a,rfl,_,_⟩:=j.shape;have k:(w.alloc (.cells #[.slice i o.length a,vp,vc] 28)).cell? ⟨w.heap.size,0,none⟩=some (.slice i o.length a):=by rw[World.cell?_alloc_at _ _ _ _ rfl];rfl
 go_enter Tryz.func215,Tryz.ntmps215;go_wp2_with (at_make;refine lU rfl _ _ rfl (w.heap.size+1) o.length (w.heap.size+1) (by simp) _ rfl rfl rfl (by omega) (by simp) ?_;intro m b e _)
 go_ret;exact⟨_,rfl,dy (World.grownBy_alloc _ _ _) e,b.weak (by omega)⟩
theorem Ta (o:List Int) (hP:Valid (kI o)) (w:World) (vo vp vc:Value) (m:Int) (S:Nat->Prop) (C:Ints S w vo o) (hm:0<=m) (ad:m<=1000000000) :
  Calls Tryz.prog 170 #[.agg #[vo,vp,vc],.int .i64 m] w (fq w λw' v=>Own w.heap.size w' v (fF (kI o) m)):=by
 have N:o.length<=6:=hP.n6;have b:∀i,i<o.length->2<=gt o i/\gt o i<=7:=λi K=>hP.gh i K;have hinv:∀k,k<=o.length->(gQ o o.length m k).1.length=o.length/\0<=(gQ o o.length m k).2/\(gQ o o.length m k).2<=m:=λk hk=>⟨Jf _ _ _ _,(zi hP m hm k hk).2⟩;have W:=Lib.hid (And.intro b hinv);clear b hinv hP;obtain⟨y,a,rfl,_,_⟩:=C.shape;have D:Ext w (w.alloc (.cells #[.slice y o.length a,vp,vc] 28)):=World.grownBy_alloc _ _ _;have u:(w.alloc (.cells #[.slice y o.length a,vp,vc] 28)).cell? ⟨w.heap.size,0,none⟩=some (.slice y o.length a):=by rw[World.cell?_alloc_at _ _ _ _ rfl];rfl
 have E:(w.alloc (.cells #[.slice y o.length a,vp,vc] 28)).cell? ⟨w.heap.size,1,none⟩=some vp:=by rw[World.cell?_alloc_at _ _ _ _ rfl];rfl
 have F:(w.alloc (.cells #[.slice y o.length a,vp,vc] 28)).cell? ⟨w.heap.size,2,none⟩=some vc:=by rw[World.cell?_alloc_at _ _ _ _ rfl];rfl
 have G:=C.ext D;have H:(w.alloc (.cells #[.slice y o.length a,vp,vc] 28)).heap.size=w.heap.size+1:=by simp
 go_enter Tryz.func170,Tryz.ntmps170;go_wp2_with fail
 have HS:=Lib.hid H;clear H;clear E F;have I:=Lib.hid u;clear u;generalize O:w.alloc (.cells #[.slice y o.length a,vp,vc] 28)=w0 at *;clear O;refine Calls.mono (S9 o w0 _ _ _ S G N) ?_;rintro e1 w1 ⟨r,rfl,hg1,e⟩;have z:=e.ints (by simp[zeros];omega);obtain⟨Q,l,rfl,_,_⟩:=z.shape;have q:(zeros o.length).length=o.length:=by simp[zeros]
 rw[q] at z;have e:Own w0.heap.size w1 (.slice Q o.length l) (zeros o.length):=by rw[q] at e;exact e
 simp only[q];clear q z;go_wp2
 go_loopw [1,6] (λmv i wr=>∃k:Nat,i=.int .i64 ((o.length:Int)-1-k)/\mv=.int .i64 (gQ o o.length m k).2/\k<=o.length/\Ext w0 wr /\
   Own w0.heap.size wr (.slice Q o.length l) (gQ o o.length m k).1) (λ_ i _=>(intOf i+1).toNat)
 case atStart=>exact⟨0,by simp,rfl,by omega,hg1,e⟩
 case round=>
  clear e;obtain⟨k,rfl,rfl,hk,hg,hO⟩:=hrel;obtain⟨R,hm0,hm1⟩:=W.out.2 k hk;by_cases T:k<o.length
  ·obtain ⟨g,jL,A,hgb,l5⟩:=hO.form (by omega)
   rw[R] at A;obtain⟨rfl,_⟩:Q=some ⟨g,0,none⟩/\l=jL:=by cases A;exact⟨rfl,rfl⟩
   clear A;obtain⟨b2,off2,rfl,_,_,nT⟩:=Ints.at G (o.length-1-k) (by omega);have ag:=hg.cell I.out (by simp);have ah:=hg.cell nT (by simp);have b:=W.out.1 (o.length-1-k) (by omega);have hc:=hO.cell (o.length-1-k) (by omega);have hf:=hO.frozen (o.length-1-k);have p:gQ o o.length m (k+1)=((gQ o o.length m k).1.set (o.length-1-k) ((gQ o o.length m k).2%gt o (o.length-1-k)),(gQ o o.length m k).2/gt o (o.length-1-k)):=rfl;have J:=Lib.hid p;clear p;obtain⟨U,hg2⟩:=hO.store (o.length-1-k) ((gQ o o.length m k).2%gt o (o.length-1-k));have B:Ext w0 (wr.setCell ⟨g,o.length-1-k,none⟩ (.int .i64 ((gQ o o.length m k).2%gt o (o.length-1-k)))):=fu hg hg2 (λj hj T=>by cases hj;omega);have X:=B.cell I.out (by simp);have Y:=B.cell nT (by simp);clear nT R;have Z:((o.length:Int)-1-k).toNat=o.length-1-k:=by omega
   generalize K:o.length-1-k=i at *;generalize (gQ o o.length m k).1=L at *;generalize (gQ o o.length m k).2=M at *;have aa:2<=gt o i:=b.1;have ab:gt o i<=7:=b.2;have HI:=Lib.hid K;clear K b;go_wp2;go_roundw
   case rel=>exact⟨k+1,by congr 1;omega,by rw[J.out],by omega,B,by rw[J.out];exact U⟩
   case measure=>simp[intOf];omega
  ·have V:k=o.length:=by omega
   subst V;clear R;go_wp2;go_ret;exact⟨_,rfl,dy D hg,hO.weak (by have:=HS.out;omega)⟩
theorem Tb (P:Pr) (hP:Valid P) (w:World) (pv R:Value) (U:List (List Int)) (Sp Su:Nat->Prop) (G:gy Sp w pv P) (H:dK Su w R U) (S:iY P U) (hl:U.length<=100) :
  Calls Tryz.prog 286 #[pv,R] w (fq w λw' v=>Own w.heap.size w' v (gV P U)):=by
 have ad:=hP.n6;obtain⟨vo,vp,vc,rfl,h3⟩:=G;have l:=fB.box h3 28;have m:Ext w (w.alloc (.cells #[vo,vp,vc] 28)):=World.grownBy_alloc _ _ _;have I:=dK.ext H m;obtain⟨ao,iA,gJ,hoi⟩:=l.iO;obtain⟨au,jA,rfl,_,_⟩:=Sl.shape H;have p:(w.alloc (.cells #[vo,vp,vc] 28)).heap.size=w.heap.size+1:=by simp
 have q:=D1 P U;have D:=Lib.hid (And.intro S q);clear S q l H;go_enter Tryz.func286,Tryz.ntmps286;go_wp2;have T:=Lib.hid p;clear p;generalize J:w.alloc (.cells #[vo,vp,vc] 28)=w0 at *;clear J;go_loopw [5,6] (λov K wr=>∃(i:Nat) (v4:Value),v4=ov/\K=.int .i64 i/\i<=U.length/\Ext w0 wr/\Own w0.heap.size wr v4 ((gV P U).take i)) (λ_ K _=>U.length-(intOf K).toNat)
 case atStart=>exact⟨0,_,rfl,rfl,by omega,World.grownBy_alloc _ _ _,by rw[<-T.out];exact World.ownsRow_lit w0 #[] 0 (Nat.le_refl _) (by decide) rfl⟩
 case round=>
  obtain⟨i,v4,rfl,rfl,hi,V,hO⟩:=hrel;by_cases a:i<U.length
  ·have W:(i:Int)<U.length:=by omega
   obtain⟨b,off,a2,r,rfl,_,_,L,X⟩:=dK.at I i a;have e:(gV P U).take (i+1)=(gV P U).take i++[gt P.orders (dep (gt U i))]:=by rw[je _ i (by rw[D.out.2];exact a),xw P U i a]
   obtain⟨z,E⟩:∃z,z=gt U i:=⟨_,rfl⟩;rw[<-E] at L X e;obtain⟨d,F⟩:∃d,d=dep z:=⟨_,rfl⟩;rw[<-F] at e;have M:d<P.orders.length:=by rw[F,E];exact(D.out.1.1 _ (fT a)).2.1
   have u:((gV P U).take i).length<=1000000:=by rw[List.length_take];omega
   have Y:=Lib.hid (And.intro F (And.intro E u));clear F E u;have Z:(d:Int)<P.orders.length:=by omega
   obtain⟨bo,oo,rfl,_,_,hcd⟩:=Ints.at hoi d M;have N:=Lib.hid e;clear e;have e1:∀w',Ext w0 w'->w'.cell? ⟨w.heap.size,0,none⟩=some (.slice (some ⟨bo,oo,none⟩) P.orders.length iA):=λw' h=>h.cell gJ (by simp);have e2:∀w',Ext w0 w'->w'.cell? ⟨b,off+i,none⟩=some (.slice a2 z.length r):=λw' h=>h.cell L (by simp);have e3:∀w',Ext w0 w'->w'.cell? ⟨bo,oo+d,none⟩=some (.int .i64 (gt P.orders d)):=λw' h=>h.cell hcd (by simp);clear L hcd;go_wp2
   go_region_held3 (λw'=>Ext w0 w') (first|exact dy V (fk _ _)|assumption|exact dy k (World.grownBy_alloc _ _ _))
    (first
     | (go_at_call 251;refine Calls.mono (Calls.jF (w0:=w0) (by assumption) (zw _ z _ Any (Ints.sub (Ints.ext X (by assumption)) (λ_ _ _=>trivial)))) ?_;rintro eE wE ⟨vE,rfl,k,y,mM,A⟩;rw[<-Y.out.1] at A;subst A)
     | (refine uJ rfl _ _ rfl w0.heap.size _ ((gV P U).take i) (gt P.orders d) rfl wE (hO.gw (dy (fk _ _) y)) rfl rfl Y.out.2.2 k.size ?_;intro v5 w5 B O;have C:Ext w0 w5:=fu k O (λj hj a=>by have:=(hO.lt j hj).1;omega)))
   clear e1 e2 e3;rw[<-N.out] at B;go_wp2;go_roundw
   case rel=>exact⟨i+1,v5,rfl,by go_num,by omega,C,B⟩
   case measure=>simp[intOf];omega
  ·have Q:i=U.length:=by omega
   subst Q;rw[List.take_of_length_le (by rw[D.out.2];exact Nat.le_refl _)] at hO;obtain⟨az,rC,lJ,_,_⟩:=(hO.ints (by rw[D.out.2];omega)).shape;subst lJ;go_wp2;go_ret;exact⟨_,rfl,dy m V,hO.weak (by have:=T.out;omega)⟩
theorem Tc (P:Pr) (G:ez P) (w:World) (pv X Y:Value) (U:List (List Int)) (A:List Int) (Sp Su Sa:Nat->Prop) (L:gy Sp w pv P) (M:dK Su w X U) (ha:Ints Sa w Y A) (Z:∀z∈U,dL P.orders z) (hl:U.length<=A.length)
  (hA:∀i,i<U.length->0<=gt A i/\gt A i<=1000) :
  Calls Tryz.prog 287 #[pv,X,Y] w (fq w λw' v=>Own w.heap.size w' v (lT P U A U.length)):=by
 have hP:=G.v;have ai:=hP.n6;obtain⟨vo,vp,vc,rfl,h3⟩:=L;have q:=fB.box h3 28;have b:Ext w (w.alloc (.cells #[vo,vp,vc] 28)):=World.grownBy_alloc _ _ _;have N:=dK.ext M b;have O:=ha.ext b;obtain⟨au,jA,rfl,_,_⟩:=Sl.shape M;obtain⟨aa,vr,rfl,_,_⟩:=ha.shape;have u:(w.alloc (.cells #[vo,vp,vc] 28)).heap.size=w.heap.size+1:=by simp
 obtain⟨Q,fN,fM,_,_,R,y,B,e⟩:=q.at;simp only[Nat.zero_add] at y B;have S:=Lib.hid (And.intro Z hA);clear Z hA q M ha;go_enter Tryz.func287,Tryz.ntmps287;go_wp2_with fail
 have HS:=Lib.hid u;clear u;generalize T:w.alloc (.cells #[vo,vp,vc] 28)=w0 at *;clear T;refine Calls.mono (De P hP w0 _ Any ⟨_,_,_,rfl,e⟩) ?_;rintro e1 w1 ⟨r,rfl,hg1,lW⟩;go_wp2;go_loopw [7,8] (λov V wr=>∃i:Nat,V=.int .i64 i/\i<=U.length/\Ext w0 wr/\Own w.heap.size wr ov (lT P U A i)) (λ_ V _=>U.length-(intOf V).toNat)
 case atStart=>exact⟨0,rfl,by omega,hg1,lW.weak (by have:=HS.out;omega)⟩
 case round=>
  clear lW;obtain⟨i,rfl,hi,a,hO⟩:=hrel;have j:=G.D3 S.out.1 A i hi;have C:(lT P U A i).length=P.orders.length:=j.1;have D:=hO.ints (by omega);obtain⟨ay,nM,oF,_,_⟩:=D.shape;subst oF;by_cases k:i<U.length
  ·have ae:(i:Int)<U.length:=by omega
   have ak:(i:Int)<A.length:=by omega
   obtain⟨bb,off,a2,E,rfl,_,_,hc,hr⟩:=dK.at (dK.ext N a) i k;obtain⟨ba,oa,rfl,_,_,hca⟩:=Ints.at (O.ext a) i (by omega);have l:=S.out.1 _ (fT k);have F:=S.out.2 i k;have H:lT P U A (i+1)=fC P (lT P U A i) (iT P (gt U i) (gt A i)):=rfl;have m:=G.sV l (gt A i);have I:(iT P (gt U i) (gt A i)).length<=6:=by rw[m.1];omega
   have p:=Lib.hid (And.intro l (And.intro m (And.intro I (And.intro j (And.intro F H)))));clear l m I j F H C;have e1:∀w',Ext wr w'->w'.cell? ⟨w.heap.size,0,none⟩=some Q:=λw' h=>(dy a h).cell R (by simp);have e2:∀w',Ext wr w'->w'.cell? ⟨w.heap.size,1,none⟩=some fN:=λw' h=>(dy a h).cell y (by simp);have e3:∀w',Ext wr w'->w'.cell? ⟨w.heap.size,2,none⟩=some fM:=λw' h=>(dy a h).cell B (by simp);have e4:∀w',Ext wr w'->w'.cell? ⟨bb,off+i,none⟩=some (.slice a2 (gt U i).length E):=λw' h=>h.cell hc (by simp);have e5:∀w',Ext wr w'->w'.cell? ⟨ba,oa+i,none⟩=some (.int .i64 (gt A i)):=λw' h=>h.cell hca (by simp);clear hc hca;go_wp2
   go_region_held3 (λw'=>Ext wr w') (first|exact fk _ _|assumption)
    (first
     | (go_at_call 257;refine Calls.mono (Calls.rel (w0:=wr) (by assumption) (xu P G _ _ _ (gt U i) _ Any Any ⟨_,_,_,rfl,fA.ext (fA.ext e a) (by assumption)⟩ (Ints.sub (Ints.ext hr (by assumption)) (λ_ _ _=>trivial)) p.out.1 (by have:=p.out.2.2.2.2.1;omega))) ?_;rintro eA wA ⟨vA,rfl,gK,iZ,mj⟩;have J:=mj.ints (by have:=p.out.2.2.1;omega))
     | (go_at_call 169;refine Calls.mono (Calls.rel (w0:=wr) (by assumption) (qN P hP _ _ _ _ (lT P U A i) _ Any Any Any ⟨_,_,_,rfl,fA.ext (fA.ext e a) (by assumption)⟩ (Ints.sub (Ints.ext D (by assumption)) (λ_ _ _=>trivial)) J p.out.2.2.2.1 p.out.2.1)) ?_;rintro eB wB ⟨vB,rfl,hgB,jV,K⟩))
   clear e1 e2 e3 e4 e5;rw[<-p.out.2.2.2.2.2] at K;go_wp2;go_roundw
   case rel=>exact⟨i+1,by go_num,by omega,dy a hgB,K.weak (by have:=a.size;have:=HS.out;omega)⟩
   case measure=>simp[intOf];omega
  ·have W:i=U.length:=by omega
   subst W;clear C;go_wp2;go_ret;exact⟨_,rfl,dy b a,hO⟩
def oT (N:Nat) (f:Nat->Nat):Nat->List Bool
 | 0=>List.replicate N false
 | k+1=>(oT N f k).set (f k) true
theorem D4 (N:Nat) (f:Nat->Nat) (k:Nat):(oT N f k).length=N:=by
 induction k with
 | zero=>simp[oT]
 | succ k a=>simp only[oT,List.length_set];exact a
theorem Td (N:Nat) (f:Nat->Nat) (k t:Nat) (a:t<N):gt (oT N f k) t=true↔∃j,j<k/\f j=t:=by
 induction k with
 | zero=>simp[oT,gt,a]
 | succ k b=>
  simp only[oT];by_cases e:f k=t
  ·rw [e,iN _ _ _ (by rw[D4];exact a)]
   exact⟨λ_=>⟨k,by omega,e⟩,λ_=>rfl⟩
  ·rw [iy _ _ _ _ e,b]
   exact ⟨λ⟨j,h1,h2⟩=>⟨j,by omega,h2⟩,λ⟨j,h1,h2⟩=>by
    rcases Nat.lt_succ_iff_lt_or_eq.1 h1 with h|h
    ·exact⟨j,h,h2⟩
    ·subst h;exact absurd h2 e⟩
def qx (P:Pr) (U:List (List Int)) (k:Nat):List Int:=lT P U (fF (kI (gV P U)) (k:Int)) U.length
theorem ez.Te {P:Pr}(G:ez P) {H:List Int->Prop}(S:Sub P H) (t:Nat) (e:t<(eW P).toNat) :
  gt (oT (eW P).toNat (λk=>(num P (qx P (fD P H) k)).toNat) (fJ P (fD P H) (fD P H).length).toNat) t=true↔H (fF P (t:Int)):=by
 have i:=λz l=>S.vec z ((G.iV S).2.1 z l);have a:∀k,dL P.orders (qx P (fD P H) k):=λk=>G.D3 i _ _ (Nat.le_refl _);rw[Td _ _ _ _ e,G.SZ S];constructor
 ·rintro ⟨j,hj,h⟩
  have q:=oB G.v (a j);refine⟨(j:Int),by omega,by omega,?_⟩;have b:num P (qx P (fD P H) j)=(t:Int):=by omega
  rw[<-b,uX G.v (a j)];rfl
 ·rintro ⟨m,h1,b,h3⟩
  refine⟨m.toNat,by omega,?_⟩
  have p:qx P (fD P H) m.toNat=fF P (t:Int):=by
   unfold qx;rw[show((m.toNat:Nat):Int)=m by omega];exact h3.symm
  rw[p,tK G.v _ (by omega) (by omega)];omega
noncomputable def pT (P:Pr) (H:List Int->Prop) (k:Nat):List (List Int):=by
 classical exact(List.range k).filterMap (λt:Nat=>if H (fF P (t:Int)) then some (fF P (t:Int)) else none)
theorem Tf (P:Pr) (H:List Int->Prop) (k:Nat):pT P H (k+1)=pT P H k++(by classical exact if H (fF P (k:Int)) then [fF P (k:Int)] else []):=by
 unfold pT;rw[List.range_succ,List.filterMap_append];congr 1
 by_cases h:H (fF P (k:Int))<;>simp[h]
theorem JW (P:Pr) (H:List Int->Prop):pT P H (eW P).toNat=jQ P H:=by
 unfold pT jQ;rfl
theorem D5 (P:Pr) (H:List Int->Prop) (k:Nat):(pT P H k).length<=k:=by
 unfold pT;have:=List.length_filterMap_le (λt:Nat=>by classical exact(if H (fF P (t:Int)) then some (fF P (t:Int)) else none)) (List.range k);rw[List.length_range] at this;exact this
theorem Tg (P:Pr) (G:ez P) (w:World) (pv uv:Value) (H:List Int->Prop) (Sp Su:Nat->Prop) (S:Sub P H) (a8:gy Sp w pv P) (hu:dK Su w uv (fD P H)) :
  Calls Tryz.prog 252 #[pv,uv] w (fq w λw' v=>iL w.heap.size w' v (jQ P H)):=by
 have hP:=G.v;have bL:=hP.n6;have bt:eW P<=729:=hP.mO;have bu:=hP.kT;have hl:=G.ru S;have D:=(G.iV S).1;have ah:∀z∈fD P H,dL P.orders z:=λz hz=>S.vec z ((G.iV S).2.1 z hz);have T:=G.Te S;obtain⟨U,hU⟩:∃U,U=fD P H:=⟨_,rfl⟩;rw[<-hU] at hl D ah T hu;have a':=ry hP D U.length (Nat.le_refl _);have ai:=D1 P U
 have A:Valid (kI (gV P U)):=by
  refine JV (by omega) (λi hi => ?_) ?_
  ·rw [xw P U i (by omega)]
   exact hP.ord _ (D.1 _ (fT (by omega))).2.1
  ·rw[ai,D2 P U U.length (Nat.le_refl _)];exact a'.2
 obtain⟨vo,vp,vc,rfl,h3⟩:=a8;have aD:=fB.box h3 28;have aE:Ext w (w.alloc (.cells #[vo,vp,vc] 28)):=World.grownBy_alloc _ _ _;have aj:=dK.ext hu aE;have F:(w.alloc (.cells #[vo,vp,vc] 28)).heap.size=w.heap.size+1:=by simp
 obtain⟨au,jA,rfl,_,_⟩:=Sl.shape hu;obtain⟨aF,fN,fM,_,_,V,I,J,fP⟩:=aD.at;simp only[Nat.zero_add] at I J;have W:∀w',Ext (w.alloc (.cells #[vo,vp,vc] 28)) w'->w'.cell? ⟨w.heap.size,0,none⟩=some aF/\w'.cell? ⟨w.heap.size,1,none⟩=some fN/\w'.cell? ⟨w.heap.size,2,none⟩=some fM:=λw' h=>⟨h.cell V (by simp),h.cell I (by simp),h.cell J (by simp)⟩;have HB:=Lib.hid W;clear W;have hE:=AW P hP (w.alloc (.cells #[vo,vp,vc] 28)) _ _ U Any Su ⟨_,_,_,rfl,fP⟩ aj D (by omega);have K:=Lib.hid (And.intro D (And.intro ah (And.intro A (And.intro hU ai))));clear D ah A hU ai aD hu;go_enter Tryz.func252,Tryz.ntmps252;go_wp2_with fail
 have HS:=Lib.hid F;clear F V I J;generalize bb:w.alloc (.cells #[vo,vp,vc] 28)=w0 at *;clear bb;refine Calls.mono hE ?_;rintro e1 w1 ⟨v1,rfl,hg1,rfl⟩;clear hE;obtain⟨q,hb1,hb2⟩:=HB.out w1 hg1;go_wp2_with fail
 clear q hb1 hb2;refine Calls.mono (rX w1 _ P Any hP ⟨_,_,_,rfl,fA.ext fP hg1⟩) ?_;rintro e2 p ⟨v2,rfl,hg2,rfl⟩;have B:=dy hg1 hg2;obtain⟨q,hb1,hb2⟩:=HB.out p B;have bB:=hg1.size;have bC:=hg2.size;go_wp2_with (first|(at_make;refine JQ rfl _ _ rfl p.heap.size (eW P).toNat p.heap.size rfl (eW P) rfl rfl (by omega) (by omega) (Nat.le_refl _) ?_;intro w3 aH ak bD;have aI:=HB.out w3 (dy B ak);obtain⟨V,I,J⟩:=aI)|fail)
 clear q hb1 hb2 V I J;have L:=dy B ak;refine Calls.mono (Tb P hP w3 _ _ U Any Su ⟨_,_,_,rfl,fA.ext fP L⟩ (dK.ext aj L) K.out.1 (by omega)) ?_;rintro e4 r ⟨ov,rfl,X,Y⟩;have aJ:=Y.ints (by rw[K.out.2.2.2.2];omega);obtain⟨l,a,nN,_,_⟩:=aJ.shape;subst nN;have bG:=dy L X;have bO:w.heap.size<p.heap.size:=by have:=HS.out;omega
 have bP:w3.heap.size<=r.heap.size:=X.size;have bQ:p.heap.size≠r.heap.size:=by omega
 have al:Ext r (r.alloc (.cells #[.slice l (gV P U).length a,.slice none 0 0,.slice none 0 0] 28)):=World.grownBy_alloc _ _ _
 have am:∀k,k<3->(r.alloc (.cells #[.slice l (gV P U).length a,.slice none 0 0,.slice none 0 0] 28)).cell? ⟨r.heap.size,k,none⟩=some (gt [Value.slice l (gV P U).length a,.slice none 0 0,.slice none 0 0] k):=λk hk=>by
  rw[World.cell?_alloc_at _ _ _ _ rfl];rcases(show k=0\/k=1\/k=2 by omega) with rfl|rfl|rfl<;>rfl
 have bc:Ints (λk=>w3.heap.size<=k) (r.alloc (.cells #[.slice l (gV P U).length a,.slice none 0 0,.slice none 0 0] 28)) (.slice l (gV P U).length a) (gV P U):=(iD Y (by rw[K.out.2.2.2.2];omega) (λk hk=>(Y.lt k hk).1)).ext al;have an:=(aH.gw X).gw al;have aK:=dy ak (dy X al);have ac:(r.alloc (.cells #[.slice l (gV P U).length a,.slice none 0 0,.slice none 0 0] 28)).heap.size=r.heap.size+1:=by simp
 have bR:=Lib.hid ac;clear ac;go_wp2_with fail
 generalize bd:r.alloc (.cells #[.slice l (gV P U).length a,.slice none 0 0,.slice none 0 0] 28)=w5 at *;clear bd Y aJ aH;obtain⟨N,hN⟩:∃N,N=(eW P).toNat:=⟨_,rfl⟩;obtain⟨f,hf⟩:∃f:Nat->Nat,f=λk=>(num P (qx P U k)).toNat:=⟨_,rfl⟩;rw[<-hf,<-hN] at T;have HN:=Lib.hid (And.intro hf (And.intro T hN));clear hf T;rw[<-hN] at an ⊢;have aL:(N:Int)=eW P:=by omega
 clear hN;have Z:=Lib.hid aL;clear aL;have aM:l9 p.heap.size w5 (.slice (some ⟨p.heap.size,0,none⟩) N N) (oT N f 0):=an;clear an;go_loopw [8] (λkv wr=>∃k:Nat,kv=.int .i64 k/\(k:Int)<=fJ P U U.length/\w5.grownBy wr (some p.heap.size)/\l9 p.heap.size wr (.slice (some ⟨p.heap.size,0,none⟩) N N) (oT N f k)) (λkv _=>(fJ P U U.length).toNat-(intOf kv).toNat)
 case atStart=>exact⟨0,rfl,by omega,gZ _ _,aM⟩
 case round=>
  clear aM;obtain⟨k,rfl,hk,u,hM⟩:=hrel;have aN:Ext p wr:=fu aK u (λj hj bg=>by cases hj;omega);have b:=dy B aN;by_cases bg:(k:Int)<fJ P U U.length
  ·have bS:(k:Int)<=729:=by omega
   have bT:w5.heap.size<=wr.heap.size:=u.size;have bh:=HB.out wr b;obtain⟨q,hb1,hb2⟩:=bh;have F:wr.cell? ⟨r.heap.size,0,none⟩=some (.slice l (gV P U).length a):=u.cell (am 0 (by omega)) (by simp;omega);have aO:wr.cell? ⟨r.heap.size,1,none⟩=some (.slice none 0 0):=u.cell (am 1 (by omega)) (by simp;omega);have ad:wr.cell? ⟨r.heap.size,2,none⟩=some (.slice none 0 0):=u.cell (am 2 (by omega)) (by simp;omega);have bi:Ints Any wr (.slice l (gV P U).length a) (gV P U):=Ints.mono bc (iQ u (λj hj _=>⟨trivial,λe=>by cases e;omega⟩));have ao:=rz K.out.2.2.1 (k:Int) (by omega);have M:(fF (kI (gV P U)) (k:Int)).length=U.length:=ao.1.trans K.out.2.2.2.2
   have aP:∀i,i<U.length->0<=gt (fF (kI (gV P U)) (k:Int)) i/\gt (fF (kI (gV P U)) (k:Int)) i<=1000:=λi hi=>by
    have h1:0<=gt (fF (kI (gV P U)) (k:Int)) i/\gt (fF (kI (gV P U)) (k:Int)) i<gt (gV P U) i:=ao.2 i (by show i<(gV P U).length;rw[K.out.2.2.2.2];exact hi);have h2:2<=gt (gV P U) i/\gt (gV P U) i<=7:=K.out.2.2.1.gh i (by show i<(gV P U).length;rw[K.out.2.2.2.2];exact hi);omega
   have aa:dL P.orders (qx P U k):=G.D3 K.out.2.1 _ _ (Nat.le_refl _);have aQ:(qx P U k).length<=6:=by rw[aa.1];omega
   have bj:=oB hP aa;have aR:lT P U (fF (kI (gV P U)) (k:Int)) U.length=qx P U k:=rfl;have ap:f k=(num P (qx P U k)).toNat:=by rw[HN.out.1]
   have aS:=Z.out;obtain⟨n0,n1⟩:=bj;obtain⟨m,hm⟩:∃m,m=num P (qx P U k):=⟨_,rfl⟩;rw[<-hm] at n0 n1 ap;have bW:m<N:=by omega
   have ae:oT N f (k+1)=(oT N f k).set m.toNat true:=by rw[<-ap];rfl
   have HV:=Lib.hid (And.intro M (And.intro aP (And.intro aa (And.intro aQ (And.intro aR (And.intro hm ae))))));clear M aP aa aQ aR hm ae ao ap aS;have ag:=hM.cell m.toNat (by rw[D4];omega);have bl:=hM.frozen m.toNat;have e1:∀w',fI wr p.heap.size w'->w'.cell? ⟨w.heap.size,0,none⟩=some aF:=λw' h=>h.cell q (by simp;omega);have e2:∀w',fI wr p.heap.size w'->w'.cell? ⟨w.heap.size,1,none⟩=some fN:=λw' h=>h.cell hb1 (by simp;omega);have e3:∀w',fI wr p.heap.size w'->w'.cell? ⟨w.heap.size,2,none⟩=some fM:=λw' h=>h.cell hb2 (by simp;omega);have e4:∀w',fI wr p.heap.size w'->w'.cell? ⟨r.heap.size,0,none⟩=some (.slice l (gV P U).length a):=λw' h=>h.cell F (by simp;omega);have e5:∀w',fI wr p.heap.size w'->w'.cell? ⟨r.heap.size,1,none⟩=some (.slice none 0 0):=λw' h=>h.cell aO (by simp;omega);have e6:∀w',fI wr p.heap.size w'->w'.cell? ⟨r.heap.size,2,none⟩=some (.slice none 0 0):=λw' h=>h.cell ad (by simp;omega);clear q hb1 hb2 F aO ad;have aT:=fA.ext fP b;have bm:=dK.ext aj b;go_wp2
   go_region_held3 (λw'=>fI wr p.heap.size w') (first|exact fI.of (fk _ _)|exact fI.of (by assumption)|exact fI.store (by assumption)|assumption)
    (first
     | (go_at_call 170;refine Calls.mono (Calls.rel (w0:=wr) (by first|exact fk _ _|assumption) (Ta (gV P U) K.out.2.2.1 _ _ _ _ (k:Int) Any (Ints.ext bi (by first|exact fk _ _|assumption)) (by omega) (by omega))) ?_;rintro eE wE ⟨vE,rfl,tW,mM,Th⟩;have bn:=Th.ints (by rw[HV.out.1];omega))
     | (go_at_call 287;refine Calls.mono (Calls.rel (w0:=wr) (by assumption) (Tc P G _ _ _ _ U _ Any Any Any ⟨_,_,_,rfl,fA.ext aT (by assumption)⟩ (dK.sub (dK.ext bm (by assumption)) (λ_ _ _=>trivial)) bn K.out.2.1 (by rw[HV.out.1];exact Nat.le_refl _) HV.out.2.1)) ?_;rintro eF wF ⟨vF,rfl,qm,pK,aU⟩;rw[HV.out.2.2.2.2.1] at aU;have bo:=aU.ints (by have:=HV.out.2.2.2.1;omega))
     | (go_at_call 168;refine Calls.mono (Calls.rel (w0:=wr) (by assumption) (DI P hP _ _ _ _ Any Any ⟨_,_,_,rfl,fA.ext aT (by assumption)⟩ bo HV.out.2.2.1)) ?_;rintro eG wG ⟨vG,rfl,ab,A9,aV⟩;rw[<-HV.out.2.2.2.2.2.1] at aV;subst aV;have aq:=ab.cell ag (by simp);have aW:=(hM.gw ab).frozen m.toNat))
   clear e1 e2 e3 e4 e5 e6;obtain⟨aX,aY⟩:=(hM.gw ab).store m.toNat true;have bp:w5.grownBy (wG.setCell ⟨p.heap.size,m.toNat,none⟩ (.bool true)) (some p.heap.size):=dy (dy u (fH _ ab)) aY;rw[<-HV.out.2.2.2.2.2.2] at aX;clear ag aq bl aW aY;go_wp2;go_roundw
   case rel=>exact⟨k+1,by go_num,by omega,bp,aX⟩
   case measure=>simp[intOf];omega
  ·have ar:k=(fJ P U U.length).toNat:=by omega
   obtain⟨wo,rfl⟩:∃wo:World,wo=wr:=⟨_,rfl⟩;rw[ar] at hM;have HK:=Lib.hid ar;clear ar;go_wp2;go_loopw [9,10] (λov tv wr=>∃(t:Nat) (v4:Value),v4=ov/\tv=.int .i64 t/\t<=N/\Ext wo wr/\iL wo.heap.size wr v4 (pT P H t)) (λ_ tv _=>N-(intOf tv).toNat)
   case atStart=>exact⟨0,_,rfl,rfl,by omega,World.grownBy_alloc _ _ _,[],λ_ _=>False,by simp[pT],World.ownsRow_lit wo #[] 0 (Nat.le_refl _) (by decide) rfl,by simp,by simp,by simp[pT]⟩
   case round=>
    obtain⟨t,v4,rfl,rfl,ht,y,hO⟩:=hrel;by_cases aZ:t<N
    ·have bI:(t:Int)<N:=by omega
     have av:=y.cell (hM.cell t (by rw[D4];exact aZ)) (by simp);have C:=HN.out.2.1 t aZ;have E:=Tf P H t;have O:=D5 P H t;have W:=HB.out wr (dy b y);obtain⟨q,hb1,hb2⟩:=W;cases hq:gt (oT N f (fJ P U U.length).toNat) t with
     | true=>
      rw[hq] at av;rw[if_pos (C.1 hq)] at E;have a0:=Z.out;have a1:=rz hP (t:Int) (by omega);have M:(fF P (t:Int)).length=P.orders.length:=a1.1;have Q:=Lib.hid (And.intro E (And.intro M a0));clear E M C hq a1 a0;have R:N<=729:=by have:=Q.out.2.2;omega
      go_wp2_with fail
      clear q hb1 hb2 av;refine Calls.mono (Bj P hP wr _ (t:Int) Any ⟨_,_,_,rfl,fA.ext fP (dy b y)⟩ (by omega) (by omega)) ?_;rintro eA wA ⟨vA,rfl,gK,mj⟩;have a2:gf (From wr.heap.size) wA vA (fF P (t:Int)):=gf.of mj (by rw[Q.out.2.1];omega) (λj h1 _=>h1);obtain⟨ay,nM,oF,_,_⟩:=a2.ints.shape;subst oF;go_wp2_with (first|(at_builtin;refine rA rfl _ _ rfl wo.heap.size wr wA v4 _ (pT P H t) (fF P (t:Int)) rfl hO gK a2 rfl rfl (by omega) y.size ?_;intro v5 w6 bq br b3;have a3:=hO.vn y (Nat.le_refl _) br)|fail)
      go_roundw
      case rel=>exact⟨t+1,v5,rfl,by go_num,by omega,a3,by rw[Q.out.1];exact bq⟩
      case measure=>simp[intOf];omega
     | false=>
      rw[hq] at av;rw[if_neg (λh=>by have:=C.2 h;rw[hq] at this;cases this),List.append_nil] at E;have Q:=Lib.hid E;clear E C hq;have R:N<=729:=by have:=Z.out;omega
      go_wp2;go_roundw
      case rel=>exact⟨t+1,v4,rfl,by go_num,by omega,y,by rw[Q.out];exact hO⟩
      case measure=>simp[intOf];omega
    ·have aw:t=N:=by omega
     have ax:pT P H t=jQ P H:=by rw[aw,HN.out.2.2];exact JW P H
     have O:=D5 P H t;rw[ax] at hO O;have R:N<=729:=by have:=Z.out;omega
     obtain⟨az,rC,lJ,_,_⟩:=jm.shape (hO.iB (by omega));subst lJ;have HX:=Lib.hid (And.intro aw ax);clear aw ax;go_wp2;go_ret;exact⟨_,rfl,dy aE (dy b y),hO.weak (by have:=b.size;have:=HS.out;omega)⟩
theorem Ep (P:Pr) (G:ez P) (w:World) (pv:Value) (Sp:Nat->Prop) (aL:gy Sp w pv P) :
  Calls Tryz.prog 151 #[pv] w (fq w λw' v=>dK (From w.heap.size) w' v (gD P)):=by
 have hP:=G.v;have Y:=hP.n6;have ah:eW P<=729:=hP.mO;have ai:=hP.kT;obtain⟨vo,vp,vc,rfl,h3⟩:=aL;have aj:=fB.box h3 28;have aM:Ext w (w.alloc (.cells #[vo,vp,vc] 28)):=World.grownBy_alloc _ _ _;obtain⟨ak,fN,fM,_,_,B,p,r,fP⟩:=aj.at;simp only[Nat.zero_add] at p r;have al:∀w',Ext (w.alloc (.cells #[vo,vp,vc] 28)) w'->w'.cell? ⟨w.heap.size,0,none⟩=some ak/\w'.cell? ⟨w.heap.size,1,none⟩=some fN/\w'.cell? ⟨w.heap.size,2,none⟩=some fM:=λw' h=>⟨h.cell B (by simp),h.cell p (by simp),h.cell r (by simp)⟩;have am:(w.alloc (.cells #[vo,vp,vc] 28)).heap.size=w.heap.size+1:=by simp
 have Z:=Lib.hid (And.intro al am);clear al am aj;obtain⟨N,hN⟩:∃N,N=(eW P).toNat:=⟨_,rfl⟩;have an:eW P=(N:Int):=by omega
 have a2:N<=729:=by omega
 have ao:∀i,i<N->dL P.orders (fF P i):=λi hi=>G.kD (by omega);have H:=Lib.hid (And.intro hN (And.intro an ao));clear hN an ao ah ai;go_enter Tryz.func151,Tryz.ntmps151;go_wp2;clear B p r;generalize aN:w.alloc (.cells #[vo,vp,vc] 28)=w0 at *;clear aN;go_loopw [3,4] (λov iv wr=>∃(i:Nat) (v4:Value),v4=ov/\iv=.int .i64 i/\i<=N/\Ext w0 wr/\gN (λF w u (x:List Int)=>Ints F w u x) 24 w0.heap.size wr v4 ((gD P).take i)) (λ_ iv _=>N-(intOf iv).toNat)
 case atStart=>exact⟨0,_,rfl,rfl,by omega,World.grownBy_alloc _ _ _,by rw[<-Z.out.2];exact⟨[],λ_ _=>False,rfl,World.ownsRow_lit w0 #[] 0 (Nat.le_refl _) (by decide) rfl,by simp,by simp,by simp⟩⟩
 case round=>
  obtain⟨i,v4,rfl,rfl,hi,hg,hO⟩:=hrel;obtain⟨B,p,r⟩:=Z.out.1 wr hg;have A:=rX wr _ P Any hP ⟨_,_,_,rfl,fA.ext fP hg⟩;rw[H.out.2.1] at A;go_wp2_with fail
  clear B p r;refine Calls.mono A ?_;rintro eo l ⟨a5,rfl,hgo,rfl⟩;clear A;have a:=dy hg hgo;have C:=gN.ext vW hO hgo;clear hO;by_cases D:i<N
  ·have aX:(i:Int)<N:=by omega
   have aa:=H.out.2.2 i D;go_wp2;have aP:Ext l (l.alloc (.cells #[] 2)):=World.grownBy_alloc _ _ _;go_loopw [5,6] (λrv jv wr=>∃(j:Nat) (v7:Value),v7=rv/\jv=.int .i64 j/\j<=N/\Ext l wr/\Own l.heap.size wr v7 ((gt (gD P) i).take j)) (λ_ jv _=>N-(intOf jv).toNat)
   case atStart=>exact⟨0,_,rfl,rfl,by omega,aP,World.ownsRow_lit l #[] 0 (Nat.le_refl _) (by decide) rfl⟩
   case round=>
    obtain⟨j,v7,rfl,rfl,hj,sO,hR⟩:=hrel;have I:=dy a sO;have aq:(gt (gD P) i).length=N:=by rw[sr (by rw[<-H.out.1];exact D),<-H.out.1];simp
    obtain⟨B,p,r⟩:=Z.out.1 wr I;have A:=rX wr _ P Any hP ⟨_,_,_,rfl,fA.ext fP I⟩;rw[H.out.2.1] at A;go_wp2_with fail
    clear B p r;refine Calls.mono A ?_;rintro ep wp ⟨a8,rfl,pJ,rfl⟩;clear A;have U:=dy sO pJ;have aZ:=dy I pJ;have J:=hR.gw pJ;clear hR;by_cases V:j<N
    ·have aR:(j:Int)<N:=by omega
     have K:=H.out.2.2 j V;have L:=G.gz aa K;obtain⟨q,hq⟩:∃q,q=num P (fC P (fF P i) (fF P j)):=⟨_,rfl⟩
     have e:(gt (gD P) i).take (j+1)=(gt (gD P) i).take j++[q]:=by
      rw[je _ j (by omega),tD (by rw[<-H.out.1];exact D) (by rw[<-H.out.1];exact V),hq];congr 2
      unfold tb;have:=oB hP L;omega
     have m:((gt (gD P) i).take j).length<=1000000:=by rw[List.length_take];omega
     have ab:(fF P (i:Int)).length<=6:=by rw[aa.1];exact Y
     have ac:(fF P (j:Int)).length<=6:=by rw[K.1];exact Y
     have ad:(fC P (fF P i) (fF P j)).length<=6:=by rw[L.1];exact Y
     obtain⟨x,hx⟩:∃x,x=fF P (i:Int):=⟨_,rfl⟩;obtain⟨y,hy⟩:∃y,y=fF P (j:Int):=⟨_,rfl⟩;obtain⟨z,hz⟩:∃z,z=fC P (fF P i) (fF P j):=⟨_,rfl⟩;rw[<-hz] at L hq ad;rw[<-hx,<-hy] at hz;have M:=aa;rw[<-hx] at M ab;rw[<-hy] at K ac;have E:=Lib.hid (And.intro (And.intro M (And.intro K L)) (And.intro (And.intro ab (And.intro ac ad)) (And.intro hq (And.intro e (And.intro m (And.intro hx (And.intro hy hz)))))));clear M K L ab ac ad hq e m hx hy hz aq;have e1:∀w',Ext l w'->w'.cell? ⟨w.heap.size,0,none⟩=some ak:=λw' h=>(Z.out.1 w' (dy a h)).1;have e2:∀w',Ext l w'->w'.cell? ⟨w.heap.size,1,none⟩=some fN:=λw' h=>(Z.out.1 w' (dy a h)).2.1;have e3:∀w',Ext l w'->w'.cell? ⟨w.heap.size,2,none⟩=some fM:=λw' h=>(Z.out.1 w' (dy a h)).2.2;have S:=fA.ext fP a;go_wp2
     go_region_held3 (λw'=>Ext l w') (first|exact dy U (fk _ _)|assumption|exact dy ae (World.grownBy_alloc _ _ _))
      (first
       | (revert ar;intro ar;go_at_call 169;refine Calls.mono (Calls.jF (w0:=l) (by assumption) (qN P hP _ _ _ _ x y Any Any Any ⟨_,_,_,rfl,fA.ext S (by assumption)⟩ (Ints.ext au W) av E.out.1.1 E.out.1.2.1)) ?_;rintro eC wC ⟨vC,rfl,p6,aw,xY,ax⟩;rw[<-E.out.2.2.2.2.2.2.2] at ax;have ay:Ints Any wC vC z:=iD ax (by have:=E.out.2.1.2.2;omega) (λ_ _=>trivial);obtain⟨aC,Ap,p8,_,_⟩:=ay.shape;subst p8)
       | (go_at_call 168;refine Calls.mono (Calls.jF (w0:=l) (by assumption) (DI P hP _ _ _ z Any Any ⟨_,_,_,rfl,fA.ext S (by assumption)⟩ ay E.out.1.2.2)) ?_;rintro eD wD ⟨vD,rfl,ae,az,CT,aD⟩;rw[<-E.out.2.2.1] at aD;subst aD)
       | (revert aE;intro aE;go_at_call 170;refine Calls.mono (Calls.jF (w0:=l) (by assumption) (Bj P hP _ _ (j:Int) Any ⟨_,_,_,rfl,fA.ext S (by assumption)⟩ (by omega) (by omega))) ?_;rintro eB wB ⟨vB,rfl,ar,W,jV,aF⟩;rw[<-E.out.2.2.2.2.2.2.1] at aF;have av:Ints Any wB vB y:=iD aF (by have:=E.out.2.1.2.1;omega) (λ_ _=>trivial);obtain⟨aB,VH,tP,_,_⟩:=av.shape;subst tP)
       | (go_at_call 170;refine Calls.mono (Calls.jF (w0:=l) (by assumption) (Bj P hP _ _ (i:Int) Any ⟨_,_,_,rfl,fA.ext S (by assumption)⟩ (by omega) (by omega))) ?_;rintro eA wA ⟨vA,rfl,aE,aG,iZ,aH⟩;rw[<-E.out.2.2.2.2.2.1] at aH;have au:Ints Any wA vA x:=iD aH (by have:=E.out.2.1.1;omega) (λ_ _=>trivial);obtain⟨aA,SV,yl,_,_⟩:=au.shape;subst yl)
       | (refine uJ rfl _ _ rfl l.heap.size _ ((gt (gD P) i).take j) q rfl wD (J.gw (dy (dy (dy (dy (fk _ _) aG) W) aw) az)) rfl rfl E.out.2.2.2.2.1 ae.size ?_;intro v5 w5 O T;have Q:Ext l w5:=fu ae T (λj hj D=>by have:=(J.lt j hj).1;omega)))
     clear e1 e2 e3;rw[<-E.out.2.2.2.1] at O;go_wp2;go_roundw
     case rel=>exact⟨j+1,v5,rfl,by go_num,by omega,Q,O⟩
     case measure=>simp[intOf];omega
    ·have aU:j=N:=by omega
     subst aU;have af:Own l.heap.size wp v7 (gt (gD P) i):=by rw[List.take_of_length_le (by omega)] at J;exact J
     have R:Ints (From l.heap.size) wp v7 (gt (gD P) i):=iD af (by omega) (λk hk=>(af.lt k hk).1);obtain⟨a7,c7,rD,_,_⟩:=R.shape;subst rD;have e:(gD P).take (i+1)=(gD P).take i++[gt (gD P) i]:=je _ i (by rw[oV,<-H.out.1];exact D);have m:((gD P).take i).length<=1000000:=by rw[List.length_take];omega
     have HZ:=Lib.hid (And.intro e m);clear e m aq J;go_wp2_with (first|(at_builtin;refine Dl vW 25 24 (.slice none 0 0) 24 qg Tryz.qh rfl (by decide) rfl _ _ rfl w0.heap.size l wp v4 _ ((gD P).take i) (gt (gD P) i) rfl C U R rfl rfl HZ.out.2 a.size ?_;intro v5 w5 O T aI)|fail)
     have Q:Ext w0 w5:=fu a T (λb hb D=>by have:=(C.lt b hb).1;omega);rw[<-HZ.out.1] at O;clear C R T aI af;go_roundw
     case rel=>exact⟨i+1,v5,rfl,by go_num,by omega,Q,O⟩
     case measure=>simp[intOf];omega
  ·have aV:i=N:=by omega
   subst aV
   have X:gN (λF w u (x:List Int)=>Ints F w u x) 24 w.heap.size l v4 (gD P):=by
    rw[List.take_of_length_le (by rw[oV,<-H.out.1];exact Nat.le_refl _)] at C;exact C.weak (by have:=Z.out.2;omega)
   have ag:dK (From w.heap.size) l v4 (gD P):=JO X (by rw[oV,<-H.out.1];omega);clear C X;go_wp2;go_ret;exact⟨_,rfl,dy aM a,ag⟩
def fL (q:List Nat):List Int:=q.map (λt:Nat=>(t:Int))
theorem iE (q:List Nat):(fL q).length=q.length:=by unfold fL;rw[List.length_map]
theorem r7 {q:List Nat}{k:Nat}(h:k<q.length):gt (fL q) k=((gt q k:Nat):Int):=by unfold fL;exact jM _ _ _ h
theorem tu (q:List Nat) (y:Nat):fL (q++[y])=fL q++[(y:Int)]:=by unfold fL;rw[List.map_append];rfl
theorem zL (m t:Nat):((m:Int)/2 ^ t).tmod 2=if m.testBit t then 1 else 0:=by
 have e:((m:Int)/2 ^ t)=((m/2 ^ t:Nat):Int):=by rw[Int.natCast_ediv,Int.natCast_pow];rfl
 rw[e,Nat.testBit_eq_decide_div_mod_eq,Int.tmod_eq_emod_of_nonneg (Int.natCast_nonneg _)];by_cases h:m/2 ^ t%2=1
 ·simp[h];omega
 ·have:m/2 ^ t%2=0:=by omega
  simp[this];omega
theorem B7 (t:Nat) (a:t<32):IntKind.i64.wrap (2 ^ t)=((2 ^ t:Nat):Int):=by
 have h1:(2:Nat) ^ t<2 ^ 32:=Nat.pow_lt_pow_right (by decide) a;have e:((2:Int) ^ t)=((2 ^ t:Nat):Int):=by rw[Int.natCast_pow];rfl
 rw[e];obtain⟨q,b⟩:∃q,q=2 ^ t:=⟨_,rfl⟩;rw[<-b] at h1 ⊢;exact IntWalk.i64_in _ ⟨by omega,by omega⟩
theorem KC (P:Pr) (G:ez P) (w:World) (tv gv:Value) (gs:List Nat) (S Sg:Nat->Prop) (aQ:eW P<=32) (ht:dK S w tv (gD P)) (Z:Ints Sg w gv (fL gs)) (hg:∀g∈gs,g<(eW P).toNat) (aR:gs.length<=100000) :
  Calls Tryz.prog 206 #[tv,gv] w (fq w λ_ v=>v=.int .i64 ((gB P (mG P gs):Nat):Int)):=by
 obtain⟨mR,an,rfl,_,_⟩:=Sl.shape ht;obtain⟨ag,ao,rfl,_,_⟩:=Z.shape;have ap:=G.v.kT;obtain⟨N,hN⟩:∃N,N=(eW P).toNat:=⟨_,rfl⟩;have ar:N<=32:=by omega
 have E:(gD P).length=N:=by rw[oV,hN]
 have F:=iE gs;have aA:Ints Sg w (.slice ag gs.length ao) (fL gs):=by rw[<-F];exact Z
 have aB:dK S w (.slice mR N an) (gD P):=by rw[<-E];exact ht
 rw[E,F];have hB:=Lib.hid (And.intro hN (And.intro E (And.intro hg F)));clear hN E hg F Z ht ap;go_enter Tryz.func206,Tryz.ntmps206;go_wp2;go_loopw [5,6,7] (λmv qv kv wr=>∃(q:List Nat) (k m:Nat) (v6:Value),mv=.int .i64 (m:Int)/\v6=qv/\kv=.int .i64 k/\k<=q.length/\Ext w wr/\Own w.heap.size wr v6 (fL q)/\Hid (nU P gs q k 0)/\Hid (Bits m q)) (λ_ _ kv _=>33-(intOf kv).toNat)
 case atStart=>exact⟨[0],0,1,_,rfl,rfl,rfl,by simp,World.grownBy_alloc _ _ _,World.ownsRow_lit w #[.int .i64 0] 1 (Nat.le_refl _) (by decide) rfl,Lib.hid (G.R2 gs),Lib.hid (λt=>by
  rw[show(1:Nat)=2 ^ 0 by rfl,qU,decide_eq_true_iff];simp;omega)⟩
 case round=>
  obtain⟨q,k,m,v6,rfl,rfl,rfl,hk,u,hO,B,H⟩:=hrel;have O:=B.out.len;rw[<-hB.out.1] at O;have I:=iE q;have C:=hO.ints (by omega);obtain⟨aq,J,K,_,_⟩:=C.shape;rw[I] at K;subst K;by_cases A:k<q.length
  ·have U:(k:Int)<q.length:=by omega
   have aa:=Lib.hid (And.intro B H);go_wp2;go_loopw [5,6,8] (λmv qv iv wr=>∃(q:List Nat) (i m:Nat) (v6:Value),mv=.int .i64 (m:Int)/\v6=qv/\iv=.int .i64 i/\i<=gs.length/\k<q.length/\Ext w wr/\Own w.heap.size wr v6 (fL q)/\Hid (nU P gs q k i)/\Hid (Bits m q)) (λ_ _ iv _=>gs.length-(intOf iv).toNat)
   case atStart=>exact⟨q,0,m,_,rfl,rfl,rfl,by omega,A,u,hO,aa.out.1,aa.out.2⟩
   case round=>
    clear hO B H aa A U hk u O I C;obtain⟨q,i,m,v6,rfl,rfl,rfl,hi,A,u,hO,B,H⟩:=hrel;have O:=B.out.len;rw[<-hB.out.1] at O;have I:=iE q;have C:=hO.ints (by omega);obtain⟨aq,J,K,_,_⟩:=C.shape;rw[I] at K;subst K;have U:(k:Int)<q.length:=by omega
    by_cases Q:i<gs.length
    ·have aL:(i:Int)<gs.length:=by omega
     obtain⟨bq,oq,AQ,_,_,ab⟩:=Ints.at (show Sl rO _ wr (.slice aq q.length J) (fL q) by rw[<-I] at C ⊢;exact C) k (by omega);subst AQ;rw[r7 A] at ab;obtain⟨bg,og,hbg,_,_,ac⟩:=Ints.at (Ints.ext aA u) i (by rw[iE];exact Q);subst hbg;rw[r7 Q] at ac;have ha:=(B.out.rM _ (fT A)).1;have hb:=hB.out.2.2.1 _ (fT Q);obtain⟨bt,ot,a2,jx,xN,_,_,ad,hrt⟩:=dK.at (dK.ext aB u) (gt q k) (by rw[hB.out.2.1,hB.out.1];exact ha);subst xN;have ae:(gt (gD P) (gt q k)).length=N:=by rw[sr ha,hB.out.1];simp
     obtain⟨br,or',hbr,_,_,L⟩:=Ints.at hrt (gt gs i) (by rw[ae,hB.out.1];exact hb);subst hbr;rw[ae] at ad;rw[tD ha hb] at L;have M:=(G.nI ha hb).1;obtain⟨a,af⟩:∃a,a=gt q k:=⟨_,rfl⟩;obtain⟨b,ah⟩:∃b,b=gt gs i:=⟨_,rfl⟩;rw[<-af] at ab ad L ha M;rw[<-ah] at ac L hb M;obtain⟨y,hy⟩:∃y,y=tb P a b:=⟨_,rfl⟩;rw[<-hy] at L M;have aU:a<N:=by rw[hB.out.1];exact ha
     have aV:b<N:=by rw[hB.out.1];exact hb
     have aW:y<N:=by rw[hB.out.1];exact M
     have aM:(a:Int)<N:=by omega
     have aN:(b:Int)<N:=by omega
     have R:=Lib.hid (And.intro af (And.intro ah hy));clear af ah hy ha hb M ae;go_wp2;go_quiet (fail)
     rename_i nq _;clear ab ac ad L C hrt;have ai:Ext w (wr.drewN nq):=dy u (iI _ _ _);have aj:Own w.heap.size (wr.drewN nq) (.slice (some ⟨bq,oq,none⟩) q.length J) (fL q):=hO;generalize wr.drewN nq=wq at *;clear hO u
     have aO:m<4294967296:=by
      have h1:m<2 ^ N:=Nat.lt_pow_two_of_testBit _ (λt ht=>by
       rw[Bool.eq_false_iff];intro e;have:=(B.out.rM t ((H.out t).1 e)).1;rw[<-hB.out.1] at this;omega)
      exact Nat.lt_of_lt_of_le h1 (Nat.pow_le_pow_right (n:=2) (by decide) ar)
     have l:=zL m y;cases r:m.testBit y with
     | true=>
      rw[r] at l;have l:((m:Int)/2 ^ y).tmod 2=1:=l;have D:=Lib.hid (B.out.skip (by rw[<-R.out.1,<-R.out.2.1,<-R.out.2.2];exact(H.out y).1 r));clear B r;go_wp2;clear l;go_roundw
      case rel=>exact⟨q,i+1,m,_,rfl,rfl,by go_num,by omega,A,ai,aj,D,H⟩
      case measure=>simp[intOf];omega
     | false=>
      rw[r] at l;have l:((m:Int)/2 ^ y).tmod 2=0:=l;have ak:¬y∈q:=λh=>by rw[(H.out y).2 h] at r;cases r
      have D:=G.R3 B.out hB.out.2.2.1 A Q (by rw[<-R.out.1,<-R.out.2.1,<-R.out.2.2];exact ak);rw[<-R.out.1,<-R.out.2.1,<-R.out.2.2] at D;have al:=H.out.app ak;have V:=B7 y (by omega);have W:(2:Nat) ^ y<2 ^ 32:=Nat.pow_lt_pow_right (by decide) (by omega);obtain⟨p,hp⟩:∃p,p=2 ^ y:=⟨_,rfl⟩;rw[<-hp] at V al W
      have au:IntKind.i64.wrap ((m:Int)+(p:Int))=((m+p:Nat):Int):=by
       rw[IntWalk.i64_in _ ⟨by omega,by omega⟩];omega
      have av:(fL q).length<=1000000:=by omega
      have X:=tu q y;have T:=Lib.hid (And.intro D (And.intro al (And.intro av X)));clear B r ak D al hp W H av X;go_wp2_with (first|(at_builtin;refine qB rfl _ _ rfl w.heap.size _ (fL q) (y:Int) rfl wq aj rfl rfl T.out.2.2.1 ai.size ?_;intro v5 w5 aE aF;have aw:=fu ai aF (λj hj A=>by have:=(aj.lt j hj).1;omega))|fail)
      clear l V au;go_roundw
      case rel=>exact⟨q++[y],i+1,m+p,_,rfl,rfl,by go_num,by omega,by simp;omega,aw,by rw[T.out.2.2.2];exact aE,Lib.hid T.out.1,Lib.hid T.out.2.1⟩
      case measure=>simp[intOf];omega
    ·have aG:i=gs.length:=by omega
     subst aG;have D:=Lib.hid B.out.next;clear B;go_wp2;go_roundw
     case rel=>exact⟨q,k+1,m,_,rfl,rfl,by go_num,by omega,u,hO,D,H⟩
     case measure=>simp[intOf];omega
  ·have ax:k=q.length:=by omega
   have Y:=G.R5 hB.out.2.2.1 (by rw[<-ax];exact B.out) H.out;have aZ:¬(k:Int)<q.length:=by omega
   have HE:=Lib.hid Y;clear Y B H ax A;go_wp2;go_ret;exact⟨_,rfl,u,congrArg (λz:Nat=>Value.int .i64 (z:Int)) HE.out⟩
def nW (n:Nat) (L:List (List Int)):List Bool:=(List.range n).map (λd=>L.any (λy=>dep y == d))
theorem D6 (n:Nat) (L:List (List Int)):(nW n L).length=n:=by unfold nW;simp
theorem Ti (n:Nat):nW n []=List.replicate n false:=by
 refine List.ext_getElem (by simp[nW]) (λi h1 a => ?_);simp[nW]
theorem Tj (n:Nat) (L:List (List Int)) (x:List Int):(nW n L).set (dep x) true=nW n (L++[x]):=by
 refine List.ext_getElem (by simp[nW]) (λi h1 b => ?_);rw[List.getElem_set];unfold nW;simp only[List.getElem_map,List.getElem_range,List.any_append,List.any_cons,List.any_nil,Bool.or_false];by_cases a:dep x=i
 ·simp[a]
 ·have:(dep x == i)=false:=by simpa using a
  rw[if_neg a,this,Bool.or_false]
theorem Tk {n d:Nat}{L:List (List Int)}(a:d<n):gt (nW n L) d=true↔∃y∈L,dep y=d:=by
 rw[gM _ _ (by rw[D6];exact a)];simp[nW]
theorem gL.Tl {bad:Nat->Prop}{B:Nat}{w:World}{v:Value}{xs:List (List Int)}(h:gL bad B w v xs) (m:∀k,bad k->k<B):dK (λk=>¬bad k) w v xs:=by
 obtain⟨p,e,q,r⟩:=h;rcases q with⟨rfl,rfl⟩|⟨g,off,cap,cur,rfl,hB,j,hnc,hcm,hsz,hc⟩
 ·have:xs=[]:=List.eq_nil_of_length_eq_zero (by simpa using e.symm)
  subst this;exact⟨none,0,rfl,⟨by simp,by simp,λ_=>rfl⟩,λi a=>by simp at a⟩
 ·have b:g<w.heap.size:=(Array.getElem?_eq_some_iff.1 j).1
  have l:cap<=9223372036854775807:=by unfold maxLen at hcm;omega
  refine⟨_,cap,by rw[e],⟨by omega,by omega,λh=>by cases h⟩,λi a=>⟨g,off,gt p i,rfl,λh=>by have:=m g h;omega,b,?_,Ints.sub (r i a) (λk hk _=>hk.1)⟩⟩;simp only[World.cell?,j,Option.isSome_none,Bool.false_eq_true,if_false];exact hc i (by omega)
def qy (L:List (List Int)) (d:Nat) (x:List Int) (e:Nat):Prop:=dep x=d/\gt x d=1/\∀e',d<e'->e'<e->(∃y∈L,dep y=e')->gt x e'=0
theorem Tm (P:Pr) (L:List (List Int)) (d:Nat) (x:List Int):qy L d x P.orders.length↔Fits P L d x:=Iff.rfl
theorem Tn {L:List (List Int)}{d:Nat}{x:List Int}{e:Nat}(i:d<e):qy L d x (e+1)↔qy L d x e/\((∃y∈L,dep y=e)->gt x e=0):=
 ⟨λ⟨h1,h2,h3⟩=>⟨⟨h1,h2,λe' a b=>h3 e' a (by omega)⟩,h3 e i (by omega)⟩,λ⟨⟨h1,h2,h3⟩,h4⟩=>⟨h1,h2,λe' a b=>by
  rcases Nat.lt_succ_iff_lt_or_eq.1 b with h|h
  ·exact h3 e' a h
  ·subst h;exact h4⟩⟩
open Classical in
noncomputable def ny (P:Pr) (L:List (List Int)) (d k:Nat):List (List Int):=(L.take k).filter (λx=>decide (Fits P L d x))
theorem Tp {P:Pr}{L:List (List Int)}{d k:Nat}(hk:k<L.length) (h:Fits P L d (gt L k)):ny P L d (k+1)=ny P L d k++[gt L k]:=by
 unfold ny;rw[je L k hk,List.filter_append];simp[h]
theorem Tq {P:Pr}{L:List (List Int)}{d k:Nat}(hk:k<L.length) (h:¬Fits P L d (gt L k)):ny P L d (k+1)=ny P L d k:=by
 unfold ny;rw[je L k hk,List.filter_append];simp[h]
theorem JX (P:Pr) (L:List (List Int)) (d:Nat):pQ P L d++ny P L d L.length=pQ P L (d+1):=by
 unfold ny;rw[List.take_length];rfl
open Classical in
theorem JY (P:Pr) (L:List (List Int)) (d k:Nat):(ny P L d k).length<=k:=by
 unfold ny;have:=List.length_filter_le (λx=>decide (Fits P L d x)) (L.take k);rw[List.length_take] at this;omega
theorem Tt (P:Pr) (L:List (List Int)) (d:Nat):(pQ P L d).length<=d*L.length:=by
 induction d with
 | zero=>simp[pQ]
 | succ d a=>
  have:=JY P L d L.length;rw[<-JX,List.length_append,Nat.succ_mul];omega
theorem KF (P:Pr) (G:ez P) (w:World) (pv:Value) (H:List Int->Prop) (Sp:Nat->Prop) (S:Sub P H) (bJ:eW P<=32) (bK:gy Sp w pv P) :
  Calls Tryz.prog 207 #[pv,.int .i64 ((gB P H:Nat):Int)] w (fq w λw' v=>dK (From w.heap.size) w' v (fD P H)):=by
 have hP:=G.v;have aY:=hP.n6;have aZ:=hP.kT;obtain⟨n,hn⟩:∃n,n=P.orders.length:=⟨_,rfl⟩;rw[<-hn] at aY;have ae:=Lib.hid hn;obtain⟨vo,vp,vc,rfl,h3⟩:=bK;obtain⟨ao,i,a0,_,_⟩:=h3.o.shape;rw[<-hn] at a0;subst a0;clear hn;have a1:=fB.box h3 28;have bL:Ext w (w.alloc (.cells #[.slice ao n i,vp,vc] 28)):=World.grownBy_alloc _ _ _;obtain⟨bM,fN,fM,_,_,U,J,K,fP⟩:=a1.at;simp only[Nat.zero_add] at J K;have ak:∀w',Ext (w.alloc (.cells #[.slice ao n i,vp,vc] 28)) w'->w'.cell? ⟨w.heap.size,0,none⟩=some bM/\w'.cell? ⟨w.heap.size,1,none⟩=some fN/\w'.cell? ⟨w.heap.size,2,none⟩=some fM:=λw' h=>⟨h.cell U (by simp),h.cell J (by simp),h.cell K (by simp)⟩;have a3:(w.alloc (.cells #[.slice ao n i,vp,vc] 28)).heap.size=w.heap.size+1:=by simp
 have HB:=Lib.hid (And.intro ak a3);clear ak a3 a1;obtain⟨N,hN⟩:∃N,N=(eW P).toNat:=⟨_,rfl⟩;have a4:eW P=(N:Int):=by omega
 have b3:N<=32:=by omega
 have aE:1<=N:=by omega
 have u:=G.R9 S;obtain⟨m,hm⟩:∃m,m=gB P H:=⟨_,rfl⟩;rw[<-hm,<-hN] at u;rw[<-hm];have HN:=Lib.hid (And.intro hN (And.intro a4 (And.intro hm u)));clear hN a4 hm u aZ bJ;go_enter Tryz.func207,Tryz.ntmps207;have a5:((w.alloc (.cells #[.slice ao n i,vp,vc] 28)).alloc (.cells #[] 24)).heap.size=w.heap.size+1+1:=by simp
 have a6:Ext (w.alloc (.cells #[.slice ao n i,vp,vc] 28)) ((w.alloc (.cells #[.slice ao n i,vp,vc] 28)).alloc (.cells #[] 24)):=World.grownBy_alloc _ _ _
 have a7:gT gf 24 (w.heap.size+1) (λk=>k=w.heap.size+1+1) ((w.alloc (.cells #[.slice ao n i,vp,vc] 28)).alloc (.cells #[] 24)) (.slice (some ⟨w.heap.size+1,0,none⟩) 0 0) []:=by
  refine⟨[],λ_ _=>False,rfl,?_,by simp,by simp,by simp,by simp,λk hk=>by have:=ku hk;omega⟩;have:fK (w.alloc (.cells #[.slice ao n i,vp,vc] 28)).heap.size 24 ((w.alloc (.cells #[.slice ao n i,vp,vc] 28)).alloc (.cells #[] 24)) (.slice (some ⟨(w.alloc (.cells #[.slice ao n i,vp,vc] 28)).heap.size,0,none⟩) 0 0) []:=World.ownsRow_lit (w.alloc (.cells #[.slice ao n i,vp,vc] 28)) #[] 0 (Nat.le_refl _) (by decide) rfl;rw[HB.out.2] at this;exact this
 have aF:=Lib.hid (And.intro a5 (And.intro a6 a7));clear a5 a6 a7;go_wp2_with (first|(at_make;refine JQ rfl _ _ rfl (w.heap.size+1+1) n (w.heap.size+1+1) aF.out.1 (n:Int) rfl rfl rfl (by omega) (Nat.le_refl _) ?_;intro w3 aG a8 au)|fail)
 clear U J K;generalize bO:w.alloc (.cells #[.slice ao n i,vp,vc] 28)=w0 at *;clear bO;have a9:=dy aF.out.2.1 a8;have aH:=aF.out.2.2.ext gX a8;have b9:w0.heap.size=w.heap.size+1:=HB.out.2;obtain⟨R,aI⟩:∃R,R=w.heap.size+1+1:=⟨_,rfl⟩;rw[<-aI] at aG aH au;rw[<-aI];have b4:w.heap.size+1<R:=by omega
 clear aI;have aJ:=Lib.hid (And.intro aH aG);clear aH aG;go_loopw [5,7] (λov tv wr=>∃(t:Nat) (v5:Value),v5=ov/\tv=.int .i64 t/\1<=t/\t<=N/\Ext w0 wr/\R<wr.heap.size/\gT gf 24 (w.heap.size+1) (λk=>k=R) wr v5 (jr P m t)/\l9 R wr (.slice (some ⟨R,0,none⟩) n n) (nW n (jr P m t))) (λ_ tv _=>N-(intOf tv).toNat)
 case atStart=>exact⟨1,_,rfl,rfl,by omega,aE,a9,au,aJ.out.1,by rw[show jr P m 1=[] from rfl,Ti];exact aJ.out.2⟩
 case round =>
  clear aJ;obtain⟨t,v5,rfl,rfl,ht1,ht,T,JZ,hL,hD⟩:=hrel;obtain⟨U,J,K⟩:=HB.out.1 wr T;have aK:=rX wr _ P Any hP ⟨_,_,_,rfl,fA.ext fP T⟩;rw[HN.out.2.1] at aK;have bP:=JG P m t;go_wp2_with fail
  clear U J K;refine Calls.mono aK ?_;rintro eo wo ⟨b',rfl,hgo,rfl⟩;clear aK;have y:=dy T hgo;have E:=hL.ext gX hgo;have V:=hD.gw hgo;have ba:R<wo.heap.size:=Nat.lt_of_lt_of_le JZ hgo.size;clear hL hD JZ;by_cases q:t<N
  ·have bc:(t:Int)<N:=by omega
   have p:=zL m t;cases B:m.testBit t with
   | false=>
    rw[B] at p;have p:((m:Int)/2 ^ t).tmod 2=0:=p;have l:jr P m (t+1)=jr P m t:=by rw[jr,if_neg (by rw[B];simp)]
    have HS:=Lib.hid l;clear l B;go_wp2;clear p;go_roundw
    case rel=>exact⟨t+1,v5,rfl,by go_num,by omega,by omega,y,ba,by rw[HS.out];exact E,by rw[HS.out];exact V⟩
    case measure=>simp[intOf];omega
   | true=>
    rw[B] at p;have p:((m:Int)/2 ^ t).tmod 2=1:=p;have l:jr P m (t+1)=jr P m t++[fF P (t:Int)]:=by rw[jr,if_pos ⟨by omega,B⟩]
    have be:t<(eW P).toNat:=by have:=HN.out.1;omega
    have W:dL P.orders (fF P (t:Int)):=G.kD be
    have aL:dep (fF P (t:Int))<n:=by
     have h1:=xg (fF P (t:Int));rw[W.1] at h1;rcases Nat.lt_or_ge (dep (fF P (t:Int))) P.orders.length with h2|h2
     ·rw[ae.out];exact h2
     ·have h4:=(IW hP W).1 (by omega)
      have h5:=G.qV be;rw[h4,tC hP] at h5;omega
    have z:=Tj n (jr P m t) (fF P (t:Int));obtain⟨x,hx⟩:∃x,x=fF P (t:Int):=⟨_,rfl⟩;have M:x.length<=6:=by rw[hx,W.1,<-ae.out];exact aY
    rw[<-hx] at l W aL z;obtain⟨d,hd⟩:∃d,d=dep x:=⟨_,rfl⟩;rw[<-hd] at aL z;rw[<-l] at z;have HS:=Lib.hid (And.intro l (And.intro W (And.intro z (And.intro hx (And.intro hd M)))));clear l B z W hx hd M;obtain⟨U,J,K⟩:=HB.out.1 wo y;go_wp2_with fail
    clear p U J K;refine Calls.mono (Bj P hP wo _ (t:Int) Any ⟨_,_,_,rfl,fA.ext fP y⟩ (by omega) (by omega)) ?_;rintro eX wX ⟨xv,rfl,af,aM⟩;rw[<-HS.out.2.2.2.1] at aM;have am:gf (From wo.heap.size) wX xv x:=gf.of aM (by have:=HS.out.2.2.2.2.2;omega) (λk h1 _=>h1);obtain⟨xa,xc,Tu,_,_⟩:=am.ints.shape;subst Tu;have bf:(jr P m t).length<=1000000:=by omega
    go_wp2_with (first|(at_builtin;refine Rc rfl _ _ rfl (w.heap.size+1) (λk=>k=R) wo wX v5 _ (jr P m t) x rfl E (λk hk=>by omega) none af (λk hk=>by cases hk) am rfl rfl bf (by have:=y.size;omega) ?_;intro v8 w8 bh F)|fail)
    have aN:=E.uI;have bi:Ext w0 w8:=fu (dy y af) F (λb B q=>by have:=(aN b B).2.1;omega)
    have bj:l9 R w8 (.slice (some ⟨R,0,none⟩) n n) (nW n (jr P m t)):=by
     have h1:=V.gw af;cases hv:v5.ownBlock with
     | none=>rw[hv] at F;exact h1.gw F
     | some r=>rw[hv] at F;exact h1.keep F (λe=>(aN r hv).1 e.symm)
    have bk:Ints Any w8 (.slice xa x.length xc) x:=Ints.mono am.ints (iQ F (λk hk _=>⟨trivial,λe=>by
     have h1:wo.heap.size<=k:=hk;have:=(aN k e).2.2;omega⟩))
    have cg:R<w8.heap.size:=Nat.lt_of_lt_of_le ba (Nat.le_trans af.size F.size);clear E V F af am aM;refine Calls.mono (zw _ x w8 Any bk) ?_;rintro eD wD ⟨dv,rfl,O,bm⟩;rw[<-HS.out.2.2.2.2.1] at bm;subst bm;have X:=bj.gw O;have bn:=bh.ext gX O;have bo:=X.cell d (by rw[D6];exact aL);have bS:=X.frozen d;have b6:(d:Int)<n:=by omega
    obtain⟨aO,an⟩:=X.store d true;have aP:=bn.kept gX an rfl;have ay:=fu (dy bi O) an (λb B q=>by cases B;omega);rw[HS.out.2.2.1] at aO;rw[<-HS.out.1] at aP;have bp:R<(wD.setCell ⟨R,d,none⟩ (.bool true)).heap.size:=by have:=an.size;have:=O.size;omega
    have HF:=Lib.hid (And.intro aO (And.intro aP (And.intro ay bp)));clear aO aP ay bp an bn X bh bj bk;go_wp2;clear bo bS;go_roundw
    case rel=>exact⟨t+1,v8,rfl,by go_num,by omega,by omega,HF.out.2.2.1,HF.out.2.2.2,HF.out.2.1,HF.out.1⟩
    case measure=>simp[intOf];omega
  ·have bq : t=N:=by omega
   rw[bq] at E V;have br:=JG P m N;obtain⟨L,ap⟩:∃L,L=jr P m N:=⟨_,rfl⟩;rw[<-ap] at E V br
   have bs:∀x∈L,x.length=n:=λx hx=>by
    rw[ap] at hx;obtain⟨t',h1,_,_,rfl⟩:=DW.1 hx;rw[(G.kD (by have:=HN.out.1;omega)).1,ae.out]
   have u:=HN.out.2.2.2;rw[<-ap,<-ae.out] at u
   have ag:∀d k,d<=n->k<=L.length->(pQ P L d++ny P L d k).length<=1000000:=λd k hd hk=>by
    have h1:=Tt P L d;have h2:=JY P L d k;have h3:d*L.length<=6*32:=Nat.mul_le_mul (by omega) (by omega);rw[List.length_append];omega
   have aq:=gY.rows (E.o.iB (by omega));obtain⟨al,bt,hvl,_,_⟩:=Sl.shape aq;subst hvl;have HL:=Lib.hid (And.intro bs (And.intro u ag));clear bs u ag ap bP E;have bU:¬(t:Int)<N:=by omega
   have aq:dK (From (w.heap.size+1)) wo (.slice al L.length bt) L:=aq;go_wp2;clear bU bq q ht ht1 T hgo;obtain⟨wL,rfl⟩:∃wL:World,wL=wo:=⟨_,rfl⟩;go_loopw [9,10] (λov dv wr=>∃(d:Nat) (Y:Value),Y=ov/\dv=.int .i64 d/\d<=n/\Ext wL wr/\gL (λk=>k<w.heap.size) wL.heap.size wr Y (pQ P L d)) (λ_ dv _=>n-(intOf dv).toNat)
   case atStart=>exact⟨0,_,rfl,rfl,by omega,World.grownBy_alloc _ _ _,gL.lit _ _ _ (Nat.le_refl _)⟩
   case round =>
    obtain⟨d,Y,rfl,rfl,hd,T,hQ⟩:=hrel;by_cases b7:d<n
    ·have bV:(d:Int)<n:=by omega
     go_wp2;go_loopw [9,11] (λov kv wr=>∃(k:Nat) (Y:Value),Y=ov/\kv=.int .i64 k/\k<=L.length/\Ext wL wr/\gL (λk=>k<w.heap.size) wL.heap.size wr Y (pQ P L d++ny P L d k)) (λ_ kv _=>L.length-(intOf kv).toNat)
     case atStart=>exact⟨0,Y,rfl,rfl,by omega,T,by rw[show ny P L d 0=[] by simp[ny],List.append_nil];exact hQ⟩
     case round=>
      clear T hQ;obtain⟨k,Y,rfl,rfl,hk,T,hQ⟩:=hrel;by_cases q:k<L.length
      ·have bc:(k:Int)<L.length:=by omega
       obtain⟨bb,off,a2,aB,hal,_,_,hc,hr⟩:=dK.at aq k q;subst hal;have aQ:=T.cell hc (by simp);have M:=HL.out.1 _ (fT q);have ah:=Tp (P:=P) (d:=d) q;have aR:=Tq (P:=P) (d:=d) q;have ag:=HL.out.2.2 d k hd hk;obtain⟨x,hx⟩:∃x,x=gt L k:=⟨_,rfl⟩;rw[<-hx] at hc aQ hr M ah aR;rw[M] at hc aQ;have aS:Ints (From (w.heap.size+1)) wL (.slice a2 n aB) x:=by rw[<-M];exact hr
       have HX:=Lib.hid (And.intro M (And.intro ah (And.intro aR (And.intro ag hx))));clear ah aR ag hr hx hc;go_wp2_with fail
       clear aQ;refine Calls.mono (zw _ x wr _ (Ints.ext aS T)) ?_;rintro eD wD ⟨dv,rfl,O,rfl⟩;have A:=dy T O;have bu:=Ints.ext aS A;have ar:=hQ.ext O;obtain⟨bd,od,hbd,_,_,hcd⟩:=Ints.at bu d (by omega);subst hbd;have X:=V.gw A;have bY:(dep x=d/\gt x d=1)\/(dep x=d/\¬gt x d=1)\/¬dep x=d:=by omega
       clear hQ T;rcases bY with⟨h1,h2⟩|⟨h1,h2⟩|h1;have Z:Hid ((true=true)↔qy L d x (d+1)):=Lib.hid ⟨λ_=>⟨h1,h2,λe' a b=>by omega⟩,λ_=>rfl⟩;have aT:((dep x:Nat):Int)=(d:Int):=by omega
       clear h1;go_wp2;rotate_left;have Z:Hid ((false=true)↔qy L d x (d+1)):=Lib.hid ⟨λh=>(by cases h),λh=>absurd h.2.1 h2⟩;have h2:(gt x d == 1)=false:=by simpa using h2
       have aT:((dep x:Nat):Int)=(d:Int):=by omega
       clear h1;go_wp2;rotate_left;have Z:Hid ((false=true)↔qy L d x (d+1)):=Lib.hid ⟨λh=>(by cases h),λh=>absurd h.1 h1⟩;have aT:¬((dep x:Nat):Int)=(d:Int):=by omega
       have h2:True:=trivial;clear h1;go_wp2;rotate_left
       all_goals
        clear hcd;go_loopw [13,14] (λfv ev wr=>∃(f:Bool) (e:Nat),fv=.bool f/\ev=.int .i64 e/\d+1<=e/\e<=n/\wr=wD/\Hid (f=true↔qy L d x e)) (λ_ ev _=>n-(intOf ev).toNat)
        case atStart=>exact⟨_,d+1,rfl,rfl,by omega,by omega,rfl,by first|exact Z|exact Lib.hid (by have h3:=Z.out;simpa using h3)|exact Lib.hid (by have h3:=Z.out;rw[h2];exact h3)⟩
        case round=>
         clear Z aT h2;obtain⟨f,e,rfl,rfl,yf,VI,hw,hF⟩:=hrel;subst hw;by_cases aC:e<n
         ·have bZ:(e:Int)<n:=by omega
          have aa:=X.cell e (by rw[D6];exact aC);obtain⟨bx,ox,ak,_,_,ai⟩:=Ints.at bu e (by omega);cases ak
          have ab:=Tk (L:=L) aC;have C:=Tn (L:=L) (x:=x) (show d<e by omega);cases f with
          | false=>
           have Q:Hid ((false=true)↔qy L d x (e+1)):=Lib.hid ⟨λh=>(by cases h),λh=>hF.out.2 (C.1 h).1⟩;clear ab C hF aa ai;go_wp2;go_roundw
           case rel=>exact⟨false,e+1,rfl,by go_num,by omega,by omega,by first|rfl|trivial,Q⟩
           case measure=>simp[intOf];omega
          | true=>
           cases B:gt (nW n L) e with
           | false=>
            rw[B] at aa;have Q:Hid ((true=true)↔qy L d x (e+1)):=Lib.hid ⟨λ_=>C.2 ⟨hF.out.1 rfl,λh=>by rw[ab.2 h] at B;cases B⟩,λ_=>rfl⟩;clear ab C hF B ai;go_wp2;clear aa;go_roundw
            case rel=>exact⟨true,e+1,rfl,by go_num,by omega,by omega,by first|rfl|trivial,Q⟩
            case measure=>simp[intOf];omega
           | true=>
            rw[B] at aa;have hex:=ab.1 B;obtain⟨q2,aU⟩:∃q2,q2=gt x e:=⟨_,rfl⟩;rw[<-aU] at ai C;by_cases hz:q2=0
            ·have Q:Hid ((true=true)↔qy L d x (e+1)):=Lib.hid ⟨λ_=>C.2 ⟨hF.out.1 rfl,λ_=>hz⟩,λ_=>rfl⟩
             clear ab C hF B aU hex;subst hz;go_wp2;clear aa ai;go_roundw
             case rel=>exact⟨true,e+1,rfl,by go_num,by omega,by omega,by first|rfl|trivial,Q⟩
             case measure=>simp[intOf];omega
            ·have Q:Hid ((false=true)↔qy L d x (e+1)):=Lib.hid ⟨λh=>(by cases h),λh=>absurd ((C.1 h).2 hex) hz⟩
             clear ab C hF B aU hex;have cm:(q2 == 0)=false:=by simpa using hz
             go_wp2;clear aa ai;go_roundw
             case rel=>exact⟨false,e+1,rfl,by go_num,by omega,by omega,by first|rfl|trivial,Q⟩
             case measure=>simp[intOf];omega
         ·have aV:e=n:=by omega
          have I:=hF.out;rw[aV,ae.out,Tm] at I;have bv:¬(e:Int)<n:=by omega
          cases f with
          | true=>
           have l:=HX.out.2.1 (I.1 rfl);have aW:=Lib.hid l;clear l I hF aV;have b0:Ints (λk=>¬k<w.heap.size/\Y.ownBlock≠some k) wr (.slice (some ⟨bd,od,none⟩) n aB) x:=Ints.mono aS (λk hk q=>⟨⟨by have:w.heap.size+1<=k:=hk;omega,λe=>by have:=(ar.lt k e).1;omega⟩,Nat.lt_of_lt_of_le q A.size,A.block k q (by simp)⟩);go_wp2_with (first|(at_builtin;refine zj rfl _ _ rfl (λk=>k<w.heap.size) wL.heap.size Y _ (pQ P L d++ny P L d k) x rfl wr ar rfl b0 rfl HX.out.2.2.2.1 A.size ?_;intro v5 w5 b1 b2 cn;have bw:=fu A b2 (λj hj q=>by have:=(ar.lt j hj).1;omega))|fail)
           go_roundw
           case rel=>exact⟨k+1,v5,rfl,by go_num,by omega,bw,by rw[aW.out,<-List.append_assoc];exact b1⟩
           case measure=>simp[intOf];omega
          | false=>
           have l:=HX.out.2.2.1 (λh=>(by have:=I.2 h;cases this));have aW:=Lib.hid l;clear l I hF aV;go_wp2;go_roundw
           case rel=>exact⟨k+1,Y,rfl,by go_num,by omega,A,by rw[aW.out];exact ar⟩
           case measure=>simp[intOf];omega
      ·have bz:k=L.length:=by omega
       rw[bz,JX] at hQ;have bv:¬(k:Int)<L.length:=by omega
       clear bz;go_wp2;go_roundw
       case rel=>exact⟨d+1,Y,rfl,by go_num,by omega,T,hQ⟩
       case measure=>simp[intOf];omega
    ·have bA:d=n:=by omega
     rw[bA,HL.out.2.1] at hQ;have aj:=hQ.Tl (λk hk=>by have:=y.size;omega)
     have D:dK (From w.heap.size) wr Y (fD P H):=dK.sub aj (λk hk _=>by
      have h:¬k<w.heap.size:=hk;show w.heap.size<=k;omega)
     obtain⟨az,rC,lJ,_,_⟩:=Sl.shape D;subst lJ;have bv:¬(d:Int)<n:=by omega
     have HR:=Lib.hid D;clear aj D bA hQ;go_wp2;go_ret;exact⟨_,rfl,dy bL (dy y T),HR.out⟩
end Go.Proofs.YtoakmefajbbggaaGreat
namespace Go.Proofs.YtoakmefajbbggaaGreat
theorem Tv (w:World) (a:Addr) (n:Nat):(w.freeze a n).drawn=w.drawn:=by
 unfold World.freeze;split<;>rfl
theorem Tw {α:Type}(q:Ask α):∀w:World,w.drawn<=(w.ask q).2.drawn:=by
 induction q with
 | done a=>intro w;exact Nat.le_refl _
 | ask b range k e=>
  intro w;unfold World.ask;dsimp only;split
  ·exact e _ _
  ·exact Nat.le_trans (Nat.le_succ _) (e _ { w with drawn:=w.drawn+1 })
theorem Tx (w:World) (c:Sys):w.drawn<=(w.sys c).2.drawn:=by
 unfold World.sys;have h:=Tw (Kernel.perform c w.os) w;revert h
 generalize w.ask (Kernel.perform c w.os)=r;intro h;split
 ·exact Nat.le_refl _
 ·exact h
theorem Ty (p:Program) (w:World) (at_:Addr) (u:TypeId) (k:Addr) (v:Value) (atomic:Bool) (r:World × List Addr) (h:w.viewStore p at_ u k v atomic=.ok r):r.1.drawn=w.drawn:=by
 unfold World.viewStore at h;simp only[bind,Except.bind,pure,Except.pure] at h;repeat' split at h
 all_goals first|(cases h;done)|(cases h;rfl)
theorem Tz (p:Program) (w:World) (a:Addr) (v:Value) (atomic:Bool) (r:World × List Addr) (h:w.farStore p a v atomic=.ok r):r.1.drawn=w.drawn:=by
 unfold World.farStore at h;split at h
 ·split at h
  ·rename_i b
   cases h
   exact Ty _ _ _ _ _ _ _ _ b
  ·cases h
 ·cases h
theorem TA {α:Type}(p:Program) (s:Sem α):∀(w w':World) (a:α),s.run p w=.ok a w'->w.drawn<=w'.drawn:=by
 induction s with
 | pure a=>intro w w' b h;cases h;exact Nat.le_refl _
 | load m a k e=>
  intro w w' b h;unfold Sem.run at h;split at h
  ·exact e _ _ _ _ h
  ·split at h
   ·exact e _ _ _ _ h
   ·cases h
 | store m a v k e=>
  intro w w' b h;cases v<;>simp only[Sem.run] at h
  all_goals try (cases h;done)
  all_goals
   split at h
   ·split at h
    ·cases h
    ·exact e (w.setCell a _) _ _ h
   ·split at h
    ·rename_i j l i
     have h1:=Tz _ _ _ _ _ _ i;have u:=e _ _ _ h;dsimp only at h1;omega
    ·cases h
 | new o k e=>intro w w' b h;exact e _ { w with heap:=w.heap.push o } _ _ h
 | shape r k e=>intro w w' b h;exact e _ _ _ _ h
 | freeze a n k e=>intro w w' b h;have:=e _ _ _ h;rw[Tv] at this;exact this
 | frozen a k e=>intro w w' b h;exact e _ _ _ _ h
 | getObj r k e=>
  intro w w' b h;unfold Sem.run at h;split at h
  ·cases h
  ·exact e _ _ _ _ h
  ·cases h
 | setObj r o k e=>
  intro w w' b h;unfold Sem.run at h;split at h
  ·cases h
  ·exact e { w with heap:=w.heap.setIfInBounds r o } _ _ h
  ·cases h
 | choose q k e=>
  intro w w' b h;unfold Sem.run at h;split at h
  ·exact e _ _ _ _ h
  ·exact Nat.le_trans (Nat.le_succ _) (e _ _ _ _ h)
 | sys c k e=>intro w w' b h;exact Nat.le_trans (Tx w c) (e _ _ _ _ h)
 | program k e=>intro w w' b h;exact e _ _ _ _ h
 | mark m k e=>intro w w' b h;exact e _ _ _ h
 | halt y=>intro w w' b h;cases h
theorem TB {P:Program}{b:Array Oper}{rest:List Oper}{o:Oper}{a:Act}{Q:Exit->Act->World->Prop}{w:World}{Φ : Act->World->Prop}(j:o.guard=none)
  (l:∀f args w',(execOp a.eval o).run P w ≠ .ok (.enter f args) w') (m:∀r args w',(execOp a.eval o).run P w ≠ .ok (.row r args) w')
  (h:wpList P b (λe a' w'=>e=.normal /\ Φ a' w') [o] a w) (k:∀a' w',Φ a' w'->w.drawn<=w'.drawn->wpList P b Q rest a' w') :
  wpList P b Q (o :: rest) a w:=by
 have q:Region.wanted o (yielded b a.tmps)=true:=by simp[Region.wanted,j]
 unfold wpList at h ⊢;rw[if_pos q] at h ⊢;rcases h with h|⟨_,⟨_,_,he,_⟩⟩
 ·left
  unfold Oper.wp at h ⊢;cases i:(execOp a.eval o).run P w with
  | ok n w'=>
   have p:=TA _ _ _ _ _ i;rw[i] at h;cases n with
   | value v=>exact k _ _ h.2 p
   | skip=>exact k _ _ h.2 p
   | defer d=>exact k _ _ h.2 p
   | enter f args=>exact absurd i (l _ _ _)
   | row r args=>exact absurd i (m _ _ _)
   | _=>exact h.elim
  | halt u w'=>
   rw[i] at h;cases u with
   | panic v=>cases h.1
   | _=>exact h.elim
 ·cases he
theorem TC (P:Program) (s:Sem Value) (w w':World) (n:Next) (h:Sem.run P (do pure (Next.value (<-s))) w=.ok n w'):∃v,n=.value v:=by
 rw[Sem.run_bind] at h;cases a:Sem.run P s w with
 | ok v b=>rw[a] at h;cases h;exact⟨v,rfl⟩
 | halt e b=>rw[a] at h;cases h
theorem J1 {P:Program}{o:Oper}{a:Act}{w w':World}{n:Next}{args:Array Operand}{b:Array TypeId}(e:o.op=Op.call { callee:=Callee.builtin Builtin.append,args:=args,argTypes:=b })
  (h:(execOp a.eval o).run P w=.ok n w'):∃v,n=.value v:=by
 unfold execOp at h;rw[e] at h;exact TC P (Builtin.append_ b o.type (args.map a.eval)) w w' n h
theorem J2 {P:Program}{b:Array Oper}{rest:List Oper}{o:Oper}{a:Act}{Q:Exit->Act->World->Prop}{w:World}{Φ : Act->World->Prop}(i:o.guard=none) {args:Array Operand}{j:Array TypeId}
  (m:o.op=Op.call { callee:=Callee.builtin Builtin.append,args:=args,argTypes:=j })
  (h:wpList P b (λe a' w'=>e=.normal /\ Φ a' w') [o] a w) (k:∀a' w',Φ a' w'->w.drawn<=w'.drawn->wpList P b Q rest a' w') :
  wpList P b Q (o :: rest) a w:=
 TB i (λf x w' l=>by obtain⟨v,hv⟩:=J1 m l;cases hv) (λf x w' l=>by obtain⟨v,hv⟩:=J1 m l;cases hv) h k
end Go.Proofs.YtoakmefajbbggaaGreat
namespace Go.Proofs.YtoakmefajbbggaaGreat
open Go.RowKit
theorem TD (T E:Nat) (z:Value) (bytes:Nat) (D:Tryz.prog.underlying T=some (.slice E)) (F:(Tryz.prog.info? E).map (λi=>(i.zero,i.size,i.bytes))=some (some z,1,bytes))
  (p:z.cells.size=1) (q:bytes<=64) {j:Array Oper}{rest:List Oper}{o:Oper}{a:Act}{Q:Exit->Act->World->Prop}{w:World}(k:o.guard=none) (s x:Operand)
  (A:o.op=Op.call { callee:=Callee.builtin Builtin.append,args := #[s,x],argTypes := #[T,T] }) (B:Nat) (v u:Value) (xs:List Value) (G:a.eval s=v) (w0:World) (l:fK B E w0 v xs) (C:w=w0.alloc (.cells #[u] E)) (h1:u.oneCell'=true)
  (hx:a.eval x=.slice (some ⟨w0.heap.size,0,none⟩) 1 1) (m:xs.length<=1000000) (e:B<=w0.heap.size)
  (h:∀b w',fK B E w' b (xs++[u])->w0.grownBy w' v.ownBlock->w0.drawn<=w'.drawn->wpList Tryz.prog j Q rest (a.put o.dst b) w') :
  wpList Tryz.prog j Q (o :: rest) a w:=by
 refine J2 (Φ :=λa' w'=>∃b,fK B E w' b (xs++[u])/\w0.grownBy w' v.ownBlock/\a'=a.put o.dst b) k A ?_ ?_
 ·exact yM T E z bytes D F p q k s x A B v u xs G w0 l C h1 hx m e (λb w' r y=>⟨rfl,b,r,y,rfl⟩)
 ·rintro a' w' ⟨b,r,y,rfl⟩ hd
  subst C;exact h b w' r y hd
theorem TE (v:Value) (U:List (List Int)) (w:World) (S:Nat->Prop) (h:dK S w v U) (F:∀z∈U,dep z<z.length) (R:U.length<=100000) :
  Calls Tryz.prog 162 #[v] w (fq w λw' r=>fK w.heap.size 3 w' r (ij U)/\w.drawn<=w'.drawn):=by
 obtain⟨a,cap,rfl,_,_⟩:=Sl.shape h;have I:=Lib.hid F;clear F;go_enter Tryz.func162,Tryz.ntmps162;go_wp2;go_loopw [3,8] (λJ p wr=>∃(k:Nat) (v4:Value),v4=J/\p=.int .i64 k/\k<=U.length/\Ext w wr/\fK w.heap.size 3 wr v4 (ij (U.take k))/\w.drawn<=wr.drawn) (λ_ p _=>U.length-(intOf p).toNat)
 case atStart=>exact⟨0,_,rfl,rfl,by omega,Ext.refl _,World.ownsRow_nil _ _ _ _,Nat.le_refl _⟩
 case round=>
  obtain⟨k,v4,rfl,rfl,hk,m,hO,hdr⟩:=hrel;by_cases i:k<U.length
  ·obtain ⟨b,off,a2,jx,rfl,_,_,hc,K⟩:=dK.at (dK.ext h m) k i
   have e:ij (U.take (k+1))=ij (U.take k)++[.int .i64 (dep (gt U k))]:=by unfold ij;rw[je U k i,List.map_append];rfl
   have q:(ij (U.take k)).length<=1000000:=by unfold ij;rw[List.length_map,List.length_take];omega
   have L:=Lib.hid e;clear e;have G:(k:Int)<U.length:=by omega
   go_wp2_with fail
   refine Calls.mono (I4 _ (gt U k) wr _ K (I.out _ (fT i))) ?_;rintro T V ⟨rfl,rfl⟩;go_wp2_with (first|(at_builtin;refine TD 171 3 (.int .i64 0) 8 C7 Tryz.C8 rfl (by decide) rfl _ _ rfl w.heap.size v4 _ (ij (U.take k)) rfl wr hO rfl rfl rfl q m.size ?_;intro M N u y A)|fail)
   have B:Ext w N:=fu m y (λj O i=>by have:=(hO.lt j O).1;omega);go_roundw
   case rel=>exact⟨k+1,M,rfl,by go_num,by omega,B,by rw[L.out];exact u,Nat.le_trans hdr A⟩
   case measure=>simp[intOf];omega
  ·have C:k=U.length:=by omega
   subst C;rw[List.take_length] at hO
   have D:∃H l,v4=.slice H U.length l:=by
    rcases hO.form with⟨h1,E⟩|⟨g,cp,h1,_⟩
    ·have Q:U.length=0:=by unfold ij at E;rw[List.map_eq_nil_iff] at E;rw[E];rfl
     exact⟨none,0,by rw[h1,Q]⟩
    ·exact⟨_,_,by rw[h1];unfold ij;rw[List.length_map]⟩
   obtain⟨H,l,rfl⟩:=D;go_wp2;go_ret;exact⟨_,rfl,m,hO,hdr⟩
theorem J3 (P:Pr) (hP:Valid P) (w:World) (p I:Value) (U:List (List Int)) (Q J:Nat->Prop) (K:fB Q w p P) (L:dK J w I U) (y:iY P U) (Z:U.length<=100) :
  Calls Tryz.prog 82 #[p,I] w (fq w λw' v=>v=.int .i64 (fJ P U U.length)/\w.drawn<=w'.drawn):=by
 have R:=hP.n6;obtain⟨pb,po,rfl⟩:=K.shape;obtain⟨ao,iA,oH,A⟩:=K.iO;obtain⟨au,jA,rfl,_,_⟩:=Sl.shape L;have B:∀z∈U,dep z<z.length:=λz S=>by have:=y.1 z S;rw[this.1.1];exact this.2.1
 have M:=Lib.hid y;clear y;go_enter Tryz.func82,Tryz.ntmps82;go_wp2_with fail
 refine Calls.mono (TE _ U w J L B (by omega)) ?_;rintro e1 T ⟨pv,rfl,j,k,D7⟩
 have m:∃V q,pv=.slice V U.length q:=by
  rcases k.form with⟨h1,l⟩|⟨g,cp,h1,_⟩
  ·have W:U.length=0:=by unfold ij at l;rw[List.map_eq_nil_iff] at l;rw[l];rfl
   exact⟨none,0,by rw[h1,W]⟩
  ·exact⟨_,_,by rw[h1];unfold ij;rw[List.length_map]⟩
 obtain⟨ap,kS,rfl⟩:=m;go_wp2;go_loopw [5,11] (λmv C wr=>∃i:Nat,mv=.int .i64 (fJ P U i)/\C=.int .i64 i/\i<=U.length/\T=wr) (λ_ C _=>U.length-(intOf C).toNat)
 case atStart=>exact⟨0,rfl,rfl,by omega,rfl⟩
 case round=>
  obtain⟨i,rfl,rfl,hi,rfl⟩:=hrel;by_cases a:i<U.length
  ·have N:(i:Int)<U.length:=by omega
   have r:gt (ij U) i=.int .i64 (dep (gt U i)):=by unfold ij;rw[jM _ _ _ a]
   have D:∃g,ap=some ⟨g,0,none⟩:=by
    rcases k.form with⟨h1,l⟩|⟨g,cp,h1,_⟩
    ·unfold ij at l;rw[List.map_eq_nil_iff] at l;rw[l] at a;simp at a
    ·simp only[Value.slice.injEq] at h1;exact⟨g,h1.1⟩
   obtain⟨gp,rfl⟩:=D;have u:=k.cell i (by unfold ij;rw[List.length_map];exact a);rw[r] at u;clear r;have e:fJ P U (i+1)=fJ P U i*gt P.orders (dep (gt U i)):=rfl;have E:=ry hP M.out (i+1) a;rw[e] at E;obtain⟨d,F⟩:∃d,d=dep (gt U i):=⟨_,rfl⟩;rw[<-F] at u e E;have G:d<P.orders.length:=by rw[F];exact(M.out.1 _ (fT a)).2.1
   clear F;have O:(d:Int)<P.orders.length:=by omega
   obtain⟨b,off,rfl,_,_,gJ⟩:=Ints.at (A.ext j) d G;have X:=j.cell oH (by simp);have hw:IntKind.i64.wrap (fJ P U i*gt P.orders d)=fJ P U i*gt P.orders d:=IntWalk.i64_in _ (by omega);have Y:=Lib.hid e;clear e E;go_wp2;go_roundw
   case rel=>exact⟨i+1,by rw[Y.out],by go_num,by omega,trivial⟩
   case measure=>simp[intOf];omega
  ·have H:i=U.length:=by omega
   subst H;go_wp2;go_ret;exact⟨_,rfl,j,rfl,D7⟩
end Go.Proofs.YtoakmefajbbggaaGreat
namespace Go.Proofs.YtoakmefajbbggaaGreat
open Go.Proofs Go.Shelf Go.RowKit
section
open Go.Lib
def Tryz.J4_ren : Go.Shelf.Ren := ⟨fun | 4 => 234 | n => n, fun | 22 => 24 | 25 => 2 | 3 => 3 | 4 => 4 | 9 => 9 | 20 => 20 | 0 => 0 | n => n, fun | n => n⟩
theorem Tryz.J4 : Go.Proofs.Lays8.n4 Tryz.prog Tryz.J4_ren := {
  mixed := by kernel_rfl
  f4 := ⟨Tryz.f234.name, by decide, Tryz.func234.trans (congrArg some (by kernel_rfl))⟩
  t0 := Tryz.underlying0
  a0 := Tryz.isAgg0
  z0 := Tryz.sizeOf0
  v0 := Tryz.zeroValue0
  t3 := Tryz.underlying3
  a3 := Tryz.isAgg3
  z3 := Tryz.sizeOf3
  v3 := Tryz.zeroValue3
  t4 := Tryz.underlying4
  a4 := Tryz.isAgg4
  z4 := Tryz.sizeOf4
  v4 := Tryz.zeroValue4
  t9 := Tryz.underlying9
  a9 := Tryz.isAgg9
  z9 := Tryz.sizeOf9
  v9 := Tryz.zeroValue9
  t20 := Tryz.underlying20
  a20 := Tryz.isAgg20
  z20 := Tryz.sizeOf20
  v20 := Tryz.zeroValue20
  t22 := Tryz.underlying24
  a22 := Tryz.isAgg24
  z22 := Tryz.sizeOf24
  v22 := Tryz.zeroValue24 }
theorem TF (n:Nat) (y:n<=1000000) (w:World):Calls Tryz.prog 234 #[.slice none 0 0,.int .i64 n] w (fq w λw' v=>Own w.heap.size w' v []/\w.drawn<=w'.drawn):=by
 rcases Nat.eq_zero_or_pos n with rfl|z
 ·have h:=Any8.slices_Grow_room Tryz.J4 none 0 0 0 w (by omega) (by omega) (by omega) (by omega)
  change Calls Tryz.prog 234 _ _ _ at h;refine h.mono ?_;rintro e w' ⟨rfl,rfl⟩;exact⟨_,rfl,Ext.refl _,Own.of (World.ownsRow_nil _ _ _ _),Nat.le_refl _⟩
 ·obtain ⟨q,r,i,j,k⟩:=info_parts Tryz.pV
  have b:0+n<=maxLen:=by unfold maxLen;omega
  have h:=Any8.slices_Grow_grow Tryz.J4 q (.int .i64 0) r i (by rw[j];decide) none 0 0 n [] w (by omega) (by omega) (by rw[k];omega) (by omega) (by simp) (λ_=>rfl) (λa ha=>by cases ha);change Calls Tryz.prog 234 _ _ _ at h;refine h.mono ?_;rintro e w' ⟨rfl,rfl⟩;have l:=grownCap_ge w (0+n) 0 2;have m:=grownCap_le_maxLen w (0+n) 0 2 b;refine⟨_,rfl,dy (fk w none) (World.grownBy_alloc _ _ _),Own.of ⟨rfl,.inr ⟨w.heap.size,_,_,rfl,Nat.le_refl _,Array.getElem?_push_size (xs:=w.heap),Nat.zero_le _,m,?_,by simp⟩⟩,by first|exact Nat.le_refl _|exact Nat.le_succ _⟩;simp only[Array.size_append,size_zeroCells,List.size_toArray,List.length_nil];have u:(Value.cells (.int .i64 0)).size=1:=rfl;have p:0+n<=grownCap w (0+n) 0 2:=l;rw[u];show 0+(0+n-0)*1+(grownCap w (0+n) 0 2-(0+n))*1=grownCap w (0+n) 0 2*1
  omega
end
theorem TG {i:Array Oper}{rest:List Oper}{o:Oper}{a:Act}{Q:Exit->Act->World->Prop}{w:World}(j:o.guard=none) (s x:Operand)
  (y:o.op=Op.call { callee:=Callee.builtin Builtin.append,args := #[s,x],argTypes := #[24,24] }) (base:Nat) (v:Value) (l:List Int) (z:a.eval s=v) (k:Own base w v l)
  (u:Value) (m:List Int) (hx:a.eval x=u) (S:Nat->Prop) (A:Ints S w u m) (p:l.length+m.length<=2147483648) (e:base<=w.heap.size)
  (h:∀b w',Own base w' b (l++m)->w.grownBy w' v.ownBlock->w.drawn<=w'.drawn->wpList Tryz.prog i Q rest (a.put o.dst b) w') :
  wpList Tryz.prog i Q (o :: rest) a w:=by
 refine J2 (Φ :=λa' w'=>∃b,Own base w' b (l++m)/\w.grownBy w' v.ownBlock/\a'=a.put o.dst b) j y ?_ ?_
 ·exact rQ j s x y base v l z k u m hx S A p e (λb w' q r _=>⟨rfl,b,q,r,rfl⟩)
 ·rintro a' w' ⟨b,q,r,rfl⟩ hd
  exact h b w' q r hd
def kO (a:List (List Int)):Nat->List Int
 | 0=>[]
 | k+1=>kO a k++gt a k
theorem xx (a:List (List Int)) (b:Nat) (h:∀u∈a,u.length<=b) (k:Nat) (hk:k<=a.length):(kO a k).length<=b*k:=by
 induction k with
 | zero=>simp[kO]
 | succ k e=>
  have h1:=e (by omega);have j:=h _ (iW (l:=a) (i:=k) (by omega));simp only[kO,List.length_append,Nat.mul_succ];omega
theorem TH (b:List (List Int)) (k:Nat) (hk:k<=b.length):kO b k=(b.take k).flatten:=by
 induction k with
 | zero=>simp[kO]
 | succ k e=>
  have a:k<b.length:=by omega
  rw[kO,e (by omega),List.take_succ_eq_append_getElem a,List.flatten_append];simp[gt,a]
theorem xy (a:List (List Int)):kO a a.length=a.flatten:=by
 rw[TH a _ (Nat.le_refl _),List.take_length]
theorem J5 (w:World) (lv:Value) (a:List (List Int)) (W:Nat->Prop) (K:dK W w lv a) (L:∀u∈a,u.length<=1000) (hn:a.length<=100) :
  Calls Tryz.prog 189 #[lv] w (fq w λw' v=>Own w.heap.size w' v a.flatten/\w.drawn<=w'.drawn):=by
 obtain⟨al,qi,rfl,_,_⟩:=Sl.shape K;have C:∀k,k<=a.length->(kO a k).length<=100000:=λk hk=>by have:=xx a 1000 L k hk;omega
 have I:=Lib.hid (And.intro C L);clear C L;rw[<-xy];go_enter Tryz.func189,Tryz.ntmps189;go_wp2;go_loopw [3,11] (λX r wr=>∃k:Nat,X=.int .i64 ((kO a k).length:Nat)/\r=.int .i64 k/\k<=a.length/\w=wr) (λ_ r _=>a.length-(intOf r).toNat)
 case atStart=>exact⟨0,rfl,rfl,by omega,rfl⟩
 case round=>
  obtain⟨k,rfl,rfl,hk,rfl⟩:=hrel;have i:=I.out.1 k hk;by_cases e:k<a.length
  ·have D:(k:Int)<a.length:=by omega
   obtain⟨b,off,a2,jx,rfl,_,_,J,M⟩:=dK.at K k e;have E:=I.out.1 (k+1) e;have l:(kO a (k+1)).length=(kO a k).length+(gt a k).length:=by simp only[kO,List.length_append]
   obtain⟨m,A⟩:∃m,m=(kO a k).length:=⟨_,rfl⟩;obtain⟨B,y⟩:∃B,B=(gt a k).length:=⟨_,rfl⟩;rw[<-A] at i l ⊢;rw[<-y] at J M l;have Y:m+B<=100000:=by omega
   have hw:IntKind.i64.wrap ((m:Int)+(B:Int))=((m+B:Nat):Int):=by rw[IntWalk.i64_in _ (by omega)];omega
   have Z:¬((m+B:Nat):Int)<0:=by omega
   have HS:=Lib.hid (And.intro l (And.intro A y));clear l A y E;go_wp2;go_roundw
   case rel=>exact⟨k+1,by rw[HS.out.1,Int.natCast_add],by go_num,by omega,trivial⟩
   case measure=>simp[intOf];omega
  ·have z:k=a.length:=by omega
   subst z;obtain⟨m,A⟩:∃m,m=(kO a a.length).length:=⟨_,rfl⟩;rw[<-A] at i ⊢;clear A;go_wp2_with fail
   refine Calls.mono (TF m (by omega) w) ?_;rintro e1 w1 ⟨v1,rfl,hg1,nS,D7⟩;go_wp2;go_loopw [6,27] (λov r wr=>∃(k:Nat) (v4:Value),v4=ov/\r=.int .i64 k/\k<=a.length/\Ext w wr/\Own w.heap.size wr v4 (kO a k)/\w.drawn<=wr.drawn) (λ_ r _=>a.length-(intOf r).toNat)
   case atStart=>exact⟨0,v1,rfl,rfl,by omega,hg1,nS,D7⟩
   case round=>
    clear nS;obtain⟨k,v4,rfl,rfl,hk,F,hO,hdr⟩:=hrel;by_cases e:k<a.length
    ·have D:(k:Int)<a.length:=by omega
     obtain⟨b,off,a2,jx,rfl,_,_,J,M⟩:=dK.at K k e;have N:=F.cell J (by simp);have G:=Ints.ext M F;have O:=I.out.2 _ (iW e);have i:=I.out.1 k hk;have p:(kO a k).length+(gt a k).length<=2147483648:=by omega
     have T:=Lib.hid (And.intro G p);clear p G O i J;go_wp2_with (first|(at_builtin;refine TG rfl _ _ rfl w.heap.size _ (kO a k) rfl hO _ (gt a k) rfl _ T.out.1 T.out.2 F.size ?_;intro v5 w5 Q R S;have H:=fu F R (λj hj e=>by have:=(hO.lt j hj).1;omega))|fail)
     clear N;go_roundw
     case rel=>exact⟨k+1,v5,rfl,by go_num,by omega,H,Q,Nat.le_trans hdr S⟩
     case measure=>simp[intOf];omega
    ·have z:k=a.length:=by omega
     subst z
     obtain ⟨U,q,V,lJ⟩:∃U q V,v4=.slice U V q:=by
      rcases hO.2 with⟨h1,_⟩|⟨g,cp,_,h1,_⟩
      ·exact⟨_,_,_,h1⟩
      ·exact⟨_,_,_,h1⟩
     subst lJ;go_wp2;go_ret;exact⟨_,rfl,F,hO,hdr⟩
end Go.Proofs.YtoakmefajbbggaaGreat
