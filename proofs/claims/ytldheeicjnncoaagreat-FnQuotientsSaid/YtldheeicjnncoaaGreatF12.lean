/- Merged from templates. -/
import Derived.Test.YtldheeicjnncoaaGreatF11
set_option maxRecDepth 100000
set_option maxHeartbeats 8000000
namespace Go.Proofs.YtldheeicjnncoaaGreat
open Go.RowKit
attribute [local go_sem ↓] Go.wp_at_zero Go.wp_at_succ
def Sm (l:List Int):Prop:=∀x∈l,0<=x/\x<=7
theorem Sm.at {l:List Int}(h:Sm l) {i:Nat}(hi:i<l.length):0<=gt l i/\gt l i<=7:=h _ (by rw[gt_eq l i hi];exact List.getElem_mem hi)
theorem Sm.set {l:List Int}(h:Sm l) (i:Nat) {x:Int}(hx:0<=x/\x<=7):Sm (l.set i x):=λy hy=>by
 rcases List.mem_or_eq_of_mem_set hy with a|a
 ·exact h y a
 ·rw[a];exact hx
theorem w64_small (x:Int) (h:0<=x/\x<=1000):wrap64 x=x:=IntWalk.wrap64_in _ (by omega)
theorem i64_small (x:Int) (h:0<=x/\x<=1000):IntKind.i64.wrap x=x:=IntWalk.i64_in _ (by omega)
theorem sm_mul {a b:Int}(ha:0<=a/\a<=7) (e:0<=b/\b<=7):0<=a*b/\a*b<=49:=
 ⟨Int.mul_nonneg ha.1 e.1,Int.le_trans (Int.mul_le_mul ha.2 e.2 e.1 (by decide)) (by decide)⟩
theorem l02Times_ok (w:World) (p:Int) (vv rv:Value) (v:List Int) (R:List (List Int)) (c:Nat) (S S':Nat->Prop) (hv:Ints S w vv v) (hr:Rows2 S' w rv R) (hp:1<=p/\p<=7) (O:Sm v) (Q:∀x∈R,Sm x) (hc:c<=100) :
  Calls Tryz.prog 387 #[.int .i64 p,vv,rv,.int .i64 c] w (Ret w λw' r=>∃l,l.length=c/\Sm l/\Own w.heap.size w' r l):=by
 obtain⟨av,capv,rfl,_,_⟩:=hv.shape;obtain⟨ar,capr,rfl,_,_⟩:=Sl.shape hr;have HV:=Lib.hid (And.intro O Q);clear O Q;go_enter Tryz.func387,Tryz.ntmps387;go_wp2_with (at_make;refine wp_make_ints rfl _ _ rfl w.heap.size c w.heap.size rfl _ rfl rfl rfl (by omega) (Nat.le_refl _) ?_;intro w1 U V aC)
 go_loopw [10] (λiv wr=>∃(i:Nat) (l:List Int),iv=.int .i64 i/\i<=v.length/\l.length=c/\Sm l/\Ext w wr/\Own w.heap.size wr (.slice (some ⟨w.heap.size,0,none⟩) c c) l) (λiv _=>v.length-(intOf iv).toNat)
 case atStart=>exact⟨0,_,rfl,by omega,by simp,by intro x hx;rw[List.eq_of_mem_replicate hx];omega,V,U⟩
 case round=>
  clear U V;obtain⟨i,l,rfl,hi,m,e,A,hO⟩:=hrel;by_cases E:i<v.length
  ·have W:(i:Int)<v.length:=by omega
   by_cases F:i<R.length
   ·have X:(i:Int)<R.length:=by omega
    obtain⟨br,or,a2,cap2,rfl,_,_,B,G⟩:=Rows2.at hr i F;have Y:=HV.out.1.at E;have H:Sm (gt R i):=HV.out.2 _ (by rw[gt_eq R i F];exact List.getElem_mem F);obtain⟨z,hz⟩:∃z,z=gt R i:=⟨_,rfl⟩;rw[<-hz] at B G H;have HR:=Lib.hid (And.intro H (And.intro Y hz));clear H Y hz;have HL:=Lib.hid (And.intro m e);clear m e;have u:=A.cell B (by simp);go_wp2;clear u;go_loopw [11] (λjv wx=>∃(j:Nat) (l:List Int),jv=.int .i64 j/\j<=z.length/\l.length=c/\Sm l/\Ext w wx/\Own w.heap.size wx (.slice (some ⟨w.heap.size,0,none⟩) c c) l) (λjv _=>z.length-(intOf jv).toNat)
    case atStart=>exact⟨0,l,rfl,by omega,HL.out.1,HL.out.2,A,hO⟩
    case round=>
     clear hO A HL;obtain⟨j,l,rfl,hj,m,e,A,hO⟩:=hrel;have u:=A.cell B (by simp);by_cases aF:j<c
     ·have I:(j:Int)<c:=by omega
      by_cases C:j<z.length
      ·have J:(j:Int)<z.length:=by omega
       obtain⟨bz,oz,rfl,_,_,K⟩:=Ints.at (Ints.ext G A) j C;obtain⟨bv,ov,rfl,_,_,L⟩:=Ints.at (Ints.ext hv A) i E;have M:=hO.cell j (by omega);have Z:=hO.frozen j;have ha:=HR.out.2.1;have hb:=HR.out.1.at C;have hx:=e.at (show j<l.length by omega);obtain⟨a,aa⟩:∃a,a=gt v i:=⟨_,rfl⟩;obtain⟨b,ac⟩:∃b,b=gt z j:=⟨_,rfl⟩;obtain⟨x,ad⟩:∃x,x=gt l j:=⟨_,rfl⟩;rw[<-aa] at ha L;rw[<-ac] at hb K;rw[<-ad] at hx M;have ao:=sm_mul ha hb;obtain⟨q,y⟩:∃q,q=a*b:=⟨_,rfl⟩;rw[<-y] at ao;have ap:0<=(x+q)%p:=Int.emod_nonneg _ (by omega);have aJ:(x+q)%p<p:=Int.emod_lt_of_pos _ (by omega);obtain⟨ae,hgs⟩:=hO.store j ((x+q)%p);have D:=e.set j (x:=(x+q)%p) ⟨ap,by omega⟩;have af:=grown_own A hgs (λk hk E=>by cases hk;omega);clear aa ac ad;have aK:p≠0:=by omega
       have ag:(l.set j ((x+q)%p)).length=c:=by rw[List.length_set];exact m
       have aq:=i64_small (x+q) (by omega);have au:IntKind.i64.wrap (a*b)=q:=by rw[<-y];exact i64_small q (by omega)
       have aw:wrap64 (a*b)=q:=by rw[<-y];exact w64_small q (by omega)
       have ax:=w64_small (x+q) (by omega);have c1:wr.drew.cell? ⟨w.heap.size,j,none⟩=some (.int .i64 x):=M;have c2:wr.drew.cell? ⟨bv,ov+i,none⟩=some (.int .i64 a):=L;have c3:wr.drew.cell? ⟨br,or+i,none⟩=some (.slice (some ⟨bz,oz,none⟩) z.length cap2):=u;have c4:wr.drew.cell? ⟨bz,oz+j,none⟩=some (.int .i64 b):=K;have c5:wr.drew.frozen? ⟨w.heap.size,j,none⟩=false:=Z;clear M L K Z y hO;have ah:=ae.ext0 (grown_drew (wr.setCell ⟨w.heap.size,j,none⟩ (.int .i64 ((x+q)%p))) none);have ai:=grown_trans af (grown_drew (wr.setCell ⟨w.heap.size,j,none⟩ (.int .i64 ((x+q)%p))) none);have HQ:=Lib.hid (And.intro ah (And.intro ai (And.intro D ag)));clear ae hgs af D ag ah ai;go_wp2;clear u;go_still_tail 22,(by kernel_rfl)
       change wpList _ _ _ _ _ wr.drew;clear B G;go_wp2;clear au aq aw ax;go_roundw
       case rel=>exact⟨j+1,_,by go_num,by omega,HQ.out.2.2.2,HQ.out.2.2.1,HQ.out.2.1,HQ.out.1⟩
       case measure=>simp[intOf];omega
      ·have J:¬((j:Int)<z.length):=by omega
       have N:=A;go_wp2;go_roundw
       case rel=>exact⟨i+1,l,by go_num,by omega,m,e,N,hO⟩
       case measure=>simp[intOf];omega
     ·have I:¬((j:Int)<c):=by omega
      have N:=A;go_wp2;go_roundw
      case rel=>exact⟨i+1,l,by go_num,by omega,m,e,N,hO⟩
      case measure=>simp[intOf];omega
   ·have X:¬((i:Int)<R.length):=by omega
    go_wp2;go_ret;exact⟨_,rfl,A,l,m,e,hO⟩
  ·have W:¬((i:Int)<v.length):=by omega
   go_wp2;go_ret;exact⟨_,rfl,A,l,m,e,hO⟩
def SmR (c:Nat) (R:List (List Int)):Prop:=∀x∈R,x.length=c/\Sm x
theorem l02Product_ok (w:World) (p:Int) (N O:Value) (A R:List (List Int)) (c:Nat) (S S':Nat->Prop) (ha:Rows2 S w N A) (hr:Rows2 S' w O R) (X:1<=p/\p<=7) (Q:SmR c A) (U:SmR c R) (Y:c<=100) (hl:A.length<=100) :
  Calls Tryz.prog 362 #[.int .i64 p,N,O,.int .i64 c] w (Ret w λw' r=>∃L,L.length=A.length/\SmR c L/\RowsO w.heap.size w' r L):=by
 obtain⟨aa,capa,rfl,_,_⟩:=Sl.shape ha;obtain⟨ar,capr,rfl,_,_⟩:=Sl.shape hr;have V:=Lib.hid (And.intro Q U);clear Q U;go_enter Tryz.func362,Tryz.ntmps362;go_wp2;go_loopw [9,10] (λZ I wr=>∃(i:Nat) (v4:Value) (L:List (List Int)),v4=Z/\I=.int .i64 i/\i<=A.length/\L.length=i/\SmR c L/\Ext w wr/\RowsO w.heap.size wr v4 L) (λ_ I _=>A.length-(intOf I).toNat)
 case atStart=>exact⟨0,_,[],rfl,rfl,by omega,rfl,(λx hx=>by cases hx),World.grownBy_alloc _ _ _,[],λ_ _=>False,rfl,World.ownsRow_lit w #[] 0 (Nat.le_refl _) (by decide) rfl,by simp,by simp,by simp⟩
 case round=>
  obtain⟨i,v4,L,rfl,rfl,hi,a,e,q,hO⟩:=hrel;by_cases u:i<A.length
  ·have y:(i:Int)<A.length:=by omega
   obtain⟨b,off,a2,cap2,rfl,_,_,hcc,J⟩:=Rows2.at (Rows2.ext ha q) i u;have z:=V.out.1 _ (gtMem u);have B:∀x∈R,Sm x:=λx hx=>(V.out.2 x hx).2;have k:=l02Times_ok wr p _ _ (gt A i) R c _ _ J (Rows2.ext hr q) X z.2 B Y;have C:L.length<=1000000:=by omega
   have m:=Lib.hid (And.intro a (And.intro e C));clear a e C z B;go_wp2_with fail
   refine Calls.mono k ?_;rintro eC W ⟨vC,rfl,gm,l,D,E,fT⟩;clear k;have F:OwnIn (From wr.heap.size) W vC l:=OwnIn.of fT (by omega) (λj h1 _=>h1);obtain⟨ay,capy,gz,_,_⟩:=F.ints.shape;subst gz;have HC:=Lib.hid (And.intro D E);clear hcc D E;go_wp2_with (first|(at_builtin;refine wp_app_row rfl _ _ rfl w.heap.size wr W v4 _ L l rfl hO gm F rfl rfl m.out.2.2 q.size ?_;intro v5 w5 K M ad;have G:=hO.extw q (Nat.le_refl _) M)|fail)
   go_roundw
   case rel=>exact⟨i+1,v5,L++[l],rfl,by go_num,by omega,by rw[List.length_append,m.out.1];rfl,λx hx=>by
    rcases List.mem_append.1 hx with h|h
    ·exact m.out.2.1 x h
    ·rw[List.mem_singleton.1 h];exact HC.out,G,K⟩
   case measure=>simp[intOf];omega
  ·have H:i=A.length:=by omega
   obtain⟨az,capz,fR,_,_⟩:=SlD.shape (hO.toD (by omega));subst fR;have y:¬((i:Int)<A.length):=by omega
   have m:=Lib.hid (And.intro a (And.intro e H));clear a e H;go_wp2;go_ret;exact⟨_,rfl,q,L,by rw[m.out.1,m.out.2.2],m.out.2.1,hO⟩
def LetW (n:Nat) (w:List Int):Prop:=∀x∈w,x≠0 /\ -n<=x/\x<=n
def VecR (n M B:Nat) (w':World) (v:Value):Prop:=∃(a:Option Addr) (k c:Nat) (r:Bool),v=.tuple #[.slice a k c,.bool r]/\(r=true->∃l,l.length=n/\k=n/\(∀x∈l,0<=x/\x<=(M:Int))/\Own B w' (.slice a k c) l)
theorem i64_1000 (x:Int) (h:0<=x/\x<=100000):IntKind.i64.wrap x=x:=IntWalk.i64_in _ (by omega)
theorem w64_1000 (x:Int) (h:0<=x/\x<=100000):wrap64 x=x:=IntWalk.wrap64_in _ (by omega)
theorem l07Vector_ok (w:World) (n:Nat) (W:Value) (L:List Int) (S:Nat->Prop) (X:Ints S w W L) (Y:LetW n L) (hn:n<=100) (hl:L.length<=1000) :
  Calls Tryz.prog 382 #[.int .i64 n,W] w (Ret w (VecR n L.length w.heap.size)):=by
 obtain⟨al,capl,rfl,_,_⟩:=X.shape;have HW:=Lib.hid Y;clear Y;go_enter Tryz.func382,Tryz.ntmps382;go_wp2_with (at_make;refine wp_make_ints rfl _ _ rfl w.heap.size n w.heap.size rfl _ rfl rfl rfl (by omega) (Nat.le_refl _) ?_;intro w1 B C Z)
 go_loopw [7] (λQ wr=>∃(i:Nat) (l:List Int),Q=.int .i64 i/\i<=L.length/\l.length=n/\(∀x∈l,0<=x/\x<=i)/\Ext w wr/\Own w.heap.size wr (.slice (some ⟨w.heap.size,0,none⟩) n n) l) (λQ _=>L.length-(intOf Q).toNat)
 case atStart=>exact⟨0,_,rfl,by omega,by simp,(λx hx=>by rw[List.eq_of_mem_replicate hx];omega),C,B⟩
 case round=>
  clear B C;obtain⟨i,l,rfl,hi,j,a,O,hO⟩:=hrel;by_cases u:i<L.length
  ·have aa:(i:Int)<L.length:=by omega
   obtain⟨b,off,rfl,_,_,R⟩:=Ints.at (Ints.ext X O) i u;have hx:=HW.out _ (gtMem u);obtain⟨x,D⟩:∃x,x=gt L i:=⟨_,rfl⟩;rw[<-D] at R hx;clear D;by_cases ab:x<0
   ·have U:=Lib.hid (And.intro j (And.intro a hx));clear j a hx
    go_wp2;exact bodyPost_ret (v := .tuple #[.slice none 0 0,.bool false]) (by simp[results,Tryz.results382,go_sem]) rfl ⟨_,rfl,O,none,0,0,false,rfl,λh=>by cases h⟩
   ·obtain ⟨J,hJx⟩:=Int.eq_ofNat_of_zero_le (show 0<=x-1 by omega)
    obtain rfl:x=(J:Int)+1:=by omega
    clear hJx;have hJ:J<n:=by omega
    have ad:(J:Int)<n:=by omega
    have hy:=a _ (gtMem (show J<l.length by omega));have A:=hO.cell J (by omega);have E:=hO.frozen J;obtain⟨y,F⟩:∃y,y=gt l J:=⟨_,rfl⟩;rw[<-F] at hy A;obtain⟨G,hgs⟩:=hO.store J (y+1);have H:=grown_own O hgs (λk hk u=>by cases hk;omega);have I:(l.set J (y+1)).length=n:=by rw[List.length_set];exact j
    have K:∀z∈l.set J (y+1),0<=z/\z<=((i+1:Nat):Int):=λz hz=>by
     rcases List.mem_or_eq_of_mem_set hz with h|h
     ·have:=a z h;omega
     ·omega
    have M:=G.ext0 (grown_drew (wr.setCell ⟨w.heap.size,J,none⟩ (.int .i64 (y+1))) none);have N:=grown_trans H (grown_drew (wr.setCell ⟨w.heap.size,J,none⟩ (.int .i64 (y+1))) none);have e:=i64_1000 (J:Int) (by omega);have m:=i64_1000 (y+1) (by clear e;omega);have p:=w64_1000 (J:Int) (by clear e m;omega);have q:=w64_1000 (y+1) (by clear e m p;omega);have r:=Lib.hid (And.intro M (And.intro N (And.intro I (And.intro K (And.intro e (And.intro m (And.intro p q)))))));clear M N I K e m p q hgs H G F j a hx;have c1:wr.drew.cell? ⟨w.heap.size,J,none⟩=some (.int .i64 y):=A;have c2:wr.drew.cell? ⟨b,off+i,none⟩=some (.int .i64 ((J:Int)+1)):=R;have c3:wr.drew.frozen? ⟨w.heap.size,J,none⟩=false:=E;clear A E hO;go_wp2;clear R;have e:=r.out.2.2.2.2.1;have m:=r.out.2.2.2.2.2.1;have p:=r.out.2.2.2.2.2.2.1;have q:=r.out.2.2.2.2.2.2.2;go_still_tail 16,(by kernel_rfl)
    change wpList _ _ _ _ _ wr.drew;go_wp2;clear e m p q;go_roundw
    case rel=>exact⟨i+1,_,by go_num,by omega,r.out.2.2.1,r.out.2.2.2.1,r.out.2.1,r.out.1⟩
    case measure=>simp[intOf];omega
  ·have V:i=L.length:=by omega
   subst V;have U:=Lib.hid (And.intro j a);clear j a;go_wp2;exact bodyPost_ret (v := .tuple #[.slice (some ⟨w.heap.size,0,none⟩) n n,.bool true]) (by simp[results,Tryz.results382,go_sem]) rfl ⟨_,rfl,O,_,_,_,true,rfl,λ_=>⟨l,U.out.1,rfl,U.out.2,hO⟩⟩
def ParR (k M B:Nat) (w':World) (v:Value):Prop:=∃(a:Option Addr) (n c:Nat) (r:Bool),v=.tuple #[.slice a n c,.bool r]/\(r=true->∃l,l.length<=M/\n=l.length/\LetW k l/\Own B w' (.slice a n c) l)
theorem l06Parse_ok (w:World) (k:Nat) (s:ByteArray) (hk:k<=100) (S:s.size<=1000) :
  Calls Tryz.prog 381 #[.int .i64 k,.string s] w (Ret w (ParR k s.size w.heap.size)):=by
 rcases h1:(s.toList == [49]) with _|_
 case' true=>
  go_enter Tryz.func381,Tryz.ntmps381;go_wp2;exact bodyPost_ret (v := .tuple #[.slice (some ⟨w.heap.size,0,none⟩) 0 0,.bool true]) (by simp[results,Tryz.results381,go_sem]) rfl ⟨_,rfl,World.grownBy_alloc _ _ _,_,_,_,true,rfl,λ_=>⟨[],by simp,rfl,(λx hx=>by cases hx),World.ownsRow_lit w #[] 0 (Nat.le_refl _) (by decide) rfl⟩⟩
 go_enter Tryz.func381,Tryz.ntmps381;go_wp2;go_loopw [6,7] (λQ K wr=>∃(i:Nat) (l:List Int) (v4:Value),v4=Q/\K=.int .i64 i/\i<=s.size/\l.length=i/\LetW k l/\Ext w wr/\Own w.heap.size wr v4 l) (λ_ K _=>s.size-(intOf K).toNat)
 case atStart=>exact⟨0,[],_,rfl,rfl,by omega,rfl,(λx hx=>by cases hx),World.grownBy_alloc _ _ _,World.ownsRow_lit w #[] 0 (Nat.le_refl _) (by decide) rfl⟩
 case round=>
  obtain⟨i,l,v4,rfl,rfl,hi,m,p,hg,hO⟩:=hrel;by_cases D:i<s.size
  ·have E:(i:Int)<s.size:=by omega
   have r:=Lib.hid (And.intro m p);clear m p;go_wp2;go_quiet (fail)
   rename_i nq;generalize wrap64 (wrap64 (wrap64 (s[i].toNat:Int)-97)+1)=sm;generalize wrap64 (wrap64 (wrap64 (s[i].toNat:Int)-65)+1)=u;obtain⟨y,z⟩:∃y,y=wr.drewN nq:=⟨_,rfl⟩;have a:Ext wr y:=by rw[z];exact grown_drewN _ _ _
   rw[<-z];have b:=grown_trans hg a;have q:=hO.ext0 a;clear z a hO hg;have F:l.length<=1000000:=by have:=r.out.1;omega
   go_wp2_with fail
   refine Calls.mono (l01In_ok sm 1 k y) ?_;rintro _ _ ⟨rfl,rfl⟩;rcases A:inB sm 1 k with _|_
   ·go_wp2_with fail
    refine Calls.mono (l01In_ok u 1 k y) ?_;rintro _ _ ⟨rfl,rfl⟩;rcases G:inB u 1 k with _|_
    ·go_wp2
     exact bodyPost_ret (v := .tuple #[.slice none 0 0,.bool false]) (by simp[results,Tryz.results381,go_sem]) rfl ⟨_,rfl,b,none,0,0,false,rfl,λh=>by cases h⟩
    ·have H:1<=u/\u<=k:=by simpa [inB] using G
     have I:wrap64 (-u) = -u:=IntWalk.wrap64_in _ (by omega);have L:=Lib.hid H;clear H A G;go_wp2_with (first|(at_builtin;refine wp_app_int rfl _ _ rfl w.heap.size v4 l (-u) rfl y q rfl rfl F b.size ?_;intro v5 R B C;have e:=grown_own b C (λj M D=>by have:=(q.lt j M).1;omega))|fail)
     clear I;go_roundw
     case rel=>exact⟨i+1,_,v5,rfl,by go_num,by omega,by rw[List.length_append,r.out.1];rfl,(λx hx=>by
      rcases List.mem_append.1 hx with h|h
      ·exact r.out.2 x h
      ·rw[List.mem_singleton.1 h];have:=L.out;omega),e,B⟩
     case measure=>simp[intOf];omega
   ·have J:1<=sm/\sm<=k:=by simpa [inB] using A
    have L:=Lib.hid J;clear J A;go_wp2_with (first|(at_builtin;refine wp_app_int rfl _ _ rfl w.heap.size v4 l sm rfl y q rfl rfl F b.size ?_;intro v5 R B C;have e:=grown_own b C (λj M D=>by have:=(q.lt j M).1;omega))|fail)
    go_roundw
    case rel=>exact⟨i+1,_,v5,rfl,by go_num,by omega,by rw[List.length_append,r.out.1];rfl,(λx hx=>by
     rcases List.mem_append.1 hx with h|h
     ·exact r.out.2 x h
     ·rw[List.mem_singleton.1 h];have:=L.out;omega),e,B⟩
    case measure=>simp[intOf];omega
  ·have N:i=s.size:=by omega
   have E:¬((i:Int)<s.size):=by omega
   obtain⟨O,c8,gj,_⟩:=(hO.ints (by omega)).shape;subst gj;have r:=Lib.hid (And.intro m p);clear m p N;go_wp2;exact bodyPost_ret (v := .tuple #[.slice O l.length c8,.bool (decide ((0:Int)<l.length))]) (by simp[results,Tryz.results381,go_sem]) rfl ⟨_,rfl,hg,O,l.length,c8,_,rfl,λ_=>⟨l,by have:=r.out.1;omega,rfl,r.out.2,hO⟩⟩
end Go.Proofs.YtldheeicjnncoaaGreat
namespace Go.Proofs.YtldheeicjnncoaaGreat
open Go.RowKit
theorem und_strs:Tryz.prog.underlying 250=some (.slice 9):=by kernel_rfl
theorem Tryz.infoStr:(Tryz.prog.info? 9).map (λi=>(i.zero,i.size,i.bytes))=some (some (.string ⟨#[]⟩),1,16):=by kernel_rfl
def StrsR (M B:Nat) (w':World) (v:Value):Prop:=∃(a:Option Addr) (c:Nat) (ts:List ByteArray),v=.slice a ts.length c/\1<=ts.length/\ts.length<=M+1/\(∀t∈ts,t.size<=M)/\OwnV B 9 w' (.slice a ts.length c) (ts.map Value.string)
theorem ext_size_le (s:ByteArray) (a b:Nat) (M:Nat) (h:s.size<=M):(s.extract a b).size<=M:=by
 simp[ByteArray.size_extract];omega
theorem l01Split_ok (w:World) (s:ByteArray) (b:Int) (K:s.size<=1000) :
  Calls Tryz.prog 356 #[.string s,.int .u8 b] w (Ret w (StrsR s.size w.heap.size)):=by
 go_enter Tryz.func356,Tryz.ntmps356;go_wp2;go_loopw [5,6,7] (λF G B wr=>∃(i f:Nat) (ts:List ByteArray) (v4:Value),v4=F/\G=.int .i64 f/\B=.int .i64 i/\i<=s.size/\f<=i/\ts.length<=i/\(∀t∈ts,t.size<=s.size)/\Ext w wr/\OwnV w.heap.size 9 wr v4 (ts.map Value.string)) (λ_ _ B _=>s.size-(intOf B).toNat)
 case atStart=>exact⟨0,0,[],_,rfl,rfl,rfl,by omega,by omega,by simp,(λx hx=>by cases hx),World.grownBy_alloc _ _ _,World.ownsRow_lit w #[] 0 (Nat.le_refl _) (by decide) rfl⟩
 case round=>
  obtain⟨i,f,ts,v4,rfl,rfl,rfl,hi,hf,p,q,r,hO⟩:=hrel;have H:(f:Int)<=i:=by omega
  have u:(ts.map Value.string).length<=1000000:=by rw[List.length_map];omega
  have k:=Lib.hid (And.intro p (And.intro q u));clear p q u;by_cases y:i<s.size
  ·have z:(i:Int)<s.size:=by omega
   go_wp2_with (first|(at_builtin;refine wp_app_v 250 9 (.string ⟨#[]⟩) 16 und_strs Tryz.infoStr rfl (by decide) rfl _ _ rfl w.heap.size wr v4 _ (ts.map Value.string) rfl hO rfl rfl rfl k.out.2.2 r.size ?_;intro v5 E l m;have e:=grown_own r m (λj C y=>by have:=(hO.lt j C).1;omega))|fail)
   ·go_roundw
    case rel=>exact⟨i+1,i+1,ts++[s.extract f i],v5,rfl,by go_num,by go_num,by omega,by omega,by rw[List.length_append,List.length_singleton];have:=k.out.1;omega,(λt D=>by
     rcases List.mem_append.1 D with h|h
     ·exact k.out.2.1 t h
     ·rw[List.mem_singleton.1 h];exact ext_size_le s f i _ (Nat.le_refl _)),e,by rw[List.map_append];exact l⟩
    case measure=>simp[intOf];omega
   ·go_roundw
    case rel=>exact⟨i+1,f,ts,v4,rfl,rfl,by go_num,by omega,by omega,by have:=k.out.1;omega,k.out.2.1,r,hO⟩
    case measure=>simp[intOf];omega
  ·have z:¬((i:Int)<s.size):=by omega
   go_wp2_with (first|(at_builtin;refine wp_app_v 250 9 (.string ⟨#[]⟩) 16 und_strs Tryz.infoStr rfl (by decide) rfl _ _ rfl w.heap.size wr v4 _ (ts.map Value.string) rfl hO rfl rfl rfl k.out.2.2 r.size ?_;intro v5 E l m;have e:=grown_own r m (λj C y=>by have:=(hO.lt j C).1;omega))|fail)
   have I:(ts++[s.extract f s.size]).length=ts.length+1:=by simp
   have A:OwnV w.heap.size 9 E v5 ((ts++[s.extract f s.size]).map Value.string):=by rw[List.map_append];exact l
   obtain ⟨J,c5,rfl⟩:∃a c,v5=.slice a (ts++[s.extract f s.size]).length c:=by
    rcases A.form with⟨rfl,hn⟩|⟨g,cap,rfl,_,_,_⟩
    ·have:=congrArg List.length hn;simp at this
    ·exact⟨_,_,by rw[List.length_map]⟩
   go_ret
   exact ⟨_,rfl,e,J,c5,ts++[s.extract f s.size],rfl,by omega,by have:=k.out.1;omega,(λt D=>by
     rcases List.mem_append.1 D with h|h
     ·exact k.out.2.1 t h
     ·rw[List.mem_singleton.1 h];exact ext_size_le s f _ _ (Nat.le_refl _)),A⟩
end Go.Proofs.YtldheeicjnncoaaGreat
namespace Go.Proofs.YtldheeicjnncoaaGreat
open Go.RowKit
attribute [local go_sem ↓] Go.wp_at_zero Go.wp_at_succ
theorem l01Value_ok (w:World) (s:ByteArray) (m:s.size<=1000) :
  Calls Tryz.prog 380 #[.string s] w (Ret w λ_ v=>∃x:Int,v=.int .i64 x):=by
 have a:(Ret w λ(_:World) v=>∃x:Int,v=.int .i64 x) (.returned (.int .i64 (-1))) w:=⟨_,rfl,Ext.refl _,_,rfl⟩;by_cases p:s.size=0
 ·go_enter Tryz.func380,Tryz.ntmps380
  go_wp2;go_ret;exact⟨_,rfl,Ext.refl _,_,rfl⟩
 by_cases q:6<s.size
 ·go_enter Tryz.func380,Tryz.ntmps380
  go_wp2;go_ret;exact⟨_,rfl,Ext.refl _,_,rfl⟩
 clear a;go_enter Tryz.func380,Tryz.ntmps380;go_wp2
 all_goals first
  | (go_ret;exact⟨_,rfl,Ext.refl _,_,rfl⟩)
  | skip
 all_goals
  (try generalize (((s[0]'(by assumption)).toNat:Int) == 48)=z2)
  (try generalize (s[0]'(by assumption)).toNat=c0)
  (try generalize ((s.size:Int) == 0)=z0)
  (try generalize decide ((6:Int)<s.size)=z1)
  go_loopw [3,4] (λj e k=>∃(i:Nat) (x:Int),j=.int .i64 x/\e=.int .i64 i/\i<=s.size/\k=w) (λ_ e _=>s.size-(intOf e).toNat)
  case atStart=>exact⟨0,0,rfl,rfl,by omega,rfl⟩
  case round=>
   obtain⟨i,x,rfl,rfl,hi,rfl⟩:=hrel;by_cases l:i<s.size
   ·have b:(i:Int)<s.size:=by omega
    go_wp2
    all_goals first
     | (go_ret;exact⟨_,rfl,Ext.refl _,_,rfl⟩)
     | skip
    all_goals
     go_roundw
     case rel=>exact⟨i+1,_,rfl,by go_num,by omega,trivial⟩
     case measure=>simp[intOf];omega
   ·have b:¬((i:Int)<s.size):=by omega
    go_wp2;go_ret;exact⟨_,rfl,Ext.refl _,_,rfl⟩
end Go.Proofs.YtldheeicjnncoaaGreat
namespace Go.Proofs.YtldheeicjnncoaaGreat
open Go.RowKit
def OrdsR (B:Nat) (w':World) (v:Value):Prop:=∃(a:Option Addr) (n c:Nat) (r:Bool),v=.tuple #[.slice a n c,.bool r]/\(r=true->∃o,n=o.length/\o.length<=6/\(∀x∈o,primeB x=true)/\Own B w' (.slice a n c) o)
theorem StrsR.at {B:Nat}{w:World}{a:Option Addr}{c:Nat}{ts:List ByteArray}(h:OwnV B 9 w (.slice a ts.length c) (ts.map Value.string)) (i:Nat) (hi:i<ts.length) :
  ∃b,a=some ⟨b,0,none⟩/\w.cell? ⟨b,i,none⟩=some (.string (gt ts i)):=by
 rcases h.form with⟨e,hn⟩|⟨g,cap,e,_,_,_⟩
 ·have:ts=[]:=by simpa using hn
  subst this;simp at hi
 ·simp only[Value.slice.injEq] at e
  obtain⟨rfl,_,_⟩:=e;refine⟨g,rfl,?_⟩;have:=h.cell i (by rw[List.length_map];exact hi);rw[gt_map _ _ _ hi] at this;exact this
theorem prime_bd {x:Int}(h:primeB x=true):1<=x/\x<=7:=by
 unfold primeB at h;simp at h;omega
theorem l07Orders_ok (w:World) (s:ByteArray) (hs:s.size<=1000) :
  Calls Tryz.prog 357 #[.string s] w (Ret w (OrdsR w.heap.size)):=by
 rcases h1:(s.toList == [49]) with _|_
 case' true=>
  go_enter Tryz.func357,Tryz.ntmps357;go_wp2;go_ret2
  exact⟨_,rfl,World.grownBy_alloc _ _ _,_,_,_,true,rfl,λ_=>⟨[],rfl,by simp,(λx hx=>by cases hx),World.ownsRow_lit w #[] 0 (Nat.le_refl _) (by decide) rfl⟩⟩
 go_enter Tryz.func357,Tryz.ntmps357;go_wp2_with fail
 have Q:Ext w (w.alloc (.cells #[] 2)):=World.grownBy_alloc _ _ _;have p:(w.alloc (.cells #[] 2)).heap.size=w.heap.size+1:=by simp
 have p:=Lib.hid p;have r:Own w.heap.size (w.alloc (.cells #[] 2)) (.slice (some ⟨w.heap.size,0,none⟩) 0 0) []:=World.ownsRow_lit w #[] 0 (Nat.le_refl _) (by decide) rfl;generalize w.alloc (.cells #[] 2)=w0 at *;refine Calls.mono (l01Split_ok w0 s 32 hs) ?_;rintro e1 R ⟨v1,rfl,hg1,a1,c1,ts,rfl,u,z,A,hT⟩;have B:=r.ext0 hg1;have C:=grown_trans Q hg1;have HL:=Lib.hid (And.intro u (And.intro z A));clear u z A r;go_wp2_with fail
 go_loopw [4,6] (λov S wr=>∃(i:Nat) (o:List Int) (v4:Value),v4=ov/\S=.int .i64 i/\i<=ts.length/\o.length=i/\o.length<=6/\(∀x∈o,primeB x=true)/\Ext w wr/\Own w.heap.size wr v4 o/\R.grownBy wr (some w.heap.size)/\(∀k,v4.ownBlock=some k->k=w.heap.size\/R.heap.size<=k)) (λ_ S _=>ts.length-(intOf S).toNat)
 case atStart=>exact⟨0,[],_,rfl,rfl,by omega,rfl,by simp,(λx hx=>by cases hx),C,B,grown_refl _ _,λk hk => .inl (own_blk hk)⟩
 case round=>
  clear B;obtain⟨i,o,v4,rfl,rfl,hi,D,ho6,E,hg,hO,hgr,F⟩:=hrel;have U:o.length<=1000000:=by omega
  have G:=Lib.hid (And.intro D E);clear D E;by_cases e:i<ts.length
  ·have H:(i:Int)<ts.length:=by omega
   obtain⟨b,rfl,hc0⟩:=StrsR.at hT i e;have I:=hT.lt b rfl;have ae:=p.out;have hc:=hgr.cell hc0 (by simp;omega);have V:(gt ts i).size<=1000:=by have:=HL.out.2.2 _ (gtMem e);omega
   clear hc0;go_wp2_with fail
   refine Calls.mono (l01Value_ok wr (gt ts i) V) ?_;rintro e2 Z ⟨v2,rfl,q,x,rfl⟩;have J:=hO.ext0 q;have a:=grown_trans hg q;have l:=grown_trans hgr (grown_of_ext _ q);have aa:=l.size;have K:=Lib.hid (And.intro F I);clear F I;clear hc hO;go_wp2_with fail
   refine Calls.mono (l01Prime_ok x Z) ?_;rintro _ _ ⟨rfl,rfl⟩;rcases hp:primeB x with _|_
   ·go_wp2_with fail
    go_ret2
    exact⟨_,rfl,a,none,0,0,false,rfl,λh=>by cases h⟩
   ·by_cases h6:6<=i
    ·have W:(6:Int)<=i:=by omega
     go_wp2_with fail
     go_ret2
     exact⟨_,rfl,a,none,0,0,false,rfl,λh=>by cases h⟩
    ·have W:¬(6:Int)<=i:=by omega
     go_wp2_with (first|(at_builtin;refine wp_app_intb rfl _ _ rfl w.heap.size v4 o x rfl Z J rfl rfl U a.size ?_;intro v5 w5 X L Y;have M:=grown_own a L (λj N e=>by have:=(J.lt j N).1;omega))|fail)
     have O:R.grownBy w5 (some w.heap.size):=grown_own l L (λj N e=>by rcases K.out.1 j N with h|h;rw[h];omega);have ai:(o++[x]).length=o.length+1:=by simp
     go_roundw
     case rel=>exact⟨i+1,o++[x],v5,rfl,by go_num,by omega,by have:=G.out.1;omega,by have:=G.out.1;omega,(λy hy=>by
      rcases List.mem_append.1 hy with h|h
      ·exact G.out.2 y h
      ·rw [List.mem_singleton.1 h];exact hp),M,X,O,(λk hk=>by
       rcases Y with h|h
       ·rw[h] at hk;exact K.out.1 k hk
       ·have:=h k hk;omega)⟩
     case measure=>simp[intOf];omega
  ·have H:¬((i:Int)<ts.length):=by omega
   have m:=l07Product_ok wr v4 o _ (hO.ints (by omega)) (λj N=>prime_bd (G.out.2 _ (gtMem N)));go_wp2_with fail
   refine Calls.mono m ?_;rintro _ _ ⟨rfl,rfl⟩;clear m;obtain⟨a4,c4,hv4,_⟩:=(hO.ints (by omega)).shape;subst hv4;go_wp2_with fail
   go_ret2
   exact⟨_,rfl,hg,_,_,_,_,rfl,λ_=>⟨o,rfl,ho6,G.out.2,hO⟩⟩
def letN (x:Int):Int:=if 0<x then 96+x else 64-x
def wtx (W:List Int):List Int:=if W=[] then [49] else W.map letN
theorem wtx_len (W:List Int) (n:Nat) (h:W.length<=n):(wtx W).length<=n+1:=by
 unfold wtx;split<;>simp;omega
theorem wp_app_byte {ops:Array Oper}{rest:List Oper}{o:Oper}{a:Act}{Q:Exit->Act->World->Prop}{w:World}(k:o.guard=none) (s x:Operand)
  (m:o.op=Op.call { callee:=Callee.builtin Builtin.append,args := #[s,x],argTypes := #[22,22] }) (B:Nat) (v:Value) (l:List Int) (y:Int) (p:a.eval s=v) (e:World) (i:OwnV B 5 e v (byV l))
  (q:w=e.alloc (.cells #[.int .u8 y] 5)) (hx:a.eval x=.slice (some ⟨e.heap.size,0,none⟩) 1 1) (j:l.length<=1000000) (b:B<=e.heap.size)
  (h:∀v' w',OwnV B 5 w' v' (byV (l++[y]))->e.grownBy w' v.ownBlock->wpList Tryz.prog ops Q rest (a.put o.dst v') w') :
  wpList Tryz.prog ops Q (o :: rest) a w:=
 wp_app_v 22 5 (.int .u8 0) 1 und_bytes Tryz.infoByte rfl (by decide) k s x m B e v (.int .u8 y) (byV l) p i q rfl hx (by unfold byV;rw[List.length_map];exact j) b
  (λv' w' h1 r=>h v' w' (by unfold byV at h1 ⊢;rw[List.map_append];exact h1) r)
theorem u8_in (x:Int) (h:0<=x/\x<=255):IntKind.u8.wrap x=x:=by
 simp only[IntKind.wrap,IntKind.signed,IntKind.bits];simp;omega
theorem l06Text_ok (w:World) (v:Value) (W:List Int) (S:Nat->Prop) (hW:Ints S w v W) (H:∀x∈W,-26<=x/\x<=26) (Q:W.length<=1000) :
  Calls Tryz.prog 385 #[v] w (Ret w λ_ r=>r=.string (strOfNums (wtx W))):=by
 obtain⟨a,cap,rfl,_,_⟩:=hW.shape;by_cases C:W.length=0
 ·have hn:W=[]:=List.eq_nil_of_length_eq_zero C
  subst hn;go_enter Tryz.func385,Tryz.ntmps385;go_wp2;go_ret;exact⟨_,rfl,Ext.refl _,rfl⟩
 have R:((W.length:Int) == 0)=false:=by simp;intro h;apply C;rw[h];rfl
 have z:wtx W=W.map letN:=by unfold wtx;rw[if_neg (λh=>C (by rw[h];rfl))]
 have I:=Lib.hid (And.intro H z);clear H z C;go_enter Tryz.func385,Tryz.ntmps385;go_wp2;go_loopw [3,4] (λL D wr=>∃(i:Nat) (v4:Value),v4=L/\D=.int .i64 i/\i<=W.length/\Ext w wr/\OwnV w.heap.size 5 wr v4 (byV ((W.take i).map letN))) (λ_ D _=>W.length-(intOf D).toNat)
 case atStart=>exact⟨0,_,rfl,rfl,by omega,World.grownBy_alloc _ _ _,World.ownsRow_lit w #[] 0 (Nat.le_refl _) (by decide) rfl⟩
 case round=>
  obtain⟨i,v4,rfl,rfl,hi,y,hO⟩:=hrel;by_cases k:i<W.length
  ·have J:(i:Int)<W.length:=by omega
   obtain⟨b,off,rfl,_,_,M⟩:=Ints.at (Ints.ext hW y) i k;have hx:=I.out.1 _ (gtMem k);have e:(W.take (i+1)).map letN=(W.take i).map letN++[letN (gt W i)]:=by rw[take_succ_gt W i k,List.map_append];rfl
   have p:((W.take i).map letN).length<=1000000:=by rw[List.length_map,List.length_take];omega
   obtain⟨x,A⟩:∃x,x=gt W i:=⟨_,rfl⟩;rw[<-A] at hx e M;clear A;by_cases K:0<x
   ·have l:letN x=97+x-1:=by unfold letN;rw[if_pos K];omega
    rw[l] at e;have E:IntKind.u8.wrap (97+x-1)=97+x-1:=u8_in _ (by omega);have B:=Lib.hid (And.intro e p);clear e p l;go_wp2_with (first|(at_builtin;refine wp_app_byte rfl _ _ rfl w.heap.size v4 ((W.take i).map letN) (97+x-1) rfl wr hO rfl rfl B.out.2 y.size ?_;intro v5 N q u;have m:=grown_own y u (λj F k=>by have:=(hO.lt j F).1;omega))|fail)
    clear E;go_roundw
    case rel=>exact⟨i+1,v5,rfl,by go_num,by omega,m,by rw[B.out.1];exact q⟩
    case measure=>simp[intOf];omega
   ·have l:letN x=65-x-1:=by unfold letN;rw[if_neg K];omega
    rw[l] at e;have E:IntKind.u8.wrap (65-x-1)=65-x-1:=u8_in _ (by omega);have B:=Lib.hid (And.intro e p);clear e p l;go_wp2_with (first|(at_builtin;refine wp_app_byte rfl _ _ rfl w.heap.size v4 ((W.take i).map letN) (65-x-1) rfl wr hO rfl rfl B.out.2 y.size ?_;intro v5 N q u;have m:=grown_own y u (λj F k=>by have:=(hO.lt j F).1;omega))|fail)
    clear E;go_roundw
    case rel=>exact⟨i+1,v5,rfl,by go_num,by omega,m,by rw[B.out.1];exact q⟩
    case measure=>simp[intOf];omega
  ·have G:i=W.length:=by omega
   subst G;rw[List.take_length] at hO;have O:=conv_bytes hO;go_wp2;go_ret;exact⟨_,rfl,y,by rw[I.out.2];rfl⟩
theorem l07Letter_ok (w:World) (i:Nat) (hi:i<26) :
  Calls Tryz.prog 384 #[.int .i64 i] w (Ret w λ_ r=>r=.string (strOfNums [97+(i:Int)])):=by
 have e:IntKind.i64.wrap ((i:Int)+1)=(i:Int)+1:=IntWalk.i64_in _ (by omega)
 have b:wtx [(i:Int)+1]=[97+(i:Int)]:=by
  unfold wtx;rw[if_neg (by simp)];simp only[List.map_cons,List.map_nil,letN];rw[if_pos (by omega),show(96:Int)+((i:Int)+1)=97+(i:Int) by omega]
 have hI:Ints Any (w.alloc (.cells #[.int .i64 ((i:Int)+1)] 2)) (.slice (some ⟨w.heap.size,0,none⟩) 1 1) [(i:Int)+1]:=
  ints_of_own (show Own 0 _ _ [(i:Int)+1] from World.ownsRow_lit w #[.int .i64 ((i:Int)+1)] 1 (Nat.zero_le _) (by decide) rfl) (by simp) (λ_ _=>trivial)
 have a:=l06Text_ok _ _ [(i:Int)+1] Any hI (λx hx=>by simp at hx;omega) (by simp);rw[b] at a;have k:=Lib.hid a;clear a b hI;go_enter Tryz.func384,Tryz.ntmps384;go_wp2_with fail
 refine Calls.mono k.out ?_;rintro l m ⟨v1,rfl,j,rfl⟩;clear e;go_wp2;go_ret;exact⟨_,rfl,grown_trans (World.grownBy_alloc _ _ _) j,rfl⟩
theorem l01Dec_ok (w:World) (n:Int) (b:0<=n) (e:n<10) :
  Calls Tryz.prog 383 #[.int .i64 n] w (Ret w λ_ r=>r=.string (strOfNums [48+n])):=by
 have i:IntKind.u8.wrap (48+n)=48+n:=u8_in _ (by omega)
 have a:∀w0:World,(convert 22 9 (.slice (some ⟨w0.heap.size,0,none⟩) 1 1)).run Tryz.prog (w0.alloc (.cells #[.int .u8 (48+n)] 5))=.ok (.string (strOfNums [48+n])) (w0.alloc (.cells #[.int .u8 (48+n)] 5)):=λw0=>
  conv_bytes (B:=0) (l:=[48+n]) (World.ownsRow_lit w0 #[.int .u8 (48+n)] 1 (Nat.zero_le _) (by decide) rfl)
 go_enter Tryz.func383,Tryz.ntmps383;go_wp2;go_ret;exact⟨_,rfl,World.grownBy_alloc _ _ _,rfl⟩
end Go.Proofs.YtldheeicjnncoaaGreat
namespace Go.Proofs.YtldheeicjnncoaaGreat
open Go.RowKit
attribute [local go_sem ↓] Go.wp_at_zero Go.wp_at_succ
def RelR (F:Nat->Prop) (B:Nat) (P:Pr) (w':World) (v:Value):Prop:=∃(vo vp vc:Value) (r:Bool) (Q:Pr),v=.tuple #[.agg #[vo,vp,vc],.bool r]/\Shp 6 Q/\Q.orders=P.orders/\Pres3 (λk=>F k\/B<=k) w' vo vp vc Q
theorem rel_ret {w b:World}{F F':Nat->Prop}{br:Nat}{x y z:Value}{P Q:Pr}{r:Bool}(i:Ext w b) (m:w.heap.size<=br) (p:Pres3 F' b x y z Q) (hF:∀k,F' k->k<b.heap.size->(F k\/w.heap.size<=k)/\k≠br) (q:Shp 6 Q) (u:Q.orders=P.orders) :
  Ret w (RelR F w.heap.size P) (.returned (.tuple #[.agg #[x,y,z],.bool r])) (((b.setCell ⟨br,0,none⟩ x).setCell ⟨br,1,none⟩ y).setCell ⟨br,2,none⟩ z):=by
 have l:=grown_set3 b br x y z;exact⟨_,rfl,grown_own i l (λj A a=>by cases A;omega),x,y,z,r,Q,rfl,q,u,p.mono (λk hk a=>⟨(hF k hk a).1,Nat.lt_of_lt_of_le a l.size,l.block k a (λe=>(hF k hk a).2 (by cases e;rfl))⟩)⟩
theorem relP_ret {w i:World}{F:Nat->Prop}{br:Nat}{x y z:Value}{P:Pr}{r:Bool}(a:Ext w i) (e:w.heap.size<=br) (j:Pres3 F w x y z P) (l:Shp 6 P) :
  Ret w (RelR F w.heap.size P) (.returned (.tuple #[.agg #[x,y,z],.bool r])) (((i.setCell ⟨br,0,none⟩ x).setCell ⟨br,1,none⟩ y).setCell ⟨br,2,none⟩ z):=
 rel_ret a e (F':=λk=>F k/\k<w.heap.size) (j.mono (λk hk b=>⟨⟨hk,b⟩,Nat.lt_of_lt_of_le b a.size,a.block k b (by simp)⟩)) (λk hk _=>⟨.inl hk.1,by omega⟩) l rfl
theorem l07Relation_ok (w:World) (pv:Value) (P:Pr) (F:Nat->Prop) (s:ByteArray) (hp:PresV F w pv P) (hS:Shp 6 P) (ba:∀x∈P.orders,primeB x=true) (hs:s.size<=1000) :
  Calls Tryz.prog 358 #[pv,.string s] w (Ret w (RelR F w.heap.size P)):=by
 obtain⟨vo,vp,vc,rfl,R⟩:=hp;obtain⟨M,co,ez,_,_⟩:=R.o.shape;obtain⟨ap,B,af,_,_⟩:=Sl.shape R.p;obtain⟨C,D,ag,_,_⟩:=Sl.shape R.c;rw[hS.p] at af;rw[hS.c] at ag;subst ez af ag;obtain⟨n,hn⟩:∃n,n=P.orders.length:=⟨_,rfl⟩;rw[<-hn] at R;rw[<-hn];have ci:n<=6:=by rw[hn];exact hS.n
 have bb:Ext w (w.alloc (.cells #[.slice M n co,.slice ap n B,.slice C n D] 28)):=World.grownBy_alloc _ _ _;have bc:(w.alloc (.cells #[.slice M n co,.slice ap n B,.slice C n D] 28)).heap.size=w.heap.size+1:=by simp
 have aC:=Box3.made w 28 (.slice M n co) (.slice ap n B) (.slice C n D);have l:=Lib.hid (And.intro hS (And.intro ba hn));clear hS ba hn;go_enter Tryz.func358,Tryz.ntmps358;go_wp2_with fail
 generalize w.alloc (.cells #[.slice M n co,.slice ap n B,.slice C n D] 28)=wA at *;have aj:Ext wA (wA.alloc (.cells #[.slice none 0 0,.slice none 0 0,.slice none 0 0] 28)):=World.grownBy_alloc _ _ _;have aD:=Box3.made wA 28 (.slice none 0 0) (.slice none 0 0) (.slice none 0 0);have aC:=aC.ext aj;have bK:=grown_trans bb aj;have be:(wA.alloc (.cells #[.slice none 0 0,.slice none 0 0,.slice none 0 0] 28)).heap.size=w.heap.size+2:=by simp[bc]
 rw[bc] at aD;generalize wA.alloc (.cells #[.slice none 0 0,.slice none 0 0,.slice none 0 0] 28)=w0 at *;clear aj bb;refine Calls.mono (l01Split_ok w0 s 61 hs) ?_;rintro e1 w1 ⟨v1,rfl,hg1,av,cv,ts,rfl,hl1,bf,bg,L⟩;have ak:=grown_trans bK hg1;have al:=aC.ext hg1;have U:=aD.ext hg1;obtain⟨a0,a1,a2,a3,a4⟩:=id al;obtain⟨b0,b1,b2,b3,b4⟩:=id U;have bh:=U.all (.slice M n co) (.slice ap n B) (.slice C n D);obtain⟨-,z0,z1,z2,-⟩:=id bh;have b5:w.heap.size+2<=w1.heap.size:=by have:=hg1.size;omega
 have HL:=Lib.hid (And.intro bf (And.intro bg be));clear bf bg be bh aC aD;by_cases aU:ts.length=2
 case neg=>
  have b6:((ts.length:Int) != 2)=true:=by simp;omega
  clear aU;go_wp2_with fail
  refine bodyPost_ret (v := .tuple #[.agg #[.slice M n co,.slice ap n B,.slice C n D],.bool false]) (by simp[results,Tryz.results358,go_sem,z0,z1,z2]) rfl ?_;exact relP_ret ak (by omega) R l.out.1
 obtain⟨bt,rfl,aV⟩:=StrsR.at L 0 (by omega);obtain⟨_,aF,bi⟩:=StrsR.at L 1 (by omega);cases aF
 have bN:=HL.out.2.1 _ (gtMem (show 0<ts.length by omega));have bO:=HL.out.2.1 _ (gtMem (show 1<ts.length by omega));obtain⟨t0,bj⟩:∃t0,t0=gt ts 0:=⟨_,rfl⟩;obtain⟨t1,bk⟩:∃t1,t1=gt ts 1:=⟨_,rfl⟩;rw[<-bj] at aV bN;rw[<-bk] at bi bO;have b8:=(L.lt bt rfl).2;clear L bj bk HL;rw[aU];clear aU hl1;by_cases h4:t0.size=4
 case neg=>
  have bQ:((t0.size:Int) != 4)=true:=by simp;omega
  clear h4;go_wp2_with fail
  refine bodyPost_ret (v := .tuple #[.agg #[.slice M n co,.slice ap n B,.slice C n D],.bool false]) (by simp[results,Tryz.results358,go_sem,z0,z1,z2]) rfl ?_;exact relP_ret ak (by omega) R l.out.1
 have bQ:((t0.size:Int) != 4)=false:=by simp;omega
 have bR:0<t0.size:=by omega
 have bS:2<t0.size:=by omega
 rcases ck:((((t0[0]'(bR)).toNat:Nat):Int) != 32) with _|_
 case' true=>
  go_wp2_with fail
  refine bodyPost_ret (v := .tuple #[.agg #[.slice M n co,.slice ap n B,.slice C n D],.bool false]) (by simp[results,Tryz.results358,go_sem,z0,z1,z2]) rfl ?_;exact relP_ret ak (by omega) R l.out.1
 rcases cm:((((t0[2]'(bS)).toNat:Nat):Int) != 94) with _|_
 case' true=>
  go_wp2_with fail
  refine bodyPost_ret (v := .tuple #[.agg #[.slice M n co,.slice ap n B,.slice C n D],.bool false]) (by simp[results,Tryz.results358,go_sem,z0,z1,z2]) rfl ?_;exact relP_ret ak (by omega) R l.out.1
 go_wp2_with fail
 refine Calls.mono (l06Parse_ok w1 n t1 (by omega) (by omega)) ?_;rintro e2 w2 ⟨v2,rfl,hg2,aw,nw,cw,r2,rfl,hW2⟩;clear a0 a1 a2 a3 a4 b0 b1 b2 b3 b4 z0 z1 z2;have an:=al.ext hg2;have Z:=U.ext hg2;clear al U;obtain⟨a0,a1,a2,a3,a4⟩:=id an;obtain⟨b0,b1,b2,b3,b4⟩:=id Z;have bl:=Z.all (.slice M n co) (.slice ap n B) (.slice C n D);obtain⟨-,z0,z1,z2,-⟩:=id bl;clear bl;have aq:=grown_trans ak hg2;have aK:=hg2.cell aV (by simp);clear aV bi;cases r2
 case' false=>
  go_wp2_with fail
  refine bodyPost_ret (v := .tuple #[.agg #[.slice M n co,.slice ap n B,.slice C n D],.bool false]) (by simp[results,Tryz.results358,go_sem,z0,z1,z2]) rfl ?_;exact relP_ret aq (by omega) R l.out.1
 obtain⟨W,bm,ni,bn,bp⟩:=hW2 rfl;subst ni;clear hW2;have HW:=Lib.hid (And.intro bn bm);clear bn bm;go_wp2_with fail
 refine Calls.mono (l07Vector_ok w2 n _ W _ (bp.ints (by have:=HW.out.2;omega)) HW.out.1 (by omega) (by have:=HW.out.2;omega)) ?_;rintro e3 w3 ⟨v3,rfl,hg3,ax,nx,cx,r3,rfl,gB⟩;clear a0 a1 a2 a3 a4 b0 b1 b2 b3 b4 z0 z1 z2;have ar:=an.ext hg3;have aa:=Z.ext hg3;clear an Z;obtain⟨a0,a1,a2,a3,a4⟩:=id ar;obtain⟨b0,b1,b2,b3,b4⟩:=id aa;have bu:=aa.all (.slice M n co) (.slice ap n B) (.slice C n D);obtain⟨-,z0,z1,z2,-⟩:=id bu;clear bu;have bv:=grown_trans aq hg3;have aL:=hg3.cell aK (by simp);clear aK bp;have bV:1<t0.size:=by omega
 have bW:3<t0.size:=by omega
 go_wp2_with fail
 go_quiet (fail)
 rename_i nq;have ah:Ext w3 (w3.drewN nq):=grown_drewN _ _ _;clear a0 a1 a2 a3 a4 b0 b1 b2 b3 b4 z0 z1 z2;generalize w3.drewN nq=w4 at *;generalize wrap64 (wrap64 ((t0[1]'(bV)).toNat:Int)-97)=x;generalize wrap64 (wrap64 ((t0[3]'(bW)).toNat:Int)-97)=y;have au:=ar.ext ah;have ab:=aa.ext ah;clear ar aa;obtain⟨a0,a1,a2,a3,a4⟩:=id au;obtain⟨b0,b1,b2,b3,b4⟩:=id ab;have bw:=ab.all (.slice M n co) (.slice ap n B) (.slice C n D);obtain⟨-,z0,z1,z2,-⟩:=id bw;clear bw;have N:=grown_trans bv ah;have aM:=ah.cell aL (by simp);clear aL;cases r3
 case' false=>
  go_wp2_with fail
  refine bodyPost_ret (v := .tuple #[.agg #[.slice M n co,.slice ap n B,.slice C n D],.bool false]) (by simp[results,Tryz.results358,go_sem,z0,z1,z2]) rfl ?_;exact relP_ret N (by omega) R l.out.1
 obtain⟨V,bx,aG,bz,kZ⟩:=gB rfl;have aG:=aG.symm;subst aG;have aN:=kZ.ext0 ah;clear gB kZ;by_cases cq:x<0
 case' pos=>
  go_wp2_with fail
  refine bodyPost_ret (v := .tuple #[.agg #[.slice M n co,.slice ap n B,.slice C n D],.bool false]) (by simp[results,Tryz.results358,go_sem,z0,z1,z2]) rfl ?_;exact relP_ret N (by omega) R l.out.1
 by_cases cr:(n:Int)<=x
 case' pos=>
  go_wp2_with fail
  refine bodyPost_ret (v := .tuple #[.agg #[.slice M n co,.slice ap n B,.slice C n D],.bool false]) (by simp[results,Tryz.results358,go_sem,z0,z1,z2]) rfl ?_;exact relP_ret N (by omega) R l.out.1
 obtain⟨X,rfl⟩:=Int.eq_ofNat_of_zero_le (show 0<=x by omega);have cs:(X:Int)<n:=by omega
 have aO:=R.mono (frame_of N (λk hk _=>⟨hk,by simp⟩));have aW:Pres3 F w4 (.slice M n co) (.slice ap n B) (.slice C n D) P:=aO;clear aO aG;have HV:=Lib.hid (And.intro bx (And.intro bz aN));clear bx bz aN;go_wp2_with fail
 clear a0 a1 a2 a3 a4 b0 b1 b2 b3 b4 z0 z1 z2;refine Calls.mono (l07Own_ok w4 _ P F 6 ⟨_,_,_,rfl,aW⟩ l.out.1 (by omega)) ?_;rintro e5 w5 ⟨v5,rfl,hg5,qo,qp,qc,rfl,gC⟩;obtain⟨E,G,I,q,J,r,e1,e2,e3⟩:=gC.shape;rw[l.out.1.p] at e2;rw[l.out.1.c] at e3;rw[<-l.out.2.2] at e1 e2 e3;subst e1 e2 e3;have aI:Ext w5 (w5.alloc (.cells #[.slice E n G,.slice I n q,.slice J n r] 28)):=World.grownBy_alloc _ _ _;have bA:=Box3.made w5 28 (.slice E n G) (.slice I n q) (.slice J n r);have ct:=hg5.size;have bB:PresX (λk=>w4.heap.size<=k/\k<w5.heap.size) (w5.alloc (.cells #[.slice E n G,.slice I n q,.slice J n r] 28)) (.slice E n G) (.slice I n q) (.slice J n r) P:=gC.mono (λk hk H=>⟨⟨hk,H⟩,Nat.lt_of_lt_of_le H aI.size,aI.block k H (by simp)⟩);have u:=grown_trans hg5 aI;go_wp2_with fail
 generalize w5.alloc (.cells #[.slice E n G,.slice I n q,.slice J n r] 28)=w6 at *;clear gC hg5 aI;have ay:=au.ext u;have aQ:=ab.ext u;have aR:=grown_trans N u;have aS:=u.cell aM (by simp);obtain⟨bo,oo,hao,_,hbl,aY⟩:=Ints.at (aW.o.ext u) X (by rw[<-l.out.2.2];omega);subst hao;have aZ:=l.out.2.1 _ (gtMem (show X<P.orders.length by rw[<-l.out.2.2];omega));obtain⟨o,ho⟩:∃o,o=gt P.orders X:=⟨_,rfl⟩;rw[<-ho] at aY aZ;have cu:=prime_bd aZ;clear ho aZ au ab aM;have f1:∀w',Ext w6 w'->w'.cell? ⟨w.heap.size,0,none⟩=some (.slice (some ⟨bo,oo,none⟩) n co):=λw' h=>(ay.ext h).2.1;have f2:∀w',Ext w6 w'->w'.cell? ⟨bo,oo+X,none⟩=some (.int .i64 o):=λw' h=>h.cell aY (by simp);have f3:∀w',Ext w6 w'->w'.cell? ⟨bt,0,none⟩=some (.string t0):=λw' h=>h.cell aS (by simp);have cy:(3:Int)<=t0.size:=by omega
 clear aY aS
 go_region_held3 (λw'=>Ext w6 w') (first|exact grown_drew _ _|assumption)
  (first
   | (go_at_call 383;refine Calls.mono (Calls.rel (w0:=w6) (by first|exact grown_drew _ _|assumption) (l01Dec_ok _ o (by omega) (by omega))) ?_;rintro eD wD ⟨vD,rfl,S,jV,rfl⟩))
 have cz:=u.size;have b':w.heap.size+2<=w2.heap.size:=by have:=hg2.size;omega
 have ca:w2.heap.size<=w4.heap.size:=by have:=hg3.size;have:=ah.size;omega
 have cb:=aR.size;have i:=bA.ext S;have a:=aQ.ext S;have ad:=grown_trans aR S;have bC:PresX (λk=>w4.heap.size<=k/\k<w5.heap.size) wD (.slice E n G) (.slice I n q) (.slice J n r) P:=bB.mono (λk hk H=>⟨hk,Nat.lt_of_lt_of_le H S.size,S.block k H (by simp)⟩);have bD:Ints (λk=>w2.heap.size<=k/\k<w4.heap.size) wD (.slice ax n cx) V:=(ints_of_own HV.out.2.2 (by have:=HV.out.1;omega) (λk hk=>⟨(HV.out.2.2.lt k hk).1,(HV.out.2.2.lt k hk).2⟩)).ext (grown_trans u S);have ce:=aq.size;have ae:=ay.ext S;have HC:=Lib.hid (And.intro bC bD);have bE:=Lib.hid HV.out.1;clear bC bD f1 f2 f3 bB bA aQ ay aW;rcases aF:((t0.extract 3 4).toList == (strOfNums [48+o]).toList) with _|_
 case' false=>
  clear aF;by_cases hy0:y<0
  case' pos=>
   obtain⟨a0,a1,a2,a3,a4⟩:=id ae;obtain⟨b0,b1,b2,b3,b4⟩:=id a;have az:=a.all (.slice (some ⟨bo,oo,none⟩) n co) (.slice ap n B) (.slice C n D);obtain⟨-,z0,z1,z2,-⟩:=id az;clear az HC HV;go_wp2_with fail
   refine bodyPost_ret (v := .tuple #[.agg #[.slice (some ⟨bo,oo,none⟩) n co,.slice ap n B,.slice C n D],.bool false]) (by simp[results,Tryz.results358,go_sem,z0,z1,z2]) rfl ?_;exact relP_ret ad (by omega) R l.out.1
  by_cases cA:(X:Int)<=y
  case' pos=>
   obtain⟨a0,a1,a2,a3,a4⟩:=id ae;obtain⟨b0,b1,b2,b3,b4⟩:=id a;have az:=a.all (.slice (some ⟨bo,oo,none⟩) n co) (.slice ap n B) (.slice C n D);obtain⟨-,z0,z1,z2,-⟩:=id az;clear az HC HV;go_wp2_with fail
   refine bodyPost_ret (v := .tuple #[.agg #[.slice (some ⟨bo,oo,none⟩) n co,.slice ap n B,.slice C n D],.bool false]) (by simp[results,Tryz.results358,go_sem,z0,z1,z2]) rfl ?_;exact relP_ret ad (by omega) R l.out.1
  obtain⟨Y,rfl⟩:=Int.eq_ofNat_of_zero_le (show 0<=y by omega);have ai:=l.out.2.2;have aJ:=l.out.1.cl Y (by omega);have bF:=l.out.1.c;have cB:Y<X:=by omega
  obtain⟨K,hK⟩:∃K,K=X-Y-1:=⟨_,rfl⟩;have bX:K<(gt P.conj Y).length:=by rw[aJ];omega
  obtain⟨g,capg,b,capb,z,ag,⟨aj,hg5⟩,hgl,a5,⟨aD,hb5⟩,hbg,ql,hcb,qq,aA⟩:=PresX.putC HC.out.1 Y K (by omega) bX HC.out.2 (λk hk h=>by omega);obtain⟨rfl,rfl⟩:J=some ⟨g,0,none⟩/\r=capg:=by cases ag;exact⟨rfl,rfl⟩
  rw[aJ,<-ai] at a5;obtain⟨m,hm⟩:∃m,m=n-1-Y:=⟨_,rfl⟩;rw[<-hm] at a5;have cC:(X:Int)-(Y:Int)-1=(K:Int):=by omega
  have cD:(K:Int)<m:=by omega
  have cE:(Y:Int)<n:=by omega
  have L:=grown_set1 wD b K (.slice ax n cx);have O:Ext w (wD.setCell ⟨b,K,none⟩ (.slice ax n cx)):=grown_own ad L (λj hj H=>by cases hj;omega);have A:=Box3.keep a L.size (L.block _ a.1 (λe=>by cases e;omega));have Q:=Box3.keep i L.size (L.block _ i.1 (λe=>by cases e;omega));have aB:=A.all (.slice E n G) (.slice I n q) (.slice (some ⟨g,0,none⟩) n r);obtain⟨q0,q1,q2,q3,q4⟩:=id i;obtain⟨r0,r1,r2,r3,r4⟩:=id Q;obtain⟨b0,b1,b2,b3,b4⟩:=id A;obtain⟨-,z0,z1,z2,-⟩:=id aB;have HR:=Lib.hid (And.intro aA (And.intro O (And.intro ag (And.intro aJ (And.intro bF ai)))));clear aB aA O ag aJ bF ai L A Q hm hK i a ae HC HV;go_wp2_with fail
  refine bodyPost_ret (v := .tuple #[.agg #[.slice E n G,.slice I n q,.slice (some ⟨g,0,none⟩) n r],.bool true]) (by simp[results,Tryz.results358,go_sem,z0,z1,z2]) rfl ?_;exact rel_ret HR.out.2.1 (by omega) HR.out.1 (λk hk H=>⟨.inr (by rcases hk with hk|hk<;>omega),by rcases hk with hk|hk<;>omega⟩) (l.out.1.setC Y K (by have:=HR.out.2.2.2.2.2;omega) (by have:=bE.out;omega)) rfl
 case' true=>
  clear aF;have ai:=l.out.2.2;have bG:=l.out.1.p;obtain⟨g,capg,z,af,⟨aj,hg5⟩,hgl,a5,hfg,aA⟩:=PresX.putP HC.out.1 X (by omega) HC.out.2 (λk hk h=>by omega);obtain⟨rfl,rfl⟩:I=some ⟨g,0,none⟩/\q=capg:=by cases af;exact⟨rfl,rfl⟩
  have L:=grown_set1 wD g X (.slice ax n cx);have O:Ext w (wD.setCell ⟨g,X,none⟩ (.slice ax n cx)):=grown_own ad L (λj hj H=>by cases hj;omega);have A:=Box3.keep a L.size (L.block _ a.1 (λe=>by cases e;omega));have Q:=Box3.keep i L.size (L.block _ i.1 (λe=>by cases e;omega));have aB:=A.all (.slice E n G) (.slice (some ⟨g,0,none⟩) n q) (.slice J n r);obtain⟨q0,q1,q2,q3,q4⟩:=id i;obtain⟨r0,r1,r2,r3,r4⟩:=id Q;obtain⟨b0,b1,b2,b3,b4⟩:=id A;obtain⟨-,z0,z1,z2,-⟩:=id aB;have HR:=Lib.hid (And.intro aA (And.intro O (And.intro af (And.intro bG ai))));clear aB aA O af bG ai L A Q i a ae HC HV;go_wp2_with fail
  refine bodyPost_ret (v := .tuple #[.agg #[.slice E n G,.slice (some ⟨g,0,none⟩) n q,.slice J n r],.bool true]) (by simp[results,Tryz.results358,go_sem,z0,z1,z2]) rfl ?_;exact rel_ret HR.out.2.1 (by omega) HR.out.1 (λk hk H=>⟨.inr (by rcases hk with hk|hk<;>omega),by rcases hk with hk|hk<;>omega⟩) (l.out.1.setP X (by have:=bE.out;omega)) rfl
theorem Own.ints' {B:Nat}{w:World}{v:Value}{l:List Int}(h:Own B w v l) (a:l.length<=1000000):Ints Any w v l:=ints_of_own h (by omega) (λ_ _=>trivial)
theorem strOfNums_app (a b:List Int):strOfNums (a++b)=strOfNums a++strOfNums b:=by
 apply ByteArray.ext;simp[strOfNums,ByteArray.data_append]
def ordT (o:List Int):Nat->List Int
 | 0=>[]
 | k+1=>ordT o k++((if 0<k then [32] else [])++[48+gt o k])
def powE (P:Pr) (k:Nat):List Int:=[59,32]++([97+(k:Int)]++([94]++([48+gt P.orders k]++([61]++wtx (nWord (gt P.powers k) P.orders.length)))))
def powT (P:Pr):Nat->List Int
 | 0=>[]
 | k+1=>powT P k++(if isZeroB (gt P.powers k) then [] else powE P k)
def cnjE (P:Pr) (i k:Nat):List Int:=[59,32]++([97+((i+1+k:Nat):Int)]++([94]++([97+(i:Int)]++([61]++wtx (nWord (gt (gt P.conj i) k) P.orders.length)))))
def cnjR (P:Pr) (i:Nat):Nat->List Int
 | 0=>[]
 | k+1=>cnjR P i k++(if eqB (gt (gt P.conj i) k) (unitV P.orders.length (i+1+k)) then [] else cnjE P i k)
def cnjT (P:Pr):Nat->List Int
 | 0=>[]
 | i+1=>cnjT P i++cnjR P i (P.orders.length-1-i)
def textP (P:Pr):List Int:=if P.orders.length=0 then [49] else ordT P.orders P.orders.length++(powT P P.orders.length++cnjT P P.orders.length)
theorem nWord_mem {e:List Int}{n:Nat}{x:Int}(h:x∈nWord e n):1<=x/\x<=n:=by
 induction n with
 | zero=>simp[nWord] at h
 | succ n a=>
  rcases List.mem_append.1 h with h|h
  ·have:=a h;omega
  ·have:=List.eq_of_mem_replicate h;omega
theorem ordT_len (o:List Int):∀k,(ordT o k).length<=2*k
 | 0=>by simp[ordT]
 | k+1=>by
  have:=ordT_len o k;simp only[ordT,List.length_append,List.length_singleton];split<;>simp<;>omega
section
variable {P:Pr}(hP:Valid P)
include hP
theorem vec7 {e:List Int}(a:Vec P.orders e):∀i,gt e i<=7:=λi=>by
 by_cases h:i<P.orders.length
 ·have:=a.2 i h;have:=hP.ord7 i h;omega
 ·rw[show gt e i=0 by simp[gt,show e.length<=i by rw[a.1];omega]];omega
theorem wtx_bd {e:List Int}(a:Vec P.orders e):(wtx (nWord e P.orders.length)).length<=43:=by
 have hn:=hP.n6;refine wtx_len _ 42 (Nat.le_trans (nWord_len (λi => ?_) _) (by omega));by_cases h:i<P.orders.length
 ·have:=a.2 i h;have:=hP.ord7 i h;omega
 ·rw[show gt e i=0 by simp[gt,show e.length<=i by rw[a.1];omega]];omega
theorem powT_len:∀k,k<=P.orders.length->(powT P k).length<=50*k
 | 0,_=>by simp[powT]
 | k+1,h=>by
  have h1:=powT_len k (by omega);have a:=wtx_bd hP (hP.pv k (by omega)).1;simp only[powT,List.length_append];split
  ·simp;omega
  ·simp only[powE,List.length_append,List.length_cons,List.length_nil];omega
theorem cnjR_len {i:Nat}(hi:i<P.orders.length):∀k,k<=P.orders.length-1-i->(cnjR P i k).length<=50*k
 | 0,_=>by simp[cnjR]
 | k+1,h=>by
  have h1:=cnjR_len hi k (by omega);have a:=wtx_bd hP ((hP.cv i hi).2 k (by omega)).1;simp only[cnjR,List.length_append];split
  ·simp;omega
  ·simp only[cnjE,List.length_append,List.length_cons,List.length_nil];omega
theorem cnjT_len:∀i,i<=P.orders.length->(cnjT P i).length<=300*i
 | 0,_=>by simp[cnjT]
 | i+1,h=>by
  have h1:=cnjT_len i (by omega);have a:=cnjR_len hP (show i<P.orders.length by omega) (P.orders.length-1-i) (Nat.le_refl _);have:=hP.n6;simp only[cnjT,List.length_append];omega
end
theorem l07Text_ok (P:Pr) (hP:Valid P) (w:World) (pv:Value) (S:Nat->Prop) (z:PresV S w pv P) :
  Calls Tryz.prog 359 #[pv] w (Ret w λ_ r=>r=.string (strOfNums (textP P))):=by
 have bw:=hP.n6;obtain⟨vo,vp,vc,rfl,h3⟩:=z;have aO:=PresP.box h3 28;have aE:Ext w (w.alloc (.cells #[vo,vp,vc] 28)):=World.grownBy_alloc _ _ _;obtain⟨bx,eo,dQ,_,_,hc0,ak,al,F⟩:=aO.at;simp only[Nat.zero_add] at ak al;obtain⟨ao,co,rfl,_,_⟩:=F.o.shape;obtain⟨ap,cp,aF,_,_⟩:=Sl.shape F.p;obtain⟨ac,cc,aG,_,_⟩:=Sl.shape F.c;rw[hP.pl] at aF;rw[hP.cl] at aG;subst aF aG;by_cases hn:P.orders.length=0
 ·have ht:textP P=[49]:=by unfold textP;rw[if_pos hn]
  have aQ:((P.orders.length:Int) == 0)=true:=by rw[hn];rfl
  have HT:=Lib.hid ht;clear ht;go_enter Tryz.func359,Tryz.ntmps359;go_wp2;go_ret;exact⟨_,rfl,aE,by rw[HT.out];rfl⟩
 have ht:textP P=ordT P.orders P.orders.length++(powT P P.orders.length++cnjT P P.orders.length):=by unfold textP;rw[if_neg hn]
 have aQ:((P.orders.length:Int) == 0)=false:=by simp;intro h;exact hn (by rw[h];rfl)
 have HT:=Lib.hid (And.intro ht hn);clear ht hn;go_enter Tryz.func359,Tryz.ntmps359;go_wp2;generalize w.alloc (.cells #[vo,vp,vc] 28)=w0 at *;have am:∀w',Ext w0 w'->w'.cell? ⟨w.heap.size,0,none⟩=some (.slice ao P.orders.length co):=λw' h=>h.cell hc0 (by simp);have an:∀w',Ext w0 w'->w'.cell? ⟨w.heap.size,1,none⟩=some (.slice ap P.orders.length cp):=λw' h=>h.cell ak (by simp);have aI:∀w',Ext w0 w'->w'.cell? ⟨w.heap.size,2,none⟩=some (.slice ac P.orders.length cc):=λw' h=>h.cell al (by simp);have HB:=Lib.hid (And.intro am (And.intro an aI));clear am an aI hc0 ak al;go_loopw [4,5] (λov K wr=>∃(i:Nat),ov=.string (strOfNums (ordT P.orders i))/\K=.int .i64 i/\i<=P.orders.length/\Ext w0 wr) (λ_ K _=>P.orders.length-(intOf K).toNat)
 case atStart=>exact⟨0,rfl,rfl,by omega,Ext.refl _⟩
 case round =>
  obtain⟨i,rfl,rfl,hi,u⟩:=hrel;have G:=ordT_len P.orders i;by_cases b:i<P.orders.length
  ·have ag:(i:Int)<P.orders.length:=by omega
   obtain⟨bo,oo,rfl,_,_,H⟩:=Ints.at (Ints.ext F.o u) i b;have h7:=hP.ord7 i b;have am:=HB.out.1 wr u;obtain⟨y,hy⟩:∃y,y=gt P.orders i:=⟨_,rfl⟩;have A:ordT P.orders (i+1)=ordT P.orders i++((if 0<i then [32] else [])++[48+y]):=by rw[hy];rfl
   rw[<-hy] at H h7;obtain⟨l,E⟩:∃l,l=ordT P.orders i:=⟨_,rfl⟩;rw[<-E] at A G;have aK:l.length<=1000:=by omega
   have a:=Lib.hid (And.intro A (And.intro E hy));clear A hy E G;rw[show strOfNums (ordT P.orders i)=strOfNums l by rw[a.out.2.1]];have bB:=strOfNums_size l;rcases hb:decide (0<i) with _|_
   ·have q:strOfNums (ordT P.orders (i+1))=strOfNums l++strOfNums [48+y]:=by
     have:¬ 0<i:=by simpa using hb
     rw[a.out.1,if_neg this,List.nil_append,strOfNums_app]
    have HN:=Lib.hid q;clear q;go_wp2_with fail
    refine Calls.mono (l01Dec_ok wr y (by omega) (by omega)) ?_;rintro e1 w1 ⟨v1,rfl,hg1,rfl⟩;have L:=strOfNums_size [48+y];clear H;go_wp2_with fail
    go_roundw
    case rel=>exact⟨i+1,by rw[HN.out],by go_num,by omega,grown_trans u hg1⟩
    case measure=>simp[intOf];omega
   ·have q:strOfNums (ordT P.orders (i+1))=strOfNums l++⟨#[32]⟩++strOfNums [48+y]:=by
     have:0<i:=by simpa using hb
     rw[a.out.1,if_pos this,strOfNums_app,strOfNums_app,ByteArray.append_assoc];rfl
    have HN:=Lib.hid q;clear q;go_wp2_with fail
    refine Calls.mono (l01Dec_ok wr y (by omega) (by omega)) ?_;rintro e1 w1 ⟨v1,rfl,hg1,rfl⟩;have L:=strOfNums_size [48+y];clear H;go_wp2_with fail
    go_roundw
    case rel=>exact⟨i+1,by rw[HN.out],by go_num,by omega,grown_trans u hg1⟩
    case measure=>simp[intOf];omega
  ·have M : i=P.orders.length:=by omega
   subst M;go_wp2;clear b G;have N:=u;clear u;go_loopw [4,6] (λov K wr=>∃(i:Nat),ov=.string (strOfNums (ordT P.orders P.orders.length++powT P i))/\K=.int .i64 i/\i<=P.orders.length/\Ext w0 wr) (λ_ K _=>P.orders.length-(intOf K).toNat)
   case atStart=>exact⟨0,by rw[show powT P 0=[] from rfl,List.append_nil],rfl,by omega,N⟩
   case round =>
    clear N;obtain⟨i,rfl,rfl,hi,u⟩:=hrel;have G:=ordT_len P.orders P.orders.length;have au:=powT_len hP i hi;by_cases b:i<P.orders.length
    ·have ag:(i:Int)<P.orders.length:=by omega
     obtain⟨bp,op,ae,ce,rfl,_,_,Z,B⟩:=Rows2.at (Rows2.ext F.p u) i (by rw[hP.pl];exact b);have an:=HB.out.2.1 wr u;have z:=(hP.pv i b).1;obtain⟨e,O⟩:∃e,e=gt P.powers i:=⟨_,rfl⟩;rw[<-O] at Z B z;have J:=z.1;obtain⟨l,E⟩:∃l,l=ordT P.orders P.orders.length++powT P i:=⟨_,rfl⟩;have aK:l.length<=1000:=by rw[E,List.length_append];omega
     rw[<-E];rcases hz:isZeroB e with _|_
     ·have A:ordT P.orders P.orders.length++powT P (i+1)=l++powE P i:=by
       rw[E,List.append_assoc,powT,<-O,hz];rfl
      obtain⟨bo,oo,rfl,_,_,H⟩:=Ints.at (Ints.ext F.o u) i b;have h7:=hP.ord7 i b;have Q:=wtx_bd hP z;have C:powE P i=[59,32]++([97+(i:Int)]++([94]++([48+gt P.orders i]++([61]++wtx (nWord e P.orders.length))))):=by rw[O];rfl
      obtain⟨y,hy⟩:∃y,y=gt P.orders i:=⟨_,rfl⟩;rw[<-hy] at H h7 C;obtain⟨W,hW⟩:∃W,W=nWord e P.orders.length:=⟨_,rfl⟩;have R:W.length<=42:=by rw[hW];exact Nat.le_trans (nWord_len (vec7 hP z) _) (by omega)
      have U:∀x∈W,-26<=x/\x<=26:=by rw[hW];exact λx hx=>by have:=nWord_mem hx;omega
      rw[<-hW] at C Q
      have q:strOfNums (ordT P.orders P.orders.length++powT P (i+1))=strOfNums l++⟨#[59,32]⟩++strOfNums [97+(i:Int)]++⟨#[94]⟩++strOfNums [48+y]++⟨#[61]⟩++strOfNums (wtx W):=by
       rw[A,C];simp only[strOfNums_app,ByteArray.append_assoc];rfl
      have V:∀j,j<e.length->0<=gt e j/\gt e j<=7:=λj hj=>by have:=z.2 j (by omega);have:=hP.ord7 j (by omega);omega
      have a:=Lib.hid (And.intro q (And.intro R (And.intro U (And.intro V (And.intro J hW)))));clear A z O E J G au C hy hW R U q V;have I:=l01Zero_ok _ e wr _ B;rw[hz] at I;clear hz;go_wp2_with fail
      refine Calls.mono I ?_;rintro _ _ ⟨rfl,rfl⟩;clear I;have ai:=Z;clear Z;have e0:∀w',Ext wr w'->w'.cell? ⟨w.heap.size,0,none⟩=some (.slice (some ⟨bo,oo,none⟩) P.orders.length co):=λw' h=>HB.out.1 w' (grown_trans u h);have e1:∀w',Ext wr w'->w'.cell? ⟨w.heap.size,1,none⟩=some (.slice (some ⟨bp,op,none⟩) P.orders.length cp):=λw' h=>HB.out.2.1 w' (grown_trans u h);have e2:∀w',Ext wr w'->w'.cell? ⟨bo,oo+i,none⟩=some (.int .i64 y):=λw' h=>h.cell H (by simp);have e3:∀w',Ext wr w'->w'.cell? ⟨bp,op+i,none⟩=some (.slice ae e.length ce):=λw' h=>h.cell ai (by simp);have z0:=strOfNums_size l;have z1:=strOfNums_size [97+(i:Int)];have z2:=strOfNums_size [48+y];have z3:=strOfNums_size (wtx W);have q1:¬ 9223372036854775807<l.length+2:=by omega
      have q2:¬ 9223372036854775807<l.length+2+1:=by omega
      have q3:¬ 9223372036854775807<l.length+2+1+1:=by omega
      have q4:¬ 9223372036854775807<l.length+2+1+1+1:=by omega
      have q5:¬ 9223372036854775807<l.length+2+1+1+1+1:=by omega
      have q6:¬ 9223372036854775807<l.length+2+1+1+1+1+(wtx W).length:=by omega
      clear H ai;go_wp2_with fail
      go_region_held3 (λw'=>Ext wr w') (first|exact grown_drew _ _|assumption)
       (first
        | (go_at_call 385;refine Calls.mono (Calls.rel (w0:=wr) (by assumption) (l06Text_ok _ _ W Any av a.out.2.2.1 (by have:=a.out.2.1;omega))) ?_;rintro eD wD ⟨vD,rfl,gD,jV,rfl⟩)
        | (go_at_call 355;refine Calls.mono (Calls.rel (w0:=wr) (by assumption) (l07Word_ok _ _ e Any (Ints.sub (Ints.ext B (by assumption)) (λ_ _ _=>trivial)) (by have:=a.out.2.2.2.2.1;omega) a.out.2.2.2.1)) ?_;rintro eC wC ⟨vC,rfl,gm,hsC,fT⟩;rw[a.out.2.2.2.2.1,<-a.out.2.2.2.2.2] at fT;have av:Ints Any wC vC W:=fT.ints' (by have:=a.out.2.1;omega))
        | (go_at_call 383;refine Calls.mono (Calls.rel (w0:=wr) (by assumption) (l01Dec_ok _ y (by omega) (by omega))) ?_;rintro eB wB ⟨vB,rfl,X,hsB,rfl⟩)
        | (go_at_call 384;refine Calls.mono (Calls.rel (w0:=wr) (by first|exact grown_drew _ _|assumption) (l07Letter_ok _ i (by omega))) ?_;rintro eA wA ⟨vA,rfl,eu,hsA,rfl⟩))
      clear e0 e1 e2 e3 z0 z1 z2 z3 q1 q2 q3 q4 q5 q6;go_wp2;go_roundw
      case rel=>exact⟨i+1,by rw[a.out.1],by go_num,by omega,grown_trans u gD⟩
      case measure=>simp[intOf];omega
     ·have A:ordT P.orders P.orders.length++powT P (i+1)=l:=by
       rw[E,powT,<-O,hz];simp
      have a:=Lib.hid (And.intro A (And.intro z (And.intro O E)));clear A z O E J G au;have I:=l01Zero_ok _ e wr _ B;rw[hz] at I;clear hz;go_wp2_with fail
      refine Calls.mono I ?_;rintro _ _ ⟨rfl,rfl⟩;clear I Z;go_wp2_with fail
      go_roundw
      case rel=>exact⟨i+1,by rw[a.out.1],by go_num,by omega,u⟩
      case measure=>simp[intOf];omega
    ·have M : i=P.orders.length:=by omega
     subst M;go_wp2;clear b G au;have N:=u;clear u;obtain⟨l0,aa⟩:∃l0,l0=ordT P.orders P.orders.length++powT P P.orders.length:=⟨_,rfl⟩
     have bn:l0.length<=400:=by
      have h1:=ordT_len P.orders P.orders.length;have h2:=powT_len hP P.orders.length (Nat.le_refl _);rw[aa,List.length_append];omega
     rw[<-aa];have a7:=Lib.hid aa;clear aa;go_loopw [4,7] (λov K wr=>∃(i:Nat),ov=.string (strOfNums (l0++cnjT P i))/\K=.int .i64 i/\i<=P.orders.length/\Ext w0 wr) (λ_ K _=>P.orders.length-(intOf K).toNat)
     case atStart=>exact⟨0,by rw[show cnjT P 0=[] from rfl,List.append_nil],rfl,by omega,N⟩
     case round=>
      clear N;obtain⟨i,rfl,rfl,hi,u⟩:=hrel;by_cases b:i<P.orders.length
      ·have ag:(i:Int)<P.orders.length:=by omega
       obtain⟨wo,rfl⟩:∃wo:World,wo=wr:=⟨_,rfl⟩;have a8:=cnjT_len hP i hi;obtain⟨l1,ab⟩:∃l1,l1=l0++cnjT P i:=⟨_,rfl⟩;have br:l1.length<=2200:=by rw[ab,List.length_append];omega
       rw[<-ab];have a9:=Lib.hid ab;clear ab a8;go_wp2;go_loopw [4,8] (λov jv wr=>∃(k j:Nat),ov=.string (strOfNums (l1++cnjR P i k))/\jv=.int .i64 j/\Hid (j=i+1+k/\k<=P.orders.length-1-i)/\j<=P.orders.length/\Ext w0 wr) (λ_ jv _=>P.orders.length-(intOf jv).toNat)
       case atStart=>exact⟨0,i+1,by rw[show cnjR P i 0=[] from rfl,List.append_nil],by go_num,Lib.hid ⟨rfl,by omega⟩,by omega,u⟩
       case round=>
        have bM:=u;clear u;obtain⟨k,j,rfl,rfl,HJ,hj,u⟩:=hrel;by_cases aM:j<P.orders.length
        ·have ax:(j:Int)<P.orders.length:=by omega
         have hk:k<P.orders.length-1-i:=by have:=HJ.out;omega
         obtain⟨bc,oc,ar,cr,rfl,_,_,ad,hrr⟩:=Rows3.at (Rows3.ext F.c u) i (by rw[hP.cl];exact b);have af:=(hP.cv i b).1;have Y:=(hP.cv i b).2 k hk;rw[af] at ad;obtain⟨be,oe,ae,ce,rfl,_,_,ay,B⟩:=Rows2.at hrr k (by rw[af];exact hk);obtain⟨e,O⟩:∃e,e=gt (gt P.conj i) k:=⟨_,rfl⟩;rw[<-O] at ay B Y;have J:=Y.1.1;have Q:=wtx_bd hP Y.1;have ba:=cnjR_len hP b k (by omega);have aN:=HJ.out.1;obtain⟨l,E⟩:∃l,l=l1++cnjR P i k:=⟨_,rfl⟩;have aK:l.length<=3000:=by rw[E,List.length_append];omega
         rw[<-E];obtain⟨m,hm⟩:∃m,m=P.orders.length-1-i:=⟨_,rfl⟩;rw[<-hm] at ad hk;have bN:(k:Int)<m:=by omega
         have L:IntKind.i64.wrap ((j:Int)-(i:Int))=(k:Int)+1:=by rw[show(j:Int)-(i:Int)=(k:Int)+1 by omega];exact IntWalk.i64_in _ (by omega)
         have az:IntKind.i64.wrap (k:Int)=(k:Int):=IntWalk.i64_in _ (by omega);have e0:∀w',Ext wr w'->w'.cell? ⟨w.heap.size,2,none⟩=some (.slice (some ⟨bc,oc,none⟩) P.orders.length cc):=λw' h=>HB.out.2.2 w' (grown_trans u h);have e1:∀w',Ext wr w'->w'.cell? ⟨bc,oc+i,none⟩=some (.slice (some ⟨be,oe,none⟩) m cr):=λw' h=>h.cell ad (by simp);have e2:∀w',Ext wr w'->w'.cell? ⟨be,oe+k,none⟩=some (.slice ae e.length ce):=λw' h=>h.cell ay (by simp);have a:=Lib.hid (And.intro J (And.intro Y (And.intro O (And.intro E (And.intro hm (And.intro Q (And.intro aN af)))))));clear J Y O E hm Q ba aN af ad ay;have HE:=Lib.hid (And.intro e0 (And.intro e1 e2));go_wp2
         go_region_held3 (λw'=>Ext wr w') (first|exact grown_drew _ _|assumption)
          (first
           | (go_at_call 250;refine Calls.mono (Calls.rel (w0:=wr) (by assumption) (l01Same_ok _ _ e (unitV P.orders.length j) _ Any Any (Ints.sub (Ints.ext B (by assumption)) (λ_ _ _=>trivial)) bf)) ?_;rintro eB wB ⟨vB,rfl,X,hsB,rfl⟩)
           | (go_at_call 149;refine Calls.mono (Calls.rel (w0:=wr) (by first|exact grown_drew _ _|assumption) (l07Unit_ok P.orders.length j _ aM (by omega))) ?_;rintro eA wA ⟨vA,rfl,eu,hsA,fE⟩;have bf:Ints Any wA vA (unitV P.orders.length j):=fE.ints' (by rw[unitV_len];omega)))
         clear e0 e1 e2 L az;rcases hq:eqB e (unitV P.orders.length j) with _|_
         ·have C:cnjE P i k=[59,32]++([97+(j:Int)]++([94]++([97+(i:Int)]++([61]++wtx (nWord e P.orders.length))))):=by
           unfold cnjE;rw[<-a.out.2.2.1,<-a.out.2.2.2.2.2.2.1]
          obtain⟨W,hW⟩:∃W,W=nWord e P.orders.length:=⟨_,rfl⟩;rw[<-hW] at C;have R:W.length<=42:=by rw[hW];exact Nat.le_trans (nWord_len (vec7 hP a.out.2.1.1) _) (by omega)
          have U:∀x∈W,-26<=x/\x<=26:=by rw[hW];exact λx hx=>by have:=nWord_mem hx;omega
          have Q:(wtx W).length<=43:=by rw[hW];exact a.out.2.2.2.2.2.1
          have q:strOfNums (l1++cnjR P i (k+1))=strOfNums l++⟨#[59,32]⟩++strOfNums [97+(j:Int)]++⟨#[94]⟩++strOfNums [97+(i:Int)]++⟨#[61]⟩++strOfNums (wtx W):=by
           have h1:cnjR P i (k+1)=cnjR P i k++cnjE P i k:=by rw[cnjR,<-a.out.2.2.1,<-a.out.2.2.2.2.2.2.1,hq];rfl
           rw[h1,<-List.append_assoc,<-a.out.2.2.2.1,C];simp only[strOfNums_app,ByteArray.append_assoc];rfl
          have V:∀j,j<e.length->0<=gt e j/\gt e j<=7:=λj hj=>by have:=a.out.2.1.1.2 j (by have:=a.out.1;omega);have:=hP.ord7 j (by have:=a.out.1;omega);omega
          have HW:=Lib.hid (And.intro q (And.intro R (And.intro U (And.intro V hW))));clear C hW R U q V;have L:IntKind.i64.wrap ((j:Int)-(i:Int))=(k:Int)+1:=by have:=a.out.2.2.2.2.2.2.1;rw[show(j:Int)-(i:Int)=(k:Int)+1 by omega];exact IntWalk.i64_in _ (by omega)
          have az:IntKind.i64.wrap (k:Int)=(k:Int):=IntWalk.i64_in _ (by have:=a.out.2.2.2.2.1;omega);have z0:=strOfNums_size l;have z1:=strOfNums_size [97+(i:Int)];have z2:=strOfNums_size [97+(j:Int)];have z3:=strOfNums_size (wtx W);have q1:¬ 9223372036854775807<l.length+2:=by omega
          have q2:¬ 9223372036854775807<l.length+2+1:=by omega
          have q3:¬ 9223372036854775807<l.length+2+1+1:=by omega
          have q4:¬ 9223372036854775807<l.length+2+1+1+1:=by omega
          have q5:¬ 9223372036854775807<l.length+2+1+1+1+1:=by omega
          have q6:¬ 9223372036854775807<l.length+2+1+1+1+1+(wtx W).length:=by omega
          go_wp2_with fail
          have e0:=HE.out.1;have e1:=HE.out.2.1;have e2:=HE.out.2.2
          go_region_held3 (λw'=>Ext wr w') (first|exact grown_trans X (grown_drew _ _)|assumption)
           (first
            | (go_at_call 385;refine Calls.mono (Calls.rel (w0:=wr) (by assumption) (l06Text_ok _ _ W Any av HW.out.2.2.1 (by have:=HW.out.2.1;omega))) ?_;rintro eD wD ⟨vD,rfl,gD,jV,rfl⟩)
            | (go_at_call 355;refine Calls.mono (Calls.rel (w0:=wr) (by assumption) (l07Word_ok _ _ e Any (Ints.sub (Ints.ext B (by assumption)) (λ_ _ _=>trivial)) (by have:=a.out.1;omega) HW.out.2.2.2.1)) ?_;rintro eC wC ⟨vC,rfl,gm,hsC,fT⟩;rw[a.out.1,<-HW.out.2.2.2.2] at fT;have av:Ints Any wC vC W:=fT.ints' (by have:=HW.out.2.1;omega))
            | (go_at_call 384;refine Calls.mono (Calls.rel (w0:=wr) (by first|exact grown_trans X (grown_drew _ _)|assumption) (l07Letter_ok _ j (by omega))) ?_;rintro eL wL ⟨vL,rfl,qu,hsL,rfl⟩)
            | (go_at_call 384;refine Calls.mono (Calls.rel (w0:=wr) (by first|exact grown_trans X (grown_drew _ _)|assumption) (l07Letter_ok _ i (by omega))) ?_;rintro eM wM ⟨vM,rfl,kf,qw,rfl⟩))
          clear e0 e1 e2 z0 z1 z2 z3 q1 q2 q3 q4 q5 q6 L az;go_wp2;go_roundw
          case rel=>exact⟨k+1,j+1,by rw[HW.out.1],by go_num,Lib.hid ⟨by have:=a.out.2.2.2.2.2.2.1;omega,by have:=a.out.2.2.2.2.1;omega⟩,by omega,grown_trans u gD⟩
          case measure=>simp[intOf];omega
         ·have q:strOfNums (l1++cnjR P i (k+1))=strOfNums l:=by
           rw[cnjR,<-a.out.2.2.1,<-a.out.2.2.2.2.2.2.1,hq,<-List.append_assoc,<-a.out.2.2.2.1];simp
          have HN:=Lib.hid q;clear q;go_wp2_with fail
          go_roundw
          case rel=>exact⟨k+1,j+1,by rw[HN.out],by go_num,Lib.hid ⟨by have:=a.out.2.2.2.2.2.2.1;omega,by have:=a.out.2.2.2.2.1;omega⟩,by omega,grown_trans u X⟩
          case measure=>simp[intOf];omega
        ·have D:strOfNums (l1++cnjR P i k)=strOfNums (l0++cnjT P (i+1)):=by
          have:=HJ.out;rw[a9.out,cnjT,show k=P.orders.length-1-i by omega,List.append_assoc]
         have HF:=Lib.hid D;clear D;have ax:¬((j:Int)<P.orders.length):=by omega
         go_wp2;go_roundw
         case rel=>exact⟨i+1,by rw[HF.out],by go_num,by omega,u⟩
         case measure=>simp[intOf];omega
      ·have M:i=P.orders.length:=by omega
       subst M;have D:strOfNums (l0++cnjT P P.orders.length)=strOfNums (textP P):=by rw[HT.out.1,a7.out,List.append_assoc]
       have HF:=Lib.hid D;clear D;go_wp2;go_ret;exact⟨_,rfl,grown_trans aE u,by rw[<-HF.out];rfl⟩
theorem presN_nil (N B:Nat) (w:World):PresN N B w (.agg #[.slice none 0 0,.slice none 0 0,.slice none 0 0]):=
 ⟨⟨[],[],[]⟩,⟨Nat.zero_le _,rfl,rfl,λi h=>absurd h (by simp),by simp,by simp⟩,_,_,_,rfl,λ_=>False,λ_=>False,λ_=>False,
  ⟨World.ownsRow_nil _ _ _ _,by simp[Value.ownBlock],by simp⟩,
  ⟨[],λ_ _=>False,rfl,by simp,World.ownsRow_nil _ _ _ _,by simp[Value.ownBlock],by simp,by simp,by simp⟩,⟨[],λ_ _=>False,rfl,by simp,World.ownsRow_nil _ _ _ _,by simp[Value.ownBlock],by simp,by simp,by simp⟩,
  λ_ h=>h.elim,λ_ h=>h.elim,λ_ h=>h.elim⟩
def PresC (N B:Nat) (w':World) (v:Value):Prop:=∃(vo vp vc:Value) (c:Int),v=.tuple #[.agg #[vo,vp,vc],.int .i64 c]/\PresN N B w' (.agg #[vo,vp,vc])
theorem CyclicPresentation_ok (w:World) (n:Nat) (hn:1<=n/\n<=729) :
  Calls Tryz.prog 327 #[.int .i64 n] w (Ret w (PresC 9 w.heap.size)):=by
 have K:∀w',Ext (w.alloc (.cells #[.slice none 0 0,.slice none 0 0,.slice none 0 0] 28)) w'->Box3 w' w.heap.size (.slice none 0 0) (.slice none 0 0) (.slice none 0 0):=λw' h=>(Box3.made w 28 _ _ _).ext h;have m:Ext w (w.alloc (.cells #[.slice none 0 0,.slice none 0 0,.slice none 0 0] 28)):=World.grownBy_alloc _ _ _;have L:(w.alloc (.cells #[.slice none 0 0,.slice none 0 0,.slice none 0 0] 28)).heap.size=w.heap.size+1:=by simp
 have M:inB n 1 729=true:=by simp[inB];omega
 have O:=Lib.hid (And.intro hn (And.intro K (And.intro m L)));clear hn K L;go_enter Tryz.func327,Tryz.ntmps327;go_wp2_with fail
 generalize w.alloc (.cells #[.slice none 0 0,.slice none 0 0,.slice none 0 0] 28)=w0 at *;refine Calls.mono (l01In_ok n 1 729 w0) ?_;rintro _ _ ⟨rfl,rfl⟩;rw[M];clear M;go_wp2_with fail
 refine Calls.mono (l07Factors_ok w0 n O.out.1) ?_;rintro e1 p ⟨v1,rfl,a,a1,c1,l,r,rfl,Q,ab,R⟩;have HL:=Lib.hid (And.intro Q (And.intro R ab));clear Q R;have C:=O.out.2.1 p a;obtain⟨k0,k1,k2,k3,k4⟩:=id C;cases r
 ·go_wp2_with fail
  have y:=C.all (.slice none 0 0) (.slice none 0 0) (.slice none 0 0);have A:=grown_set3 p w.heap.size (.slice none 0 0) (.slice none 0 0) (.slice none 0 0);obtain⟨_,z0,z1,z2,_⟩:=id y;have D:=Lib.hid A;clear A y;go_wp2;refine bodyPost_ret (v := .tuple #[.agg #[.slice none 0 0,.slice none 0 0,.slice none 0 0],.int .i64 2]) (by simp[results,Tryz.results327,go_sem,z0,z1,z2]) rfl ?_;exact⟨_,rfl,grown_own (grown_trans m a) D.out (λj E q=>by cases E;omega),_,_,_,_,rfl,presN_nil 9 _ _⟩
 by_cases h6:6<l.length
 ·go_wp2_with fail
  have y:=C.all (.slice none 0 0) (.slice none 0 0) (.slice none 0 0);have A:=grown_set3 p w.heap.size (.slice none 0 0) (.slice none 0 0) (.slice none 0 0);obtain⟨_,z0,z1,z2,_⟩:=id y;have D:=Lib.hid A;clear A y;go_wp2;refine bodyPost_ret (v := .tuple #[.agg #[.slice none 0 0,.slice none 0 0,.slice none 0 0],.int .i64 3]) (by simp[results,Tryz.results327,go_sem,z0,z1,z2]) rfl ?_;exact⟨_,rfl,grown_own (grown_trans m a) D.out (λj E q=>by cases E;omega),_,_,_,_,rfl,presN_nil 9 _ _⟩
 clear k0 k1 k2 k3 k4;go_wp2_with fail
 refine Calls.mono (l07Trivial_ok p _ l _ (HL.out.1.ints (by omega)) (by omega)) ?_;rintro e2 J ⟨v2,rfl,hg2,vo,vp,vc,rfl,F⟩;obtain⟨G,co,ap,u,H,I,rfl,rfl,rfl⟩:=trivX_shape F;go_wp2_with fail
 have ad:=hg2.size;have ar:=a.size;have S:Ext J (J.alloc (.cells #[.slice G l.length co,.slice ap l.length u,.slice H l.length I] 28)):=World.grownBy_alloc _ _ _;have e:=BX.start (N:=9) (B:=p.heap.size) (by omega) F S (Box3.made J 28 (.slice G l.length co) (.slice ap l.length u) (.slice H l.length I)) ad;generalize J.alloc (.cells #[.slice G l.length co,.slice ap l.length u,.slice H l.length I] 28)=w3 at *;have U:Ext p w3:=grown_trans hg2 S;clear F hg2;go_loopw [7] (λiv wr=>∃i:Nat,iv=.int .i64 i/\i<=l.length/\Ext p wr/\BX 9 l p.heap.size J.heap.size wr (.slice G l.length co) (.slice ap l.length u) (.slice H l.length I)) (λiv _=>l.length-(intOf iv).toNat)
 case atStart=>exact⟨0,rfl,by omega,U,e⟩
 case round=>
  clear e U;obtain⟨i,rfl,hi,hg,e⟩:=hrel;by_cases q:i+1<l.length
  ·have V:(i:Int)+1<l.length:=by omega
   obtain⟨g,cap,z,eW,hgB,hgp,hgl,W,X⟩:=e.storeP i (by omega);obtain⟨rfl,rfl⟩:ap=some ⟨g,0,none⟩/\u=cap:=by cases eW;exact⟨rfl,rfl⟩
   clear eW;have e1:∀w',Near wr g w'->w'.cell? ⟨J.heap.size,1,none⟩=some (.slice (some ⟨g,0,none⟩) l.length u):=λw' h=>h.cell e.box.2.2.1 (by simp;omega)
   have Y:∀w,Calls Tryz.prog 149 #[.int .i64 l.length,.int .i64 ((i:Int)+1)] w (Ret w λw' v=>Own w.heap.size w' v (unitV l.length (i+1))):=λw=>by
    have h:=l07Unit_ok l.length (i+1) w (by omega) (by omega);rwa [show((i+1:Nat):Int)=(i:Int)+1 by omega] at h
   have HX:=Lib.hid (And.intro e (And.intro X W));clear e X W;have au:(i:Int)<l.length:=by omega
   have av:IntKind.i64.wrap ((i:Int)+1)=(i:Int)+1:=IntWalk.i64_in _ (by omega);have aw:wrap64 ((i:Int)+1)=(i:Int)+1:=IntWalk.wrap64_in _ (by omega);go_wp2
   go_region_held3 (λw'=>Near wr g w') (first|exact Near.of (grown_drew _ _)|exact Near.of (by assumption)|exact Near.store (by assumption)|assumption)
    (first
     | (go_at_call 149;refine Calls.mono (Calls.rel (w0:=wr) (by first|exact grown_drew _ _|assumption) (Y _)) ?_;rintro eE wE ⟨vE,rfl,b,gu,Z⟩;obtain⟨aE,cE,fJ,_⟩:=(Z.ints (by rw[unitV_len];omega)).shape;subst fJ;have ah:=(HX.out.2.2 wE b).1;have ai:=(HX.out.2.2 wE b).2))
   have az:=b.size;have aj:=HX.out.2.1 wE _ (unitV l.length (i+1)) b (OwnIn.of Z (by rw[unitV_len];omega) (λk hk _=>Nat.le_trans (by assumption) hk)) (by rw[unitV_len];omega);have ak:Ext p (wE.setCell ⟨g,i,none⟩ (.slice aE (unitV l.length (i+1)).length cE)):=grown_own (grown_trans hg b) (grown_set1 _ _ _ _) (λj E q=>by cases E;omega);clear ah ai e1;go_wp2;go_roundw
   case rel=>exact⟨i+1,by go_num,by omega,ak,aj⟩
   case measure=>simp[intOf];omega
  ·have V:¬((i:Int)+1<l.length):=by omega
   have hz:=O.out.2.1 wr (grown_trans a hg);obtain⟨h0,h1,h2,h3',h4⟩:=id e.box;obtain⟨k0,k1,k2,k3,k4⟩:=id hz;have y:=hz.all (.slice G l.length co) (.slice ap l.length u) (.slice H l.length I);have A:=grown_set3 wr w.heap.size (.slice G l.length co) (.slice ap l.length u) (.slice H l.length I);obtain⟨_,z0,z1,z2,_⟩:=id y;have D:=Lib.hid (And.intro A e);clear A y e;go_wp2;refine bodyPost_ret (v := .tuple #[.agg #[.slice G l.length co,.slice ap l.length u,.slice H l.length I],.int .i64 0]) (by simp[results,Tryz.results327,go_sem,z0,z1,z2]) rfl ?_;exact⟨_,rfl,grown_own (grown_trans m (grown_trans a hg)) D.out.1 (λj E q=>by cases E;omega),_,_,_,_,rfl,(D.out.2.ret D.out.1 (by have:=O.out.2.2.2;omega)).weak (by have:=O.out.2.2.2;omega)⟩
def PresN3 (N B:Nat) (w':World) (vo vp vc:Value):Prop:=∃Q,Shp N Q/\Pres3 (From B) w' vo vp vc Q
def PresC3 (N B:Nat) (w':World) (v:Value):Prop:=∃(vo vp vc:Value) (c:Int),v=.tuple #[.agg #[vo,vp,vc],.int .i64 c]/\PresN3 N B w' vo vp vc
theorem pres3_nil (S:Nat->Prop) (w:World):Pres3 S w (.slice none 0 0) (.slice none 0 0) (.slice none 0 0) ⟨[],[],[]⟩:=
 ⟨⟨none,0,rfl,⟨by simp,by simp,λ_=>rfl⟩,λi hi=>by simp at hi⟩,⟨none,0,rfl,⟨by simp,by simp,λ_=>rfl⟩,λi hi=>by simp at hi⟩,⟨none,0,rfl,⟨by simp,by simp,λ_=>rfl⟩,λi hi=>by simp at hi⟩⟩
theorem shp_nil (N:Nat):Shp N ⟨[],[],[]⟩:=⟨Nat.zero_le _,rfl,rfl,λi h=>absurd h (by simp),by simp,by simp⟩
theorem ParsePresentation_ok (w:World) (s:ByteArray) (hs:s.size<=1000) :
  Calls Tryz.prog 316 #[.string s] w (Ret w (PresC3 6 w.heap.size)):=by
 have aR:=Box3.made w 28 (.slice none 0 0) (.slice none 0 0) (.slice none 0 0);have aS:Ext w (w.alloc (.cells #[.slice none 0 0,.slice none 0 0,.slice none 0 0] 28)):=World.grownBy_alloc _ _ _;have bg:(w.alloc (.cells #[.slice none 0 0,.slice none 0 0,.slice none 0 0] 28)).heap.size=w.heap.size+1:=by simp
 go_enter Tryz.func316,Tryz.ntmps316;go_wp2_with fail
 generalize w.alloc (.cells #[.slice none 0 0,.slice none 0 0,.slice none 0 0] 28)=w0 at *;refine Calls.mono (l01Split_ok w0 s 59 hs) ?_;rintro e1 w1 ⟨v1,rfl,R,av,cv,ts,rfl,hl1,ah,S,hT⟩;obtain⟨bt,rfl,hc0⟩:=StrsR.at hT 0 (by omega);have bi:=S _ (gtMem (show 0<ts.length by omega));have bj:(0:Int)<ts.length:=by omega
 have ai:=grown_trans aS R;have a4:ts.length<=1001:=by omega
 go_wp2_with fail
 refine Calls.mono (l07Orders_ok w1 _ (by omega)) ?_;rintro e2 F ⟨v2,rfl,H,ao,n,co,r,rfl,hR⟩;have y:=grown_trans ai H;have A:=(aR.ext R).ext H;have bk:w.heap.size+1<=F.heap.size:=by have:=R.size;have:=H.size;omega
 have a8:=(hT.lt bt rfl).2;have HT:=Lib.hid (And.intro hT (And.intro S ah));clear hT S ah hc0;cases r
 case' false=>
  obtain⟨n0,n1,n2,n3,n4⟩:=id A;have b:=A.all (.slice none 0 0) (.slice none 0 0) (.slice none 0 0);obtain⟨-,z0,z1,z2,-⟩:=id b;have l:=grown_set3 F w.heap.size (.slice none 0 0) (.slice none 0 0) (.slice none 0 0);have m:=Lib.hid l;clear b l;go_wp2_with fail
  refine bodyPost_ret (v := .tuple #[.agg #[.slice none 0 0,.slice none 0 0,.slice none 0 0],.int .i64 6]) (by simp[results,Tryz.results316,go_sem,z0,z1,z2]) rfl ?_;exact⟨_,rfl,grown_own y m.out (λj B a=>by cases B;omega),_,_,_,_,rfl,_,shp_nil 6,pres3_nil _ _⟩
 obtain⟨o,U,ho6,C,hO⟩:=hR rfl;have U:=U;subst U;clear hR;have aj:=hO.ints (by omega);have HO:=Lib.hid (And.intro C hO);clear C hO;go_wp2_with fail
 refine Calls.mono (l07Trivial_ok F _ o _ aj (by omega)) ?_;rintro e3 q ⟨v3,rfl,hg3,vo,vp,vc,rfl,fS⟩;obtain⟨a1,c1,a2,c2,a3,c3,rfl,rfl,rfl⟩:=trivX_shape fS;have V:Ext q (q.alloc (.cells #[.slice a1 o.length c1,.slice a2 o.length c2,.slice a3 o.length c3] 28)):=World.grownBy_alloc _ _ _;have al:=Box3.made q 28 (.slice a1 o.length c1) (.slice a2 o.length c2) (.slice a3 o.length c3)
 have am:Pres3 (λk=>F.heap.size<=k/\k≠q.heap.size) (q.alloc (.cells #[.slice a1 o.length c1,.slice a2 o.length c2,.slice a3 o.length c3] 28)) (.slice a1 o.length c1) (.slice a2 o.length c2) (.slice a3 o.length c3) (trivP o):=
  fS.p3.mono (λk hk a=>⟨⟨hk,by omega⟩,Nat.lt_of_lt_of_le a V.size,V.block k a (by simp)⟩)
 have bm:=hg3.size;have M:=grown_trans hg3 V;go_wp2_with fail
 generalize q.alloc (.cells #[.slice a1 o.length c1,.slice a2 o.length c2,.slice a3 o.length c3] 28)=w4 at *;clear fS aj;go_loopw [6,8] (λaT iv wr=>∃(i:Nat) (qo qp qc:Value) (Q:Pr),aT=.bool true/\iv=.int .i64 i/\i<=ts.length/\Ext F wr/\Box3 wr q.heap.size qo qp qc/\Shp 6 Q/\Q.orders=o/\Pres3 (λk=>F.heap.size<=k/\k≠q.heap.size) wr qo qp qc Q) (λ_ iv _=>ts.length-(intOf iv).toNat)
 case atStart=>exact⟨1,_,_,_,trivP o,rfl,rfl,by omega,M,al,trivP_shp o ho6,rfl,am⟩
 case round=>
  clear am al M;obtain⟨i,qo,qp,qc,Q,rfl,rfl,hi,hg,hB,I,D,G⟩:=hrel;have bn:=grown_trans y hg;by_cases a:i<ts.length
  ·have ap:(i:Int)<ts.length:=by omega
   obtain⟨_,hbe,aq⟩:=StrsR.at HT.out.1 i a;cases hbe
   have W:=(grown_trans H hg).cell aq (by simp);clear aq;have aY:=HT.out.2.1 _ (gtMem a);have ar:(gt ts i).size<=1000:=by omega
   obtain⟨t0,au⟩:∃t0,t0=gt ts i:=⟨_,rfl⟩;rw[<-au] at W ar;clear aY au;have C:∀x∈Q.orders,primeB x=true:=by rw[D];exact HO.out.1
   obtain⟨a5,c5,iD,_,_⟩:=G.o.shape;obtain⟨a6,c6,jk,_,_⟩:=Sl.shape G.p;obtain⟨a7,c7,jl,_,_⟩:=Sl.shape G.c;subst iD jk jl;have aw:=hB.ext (grown_drew _ none);have ax:Pres3 (λk=>F.heap.size<=k/\k≠q.heap.size) wr.drew _ _ _ Q:=G.ext (grown_drew _ none);obtain⟨d0,d1,d2,d3,d4⟩:=id aw;have f1:wr.drew.cell? ⟨bt,i,none⟩=some (.string t0):=W;have z:=Lib.hid (And.intro I (And.intro D (And.intro C (And.intro ax hB))));clear I D C ax hB G aw W;go_wp2_with fail
   go_region_law (first
    | (go_simp;go_at_call 358;refine Calls.mono (l07Relation_ok _ _ Q _ t0 ⟨_,_,_,rfl,z.out.2.2.2.1⟩ z.out.1 z.out.2.2.1 ar) ?_;rintro eC wC ⟨vC,rfl,az,yo,yp,yc,r,u,rfl,aA,ho2,jm⟩;have aB:=Lib.hid ho2;clear ho2;obtain⟨X,k5,rfl,_,_⟩:=jm.o.shape;obtain⟨Y,k6,rfl,_,_⟩:=Sl.shape jm.p;obtain⟨e7,k7,rfl,_,_⟩:=Sl.shape jm.c;have Z:=(z.out.2.2.2.2.ext (grown_drew _ none)).ext az;obtain⟨g0,g1,g2,g3,g4⟩:=id Z))
   all_goals
    have aC:Ext wr wC:=grown_trans (grown_drew _ _) az;have a':=z.out.2.2.2.2.1;have bp:=hg.size;have aD:=Z.all (.slice X u.orders.length k5) (.slice Y u.powers.length k6) (.slice e7 u.conj.length k7);have J:=grown_set3 wC q.heap.size (.slice X u.orders.length k5) (.slice Y u.powers.length k6) (.slice e7 u.conj.length k7);have aa:Ext F (((wC.setCell ⟨q.heap.size,0,none⟩ (.slice X u.orders.length k5)).setCell ⟨q.heap.size,1,none⟩ (.slice Y u.powers.length k6)).setCell ⟨q.heap.size,2,none⟩ (.slice e7 u.conj.length k7)):=grown_own (grown_trans hg aC) J (λj B a=>by cases B;omega)
    have aE:Pres3 (λk=>F.heap.size<=k/\k≠q.heap.size) (((wC.setCell ⟨q.heap.size,0,none⟩ (.slice X u.orders.length k5)).setCell ⟨q.heap.size,1,none⟩ (.slice Y u.powers.length k6)).setCell ⟨q.heap.size,2,none⟩ (.slice e7 u.conj.length k7)) (.slice X u.orders.length k5) (.slice Y u.powers.length k6) (.slice e7 u.conj.length k7) u:=
     jm.mono (λk hk a=>by
      have aF:F.heap.size<=k/\k≠q.heap.size:=by
       have hd:wr.drew.heap.size=wr.heap.size:=rfl;rcases hk with hk|hk
       ·exact hk
       ·exact⟨by omega,by omega⟩
      exact⟨aF,Nat.lt_of_lt_of_le a J.size,J.block k a (λe=>aF.2 (by cases e;rfl))⟩)
    have HF:=Lib.hid (And.intro aD (And.intro aE (And.intro aA aB.out)));clear aD aE aA aB jm J g0 g1 g2 g3 g4 Z d0 d1 d2 d3 d4 f1;generalize ((wC.setCell ⟨q.heap.size,0,none⟩ (.slice X u.orders.length k5)).setCell ⟨q.heap.size,1,none⟩ (.slice Y u.powers.length k6)).setCell ⟨q.heap.size,2,none⟩ (.slice e7 u.conj.length k7)=w9 at *;cases r
    case' false=>
     have aG:=A.ext aa;have aH:=grown_trans y aa;obtain⟨n0,n1,n2,n3,n4⟩:=id aG;have b:=aG.all (.slice none 0 0) (.slice none 0 0) (.slice none 0 0);obtain⟨-,z0,z1,z2,-⟩:=id b;have l:=grown_set3 w9 w.heap.size (.slice none 0 0) (.slice none 0 0) (.slice none 0 0);have m:=Lib.hid l;clear b l;go_wp2_with fail
     refine bodyPost_ret (v := .tuple #[.agg #[.slice none 0 0,.slice none 0 0,.slice none 0 0],.int .i64 6]) (by simp[results,Tryz.results316,go_sem,z0,z1,z2]) rfl ?_;exact⟨_,rfl,grown_own aH m.out (λj B a=>by cases B;omega),_,_,_,_,rfl,_,shp_nil 6,pres3_nil _ _⟩
    go_wp2_with fail
    go_roundw
    case rel=>exact⟨i+1,_,_,_,u,rfl,by go_num,by omega,aa,HF.out.1,HF.out.2.2.1,by rw[HF.out.2.2.2];exact z.out.2.1,HF.out.2.1⟩
    case measure=>simp[intOf];omega
  ·have ap:¬((i:Int)<ts.length):=by omega
   obtain⟨a5,c5,iD,_,_⟩:=G.o.shape;obtain⟨a6,c6,jk,_,_⟩:=Sl.shape G.p;obtain⟨a7,c7,jl,_,_⟩:=Sl.shape G.c;subst iD jk jl;obtain⟨d0,d1,d2,d3,d4⟩:=id hB;have z:=Lib.hid (And.intro I (And.intro D (And.intro G hB)));clear I D G hB;go_wp2_with fail
   refine Calls.mono (sIsPresentation_ok wr _ Q _ ⟨_,_,_,rfl,z.out.2.2.1⟩) ?_;rintro X w5 ⟨v5,rfl,K,rfl⟩;have ab:=z.out.2.2.2.ext K;obtain⟨p0,p1,p2,p3,p4⟩:=id ab;have E:=grown_trans hg K;rcases hv:validB Q with _|_
   case' false=>
    have aI:=A.ext E;have aJ:=grown_trans y E;obtain⟨n0,n1,n2,n3,n4⟩:=id aI;have b:=aI.all (.slice none 0 0) (.slice none 0 0) (.slice none 0 0);obtain⟨-,z0,z1,z2,-⟩:=id b;have l:=grown_set3 w5 w.heap.size (.slice none 0 0) (.slice none 0 0) (.slice none 0 0);have m:=Lib.hid l;clear b l;go_wp2_with fail
    refine bodyPost_ret (v := .tuple #[.agg #[.slice none 0 0,.slice none 0 0,.slice none 0 0],.int .i64 6]) (by simp[results,Tryz.results316,go_sem,z0,z1,z2]) rfl ?_;exact⟨_,rfl,grown_own aJ m.out (λj B a=>by cases B;omega),_,_,_,_,rfl,_,shp_nil 6,pres3_nil _ _⟩
   have hV:=valid_of hv;clear hv;have HV:=Lib.hid hV;clear hV;go_wp2_with fail
   refine Calls.mono (l07Text_ok Q HV.out w5 _ _ ⟨_,_,_,rfl,z.out.2.2.1.ext K⟩) ?_;rintro Y w6 ⟨v6,rfl,ac,rfl⟩;have N:=grown_trans E ac;have L:=A.ext N;have O:=grown_trans y N;have aZ:=ab.ext ac;have aK:=(z.out.2.2.1.ext K).ext ac;clear p0 p1 p2 p3 p4 d0 d1 d2 d3 d4 ab;rcases be:((strOfNums (textP Q)).toList == s.toList) with _|_
   case' false=>
    obtain⟨n0,n1,n2,n3,n4⟩:=id L;have b:=L.all (.slice none 0 0) (.slice none 0 0) (.slice none 0 0);obtain⟨-,z0,z1,z2,-⟩:=id b;have l:=grown_set3 w6 w.heap.size (.slice none 0 0) (.slice none 0 0) (.slice none 0 0);have m:=Lib.hid l;clear b l;go_wp2_with fail
    refine bodyPost_ret (v := .tuple #[.agg #[.slice none 0 0,.slice none 0 0,.slice none 0 0],.int .i64 6]) (by simp[results,Tryz.results316,go_sem,z0,z1,z2]) rfl ?_;exact⟨_,rfl,grown_own O m.out (λj B a=>by cases B;omega),_,_,_,_,rfl,_,shp_nil 6,pres3_nil _ _⟩
   obtain⟨p0,p1,p2,p3,p4⟩:=id aZ;obtain⟨n0,n1,n2,n3,n4⟩:=id L;have b:=L.all (.slice a5 Q.orders.length c5) (.slice a6 Q.powers.length c6) (.slice a7 Q.conj.length c7);obtain⟨-,z0,z1,z2,-⟩:=id b;have l:=grown_set3 w6 w.heap.size (.slice a5 Q.orders.length c5) (.slice a6 Q.powers.length c6) (.slice a7 Q.conj.length c7);have m:=Lib.hid (And.intro l aK);clear b l aK;go_wp2_with fail
   refine bodyPost_ret (v := .tuple #[.agg #[.slice a5 Q.orders.length c5,.slice a6 Q.powers.length c6,.slice a7 Q.conj.length c7],.int .i64 0]) (by simp[results,Tryz.results316,go_sem,z0,z1,z2]) rfl ?_;exact⟨_,rfl,grown_own O m.out.1 (λj B a=>by cases B;omega),_,_,_,_,rfl,Q,z.out.1,m.out.2.mono (λk hk a=>⟨(by show w.heap.size<=k;omega),Nat.lt_of_lt_of_le a m.out.1.size,m.out.1.block k a (λe=>by cases e;omega)⟩)⟩
end Go.Proofs.YtldheeicjnncoaaGreat
