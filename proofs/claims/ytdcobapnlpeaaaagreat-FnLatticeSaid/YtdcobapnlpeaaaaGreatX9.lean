/- Merged from templates. -/
import Derived.Test.YtdcobapnlpeaaaaGreatX8
set_option maxRecDepth 100000
set_option maxHeartbeats 8000000
namespace Go.Proofs.YtdcobapnlpeaaaaGreat
open Go.RowKit
attribute [local go_sem ↓] Go.wp_at_zero Go.wp_at_succ
theorem Own.qE {B:Nat}{w:World}{v:Value}{l:List Int}(h:Own B w v l) (a:l.length<=1000000):Ints Any w v l:=ints_of_own h (by omega) (λ_ _=>trivial)
theorem mF (a b:List Int):strOfNums (a++b)=strOfNums a++strOfNums b:=by
 apply ByteArray.ext;simp[strOfNums,ByteArray.data_append]
def gj (o:List Int):Nat->List Int
 | 0=>[]
 | k+1=>gj o k++((if 0<k then [32] else [])++[48+gt o k])
def nS (P:Pr) (k:Nat):List Int:=[59,32]++([97+(k:Int)]++([94]++([48+gt P.orders k]++([61]++gi (nWord (gt P.powers k) P.orders.length)))))
def gT (P:Pr):Nat->List Int
 | 0=>[]
 | k+1=>gT P k++(if isZeroB (gt P.powers k) then [] else nS P k)
def mG (P:Pr) (i k:Nat):List Int:=[59,32]++([97+((i+1+k:Nat):Int)]++([94]++([97+(i:Int)]++([61]++gi (nWord (gt (gt P.conj i) k) P.orders.length)))))
def gV (P:Pr) (i:Nat):Nat->List Int
 | 0=>[]
 | k+1=>gV P i k++(if eqB (gt (gt P.conj i) k) (unitV P.orders.length (i+1+k)) then [] else mG P i k)
def iO (P:Pr):Nat->List Int
 | 0=>[]
 | i+1=>iO P i++gV P i (P.orders.length-1-i)
def kD (P:Pr):List Int:=if P.orders.length=0 then [49] else gj P.orders P.orders.length++(gT P P.orders.length++iO P P.orders.length)
theorem uF {e:List Int}{n:Nat}{x:Int}(h:x∈nWord e n):1<=x/\x<=n:=by
 induction n with
 | zero=>simp[nWord] at h
 | succ n a=>
  rcases List.mem_append.1 h with h|h
  ·have:=a h;omega
  ·have:=List.eq_of_mem_replicate h;omega
theorem nT (o:List Int):∀k,(gj o k).length<=2*k
 | 0=>by simp[gj]
 | k+1=>by
  have:=nT o k;simp only[gj,List.length_append,List.length_singleton];split<;>simp<;>omega
section
variable {P:Pr}(hP:Valid P)
include hP
theorem uG {e:List Int}(a:Vec P.orders e):∀i,gt e i<=7:=λi=>by
 by_cases h:i<P.orders.length
 ·have:=a.2 i h;have:=hP.ord7 i h;omega
 ·rw[show gt e i=0 by simp[gt,show e.length<=i by rw[a.1];omega]];omega
theorem nU {e:List Int}(a:Vec P.orders e):(gi (nWord e P.orders.length)).length<=43:=by
 have b:=hP.n6;refine CQ _ 42 (Nat.le_trans (nWord_len (λi => ?_) _) (by omega));by_cases h:i<P.orders.length
 ·have:=a.2 i h;have:=hP.ord7 i h;omega
 ·rw[show gt e i=0 by simp[gt,show e.length<=i by rw[a.1];omega]];omega
theorem qF:∀k,k<=P.orders.length->(gT P k).length<=50*k
 | 0,_=>by simp[gT]
 | k+1,h=>by
  have h1:=qF k (by omega);have a:=nU hP (hP.pv k (by omega)).1;simp only[gT,List.length_append];split
  ·simp;omega
  ·simp only[nS,List.length_append,List.length_cons,List.length_nil];omega
theorem qG {i:Nat}(a:i<P.orders.length):∀k,k<=P.orders.length-1-i->(gV P i k).length<=50*k
 | 0,_=>by simp[gV]
 | k+1,h=>by
  have h1:=qG a k (by omega);have b:=nU hP ((hP.cv i a).2 k (by omega)).1;simp only[gV,List.length_append];split
  ·simp;omega
  ·simp only[mG,List.length_append,List.length_cons,List.length_nil];omega
theorem uH:∀i,i<=P.orders.length->(iO P i).length<=300*i
 | 0,_=>by simp[iO]
 | i+1,h=>by
  have h1:=uH i (by omega);have a:=qG hP (show i<P.orders.length by omega) (P.orders.length-1-i) (Nat.le_refl _);have:=hP.n6;simp only[iO,List.length_append];omega
end
theorem CU (P:Pr) (hP:Valid P) (w:World) (pv:Value) (S:Nat->Prop) (q:PresV S w pv P) :
  Calls Tryz.prog 346 #[pv] w (Ret w λ_ r=>r=.string (strOfNums (kD P))):=by
 have bt:=hP.n6;obtain⟨vo,vp,vc,rfl,h3⟩:=q;have aM:=PresP.box h3 28;have aC:Ext w (w.alloc (.cells #[vo,vp,vc] 28)):=World.grownBy_alloc _ _ _;obtain⟨bu,fB,fu,_,_,hc0,ah,ai,C⟩:=aM.at;simp only[Nat.zero_add] at ah ai;obtain⟨ao,co,rfl,_,_⟩:=C.o.shape;obtain⟨ap,cp,aD,_,_⟩:=Sl.shape C.p;obtain⟨ac,cc,aE,_,_⟩:=Sl.shape C.c;rw[hP.pl] at aD;rw[hP.cl] at aE;subst aD aE;by_cases hn:P.orders.length=0
 ·have ht:kD P=[49]:=by unfold kD;rw[if_pos hn]
  have aN:((P.orders.length:Int) == 0)=true:=by rw[hn];rfl
  have HT:=Lib.hid ht;clear ht;go_enter Tryz.func346,Tryz.ntmps346;go_wp2;go_ret;exact⟨_,rfl,aC,by rw[HT.out];rfl⟩
 have ht:kD P=gj P.orders P.orders.length++(gT P P.orders.length++iO P P.orders.length):=by unfold kD;rw[if_neg hn]
 have aN:((P.orders.length:Int) == 0)=false:=by simp;intro h;exact hn (by rw[h];rfl)
 have HT:=Lib.hid (And.intro ht hn);clear ht hn;go_enter Tryz.func346,Tryz.ntmps346;go_wp2;generalize w.alloc (.cells #[vo,vp,vc] 28)=w0 at *;have aj:∀w',Ext w0 w'->w'.cell? ⟨w.heap.size,0,none⟩=some (.slice ao P.orders.length co):=λw' h=>h.cell hc0 (by simp);have ak:∀w',Ext w0 w'->w'.cell? ⟨w.heap.size,1,none⟩=some (.slice ap P.orders.length cp):=λw' h=>h.cell ah (by simp);have aG:∀w',Ext w0 w'->w'.cell? ⟨w.heap.size,2,none⟩=some (.slice ac P.orders.length cc):=λw' h=>h.cell ai (by simp);have HB:=Lib.hid (And.intro aj (And.intro ak aG));clear aj ak aG hc0 ah ai;go_loopw [4,5] (λov I wr=>∃(i:Nat),ov=.string (strOfNums (gj P.orders i))/\I=.int .i64 i/\i<=P.orders.length/\Ext w0 wr) (λ_ I _=>P.orders.length-(intOf I).toNat)
 case atStart=>exact⟨0,rfl,rfl,by omega,Ext.refl _⟩
 case round =>
  obtain⟨i,rfl,rfl,hi,n⟩:=hrel;have D:=nT P.orders i;by_cases b:i<P.orders.length
  ·have ab:(i:Int)<P.orders.length:=by omega
   obtain⟨bo,oo,rfl,_,_,E⟩:=Ints.at (Ints.ext C.o n) i b;have h7:=hP.ord7 i b;have aj:=HB.out.1 wr n;obtain⟨y,hy⟩:∃y,y=gt P.orders i:=⟨_,rfl⟩;have u:gj P.orders (i+1)=gj P.orders i++((if 0<i then [32] else [])++[48+y]):=by rw[hy];rfl
   rw[<-hy] at E h7;obtain⟨l,B⟩:∃l,l=gj P.orders i:=⟨_,rfl⟩;rw[<-B] at u D;have aI:l.length<=1000:=by omega
   have a:=Lib.hid (And.intro u (And.intro B hy));clear u hy B D;rw[show strOfNums (gj P.orders i)=strOfNums l by rw[a.out.2.1]];have bx:=strOfNums_size l;rcases hb:decide (0<i) with _|_
   ·have g:strOfNums (gj P.orders (i+1))=strOfNums l++strOfNums [48+y]:=by
     have:¬ 0<i:=by simpa using hb
     rw[a.out.1,if_neg this,List.nil_append,mF]
    have HN:=Lib.hid g;clear g;go_wp2_with fail
    refine Calls.mono (nR wr y (by omega) (by omega)) ?_;rintro e1 w1 ⟨v1,rfl,hg1,rfl⟩;have J:=strOfNums_size [48+y];clear E;go_wp2_with fail
    go_roundw
    case rel=>exact⟨i+1,by rw[HN.out],by go_num,by omega,grown_trans n hg1⟩
    case measure=>simp[intOf];omega
   ·have g:strOfNums (gj P.orders (i+1))=strOfNums l++⟨#[32]⟩++strOfNums [48+y]:=by
     have:0<i:=by simpa using hb
     rw[a.out.1,if_pos this,mF,mF,ByteArray.append_assoc];rfl
    have HN:=Lib.hid g;clear g;go_wp2_with fail
    refine Calls.mono (nR wr y (by omega) (by omega)) ?_;rintro e1 w1 ⟨v1,rfl,hg1,rfl⟩;have J:=strOfNums_size [48+y];clear E;go_wp2_with fail
    go_roundw
    case rel=>exact⟨i+1,by rw[HN.out],by go_num,by omega,grown_trans n hg1⟩
    case measure=>simp[intOf];omega
  ·have K : i=P.orders.length:=by omega
   subst K;go_wp2;clear b D;have L:=n;clear n;go_loopw [4,6] (λov I wr=>∃(i:Nat),ov=.string (strOfNums (gj P.orders P.orders.length++gT P i))/\I=.int .i64 i/\i<=P.orders.length/\Ext w0 wr) (λ_ I _=>P.orders.length-(intOf I).toNat)
   case atStart=>exact⟨0,by rw[show gT P 0=[] from rfl,List.append_nil],rfl,by omega,L⟩
   case round =>
    clear L;obtain⟨i,rfl,rfl,hi,n⟩:=hrel;have D:=nT P.orders P.orders.length;have am:=qF hP i hi;by_cases b:i<P.orders.length
    ·have ab:(i:Int)<P.orders.length:=by omega
     obtain⟨bp,op,ae,ce,rfl,_,_,V,v⟩:=Rows2.at (Rows2.ext C.p n) i (by rw[hP.pl];exact b);have ak:=HB.out.2.1 wr n;have q:=(hP.pv i b).1;obtain⟨e,M⟩:∃e,e=gt P.powers i:=⟨_,rfl⟩;rw[<-M] at V v q;have G:=q.1;obtain⟨l,B⟩:∃l,l=gj P.orders P.orders.length++gT P i:=⟨_,rfl⟩;have aI:l.length<=1000:=by rw[B,List.length_append];omega
     rw[<-B];rcases hz:isZeroB e with _|_
     ·have u:gj P.orders P.orders.length++gT P (i+1)=l++nS P i:=by
       rw[B,List.append_assoc,gT,<-M,hz];rfl
      obtain⟨bo,oo,rfl,_,_,E⟩:=Ints.at (Ints.ext C.o n) i b;have h7:=hP.ord7 i b;have N:=nU hP q;have z:nS P i=[59,32]++([97+(i:Int)]++([94]++([48+gt P.orders i]++([61]++gi (nWord e P.orders.length))))):=by rw[M];rfl
      obtain⟨y,hy⟩:∃y,y=gt P.orders i:=⟨_,rfl⟩;rw[<-hy] at E h7 z;obtain⟨W,H⟩:∃W,W=nWord e P.orders.length:=⟨_,rfl⟩;have O:W.length<=42:=by rw[H];exact Nat.le_trans (nWord_len (uG hP q) _) (by omega)
      have Q:∀x∈W,-26<=x/\x<=26:=by rw[H];exact λx hx=>by have:=uF hx;omega
      rw[<-H] at z N
      have g:strOfNums (gj P.orders P.orders.length++gT P (i+1))=strOfNums l++⟨#[59,32]⟩++strOfNums [97+(i:Int)]++⟨#[94]⟩++strOfNums [48+y]++⟨#[61]⟩++strOfNums (gi W):=by
       rw[u,z];simp only[mF,ByteArray.append_assoc];rfl
      have R:∀j,j<e.length->0<=gt e j/\gt e j<=7:=λj hj=>by have:=q.2 j (by omega);have:=hP.ord7 j (by omega);omega
      have a:=Lib.hid (And.intro g (And.intro O (And.intro Q (And.intro R (And.intro G H)))));clear u q M B G D am z hy H O Q g R;have F:=l01Zero_ok _ e wr _ v;rw[hz] at F;clear hz;go_wp2_with fail
      refine Calls.mono F ?_;rintro _ _ ⟨rfl,rfl⟩;clear F;have af:=V;clear V;have e0:∀w',Ext wr w'->w'.cell? ⟨w.heap.size,0,none⟩=some (.slice (some ⟨bo,oo,none⟩) P.orders.length co):=λw' h=>HB.out.1 w' (grown_trans n h);have e1:∀w',Ext wr w'->w'.cell? ⟨w.heap.size,1,none⟩=some (.slice (some ⟨bp,op,none⟩) P.orders.length cp):=λw' h=>HB.out.2.1 w' (grown_trans n h);have e2:∀w',Ext wr w'->w'.cell? ⟨bo,oo+i,none⟩=some (.int .i64 y):=λw' h=>h.cell E (by simp);have e3:∀w',Ext wr w'->w'.cell? ⟨bp,op+i,none⟩=some (.slice ae e.length ce):=λw' h=>h.cell af (by simp);have z0:=strOfNums_size l;have z1:=strOfNums_size [97+(i:Int)];have z2:=strOfNums_size [48+y];have z3:=strOfNums_size (gi W);have q1:¬ 9223372036854775807<l.length+2:=by omega
      have q2:¬ 9223372036854775807<l.length+2+1:=by omega
      have q3:¬ 9223372036854775807<l.length+2+1+1:=by omega
      have q4:¬ 9223372036854775807<l.length+2+1+1+1:=by omega
      have q5:¬ 9223372036854775807<l.length+2+1+1+1+1:=by omega
      have q6:¬ 9223372036854775807<l.length+2+1+1+1+1+(gi W).length:=by omega
      clear E af;go_wp2_with fail
      go_region_held3 (λw'=>Ext wr w') (first|exact grown_drew _ _|assumption)
       (first
        | (go_at_call 364;refine Calls.mono (Calls.rel (w0:=wr) (by assumption) (qA _ _ W Any an a.out.2.2.1 (by have:=a.out.2.1;omega))) ?_;rintro eD wD ⟨vD,rfl,qH,pq,rfl⟩)
        | (go_at_call 365;refine Calls.mono (Calls.rel (w0:=wr) (by assumption) (l07Word_ok _ _ e Any (Ints.sub (Ints.ext v (by assumption)) (λ_ _ _=>trivial)) (by have:=a.out.2.2.2.2.1;omega) a.out.2.2.2.1)) ?_;rintro eC wC ⟨vC,rfl,iL,hsC,iV⟩;rw[a.out.2.2.2.2.1,<-a.out.2.2.2.2.2] at iV;have an:Ints Any wC vC W:=iV.qE (by have:=a.out.2.1;omega))
        | (go_at_call 362;refine Calls.mono (Calls.rel (w0:=wr) (by assumption) (nR _ y (by omega) (by omega))) ?_;rintro eB wB ⟨vB,rfl,T,hsB,rfl⟩)
        | (go_at_call 363;refine Calls.mono (Calls.rel (w0:=wr) (by first|exact grown_drew _ _|assumption) (qB _ i (by omega))) ?_;rintro eA wA ⟨vA,rfl,eH,fK,rfl⟩))
      clear e0 e1 e2 e3 z0 z1 z2 z3 q1 q2 q3 q4 q5 q6;go_wp2;go_roundw
      case rel=>exact⟨i+1,by rw[a.out.1],by go_num,by omega,grown_trans n qH⟩
      case measure=>simp[intOf];omega
     ·have u:gj P.orders P.orders.length++gT P (i+1)=l:=by
       rw[B,gT,<-M,hz];simp
      have a:=Lib.hid (And.intro u (And.intro q (And.intro M B)));clear u q M B G D am;have F:=l01Zero_ok _ e wr _ v;rw[hz] at F;clear hz;go_wp2_with fail
      refine Calls.mono F ?_;rintro _ _ ⟨rfl,rfl⟩;clear F V;go_wp2_with fail
      go_roundw
      case rel=>exact⟨i+1,by rw[a.out.1],by go_num,by omega,n⟩
      case measure=>simp[intOf];omega
    ·have K : i=P.orders.length:=by omega
     subst K;go_wp2;clear b D am;have L:=n;clear n;obtain⟨l0,X⟩:∃l0,l0=gj P.orders P.orders.length++gT P P.orders.length:=⟨_,rfl⟩
     have bl:l0.length<=400:=by
      have h1:=nT P.orders P.orders.length;have h2:=qF hP P.orders.length (Nat.le_refl _);rw[X,List.length_append];omega
     rw[<-X];have a4:=Lib.hid X;clear X;go_loopw [4,7] (λov I wr=>∃(i:Nat),ov=.string (strOfNums (l0++iO P i))/\I=.int .i64 i/\i<=P.orders.length/\Ext w0 wr) (λ_ I _=>P.orders.length-(intOf I).toNat)
     case atStart=>exact⟨0,by rw[show iO P 0=[] from rfl,List.append_nil],rfl,by omega,L⟩
     case round=>
      clear L;obtain⟨i,rfl,rfl,hi,n⟩:=hrel;by_cases b:i<P.orders.length
      ·have ab:(i:Int)<P.orders.length:=by omega
       obtain⟨wo,rfl⟩:∃wo:World,wo=wr:=⟨_,rfl⟩;have a5:=uH hP i hi;obtain⟨l1,Y⟩:∃l1,l1=l0++iO P i:=⟨_,rfl⟩;have bn:l1.length<=2200:=by rw[Y,List.length_append];omega
       rw[<-Y];have a6:=Lib.hid Y;clear Y a5;go_wp2;go_loopw [4,8] (λov jv wr=>∃(k j:Nat),ov=.string (strOfNums (l1++gV P i k))/\jv=.int .i64 j/\Hid (j=i+1+k/\k<=P.orders.length-1-i)/\j<=P.orders.length/\Ext w0 wr) (λ_ jv _=>P.orders.length-(intOf jv).toNat)
       case atStart=>exact⟨0,i+1,by rw[show gV P i 0=[] from rfl,List.append_nil],by go_num,Lib.hid ⟨rfl,by omega⟩,by omega,n⟩
       case round=>
        have bJ:=n;clear n;obtain⟨k,j,rfl,rfl,HJ,hj,n⟩:=hrel;by_cases aK:j<P.orders.length
        ·have au:(j:Int)<P.orders.length:=by omega
         have hk:k<P.orders.length-1-i:=by have:=HJ.out;omega
         obtain⟨bc,oc,ar,cr,rfl,_,_,Z,lT⟩:=Rows3.at (Rows3.ext C.c n) i (by rw[hP.cl];exact b);have aa:=(hP.cv i b).1;have U:=(hP.cv i b).2 k hk;rw[aa] at Z;obtain⟨be,oe,ae,ce,rfl,_,_,av,v⟩:=Rows2.at lT k (by rw[aa];exact hk);obtain⟨e,M⟩:∃e,e=gt (gt P.conj i) k:=⟨_,rfl⟩;rw[<-M] at av v U;have G:=U.1.1;have N:=nU hP U.1;have a8:=qG hP b k (by omega);have aL:=HJ.out.1;obtain⟨l,B⟩:∃l,l=l1++gV P i k:=⟨_,rfl⟩;have aI:l.length<=3000:=by rw[B,List.length_append];omega
         rw[<-B];obtain⟨m,hm⟩:∃m,m=P.orders.length-1-i:=⟨_,rfl⟩;rw[<-hm] at Z hk;have bK:(k:Int)<m:=by omega
         have J:IntKind.i64.wrap ((j:Int)-(i:Int))=(k:Int)+1:=by rw[show(j:Int)-(i:Int)=(k:Int)+1 by omega];exact IntWalk.i64_in _ (by omega)
         have aw:IntKind.i64.wrap (k:Int)=(k:Int):=IntWalk.i64_in _ (by omega);have e0:∀w',Ext wr w'->w'.cell? ⟨w.heap.size,2,none⟩=some (.slice (some ⟨bc,oc,none⟩) P.orders.length cc):=λw' h=>HB.out.2.2 w' (grown_trans n h);have e1:∀w',Ext wr w'->w'.cell? ⟨bc,oc+i,none⟩=some (.slice (some ⟨be,oe,none⟩) m cr):=λw' h=>h.cell Z (by simp);have e2:∀w',Ext wr w'->w'.cell? ⟨be,oe+k,none⟩=some (.slice ae e.length ce):=λw' h=>h.cell av (by simp);have a:=Lib.hid (And.intro G (And.intro U (And.intro M (And.intro B (And.intro hm (And.intro N (And.intro aL aa)))))));clear G U M B hm N a8 aL aa Z av;have HE:=Lib.hid (And.intro e0 (And.intro e1 e2));go_wp2
         go_region_held3 (λw'=>Ext wr w') (first|exact grown_drew _ _|assumption)
          (first
           | (go_at_call 153;refine Calls.mono (Calls.rel (w0:=wr) (by assumption) (l01Same_ok _ _ e (unitV P.orders.length j) _ Any Any (Ints.sub (Ints.ext v (by assumption)) (λ_ _ _=>trivial)) ba)) ?_;rintro eB wB ⟨vB,rfl,T,hsB,rfl⟩)
           | (go_at_call 308;refine Calls.mono (Calls.rel (w0:=wr) (by first|exact grown_drew _ _|assumption) (l07Unit_ok P.orders.length j _ aK (by omega))) ?_;rintro eA wA ⟨vA,rfl,eH,fK,jm⟩;have ba:Ints Any wA vA (unitV P.orders.length j):=jm.qE (by rw[unitV_len];omega)))
         clear e0 e1 e2 J aw;rcases hq:eqB e (unitV P.orders.length j) with _|_
         ·have z:mG P i k=[59,32]++([97+(j:Int)]++([94]++([97+(i:Int)]++([61]++gi (nWord e P.orders.length))))):=by
           unfold mG;rw[<-a.out.2.2.1,<-a.out.2.2.2.2.2.2.1]
          obtain⟨W,H⟩:∃W,W=nWord e P.orders.length:=⟨_,rfl⟩;rw[<-H] at z;have O:W.length<=42:=by rw[H];exact Nat.le_trans (nWord_len (uG hP a.out.2.1.1) _) (by omega)
          have Q:∀x∈W,-26<=x/\x<=26:=by rw[H];exact λx hx=>by have:=uF hx;omega
          have N:(gi W).length<=43:=by rw[H];exact a.out.2.2.2.2.2.1
          have g:strOfNums (l1++gV P i (k+1))=strOfNums l++⟨#[59,32]⟩++strOfNums [97+(j:Int)]++⟨#[94]⟩++strOfNums [97+(i:Int)]++⟨#[61]⟩++strOfNums (gi W):=by
           have h1:gV P i (k+1)=gV P i k++mG P i k:=by rw[gV,<-a.out.2.2.1,<-a.out.2.2.2.2.2.2.1,hq];rfl
           rw[h1,<-List.append_assoc,<-a.out.2.2.2.1,z];simp only[mF,ByteArray.append_assoc];rfl
          have R:∀j,j<e.length->0<=gt e j/\gt e j<=7:=λj hj=>by have:=a.out.2.1.1.2 j (by have:=a.out.1;omega);have:=hP.ord7 j (by have:=a.out.1;omega);omega
          have HW:=Lib.hid (And.intro g (And.intro O (And.intro Q (And.intro R H))));clear z H O Q g R;have J:IntKind.i64.wrap ((j:Int)-(i:Int))=(k:Int)+1:=by have:=a.out.2.2.2.2.2.2.1;rw[show(j:Int)-(i:Int)=(k:Int)+1 by omega];exact IntWalk.i64_in _ (by omega)
          have aw:IntKind.i64.wrap (k:Int)=(k:Int):=IntWalk.i64_in _ (by have:=a.out.2.2.2.2.1;omega);have z0:=strOfNums_size l;have z1:=strOfNums_size [97+(i:Int)];have z2:=strOfNums_size [97+(j:Int)];have z3:=strOfNums_size (gi W);have q1:¬ 9223372036854775807<l.length+2:=by omega
          have q2:¬ 9223372036854775807<l.length+2+1:=by omega
          have q3:¬ 9223372036854775807<l.length+2+1+1:=by omega
          have q4:¬ 9223372036854775807<l.length+2+1+1+1:=by omega
          have q5:¬ 9223372036854775807<l.length+2+1+1+1+1:=by omega
          have q6:¬ 9223372036854775807<l.length+2+1+1+1+1+(gi W).length:=by omega
          go_wp2_with fail
          have e0:=HE.out.1;have e1:=HE.out.2.1;have e2:=HE.out.2.2
          go_region_held3 (λw'=>Ext wr w') (first|exact grown_trans T (grown_drew _ _)|assumption)
           (first
            | (go_at_call 364;refine Calls.mono (Calls.rel (w0:=wr) (by assumption) (qA _ _ W Any an HW.out.2.2.1 (by have:=HW.out.2.1;omega))) ?_;rintro eD wD ⟨vD,rfl,qH,pq,rfl⟩)
            | (go_at_call 365;refine Calls.mono (Calls.rel (w0:=wr) (by assumption) (l07Word_ok _ _ e Any (Ints.sub (Ints.ext v (by assumption)) (λ_ _ _=>trivial)) (by have:=a.out.1;omega) HW.out.2.2.2.1)) ?_;rintro eC wC ⟨vC,rfl,iL,hsC,iV⟩;rw[a.out.1,<-HW.out.2.2.2.2] at iV;have an:Ints Any wC vC W:=iV.qE (by have:=HW.out.2.1;omega))
            | (go_at_call 363;refine Calls.mono (Calls.rel (w0:=wr) (by first|exact grown_trans T (grown_drew _ _)|assumption) (qB _ j (by omega))) ?_;rintro eL wL ⟨vL,rfl,EH,hsL,rfl⟩)
            | (go_at_call 363;refine Calls.mono (Calls.rel (w0:=wr) (by first|exact grown_trans T (grown_drew _ _)|assumption) (qB _ i (by omega))) ?_;rintro eM wM ⟨vM,rfl,kW,EI,rfl⟩))
          clear e0 e1 e2 z0 z1 z2 z3 q1 q2 q3 q4 q5 q6 J aw;go_wp2;go_roundw
          case rel=>exact⟨k+1,j+1,by rw[HW.out.1],by go_num,Lib.hid ⟨by have:=a.out.2.2.2.2.2.2.1;omega,by have:=a.out.2.2.2.2.1;omega⟩,by omega,grown_trans n qH⟩
          case measure=>simp[intOf];omega
         ·have g:strOfNums (l1++gV P i (k+1))=strOfNums l:=by
           rw[gV,<-a.out.2.2.1,<-a.out.2.2.2.2.2.2.1,hq,<-List.append_assoc,<-a.out.2.2.2.1];simp
          have HN:=Lib.hid g;clear g;go_wp2_with fail
          go_roundw
          case rel=>exact⟨k+1,j+1,by rw[HN.out],by go_num,Lib.hid ⟨by have:=a.out.2.2.2.2.2.2.1;omega,by have:=a.out.2.2.2.2.1;omega⟩,by omega,grown_trans n T⟩
          case measure=>simp[intOf];omega
        ·have A:strOfNums (l1++gV P i k)=strOfNums (l0++iO P (i+1)):=by
          have:=HJ.out;rw[a6.out,iO,show k=P.orders.length-1-i by omega,List.append_assoc]
         have HF:=Lib.hid A;clear A;have au:¬((j:Int)<P.orders.length):=by omega
         go_wp2;go_roundw
         case rel=>exact⟨i+1,by rw[HF.out],by go_num,by omega,n⟩
         case measure=>simp[intOf];omega
      ·have K:i=P.orders.length:=by omega
       subst K;have A:strOfNums (l0++iO P P.orders.length)=strOfNums (kD P):=by rw[HT.out.1,a4.out,List.append_assoc]
       have HF:=Lib.hid A;clear A;go_wp2;go_ret;exact⟨_,rfl,grown_trans aC n,by rw[<-HF.out];rfl⟩
theorem uI (N B:Nat) (w:World):PresN N B w (.agg #[.slice none 0 0,.slice none 0 0,.slice none 0 0]):=
 ⟨⟨[],[],[]⟩,⟨Nat.zero_le _,rfl,rfl,λi h=>absurd h (by simp),by simp,by simp⟩,_,_,_,rfl,λ_=>False,λ_=>False,λ_=>False,
  ⟨World.ownsRow_nil _ _ _ _,by simp[Value.ownBlock],by simp⟩,
  ⟨[],λ_ _=>False,rfl,by simp,World.ownsRow_nil _ _ _ _,by simp[Value.ownBlock],by simp,by simp,by simp⟩,⟨[],λ_ _=>False,rfl,by simp,World.ownsRow_nil _ _ _ _,by simp[Value.ownBlock],by simp,by simp,by simp⟩,
  λ_ h=>h.elim,λ_ h=>h.elim,λ_ h=>h.elim⟩
def CV (N B:Nat) (w':World) (v:Value):Prop:=∃(vo vp vc:Value) (c:Int),v=.tuple #[.agg #[vo,vp,vc],.int .i64 c]/\PresN N B w' (.agg #[vo,vp,vc])
theorem uS (w:World) (n:Nat) (hn:1<=n/\n<=729) :
  Calls Tryz.prog 318 #[.int .i64 n] w (Ret w (CV 9 w.heap.size)):=by
 have K:∀w',Ext (w.alloc (.cells #[.slice none 0 0,.slice none 0 0,.slice none 0 0] 28)) w'->Box3 w' w.heap.size (.slice none 0 0) (.slice none 0 0) (.slice none 0 0):=λw' h=>(Box3.made w 28 _ _ _).ext h;have m:Ext w (w.alloc (.cells #[.slice none 0 0,.slice none 0 0,.slice none 0 0] 28)):=World.grownBy_alloc _ _ _;have L:(w.alloc (.cells #[.slice none 0 0,.slice none 0 0,.slice none 0 0] 28)).heap.size=w.heap.size+1:=by simp
 have M:inB n 1 729=true:=by simp[inB];omega
 have O:=Lib.hid (And.intro hn (And.intro K (And.intro m L)));clear hn K L;go_enter Tryz.func318,Tryz.ntmps318;go_wp2_with fail
 generalize w.alloc (.cells #[.slice none 0 0,.slice none 0 0,.slice none 0 0] 28)=w0 at *;refine Calls.mono (l01In_ok n 1 729 w0) ?_;rintro _ _ ⟨rfl,rfl⟩;rw[M];clear M;go_wp2_with fail
 refine Calls.mono (l07Factors_ok w0 n O.out.1) ?_;rintro e1 p ⟨v1,rfl,a,a1,c1,l,r,rfl,P,Z,Q⟩;have HL:=Lib.hid (And.intro P (And.intro Q Z));clear P Q;have C:=O.out.2.1 p a;obtain⟨k0,k1,k2,k3,k4⟩:=id C;cases r
 ·go_wp2_with fail
  have y:=C.all (.slice none 0 0) (.slice none 0 0) (.slice none 0 0);have A:=grown_set3 p w.heap.size (.slice none 0 0) (.slice none 0 0) (.slice none 0 0);obtain⟨_,z0,z1,z2,_⟩:=id y;have D:=Lib.hid A;clear A y;go_wp2;refine bodyPost_ret (v := .tuple #[.agg #[.slice none 0 0,.slice none 0 0,.slice none 0 0],.int .i64 2]) (by simp[results,Tryz.results318,go_sem,z0,z1,z2]) rfl ?_;exact⟨_,rfl,grown_own (grown_trans m a) D.out (λj E q=>by cases E;omega),_,_,_,_,rfl,uI 9 _ _⟩
 by_cases h6:6<l.length
 ·go_wp2_with fail
  have y:=C.all (.slice none 0 0) (.slice none 0 0) (.slice none 0 0);have A:=grown_set3 p w.heap.size (.slice none 0 0) (.slice none 0 0) (.slice none 0 0);obtain⟨_,z0,z1,z2,_⟩:=id y;have D:=Lib.hid A;clear A y;go_wp2;refine bodyPost_ret (v := .tuple #[.agg #[.slice none 0 0,.slice none 0 0,.slice none 0 0],.int .i64 3]) (by simp[results,Tryz.results318,go_sem,z0,z1,z2]) rfl ?_;exact⟨_,rfl,grown_own (grown_trans m a) D.out (λj E q=>by cases E;omega),_,_,_,_,rfl,uI 9 _ _⟩
 clear k0 k1 k2 k3 k4;go_wp2_with fail
 refine Calls.mono (l07Trivial_ok p _ l _ (HL.out.1.ints (by omega)) (by omega)) ?_;rintro e2 J ⟨v2,rfl,hg2,vo,vp,vc,rfl,F⟩;obtain⟨G,co,ap,u,H,I,rfl,rfl,rfl⟩:=trivX_shape F;go_wp2_with fail
 have aa:=hg2.size;have aq:=a.size;have R:Ext J (J.alloc (.cells #[.slice G l.length co,.slice ap l.length u,.slice H l.length I] 28)):=World.grownBy_alloc _ _ _;have e:=BX.start (N:=9) (B:=p.heap.size) (by omega) F R (Box3.made J 28 (.slice G l.length co) (.slice ap l.length u) (.slice H l.length I)) aa;generalize J.alloc (.cells #[.slice G l.length co,.slice ap l.length u,.slice H l.length I] 28)=w3 at *;have S:Ext p w3:=grown_trans hg2 R;clear F hg2;go_loopw [7] (λiv wr=>∃i:Nat,iv=.int .i64 i/\i<=l.length/\Ext p wr/\BX 9 l p.heap.size J.heap.size wr (.slice G l.length co) (.slice ap l.length u) (.slice H l.length I)) (λiv _=>l.length-(intOf iv).toNat)
 case atStart=>exact⟨0,rfl,by omega,S,e⟩
 case round=>
  clear e S;obtain⟨i,rfl,hi,hg,e⟩:=hrel;by_cases q:i+1<l.length
  ·have T:(i:Int)+1<l.length:=by omega
   obtain⟨g,cap,z,fS,hgB,iI,hgl,U,V⟩:=e.storeP i (by omega);obtain⟨rfl,rfl⟩:ap=some ⟨g,0,none⟩/\u=cap:=by cases fS;exact⟨rfl,rfl⟩
   clear fS;have e1:∀w',Near wr g w'->w'.cell? ⟨J.heap.size,1,none⟩=some (.slice (some ⟨g,0,none⟩) l.length u):=λw' h=>h.cell e.box.2.2.1 (by simp;omega)
   have W:∀w,Calls Tryz.prog 308 #[.int .i64 l.length,.int .i64 ((i:Int)+1)] w (Ret w λw' v=>Own w.heap.size w' v (unitV l.length (i+1))):=λw=>by
    have h:=l07Unit_ok l.length (i+1) w (by omega) (by omega);rwa [show((i+1:Nat):Int)=(i:Int)+1 by omega] at h
   have HX:=Lib.hid (And.intro e (And.intro V U));clear e V U;have ar:(i:Int)<l.length:=by omega
   have au:IntKind.i64.wrap ((i:Int)+1)=(i:Int)+1:=IntWalk.i64_in _ (by omega);have av:wrap64 ((i:Int)+1)=(i:Int)+1:=IntWalk.wrap64_in _ (by omega);go_wp2
   go_region_held3 (λw'=>Near wr g w') (first|exact Near.of (grown_drew _ _)|exact Near.of (by assumption)|exact Near.store (by assumption)|assumption)
    (first
     | (go_at_call 308;refine Calls.mono (Calls.rel (w0:=wr) (by first|exact grown_drew _ _|assumption) (W _)) ?_;rintro eE Y ⟨vE,rfl,b,gJ,X⟩;obtain⟨aE,cE,fQ,_⟩:=(X.ints (by rw[unitV_len];omega)).shape;subst fQ;have af:=(HX.out.2.2 Y b).1;have ag:=(HX.out.2.2 Y b).2))
   have ay:=b.size;have ah:=HX.out.2.1 Y _ (unitV l.length (i+1)) b (OwnIn.of X (by rw[unitV_len];omega) (λk hk _=>Nat.le_trans (by assumption) hk)) (by rw[unitV_len];omega);have ai:Ext p (Y.setCell ⟨g,i,none⟩ (.slice aE (unitV l.length (i+1)).length cE)):=grown_own (grown_trans hg b) (grown_set1 _ _ _ _) (λj E q=>by cases E;omega);clear af ag e1;go_wp2;go_roundw
   case rel=>exact⟨i+1,by go_num,by omega,ai,ah⟩
   case measure=>simp[intOf];omega
  ·have T:¬((i:Int)+1<l.length):=by omega
   have hz:=O.out.2.1 wr (grown_trans a hg);obtain⟨h0,h1,h2,h3',h4⟩:=id e.box;obtain⟨k0,k1,k2,k3,k4⟩:=id hz;have y:=hz.all (.slice G l.length co) (.slice ap l.length u) (.slice H l.length I);have A:=grown_set3 wr w.heap.size (.slice G l.length co) (.slice ap l.length u) (.slice H l.length I);obtain⟨_,z0,z1,z2,_⟩:=id y;have D:=Lib.hid (And.intro A e);clear A y e;go_wp2;refine bodyPost_ret (v := .tuple #[.agg #[.slice G l.length co,.slice ap l.length u,.slice H l.length I],.int .i64 0]) (by simp[results,Tryz.results318,go_sem,z0,z1,z2]) rfl ?_;exact⟨_,rfl,grown_own (grown_trans m (grown_trans a hg)) D.out.1 (λj E q=>by cases E;omega),_,_,_,_,rfl,(D.out.2.ret D.out.1 (by have:=O.out.2.2.2;omega)).weak (by have:=O.out.2.2.2;omega)⟩
def jH (N B:Nat) (w':World) (vo vp vc:Value):Prop:=∃Q,Shp N Q/\Pres3 (From B) w' vo vp vc Q
def CW (N B:Nat) (w':World) (v:Value):Prop:=∃(vo vp vc:Value) (c:Int),v=.tuple #[.agg #[vo,vp,vc],.int .i64 c]/\jH N B w' vo vp vc
theorem nV (S:Nat->Prop) (w:World):Pres3 S w (.slice none 0 0) (.slice none 0 0) (.slice none 0 0) ⟨[],[],[]⟩:=
 ⟨⟨none,0,rfl,⟨by simp,by simp,λ_=>rfl⟩,λi a=>by simp at a⟩,⟨none,0,rfl,⟨by simp,by simp,λ_=>rfl⟩,λi a=>by simp at a⟩,⟨none,0,rfl,⟨by simp,by simp,λ_=>rfl⟩,λi a=>by simp at a⟩⟩
theorem nW (N:Nat):Shp N ⟨[],[],[]⟩:=⟨Nat.zero_le _,rfl,rfl,λi h=>absurd h (by simp),by simp,by simp⟩
theorem CX (w:World) (s:ByteArray) (hs:s.size<=1000) :
  Calls Tryz.prog 306 #[.string s] w (Ret w (CW 6 w.heap.size)):=by
 have aO:=Box3.made w 28 (.slice none 0 0) (.slice none 0 0) (.slice none 0 0);have aP:Ext w (w.alloc (.cells #[.slice none 0 0,.slice none 0 0,.slice none 0 0] 28)):=World.grownBy_alloc _ _ _;have be:(w.alloc (.cells #[.slice none 0 0,.slice none 0 0,.slice none 0 0] 28)).heap.size=w.heap.size+1:=by simp
 go_enter Tryz.func306,Tryz.ntmps306;go_wp2_with fail
 generalize w.alloc (.cells #[.slice none 0 0,.slice none 0 0,.slice none 0 0] 28)=w0 at *;refine Calls.mono (qw w0 s 59 hs) ?_;rintro e1 w1 ⟨v1,rfl,O,av,cv,ts,rfl,hl1,ae,P,hT⟩;obtain⟨bt,rfl,hc0⟩:=kC.at hT 0 (by omega);have bg:=P _ (gtMem (show 0<ts.length by omega));have bh:(0:Int)<ts.length:=by omega
 have af:=grown_trans aP O;have aY:ts.length<=1001:=by omega
 go_wp2_with fail
 refine Calls.mono (CO w1 _ (by omega)) ?_;rintro e2 E ⟨v2,rfl,G,ao,n,co,r,rfl,hR⟩;have u:=grown_trans af G;have z:=(aO.ext O).ext G;have bi:w.heap.size+1<=E.heap.size:=by have:=O.size;have:=G.size;omega
 have aZ:=(hT.lt bt rfl).2;have HT:=Lib.hid (And.intro hT (And.intro P ae));clear hT P ae hc0;cases r
 case' false=>
  obtain⟨n0,n1,n2,n3,n4⟩:=id z;have b:=z.all (.slice none 0 0) (.slice none 0 0) (.slice none 0 0);obtain⟨-,z0,z1,z2,-⟩:=id b;have g:=grown_set3 E w.heap.size (.slice none 0 0) (.slice none 0 0) (.slice none 0 0);have l:=Lib.hid g;clear b g;go_wp2_with fail
  refine bodyPost_ret (v := .tuple #[.agg #[.slice none 0 0,.slice none 0 0,.slice none 0 0],.int .i64 6]) (by simp[results,Tryz.results306,go_sem,z0,z1,z2]) rfl ?_;exact⟨_,rfl,grown_own u l.out (λj A a=>by cases A;omega),_,_,_,_,rfl,_,nW 6,nV _ _⟩
 obtain⟨o,R,qx,B,hO⟩:=hR rfl;have R:=R;subst R;clear hR;have ag:=hO.ints (by omega);have HO:=Lib.hid (And.intro B hO);clear B hO;go_wp2_with fail
 refine Calls.mono (l07Trivial_ok E _ o _ ag (by omega)) ?_;rintro e3 m ⟨v3,rfl,hg3,vo,vp,vc,rfl,gX⟩;obtain⟨a1,c1,a2,c2,a3,c3,rfl,rfl,rfl⟩:=trivX_shape gX;have S:Ext m (m.alloc (.cells #[.slice a1 o.length c1,.slice a2 o.length c2,.slice a3 o.length c3] 28)):=World.grownBy_alloc _ _ _;have ai:=Box3.made m 28 (.slice a1 o.length c1) (.slice a2 o.length c2) (.slice a3 o.length c3)
 have aj:Pres3 (λk=>E.heap.size<=k/\k≠m.heap.size) (m.alloc (.cells #[.slice a1 o.length c1,.slice a2 o.length c2,.slice a3 o.length c3] 28)) (.slice a1 o.length c1) (.slice a2 o.length c2) (.slice a3 o.length c3) (trivP o):=
  gX.p3.mono (λk hk a=>⟨⟨hk,by omega⟩,Nat.lt_of_lt_of_le a S.size,S.block k a (by simp)⟩)
 have bk:=hg3.size;have L:=grown_trans hg3 S;go_wp2_with fail
 generalize m.alloc (.cells #[.slice a1 o.length c1,.slice a2 o.length c2,.slice a3 o.length c3] 28)=w4 at *;clear gX ag;go_loopw [6,8] (λaQ iv wr=>∃(i:Nat) (qo qp qc:Value) (Q:Pr),aQ=.bool true/\iv=.int .i64 i/\i<=ts.length/\Ext E wr/\Box3 wr m.heap.size qo qp qc/\Shp 6 Q/\Q.orders=o/\Pres3 (λk=>E.heap.size<=k/\k≠m.heap.size) wr qo qp qc Q) (λ_ iv _=>ts.length-(intOf iv).toNat)
 case atStart=>exact⟨1,_,_,_,trivP o,rfl,rfl,by omega,L,ai,trivP_shp o qx,rfl,aj⟩
 case round=>
  clear aj ai L;obtain⟨i,qo,qp,qc,Q,rfl,rfl,hi,hg,hB,H,C,F⟩:=hrel;have bl:=grown_trans u hg;by_cases a:i<ts.length
  ·have al:(i:Int)<ts.length:=by omega
   obtain⟨_,q9,am⟩:=kC.at HT.out.1 i a;cases q9
   have T:=(grown_trans G hg).cell am (by simp);clear am;have aV:=HT.out.2.1 _ (gtMem a);have an:(gt ts i).size<=1000:=by omega
   obtain⟨t0,ap⟩:∃t0,t0=gt ts i:=⟨_,rfl⟩;rw[<-ap] at T an;clear aV ap;have B:∀x∈Q.orders,primeB x=true:=by rw[C];exact HO.out.1
   obtain⟨a5,c5,jG,_,_⟩:=F.o.shape;obtain⟨a6,c6,mH,_,_⟩:=Sl.shape F.p;obtain⟨a7,c7,mI,_,_⟩:=Sl.shape F.c;subst jG mH mI;have aq:=hB.ext (grown_drew _ none);have ar:Pres3 (λk=>E.heap.size<=k/\k≠m.heap.size) wr.drew _ _ _ Q:=F.ext (grown_drew _ none);obtain⟨d0,d1,d2,d3,d4⟩:=id aq;have f1:wr.drew.cell? ⟨bt,i,none⟩=some (.string t0):=T;have y:=Lib.hid (And.intro H (And.intro C (And.intro B (And.intro ar hB))));clear H C B ar hB F aq T;go_wp2_with fail
   go_region_law (first
    | (go_simp;go_at_call 345;refine Calls.mono (CR _ _ Q _ t0 ⟨_,_,_,rfl,y.out.2.2.2.1⟩ y.out.1 y.out.2.2.1 an) ?_;rintro eC wC ⟨vC,rfl,aw,yo,yp,yc,r,q,rfl,ax,ho2,mJ⟩;have ay:=Lib.hid ho2;clear ho2;obtain⟨U,k5,rfl,_,_⟩:=mJ.o.shape;obtain⟨V,k6,rfl,_,_⟩:=Sl.shape mJ.p;obtain⟨e7,k7,rfl,_,_⟩:=Sl.shape mJ.c;have W:=(y.out.2.2.2.2.ext (grown_drew _ none)).ext aw;obtain⟨g0,g1,g2,g3,g4⟩:=id W))
   all_goals
    have az:Ext wr wC:=grown_trans (grown_drew _ _) aw;have a4:=y.out.2.2.2.2.1;have bn:=hg.size;have aA:=W.all (.slice U q.orders.length k5) (.slice V q.powers.length k6) (.slice e7 q.conj.length k7);have I:=grown_set3 wC m.heap.size (.slice U q.orders.length k5) (.slice V q.powers.length k6) (.slice e7 q.conj.length k7);have X:Ext E (((wC.setCell ⟨m.heap.size,0,none⟩ (.slice U q.orders.length k5)).setCell ⟨m.heap.size,1,none⟩ (.slice V q.powers.length k6)).setCell ⟨m.heap.size,2,none⟩ (.slice e7 q.conj.length k7)):=grown_own (grown_trans hg az) I (λj A a=>by cases A;omega)
    have aB:Pres3 (λk=>E.heap.size<=k/\k≠m.heap.size) (((wC.setCell ⟨m.heap.size,0,none⟩ (.slice U q.orders.length k5)).setCell ⟨m.heap.size,1,none⟩ (.slice V q.powers.length k6)).setCell ⟨m.heap.size,2,none⟩ (.slice e7 q.conj.length k7)) (.slice U q.orders.length k5) (.slice V q.powers.length k6) (.slice e7 q.conj.length k7) q:=
     mJ.mono (λk hk a=>by
      have aC:E.heap.size<=k/\k≠m.heap.size:=by
       have hd:wr.drew.heap.size=wr.heap.size:=rfl;rcases hk with hk|hk
       ·exact hk
       ·exact⟨by omega,by omega⟩
      exact⟨aC,Nat.lt_of_lt_of_le a I.size,I.block k a (λe=>aC.2 (by cases e;rfl))⟩)
    have HF:=Lib.hid (And.intro aA (And.intro aB (And.intro ax ay.out)));clear aA aB ax ay mJ I g0 g1 g2 g3 g4 W d0 d1 d2 d3 d4 f1;generalize ((wC.setCell ⟨m.heap.size,0,none⟩ (.slice U q.orders.length k5)).setCell ⟨m.heap.size,1,none⟩ (.slice V q.powers.length k6)).setCell ⟨m.heap.size,2,none⟩ (.slice e7 q.conj.length k7)=w9 at *;cases r
    case' false=>
     have aD:=z.ext X;have aE:=grown_trans u X;obtain⟨n0,n1,n2,n3,n4⟩:=id aD;have b:=aD.all (.slice none 0 0) (.slice none 0 0) (.slice none 0 0);obtain⟨-,z0,z1,z2,-⟩:=id b;have g:=grown_set3 w9 w.heap.size (.slice none 0 0) (.slice none 0 0) (.slice none 0 0);have l:=Lib.hid g;clear b g;go_wp2_with fail
     refine bodyPost_ret (v := .tuple #[.agg #[.slice none 0 0,.slice none 0 0,.slice none 0 0],.int .i64 6]) (by simp[results,Tryz.results306,go_sem,z0,z1,z2]) rfl ?_;exact⟨_,rfl,grown_own aE l.out (λj A a=>by cases A;omega),_,_,_,_,rfl,_,nW 6,nV _ _⟩
    go_wp2_with fail
    go_roundw
    case rel=>exact⟨i+1,_,_,_,q,rfl,by go_num,by omega,X,HF.out.1,HF.out.2.2.1,by rw[HF.out.2.2.2];exact y.out.2.1,HF.out.2.1⟩
    case measure=>simp[intOf];omega
  ·have al:¬((i:Int)<ts.length):=by omega
   obtain⟨a5,c5,jG,_,_⟩:=F.o.shape;obtain⟨a6,c6,mH,_,_⟩:=Sl.shape F.p;obtain⟨a7,c7,mI,_,_⟩:=Sl.shape F.c;subst jG mH mI;obtain⟨d0,d1,d2,d3,d4⟩:=id hB;have y:=Lib.hid (And.intro H (And.intro C (And.intro F hB)));clear H C F hB;go_wp2_with fail
   refine Calls.mono (sIsPresentation_ok wr _ Q _ ⟨_,_,_,rfl,y.out.2.2.1⟩) ?_;rintro U w5 ⟨v5,rfl,J,rfl⟩;have Y:=y.out.2.2.2.ext J;obtain⟨p0,p1,p2,p3,p4⟩:=id Y;have D:=grown_trans hg J;rcases hv:validB Q with _|_
   case' false=>
    have aF:=z.ext D;have aG:=grown_trans u D;obtain⟨n0,n1,n2,n3,n4⟩:=id aF;have b:=aF.all (.slice none 0 0) (.slice none 0 0) (.slice none 0 0);obtain⟨-,z0,z1,z2,-⟩:=id b;have g:=grown_set3 w5 w.heap.size (.slice none 0 0) (.slice none 0 0) (.slice none 0 0);have l:=Lib.hid g;clear b g;go_wp2_with fail
    refine bodyPost_ret (v := .tuple #[.agg #[.slice none 0 0,.slice none 0 0,.slice none 0 0],.int .i64 6]) (by simp[results,Tryz.results306,go_sem,z0,z1,z2]) rfl ?_;exact⟨_,rfl,grown_own aG l.out (λj A a=>by cases A;omega),_,_,_,_,rfl,_,nW 6,nV _ _⟩
   have hV:=valid_of hv;clear hv;have HV:=Lib.hid hV;clear hV;go_wp2_with fail
   refine Calls.mono (CU Q HV.out w5 _ _ ⟨_,_,_,rfl,y.out.2.2.1.ext J⟩) ?_;rintro V w6 ⟨v6,rfl,Z,rfl⟩;have M:=grown_trans D Z;have K:=z.ext M;have N:=grown_trans u M;have aW:=Y.ext Z;have aH:=(y.out.2.2.1.ext J).ext Z;clear p0 p1 p2 p3 p4 d0 d1 d2 d3 d4 Y;rcases bc:((strOfNums (kD Q)).toList == s.toList) with _|_
   case' false=>
    obtain⟨n0,n1,n2,n3,n4⟩:=id K;have b:=K.all (.slice none 0 0) (.slice none 0 0) (.slice none 0 0);obtain⟨-,z0,z1,z2,-⟩:=id b;have g:=grown_set3 w6 w.heap.size (.slice none 0 0) (.slice none 0 0) (.slice none 0 0);have l:=Lib.hid g;clear b g;go_wp2_with fail
    refine bodyPost_ret (v := .tuple #[.agg #[.slice none 0 0,.slice none 0 0,.slice none 0 0],.int .i64 6]) (by simp[results,Tryz.results306,go_sem,z0,z1,z2]) rfl ?_;exact⟨_,rfl,grown_own N l.out (λj A a=>by cases A;omega),_,_,_,_,rfl,_,nW 6,nV _ _⟩
   obtain⟨p0,p1,p2,p3,p4⟩:=id aW;obtain⟨n0,n1,n2,n3,n4⟩:=id K;have b:=K.all (.slice a5 Q.orders.length c5) (.slice a6 Q.powers.length c6) (.slice a7 Q.conj.length c7);obtain⟨-,z0,z1,z2,-⟩:=id b;have g:=grown_set3 w6 w.heap.size (.slice a5 Q.orders.length c5) (.slice a6 Q.powers.length c6) (.slice a7 Q.conj.length c7);have l:=Lib.hid (And.intro g aH);clear b g aH;go_wp2_with fail
   refine bodyPost_ret (v := .tuple #[.agg #[.slice a5 Q.orders.length c5,.slice a6 Q.powers.length c6,.slice a7 Q.conj.length c7],.int .i64 0]) (by simp[results,Tryz.results306,go_sem,z0,z1,z2]) rfl ?_;exact⟨_,rfl,grown_own N l.out.1 (λj A a=>by cases A;omega),_,_,_,_,rfl,Q,y.out.1,l.out.2.mono (λk hk a=>⟨(by show w.heap.size<=k;omega),Nat.lt_of_lt_of_le a l.out.1.size,l.out.1.block k a (λe=>by cases e;omega)⟩)⟩
def jW (N B:Nat) (w':World) (v:Value):Prop:=∃(vo vp vc:Value),v=.agg #[vo,vp,vc]/\jH N B w' vo vp vc
theorem PresN.q {N B:Nat}{w':World}{v:Value}(h:PresN N B w' v):jW N B w' v:=by
 obtain⟨P,h1,vo,vp,vc,rfl,h2⟩:=h;exact⟨_,_,_,rfl,P,h1,h2.p3⟩
theorem jW.mono {N M B B':Nat}{w':World}{v:Value}(h:jW N B w' v) (b:N<=M) (hB:B'<=B):jW M B' w' v:=by
 obtain⟨vo,vp,vc,rfl,P,h1,h2⟩:=h;exact⟨_,_,_,rfl,P,h1.mono b,h2.mono (λk hk a=>⟨Nat.le_trans hB hk,a,rfl⟩)⟩
theorem jH.shape {N B:Nat}{w':World}{vo vp vc:Value}(h:jH N B w' vo vp vc):∃a n c a2 b c2 e g c3,vo=.slice a n c/\vp=.slice a2 b c2/\vc=.slice e g c3:=by
 obtain⟨Q,_,h2⟩:=h;obtain⟨i,c5,jG,_,_⟩:=h2.o.shape;obtain⟨j,c6,mH,_,_⟩:=Sl.shape h2.p;obtain⟨k,c7,mI,_,_⟩:=Sl.shape h2.c;exact⟨_,_,_,_,_,_,_,_,_,jG,mH,mI⟩
theorem mP {B r:Nat}{w w':World}{vo vp vc:Value}{Q:Pr}(b:w.grownBy w' (some r)) (h:Pres3 (λk=>B<=k/\k≠r) w vo vp vc Q):Pres3 (From B) w' vo vp vc Q:=
 h.mono (λk hk a=>⟨hk.1,Nat.lt_of_lt_of_le a b.size,b.block k a (λe=>hk.2 (by cases e;rfl))⟩)
theorem qQ (w:World) (k:Int) (h0:0<=k) (h9:k<10) :
  Calls Tryz.prog 269 #[.int .i64 k] w (Ret w (jW 6 w.heap.size)):=by
 have N:=Box3.made w 28 (.slice none 0 0) (.slice none 0 0) (.slice none 0 0);have O:Ext w (w.alloc (.cells #[.slice none 0 0,.slice none 0 0,.slice none 0 0] 28)):=World.grownBy_alloc _ _ _;have P:(w.alloc (.cells #[.slice none 0 0,.slice none 0 0,.slice none 0 0] 28)).heap.size=w.heap.size+1:=by simp
 rcases(show k=0\/k=1\/k=2\/k=3\/k=4\/k=5\/k=6\/k=7\/k=8\/k=9 by omega) with rfl|rfl|rfl|rfl|rfl|rfl|rfl|rfl|rfl|rfl
 all_goals
  clear h0 h9;go_enter Tryz.func269,Tryz.ntmps269;go_wp2_with fail
  refine Calls.mono (CX _ _ (by decide)) ?_;rintro e1 l ⟨v1,rfl,m,vo,vp,vc,c,rfl,hP⟩;obtain⟨a1,q,c1,a2,r,c2,u,y,c3,rfl,rfl,rfl⟩:=hP.shape;have m:=grown_trans (World.grownBy_alloc _ _ _) m;have H:=N.ext m;have B:=grown_trans O m;have af:=m.size;clear N O m;generalize w.alloc (.cells #[.slice none 0 0,.slice none 0 0,.slice none 0 0] 28)=w0 at *
  have I:∃Q,Shp 6 Q/\Pres3 (λk=>w.heap.size<=k/\k≠w.heap.size) l (.slice a1 q c1) (.slice a2 r c2) (.slice u y c3) Q:=by
   obtain⟨Q,q1,q2⟩:=hP;exact⟨Q,q1,q2.mono (λk hk a=>⟨by have hk:_<=k:=hk;simp at hk;omega,a,rfl⟩)⟩
  have aa:w.heap.size+1<=l.heap.size:=by omega
  have ab:=Lib.hid P;clear P hP m;obtain⟨q0,q1,q2,q3,q4⟩:=id H;by_cases W:c=0
  ·subst W
   have i:=World.grownBy_alloc (((l.setCell ⟨w.heap.size,0,none⟩ (.slice a1 q c1)).setCell ⟨w.heap.size,1,none⟩ (.slice a2 r c2)).setCell ⟨w.heap.size,2,none⟩ (.slice u y c3)) (.cells #[.slice a1 q c1,.slice a2 r c2,.slice u y c3] 28) none;have n:=(H.all (.slice a1 q c1) (.slice a2 r c2) (.slice u y c3)).ext i;obtain⟨-,z0,z1,z2,-⟩:=id n;have b:=grown_set3 l w.heap.size (.slice a1 q c1) (.slice a2 r c2) (.slice u y c3);have J:=Lib.hid (And.intro b (And.intro I i));clear n b I i;go_wp2_with fail
   refine bodyPost_ret (v := .agg #[.slice a1 q c1,.slice a2 r c2,.slice u y c3]) (by simp[results,Tryz.results269,go_sem,z0,z1,z2]) rfl ?_;obtain⟨b,⟨Q,k1,k2⟩,i⟩:=J.out;exact⟨_,rfl,grown_trans (grown_own B b (λj R a=>by cases R;omega)) i,_,_,_,rfl,Q,k1,(mP b k2).ext i⟩
  ·have ah:(c != 0)=true:=by simp[W]
   clear W;have i:Ext l (l.alloc (.cells #[.slice a1 q c1,.slice a2 r c2,.slice u y c3] 28)):=World.grownBy_alloc _ _ _;have S:=Box3.made l 28 (.slice a1 q c1) (.slice a2 r c2) (.slice u y c3);have X:(l.alloc (.cells #[.slice a1 q c1,.slice a2 r c2,.slice u y c3] 28)).heap.size=l.heap.size+1:=by simp
   go_wp2_with fail
   generalize l.alloc (.cells #[.slice a1 q c1,.slice a2 r c2,.slice u y c3] 28)=T at *;have K:Ext T (T.alloc (.cells #[.int .i64 2] 2)):=World.grownBy_alloc _ _ _
   have Y:Ints Any (T.alloc (.cells #[.int .i64 2] 2)) (.slice (some ⟨T.heap.size,0,none⟩) 1 1) [2]:=
    ints_of_own (show Own 0 _ _ [2] from World.ownsRow_lit T #[.int .i64 2] 1 (Nat.zero_le _) (by decide) rfl) (by simp) (λ_ _=>trivial)
   rw[X] at Y;refine Calls.mono (l07Trivial_ok _ _ [2] _ Y (by simp)) ?_;rintro e3 V ⟨v3,rfl,L,vo,vp,vc,rfl,gX⟩;obtain⟨C,c4,D,c5,E,c6,rfl,rfl,rfl⟩:=trivX_shape gX;have F:=grown_trans i (grown_trans K L);have z:=H.ext F;have p:=S.ext (grown_trans K L);have U:=grown_trans B F;have Z:Pres3 (λk=>w.heap.size<=k/\k≠w.heap.size) V (.slice C 1 c4) (.slice D 1 c5) (.slice E 1 c6) (trivP [2]):=gX.p3.mono (λk hk a=>⟨by have hk:_<=k:=hk;simp at hk;omega,a,rfl⟩);have A:Pres3 (λk=>l.heap.size<k) V (.slice C 1 c4) (.slice D 1 c5) (.slice E 1 c6) (trivP [2]):=gX.p3.mono (λk hk a=>⟨by have hk:_<=k:=hk;simp at hk;omega,a,rfl⟩);clear gX Z Y S I q0 q1 q2 q3 q4 L K;obtain⟨p0,p1,p2,p3,p4⟩:=id p;obtain⟨q0,q1,q2,q3,q4⟩:=id z;have g:=grown_set3 V l.heap.size (.slice C 1 c4) (.slice D 1 c5) (.slice E 1 c6);have G:=p.all (.slice C 1 c4) (.slice D 1 c5) (.slice E 1 c6);have M:=Box3.keep z g.size (g.block _ z.1 (λe=>by have:=Option.some.inj e;omega));obtain⟨r0,r1,r2,r3,r4⟩:=id G;obtain⟨s0,s1,s2,s3,s4⟩:=id M;have n:=M.all (.slice C 1 c4) (.slice D 1 c5) (.slice E 1 c6);obtain⟨-,z0,z1,z2,-⟩:=id n;have b:=grown_set3 (((V.setCell ⟨l.heap.size,0,none⟩ (.slice C 1 c4)).setCell ⟨l.heap.size,1,none⟩ (.slice D 1 c5)).setCell ⟨l.heap.size,2,none⟩ (.slice E 1 c6)) w.heap.size (.slice C 1 c4) (.slice D 1 c5) (.slice E 1 c6);have J:=Lib.hid (And.intro g (And.intro b A));clear n b g A z p G M;go_wp2_with fail
   refine bodyPost_ret (v := .agg #[.slice C 1 c4,.slice D 1 c5,.slice E 1 c6]) (by simp[results,Tryz.results269,go_sem,z0,z1,z2]) rfl ?_;obtain⟨g,b,A⟩:=J.out;refine⟨_,rfl,grown_own (grown_own U g (λj R a=>by have:=Option.some.inj R;omega)) b (λj R a=>by have:=Option.some.inj R;omega),_,_,_,rfl,trivP [2],trivP_shp _ (by simp),A.mono (λk hk a=>⟨(show w.heap.size<=k by omega),?_,?_⟩)⟩
   ·exact Nat.lt_of_lt_of_le a (Nat.le_trans g.size b.size)
   ·exact(b.block k (Nat.lt_of_lt_of_le a g.size) (λe=>by have:=Option.some.inj e;omega)).trans (g.block k a (λe=>by have:=Option.some.inj e;omega))
theorem qN (i:Nat) (h:i<100000):IntKind.i64.wrap ((i:Int)+1)=(i:Int)+1:=IntWalk.i64_in _ (by omega)
theorem qO (i:Nat) (h:i<100000):wrap64 ((i:Int)+1)=(i:Int)+1:=IntWalk.wrap64_in _ (by omega)
theorem CY (k:Nat) (h:k<100000):IntKind.i64.wrap (((k+1:Nat):Int)-1)=(k:Int):=by
 rw[show((k+1:Nat):Int)-1=(k:Int) by omega];exact IntWalk.i64_in _ (by omega)
theorem CZ (k:Nat) (h:k<100000):wrap64 (((k+1:Nat):Int)-1)=(k:Int):=by
 rw[show((k+1:Nat):Int)-1=(k:Int) by omega];exact IntWalk.wrap64_in _ (by omega)
theorem jI (w:World) (n m r s:Int) (hn:1<=n/\n<=729) (hm:1<=m/\m<=729) (hr:0<=r/\r<30000) (hs:0<=s/\s<=1000000000) :
  Calls Tryz.prog 270 #[.int .i64 n,.int .i64 m,.int .i64 r,.int .i64 s] w (Ret w (PresN 18 w.heap.size)):=by
 obtain⟨n,rfl⟩:=Int.eq_ofNat_of_zero_le (show 0<=n by omega);obtain⟨m,rfl⟩:=Int.eq_ofNat_of_zero_le (show 0<=m by omega);have aM:∀w',Ext (w.alloc (.cells #[.slice none 0 0,.slice none 0 0,.slice none 0 0] 28)) w'->Box3 w' w.heap.size (.slice none 0 0) (.slice none 0 0) (.slice none 0 0):=λw' h=>(Box3.made w 28 _ _ _).ext h;have aN:Ext w (w.alloc (.cells #[.slice none 0 0,.slice none 0 0,.slice none 0 0] 28)):=World.grownBy_alloc _ _ _;have aO:(w.alloc (.cells #[.slice none 0 0,.slice none 0 0,.slice none 0 0] 28)).heap.size=w.heap.size+1:=by simp
 have R:0<=r%(m:Int):=Int.emod_nonneg _ (by omega);have W:r%(m:Int)<m:=Int.emod_lt_of_pos _ (by omega);obtain⟨pw,ag⟩:∃pw,pw=r%(m:Int):=⟨_,rfl⟩;rw[<-ag] at R W;have bK:(m:Int)≠0:=by omega
 have HN:=Lib.hid (And.intro hn (And.intro hm (And.intro hs (And.intro aM (And.intro aO (And.intro R W))))));clear hn aM aO R W hs hm;go_enter Tryz.func270,Tryz.ntmps270;go_wp2_with fail
 generalize w.alloc (.cells #[.slice none 0 0,.slice none 0 0,.slice none 0 0] 28)=w0 at *;refine Calls.mono (l07Factors_ok w0 n (by have:=HN.out.1;omega)) ?_;rintro e1 w1 ⟨v1,rfl,hg1,a1,c1,t,r1,rfl,ax,aP,ay⟩;go_wp2_with fail
 refine Calls.mono (l07Factors_ok w1 m (by have:=HN.out.2.1;omega)) ?_;rintro e2 w2 ⟨v2,rfl,az,a2,c2,b,r2,rfl,aQ,aR,hbx⟩;go_wp2_with fail
 refine Calls.mono (l01Own_ok w2 _ t _ (Ints.ext (ax.ints (by omega)) az) (by omega)) ?_;rintro e3 w3 ⟨v3,rfl,ai,aA⟩;go_wp2_with (at_builtin;refine wp_app_ints rfl _ _ rfl w2.heap.size v3 t rfl aA _ b rfl _ (Ints.ext (aQ.ints (by omega)) ai) (by omega) ai.size ?_;intro v4 F aj aS _)
 have X:Ext w2 F:=grown_own ai aS (λj Y u=>by have:=(aA.lt j Y).1;omega);obtain⟨o,ho⟩:∃o,o=t++b:=⟨_,rfl⟩;rw[<-ho] at aj;have aT:o.length=t.length+b.length:=by rw[ho];simp
 have Z:∀i,i<o.length->1<=gt o i/\gt o i<=7:=λi hi=>by
  have aV:gt o i∈t++b:=by rw[<-ho,gt_eq o i hi];exact List.getElem_mem hi
  rcases List.mem_append.1 aV with h|h
  ·have:=ay _ h;omega
  ·have:=hbx _ h;omega
 clear ho;have HT:=Lib.hid (And.intro aT (And.intro Z (And.intro ay (And.intro aP aR))));clear aT Z ay hbx aR aP;have aq:o.length<=18:=by have:=HT.out;omega
 have bM:t.length<=o.length:=by have:=HT.out;omega
 obtain⟨a4,c4,hv4,_⟩:=(aj.ints (by omega)).shape;subst hv4;have bN:=X.size;have aW:Ints Any F (.slice a4 o.length c4) o:=(aj.ints (by omega)).sub (λ_ _ _=>trivial);refine Calls.mono (l07Trivial_ok F _ o _ aW (by omega)) ?_;rintro e5 w5 ⟨v5,rfl,ak,vo,vp,vc,rfl,q⟩;obtain⟨V,co,ap,K,S,O,rfl,rfl,rfl⟩:=trivX_shape q;go_wp2_with fail
 have aX:Ext w5 (w5.alloc (.cells #[.slice V o.length co,.slice ap o.length K,.slice S o.length O] 28)):=World.grownBy_alloc _ _ _;have e:=BX.start (N:=18) (B:=F.heap.size) (by omega) q aX (Box3.made w5 28 (.slice V o.length co) (.slice ap o.length K) (.slice S o.length O)) ak.size;have bO:=ak.size;generalize w5.alloc (.cells #[.slice V o.length co,.slice ap o.length K,.slice S o.length O] 28)=w6 at *;have aY:Ext F w6:=grown_trans ak aX;have D:Ext w0 F:=grown_trans hg1 (grown_trans az X);have bk:Ints Any w1 (.slice a1 t.length c1) t:=(ax.ints (by omega)).sub (λ_ _ _=>trivial);have bl:Ext w1 F:=grown_trans az X;clear q ak ax aQ aA aj ai aS;go_loopw [16] (λiv wr=>∃i:Nat,iv=.int .i64 i/\i<=o.length/\Ext F wr/\BX 18 o F.heap.size w5.heap.size wr (.slice V o.length co) (.slice ap o.length K) (.slice S o.length O)) (λiv _=>o.length-(intOf iv).toNat)
 case atStart=>exact⟨0,rfl,by omega,aY,e⟩
 case round =>
  clear e aY;obtain⟨i,rfl,hi,G,e⟩:=hrel;by_cases u:i+1<o.length
  ·have P:(i:Int)+1<o.length:=by omega
   have aZ:i<100000:=by omega
   have bP:t.length<100000:=by omega
   by_cases hk:(i:Int)=(t.length:Int)-1
   ·skip
    go_wp2;go_roundw
    case rel=>exact⟨i+1,by go_num,by omega,G,e⟩
    case measure=>simp[intOf];omega
   ·obtain ⟨g,cap,z,fS,hgB,iI,hgl,aa,ab⟩:=e.storeP i (by omega)
    obtain⟨rfl,rfl⟩:ap=some ⟨g,0,none⟩/\K=cap:=by cases fS;exact⟨rfl,rfl⟩
    clear fS;have e1:∀w',Near wr g w'->w'.cell? ⟨w5.heap.size,1,none⟩=some (.slice (some ⟨g,0,none⟩) o.length K):=λw' h=>h.cell e.box.2.2.1 (by simp;omega)
    have Q:∀w,Calls Tryz.prog 308 #[.int .i64 o.length,.int .i64 ((i:Int)+1)] w (Ret w λw' v=>Own w.heap.size w' v (unitV o.length (i+1))):=λw=>by
     have h:=l07Unit_ok o.length (i+1) w (by omega) (by omega);rwa [show((i+1:Nat):Int)=(i:Int)+1 by omega] at h
    have a0:(unitV o.length (i+1)).length<=9223372036854775807:=by rw[unitV_len];omega
    have L:=Lib.hid (And.intro e (And.intro ab (And.intro aa a0)));clear e ab aa a0;have bQ:(i:Int)<o.length:=by omega
    go_wp2;clear hk;have aB:IntKind.i64.wrap ((i:Int)+1)=(i:Int)+1:=qN _ aZ;have aC:wrap64 ((i:Int)+1)=(i:Int)+1:=qO _ aZ
    go_region_held3 (λw'=>Near wr g w') (first|exact Near.of (grown_drew _ _)|exact Near.of (by assumption)|exact Near.store (by assumption)|assumption)
     (first
      | (go_at_call 308;refine Calls.mono (Calls.rel (w0:=wr) (by first|exact grown_drew _ _|assumption) (Q _)) ?_;rintro eE M ⟨vE,rfl,a,gJ,E⟩;obtain⟨aE,cE,fQ,_⟩:=(E.ints L.out.2.2.2).shape;subst fQ;have T:=(L.out.2.2.1 M a).1;have ad:=(L.out.2.2.1 M a).2))
    clear aB aC;have a3:=a.size;have q:=L.out.2.1 M _ (unitV o.length (i+1)) a (OwnIn.of E (by rw[unitV_len];omega) (λk hk _=>Nat.le_trans (by assumption) hk)) (by rw[unitV_len];omega);have C:Ext F (M.setCell ⟨g,i,none⟩ (.slice aE (unitV o.length (i+1)).length cE)):=grown_own (grown_trans G a) (grown_set1 _ _ _ _) (λj Y u=>by cases Y;omega);clear T ad e1;go_wp2;go_roundw
    case rel=>exact⟨i+1,by go_num,by omega,C,q⟩
    case measure=>simp[intOf];omega
  ·have P:¬((i:Int)+1<o.length):=by omega
   have bm:t.length<=18:=by omega
   have bR:(1:Int)<=m/\(m:Int)<=729:=HN.out.2.1;by_cases bS:t.length=0
   ·have a5:¬(0:Int)<t.length:=by omega
    go_wp2;clear ag;generalize bn:r%(m:Int)=EJ;clear bn;go_loopw [18] (λiv wx=>iv=.int .i64 0/\wx=wr) (λ_ _=>0)
    case atStart=>exact⟨rfl,rfl⟩
    case round=>
     obtain⟨rfl,rfl⟩:=hrel;have hz:=HN.out.2.2.2.1 _ (grown_trans D G);obtain⟨h0,h1,h2,h3',h4⟩:=id e.box;obtain⟨k0,k1,k2,k3,k4⟩:=id hz;have hZ:=hz.all (.slice V o.length co) (.slice ap o.length K) (.slice S o.length O);have hT:=grown_set3 wr w.heap.size (.slice V o.length co) (.slice ap o.length K) (.slice S o.length O);obtain⟨_,z0,z1,z2,_⟩:=id hZ;have HQ:=Lib.hid (And.intro hT e);clear hT hZ e;go_wp2;refine bodyPost_ret (v := .agg #[.slice V o.length co,.slice ap o.length K,.slice S o.length O]) (by simp[results,Tryz.results270,go_sem,z0,z1,z2]) rfl ?_;have bp:=HN.out.2.2.2.2.1;have bq:=D.size;exact⟨_,rfl,grown_own (grown_trans aN (grown_trans D G)) HQ.out.1 (λj Y u=>by cases Y;omega),(HQ.out.2.ret HQ.out.1 (by omega)).weak (by omega)⟩
   ·have a5:(0:Int)<t.length:=by omega
    obtain⟨kt,U⟩:∃kt,t.length=kt+1:=⟨t.length-1,by omega⟩;obtain⟨g,cap,z,fS,hgB,iI,hgl,aa,ab⟩:=e.storeP kt (by omega);obtain⟨rfl,rfl⟩:ap=some ⟨g,0,none⟩/\K=cap:=by cases fS;exact⟨rfl,rfl⟩
    clear fS;have e1:∀w',Near wr g w'->w'.cell? ⟨w5.heap.size,1,none⟩=some (.slice (some ⟨g,0,none⟩) o.length K):=λw' h=>h.cell e.box.2.2.1 (by simp;omega);have Z:=HT.out.2.1
    have H:∀w' (k:Nat) (x:Int),Ext F w'->0<=x->x<=1000000000->Calls Tryz.prog 309 #[.slice a4 o.length c4,.int .i64 k,.int .i64 x] w' (Ret w' λaF r=>∃l,l.length=o.length/\Own w'.heap.size aF r l):=λw' k x he h1 h2=>
     l07Digits_ok w' _ o k x Any (aW.ext he) (by omega) Z ⟨h1,h2⟩
    have I:o.length<=9223372036854775807:=by omega
    have bs:(kt:Int)<o.length:=by omega
    have L:=Lib.hid (And.intro e (And.intro ab (And.intro aa (And.intro H (And.intro I U)))));clear e ab aa H Z I U;have aG:=HN.out.2.2.2.2.2;have aH:=HN.out.2.2.1;go_wp2;have ar:kt<100000:=by omega
    have U:=L.out.2.2.2.2.2;have aB:IntKind.i64.wrap ((t.length:Int)-1)=(kt:Int):=by rw[U];exact CY kt ar
    have aC:wrap64 ((t.length:Int)-1)=(kt:Int):=by rw[U];exact CZ kt ar
    clear U
    go_region_held3 (λw'=>Near wr g w') (first|exact Near.of (grown_drew _ _)|exact Near.of (by assumption)|exact Near.store (by assumption)|assumption)
     (first
      | (go_at_call 309;refine Calls.mono (Calls.rel (w0:=wr) (by first|exact grown_drew _ _|assumption) (L.out.2.2.2.1 _ t.length s (grown_trans G (by first|exact grown_drew _ _|assumption)) aH.1 aH.2)) ?_;rintro eE M ⟨vE,rfl,a,gJ,lE,A,E⟩;obtain⟨aE,cE,fQ,_⟩:=(E.ints (by rw[A];exact L.out.2.2.2.2.1)).shape;subst fQ;have T:=(L.out.2.2.1 M a).1;have ad:=(L.out.2.2.1 M a).2))
    clear aB aC;have a3:=a.size;have q:=L.out.2.1 M _ lE a (OwnIn.of E (by rw[A];exact L.out.2.2.2.2.1) (λk hk _=>Nat.le_trans (by assumption) hk)) (by rw[A];exact aq);have C:Ext F (M.setCell ⟨g,kt,none⟩ (.slice aE lE.length cE)):=grown_own (grown_trans G a) (grown_set1 _ _ _ _) (λj Y u=>by cases Y;omega);rw[A] at q C;have H:=L.out.2.2.2.1;have I:=L.out.2.2.2.2.1;have HD:=Lib.hid (And.intro H I);clear H A I L;clear T ad e1 u P bs hgB iI hgl aH E a a3 gJ;go_wp2;rw[<-ag];clear ag;clear hi G;generalize M.setCell ⟨g,kt,none⟩ (.slice aE o.length cE)=w7 at *;go_loopw [17,18] (λpv iv wr=>∃(i:Nat) (p:Int),iv=.int .i64 i/\pv=.int .i64 p/\i<=t.length/\0<=p/\p<30000/\Ext F wr/\BX 18 o F.heap.size w5.heap.size wr (.slice V o.length co) (.slice (some ⟨g,0,none⟩) o.length K) (.slice S o.length O)) (λ_ iv _=>t.length-(intOf iv).toNat)
    case atStart=>exact⟨0,pw,rfl,rfl,by omega,aG.1,by have:=aG.2;omega,C,q⟩
    case round=>
     clear q C aG;obtain⟨i,p,rfl,rfl,hi,R,W,G,e⟩:=hrel;by_cases u:i<t.length
     ·have P:(i:Int)<t.length:=by omega
      obtain⟨wo,C0⟩:∃wo:World,wo=wr:=⟨_,rfl⟩;go_wp2;go_loopw [19] (λjv wx=>∃(J:Nat) (y:Int),jv=.int .i64 y/\y=((i+1+J:Nat):Int)/\i+1+J<=o.length/\Ext F wx/\BX 18 o F.heap.size w5.heap.size wx (.slice V o.length co) (.slice (some ⟨g,0,none⟩) o.length K) (.slice S o.length O)) (λjv _=>o.length-(intOf jv).toNat)
      case atStart=>exact⟨t.length-i-1,_,rfl,by omega,by omega,G,e⟩
      case round=>
       clear e G C0;obtain⟨J,y,rfl,hy,hJ,G,e⟩:=hrel;by_cases bI:i+1+J<o.length
       ·have bw:y<o.length:=by omega
        have bV:0<=y:=by omega
        obtain⟨gc,capc,b,a',z2,gz,hcB,gW,T,hcell,jV,mM,hbg,hbl,au,av⟩:=e.storeC i J (by omega) (by omega);obtain⟨rfl,rfl⟩:S=some ⟨gc,0,none⟩/\O=capc:=by cases gz;exact⟨rfl,rfl⟩
        clear gz;have e1:∀w',Near wr b w'->w'.cell? ⟨w5.heap.size,2,none⟩=some (.slice (some ⟨gc,0,none⟩) o.length O):=λw' h=>h.cell e.box.2.2.2.1 (by simp;omega);have e2:∀w',Near wr b w'->w'.cell? ⟨gc,i,none⟩=some (.slice (some ⟨b,0,none⟩) (o.length-1-i) a'):=λw' h=>h.cell hcell (by simp;omega);have ba:=HD.out.1
        have Q:∀w',Ext F w'->Calls Tryz.prog 309 #[.slice a4 o.length c4,.int .i64 y,.int .i64 p] w' (Ret w' λaF r=>∃l,l.length=o.length/\Own w'.heap.size aF r l):=λw' he=>by
         rw[hy];exact ba w' _ p he R (by omega)
        have HY:=Lib.hid (And.intro e (And.intro av (And.intro au (And.intro Q hy))));clear e av au Q ba hcell;have bW:(J:Int)<((o.length-1-i:Nat):Int):=by omega
        have bX:(i:Int)<o.length:=by omega
        go_wp2;obtain⟨d,hd⟩:∃d,d=y-(i:Int):=⟨_,rfl⟩;have am:IntKind.i64.wrap (y-(i:Int))=d:=by rw[hd];exact IntWalk.i64_in _ (by omega)
        have an:IntKind.i64.wrap (d-1)=(J:Int):=by rw[show d-1=(J:Int) by omega];exact IntWalk.i64_in _ (by omega)
        have aI:wrap64 (y-(i:Int))=d:=by rw[hd];exact IntWalk.wrap64_in _ (by clear am an;omega)
        have bz:wrap64 (d-1)=(J:Int):=by rw[show d-1=(J:Int) by clear am aI an;omega];exact IntWalk.wrap64_in _ (by clear am aI an;omega)
        clear hd hy
        go_region_held3 (λw'=>Near wr b w') (first|exact Near.of (grown_drew _ _)|exact Near.of (by assumption)|exact Near.store (by assumption)|assumption)
         (first
          | (go_at_call 309;refine Calls.mono (Calls.rel (w0:=wr) (by first|exact grown_drew _ _|assumption) (HY.out.2.2.2.1 _ (grown_trans G (by first|exact grown_drew _ _|assumption)))) ?_;rintro eE M ⟨vE,rfl,a,gJ,lE,A,E⟩;obtain⟨aE,cE,fQ,_⟩:=(E.ints (by rw[A];exact HD.out.2)).shape;subst fQ;have T:=(HY.out.2.2.1 M a).1;have ad:=(HY.out.2.2.1 M a).2))
        clear am aI an bz;have q:=HY.out.2.1 M _ lE a (OwnIn.of E (by rw[A];exact HD.out.2) (λk hk _=>Nat.le_trans (by assumption) hk)) (by rw[A];exact aq);have C:Ext F (M.setCell ⟨b,J,none⟩ (.slice aE lE.length cE)):=grown_own (grown_trans G a) (grown_set1 _ _ _ _) (λj Y u=>by cases Y;omega);rw[A] at q C;have bc:=HY.out.2.2.2.2;clear T ad e1 e2 A;have HZ:=Lib.hid bc;clear bc;go_wp2;go_roundw
        case rel=>exact⟨J+1,y+1,rfl,by have:=HZ.out;omega,by omega,C,q⟩
        case measure=>have:=HZ.out;simp[intOf];omega
       ·have bw:¬(y<o.length):=by omega
        obtain⟨bt,ot,rfl,_,_,EK⟩:=Ints.at (Ints.ext bk (grown_trans bl G)) i u;have bd:2<=gt t i/\gt t i<=7:=HT.out.2.2.1 _ (by rw[gt_eq t i u];exact List.getElem_mem u);have aw:=l01Power_ok wr p (gt t i) m ⟨R,W⟩ (by omega) (by omega);have HP:=Lib.hid (And.intro bd hy);clear bd hy;go_wp2_with fail
        refine Calls.mono aw ?_;rintro eP wP ⟨vP,rfl,uJ,pn,rfl,C1,C2⟩;have C:=grown_trans G uJ;have bA:=e.ext uJ;clear e G aw;go_wp2;go_roundw
        case rel=>exact⟨i+1,pn,by go_num,rfl,by omega,C1,C2,C,bA⟩
        case measure=>simp[intOf];omega
     ·have P:¬((i:Int)<t.length):=by omega
      have hz:=HN.out.2.2.2.1 _ (grown_trans D G);obtain⟨h0,h1,h2,h3',h4⟩:=id e.box;obtain⟨k0,k1,k2,k3,k4⟩:=id hz;have hZ:=hz.all (.slice V o.length co) (.slice (some ⟨g,0,none⟩) o.length K) (.slice S o.length O);have hT:=grown_set3 wr w.heap.size (.slice V o.length co) (.slice (some ⟨g,0,none⟩) o.length K) (.slice S o.length O);obtain⟨_,z0,z1,z2,_⟩:=id hZ;have HQ:=Lib.hid (And.intro hT e);clear hT hZ e;go_wp2;refine bodyPost_ret (v := .agg #[.slice V o.length co,(.slice (some ⟨g,0,none⟩) o.length K),(.slice S o.length O)]) (by simp[results,Tryz.results270,go_sem,z0,z1,z2]) rfl ?_;have bp:=HN.out.2.2.2.2.1;have bq:=D.size;exact⟨_,rfl,grown_own (grown_trans aN (grown_trans D G)) HQ.out.1 (λj Y u=>by cases Y;omega),(HQ.out.2.ret HQ.out.1 (by omega)).weak (by omega)⟩
theorem BX.by {N:Nat}{o:List Int}{B pb:Nat}{w w':World}{vo vp vc:Value}(h:BX N o B pb w vo vp vc) {r:Option Nat}(b:w.grownBy w' r) (g:∀k,r=some k->k<B):BX N o B pb w' vo vp vc:=by
 obtain⟨P,h1,h2,h3⟩:=h.px;have hB:=h.hB;refine⟨hB,Box3.keep h.box b.size (b.block _ h.box.1 (λe=>by have:=g _ e.symm;omega)),P,h1,h2,h3.mono (λk hk a=>⟨hk,Nat.lt_of_lt_of_le a b.size,b.block k a (λe=>by have:=g _ e.symm;have:B<=k:=hk.1;omega)⟩)⟩
def fA (w:World) (s g:Nat) (w':World):Prop:=∀k,k<w.heap.size->k≠s->k≠g->w'.heap[k]? = w.heap[k]?
theorem fA.of {w w':World}{s g:Nat}(h:w.grownBy w' (some s)):fA w s g w':=λk hk a _=>h.block k hk (λe=>a (by cases e;rfl))
theorem fA.ext {w w':World}{s g:Nat}(h:Ext w w'):fA w s g w':=fA.of (grown_of_ext _ h)
theorem fA.two {w a w':World}{s g:Nat}(h:w.grownBy a (some s)) (b:a.grownBy w' (some g)):fA w s g w':=λk hk i j=>
 (b.block k (Nat.lt_of_lt_of_le hk h.size) (λe=>j (by cases e;rfl))).trans (h.block k hk (λe=>i (by cases e;rfl)))
theorem fA.cell {w w':World}{s g:Nat}(h:fA w s g w') {a:Addr}{v:Value}(i:w.cell? a=some v) (b:a.block≠g) (e:a.block≠s):w'.cell? a=some v:=
 (World.cell?_of_block (h a.block (World.block_lt_of_cell? w a i) e b)).trans i
theorem nX (w:World) (x y z:Int) {B:Nat}(hB:B<=w.heap.size):OwnIn (From B) (w.alloc (.cells #[.int .i64 x,.int .i64 y,.int .i64 z] 2)) (.slice (some ⟨w.heap.size,0,none⟩) 3 3) [x,y,z]:=
 OwnIn.of (Own.of (World.ownsRow_lit w #[.int .i64 x,.int .i64 y,.int .i64 z] 3 hB (by decide) rfl)) (by simp) (λk hk _=>hk)
def iX (a sb:Nat) (Φ : World->Value->Prop) (w':World) (v:Value):Prop := Φ w' v/\Src a w' sb
theorem uT (B0:Nat) (w:World) (sb:Nat) (p:Int) (aq:B0<=w.heap.size) (hs:Src B0 w sb) :
  Calls Tryz.prog 319 #[.pointer (some ⟨sb,0,none⟩),.int .i64 p] w (Mut w (some sb) (iX B0 sb (PresN 3 w.heap.size))):=by
 have ar:∀w' r,(w.alloc (.cells #[.slice none 0 0,.slice none 0 0,.slice none 0 0] 28)).grownBy w' r->(∀k,r=some k->k≠w.heap.size)->Box3 w' w.heap.size (.slice none 0 0) (.slice none 0 0) (.slice none 0 0):=λw' r h hr=>
  Box3.keep (Box3.made w 28 _ _ _) h.size (h.block _ (by simp) (λe=>hr _ e.symm rfl))
 have aI:Ext w (w.alloc (.cells #[.slice none 0 0,.slice none 0 0,.slice none 0 0] 28)):=World.grownBy_alloc _ _ _;have au:(w.alloc (.cells #[.slice none 0 0,.slice none 0 0,.slice none 0 0] 28)).heap.size=w.heap.size+1:=by simp
 have av:=hs.lt;have I:=Lib.hid (And.intro ar (And.intro au (And.intro hs av)));clear ar au hs av;go_enter Tryz.func319,Tryz.ntmps319;go_wp2_with fail
 generalize w.alloc (.cells #[.slice none 0 0,.slice none 0 0,.slice none 0 0] 28)=w0 at *;have T:=nX w0 p p p (Nat.le_refl _);have aw:Ext w0 (w0.alloc (.cells #[.int .i64 p,.int .i64 p,.int .i64 p] 2)):=World.grownBy_alloc _ _ _;rw[I.out.2.1] at T;obtain⟨o,ho⟩:∃o,o=[p,p,p]:=⟨_,rfl⟩;have ax:o.length=3:=by rw[ho];rfl
 rw[<-ho] at T;clear ho;have aV:(w0.alloc (.cells #[.int .i64 p,.int .i64 p,.int .i64 p] 2)).heap.size=w.heap.size+2:=by simp[I.out.2.1]
 generalize w0.alloc (.cells #[.int .i64 p,.int .i64 p,.int .i64 p] 2)=w1 at *;refine Calls.mono (l07Trivial_ok w1 _ o _ T.ints (by omega)) ?_;rintro e5 w5 ⟨v5,rfl,K,vo,vp,vc,rfl,iQ⟩;obtain⟨U,co,ap,J,ac,L,h1,h2,h3⟩:=trivX_shape iQ;subst h1 h2 h3;have V:=Lib.hid ax;clear ax;go_wp2_with fail
 have M:Ext w5 (w5.alloc (.cells #[.slice U o.length co,.slice ap o.length J,.slice ac o.length L] 28)):=World.grownBy_alloc _ _ _;have hX:=BX.start (N:=3) (B:=w1.heap.size) (by have:=V.out;omega) iQ M (Box3.made w5 28 (.slice U o.length co) (.slice ap o.length J) (.slice ac o.length L)) K.size;have aW:=K.size;generalize w5.alloc (.cells #[.slice U o.length co,.slice ap o.length J,.slice ac o.length L] 28)=y at *;have aK:Ext w y:=grown_trans aI (grown_trans aw (grown_trans K M));have ay:Ext w0 y:=grown_trans aw (grown_trans K M);clear iQ T K;obtain⟨gc,capc,b,capb,z2,gz,hcB,gW,W,A,jV,mM,hbg,hbl,uK,uL⟩:=hX.storeC 0 0 (by have:=V.out;omega) (by have:=V.out;omega);obtain⟨rfl,rfl⟩:ac=some ⟨gc,0,none⟩/\L=capc:=by cases gz;exact⟨rfl,rfl⟩
 clear gz;have n:Ext y (y.alloc (.cells #[.int .i64 0,.int .i64 1,.int .i64 1] 2)):=World.grownBy_alloc _ _ _;have aL:=nX y 0 1 1 (Nat.le_refl _);have c1:=(hX.ext n).box.2.2.2.1;have c2:=n.cell A (by simp);obtain⟨c3,c4⟩:=uK _ n;have k1:=hX.box.2.2.2.1;have ah:=uL _ _ _ n aL (by simp);have aX:=n.size;have X:Ext w ((y.alloc (.cells #[.int .i64 0,.int .i64 1,.int .i64 1] 2)).setCell ⟨b,0,none⟩ (.slice (some ⟨y.heap.size,0,none⟩) 3 3)):=grown_own (grown_trans aK n) (grown_set1 _ _ _ _) (λj C D=>by cases C;omega);have O:Ext w0 ((y.alloc (.cells #[.int .i64 0,.int .i64 1,.int .i64 1] 2)).setCell ⟨b,0,none⟩ (.slice (some ⟨y.heap.size,0,none⟩) 3 3)):=grown_own (grown_trans ay n) (grown_set1 _ _ _ _) (λj C D=>by cases C;have:=I.out.2.1;omega);clear uL hX;obtain⟨m,hm⟩:∃m,m=o.length-1-0:=⟨_,rfl⟩;have aY:(0:Int)<m:=by have:=V.out;omega
 have aZ:0<o.length:=by have:=V.out;omega
 have a0:1<o.length:=by have:=V.out;omega
 have a1:0<m:=by have:=V.out;omega
 have aN:(0:Int)<o.length:=by have:=V.out;omega
 have a2:(1:Int)<o.length:=by have:=V.out;omega
 rw[<-hm] at A c2;clear hm
 have heq:(y.alloc (.cells #[.int .i64 0,.int .i64 1,.int .i64 1] 2)).setCell ⟨b,0,none⟩ (.slice (some ⟨y.heap.size,0,none⟩) 3 3)=(y.setCell ⟨b,0,none⟩ (.slice (some ⟨y.heap.size,0,none⟩) 3 3)).alloc (.cells #[.int .i64 0,.int .i64 1,.int .i64 1] 2):=by
  simp[go_sem,hbl]
 rw[heq] at ah X O
 have i1:∀w',(Instr.indexAt 26 (.slice (some ⟨gc,0,none⟩) o.length L) (.int .i64 0)).run Tryz.prog w'=.ok (.pointer (some ⟨gc,0,none⟩)) w':=λw'=>by
  rw[run_indexAt_slice (h:=by rfl),if_pos ⟨by decide,aN⟩];kernel_rfl
 go_wp2;rw[i1];clear i1;go_wp2_with fail
 generalize (y.setCell ⟨b,0,none⟩ (.slice (some ⟨y.heap.size,0,none⟩) 3 3)).alloc (.cells #[.int .i64 0,.int .i64 1,.int .i64 1] 2)=w7 at *;have a4:=I.out.2.2.2;refine Calls.mono (l01Next_ok B0 w7 sb 2 (I.out.2.2.1.ext X)) ?_;rintro e8 w8 ⟨v8,rfl,Y,x,rfl,hx0,hx1,aj⟩;have H:=ah.by Y (λk e=>by cases e;omega)
 have P:=grown_trans (grown_of_ext (some sb) X) Y;have E:=grown_trans (grown_of_ext (some sb) O) Y;clear ah Y X O c1 c2 c3 c4 k1 hx0 hx1 A uK heq;by_cases hx:x=0
 ·subst hx
  go_wp2;obtain⟨g,capg,z,fS,hgB,iI,hgl,hcc,hst⟩:=H.storeP 0 (by omega);obtain⟨rfl,rfl⟩:ap=some ⟨g,0,none⟩/\J=capg:=by cases fS;exact⟨rfl,rfl⟩
  clear fS;have e1:∀w',fA w8 sb g w'->w'.cell? ⟨w5.heap.size,1,none⟩=some (.slice (some ⟨g,0,none⟩) o.length J):=λw' h=>h.cell H.box.2.2.1 (by simp;omega) (by simp;omega);have Z:=Lib.hid (And.intro H (And.intro aj (And.intro P E)));clear H aj P E hcc hst
  go_region_held3 (λw'=>fA w8 sb g w') (first|exact fA.ext (grown_drew _ _)|exact fA.of (by assumption)|exact fA.of n|exact fA.two a (grown_trans (grown_set1 _ _ _ _) (grown_of_ext _ (World.grownBy_alloc _ _ _)))|assumption)
   (first
    | (go_at_call 135;refine Calls.mono (l01Next_ok B0 w8.drew sb p (Z.out.2.1.ext (grown_drew _ _))) ?_;rintro e9 i ⟨v9,rfl,a,xa,rfl,hx0,hx1,kZ⟩;have a:w8.grownBy i (some sb):=grown_trans (grown_of_ext (some sb) (grown_drew _ _)) a;have n:w8.grownBy (i.alloc (.cells #[.int .i64 0,.int .i64 0,.int .i64 xa] 2)) (some sb):=grown_trans a (grown_of_ext _ (World.grownBy_alloc _ _ _));have Q:=Z.out.1.by a (λk e=>by cases e;omega);obtain⟨g',C3,z',qI,_,_,_,u,mK⟩:=Q.storeP 0 (by omega);cases qI;have W:=(u (i.alloc (.cells #[.int .i64 0,.int .i64 0,.int .i64 xa] 2)) (World.grownBy_alloc _ _ _)).1;have ak:=(u (i.alloc (.cells #[.int .i64 0,.int .i64 0,.int .i64 xa] 2)) (World.grownBy_alloc _ _ _)).2))
  have F:=mK _ _ _ (World.grownBy_alloc _ _ _) (nX i 0 0 xa (Nat.le_refl _)) (by simp)
  have hq:(i.alloc (.cells #[.int .i64 0,.int .i64 0,.int .i64 xa] 2)).setCell ⟨g,0,none⟩ (.slice (some ⟨i.heap.size,0,none⟩) 3 3)=(i.setCell ⟨g,0,none⟩ (.slice (some ⟨i.heap.size,0,none⟩) 3 3)).alloc (.cells #[.int .i64 0,.int .i64 0,.int .i64 xa] 2):=by
   simp[go_sem,Nat.lt_of_lt_of_le hgl a.size]
  rw[hq] at F;have G:i.grownBy ((i.setCell ⟨g,0,none⟩ (.slice (some ⟨i.heap.size,0,none⟩) 3 3)).alloc (.cells #[.int .i64 0,.int .i64 0,.int .i64 xa] 2)) (some g):=grown_trans (grown_set1 _ _ _ _) (grown_of_ext _ (World.grownBy_alloc _ _ _));have ae:=kZ.own G (λk e=>by cases e;omega);have af:=grown_own (grown_trans Z.out.2.2.1 a) G (λj C D=>by cases C;omega);have R:=grown_own (grown_trans Z.out.2.2.2 a) G (λj C D=>by cases C;have:=I.out.2.1;omega);have aa:=F;clear F hq G W ak u mK Q n a kZ hx0 hx1 e1;go_wp2;generalize (i.setCell ⟨g,0,none⟩ (.slice (some ⟨i.heap.size,0,none⟩) 3 3)).alloc (.cells #[.int .i64 0,.int .i64 0,.int .i64 xa] 2)=wA at *;have aT:=I.out.2.1;obtain⟨g2,capg,z,fS,hgB,iI,hgl,hcc,hst⟩:=aa.storeP 1 (by omega);cases fS
  have e1:∀w',fA wA sb g w'->w'.cell? ⟨w5.heap.size,1,none⟩=some (.slice (some ⟨g,0,none⟩) o.length J):=λw' h=>h.cell aa.box.2.2.1 (by simp;omega) (by simp;omega);have ab:=Lib.hid (And.intro aa (And.intro ae (And.intro af R)));clear aa ae af R hcc hst
  go_region_held3 (λw'=>fA wA sb g w') (first|exact fA.ext (grown_drew _ _)|exact fA.of (by assumption)|exact fA.of n|exact fA.two a (grown_trans (grown_set1 _ _ _ _) (grown_of_ext _ (World.grownBy_alloc _ _ _)))|assumption)
   (first
    | (go_at_call 135;refine Calls.mono (l01Next_ok B0 wA.drew sb p (ab.out.2.1.ext (grown_drew _ _))) ?_;rintro e9 l ⟨v9,rfl,a,xb,rfl,hx0,hx1,kZ⟩;have a:wA.grownBy l (some sb):=grown_trans (grown_of_ext (some sb) (grown_drew _ _)) a;have n:wA.grownBy (l.alloc (.cells #[.int .i64 0,.int .i64 0,.int .i64 xb] 2)) (some sb):=grown_trans a (grown_of_ext _ (World.grownBy_alloc _ _ _));have Q:=ab.out.1.by a (λk e=>by cases e;omega);obtain⟨g',C3,z',qI,_,_,_,u,mK⟩:=Q.storeP 1 (by omega);cases qI;have W:=(u (l.alloc (.cells #[.int .i64 0,.int .i64 0,.int .i64 xb] 2)) (World.grownBy_alloc _ _ _)).1;have ak:=(u (l.alloc (.cells #[.int .i64 0,.int .i64 0,.int .i64 xb] 2)) (World.grownBy_alloc _ _ _)).2))
  have F:=mK _ _ _ (World.grownBy_alloc _ _ _) (nX l 0 0 xb (Nat.le_refl _)) (by simp)
  have hq:(l.alloc (.cells #[.int .i64 0,.int .i64 0,.int .i64 xb] 2)).setCell ⟨g,1,none⟩ (.slice (some ⟨l.heap.size,0,none⟩) 3 3)=(l.setCell ⟨g,1,none⟩ (.slice (some ⟨l.heap.size,0,none⟩) 3 3)).alloc (.cells #[.int .i64 0,.int .i64 0,.int .i64 xb] 2):=by
   simp[go_sem,Nat.lt_of_lt_of_le hgl a.size]
  rw[hq] at F;have G:l.grownBy ((l.setCell ⟨g,1,none⟩ (.slice (some ⟨l.heap.size,0,none⟩) 3 3)).alloc (.cells #[.int .i64 0,.int .i64 0,.int .i64 xb] 2)) (some g):=grown_trans (grown_set1 _ _ _ _) (grown_of_ext _ (World.grownBy_alloc _ _ _));have aP:=kZ.own G (λk e=>by cases e;omega);have aB:=grown_own (grown_trans ab.out.2.2.1 a) G (λj C D=>by cases C;omega);have al:=grown_own (grown_trans ab.out.2.2.2 a) G (λj C D=>by cases C;have:=I.out.2.1;omega);have aC:=F;clear F hq G W ak u mK Q n a kZ hx0 hx1 e1;generalize (l.setCell ⟨g,1,none⟩ (.slice (some ⟨l.heap.size,0,none⟩) 3 3)).alloc (.cells #[.int .i64 0,.int .i64 0,.int .i64 xb] 2)=wB at *;have hz:=I.out.1 wB (some sb) al (λk e=>by cases e;have:=I.out.2.2.2.2;omega);obtain⟨h0,h1,h2,h3',h4⟩:=id aC.box;obtain⟨k0,k1,k2,k3,k4⟩:=id hz;have hZ:=hz.all (.slice U o.length co) (.slice (some ⟨g,0,none⟩) o.length J) (.slice (some ⟨gc,0,none⟩) o.length L);have G:=grown_set3 wB w.heap.size (.slice U o.length co) (.slice (some ⟨g,0,none⟩) o.length J) (.slice (some ⟨gc,0,none⟩) o.length L);obtain⟨_,z0,z1,z2,_⟩:=id hZ;have S:=Lib.hid (And.intro G (And.intro aC aP));clear G hZ;go_wp2;refine bodyPost_ret (v := .agg #[.slice U o.length co,(.slice (some ⟨g,0,none⟩) o.length J),.slice (some ⟨gc,0,none⟩) o.length L]) (by simp[results,Tryz.results319,go_sem,z0,z1,z2]) rfl ?_;exact⟨_,rfl,grown_own aB S.out.1 (λj C D=>by cases C;omega),(S.out.2.1.ret S.out.1 (by omega)).weak (by omega),S.out.2.2.own S.out.1 (λk e=>by cases e;exact aq)⟩
 ·skip
  have hz:=I.out.1 w8 (some sb) E (λk e=>by cases e;have:=I.out.2.2.2.2;omega);obtain⟨h0,h1,h2,h3',h4⟩:=id H.box;obtain⟨k0,k1,k2,k3,k4⟩:=id hz;have hZ:=hz.all (.slice U o.length co) (.slice ap o.length J) (.slice (some ⟨gc,0,none⟩) o.length L);have G:=grown_set3 w8 w.heap.size (.slice U o.length co) (.slice ap o.length J) (.slice (some ⟨gc,0,none⟩) o.length L);obtain⟨_,z0,z1,z2,_⟩:=id hZ;have S:=Lib.hid (And.intro G (And.intro H aj));clear G hZ;go_wp2;refine bodyPost_ret (v := .agg #[.slice U o.length co,(.slice ap o.length J),.slice (some ⟨gc,0,none⟩) o.length L]) (by simp[results,Tryz.results319,go_sem,z0,z1,z2]) rfl ?_;exact⟨_,rfl,grown_own P S.out.1 (λj C D=>by cases C;omega),(S.out.2.1.ret S.out.1 (by omega)).weak (by omega),S.out.2.2.own S.out.1 (λk e=>by cases e;exact aq)⟩
end Go.Proofs.YtdcobapnlpeaaaaGreat
