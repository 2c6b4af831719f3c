/- Merged from templates. -/
import Derived.Test.YtoakmefajbbggaaGreatM13
set_option maxRecDepth 100000
set_option maxHeartbeats 8000000
namespace Go.Proofs.YtoakmefajbbggaaGreat
open Go.RowKit
attribute [local go_sem ↓] Go.wp_at_zero Go.wp_at_succ
theorem Own.CU {B:Nat}{w:World}{v:Value}{l:List Int}(h:Own B w v l) (a:l.length<=1000000):Ints Any w v l:=iD h (by omega) (λ_ _=>trivial)
theorem yu (a b:List Int):strOfNums (a++b)=strOfNums a++strOfNums b:=by
 apply ByteArray.ext;simp[strOfNums,ByteArray.data_append]
def lM (o:List Int):Nat->List Int
 | 0=>[]
 | k+1=>lM o k++((if 0<k then [32] else [])++[48+gt o k])
def AD (P:Pr) (k:Nat):List Int:=[59,32]++([97+(k:Int)]++([94]++([48+gt P.orders k]++([61]++lK (lg (gt P.eH k) P.orders.length)))))
def mW (P:Pr):Nat->List Int
 | 0=>[]
 | k+1=>mW P k++(if mP (gt P.eH k) then [] else AD P k)
def yw (P:Pr) (i k:Nat):List Int:=[59,32]++([97+((i+1+k:Nat):Int)]++([94]++([97+(i:Int)]++([61]++lK (lg (gt (gt P.conj i) k) P.orders.length)))))
def mX (P:Pr) (i:Nat):Nat->List Int
 | 0=>[]
 | k+1=>mX P i k++(if jk (gt (gt P.conj i) k) (fQ P.orders.length (i+1+k)) then [] else yw P i k)
def pI (P:Pr):Nat->List Int
 | 0=>[]
 | i+1=>pI P i++mX P i (P.orders.length-1-i)
def tS (P:Pr):List Int:=if P.orders.length=0 then [49] else lM P.orders P.orders.length++(mW P P.orders.length++pI P P.orders.length)
theorem Gw {e:List Int}{n:Nat}{x:Int}(h:x∈lg e n):1<=x/\x<=n:=by
 induction n with
 | zero=>simp[lg] at h
 | succ n a=>
  rcases List.mem_append.1 h with h|h
  ·have:=a h;omega
  ·have:=List.eq_of_mem_replicate h;omega
theorem AE (o:List Int):∀k,(lM o k).length<=2*k
 | 0=>by simp[lM]
 | k+1=>by
  have:=AE o k;simp only[lM,List.length_append,List.length_singleton];split<;>simp<;>omega
section
variable {P:Pr}(hP:Valid P)
include hP
theorem Gx {e:List Int}(a:dL P.orders e):∀i,gt e i<=7:=λi=>by
 by_cases h:i<P.orders.length
 ·have:=a.2 i h;have:=hP.gh i h;omega
 ·rw[show gt e i=0 by simp[gt,show e.length<=i by rw[a.1];omega]];omega
theorem AG {e:List Int}(a:dL P.orders e):(lK (lg e P.orders.length)).length<=43:=by
 have b:=hP.n6;refine Nk _ 42 (Nat.le_trans (yt (λi => ?_) _) (by omega));by_cases h:i<P.orders.length
 ·have:=a.2 i h;have:=hP.gh i h;omega
 ·rw[show gt e i=0 by simp[gt,show e.length<=i by rw[a.1];omega]];omega
theorem CV:∀k,k<=P.orders.length->(mW P k).length<=50*k
 | 0,_=>by simp[mW]
 | k+1,h=>by
  have h1:=CV k (by omega);have a:=AG hP (hP.pv k (by omega)).1;simp only[mW,List.length_append];split
  ·simp;omega
  ·simp only[AD,List.length_append,List.length_cons,List.length_nil];omega
theorem CW {i:Nat}(a:i<P.orders.length):∀k,k<=P.orders.length-1-i->(mX P i k).length<=50*k
 | 0,_=>by simp[mX]
 | k+1,h=>by
  have h1:=CW a k (by omega);have b:=AG hP ((hP.cv i a).2 k (by omega)).1;simp only[mX,List.length_append];split
  ·simp;omega
  ·simp only[yw,List.length_append,List.length_cons,List.length_nil];omega
theorem Gy:∀i,i<=P.orders.length->(pI P i).length<=300*i
 | 0,_=>by simp[pI]
 | i+1,h=>by
  have h1:=Gy i (by omega);have a:=CW hP (show i<P.orders.length by omega) (P.orders.length-1-i) (Nat.le_refl _);have:=hP.n6;simp only[pI,List.length_append];omega
end
theorem Nr (P:Pr) (hP:Valid P) (w:World) (pv:Value) (S:Nat->Prop) (z:gy S w pv P) :
  Calls Tryz.prog 273 #[pv] w (fq w λ_ r=>r=.string (strOfNums (tS P))):=by
 have bw:=hP.n6;obtain⟨vo,vp,vc,rfl,h3⟩:=z;have aP:=fB.box h3 28;have aF:Ext w (w.alloc (.cells #[vo,vp,vc] 28)):=World.grownBy_alloc _ _ _;obtain⟨bx,fN,fM,_,_,hc0,ak,al,F⟩:=aP.at;simp only[Nat.zero_add] at ak al;obtain⟨ao,co,rfl,_,_⟩:=F.o.shape;obtain⟨ap,cp,aG,_,_⟩:=Sl.shape F.p;obtain⟨ac,cc,aH,_,_⟩:=Sl.shape F.c;rw[hP.pl] at aG;rw[hP.cl] at aH;subst aG aH;by_cases hn:P.orders.length=0
 ·have ht:tS P=[49]:=by unfold tS;rw[if_pos hn]
  have aQ:((P.orders.length:Int) == 0)=true:=by rw[hn];rfl
  have HT:=Lib.hid ht;clear ht;go_enter Tryz.func273,Tryz.ntmps273;go_wp2;go_ret;exact⟨_,rfl,aF,by rw[HT.out];rfl⟩
 have ht:tS P=lM P.orders P.orders.length++(mW P P.orders.length++pI P P.orders.length):=by unfold tS;rw[if_neg hn]
 have aQ:((P.orders.length:Int) == 0)=false:=by simp;intro h;exact hn (by rw[h];rfl)
 have HT:=Lib.hid (And.intro ht hn);clear ht hn;go_enter Tryz.func273,Tryz.ntmps273;go_wp2;generalize w.alloc (.cells #[vo,vp,vc] 28)=w0 at *;have am:∀w',Ext w0 w'->w'.cell? ⟨w.heap.size,0,none⟩=some (.slice ao P.orders.length co):=λw' h=>h.cell hc0 (by simp);have an:∀w',Ext w0 w'->w'.cell? ⟨w.heap.size,1,none⟩=some (.slice ap P.orders.length cp):=λw' h=>h.cell ak (by simp);have aJ:∀w',Ext w0 w'->w'.cell? ⟨w.heap.size,2,none⟩=some (.slice ac P.orders.length cc):=λw' h=>h.cell al (by simp);have HB:=Lib.hid (And.intro am (And.intro an aJ));clear am an aJ hc0 ak al;go_loopw [4,5] (λov L wr=>∃(i:Nat),ov=.string (strOfNums (lM P.orders i))/\L=.int .i64 i/\i<=P.orders.length/\Ext w0 wr) (λ_ L _=>P.orders.length-(intOf L).toNat)
 case atStart=>exact⟨0,rfl,rfl,by omega,Ext.refl _⟩
 case round =>
  obtain⟨i,rfl,rfl,hi,u⟩:=hrel;have G:=AE P.orders i;by_cases b:i<P.orders.length
  ·have ag:(i:Int)<P.orders.length:=by omega
   obtain⟨bo,oo,rfl,_,_,H⟩:=Ints.at (Ints.ext F.o u) i b;have h7:=hP.gh i b;have am:=HB.out.1 wr u;obtain⟨y,hy⟩:∃y,y=gt P.orders i:=⟨_,rfl⟩;have A:lM P.orders (i+1)=lM P.orders i++((if 0<i then [32] else [])++[48+y]):=by rw[hy];rfl
   rw[<-hy] at H h7;obtain⟨l,E⟩:∃l,l=lM P.orders i:=⟨_,rfl⟩;rw[<-E] at A G;have aL:l.length<=1000:=by omega
   have a:=Lib.hid (And.intro A (And.intro E hy));clear A hy E G;rw[show strOfNums (lM P.orders i)=strOfNums l by rw[a.out.2.1]];have bB:=strOfNums_size l;rcases hb:decide (0<i) with _|_
   ·have q:strOfNums (lM P.orders (i+1))=strOfNums l++strOfNums [48+y]:=by
     have:¬ 0<i:=by simpa using hb
     rw[a.out.1,if_neg this,List.nil_append,yu]
    have HN:=Lib.hid q;clear q;go_wp2_with fail
    refine Calls.mono (AB wr y (by omega) (by omega)) ?_;rintro e1 w1 ⟨v1,rfl,hg1,rfl⟩;have M:=strOfNums_size [48+y];clear H;go_wp2_with fail
    go_roundw
    case rel=>exact⟨i+1,by rw[HN.out],by go_num,by omega,dy u hg1⟩
    case measure=>simp[intOf];omega
   ·have q:strOfNums (lM P.orders (i+1))=strOfNums l++⟨#[32]⟩++strOfNums [48+y]:=by
     have:0<i:=by simpa using hb
     rw[a.out.1,if_pos this,yu,yu,ByteArray.append_assoc];rfl
    have HN:=Lib.hid q;clear q;go_wp2_with fail
    refine Calls.mono (AB wr y (by omega) (by omega)) ?_;rintro e1 w1 ⟨v1,rfl,hg1,rfl⟩;have M:=strOfNums_size [48+y];clear H;go_wp2_with fail
    go_roundw
    case rel=>exact⟨i+1,by rw[HN.out],by go_num,by omega,dy u hg1⟩
    case measure=>simp[intOf];omega
  ·have N : i=P.orders.length:=by omega
   subst N;go_wp2;clear b G;have O:=u;clear u;go_loopw [4,6] (λov L wr=>∃(i:Nat),ov=.string (strOfNums (lM P.orders P.orders.length++mW P i))/\L=.int .i64 i/\i<=P.orders.length/\Ext w0 wr) (λ_ L _=>P.orders.length-(intOf L).toNat)
   case atStart=>exact⟨0,by rw[show mW P 0=[] from rfl,List.append_nil],rfl,by omega,O⟩
   case round =>
    clear O;obtain⟨i,rfl,rfl,hi,u⟩:=hrel;have G:=AE P.orders P.orders.length;have au:=CV hP i hi;by_cases b:i<P.orders.length
    ·have ag:(i:Int)<P.orders.length:=by omega
     obtain⟨bp,op,ae,ce,rfl,_,_,Z,B⟩:=dK.at (dK.ext F.p u) i (by rw[hP.pl];exact b);have an:=HB.out.2.1 wr u;have z:=(hP.pv i b).1;obtain⟨e,Q⟩:∃e,e=gt P.eH i:=⟨_,rfl⟩;rw[<-Q] at Z B z;have J:=z.1;obtain⟨l,E⟩:∃l,l=lM P.orders P.orders.length++mW P i:=⟨_,rfl⟩;have aL:l.length<=1000:=by rw[E,List.length_append];omega
     rw[<-E];rcases hz:mP e with _|_
     ·have A:lM P.orders P.orders.length++mW P (i+1)=l++AD P i:=by
       rw[E,List.append_assoc,mW,<-Q,hz];rfl
      obtain⟨bo,oo,rfl,_,_,H⟩:=Ints.at (Ints.ext F.o u) i b;have h7:=hP.gh i b;have R:=AG hP z;have C:AD P i=[59,32]++([97+(i:Int)]++([94]++([48+gt P.orders i]++([61]++lK (lg e P.orders.length))))):=by rw[Q];rfl
      obtain⟨y,hy⟩:∃y,y=gt P.orders i:=⟨_,rfl⟩;rw[<-hy] at H h7 C;obtain⟨W,K⟩:∃W,W=lg e P.orders.length:=⟨_,rfl⟩;have T:W.length<=42:=by rw[K];exact Nat.le_trans (yt (Gx hP z) _) (by omega)
      have U:∀x∈W,-26<=x/\x<=26:=by rw[K];exact λx hx=>by have:=Gw hx;omega
      rw[<-K] at C R
      have q:strOfNums (lM P.orders P.orders.length++mW P (i+1))=strOfNums l++⟨#[59,32]⟩++strOfNums [97+(i:Int)]++⟨#[94]⟩++strOfNums [48+y]++⟨#[61]⟩++strOfNums (lK W):=by
       rw[A,C];simp only[yu,ByteArray.append_assoc];rfl
      have V:∀j,j<e.length->0<=gt e j/\gt e j<=7:=λj hj=>by have:=z.2 j (by omega);have:=hP.gh j (by omega);omega
      have a:=Lib.hid (And.intro q (And.intro T (And.intro U (And.intro V (And.intro J K)))));clear A z Q E J G au C hy K T U q V;have I:=CX _ e wr _ B;rw[hz] at I;clear hz;go_wp2_with fail
      refine Calls.mono I ?_;rintro _ _ ⟨rfl,rfl⟩;clear I;have ai:=Z;clear Z;have e0:∀w',Ext wr w'->w'.cell? ⟨w.heap.size,0,none⟩=some (.slice (some ⟨bo,oo,none⟩) P.orders.length co):=λw' h=>HB.out.1 w' (dy u h);have e1:∀w',Ext wr w'->w'.cell? ⟨w.heap.size,1,none⟩=some (.slice (some ⟨bp,op,none⟩) P.orders.length cp):=λw' h=>HB.out.2.1 w' (dy u h);have e2:∀w',Ext wr w'->w'.cell? ⟨bo,oo+i,none⟩=some (.int .i64 y):=λw' h=>h.cell H (by simp);have e3:∀w',Ext wr w'->w'.cell? ⟨bp,op+i,none⟩=some (.slice ae e.length ce):=λw' h=>h.cell ai (by simp);have z0:=strOfNums_size l;have z1:=strOfNums_size [97+(i:Int)];have z2:=strOfNums_size [48+y];have z3:=strOfNums_size (lK W);have q1:¬ 9223372036854775807<l.length+2:=by omega
      have q2:¬ 9223372036854775807<l.length+2+1:=by omega
      have q3:¬ 9223372036854775807<l.length+2+1+1:=by omega
      have q4:¬ 9223372036854775807<l.length+2+1+1+1:=by omega
      have q5:¬ 9223372036854775807<l.length+2+1+1+1+1:=by omega
      have q6:¬ 9223372036854775807<l.length+2+1+1+1+1+(lK W).length:=by omega
      clear H ai;go_wp2_with fail
      go_region_held3 (λw'=>Ext wr w') (first|exact fk _ _|assumption)
       (first
        | (go_at_call 295;refine Calls.mono (Calls.rel (w0:=wr) (by assumption) (CN _ _ W Any av a.out.2.2.1 (by have:=a.out.2.1;omega))) ?_;rintro eD wD ⟨vD,rfl,yx,CT,rfl⟩)
        | (go_at_call 69;refine Calls.mono (Calls.rel (w0:=wr) (by assumption) (Gv _ _ e Any (Ints.sub (Ints.ext B (by assumption)) (λ_ _ _=>trivial)) (by have:=a.out.2.2.2.2.1;omega) a.out.2.2.2.1)) ?_;rintro eC wC ⟨vC,rfl,p6,xY,oD⟩;rw[a.out.2.2.2.2.1,<-a.out.2.2.2.2.2] at oD;have av:Ints Any wC vC W:=oD.CU (by have:=a.out.2.1;omega))
        | (go_at_call 293;refine Calls.mono (Calls.rel (w0:=wr) (by assumption) (AB _ y (by omega) (by omega))) ?_;rintro eB wB ⟨vB,rfl,X,jV,rfl⟩)
        | (go_at_call 294;refine Calls.mono (Calls.rel (w0:=wr) (by first|exact fk _ _|assumption) (CP _ i (by omega))) ?_;rintro eA wA ⟨vA,rfl,gK,iZ,rfl⟩))
      clear e0 e1 e2 e3 z0 z1 z2 z3 q1 q2 q3 q4 q5 q6;go_wp2;go_roundw
      case rel=>exact⟨i+1,by rw[a.out.1],by go_num,by omega,dy u yx⟩
      case measure=>simp[intOf];omega
     ·have A:lM P.orders P.orders.length++mW P (i+1)=l:=by
       rw[E,mW,<-Q,hz];simp
      have a:=Lib.hid (And.intro A (And.intro z (And.intro Q E)));clear A z Q E J G au;have I:=CX _ e wr _ B;rw[hz] at I;clear hz;go_wp2_with fail
      refine Calls.mono I ?_;rintro _ _ ⟨rfl,rfl⟩;clear I Z;go_wp2_with fail
      go_roundw
      case rel=>exact⟨i+1,by rw[a.out.1],by go_num,by omega,u⟩
      case measure=>simp[intOf];omega
    ·have N : i=P.orders.length:=by omega
     subst N;go_wp2;clear b G au;have O:=u;clear u;obtain⟨l0,aa⟩:∃l0,l0=lM P.orders P.orders.length++mW P P.orders.length:=⟨_,rfl⟩
     have bq:l0.length<=400:=by
      have h1:=AE P.orders P.orders.length;have h2:=CV hP P.orders.length (Nat.le_refl _);rw[aa,List.length_append];omega
     rw[<-aa];have a7:=Lib.hid aa;clear aa;go_loopw [4,7] (λov L wr=>∃(i:Nat),ov=.string (strOfNums (l0++pI P i))/\L=.int .i64 i/\i<=P.orders.length/\Ext w0 wr) (λ_ L _=>P.orders.length-(intOf L).toNat)
     case atStart=>exact⟨0,by rw[show pI P 0=[] from rfl,List.append_nil],rfl,by omega,O⟩
     case round=>
      clear O;obtain⟨i,rfl,rfl,hi,u⟩:=hrel;by_cases b:i<P.orders.length
      ·have ag:(i:Int)<P.orders.length:=by omega
       obtain⟨wo,rfl⟩:∃wo:World,wo=wr:=⟨_,rfl⟩;have a8:=Gy hP i hi;obtain⟨l1,ab⟩:∃l1,l1=l0++pI P i:=⟨_,rfl⟩;have bs:l1.length<=2200:=by rw[ab,List.length_append];omega
       rw[<-ab];have a9:=Lib.hid ab;clear ab a8;go_wp2;go_loopw [4,8] (λov jv wr=>∃(k j:Nat),ov=.string (strOfNums (l1++mX P i k))/\jv=.int .i64 j/\Hid (j=i+1+k/\k<=P.orders.length-1-i)/\j<=P.orders.length/\Ext w0 wr) (λ_ jv _=>P.orders.length-(intOf jv).toNat)
       case atStart=>exact⟨0,i+1,by rw[show mX P i 0=[] from rfl,List.append_nil],by go_num,Lib.hid ⟨rfl,by omega⟩,by omega,u⟩
       case round=>
        have bM:=u;clear u;obtain⟨k,j,rfl,rfl,HJ,hj,u⟩:=hrel;by_cases aN:j<P.orders.length
        ·have ax:(j:Int)<P.orders.length:=by omega
         have hk:k<P.orders.length-1-i:=by have:=HJ.out;omega
         obtain⟨bc,oc,ar,cr,rfl,_,_,ad,xG⟩:=fU.at (fU.ext F.c u) i (by rw[hP.cl];exact b);have af:=(hP.cv i b).1;have Y:=(hP.cv i b).2 k hk;rw[af] at ad;obtain⟨be,oe,ae,ce,rfl,_,_,ay,B⟩:=dK.at xG k (by rw[af];exact hk);obtain⟨e,Q⟩:∃e,e=gt (gt P.conj i) k:=⟨_,rfl⟩;rw[<-Q] at ay B Y;have J:=Y.1.1;have R:=AG hP Y.1;have ba:=CW hP b k (by omega);have aO:=HJ.out.1;obtain⟨l,E⟩:∃l,l=l1++mX P i k:=⟨_,rfl⟩;have aL:l.length<=3000:=by rw[E,List.length_append];omega
         rw[<-E];obtain⟨m,hm⟩:∃m,m=P.orders.length-1-i:=⟨_,rfl⟩;rw[<-hm] at ad hk;have bN:(k:Int)<m:=by omega
         have M:IntKind.i64.wrap ((j:Int)-(i:Int))=(k:Int)+1:=by rw[show(j:Int)-(i:Int)=(k:Int)+1 by omega];exact IntWalk.i64_in _ (by omega)
         have az:IntKind.i64.wrap (k:Int)=(k:Int):=IntWalk.i64_in _ (by omega);have e0:∀w',Ext wr w'->w'.cell? ⟨w.heap.size,2,none⟩=some (.slice (some ⟨bc,oc,none⟩) P.orders.length cc):=λw' h=>HB.out.2.2 w' (dy u h);have e1:∀w',Ext wr w'->w'.cell? ⟨bc,oc+i,none⟩=some (.slice (some ⟨be,oe,none⟩) m cr):=λw' h=>h.cell ad (by simp);have e2:∀w',Ext wr w'->w'.cell? ⟨be,oe+k,none⟩=some (.slice ae e.length ce):=λw' h=>h.cell ay (by simp);have a:=Lib.hid (And.intro J (And.intro Y (And.intro Q (And.intro E (And.intro hm (And.intro R (And.intro aO af)))))));clear J Y Q E hm R ba aO af ad ay;have HE:=Lib.hid (And.intro e0 (And.intro e1 e2));go_wp2
         go_region_held3 (λw'=>Ext wr w') (first|exact fk _ _|assumption)
          (first
           | (go_at_call 275;refine Calls.mono (Calls.rel (w0:=wr) (by assumption) (qA _ _ e (fQ P.orders.length j) _ Any Any (Ints.sub (Ints.ext B (by assumption)) (λ_ _ _=>trivial)) bf)) ?_;rintro eB wB ⟨vB,rfl,X,jV,rfl⟩)
           | (go_at_call 167;refine Calls.mono (Calls.rel (w0:=wr) (by first|exact fk _ _|assumption) (uz P.orders.length j _ aN (by omega))) ?_;rintro eA wA ⟨vA,rfl,gK,iZ,mj⟩;have bf:Ints Any wA vA (fQ P.orders.length j):=mj.CU (by rw[pG];omega)))
         clear e0 e1 e2 M az;rcases hq:jk e (fQ P.orders.length j) with _|_
         ·have C:yw P i k=[59,32]++([97+(j:Int)]++([94]++([97+(i:Int)]++([61]++lK (lg e P.orders.length))))):=by
           unfold yw;rw[<-a.out.2.2.1,<-a.out.2.2.2.2.2.2.1]
          obtain⟨W,K⟩:∃W,W=lg e P.orders.length:=⟨_,rfl⟩;rw[<-K] at C;have T:W.length<=42:=by rw[K];exact Nat.le_trans (yt (Gx hP a.out.2.1.1) _) (by omega)
          have U:∀x∈W,-26<=x/\x<=26:=by rw[K];exact λx hx=>by have:=Gw hx;omega
          have R:(lK W).length<=43:=by rw[K];exact a.out.2.2.2.2.2.1
          have q:strOfNums (l1++mX P i (k+1))=strOfNums l++⟨#[59,32]⟩++strOfNums [97+(j:Int)]++⟨#[94]⟩++strOfNums [97+(i:Int)]++⟨#[61]⟩++strOfNums (lK W):=by
           have h1:mX P i (k+1)=mX P i k++yw P i k:=by rw[mX,<-a.out.2.2.1,<-a.out.2.2.2.2.2.2.1,hq];rfl
           rw[h1,<-List.append_assoc,<-a.out.2.2.2.1,C];simp only[yu,ByteArray.append_assoc];rfl
          have V:∀j,j<e.length->0<=gt e j/\gt e j<=7:=λj hj=>by have:=a.out.2.1.1.2 j (by have:=a.out.1;omega);have:=hP.gh j (by have:=a.out.1;omega);omega
          have HW:=Lib.hid (And.intro q (And.intro T (And.intro U (And.intro V K))));clear C K T U q V;have M:IntKind.i64.wrap ((j:Int)-(i:Int))=(k:Int)+1:=by have:=a.out.2.2.2.2.2.2.1;rw[show(j:Int)-(i:Int)=(k:Int)+1 by omega];exact IntWalk.i64_in _ (by omega)
          have az:IntKind.i64.wrap (k:Int)=(k:Int):=IntWalk.i64_in _ (by have:=a.out.2.2.2.2.1;omega);have z0:=strOfNums_size l;have z1:=strOfNums_size [97+(i:Int)];have z2:=strOfNums_size [97+(j:Int)];have z3:=strOfNums_size (lK W);have q1:¬ 9223372036854775807<l.length+2:=by omega
          have q2:¬ 9223372036854775807<l.length+2+1:=by omega
          have q3:¬ 9223372036854775807<l.length+2+1+1:=by omega
          have q4:¬ 9223372036854775807<l.length+2+1+1+1:=by omega
          have q5:¬ 9223372036854775807<l.length+2+1+1+1+1:=by omega
          have q6:¬ 9223372036854775807<l.length+2+1+1+1+1+(lK W).length:=by omega
          go_wp2_with fail
          have e0:=HE.out.1;have e1:=HE.out.2.1;have e2:=HE.out.2.2
          go_region_held3 (λw'=>Ext wr w') (first|exact dy X (fk _ _)|assumption)
           (first
            | (go_at_call 295;refine Calls.mono (Calls.rel (w0:=wr) (by assumption) (CN _ _ W Any av HW.out.2.2.1 (by have:=HW.out.2.1;omega))) ?_;rintro eD wD ⟨vD,rfl,yx,CT,rfl⟩)
            | (go_at_call 69;refine Calls.mono (Calls.rel (w0:=wr) (by assumption) (Gv _ _ e Any (Ints.sub (Ints.ext B (by assumption)) (λ_ _ _=>trivial)) (by have:=a.out.1;omega) HW.out.2.2.2.1)) ?_;rintro eC wC ⟨vC,rfl,p6,xY,oD⟩;rw[a.out.1,<-HW.out.2.2.2.2] at oD;have av:Ints Any wC vC W:=oD.CU (by have:=HW.out.2.1;omega))
            | (go_at_call 294;refine Calls.mono (Calls.rel (w0:=wr) (by first|exact dy X (fk _ _)|assumption) (CP _ j (by omega))) ?_;rintro eL wL ⟨vL,rfl,U2,U3,rfl⟩)
            | (go_at_call 294;refine Calls.mono (Calls.rel (w0:=wr) (by first|exact dy X (fk _ _)|assumption) (CP _ i (by omega))) ?_;rintro eM wM ⟨vM,rfl,tL,U4,rfl⟩))
          clear e0 e1 e2 z0 z1 z2 z3 q1 q2 q3 q4 q5 q6 M az;go_wp2;go_roundw
          case rel=>exact⟨k+1,j+1,by rw[HW.out.1],by go_num,Lib.hid ⟨by have:=a.out.2.2.2.2.2.2.1;omega,by have:=a.out.2.2.2.2.1;omega⟩,by omega,dy u yx⟩
          case measure=>simp[intOf];omega
         ·have q:strOfNums (l1++mX P i (k+1))=strOfNums l:=by
           rw[mX,<-a.out.2.2.1,<-a.out.2.2.2.2.2.2.1,hq,<-List.append_assoc,<-a.out.2.2.2.1];simp
          have HN:=Lib.hid q;clear q;go_wp2_with fail
          go_roundw
          case rel=>exact⟨k+1,j+1,by rw[HN.out],by go_num,Lib.hid ⟨by have:=a.out.2.2.2.2.2.2.1;omega,by have:=a.out.2.2.2.2.1;omega⟩,by omega,dy u X⟩
          case measure=>simp[intOf];omega
        ·have D:strOfNums (l1++mX P i k)=strOfNums (l0++pI P (i+1)):=by
          have:=HJ.out;rw[a9.out,pI,show k=P.orders.length-1-i by omega,List.append_assoc]
         have HF:=Lib.hid D;clear D;have ax:¬((j:Int)<P.orders.length):=by omega
         go_wp2;go_roundw
         case rel=>exact⟨i+1,by rw[HF.out],by go_num,by omega,u⟩
         case measure=>simp[intOf];omega
      ·have N:i=P.orders.length:=by omega
       subst N;have D:strOfNums (l0++pI P P.orders.length)=strOfNums (tS P):=by rw[HT.out.1,a7.out,List.append_assoc]
       have HF:=Lib.hid D;clear D;go_wp2;go_ret;exact⟨_,rfl,dy aF u,by rw[<-HF.out];rfl⟩
theorem Gz (N B:Nat) (w:World):pH N B w (.agg #[.slice none 0 0,.slice none 0 0,.slice none 0 0]):=
 ⟨⟨[],[],[]⟩,⟨Nat.zero_le _,rfl,rfl,λi h=>absurd h (by simp),by simp,by simp⟩,_,_,_,rfl,λ_=>False,λ_=>False,λ_=>False,
  ⟨World.ownsRow_nil _ _ _ _,by simp[Value.ownBlock],by simp⟩,
  ⟨[],λ_ _=>False,rfl,by simp,World.ownsRow_nil _ _ _ _,by simp[Value.ownBlock],by simp,by simp,by simp⟩,⟨[],λ_ _=>False,rfl,by simp,World.ownsRow_nil _ _ _ _,by simp[Value.ownBlock],by simp,by simp,by simp⟩,
  λ_ h=>h.elim,λ_ h=>h.elim,λ_ h=>h.elim⟩
def Ns (N B:Nat) (w':World) (v:Value):Prop:=∃(vo vp vc:Value) (c:Int),v=.tuple #[.agg #[vo,vp,vc],.int .i64 c]/\pH N B w' (.agg #[vo,vp,vc])
theorem Nt (w:World) (n:Nat) (hn:1<=n/\n<=729) :
  Calls Tryz.prog 262 #[.int .i64 n] w (fq w (Ns 9 w.heap.size)):=by
 have K:∀w',Ext (w.alloc (.cells #[.slice none 0 0,.slice none 0 0,.slice none 0 0] 28)) w'->fG w' w.heap.size (.slice none 0 0) (.slice none 0 0) (.slice none 0 0):=λw' h=>(fG.made w 28 _ _ _).ext h;have m:Ext w (w.alloc (.cells #[.slice none 0 0,.slice none 0 0,.slice none 0 0] 28)):=World.grownBy_alloc _ _ _;have L:(w.alloc (.cells #[.slice none 0 0,.slice none 0 0,.slice none 0 0] 28)).heap.size=w.heap.size+1:=by simp
 have M:kJ n 1 729=true:=by simp[kJ];omega
 have O:=Lib.hid (And.intro hn (And.intro K (And.intro m L)));clear hn K L;go_enter Tryz.func262,Tryz.ntmps262;go_wp2_with fail
 generalize w.alloc (.cells #[.slice none 0 0,.slice none 0 0,.slice none 0 0] 28)=w0 at *;refine Calls.mono (tj n 1 729 w0) ?_;rintro _ _ ⟨rfl,rfl⟩;rw[M];clear M;go_wp2_with fail
 refine Calls.mono (Az w0 n O.out.1) ?_;rintro e1 p ⟨v1,rfl,a,a1,c1,l,r,rfl,Q,aa,R⟩;have HL:=Lib.hid (And.intro Q (And.intro R aa));clear Q R;have C:=O.out.2.1 p a;obtain⟨k0,k1,k2,k3,k4⟩:=id C;cases r
 ·go_wp2_with fail
  have y:=C.all (.slice none 0 0) (.slice none 0 0) (.slice none 0 0);have A:=jh p w.heap.size (.slice none 0 0) (.slice none 0 0) (.slice none 0 0);obtain⟨_,z0,z1,z2,_⟩:=id y;have D:=Lib.hid A;clear A y;go_wp2;refine bodyPost_ret (v := .tuple #[.agg #[.slice none 0 0,.slice none 0 0,.slice none 0 0],.int .i64 2]) (by simp[results,Tryz.results262,go_sem,z0,z1,z2]) rfl ?_;exact⟨_,rfl,fu (dy m a) D.out (λj E q=>by cases E;omega),_,_,_,_,rfl,Gz 9 _ _⟩
 by_cases h6:6<l.length
 ·go_wp2_with fail
  have y:=C.all (.slice none 0 0) (.slice none 0 0) (.slice none 0 0);have A:=jh p w.heap.size (.slice none 0 0) (.slice none 0 0) (.slice none 0 0);obtain⟨_,z0,z1,z2,_⟩:=id y;have D:=Lib.hid A;clear A y;go_wp2;refine bodyPost_ret (v := .tuple #[.agg #[.slice none 0 0,.slice none 0 0,.slice none 0 0],.int .i64 3]) (by simp[results,Tryz.results262,go_sem,z0,z1,z2]) rfl ?_;exact⟨_,rfl,fu (dy m a) D.out (λj E q=>by cases E;omega),_,_,_,_,rfl,Gz 9 _ _⟩
 clear k0 k1 k2 k3 k4;go_wp2_with fail
 refine Calls.mono (qd p _ l _ (HL.out.1.ints (by omega)) (by omega)) ?_;rintro e2 J ⟨v2,rfl,hg2,vo,vp,vc,rfl,F⟩;obtain⟨G,co,ap,u,H,I,rfl,rfl,rfl⟩:=rB F;go_wp2_with fail
 have ab:=hg2.size;have ar:=a.size;have S:Ext J (J.alloc (.cells #[.slice G l.length co,.slice ap l.length u,.slice H l.length I] 28)):=World.grownBy_alloc _ _ _;have e:=BX.start (N:=9) (B:=p.heap.size) (by omega) F S (fG.made J 28 (.slice G l.length co) (.slice ap l.length u) (.slice H l.length I)) ab;generalize J.alloc (.cells #[.slice G l.length co,.slice ap l.length u,.slice H l.length I] 28)=w3 at *;have T:Ext p w3:=dy hg2 S;clear F hg2;go_loopw [7] (λiv wr=>∃i:Nat,iv=.int .i64 i/\i<=l.length/\Ext p wr/\BX 9 l p.heap.size J.heap.size wr (.slice G l.length co) (.slice ap l.length u) (.slice H l.length I)) (λiv _=>l.length-(intOf iv).toNat)
 case atStart=>exact⟨0,rfl,by omega,T,e⟩
 case round=>
  clear e T;obtain⟨i,rfl,hi,hg,e⟩:=hrel;by_cases q:i+1<l.length
  ·have U:(i:Int)+1<l.length:=by omega
   obtain⟨g,cap,z,kM,hgB,pJ,jB,V,W⟩:=e.qH i (by omega);obtain⟨rfl,rfl⟩:ap=some ⟨g,0,none⟩/\u=cap:=by cases kM;exact⟨rfl,rfl⟩
   clear kM;have e1:∀w',fI wr g w'->w'.cell? ⟨J.heap.size,1,none⟩=some (.slice (some ⟨g,0,none⟩) l.length u):=λw' h=>h.cell e.box.2.2.1 (by simp;omega)
   have X:∀w,Calls Tryz.prog 167 #[.int .i64 l.length,.int .i64 ((i:Int)+1)] w (fq w λw' v=>Own w.heap.size w' v (fQ l.length (i+1))):=λw=>by
    have h:=uz l.length (i+1) w (by omega) (by omega);rwa [show((i+1:Nat):Int)=(i:Int)+1 by omega] at h
   have HX:=Lib.hid (And.intro e (And.intro W V));clear e W V;have au:(i:Int)<l.length:=by omega
   have av:IntKind.i64.wrap ((i:Int)+1)=(i:Int)+1:=IntWalk.i64_in _ (by omega);have aw:wrap64 ((i:Int)+1)=(i:Int)+1:=IntWalk.wrap64_in _ (by omega);go_wp2
   go_region_held3 (λw'=>fI wr g w') (first|exact fI.of (fk _ _)|exact fI.of (by assumption)|exact fI.store (by assumption)|assumption)
    (first
     | (go_at_call 167;refine Calls.mono (Calls.rel (w0:=wr) (by first|exact fk _ _|assumption) (X _)) ?_;rintro eE Z ⟨vE,rfl,b,mM,Y⟩;obtain⟨aE,cE,jZ,_⟩:=(Y.ints (by rw[pG];omega)).shape;subst jZ;have ag:=(HX.out.2.2 Z b).1;have ah:=(HX.out.2.2 Z b).2))
   have az:=b.size;have ai:=HX.out.2.1 Z _ (fQ l.length (i+1)) b (gf.of Y (by rw[pG];omega) (λk hk _=>Nat.le_trans (by assumption) hk)) (by rw[pG];omega);have aj:Ext p (Z.setCell ⟨g,i,none⟩ (.slice aE (fQ l.length (i+1)).length cE)):=fu (dy hg b) (iG _ _ _ _) (λj E q=>by cases E;omega);clear ag ah e1;go_wp2;go_roundw
   case rel=>exact⟨i+1,by go_num,by omega,aj,ai⟩
   case measure=>simp[intOf];omega
  ·have U:¬((i:Int)+1<l.length):=by omega
   have hz:=O.out.2.1 wr (dy a hg);obtain⟨h0,h1,h2,h3',h4⟩:=id e.box;obtain⟨k0,k1,k2,k3,k4⟩:=id hz;have y:=hz.all (.slice G l.length co) (.slice ap l.length u) (.slice H l.length I);have A:=jh wr w.heap.size (.slice G l.length co) (.slice ap l.length u) (.slice H l.length I);obtain⟨_,z0,z1,z2,_⟩:=id y;have D:=Lib.hid (And.intro A e);clear A y e;go_wp2;refine bodyPost_ret (v := .tuple #[.agg #[.slice G l.length co,.slice ap l.length u,.slice H l.length I],.int .i64 0]) (by simp[results,Tryz.results262,go_sem,z0,z1,z2]) rfl ?_;exact⟨_,rfl,fu (dy m (dy a hg)) D.out.1 (λj E q=>by cases E;omega),_,_,_,_,rfl,(D.out.2.ret D.out.1 (by have:=O.out.2.2.2;omega)).weak (by have:=O.out.2.2.2;omega)⟩
def sL (N B:Nat) (w':World) (vo vp vc:Value):Prop:=∃Q,jK N Q/\fA (From B) w' vo vp vc Q
def Nu (N B:Nat) (w':World) (v:Value):Prop:=∃(vo vp vc:Value) (c:Int),v=.tuple #[.agg #[vo,vp,vc],.int .i64 c]/\sL N B w' vo vp vc
theorem AH (S:Nat->Prop) (w:World):fA S w (.slice none 0 0) (.slice none 0 0) (.slice none 0 0) ⟨[],[],[]⟩:=
 ⟨⟨none,0,rfl,⟨by simp,by simp,λ_=>rfl⟩,λi a=>by simp at a⟩,⟨none,0,rfl,⟨by simp,by simp,λ_=>rfl⟩,λi a=>by simp at a⟩,⟨none,0,rfl,⟨by simp,by simp,λ_=>rfl⟩,λi a=>by simp at a⟩⟩
theorem AJ (N:Nat):jK N ⟨[],[],[]⟩:=⟨Nat.zero_le _,rfl,rfl,λi h=>absurd h (by simp),by simp,by simp⟩
theorem Nv (w:World) (s:ByteArray) (hs:s.size<=1000) :
  Calls Tryz.prog 227 #[.string s] w (fq w (Nu 6 w.heap.size)):=by
 have aQ:=fG.made w 28 (.slice none 0 0) (.slice none 0 0) (.slice none 0 0);have aR:Ext w (w.alloc (.cells #[.slice none 0 0,.slice none 0 0,.slice none 0 0] 28)):=World.grownBy_alloc _ _ _;have bg:(w.alloc (.cells #[.slice none 0 0,.slice none 0 0,.slice none 0 0] 28)).heap.size=w.heap.size+1:=by simp
 go_enter Tryz.func227,Tryz.ntmps227;go_wp2_with fail
 generalize w.alloc (.cells #[.slice none 0 0,.slice none 0 0,.slice none 0 0] 28)=w0 at *;refine Calls.mono (CK w0 s 59 hs) ?_;rintro e1 w1 ⟨v1,rfl,R,av,cv,ts,rfl,Gs,ag,S,hT⟩;obtain⟨bt,rfl,hc0⟩:=tR.at hT 0 (by omega);have bi:=S _ (fT (show 0<ts.length by omega));have bj:(0:Int)<ts.length:=by omega
 have ah:=dy aR R;have a0:ts.length<=1001:=by omega
 go_wp2_with fail
 refine Calls.mono (Nj w1 _ (by omega)) ?_;rintro e2 F ⟨v2,rfl,H,ao,n,co,r,rfl,hR⟩;have y:=dy ah H;have A:=(aQ.ext R).ext H;have bk:w.heap.size+1<=F.heap.size:=by have:=R.size;have:=H.size;omega
 have a4:=(hT.lt bt rfl).2;have HT:=Lib.hid (And.intro hT (And.intro S ag));clear hT S ag hc0;cases r
 case' false=>
  obtain⟨n0,n1,n2,n3,n4⟩:=id A;have b:=A.all (.slice none 0 0) (.slice none 0 0) (.slice none 0 0);obtain⟨-,z0,z1,z2,-⟩:=id b;have l:=jh F w.heap.size (.slice none 0 0) (.slice none 0 0) (.slice none 0 0);have m:=Lib.hid l;clear b l;go_wp2_with fail
  refine bodyPost_ret (v := .tuple #[.agg #[.slice none 0 0,.slice none 0 0,.slice none 0 0],.int .i64 6]) (by simp[results,Tryz.results227,go_sem,z0,z1,z2]) rfl ?_;exact⟨_,rfl,fu y m.out (λj B a=>by cases B;omega),_,_,_,_,rfl,_,AJ 6,AH _ _⟩
 obtain⟨o,T,CL,C,hO⟩:=hR rfl;have T:=T;subst T;clear hR;have ai:=hO.ints (by omega);have HO:=Lib.hid (And.intro C hO);clear C hO;go_wp2_with fail
 refine Calls.mono (qd F _ o _ ai (by omega)) ?_;rintro e3 q ⟨v3,rfl,hg3,vo,vp,vc,rfl,nP⟩;obtain⟨a1,c1,a2,c2,a3,c3,rfl,rfl,rfl⟩:=rB nP;have U:Ext q (q.alloc (.cells #[.slice a1 o.length c1,.slice a2 o.length c2,.slice a3 o.length c3] 28)):=World.grownBy_alloc _ _ _;have ak:=fG.made q 28 (.slice a1 o.length c1) (.slice a2 o.length c2) (.slice a3 o.length c3)
 have al:fA (λk=>F.heap.size<=k/\k≠q.heap.size) (q.alloc (.cells #[.slice a1 o.length c1,.slice a2 o.length c2,.slice a3 o.length c3] 28)) (.slice a1 o.length c1) (.slice a2 o.length c2) (.slice a3 o.length c3) (j0 o):=
  nP.p3.mono (λk hk a=>⟨⟨hk,by omega⟩,Nat.lt_of_lt_of_le a U.size,U.block k a (by simp)⟩)
 have bm:=hg3.size;have M:=dy hg3 U;go_wp2_with fail
 generalize q.alloc (.cells #[.slice a1 o.length c1,.slice a2 o.length c2,.slice a3 o.length c3] 28)=w4 at *;clear nP ai;go_loopw [6,8] (λaS iv wr=>∃(i:Nat) (qo qp qc:Value) (Q:Pr),aS=.bool true/\iv=.int .i64 i/\i<=ts.length/\Ext F wr/\fG wr q.heap.size qo qp qc/\jK 6 Q/\Q.orders=o/\fA (λk=>F.heap.size<=k/\k≠q.heap.size) wr qo qp qc Q) (λ_ iv _=>ts.length-(intOf iv).toNat)
 case atStart=>exact⟨1,_,_,_,j0 o,rfl,rfl,by omega,M,ak,vk o CL,rfl,al⟩
 case round=>
  clear al ak M;obtain⟨i,qo,qp,qc,Q,rfl,rfl,hi,hg,hB,I,D,G⟩:=hrel;have bn:=dy y hg;by_cases a:i<ts.length
  ·have an:(i:Int)<ts.length:=by omega
   obtain⟨_,Ai,ap⟩:=tR.at HT.out.1 i a;cases Ai
   have V:=(dy H hg).cell ap (by simp);clear ap;have aX:=HT.out.2.1 _ (fT a);have aq:(gt ts i).size<=1000:=by omega
   obtain⟨t0,ar⟩:∃t0,t0=gt ts i:=⟨_,rfl⟩;rw[<-ar] at V aq;clear aX ar;have C:∀x∈Q.orders,kQ x=true:=by rw[D];exact HO.out.1
   obtain⟨a5,c5,sM,_,_⟩:=G.o.shape;obtain⟨a6,c6,yy,_,_⟩:=Sl.shape G.p;obtain⟨a7,c7,yz,_,_⟩:=Sl.shape G.c;subst sM yy yz;have au:=hB.ext (fk _ none);have aw:fA (λk=>F.heap.size<=k/\k≠q.heap.size) wr.drew _ _ _ Q:=G.ext (fk _ none);obtain⟨d0,d1,d2,d3,d4⟩:=id au;have f1:wr.drew.cell? ⟨bt,i,none⟩=some (.string t0):=V;have z:=Lib.hid (And.intro I (And.intro D (And.intro C (And.intro aw hB))));clear I D C aw hB G au V;go_wp2_with fail
   go_region_law (first
    | (go_simp;go_at_call 272;refine Calls.mono (Nl _ _ Q _ t0 ⟨_,_,_,rfl,z.out.2.2.2.1⟩ z.out.1 z.out.2.2.1 aq) ?_;rintro eC wC ⟨vC,rfl,ay,yo,yp,yc,r,u,rfl,az,GA,yA⟩;have aA:=Lib.hid GA;clear GA;obtain⟨W,k5,rfl,_,_⟩:=yA.o.shape;obtain⟨X,k6,rfl,_,_⟩:=Sl.shape yA.p;obtain⟨e7,k7,rfl,_,_⟩:=Sl.shape yA.c;have Y:=(z.out.2.2.2.2.ext (fk _ none)).ext ay;obtain⟨g0,g1,g2,g3,g4⟩:=id Y))
   all_goals
    have aB:Ext wr wC:=dy (fk _ _) ay;have a9:=z.out.2.2.2.2.1;have bp:=hg.size;have aC:=Y.all (.slice W u.orders.length k5) (.slice X u.eH.length k6) (.slice e7 u.conj.length k7);have J:=jh wC q.heap.size (.slice W u.orders.length k5) (.slice X u.eH.length k6) (.slice e7 u.conj.length k7);have Z:Ext F (((wC.setCell ⟨q.heap.size,0,none⟩ (.slice W u.orders.length k5)).setCell ⟨q.heap.size,1,none⟩ (.slice X u.eH.length k6)).setCell ⟨q.heap.size,2,none⟩ (.slice e7 u.conj.length k7)):=fu (dy hg aB) J (λj B a=>by cases B;omega)
    have aD:fA (λk=>F.heap.size<=k/\k≠q.heap.size) (((wC.setCell ⟨q.heap.size,0,none⟩ (.slice W u.orders.length k5)).setCell ⟨q.heap.size,1,none⟩ (.slice X u.eH.length k6)).setCell ⟨q.heap.size,2,none⟩ (.slice e7 u.conj.length k7)) (.slice W u.orders.length k5) (.slice X u.eH.length k6) (.slice e7 u.conj.length k7) u:=
     yA.mono (λk hk a=>by
      have aE:F.heap.size<=k/\k≠q.heap.size:=by
       have hd:wr.drew.heap.size=wr.heap.size:=rfl;rcases hk with hk|hk
       ·exact hk
       ·exact⟨by omega,by omega⟩
      exact⟨aE,Nat.lt_of_lt_of_le a J.size,J.block k a (λe=>aE.2 (by cases e;rfl))⟩)
    have HF:=Lib.hid (And.intro aC (And.intro aD (And.intro az aA.out)));clear aC aD az aA yA J g0 g1 g2 g3 g4 Y d0 d1 d2 d3 d4 f1;generalize ((wC.setCell ⟨q.heap.size,0,none⟩ (.slice W u.orders.length k5)).setCell ⟨q.heap.size,1,none⟩ (.slice X u.eH.length k6)).setCell ⟨q.heap.size,2,none⟩ (.slice e7 u.conj.length k7)=w9 at *;cases r
    case' false=>
     have aF:=A.ext Z;have aG:=dy y Z;obtain⟨n0,n1,n2,n3,n4⟩:=id aF;have b:=aF.all (.slice none 0 0) (.slice none 0 0) (.slice none 0 0);obtain⟨-,z0,z1,z2,-⟩:=id b;have l:=jh w9 w.heap.size (.slice none 0 0) (.slice none 0 0) (.slice none 0 0);have m:=Lib.hid l;clear b l;go_wp2_with fail
     refine bodyPost_ret (v := .tuple #[.agg #[.slice none 0 0,.slice none 0 0,.slice none 0 0],.int .i64 6]) (by simp[results,Tryz.results227,go_sem,z0,z1,z2]) rfl ?_;exact⟨_,rfl,fu aG m.out (λj B a=>by cases B;omega),_,_,_,_,rfl,_,AJ 6,AH _ _⟩
    go_wp2_with fail
    go_roundw
    case rel=>exact⟨i+1,_,_,_,u,rfl,by go_num,by omega,Z,HF.out.1,HF.out.2.2.1,by rw[HF.out.2.2.2];exact z.out.2.1,HF.out.2.1⟩
    case measure=>simp[intOf];omega
  ·have an:¬((i:Int)<ts.length):=by omega
   obtain⟨a5,c5,sM,_,_⟩:=G.o.shape;obtain⟨a6,c6,yy,_,_⟩:=Sl.shape G.p;obtain⟨a7,c7,yz,_,_⟩:=Sl.shape G.c;subst sM yy yz;obtain⟨d0,d1,d2,d3,d4⟩:=id hB;have z:=Lib.hid (And.intro I (And.intro D (And.intro G hB)));clear I D G hB;go_wp2_with fail
   refine Calls.mono (x5 wr _ Q _ ⟨_,_,_,rfl,z.out.2.2.1⟩) ?_;rintro W w5 ⟨v5,rfl,K,rfl⟩;have aa:=z.out.2.2.2.ext K;obtain⟨p0,p1,p2,p3,p4⟩:=id aa;have E:=dy hg K;rcases hv:jX Q with _|_
   case' false=>
    have aH:=A.ext E;have aI:=dy y E;obtain⟨n0,n1,n2,n3,n4⟩:=id aH;have b:=aH.all (.slice none 0 0) (.slice none 0 0) (.slice none 0 0);obtain⟨-,z0,z1,z2,-⟩:=id b;have l:=jh w5 w.heap.size (.slice none 0 0) (.slice none 0 0) (.slice none 0 0);have m:=Lib.hid l;clear b l;go_wp2_with fail
    refine bodyPost_ret (v := .tuple #[.agg #[.slice none 0 0,.slice none 0 0,.slice none 0 0],.int .i64 6]) (by simp[results,Tryz.results227,go_sem,z0,z1,z2]) rfl ?_;exact⟨_,rfl,fu aI m.out (λj B a=>by cases B;omega),_,_,_,_,rfl,_,AJ 6,AH _ _⟩
   have hV:=BK hv;clear hv;have HV:=Lib.hid hV;clear hV;go_wp2_with fail
   refine Calls.mono (Nr Q HV.out w5 _ _ ⟨_,_,_,rfl,z.out.2.2.1.ext K⟩) ?_;rintro X w6 ⟨v6,rfl,ab,rfl⟩;have N:=dy E ab;have L:=A.ext N;have O:=dy y N;have aY:=aa.ext ab;have aJ:=(z.out.2.2.1.ext K).ext ab;clear p0 p1 p2 p3 p4 d0 d1 d2 d3 d4 aa;rcases be:((strOfNums (tS Q)).toList == s.toList) with _|_
   case' false=>
    obtain⟨n0,n1,n2,n3,n4⟩:=id L;have b:=L.all (.slice none 0 0) (.slice none 0 0) (.slice none 0 0);obtain⟨-,z0,z1,z2,-⟩:=id b;have l:=jh w6 w.heap.size (.slice none 0 0) (.slice none 0 0) (.slice none 0 0);have m:=Lib.hid l;clear b l;go_wp2_with fail
    refine bodyPost_ret (v := .tuple #[.agg #[.slice none 0 0,.slice none 0 0,.slice none 0 0],.int .i64 6]) (by simp[results,Tryz.results227,go_sem,z0,z1,z2]) rfl ?_;exact⟨_,rfl,fu O m.out (λj B a=>by cases B;omega),_,_,_,_,rfl,_,AJ 6,AH _ _⟩
   obtain⟨p0,p1,p2,p3,p4⟩:=id aY;obtain⟨n0,n1,n2,n3,n4⟩:=id L;have b:=L.all (.slice a5 Q.orders.length c5) (.slice a6 Q.eH.length c6) (.slice a7 Q.conj.length c7);obtain⟨-,z0,z1,z2,-⟩:=id b;have l:=jh w6 w.heap.size (.slice a5 Q.orders.length c5) (.slice a6 Q.eH.length c6) (.slice a7 Q.conj.length c7);have m:=Lib.hid (And.intro l aJ);clear b l aJ;go_wp2_with fail
   refine bodyPost_ret (v := .tuple #[.agg #[.slice a5 Q.orders.length c5,.slice a6 Q.eH.length c6,.slice a7 Q.conj.length c7],.int .i64 0]) (by simp[results,Tryz.results227,go_sem,z0,z1,z2]) rfl ?_;exact⟨_,rfl,fu O m.out.1 (λj B a=>by cases B;omega),_,_,_,_,rfl,Q,z.out.1,m.out.2.mono (λk hk a=>⟨(by show w.heap.size<=k;omega),Nat.lt_of_lt_of_le a m.out.1.size,m.out.1.block k a (λe=>by cases e;omega)⟩)⟩
def tT (N B:Nat) (w':World) (v:Value):Prop:=∃(vo vp vc:Value),v=.agg #[vo,vp,vc]/\sL N B w' vo vp vc
theorem pH.q {N B:Nat}{w':World}{v:Value}(h:pH N B w' v):tT N B w' v:=by
 obtain⟨P,h1,vo,vp,vc,rfl,h2⟩:=h;exact⟨_,_,_,rfl,P,h1,h2.p3⟩
theorem tT.mono {N M B B':Nat}{w':World}{v:Value}(h:tT N B w' v) (b:N<=M) (hB:B'<=B):tT M B' w' v:=by
 obtain⟨vo,vp,vc,rfl,P,h1,h2⟩:=h;exact⟨_,_,_,rfl,P,h1.mono b,h2.mono (λk hk a=>⟨Nat.le_trans hB hk,a,rfl⟩)⟩
theorem sL.shape {N B:Nat}{w':World}{vo vp vc:Value}(h:sL N B w' vo vp vc):∃a n c a2 b c2 e i c3,vo=.slice a n c/\vp=.slice a2 b c2/\vc=.slice e i c3:=by
 obtain⟨Q,_,h2⟩:=h;obtain⟨j,c5,sM,_,_⟩:=h2.o.shape;obtain⟨k,c6,yy,_,_⟩:=Sl.shape h2.p;obtain⟨l,c7,yz,_,_⟩:=Sl.shape h2.c;exact⟨_,_,_,_,_,_,_,_,_,sM,yy,yz⟩
theorem AK {B r:Nat}{w w':World}{vo vp vc:Value}{Q:Pr}(b:w.grownBy w' (some r)) (h:fA (λk=>B<=k/\k≠r) w vo vp vc Q):fA (From B) w' vo vp vc Q:=
 h.mono (λk hk a=>⟨hk.1,Nat.lt_of_lt_of_le a b.size,b.block k a (λe=>hk.2 (by cases e;rfl))⟩)
theorem GC (w:World) (k:Int) (h0:0<=k) (h9:k<10) :
  Calls Tryz.prog 177 #[.int .i64 k] w (fq w (tT 6 w.heap.size)):=by
 have R:=fG.made w 28 (.slice none 0 0) (.slice none 0 0) (.slice none 0 0);have S:Ext w (w.alloc (.cells #[.slice none 0 0,.slice none 0 0,.slice none 0 0] 28)):=World.grownBy_alloc _ _ _;have T:(w.alloc (.cells #[.slice none 0 0,.slice none 0 0,.slice none 0 0] 28)).heap.size=w.heap.size+1:=by simp
 rcases(show k=0\/k=1\/k=2\/k=3\/k=4\/k=5\/k=6\/k=7\/k=8\/k=9 by omega) with rfl|rfl|rfl|rfl|rfl|rfl|rfl|rfl|rfl|rfl
 all_goals
  clear h0 h9;go_enter Tryz.func177,Tryz.ntmps177;go_wp2_with fail
  refine Calls.mono (Nv _ _ (by decide)) ?_;rintro e1 m ⟨v1,rfl,p,vo,vp,vc,c,rfl,hP⟩;obtain⟨a1,u,c1,a2,y,c2,z,A,c3,rfl,rfl,rfl⟩:=hP.shape;have p:=dy (World.grownBy_alloc _ _ _) p;have J:=R.ext p;have D:=dy S p;have ai:=p.size;clear R S p;generalize w.alloc (.cells #[.slice none 0 0,.slice none 0 0,.slice none 0 0] 28)=w0 at *
  have K:∃Q,jK 6 Q/\fA (λk=>w.heap.size<=k/\k≠w.heap.size) m (.slice a1 u c1) (.slice a2 y c2) (.slice z A c3) Q:=by
   obtain⟨Q,q1,q2⟩:=hP;exact⟨Q,q1,q2.mono (λk hk a=>⟨by have hk:_<=k:=hk;simp at hk;omega,a,rfl⟩)⟩
  have ad:w.heap.size+1<=m.heap.size:=by omega
  have ae:=Lib.hid T;clear T hP p;obtain⟨q0,q1,q2,q3,q4⟩:=id J;by_cases Z:c=0
  ·subst Z
   have l:=World.grownBy_alloc (((m.setCell ⟨w.heap.size,0,none⟩ (.slice a1 u c1)).setCell ⟨w.heap.size,1,none⟩ (.slice a2 y c2)).setCell ⟨w.heap.size,2,none⟩ (.slice z A c3)) (.cells #[.slice a1 u c1,.slice a2 y c2,.slice z A c3] 28) none;have q:=(J.all (.slice a1 u c1) (.slice a2 y c2) (.slice z A c3)).ext l;obtain⟨-,z0,z1,z2,-⟩:=id q;have b:=jh m w.heap.size (.slice a1 u c1) (.slice a2 y c2) (.slice z A c3);have L:=Lib.hid (And.intro b (And.intro K l));clear q b K l;go_wp2_with fail
   refine bodyPost_ret (v := .agg #[.slice a1 u c1,.slice a2 y c2,.slice z A c3]) (by simp[results,Tryz.results177,go_sem,z0,z1,z2]) rfl ?_;obtain⟨b,⟨Q,k1,k2⟩,l⟩:=L.out;exact⟨_,rfl,dy (fu D b (λj U a=>by cases U;omega)) l,_,_,_,rfl,Q,k1,(AK b k2).ext l⟩
  ·have ak:(c != 0)=true:=by simp[Z]
   clear Z;have l:Ext m (m.alloc (.cells #[.slice a1 u c1,.slice a2 y c2,.slice z A c3] 28)):=World.grownBy_alloc _ _ _;have V:=fG.made m 28 (.slice a1 u c1) (.slice a2 y c2) (.slice z A c3);have aa:(m.alloc (.cells #[.slice a1 u c1,.slice a2 y c2,.slice z A c3] 28)).heap.size=m.heap.size+1:=by simp
   go_wp2_with fail
   generalize m.alloc (.cells #[.slice a1 u c1,.slice a2 y c2,.slice z A c3] 28)=W at *;have M:Ext W (W.alloc (.cells #[.int .i64 2] 2)):=World.grownBy_alloc _ _ _
   have hL:Ints Any (W.alloc (.cells #[.int .i64 2] 2)) (.slice (some ⟨W.heap.size,0,none⟩) 1 1) [2]:=
    iD (show Own 0 _ _ [2] from World.ownsRow_lit W #[.int .i64 2] 1 (Nat.zero_le _) (by decide) rfl) (by simp) (λ_ _=>trivial)
   rw[aa] at hL;refine Calls.mono (qd _ _ [2] _ hL (by simp)) ?_;rintro e3 Y ⟨v3,rfl,N,vo,vp,vc,rfl,nP⟩;obtain⟨E,c4,F,c5,G,c6,rfl,rfl,rfl⟩:=rB nP;have H:=dy l (dy M N);have B:=J.ext H;have r:=V.ext (dy M N);have X:=dy D H;have ac:fA (λk=>w.heap.size<=k/\k≠w.heap.size) Y (.slice E 1 c4) (.slice F 1 c5) (.slice G 1 c6) (j0 [2]):=nP.p3.mono (λk hk a=>⟨by have hk:_<=k:=hk;simp at hk;omega,a,rfl⟩);have C:fA (λk=>m.heap.size<k) Y (.slice E 1 c4) (.slice F 1 c5) (.slice G 1 c6) (j0 [2]):=nP.p3.mono (λk hk a=>⟨by have hk:_<=k:=hk;simp at hk;omega,a,rfl⟩);clear nP ac hL V K q0 q1 q2 q3 q4 N M;obtain⟨p0,p1,p2,p3,p4⟩:=id r;obtain⟨q0,q1,q2,q3,q4⟩:=id B;have i:=jh Y m.heap.size (.slice E 1 c4) (.slice F 1 c5) (.slice G 1 c6);have I:=r.all (.slice E 1 c4) (.slice F 1 c5) (.slice G 1 c6);have O:=fG.keep B i.size (i.block _ B.1 (λe=>by have:=Option.some.inj e;omega));obtain⟨r0,r1,r2,r3,r4⟩:=id I;obtain⟨s0,s1,s2,s3,s4⟩:=id O;have q:=O.all (.slice E 1 c4) (.slice F 1 c5) (.slice G 1 c6);obtain⟨-,z0,z1,z2,-⟩:=id q;have b:=jh (((Y.setCell ⟨m.heap.size,0,none⟩ (.slice E 1 c4)).setCell ⟨m.heap.size,1,none⟩ (.slice F 1 c5)).setCell ⟨m.heap.size,2,none⟩ (.slice G 1 c6)) w.heap.size (.slice E 1 c4) (.slice F 1 c5) (.slice G 1 c6);have L:=Lib.hid (And.intro i (And.intro b C));clear q b i C B r I O;go_wp2_with fail
   refine bodyPost_ret (v := .agg #[.slice E 1 c4,.slice F 1 c5,.slice G 1 c6]) (by simp[results,Tryz.results177,go_sem,z0,z1,z2]) rfl ?_;obtain⟨i,b,C⟩:=L.out;refine⟨_,rfl,fu (fu X i (λj U a=>by have:=Option.some.inj U;omega)) b (λj U a=>by have:=Option.some.inj U;omega),_,_,_,rfl,j0 [2],vk _ (by simp),C.mono (λk hk a=>⟨(show w.heap.size<=k by omega),?_,?_⟩)⟩
   ·exact Nat.lt_of_lt_of_le a (Nat.le_trans i.size b.size)
   ·exact(b.block k (Nat.lt_of_lt_of_le a i.size) (λe=>by have:=Option.some.inj e;omega)).trans (i.block k a (λe=>by have:=Option.some.inj e;omega))
theorem GD (i:Nat) (h:i<100000):IntKind.i64.wrap ((i:Int)+1)=(i:Int)+1:=IntWalk.i64_in _ (by omega)
theorem GF (i:Nat) (h:i<100000):wrap64 ((i:Int)+1)=(i:Int)+1:=IntWalk.wrap64_in _ (by omega)
theorem Nw (k:Nat) (h:k<100000):IntKind.i64.wrap (((k+1:Nat):Int)-1)=(k:Int):=by
 rw[show((k+1:Nat):Int)-1=(k:Int) by omega];exact IntWalk.i64_in _ (by omega)
theorem Nx (k:Nat) (h:k<100000):wrap64 (((k+1:Nat):Int)-1)=(k:Int):=by
 rw[show((k+1:Nat):Int)-1=(k:Int) by omega];exact IntWalk.wrap64_in _ (by omega)
theorem sN (w:World) (n m r s:Int) (hn:1<=n/\n<=729) (hm:1<=m/\m<=729) (hr:0<=r/\r<30000) (hs:0<=s/\s<=1000000000) :
  Calls Tryz.prog 178 #[.int .i64 n,.int .i64 m,.int .i64 r,.int .i64 s] w (fq w (pH 18 w.heap.size)):=by
 obtain⟨n,rfl⟩:=Int.eq_ofNat_of_zero_le (show 0<=n by omega);obtain⟨m,rfl⟩:=Int.eq_ofNat_of_zero_le (show 0<=m by omega);have aN:∀w',Ext (w.alloc (.cells #[.slice none 0 0,.slice none 0 0,.slice none 0 0] 28)) w'->fG w' w.heap.size (.slice none 0 0) (.slice none 0 0) (.slice none 0 0):=λw' h=>(fG.made w 28 _ _ _).ext h;have aO:Ext w (w.alloc (.cells #[.slice none 0 0,.slice none 0 0,.slice none 0 0] 28)):=World.grownBy_alloc _ _ _;have aP:(w.alloc (.cells #[.slice none 0 0,.slice none 0 0,.slice none 0 0] 28)).heap.size=w.heap.size+1:=by simp
 have S:0<=r%(m:Int):=Int.emod_nonneg _ (by omega);have X:r%(m:Int)<m:=Int.emod_lt_of_pos _ (by omega);obtain⟨pw,ah⟩:∃pw,pw=r%(m:Int):=⟨_,rfl⟩;rw[<-ah] at S X;have bL:(m:Int)≠0:=by omega
 have HN:=Lib.hid (And.intro hn (And.intro hm (And.intro hs (And.intro aN (And.intro aP (And.intro S X))))));clear hn aN aP S X hs hm;go_enter Tryz.func178,Tryz.ntmps178;go_wp2_with fail
 generalize w.alloc (.cells #[.slice none 0 0,.slice none 0 0,.slice none 0 0] 28)=w0 at *;refine Calls.mono (Az w0 n (by have:=HN.out.1;omega)) ?_;rintro e1 w1 ⟨v1,rfl,hg1,a1,c1,t,r1,rfl,ay,aQ,az⟩;go_wp2_with fail
 refine Calls.mono (Az w1 m (by have:=HN.out.2.1;omega)) ?_;rintro e2 w2 ⟨v2,rfl,aA,a2,c2,b,r2,rfl,aR,aS,GG⟩;go_wp2_with fail
 refine Calls.mono (mD w2 _ t _ (Ints.ext (ay.ints (by omega)) aA) (by omega)) ?_;rintro e3 w3 ⟨v3,rfl,aj,aB⟩;go_wp2_with (at_builtin;refine rQ rfl _ _ rfl w2.heap.size v3 t rfl aB _ b rfl _ (Ints.ext (aR.ints (by omega)) aj) (by omega) aj.size ?_;intro v4 F ak aT _)
 have Y:Ext w2 F:=fu aj aT (λj Z u=>by have:=(aB.lt j Z).1;omega);obtain⟨o,ho⟩:∃o,o=t++b:=⟨_,rfl⟩;rw[<-ho] at ak;have aU:o.length=t.length+b.length:=by rw[ho];simp
 have aa:∀i,i<o.length->1<=gt o i/\gt o i<=7:=λi hi=>by
  have aW:gt o i∈t++b:=by rw[<-ho,gM o i hi];exact List.getElem_mem hi
  rcases List.mem_append.1 aW with h|h
  ·have:=az _ h;omega
  ·have:=GG _ h;omega
 clear ho;have HT:=Lib.hid (And.intro aU (And.intro aa (And.intro az (And.intro aQ aS))));clear aU aa az GG aS aQ;have ar:o.length<=18:=by have:=HT.out;omega
 have bN:t.length<=o.length:=by have:=HT.out;omega
 obtain⟨a4,c4,hv4,_⟩:=(ak.ints (by omega)).shape;subst hv4;have bO:=Y.size;have aX:Ints Any F (.slice a4 o.length c4) o:=(ak.ints (by omega)).sub (λ_ _ _=>trivial);refine Calls.mono (qd F _ o _ aX (by omega)) ?_;rintro e5 w5 ⟨v5,rfl,al,vo,vp,vc,rfl,q⟩;obtain⟨W,co,ap,K,T,O,rfl,rfl,rfl⟩:=rB q;go_wp2_with fail
 have aY:Ext w5 (w5.alloc (.cells #[.slice W o.length co,.slice ap o.length K,.slice T o.length O] 28)):=World.grownBy_alloc _ _ _;have e:=BX.start (N:=18) (B:=F.heap.size) (by omega) q aY (fG.made w5 28 (.slice W o.length co) (.slice ap o.length K) (.slice T o.length O)) al.size;have bP:=al.size;generalize w5.alloc (.cells #[.slice W o.length co,.slice ap o.length K,.slice T o.length O] 28)=w6 at *;have aZ:Ext F w6:=dy al aY;have D:Ext w0 F:=dy hg1 (dy aA Y);have bl:Ints Any w1 (.slice a1 t.length c1) t:=(ay.ints (by omega)).sub (λ_ _ _=>trivial);have bm:Ext w1 F:=dy aA Y;clear q al ay aR aB ak aj aT;go_loopw [16] (λiv wr=>∃i:Nat,iv=.int .i64 i/\i<=o.length/\Ext F wr/\BX 18 o F.heap.size w5.heap.size wr (.slice W o.length co) (.slice ap o.length K) (.slice T o.length O)) (λiv _=>o.length-(intOf iv).toNat)
 case atStart=>exact⟨0,rfl,by omega,aZ,e⟩
 case round =>
  clear e aZ;obtain⟨i,rfl,hi,G,e⟩:=hrel;by_cases u:i+1<o.length
  ·have Q:(i:Int)+1<o.length:=by omega
   have a0:i<100000:=by omega
   have bQ:t.length<100000:=by omega
   by_cases hk:(i:Int)=(t.length:Int)-1
   ·skip
    go_wp2;go_roundw
    case rel=>exact⟨i+1,by go_num,by omega,G,e⟩
    case measure=>simp[intOf];omega
   ·obtain ⟨g,cap,z,kM,hgB,pJ,jB,ab,ad⟩:=e.qH i (by omega)
    obtain⟨rfl,rfl⟩:ap=some ⟨g,0,none⟩/\K=cap:=by cases kM;exact⟨rfl,rfl⟩
    clear kM;have e1:∀w',fI wr g w'->w'.cell? ⟨w5.heap.size,1,none⟩=some (.slice (some ⟨g,0,none⟩) o.length K):=λw' h=>h.cell e.box.2.2.1 (by simp;omega)
    have R:∀w,Calls Tryz.prog 167 #[.int .i64 o.length,.int .i64 ((i:Int)+1)] w (fq w λw' v=>Own w.heap.size w' v (fQ o.length (i+1))):=λw=>by
     have h:=uz o.length (i+1) w (by omega) (by omega);rwa [show((i+1:Nat):Int)=(i:Int)+1 by omega] at h
    have a3:(fQ o.length (i+1)).length<=9223372036854775807:=by rw[pG];omega
    have L:=Lib.hid (And.intro e (And.intro ad (And.intro ab a3)));clear e ad ab a3;have bR:(i:Int)<o.length:=by omega
    go_wp2;clear hk;have aC:IntKind.i64.wrap ((i:Int)+1)=(i:Int)+1:=GD _ a0;have aD:wrap64 ((i:Int)+1)=(i:Int)+1:=GF _ a0
    go_region_held3 (λw'=>fI wr g w') (first|exact fI.of (fk _ _)|exact fI.of (by assumption)|exact fI.store (by assumption)|assumption)
     (first
      | (go_at_call 167;refine Calls.mono (Calls.rel (w0:=wr) (by first|exact fk _ _|assumption) (R _)) ?_;rintro eE M ⟨vE,rfl,a,mM,E⟩;obtain⟨aE,cE,jZ,_⟩:=(E.ints L.out.2.2.2).shape;subst jZ;have U:=(L.out.2.2.1 M a).1;have ae:=(L.out.2.2.1 M a).2))
    clear aC aD;have a5:=a.size;have q:=L.out.2.1 M _ (fQ o.length (i+1)) a (gf.of E (by rw[pG];omega) (λk hk _=>Nat.le_trans (by assumption) hk)) (by rw[pG];omega);have C:Ext F (M.setCell ⟨g,i,none⟩ (.slice aE (fQ o.length (i+1)).length cE)):=fu (dy G a) (iG _ _ _ _) (λj Z u=>by cases Z;omega);clear U ae e1;go_wp2;go_roundw
    case rel=>exact⟨i+1,by go_num,by omega,C,q⟩
    case measure=>simp[intOf];omega
  ·have Q:¬((i:Int)+1<o.length):=by omega
   have bn:t.length<=18:=by omega
   have bS:(1:Int)<=m/\(m:Int)<=729:=HN.out.2.1;by_cases bT:t.length=0
   ·have a6:¬(0:Int)<t.length:=by omega
    go_wp2;clear ah;generalize bo:r%(m:Int)=U5;clear bo;go_loopw [18] (λiv wx=>iv=.int .i64 0/\wx=wr) (λ_ _=>0)
    case atStart=>exact⟨rfl,rfl⟩
    case round=>
     obtain⟨rfl,rfl⟩:=hrel;have hz:=HN.out.2.2.2.1 _ (dy D G);obtain⟨h0,h1,h2,h3',h4⟩:=id e.box;obtain⟨k0,k1,k2,k3,k4⟩:=id hz;have hZ:=hz.all (.slice W o.length co) (.slice ap o.length K) (.slice T o.length O);have hT:=jh wr w.heap.size (.slice W o.length co) (.slice ap o.length K) (.slice T o.length O);obtain⟨_,z0,z1,z2,_⟩:=id hZ;have HQ:=Lib.hid (And.intro hT e);clear hT hZ e;go_wp2;refine bodyPost_ret (v := .agg #[.slice W o.length co,.slice ap o.length K,.slice T o.length O]) (by simp[results,Tryz.results178,go_sem,z0,z1,z2]) rfl ?_;have bq:=HN.out.2.2.2.2.1;have br:=D.size;exact⟨_,rfl,fu (dy aO (dy D G)) HQ.out.1 (λj Z u=>by cases Z;omega),(HQ.out.2.ret HQ.out.1 (by omega)).weak (by omega)⟩
   ·have a6:(0:Int)<t.length:=by omega
    obtain⟨kt,V⟩:∃kt,t.length=kt+1:=⟨t.length-1,by omega⟩;obtain⟨g,cap,z,kM,hgB,pJ,jB,ab,ad⟩:=e.qH kt (by omega);obtain⟨rfl,rfl⟩:ap=some ⟨g,0,none⟩/\K=cap:=by cases kM;exact⟨rfl,rfl⟩
    clear kM;have e1:∀w',fI wr g w'->w'.cell? ⟨w5.heap.size,1,none⟩=some (.slice (some ⟨g,0,none⟩) o.length K):=λw' h=>h.cell e.box.2.2.1 (by simp;omega);have aa:=HT.out.2.1
    have H:∀w' (k:Nat) (x:Int),Ext F w'->0<=x->x<=1000000000->Calls Tryz.prog 229 #[.slice a4 o.length c4,.int .i64 k,.int .i64 x] w' (fq w' λaG r=>∃l,l.length=o.length/\Own w'.heap.size aG r l):=λw' k x he h1 h2=>
     MV w' _ o k x Any (aX.ext he) (by omega) aa ⟨h1,h2⟩
    have I:o.length<=9223372036854775807:=by omega
    have bu:(kt:Int)<o.length:=by omega
    have L:=Lib.hid (And.intro e (And.intro ad (And.intro ab (And.intro H (And.intro I V)))));clear e ad ab H aa I V;have aH:=HN.out.2.2.2.2.2;have aI:=HN.out.2.2.1;go_wp2;have au:kt<100000:=by omega
    have V:=L.out.2.2.2.2.2;have aC:IntKind.i64.wrap ((t.length:Int)-1)=(kt:Int):=by rw[V];exact Nw kt au
    have aD:wrap64 ((t.length:Int)-1)=(kt:Int):=by rw[V];exact Nx kt au
    clear V
    go_region_held3 (λw'=>fI wr g w') (first|exact fI.of (fk _ _)|exact fI.of (by assumption)|exact fI.store (by assumption)|assumption)
     (first
      | (go_at_call 229;refine Calls.mono (Calls.rel (w0:=wr) (by first|exact fk _ _|assumption) (L.out.2.2.2.1 _ t.length s (dy G (by first|exact fk _ _|assumption)) aI.1 aI.2)) ?_;rintro eE M ⟨vE,rfl,a,mM,lE,A,E⟩;obtain⟨aE,cE,jZ,_⟩:=(E.ints (by rw[A];exact L.out.2.2.2.2.1)).shape;subst jZ;have U:=(L.out.2.2.1 M a).1;have ae:=(L.out.2.2.1 M a).2))
    clear aC aD;have a5:=a.size;have q:=L.out.2.1 M _ lE a (gf.of E (by rw[A];exact L.out.2.2.2.2.1) (λk hk _=>Nat.le_trans (by assumption) hk)) (by rw[A];exact ar);have C:Ext F (M.setCell ⟨g,kt,none⟩ (.slice aE lE.length cE)):=fu (dy G a) (iG _ _ _ _) (λj Z u=>by cases Z;omega);rw[A] at q C;have H:=L.out.2.2.2.1;have I:=L.out.2.2.2.2.1;have HD:=Lib.hid (And.intro H I);clear H A I L;clear U ae e1 u Q bu hgB pJ jB aI E a a5 mM;go_wp2;rw[<-ah];clear ah;clear hi G;generalize M.setCell ⟨g,kt,none⟩ (.slice aE o.length cE)=w7 at *;go_loopw [17,18] (λpv iv wr=>∃(i:Nat) (p:Int),iv=.int .i64 i/\pv=.int .i64 p/\i<=t.length/\0<=p/\p<30000/\Ext F wr/\BX 18 o F.heap.size w5.heap.size wr (.slice W o.length co) (.slice (some ⟨g,0,none⟩) o.length K) (.slice T o.length O)) (λ_ iv _=>t.length-(intOf iv).toNat)
    case atStart=>exact⟨0,pw,rfl,rfl,by omega,aH.1,by have:=aH.2;omega,C,q⟩
    case round=>
     clear q C aH;obtain⟨i,p,rfl,rfl,hi,S,X,G,e⟩:=hrel;by_cases u:i<t.length
     ·have Q:(i:Int)<t.length:=by omega
      obtain⟨wo,Ny⟩:∃wo:World,wo=wr:=⟨_,rfl⟩;go_wp2;go_loopw [19] (λjv wx=>∃(J:Nat) (y:Int),jv=.int .i64 y/\y=((i+1+J:Nat):Int)/\i+1+J<=o.length/\Ext F wx/\BX 18 o F.heap.size w5.heap.size wx (.slice W o.length co) (.slice (some ⟨g,0,none⟩) o.length K) (.slice T o.length O)) (λjv _=>o.length-(intOf jv).toNat)
      case atStart=>exact⟨t.length-i-1,_,rfl,by omega,by omega,G,e⟩
      case round=>
       clear e G Ny;obtain⟨J,y,rfl,hy,hJ,G,e⟩:=hrel;by_cases bJ:i+1+J<o.length
       ·have bx:y<o.length:=by omega
        have bW:0<=y:=by omega
        obtain⟨gc,ji,b,ba,z2,mL,hcB,oU,U,hcell,tM,AL,hbg,hbl,av,aw⟩:=e.vq i J (by omega) (by omega);obtain⟨rfl,rfl⟩:T=some ⟨gc,0,none⟩/\O=ji:=by cases mL;exact⟨rfl,rfl⟩
        clear mL;have e1:∀w',fI wr b w'->w'.cell? ⟨w5.heap.size,2,none⟩=some (.slice (some ⟨gc,0,none⟩) o.length O):=λw' h=>h.cell e.box.2.2.2.1 (by simp;omega);have e2:∀w',fI wr b w'->w'.cell? ⟨gc,i,none⟩=some (.slice (some ⟨b,0,none⟩) (o.length-1-i) ba):=λw' h=>h.cell hcell (by simp;omega);have bb:=HD.out.1
        have R:∀w',Ext F w'->Calls Tryz.prog 229 #[.slice a4 o.length c4,.int .i64 y,.int .i64 p] w' (fq w' λaG r=>∃l,l.length=o.length/\Own w'.heap.size aG r l):=λw' he=>by
         rw[hy];exact bb w' _ p he S (by omega)
        have HY:=Lib.hid (And.intro e (And.intro aw (And.intro av (And.intro R hy))));clear e aw av R bb hcell;have bX:(J:Int)<((o.length-1-i:Nat):Int):=by omega
        have bY:(i:Int)<o.length:=by omega
        go_wp2;obtain⟨d,hd⟩:∃d,d=y-(i:Int):=⟨_,rfl⟩;have an:IntKind.i64.wrap (y-(i:Int))=d:=by rw[hd];exact IntWalk.i64_in _ (by omega)
        have aq:IntKind.i64.wrap (d-1)=(J:Int):=by rw[show d-1=(J:Int) by omega];exact IntWalk.i64_in _ (by omega)
        have aJ:wrap64 (y-(i:Int))=d:=by rw[hd];exact IntWalk.wrap64_in _ (by clear an aq;omega)
        have bA:wrap64 (d-1)=(J:Int):=by rw[show d-1=(J:Int) by clear an aJ aq;omega];exact IntWalk.wrap64_in _ (by clear an aJ aq;omega)
        clear hd hy
        go_region_held3 (λw'=>fI wr b w') (first|exact fI.of (fk _ _)|exact fI.of (by assumption)|exact fI.store (by assumption)|assumption)
         (first
          | (go_at_call 229;refine Calls.mono (Calls.rel (w0:=wr) (by first|exact fk _ _|assumption) (HY.out.2.2.2.1 _ (dy G (by first|exact fk _ _|assumption)))) ?_;rintro eE M ⟨vE,rfl,a,mM,lE,A,E⟩;obtain⟨aE,cE,jZ,_⟩:=(E.ints (by rw[A];exact HD.out.2)).shape;subst jZ;have U:=(HY.out.2.2.1 M a).1;have ae:=(HY.out.2.2.1 M a).2))
        clear an aJ aq bA;have q:=HY.out.2.1 M _ lE a (gf.of E (by rw[A];exact HD.out.2) (λk hk _=>Nat.le_trans (by assumption) hk)) (by rw[A];exact ar);have C:Ext F (M.setCell ⟨b,J,none⟩ (.slice aE lE.length cE)):=fu (dy G a) (iG _ _ _ _) (λj Z u=>by cases Z;omega);rw[A] at q C;have bd:=HY.out.2.2.2.2;clear U ae e1 e2 A;have HZ:=Lib.hid bd;clear bd;go_wp2;go_roundw
        case rel=>exact⟨J+1,y+1,rfl,by have:=HZ.out;omega,by omega,C,q⟩
        case measure=>have:=HZ.out;simp[intOf];omega
       ·have bx:¬(y<o.length):=by omega
        obtain⟨bt,ot,rfl,_,_,U6⟩:=Ints.at (Ints.ext bl (dy bm G)) i u;have be:2<=gt t i/\gt t i<=7:=HT.out.2.2.1 _ (by rw[gM t i u];exact List.getElem_mem u);have ax:=MX wr p (gt t i) m ⟨S,X⟩ (by omega) (by omega);have HP:=Lib.hid (And.intro be hy);clear be hy;go_wp2_with fail
        refine Calls.mono ax ?_;rintro eP wP ⟨vP,rfl,GH,pn,rfl,Nz,NA⟩;have C:=dy G GH;have bB:=e.ext GH;clear e G ax;go_wp2;go_roundw
        case rel=>exact⟨i+1,pn,by go_num,rfl,by omega,Nz,NA,C,bB⟩
        case measure=>simp[intOf];omega
     ·have Q:¬((i:Int)<t.length):=by omega
      have hz:=HN.out.2.2.2.1 _ (dy D G);obtain⟨h0,h1,h2,h3',h4⟩:=id e.box;obtain⟨k0,k1,k2,k3,k4⟩:=id hz;have hZ:=hz.all (.slice W o.length co) (.slice (some ⟨g,0,none⟩) o.length K) (.slice T o.length O);have hT:=jh wr w.heap.size (.slice W o.length co) (.slice (some ⟨g,0,none⟩) o.length K) (.slice T o.length O);obtain⟨_,z0,z1,z2,_⟩:=id hZ;have HQ:=Lib.hid (And.intro hT e);clear hT hZ e;go_wp2;refine bodyPost_ret (v := .agg #[.slice W o.length co,(.slice (some ⟨g,0,none⟩) o.length K),(.slice T o.length O)]) (by simp[results,Tryz.results178,go_sem,z0,z1,z2]) rfl ?_;have bq:=HN.out.2.2.2.2.1;have br:=D.size;exact⟨_,rfl,fu (dy aO (dy D G)) HQ.out.1 (λj Z u=>by cases Z;omega),(HQ.out.2.ret HQ.out.1 (by omega)).weak (by omega)⟩
theorem BX.by {N:Nat}{o:List Int}{B pb:Nat}{w w':World}{vo vp vc:Value}(h:BX N o B pb w vo vp vc) {r:Option Nat}(b:w.grownBy w' r) (i:∀k,r=some k->k<B):BX N o B pb w' vo vp vc:=by
 obtain⟨P,h1,h2,h3⟩:=h.px;have hB:=h.hB;refine⟨hB,fG.keep h.box b.size (b.block _ h.box.1 (λe=>by have:=i _ e.symm;omega)),P,h1,h2,h3.mono (λk hk a=>⟨hk,Nat.lt_of_lt_of_le a b.size,b.block k a (λe=>by have:=i _ e.symm;have:B<=k:=hk.1;omega)⟩)⟩
def ig (w:World) (s g:Nat) (w':World):Prop:=∀k,k<w.heap.size->k≠s->k≠g->w'.heap[k]? = w.heap[k]?
theorem ig.of {w w':World}{s g:Nat}(h:w.grownBy w' (some s)):ig w s g w':=λk hk a _=>h.block k hk (λe=>a (by cases e;rfl))
theorem ig.ext {w w':World}{s g:Nat}(h:Ext w w'):ig w s g w':=ig.of (fH _ h)
theorem ig.two {w a w':World}{s g:Nat}(h:w.grownBy a (some s)) (b:a.grownBy w' (some g)):ig w s g w':=λk hk i j=>
 (b.block k (Nat.lt_of_lt_of_le hk h.size) (λe=>j (by cases e;rfl))).trans (h.block k hk (λe=>i (by cases e;rfl)))
theorem ig.cell {w w':World}{s g:Nat}(h:ig w s g w') {a:Addr}{v:Value}(i:w.cell? a=some v) (b:a.block≠g) (e:a.block≠s):w'.cell? a=some v:=
 (World.cell?_of_block (h a.block (World.block_lt_of_cell? w a i) e b)).trans i
theorem AO (w:World) (x y z:Int) {B:Nat}(hB:B<=w.heap.size):gf (From B) (w.alloc (.cells #[.int .i64 x,.int .i64 y,.int .i64 z] 2)) (.slice (some ⟨w.heap.size,0,none⟩) 3 3) [x,y,z]:=
 gf.of (Own.of (World.ownsRow_lit w #[.int .i64 x,.int .i64 y,.int .i64 z] 3 hB (by decide) rfl)) (by simp) (λk hk _=>hk)
def qJ (a sb:Nat) (Φ : World->Value->Prop) (w':World) (v:Value):Prop := Φ w' v/\Src a w' sb
theorem NB (B0:Nat) (w:World) (sb:Nat) (p:Int) (au:B0<=w.heap.size) (hs:Src B0 w sb) :
  Calls Tryz.prog 263 #[.pointer (some ⟨sb,0,none⟩),.int .i64 p] w (mA w (some sb) (qJ B0 sb (pH 3 w.heap.size))):=by
 have av:∀w' r,(w.alloc (.cells #[.slice none 0 0,.slice none 0 0,.slice none 0 0] 28)).grownBy w' r->(∀k,r=some k->k≠w.heap.size)->fG w' w.heap.size (.slice none 0 0) (.slice none 0 0) (.slice none 0 0):=λw' r h hr=>
  fG.keep (fG.made w 28 _ _ _) h.size (h.block _ (by simp) (λe=>hr _ e.symm rfl))
 have aK:Ext w (w.alloc (.cells #[.slice none 0 0,.slice none 0 0,.slice none 0 0] 28)):=World.grownBy_alloc _ _ _;have aw:(w.alloc (.cells #[.slice none 0 0,.slice none 0 0,.slice none 0 0] 28)).heap.size=w.heap.size+1:=by simp
 have ax:=hs.lt;have J:=Lib.hid (And.intro av (And.intro aw (And.intro hs ax)));clear av aw hs ax;go_enter Tryz.func263,Tryz.ntmps263;go_wp2_with fail
 generalize w.alloc (.cells #[.slice none 0 0,.slice none 0 0,.slice none 0 0] 28)=w0 at *;have V:=AO w0 p p p (Nat.le_refl _);have ay:Ext w0 (w0.alloc (.cells #[.int .i64 p,.int .i64 p,.int .i64 p] 2)):=World.grownBy_alloc _ _ _;rw[J.out.2.1] at V;obtain⟨o,ho⟩:∃o,o=[p,p,p]:=⟨_,rfl⟩;have az:o.length=3:=by rw[ho];rfl
 rw[<-ho] at V;clear ho;have aX:(w0.alloc (.cells #[.int .i64 p,.int .i64 p,.int .i64 p] 2)).heap.size=w.heap.size+2:=by simp[J.out.2.1]
 generalize w0.alloc (.cells #[.int .i64 p,.int .i64 p,.int .i64 p] 2)=w1 at *;refine Calls.mono (qd w1 _ o _ V.ints (by omega)) ?_;rintro e5 w5 ⟨v5,rfl,L,vo,vp,vc,rfl,qj⟩;obtain⟨W,co,ap,K,ac,M,h1,h2,h3⟩:=rB qj;subst h1 h2 h3;have X:=Lib.hid az;clear az;go_wp2_with fail
 have O:Ext w5 (w5.alloc (.cells #[.slice W o.length co,.slice ap o.length K,.slice ac o.length M] 28)):=World.grownBy_alloc _ _ _;have hX:=BX.start (N:=3) (B:=w1.heap.size) (by have:=X.out;omega) qj O (fG.made w5 28 (.slice W o.length co) (.slice ap o.length K) (.slice ac o.length M)) L.size;have aY:=L.size;generalize w5.alloc (.cells #[.slice W o.length co,.slice ap o.length K,.slice ac o.length M] 28)=A at *;have aM:Ext w A:=dy aK (dy ay (dy L O));have aA:Ext w0 A:=dy ay (dy L O);clear qj V L;obtain⟨gc,ji,b,ql,z2,mL,hcB,oU,Y,C,tM,AL,hbg,hbl,GI,GJ⟩:=hX.vq 0 0 (by have:=X.out;omega) (by have:=X.out;omega);obtain⟨rfl,rfl⟩:ac=some ⟨gc,0,none⟩/\M=ji:=by cases mL;exact⟨rfl,rfl⟩
 clear mL;have q:Ext A (A.alloc (.cells #[.int .i64 0,.int .i64 1,.int .i64 1] 2)):=World.grownBy_alloc _ _ _;have aN:=AO A 0 1 1 (Nat.le_refl _);have c1:=(hX.ext q).box.2.2.2.1;have c2:=q.cell C (by simp);obtain⟨c3,c4⟩:=GI _ q;have k1:=hX.box.2.2.2.1;have aj:=GJ _ _ _ q aN (by simp);have aZ:=q.size;have Z:Ext w ((A.alloc (.cells #[.int .i64 0,.int .i64 1,.int .i64 1] 2)).setCell ⟨b,0,none⟩ (.slice (some ⟨A.heap.size,0,none⟩) 3 3)):=fu (dy aM q) (iG _ _ _ _) (λj D E=>by cases D;omega);have Q:Ext w0 ((A.alloc (.cells #[.int .i64 0,.int .i64 1,.int .i64 1] 2)).setCell ⟨b,0,none⟩ (.slice (some ⟨A.heap.size,0,none⟩) 3 3)):=fu (dy aA q) (iG _ _ _ _) (λj D E=>by cases D;have:=J.out.2.1;omega);clear GJ hX;obtain⟨m,hm⟩:∃m,m=o.length-1-0:=⟨_,rfl⟩;have a0:(0:Int)<m:=by have:=X.out;omega
 have a1:0<o.length:=by have:=X.out;omega
 have a2:1<o.length:=by have:=X.out;omega
 have a3:0<m:=by have:=X.out;omega
 have aP:(0:Int)<o.length:=by have:=X.out;omega
 have a4:(1:Int)<o.length:=by have:=X.out;omega
 rw[<-hm] at C c2;clear hm
 have heq:(A.alloc (.cells #[.int .i64 0,.int .i64 1,.int .i64 1] 2)).setCell ⟨b,0,none⟩ (.slice (some ⟨A.heap.size,0,none⟩) 3 3)=(A.setCell ⟨b,0,none⟩ (.slice (some ⟨A.heap.size,0,none⟩) 3 3)).alloc (.cells #[.int .i64 0,.int .i64 1,.int .i64 1] 2):=by
  simp[go_sem,hbl]
 rw[heq] at aj Z Q
 have i1:∀w',(Instr.indexAt 26 (.slice (some ⟨gc,0,none⟩) o.length M) (.int .i64 0)).run Tryz.prog w'=.ok (.pointer (some ⟨gc,0,none⟩)) w':=λw'=>by
  rw[run_indexAt_slice (h:=by rfl),if_pos ⟨by decide,aP⟩];kernel_rfl
 go_wp2;rw[i1];clear i1;go_wp2_with fail
 generalize (A.setCell ⟨b,0,none⟩ (.slice (some ⟨A.heap.size,0,none⟩) 3 3)).alloc (.cells #[.int .i64 0,.int .i64 1,.int .i64 1] 2)=w7 at *;have a6:=J.out.2.2.2;refine Calls.mono (kZ B0 w7 sb 2 (J.out.2.2.1.ext Z)) ?_;rintro e8 w8 ⟨v8,rfl,aa,x,rfl,hx0,hx1,al⟩;have I:=aj.by aa (λk e=>by cases e;omega)
 have R:=dy (fH (some sb) Z) aa;have F:=dy (fH (some sb) Q) aa;clear aj aa Z Q c1 c2 c3 c4 k1 hx0 hx1 C GI heq;by_cases hx:x=0
 ·subst hx
  go_wp2;obtain⟨g,jL,z,kM,hgB,pJ,jB,hcc,hst⟩:=I.qH 0 (by omega);obtain⟨rfl,rfl⟩:ap=some ⟨g,0,none⟩/\K=jL:=by cases kM;exact⟨rfl,rfl⟩
  clear kM;have e1:∀w',ig w8 sb g w'->w'.cell? ⟨w5.heap.size,1,none⟩=some (.slice (some ⟨g,0,none⟩) o.length K):=λw' h=>h.cell I.box.2.2.1 (by simp;omega) (by simp;omega);have ab:=Lib.hid (And.intro I (And.intro al (And.intro R F)));clear I al R F hcc hst
  go_region_held3 (λw'=>ig w8 sb g w') (first|exact ig.ext (fk _ _)|exact ig.of (by assumption)|exact ig.of q|exact ig.two a (dy (iG _ _ _ _) (fH _ (World.grownBy_alloc _ _ _)))|assumption)
   (first
    | (go_at_call 84;refine Calls.mono (kZ B0 w8.drew sb p (ab.out.2.1.ext (fk _ _))) ?_;rintro e9 i ⟨v9,rfl,a,xa,rfl,hx0,hx1,vu⟩;have a:w8.grownBy i (some sb):=dy (fH (some sb) (fk _ _)) a;have q:w8.grownBy (i.alloc (.cells #[.int .i64 0,.int .i64 0,.int .i64 xa] 2)) (some sb):=dy a (fH _ (World.grownBy_alloc _ _ _));have S:=ab.out.1.by a (λk e=>by cases e;omega);obtain⟨g',NC,z',CY,_,_,_,y,yB⟩:=S.qH 0 (by omega);cases CY;have Y:=(y (i.alloc (.cells #[.int .i64 0,.int .i64 0,.int .i64 xa] 2)) (World.grownBy_alloc _ _ _)).1;have am:=(y (i.alloc (.cells #[.int .i64 0,.int .i64 0,.int .i64 xa] 2)) (World.grownBy_alloc _ _ _)).2))
  have G:=yB _ _ _ (World.grownBy_alloc _ _ _) (AO i 0 0 xa (Nat.le_refl _)) (by simp)
  have hq:(i.alloc (.cells #[.int .i64 0,.int .i64 0,.int .i64 xa] 2)).setCell ⟨g,0,none⟩ (.slice (some ⟨i.heap.size,0,none⟩) 3 3)=(i.setCell ⟨g,0,none⟩ (.slice (some ⟨i.heap.size,0,none⟩) 3 3)).alloc (.cells #[.int .i64 0,.int .i64 0,.int .i64 xa] 2):=by
   simp[go_sem,Nat.lt_of_lt_of_le jB a.size]
  rw[hq] at G;have H:i.grownBy ((i.setCell ⟨g,0,none⟩ (.slice (some ⟨i.heap.size,0,none⟩) 3 3)).alloc (.cells #[.int .i64 0,.int .i64 0,.int .i64 xa] 2)) (some g):=dy (iG _ _ _ _) (fH _ (World.grownBy_alloc _ _ _));have ag:=vu.own H (λk e=>by cases e;omega);have ah:=fu (dy ab.out.2.2.1 a) H (λj D E=>by cases D;omega);have T:=fu (dy ab.out.2.2.2 a) H (λj D E=>by cases D;have:=J.out.2.1;omega);have ad:=G;clear G hq H Y am y yB S q a vu hx0 hx1 e1;go_wp2;generalize (i.setCell ⟨g,0,none⟩ (.slice (some ⟨i.heap.size,0,none⟩) 3 3)).alloc (.cells #[.int .i64 0,.int .i64 0,.int .i64 xa] 2)=wA at *;have aV:=J.out.2.1;obtain⟨g2,jL,z,kM,hgB,pJ,jB,hcc,hst⟩:=ad.qH 1 (by omega);cases kM
  have e1:∀w',ig wA sb g w'->w'.cell? ⟨w5.heap.size,1,none⟩=some (.slice (some ⟨g,0,none⟩) o.length K):=λw' h=>h.cell ad.box.2.2.1 (by simp;omega) (by simp;omega);have ae:=Lib.hid (And.intro ad (And.intro ag (And.intro ah T)));clear ad ag ah T hcc hst
  go_region_held3 (λw'=>ig wA sb g w') (first|exact ig.ext (fk _ _)|exact ig.of (by assumption)|exact ig.of q|exact ig.two a (dy (iG _ _ _ _) (fH _ (World.grownBy_alloc _ _ _)))|assumption)
   (first
    | (go_at_call 84;refine Calls.mono (kZ B0 wA.drew sb p (ae.out.2.1.ext (fk _ _))) ?_;rintro e9 l ⟨v9,rfl,a,xb,rfl,hx0,hx1,vu⟩;have a:wA.grownBy l (some sb):=dy (fH (some sb) (fk _ _)) a;have q:wA.grownBy (l.alloc (.cells #[.int .i64 0,.int .i64 0,.int .i64 xb] 2)) (some sb):=dy a (fH _ (World.grownBy_alloc _ _ _));have S:=ae.out.1.by a (λk e=>by cases e;omega);obtain⟨g',NC,z',CY,_,_,_,y,yB⟩:=S.qH 1 (by omega);cases CY;have Y:=(y (l.alloc (.cells #[.int .i64 0,.int .i64 0,.int .i64 xb] 2)) (World.grownBy_alloc _ _ _)).1;have am:=(y (l.alloc (.cells #[.int .i64 0,.int .i64 0,.int .i64 xb] 2)) (World.grownBy_alloc _ _ _)).2))
  have G:=yB _ _ _ (World.grownBy_alloc _ _ _) (AO l 0 0 xb (Nat.le_refl _)) (by simp)
  have hq:(l.alloc (.cells #[.int .i64 0,.int .i64 0,.int .i64 xb] 2)).setCell ⟨g,1,none⟩ (.slice (some ⟨l.heap.size,0,none⟩) 3 3)=(l.setCell ⟨g,1,none⟩ (.slice (some ⟨l.heap.size,0,none⟩) 3 3)).alloc (.cells #[.int .i64 0,.int .i64 0,.int .i64 xb] 2):=by
   simp[go_sem,Nat.lt_of_lt_of_le jB a.size]
  rw[hq] at G;have H:l.grownBy ((l.setCell ⟨g,1,none⟩ (.slice (some ⟨l.heap.size,0,none⟩) 3 3)).alloc (.cells #[.int .i64 0,.int .i64 0,.int .i64 xb] 2)) (some g):=dy (iG _ _ _ _) (fH _ (World.grownBy_alloc _ _ _));have aR:=vu.own H (λk e=>by cases e;omega);have aD:=fu (dy ae.out.2.2.1 a) H (λj D E=>by cases D;omega);have an:=fu (dy ae.out.2.2.2 a) H (λj D E=>by cases D;have:=J.out.2.1;omega);have aE:=G;clear G hq H Y am y yB S q a vu hx0 hx1 e1;generalize (l.setCell ⟨g,1,none⟩ (.slice (some ⟨l.heap.size,0,none⟩) 3 3)).alloc (.cells #[.int .i64 0,.int .i64 0,.int .i64 xb] 2)=wB at *;have hz:=J.out.1 wB (some sb) an (λk e=>by cases e;have:=J.out.2.2.2.2;omega);obtain⟨h0,h1,h2,h3',h4⟩:=id aE.box;obtain⟨k0,k1,k2,k3,k4⟩:=id hz;have hZ:=hz.all (.slice W o.length co) (.slice (some ⟨g,0,none⟩) o.length K) (.slice (some ⟨gc,0,none⟩) o.length M);have H:=jh wB w.heap.size (.slice W o.length co) (.slice (some ⟨g,0,none⟩) o.length K) (.slice (some ⟨gc,0,none⟩) o.length M);obtain⟨_,z0,z1,z2,_⟩:=id hZ;have U:=Lib.hid (And.intro H (And.intro aE aR));clear H hZ;go_wp2;refine bodyPost_ret (v := .agg #[.slice W o.length co,(.slice (some ⟨g,0,none⟩) o.length K),.slice (some ⟨gc,0,none⟩) o.length M]) (by simp[results,Tryz.results263,go_sem,z0,z1,z2]) rfl ?_;exact⟨_,rfl,fu aD U.out.1 (λj D E=>by cases D;omega),(U.out.2.1.ret U.out.1 (by omega)).weak (by omega),U.out.2.2.own U.out.1 (λk e=>by cases e;exact au)⟩
 ·skip
  have hz:=J.out.1 w8 (some sb) F (λk e=>by cases e;have:=J.out.2.2.2.2;omega);obtain⟨h0,h1,h2,h3',h4⟩:=id I.box;obtain⟨k0,k1,k2,k3,k4⟩:=id hz;have hZ:=hz.all (.slice W o.length co) (.slice ap o.length K) (.slice (some ⟨gc,0,none⟩) o.length M);have H:=jh w8 w.heap.size (.slice W o.length co) (.slice ap o.length K) (.slice (some ⟨gc,0,none⟩) o.length M);obtain⟨_,z0,z1,z2,_⟩:=id hZ;have U:=Lib.hid (And.intro H (And.intro I al));clear H hZ;go_wp2;refine bodyPost_ret (v := .agg #[.slice W o.length co,(.slice ap o.length K),.slice (some ⟨gc,0,none⟩) o.length M]) (by simp[results,Tryz.results263,go_sem,z0,z1,z2]) rfl ?_;exact⟨_,rfl,fu R U.out.1 (λj D E=>by cases D;omega),(U.out.2.1.ret U.out.1 (by omega)).weak (by omega),U.out.2.2.own U.out.1 (λk e=>by cases e;exact au)⟩
theorem yC (x y:Int) (h:x=y) (a:0<=x/\x<=1000):wrap64 x=y/\IntKind.i64.wrap x=y:=⟨by rw[<-h];exact CH x a,by rw[<-h];exact CI x a⟩
theorem vw (w:World) (p n:Int) (rv:Value) (R:List (List Int)) (S:Nat->Prop) (hr:dK S w rv R) (hR:oG R.length R) (hp:1<=p/\p<=7) (hn:1<=n/\n<=729) (cq:R.length<=9) :
  Calls Tryz.prog 264 #[.int .i64 p,rv,.int .i64 n] w (fq w (pH 18 w.heap.size)):=by
 obtain⟨ar,tQ,rfl,_,_⟩:=Sl.shape hr;obtain⟨n,rfl⟩:=Int.eq_ofNat_of_zero_le (show 0<=n by omega);have aU:∀w',Ext (w.alloc (.cells #[.slice none 0 0,.slice none 0 0,.slice none 0 0] 28)) w'->fG w' w.heap.size (.slice none 0 0) (.slice none 0 0) (.slice none 0 0):=λw' h=>(fG.made w 28 _ _ _).ext h;have aV:Ext w (w.alloc (.cells #[.slice none 0 0,.slice none 0 0,.slice none 0 0] 28)):=World.grownBy_alloc _ _ _;have aW:(w.alloc (.cells #[.slice none 0 0,.slice none 0 0,.slice none 0 0] 28)).heap.size=w.heap.size+1:=by simp
 have HN:=Lib.hid (And.intro hn (And.intro hp (And.intro hR (And.intro aU aW))));clear hn aU aW hp hR;go_enter Tryz.func264,Tryz.ntmps264;go_wp2_with fail
 generalize w.alloc (.cells #[.slice none 0 0,.slice none 0 0,.slice none 0 0] 28)=w0 at *;refine Calls.mono (Az w0 n (by have:=HN.out.1;omega)) ?_;rintro e1 w1 ⟨v1,rfl,hg1,a1,c1,t,r1,rfl,ag,U7,aY⟩;go_wp2_with fail
 refine Calls.mono (mD w1 _ t _ (ag.ints (by omega)) (by omega)) ?_;rintro e2 w2 ⟨v2,rfl,hg2,AP⟩;have bK:Ints Any w1 (.slice a1 t.length c1) t:=(ag.ints (by omega)).sub (λ_ _ _=>trivial);have HT:=Lib.hid (And.intro aY ag);clear aY ag;go_wp2_with fail
 go_loopw [9,10] (λov iv wr=>∃(i:Nat) (l:List Int) (v4:Value),v4=ov/\iv=.int .i64 i/\i<=R.length/\l.length=t.length+i/\Ext w1 wr/\Own w1.heap.size wr v4 l) (λ_ iv _=>R.length-(intOf iv).toNat)
 case atStart=>exact⟨0,t,_,rfl,rfl,by omega,rfl,hg2,AP⟩
 case round =>
  clear AP hg2;obtain⟨i,l,v4,rfl,rfl,hi,ab,C,hO⟩:=hrel;by_cases a:i<R.length
  ·have E:(i:Int)<R.length:=by omega
   have aZ:l.length<=1000000:=by omega
   have HL:=Lib.hid (And.intro aZ ab);clear aZ ab;go_wp2_with (first|(at_builtin;refine qB rfl _ _ rfl w1.heap.size v4 l p rfl wr hO rfl rfl HL.out.1 C.size ?_;intro v5 G bL U;have a2:=fu C U (λj hj a=>by have:=(hO.lt j hj).1;omega))|fail)
   go_roundw
   case rel=>exact⟨i+1,_,v5,rfl,by go_num,by omega,by rw[List.length_append,HL.out.2];rfl,a2,bL⟩
   case measure=>simp[intOf];omega
  ·have E : ¬((i:Int)<R.length):=by omega
   have bM:i=R.length:=by omega
   subst bM;obtain⟨o,ho⟩:∃o,o=l:=⟨_,rfl⟩;rw[<-ho] at hO ab;clear ho;have cb:o.length<=18:=by omega
   have cu:t.length<=o.length:=by omega
   obtain⟨a4,c4,hv4,_⟩:=(hO.ints (by omega)).shape;subst hv4;have bN:Ints Any wr (.slice a4 o.length c4) o:=(hO.ints (by omega)).sub (λ_ _ _=>trivial);have cw:=C.size;clear hO;obtain⟨F,hw4⟩:∃F:World,F=wr:=⟨_,rfl⟩;subst hw4;have HO:=Lib.hid ab;clear ab;go_wp2_with fail
   refine Calls.mono (qd F _ o _ bN (by omega)) ?_;rintro e5 G ⟨v5,rfl,U,vo,vp,vc,rfl,I⟩;obtain⟨Z,co,ap,O,V,Q,rfl,rfl,rfl⟩:=rB I;go_wp2_with fail
   have a3:Ext G (G.alloc (.cells #[.slice Z o.length co,.slice ap o.length O,.slice V o.length Q] 28)):=World.grownBy_alloc _ _ _;have y:=BX.start (N:=18) (B:=F.heap.size) (by omega) I a3 (fG.made G 28 (.slice Z o.length co) (.slice ap o.length O) (.slice V o.length Q)) U.size;have bO:=U.size;generalize G.alloc (.cells #[.slice Z o.length co,.slice ap o.length O,.slice V o.length Q] 28)=w6 at *;have a5:Ext F w6:=dy U a3;have T:Ext w0 F:=dy hg1 C;clear I U;go_loopw [13] (λiv wr=>∃i:Nat,iv=.int .i64 i/\i<=t.length/\Ext F wr/\BX 18 o F.heap.size G.heap.size wr (.slice Z o.length co) (.slice ap o.length O) (.slice V o.length Q)) (λiv _=>t.length-(intOf iv).toNat)
   case atStart=>exact⟨0,rfl,by omega,a5,y⟩
   case round =>
    clear y a5;have a6:=C;clear C hi a E;obtain⟨i,rfl,hi,C,y⟩:=hrel;by_cases a:i+1<t.length
    ·have E:(i:Int)+1<t.length:=by omega
     obtain⟨g,cap,z,kM,hgB,pJ,jB,a7,a'⟩:=y.qH i (by omega);obtain⟨rfl,rfl⟩:ap=some ⟨g,0,none⟩/\O=cap:=by cases kM;exact⟨rfl,rfl⟩
     clear kM;have e1:∀w',fI wr g w'->w'.cell? ⟨G.heap.size,1,none⟩=some (.slice (some ⟨g,0,none⟩) o.length O):=λw' h=>h.cell y.box.2.2.1 (by simp;omega)
     have m:∀w,Calls Tryz.prog 167 #[.int .i64 o.length,.int .i64 ((i:Int)+1)] w (fq w λw' v=>Own w.heap.size w' v (fQ o.length (i+1))):=λw=>by
      have h:=uz o.length (i+1) w (by omega) (by omega);rwa [show((i+1:Nat):Int)=(i:Int)+1 by omega] at h
     have bb:(fQ o.length (i+1)).length<=9223372036854775807:=by rw[pG];omega
     have HX:=Lib.hid (And.intro y (And.intro a' (And.intro a7 bb)));clear y a' a7 bb;have cy:(i:Int)<o.length:=by omega
     have bc:i<100000:=by omega
     go_wp2;have bP:IntKind.i64.wrap ((i:Int)+1)=(i:Int)+1:=GD _ bc;have bQ:wrap64 ((i:Int)+1)=(i:Int)+1:=GF _ bc
     go_region_held3 (λw'=>fI wr g w') (first|exact fI.of (fk _ _)|exact fI.of (by assumption)|exact fI.store (by assumption)|assumption)
      (first
       | (go_at_call 167;refine Calls.mono (Calls.rel (w0:=wr) (by first|exact fk _ _|assumption) (m _)) ?_;rintro eE H ⟨vE,rfl,D,mM,ad⟩;obtain⟨aE,cE,jZ,_⟩:=(ad.ints HX.out.2.2.2).shape;subst jZ;have ah:=(HX.out.2.2.1 H D).1;have aD:=(HX.out.2.2.1 H D).2))
     clear bP bQ;have cD:=D.size;have I:=HX.out.2.1 H _ (fQ o.length (i+1)) D (gf.of ad (by rw[pG];omega) (λk hk _=>Nat.le_trans (by assumption) hk)) (by rw[pG];omega);have aF:Ext F (H.setCell ⟨g,i,none⟩ (.slice aE (fQ o.length (i+1)).length cE)):=fu (dy C D) (iG _ _ _ _) (λj hj a=>by cases hj;omega);clear ah aD e1;go_wp2;go_roundw
     case rel=>exact⟨i+1,by go_num,by omega,aF,I⟩
     case measure=>simp[intOf];omega
    ·have E:¬((i:Int)+1<t.length):=by omega
     have bf:Ext w wr:=dy aV (dy T C);have bg:∀x∈R,x.length<=1000000:=λx hx=>by have:=(HN.out.2.2.1 x hx).1;omega
     have m:=yj wr _ R _ (dK.ext hr bf) bg (by omega);clear bg;go_wp2_with fail
     refine Calls.mono m ?_;rintro e8 w8 ⟨v8,rfl,p5,aH⟩;clear m;obtain⟨a8,c8,nZ,_,_⟩:=jm.shape (aH.iB (by omega));subst nZ;have bh:dK (λk=>wr.heap.size<=k/\k<w8.heap.size) w8 (.slice a8 R.length c8) R:=(gY.rows (aH.iB (by omega))).sub (λk hk a=>⟨hk,a⟩)
     have bi:l7 18 o (λk=>F.heap.size<=k/\k≠G.heap.size/\¬(wr.heap.size<=k/\k<w8.heap.size)) G.heap.size w8 (.slice Z o.length co) (.slice ap o.length O) (.slice V o.length Q):=
      (y.f.turn (F':=λk=>F.heap.size<=k/\k≠G.heap.size/\¬(wr.heap.size<=k/\k<w8.heap.size)) (λk hk a=>⟨hk.1,hk.2,by omega⟩) (λh=>h.2.1 rfl)).ext p5
     have an:Ext F w8:=dy C p5;have ce:=p5.size;clear y aH a E hi;go_wp2
     go_loopw [14,15] (λav iv K=>∃(i lo hi:Nat) (aA:Option Addr) (cA:Nat) (A:List (List Int)),av=.slice aA R.length cA/\iv=.int .i64 i/\i<=t.length/\A.length=R.length/\oG R.length A/\hi<=K.heap.size/\dK (λk=>lo<=k/\k<hi) K (.slice aA R.length cA) A/\Ext F K /\
      l7 18 o (λk=>F.heap.size<=k/\k≠G.heap.size/\¬(lo<=k/\k<hi)) G.heap.size K (.slice Z o.length co) (.slice ap o.length O) (.slice V o.length Q)) (λ_ iv _=>t.length-(intOf iv).toNat)
     case atStart=>exact⟨0,wr.heap.size,w8.heap.size,a8,c8,R,rfl,rfl,by omega,rfl,HN.out.2.2.1,Nat.le_refl _,bh,an,bi⟩
     case round=>
      clear bh an bi p5 bf C;obtain⟨i,lo,W,aA,cA,A,rfl,rfl,hi,bk,bl,hhi,hA,C,y⟩:=hrel;by_cases a:i<t.length
      ·have E:(i:Int)<t.length:=by omega
       have HA:=Lib.hid (And.intro bk bl);clear bk bl;go_wp2
       go_loopw [16] (λjv K=>∃j:Nat,jv=.int .i64 j/\j<=R.length/\W<=K.heap.size/\dK (λk=>lo<=k/\k<W) K (.slice aA R.length cA) A/\Ext F K /\
        l7 18 o (λk=>F.heap.size<=k/\k≠G.heap.size/\¬(lo<=k/\k<W)) G.heap.size K (.slice Z o.length co) (.slice ap o.length O) (.slice V o.length Q)) (λjv _=>R.length-(intOf jv).toNat)
       case atStart=>exact⟨0,rfl,by omega,hhi,hA,C,y⟩
       case round=>
        clear y C hA hhi;obtain⟨j,rfl,hj,hhi,hA,C,y⟩:=hrel;by_cases cf:j<R.length
        ·have aI:(j:Int)<R.length:=by omega
         have bn:=HO.out;obtain⟨J,hJ⟩:∃J,J=t.length+j-i-1:=⟨_,rfl⟩;have bT:J<o.length-1-i:=by omega
         obtain⟨gc,ji,b,bo,z2,mL,hcB,oU,ah,hcell,tM,AL,hbg,hbl,aq,au⟩:=y.vq i J (by omega) bT (λk hk=>⟨by have:=C.size;omega,by have:=y.box.1;omega,by omega⟩);obtain⟨rfl,rfl⟩:V=some ⟨gc,0,none⟩/\Q=ji:=by cases mL;exact⟨rfl,rfl⟩
         clear mL;have bp:j<A.length:=by have:=HA.out.1;omega
         obtain⟨ba,oa,az,aw,rfl,bq,_,aJ,aK⟩:=dK.at hA j bp;have ai:=HA.out.2 _ (fT bp);obtain⟨zr,bs⟩:∃zr,zr=gt A j:=⟨_,rfl⟩;rw[<-bs] at aJ aK ai;clear bs;have ci:ba≠b:=λe=>tM.2.2 (e▸bq);have e1:∀w',fI wr b w'->w'.cell? ⟨G.heap.size,2,none⟩=some (.slice (some ⟨gc,0,none⟩) o.length Q):=λw' h=>h.cell y.box.2.2.2.1 (by simp;omega);have e2:∀w',fI wr b w'->w'.cell? ⟨gc,i,none⟩=some (.slice (some ⟨b,0,none⟩) (o.length-1-i) bo):=λw' h=>h.cell hcell (by simp;omega);have e3:∀w',fI wr b w'->w'.cell? ⟨ba,oa+j,none⟩=some (.slice az zr.length aw):=λw' h=>h.cell aJ (by simp;omega)
         have m:∀w',Ext wr w'->Calls Tryz.prog 265 #[.int .i64 t.length,.slice az zr.length aw,.int .i64 0] w' (fq w' λbV r=>∃l,l.length<=18/\Own w'.heap.size bV r l):=λw' he=>
          Calls.mono (x9 w' t.length _ zr 0 _ (Ints.ext aK he) (by have:=ai.1;omega)) (λe w2 ⟨v,h1,h2,h3⟩=>⟨v,h1,h2,_,by simp[x7];have:=ai.1;omega,h3⟩)
         have bu:∀H u,Ext wr H->dK (λk=>lo<=k/\k<W) (H.setCell ⟨b,J,none⟩ u) (.slice (some ⟨ba,oa,none⟩) R.length cA) A:=λH u he=>dK.mono hA (λk hk a=>by
          have hT:wr.grownBy (H.setCell ⟨b,J,none⟩ u) (some b):=dy (fH _ he) (iG _ _ _ _);exact⟨hk,Nat.lt_of_lt_of_le a hT.size,hT.block k a (λe=>tM.2.2 (by cases e;exact hk))⟩)
         have HY:=Lib.hid (And.intro au (And.intro aq (And.intro m bu)));clear au aq m hcell aJ aK bu ai;have cG:(J:Int)<((o.length-1-i:Nat):Int):=by omega
         have cH:(i:Int)<o.length:=by omega
         have M:=yC ((t.length:Int)+j) ((t.length+j:Nat):Int) (by omega) (by omega);have X:=yC (((t.length+j:Nat):Int)-i) ((t.length+j-i:Nat):Int) (by clear M;omega) (by clear M;omega);have aL:=yC (((t.length+j-i:Nat):Int)-1) (J:Int) (by clear M X;omega) (by clear M X;omega);generalize ((t.length+j:Nat):Int)=d1 at M X;generalize ((t.length+j-i:Nat):Int)=d2 at X aL;have HW:=Lib.hid (And.intro M (And.intro X aL));clear M X aL;have cj:=y.box.1;have HJ:=Lib.hid (And.intro bn hJ);clear bn hJ y hA;go_wp2;obtain⟨⟨q1,q2⟩,⟨q3,q4⟩,q5,q6⟩:=HW.out
         go_region_held3 (λw'=>fI wr b w') (first|exact fI.of (fk _ _)|exact fI.of (by assumption)|exact fI.store (by assumption)|assumption)
          (first
           | (go_at_call 265;refine Calls.mono (Calls.rel (w0:=wr) (by first|exact fk _ _|assumption) (HY.out.2.2.1 _ (by first|exact fk _ _|assumption))) ?_;rintro eE H ⟨vE,rfl,D,mM,lE,aM,ad⟩;obtain⟨aE,cE,jZ,_⟩:=(ad.ints (Nat.le_trans aM (by decide))).shape;subst jZ;have ah:=(HY.out.2.1 H D).1;have aD:=(HY.out.2.1 H D).2))
         clear q1 q2 q3 q4 q5 q6;have I:=HY.out.1 H _ lE D (gf.of ad (Nat.le_trans aM (by decide)) (λk hk _=>Nat.le_trans (by assumption) hk)) aM;have bX:=HY.out.2.2.2 H (.slice aE lE.length cE) D;have aF:Ext F (H.setCell ⟨b,J,none⟩ (.slice aE lE.length cE)):=fu (dy C D) (iG _ _ _ _) (λj hj a=>by cases hj;omega);have ax:W<=(H.setCell ⟨b,J,none⟩ (.slice aE lE.length cE)).heap.size:=by have:=D.size;simp;omega
         clear ah aD e1 e2 e3;have HZ:=Lib.hid ax;clear ax;go_wp2;go_roundw
         case rel=>exact⟨j+1,by go_num,by omega,HZ.out,bX,aF,I⟩
         case measure=>simp[intOf];omega
        ·have aI:¬((j:Int)<R.length):=by omega
         obtain⟨bt,ot,rfl,_,_,aN⟩:=Ints.at (Ints.ext bK (dy a6 C)) i a;have bY:2<=gt t i/\gt t i<=7:=HT.out.1 _ (fT a);obtain⟨te,ay⟩:∃te,te=gt t i:=⟨_,rfl⟩;rw[<-ay] at aN bY;clear ay;have bz:=dK.sub hA (S':=Any) (λ_ _ _=>trivial);obtain⟨wo,aO⟩:∃wo:World,wo=wr:=⟨_,rfl⟩;rw[<-aO] at aN bz;have Y:Ext wo wr:=by rw[aO];exact Ext.refl _
         go_wp2
         go_loopw [14,18] (λav tv K=>∃(q aj ae:Nat) (aB:Option Addr) (cB:Nat) (B:List (List Int)),av=.slice aB R.length cB/\tv=.int .i64 q/\1<=q/\q<=7/\B.length=R.length/\oG R.length B/\ae<=K.heap.size/\dK (λk=>aj<=k/\k<ae) K (.slice aB R.length cB) B/\Ext wo K/\Ext F K /\
          l7 18 o (λk=>F.heap.size<=k/\k≠G.heap.size/\¬(aj<=k/\k<ae)) G.heap.size K (.slice Z o.length co) (.slice ap o.length O) (.slice V o.length Q)) (λ_ tv _=>8-(intOf tv).toNat)
         case atStart=>exact⟨1,lo,W,aA,cA,A,rfl,rfl,by omega,by omega,HA.out.1,HA.out.2,hhi,hA,Y,C,y⟩
         case round=>
          clear y C hA hhi Y aO;obtain⟨q,aj,ae,aB,cB,B,rfl,rfl,b0,U8,ak,af,hhi,hB,Y,C,y⟩:=hrel;have aC:=Y.cell aN (by simp);by_cases cL:(q:Int)<te
          ·have m:=Na wr p _ _ B A R.length _ _ hB (dK.ext bz Y) HN.out.2.1 af HA.out.2 (by omega) (by omega)
           have HB:=Lib.hid (And.intro ak af);clear ak af;obtain⟨wp,hwp⟩:∃wp:World,wp=wr:=⟨_,rfl⟩;go_wp2_with fail
           refine Calls.mono m ?_;rintro e9 w9 ⟨v9,rfl,n9,L,aQ,bB,aR⟩;clear m;obtain⟨a9,c9,z6,_,_⟩:=jm.shape (aR.iB (by have:=HB.out.1;omega));rw[aQ,HB.out.1] at z6;subst z6;have b1:=(gY.rows (aR.iB (by have:=HB.out.1;omega))).sub (S':=λk=>wr.heap.size<=k/\k<w9.heap.size) (λk hk a=>⟨hk,a⟩)
           have b2:l7 18 o (λk=>F.heap.size<=k/\k≠G.heap.size/\¬(wr.heap.size<=k/\k<w9.heap.size)) G.heap.size w9 (.slice Z o.length co) (.slice ap o.length O) (.slice V o.length Q):=
            (y.turn (F':=λk=>F.heap.size<=k/\k≠G.heap.size/\¬(wr.heap.size<=k/\k<w9.heap.size)) (λk hk a=>⟨hk.1,hk.2.1,by omega⟩) (λh=>h.2.1 rfl)).ext n9
           have bC:=dy Y n9;have bD:=dy C n9;have ck:=n9.cell aC (by simp);have HL:=Lib.hid (And.intro aQ bB);clear aQ bB;clear aC y n9 hB aR;go_wp2;go_roundw
           case rel=>exact⟨q+1,wr.heap.size,w9.heap.size,a9,c9,L,rfl,by go_num,by omega,by omega,by rw[HL.out.1,HB.out.1],HL.out.2,Nat.le_refl _,b1,bC,bD,b2⟩
           case measure=>simp[intOf];omega
          ·have HB:=Lib.hid (And.intro ak af);clear ak af
           go_wp2;go_roundw
           case rel=>exact⟨i+1,aj,ae,aB,cB,B,rfl,by go_num,by omega,HB.out.1,HB.out.2,hhi,hB,C,y⟩
           case measure=>simp[intOf];omega
      ·have E:¬((i:Int)<t.length):=by omega
       have hz:=HN.out.2.2.2.1 _ (dy T C);clear hA;obtain⟨h0,h1,h2,h3',h4⟩:=id y.box;obtain⟨k0,k1,k2,k3,k4⟩:=id hz;have hZ:=hz.all (.slice Z o.length co) (.slice ap o.length O) (.slice V o.length Q);have hT:=jh wr w.heap.size (.slice Z o.length co) (.slice ap o.length O) (.slice V o.length Q);obtain⟨_,z0,z1,z2,_⟩:=id hZ;have HQ:=Lib.hid (And.intro hT y);clear hT hZ y;go_wp2;refine bodyPost_ret (v := .agg #[.slice Z o.length co,.slice ap o.length O,.slice V o.length Q]) (by simp[results,Tryz.results264,go_sem,z0,z1,z2]) rfl ?_;have b0:=HN.out.2.2.2.2;have cN:=T.size;exact⟨_,rfl,fu (dy aV (dy T C)) HQ.out.1 (λj hj a=>by cases hj;omega),(BX.ret (l7.bx HQ.out.2 bO (λk hk=>hk.1)) HQ.out.1 (by omega)).weak (by omega)⟩
end Go.Proofs.YtoakmefajbbggaaGreat
