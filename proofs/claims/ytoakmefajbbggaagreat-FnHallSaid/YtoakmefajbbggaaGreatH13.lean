/- Merged from templates. -/
import Derived.Test.YtoakmefajbbggaaGreatH12
set_option maxRecDepth 100000
set_option maxHeartbeats 8000000
namespace Go.Proofs.YtoakmefajbbggaaGreat
def nWord (e:List Int):Nat->List Int
 | 0=>[]
 | k+1=>nWord e k++List.replicate (gt e k).toNat ((k:Int)+1)
theorem nWord_len {e:List Int}(h:∀i,gt e i<=7):∀k,(nWord e k).length<=7*k
 | 0=>by simp[nWord]
 | k+1=>by
  have:=nWord_len h k;have:=h k;simp only[nWord,List.length_append,List.length_replicate];omega
section
variable {Q:Pr}(G:Grp Q)
include G
end
end Go.Proofs.YtoakmefajbbggaaGreat
namespace Go.Proofs.YtoakmefajbbggaaGreat
open Go.RowKit
theorem ints_lit (w:World) (y:Int):Ints Any (w.alloc (.cells #[.int .i64 y] 2)) (.slice (some ⟨w.heap.size,0,none⟩) 1 1) [y]:=by
 refine⟨some ⟨w.heap.size,0,none⟩,1,rfl,⟨by simp,by simp,λh=>by cases h⟩,λi a=>⟨w.heap.size,0,.int .i64 y,rfl,trivial,by simp,?_,?_⟩⟩
 ·have:i=0:=by simpa using a
  subst this;rw[World.cell?_alloc_at _ _ _ _ rfl];rfl
 ·have:i=0:=by simpa using a
  subst this;rfl
theorem l07Word_ok (w:World) (v:Value) (e:List Int) (S:Nat->Prop) (M:Ints S w v e) (Y:e.length<=6) (E:∀i,i<e.length->0<=gt e i/\gt e i<=7) :
  Calls Tryz.prog 69 #[v] w (Ret w λw' r=>Own w.heap.size w' r (nWord e e.length)):=by
 obtain⟨a,cap,rfl,_,_⟩:=M.shape
 have C:∀i,gt e i<=7:=λi=>by
  by_cases h:i<e.length
  ·exact(E i h).2
  ·rw[gt_big (by omega)];decide
 have N:=Lib.hid (And.intro C E);clear C E;go_enter Tryz.func69,Tryz.ntmps69;go_wp2;go_loopw [3,4] (λF G wr=>∃(i:Nat) (D:Value),D=F/\G=.int .i64 i/\i<=e.length/\Ext w wr/\Own w.heap.size wr D (nWord e i)) (λ_ G _=>e.length-(intOf G).toNat)
 case atStart=>exact⟨0,_,rfl,rfl,by omega,World.grownBy_alloc _ _ _,World.ownsRow_lit w #[] 0 (Nat.le_refl _) (by decide) rfl⟩
 case round=>
  obtain⟨i,D,rfl,rfl,hi,hg,hO⟩:=hrel;by_cases m:i<e.length
  ·have O:(i:Int)<e.length:=by omega
   obtain⟨b,off,rfl,_,_,Q⟩:=Ints.at M i m;obtain⟨x,hx⟩:∃x,x=(gt e i).toNat:=⟨_,rfl⟩;have H:=N.out.2 i m;have p:gt e i=(x:Int):=by omega
   have V:x<=7:=by omega
   have q:nWord e (i+1)=nWord e i++List.replicate x ((i:Int)+1):=by rw[nWord,hx]
   have u:=nWord_len N.out.1 i;rw[p] at Q;have R:=Lib.hid (And.intro q u);clear q u H p hx;go_wp2;have y:Own w.heap.size wr D (nWord e i++List.replicate 0 ((i:Int)+1)):=by simpa using hO
   clear hO;go_loopw [3,5] (λF kv wr=>∃(k:Nat) (v4:Value),v4=F/\kv=.int .i64 k/\k<=x/\Ext w wr/\Own w.heap.size wr v4 (nWord e i++List.replicate k ((i:Int)+1))) (λ_ kv _=>x-(intOf kv).toNat)
   case atStart=>exact⟨0,_,rfl,rfl,by omega,hg,y⟩
   case round=>
    clear y hg;obtain⟨k,v4,rfl,rfl,hk,hg,hO⟩:=hrel;have z:=hg.cell Q (by simp);by_cases T:k<x
    ·have I:(k:Int)<x:=by omega
     have j:(nWord e i++List.replicate k ((i:Int)+1)).length<=1000:=by rw[List.length_append,List.length_replicate];have:=R.out.2;omega
     have W:=Lib.hid j;clear j;go_wp2_with (first|(at_builtin;refine wp_app_ints rfl _ _ rfl w.heap.size v4 _ rfl (hO.ext0 (World.grownBy_alloc _ _ _)) _ _ rfl Any (ints_lit wr _) (by have:=W.out;simp only[List.length_cons,List.length_nil];omega) (by have:=hg.size;simp;omega) ?_;intro X U A B _)|fail)
     have l:wr.grownBy U v4.ownBlock:=grown_trans (grown_of_ext _ (World.grownBy_alloc _ _ _)) B;have J:Ext w U:=grown_own hg l (λb C m=>by have:=(hO.lt b C).1;omega);rw[List.append_assoc,<-List.replicate_succ'] at A;clear hO B l z;go_roundw
     case rel=>exact⟨k+1,X,rfl,by go_num,by omega,J,A⟩
     case measure=>simp[intOf];omega
    ·have K:k=x:=by omega
     subst K;rw[<-R.out.1] at hO;go_wp2;clear z;go_roundw
     case rel=>exact⟨i+1,v4,rfl,by go_num,by omega,hg,hO⟩
     case measure=>simp[intOf];omega
  ·have L:i=e.length:=by omega
   subst L;go_wp2;go_ret;exact⟨_,rfl,hg,hO⟩
end Go.Proofs.YtoakmefajbbggaaGreat
namespace Go.Proofs.YtoakmefajbbggaaGreat
open Go.RowKit
attribute [local go_sem ↓] Go.wp_at_zero Go.wp_at_succ
theorem Own.ints' {B:Nat}{w:World}{v:Value}{l:List Int}(h:Own B w v l) (a:l.length<=1000000):Ints Any w v l:=ints_of_own h (by omega) (λ_ _=>trivial)
theorem strOfNums_app (a b:List Int):strOfNums (a++b)=strOfNums a++strOfNums b:=by
 apply ByteArray.ext;simp[strOfNums,ByteArray.data_append]
def ordT (o:List Int):Nat->List Int
 | 0=>[]
 | k+1=>ordT o k++((if 0<k then [32] else [])++[48+gt o k])
def powE (P:Pr) (k:Nat):List Int:=[59,32]++([97+(k:Int)]++([94]++([48+gt P.orders k]++([61]++wtx (nWord (gt P.powers k) P.orders.length)))))
def powT (P:Pr):Nat->List Int
 | 0=>[]
 | k+1=>powT P k++(if isZeroB (gt P.powers k) then [] else powE P k)
def cnjE (P:Pr) (i k:Nat):List Int:=[59,32]++([97+((i+1+k:Nat):Int)]++([94]++([97+(i:Int)]++([61]++wtx (nWord (gt (gt P.conj i) k) P.orders.length)))))
def cnjR (P:Pr) (i:Nat):Nat->List Int
 | 0=>[]
 | k+1=>cnjR P i k++(if eqB (gt (gt P.conj i) k) (unitV P.orders.length (i+1+k)) then [] else cnjE P i k)
def cnjT (P:Pr):Nat->List Int
 | 0=>[]
 | i+1=>cnjT P i++cnjR P i (P.orders.length-1-i)
def textP (P:Pr):List Int:=if P.orders.length=0 then [49] else ordT P.orders P.orders.length++(powT P P.orders.length++cnjT P P.orders.length)
theorem nWord_mem {e:List Int}{n:Nat}{x:Int}(h:x∈nWord e n):1<=x/\x<=n:=by
 induction n with
 | zero=>simp[nWord] at h
 | succ n a=>
  rcases List.mem_append.1 h with h|h
  ·have:=a h;omega
  ·have:=List.eq_of_mem_replicate h;omega
theorem ordT_len (o:List Int):∀k,(ordT o k).length<=2*k
 | 0=>by simp[ordT]
 | k+1=>by
  have:=ordT_len o k;simp only[ordT,List.length_append,List.length_singleton];split<;>simp<;>omega
section
variable {P:Pr}(hP:Valid P)
include hP
theorem vec7 {e:List Int}(a:Vec P.orders e):∀i,gt e i<=7:=λi=>by
 by_cases h:i<P.orders.length
 ·have:=a.2 i h;have:=hP.ord7 i h;omega
 ·rw[show gt e i=0 by simp[gt,show e.length<=i by rw[a.1];omega]];omega
theorem wtx_bd {e:List Int}(a:Vec P.orders e):(wtx (nWord e P.orders.length)).length<=43:=by
 have b:=hP.n6;refine wtx_len _ 42 (Nat.le_trans (nWord_len (λi => ?_) _) (by omega));by_cases h:i<P.orders.length
 ·have:=a.2 i h;have:=hP.ord7 i h;omega
 ·rw[show gt e i=0 by simp[gt,show e.length<=i by rw[a.1];omega]];omega
theorem powT_len:∀k,k<=P.orders.length->(powT P k).length<=50*k
 | 0,_=>by simp[powT]
 | k+1,h=>by
  have h1:=powT_len k (by omega);have a:=wtx_bd hP (hP.pv k (by omega)).1;simp only[powT,List.length_append];split
  ·simp;omega
  ·simp only[powE,List.length_append,List.length_cons,List.length_nil];omega
theorem cnjR_len {i:Nat}(a:i<P.orders.length):∀k,k<=P.orders.length-1-i->(cnjR P i k).length<=50*k
 | 0,_=>by simp[cnjR]
 | k+1,h=>by
  have h1:=cnjR_len a k (by omega);have b:=wtx_bd hP ((hP.cv i a).2 k (by omega)).1;simp only[cnjR,List.length_append];split
  ·simp;omega
  ·simp only[cnjE,List.length_append,List.length_cons,List.length_nil];omega
theorem cnjT_len:∀i,i<=P.orders.length->(cnjT P i).length<=300*i
 | 0,_=>by simp[cnjT]
 | i+1,h=>by
  have h1:=cnjT_len i (by omega);have a:=cnjR_len hP (show i<P.orders.length by omega) (P.orders.length-1-i) (Nat.le_refl _);have:=hP.n6;simp only[cnjT,List.length_append];omega
end
theorem l07Text_ok (P:Pr) (hP:Valid P) (w:World) (pv:Value) (S:Nat->Prop) (z:PresV S w pv P) :
  Calls Tryz.prog 273 #[pv] w (Ret w λ_ r=>r=.string (strOfNums (textP P))):=by
 have bw:=hP.n6;obtain⟨vo,vp,vc,rfl,h3⟩:=z;have aP:=PresP.box h3 28;have aF:Ext w (w.alloc (.cells #[vo,vp,vc] 28)):=World.grownBy_alloc _ _ _;obtain⟨bx,vp6,vc6,_,_,hc0,ak,al,F⟩:=aP.at;simp only[Nat.zero_add] at ak al;obtain⟨ao,co,rfl,_,_⟩:=F.o.shape;obtain⟨ap,cp,aG,_,_⟩:=Sl.shape F.p;obtain⟨ac,cc,aH,_,_⟩:=Sl.shape F.c;rw[hP.pl] at aG;rw[hP.cl] at aH;subst aG aH;by_cases hn:P.orders.length=0
 ·have ht:textP P=[49]:=by unfold textP;rw[if_pos hn]
  have aQ:((P.orders.length:Int) == 0)=true:=by rw[hn];rfl
  have HT:=Lib.hid ht;clear ht;go_enter Tryz.func273,Tryz.ntmps273;go_wp2;go_ret;exact⟨_,rfl,aF,by rw[HT.out];rfl⟩
 have ht:textP P=ordT P.orders P.orders.length++(powT P P.orders.length++cnjT P P.orders.length):=by unfold textP;rw[if_neg hn]
 have aQ:((P.orders.length:Int) == 0)=false:=by simp;intro h;exact hn (by rw[h];rfl)
 have HT:=Lib.hid (And.intro ht hn);clear ht hn;go_enter Tryz.func273,Tryz.ntmps273;go_wp2;generalize w.alloc (.cells #[vo,vp,vc] 28)=w0 at *;have am:∀w',Ext w0 w'->w'.cell? ⟨w.heap.size,0,none⟩=some (.slice ao P.orders.length co):=λw' h=>h.cell hc0 (by simp);have an:∀w',Ext w0 w'->w'.cell? ⟨w.heap.size,1,none⟩=some (.slice ap P.orders.length cp):=λw' h=>h.cell ak (by simp);have aJ:∀w',Ext w0 w'->w'.cell? ⟨w.heap.size,2,none⟩=some (.slice ac P.orders.length cc):=λw' h=>h.cell al (by simp);have HB:=Lib.hid (And.intro am (And.intro an aJ));clear am an aJ hc0 ak al;go_loopw [4,5] (λov L wr=>∃(i:Nat),ov=.string (strOfNums (ordT P.orders i))/\L=.int .i64 i/\i<=P.orders.length/\Ext w0 wr) (λ_ L _=>P.orders.length-(intOf L).toNat)
 case atStart=>exact⟨0,rfl,rfl,by omega,Ext.refl _⟩
 case round =>
  obtain⟨i,rfl,rfl,hi,u⟩:=hrel;have G:=ordT_len P.orders i;by_cases b:i<P.orders.length
  ·have ag:(i:Int)<P.orders.length:=by omega
   obtain⟨bo,oo,rfl,_,_,H⟩:=Ints.at (Ints.ext F.o u) i b;have h7:=hP.ord7 i b;have am:=HB.out.1 wr u;obtain⟨y,hy⟩:∃y,y=gt P.orders i:=⟨_,rfl⟩;have A:ordT P.orders (i+1)=ordT P.orders i++((if 0<i then [32] else [])++[48+y]):=by rw[hy];rfl
   rw[<-hy] at H h7;obtain⟨l,E⟩:∃l,l=ordT P.orders i:=⟨_,rfl⟩;rw[<-E] at A G;have aL:l.length<=1000:=by omega
   have a:=Lib.hid (And.intro A (And.intro E hy));clear A hy E G;rw[show strOfNums (ordT P.orders i)=strOfNums l by rw[a.out.2.1]];have bB:=strOfNums_size l;rcases hb:decide (0<i) with _|_
   ·have q:strOfNums (ordT P.orders (i+1))=strOfNums l++strOfNums [48+y]:=by
     have:¬ 0<i:=by simpa using hb
     rw[a.out.1,if_neg this,List.nil_append,strOfNums_app]
    have HN:=Lib.hid q;clear q;go_wp2_with fail
    refine Calls.mono (l01Dec_ok wr y (by omega) (by omega)) ?_;rintro e1 w1 ⟨v1,rfl,hg1,rfl⟩;have M:=strOfNums_size [48+y];clear H;go_wp2_with fail
    go_roundw
    case rel=>exact⟨i+1,by rw[HN.out],by go_num,by omega,grown_trans u hg1⟩
    case measure=>simp[intOf];omega
   ·have q:strOfNums (ordT P.orders (i+1))=strOfNums l++⟨#[32]⟩++strOfNums [48+y]:=by
     have:0<i:=by simpa using hb
     rw[a.out.1,if_pos this,strOfNums_app,strOfNums_app,ByteArray.append_assoc];rfl
    have HN:=Lib.hid q;clear q;go_wp2_with fail
    refine Calls.mono (l01Dec_ok wr y (by omega) (by omega)) ?_;rintro e1 w1 ⟨v1,rfl,hg1,rfl⟩;have M:=strOfNums_size [48+y];clear H;go_wp2_with fail
    go_roundw
    case rel=>exact⟨i+1,by rw[HN.out],by go_num,by omega,grown_trans u hg1⟩
    case measure=>simp[intOf];omega
  ·have N : i=P.orders.length:=by omega
   subst N;go_wp2;clear b G;have O:=u;clear u;go_loopw [4,6] (λov L wr=>∃(i:Nat),ov=.string (strOfNums (ordT P.orders P.orders.length++powT P i))/\L=.int .i64 i/\i<=P.orders.length/\Ext w0 wr) (λ_ L _=>P.orders.length-(intOf L).toNat)
   case atStart=>exact⟨0,by rw[show powT P 0=[] from rfl,List.append_nil],rfl,by omega,O⟩
   case round =>
    clear O;obtain⟨i,rfl,rfl,hi,u⟩:=hrel;have G:=ordT_len P.orders P.orders.length;have au:=powT_len hP i hi;by_cases b:i<P.orders.length
    ·have ag:(i:Int)<P.orders.length:=by omega
     obtain⟨bp,op,ae,ce,rfl,_,_,Z,B⟩:=Rows2.at (Rows2.ext F.p u) i (by rw[hP.pl];exact b);have an:=HB.out.2.1 wr u;have z:=(hP.pv i b).1;obtain⟨e,Q⟩:∃e,e=gt P.powers i:=⟨_,rfl⟩;rw[<-Q] at Z B z;have J:=z.1;obtain⟨l,E⟩:∃l,l=ordT P.orders P.orders.length++powT P i:=⟨_,rfl⟩;have aL:l.length<=1000:=by rw[E,List.length_append];omega
     rw[<-E];rcases hz:isZeroB e with _|_
     ·have A:ordT P.orders P.orders.length++powT P (i+1)=l++powE P i:=by
       rw[E,List.append_assoc,powT,<-Q,hz];rfl
      obtain⟨bo,oo,rfl,_,_,H⟩:=Ints.at (Ints.ext F.o u) i b;have h7:=hP.ord7 i b;have R:=wtx_bd hP z;have C:powE P i=[59,32]++([97+(i:Int)]++([94]++([48+gt P.orders i]++([61]++wtx (nWord e P.orders.length))))):=by rw[Q];rfl
      obtain⟨y,hy⟩:∃y,y=gt P.orders i:=⟨_,rfl⟩;rw[<-hy] at H h7 C;obtain⟨W,K⟩:∃W,W=nWord e P.orders.length:=⟨_,rfl⟩;have T:W.length<=42:=by rw[K];exact Nat.le_trans (nWord_len (vec7 hP z) _) (by omega)
      have U:∀x∈W,-26<=x/\x<=26:=by rw[K];exact λx hx=>by have:=nWord_mem hx;omega
      rw[<-K] at C R
      have q:strOfNums (ordT P.orders P.orders.length++powT P (i+1))=strOfNums l++⟨#[59,32]⟩++strOfNums [97+(i:Int)]++⟨#[94]⟩++strOfNums [48+y]++⟨#[61]⟩++strOfNums (wtx W):=by
       rw[A,C];simp only[strOfNums_app,ByteArray.append_assoc];rfl
      have V:∀j,j<e.length->0<=gt e j/\gt e j<=7:=λj hj=>by have:=z.2 j (by omega);have:=hP.ord7 j (by omega);omega
      have a:=Lib.hid (And.intro q (And.intro T (And.intro U (And.intro V (And.intro J K)))));clear A z Q E J G au C hy K T U q V;have I:=l01Zero_ok _ e wr _ B;rw[hz] at I;clear hz;go_wp2_with fail
      refine Calls.mono I ?_;rintro _ _ ⟨rfl,rfl⟩;clear I;have ai:=Z;clear Z;have e0:∀w',Ext wr w'->w'.cell? ⟨w.heap.size,0,none⟩=some (.slice (some ⟨bo,oo,none⟩) P.orders.length co):=λw' h=>HB.out.1 w' (grown_trans u h);have e1:∀w',Ext wr w'->w'.cell? ⟨w.heap.size,1,none⟩=some (.slice (some ⟨bp,op,none⟩) P.orders.length cp):=λw' h=>HB.out.2.1 w' (grown_trans u h);have e2:∀w',Ext wr w'->w'.cell? ⟨bo,oo+i,none⟩=some (.int .i64 y):=λw' h=>h.cell H (by simp);have e3:∀w',Ext wr w'->w'.cell? ⟨bp,op+i,none⟩=some (.slice ae e.length ce):=λw' h=>h.cell ai (by simp);have z0:=strOfNums_size l;have z1:=strOfNums_size [97+(i:Int)];have z2:=strOfNums_size [48+y];have z3:=strOfNums_size (wtx W);have q1:¬ 9223372036854775807<l.length+2:=by omega
      have q2:¬ 9223372036854775807<l.length+2+1:=by omega
      have q3:¬ 9223372036854775807<l.length+2+1+1:=by omega
      have q4:¬ 9223372036854775807<l.length+2+1+1+1:=by omega
      have q5:¬ 9223372036854775807<l.length+2+1+1+1+1:=by omega
      have q6:¬ 9223372036854775807<l.length+2+1+1+1+1+(wtx W).length:=by omega
      clear H ai;go_wp2_with fail
      go_region_held3 (λw'=>Ext wr w') (first|exact grown_drew _ _|assumption)
       (first
        | (go_at_call 295;refine Calls.mono (Calls.rel (w0:=wr) (by assumption) (l06Text_ok _ _ W Any av a.out.2.2.1 (by have:=a.out.2.1;omega))) ?_;rintro eD wD ⟨vD,rfl,hgD,hsD,rfl⟩)
        | (go_at_call 69;refine Calls.mono (Calls.rel (w0:=wr) (by assumption) (l07Word_ok _ _ e Any (Ints.sub (Ints.ext B (by assumption)) (λ_ _ _=>trivial)) (by have:=a.out.2.2.2.2.1;omega) a.out.2.2.2.1)) ?_;rintro eC wC ⟨vC,rfl,hgC,hsC,hOC⟩;rw[a.out.2.2.2.2.1,<-a.out.2.2.2.2.2] at hOC;have av:Ints Any wC vC W:=hOC.ints' (by have:=a.out.2.1;omega))
        | (go_at_call 293;refine Calls.mono (Calls.rel (w0:=wr) (by assumption) (l01Dec_ok _ y (by omega) (by omega))) ?_;rintro eB wB ⟨vB,rfl,X,hsB,rfl⟩)
        | (go_at_call 294;refine Calls.mono (Calls.rel (w0:=wr) (by first|exact grown_drew _ _|assumption) (l07Letter_ok _ i (by omega))) ?_;rintro eA wA ⟨vA,rfl,hgA,hsA,rfl⟩))
      clear e0 e1 e2 e3 z0 z1 z2 z3 q1 q2 q3 q4 q5 q6;go_wp2;go_roundw
      case rel=>exact⟨i+1,by rw[a.out.1],by go_num,by omega,grown_trans u hgD⟩
      case measure=>simp[intOf];omega
     ·have A:ordT P.orders P.orders.length++powT P (i+1)=l:=by
       rw[E,powT,<-Q,hz];simp
      have a:=Lib.hid (And.intro A (And.intro z (And.intro Q E)));clear A z Q E J G au;have I:=l01Zero_ok _ e wr _ B;rw[hz] at I;clear hz;go_wp2_with fail
      refine Calls.mono I ?_;rintro _ _ ⟨rfl,rfl⟩;clear I Z;go_wp2_with fail
      go_roundw
      case rel=>exact⟨i+1,by rw[a.out.1],by go_num,by omega,u⟩
      case measure=>simp[intOf];omega
    ·have N : i=P.orders.length:=by omega
     subst N;go_wp2;clear b G au;have O:=u;clear u;obtain⟨l0,aa⟩:∃l0,l0=ordT P.orders P.orders.length++powT P P.orders.length:=⟨_,rfl⟩
     have bq:l0.length<=400:=by
      have h1:=ordT_len P.orders P.orders.length;have h2:=powT_len hP P.orders.length (Nat.le_refl _);rw[aa,List.length_append];omega
     rw[<-aa];have a7:=Lib.hid aa;clear aa;go_loopw [4,7] (λov L wr=>∃(i:Nat),ov=.string (strOfNums (l0++cnjT P i))/\L=.int .i64 i/\i<=P.orders.length/\Ext w0 wr) (λ_ L _=>P.orders.length-(intOf L).toNat)
     case atStart=>exact⟨0,by rw[show cnjT P 0=[] from rfl,List.append_nil],rfl,by omega,O⟩
     case round=>
      clear O;obtain⟨i,rfl,rfl,hi,u⟩:=hrel;by_cases b:i<P.orders.length
      ·have ag:(i:Int)<P.orders.length:=by omega
       obtain⟨wo,rfl⟩:∃wo:World,wo=wr:=⟨_,rfl⟩;have a8:=cnjT_len hP i hi;obtain⟨l1,ab⟩:∃l1,l1=l0++cnjT P i:=⟨_,rfl⟩;have bs:l1.length<=2200:=by rw[ab,List.length_append];omega
       rw[<-ab];have a9:=Lib.hid ab;clear ab a8;go_wp2;go_loopw [4,8] (λov jv wr=>∃(k j:Nat),ov=.string (strOfNums (l1++cnjR P i k))/\jv=.int .i64 j/\Hid (j=i+1+k/\k<=P.orders.length-1-i)/\j<=P.orders.length/\Ext w0 wr) (λ_ jv _=>P.orders.length-(intOf jv).toNat)
       case atStart=>exact⟨0,i+1,by rw[show cnjR P i 0=[] from rfl,List.append_nil],by go_num,Lib.hid ⟨rfl,by omega⟩,by omega,u⟩
       case round=>
        have bM:=u;clear u;obtain⟨k,j,rfl,rfl,HJ,hj,u⟩:=hrel;by_cases aN:j<P.orders.length
        ·have ax:(j:Int)<P.orders.length:=by omega
         have hk:k<P.orders.length-1-i:=by have:=HJ.out;omega
         obtain⟨bc,oc,ar,cr,rfl,_,_,ad,hrr⟩:=Rows3.at (Rows3.ext F.c u) i (by rw[hP.cl];exact b);have af:=(hP.cv i b).1;have Y:=(hP.cv i b).2 k hk;rw[af] at ad;obtain⟨be,oe,ae,ce,rfl,_,_,ay,B⟩:=Rows2.at hrr k (by rw[af];exact hk);obtain⟨e,Q⟩:∃e,e=gt (gt P.conj i) k:=⟨_,rfl⟩;rw[<-Q] at ay B Y;have J:=Y.1.1;have R:=wtx_bd hP Y.1;have ba:=cnjR_len hP b k (by omega);have aO:=HJ.out.1;obtain⟨l,E⟩:∃l,l=l1++cnjR P i k:=⟨_,rfl⟩;have aL:l.length<=3000:=by rw[E,List.length_append];omega
         rw[<-E];obtain⟨m,hm⟩:∃m,m=P.orders.length-1-i:=⟨_,rfl⟩;rw[<-hm] at ad hk;have bN:(k:Int)<m:=by omega
         have M:IntKind.i64.wrap ((j:Int)-(i:Int))=(k:Int)+1:=by rw[show(j:Int)-(i:Int)=(k:Int)+1 by omega];exact IntWalk.i64_in _ (by omega)
         have az:IntKind.i64.wrap (k:Int)=(k:Int):=IntWalk.i64_in _ (by omega);have e0:∀w',Ext wr w'->w'.cell? ⟨w.heap.size,2,none⟩=some (.slice (some ⟨bc,oc,none⟩) P.orders.length cc):=λw' h=>HB.out.2.2 w' (grown_trans u h);have e1:∀w',Ext wr w'->w'.cell? ⟨bc,oc+i,none⟩=some (.slice (some ⟨be,oe,none⟩) m cr):=λw' h=>h.cell ad (by simp);have e2:∀w',Ext wr w'->w'.cell? ⟨be,oe+k,none⟩=some (.slice ae e.length ce):=λw' h=>h.cell ay (by simp);have a:=Lib.hid (And.intro J (And.intro Y (And.intro Q (And.intro E (And.intro hm (And.intro R (And.intro aO af)))))));clear J Y Q E hm R ba aO af ad ay;have HE:=Lib.hid (And.intro e0 (And.intro e1 e2));go_wp2
         go_region_held3 (λw'=>Ext wr w') (first|exact grown_drew _ _|assumption)
          (first
           | (go_at_call 275;refine Calls.mono (Calls.rel (w0:=wr) (by assumption) (l01Same_ok _ _ e (unitV P.orders.length j) _ Any Any (Ints.sub (Ints.ext B (by assumption)) (λ_ _ _=>trivial)) bf)) ?_;rintro eB wB ⟨vB,rfl,X,hsB,rfl⟩)
           | (go_at_call 167;refine Calls.mono (Calls.rel (w0:=wr) (by first|exact grown_drew _ _|assumption) (l07Unit_ok P.orders.length j _ aN (by omega))) ?_;rintro eA wA ⟨vA,rfl,hgA,hsA,hOA⟩;have bf:Ints Any wA vA (unitV P.orders.length j):=hOA.ints' (by rw[unitV_len];omega)))
         clear e0 e1 e2 M az;rcases hq:eqB e (unitV P.orders.length j) with _|_
         ·have C:cnjE P i k=[59,32]++([97+(j:Int)]++([94]++([97+(i:Int)]++([61]++wtx (nWord e P.orders.length))))):=by
           unfold cnjE;rw[<-a.out.2.2.1,<-a.out.2.2.2.2.2.2.1]
          obtain⟨W,K⟩:∃W,W=nWord e P.orders.length:=⟨_,rfl⟩;rw[<-K] at C;have T:W.length<=42:=by rw[K];exact Nat.le_trans (nWord_len (vec7 hP a.out.2.1.1) _) (by omega)
          have U:∀x∈W,-26<=x/\x<=26:=by rw[K];exact λx hx=>by have:=nWord_mem hx;omega
          have R:(wtx W).length<=43:=by rw[K];exact a.out.2.2.2.2.2.1
          have q:strOfNums (l1++cnjR P i (k+1))=strOfNums l++⟨#[59,32]⟩++strOfNums [97+(j:Int)]++⟨#[94]⟩++strOfNums [97+(i:Int)]++⟨#[61]⟩++strOfNums (wtx W):=by
           have h1:cnjR P i (k+1)=cnjR P i k++cnjE P i k:=by rw[cnjR,<-a.out.2.2.1,<-a.out.2.2.2.2.2.2.1,hq];rfl
           rw[h1,<-List.append_assoc,<-a.out.2.2.2.1,C];simp only[strOfNums_app,ByteArray.append_assoc];rfl
          have V:∀j,j<e.length->0<=gt e j/\gt e j<=7:=λj hj=>by have:=a.out.2.1.1.2 j (by have:=a.out.1;omega);have:=hP.ord7 j (by have:=a.out.1;omega);omega
          have HW:=Lib.hid (And.intro q (And.intro T (And.intro U (And.intro V K))));clear C K T U q V;have M:IntKind.i64.wrap ((j:Int)-(i:Int))=(k:Int)+1:=by have:=a.out.2.2.2.2.2.2.1;rw[show(j:Int)-(i:Int)=(k:Int)+1 by omega];exact IntWalk.i64_in _ (by omega)
          have az:IntKind.i64.wrap (k:Int)=(k:Int):=IntWalk.i64_in _ (by have:=a.out.2.2.2.2.1;omega);have z0:=strOfNums_size l;have z1:=strOfNums_size [97+(i:Int)];have z2:=strOfNums_size [97+(j:Int)];have z3:=strOfNums_size (wtx W);have q1:¬ 9223372036854775807<l.length+2:=by omega
          have q2:¬ 9223372036854775807<l.length+2+1:=by omega
          have q3:¬ 9223372036854775807<l.length+2+1+1:=by omega
          have q4:¬ 9223372036854775807<l.length+2+1+1+1:=by omega
          have q5:¬ 9223372036854775807<l.length+2+1+1+1+1:=by omega
          have q6:¬ 9223372036854775807<l.length+2+1+1+1+1+(wtx W).length:=by omega
          go_wp2_with fail
          have e0:=HE.out.1;have e1:=HE.out.2.1;have e2:=HE.out.2.2
          go_region_held3 (λw'=>Ext wr w') (first|exact grown_trans X (grown_drew _ _)|assumption)
           (first
            | (go_at_call 295;refine Calls.mono (Calls.rel (w0:=wr) (by assumption) (l06Text_ok _ _ W Any av HW.out.2.2.1 (by have:=HW.out.2.1;omega))) ?_;rintro eD wD ⟨vD,rfl,hgD,hsD,rfl⟩)
            | (go_at_call 69;refine Calls.mono (Calls.rel (w0:=wr) (by assumption) (l07Word_ok _ _ e Any (Ints.sub (Ints.ext B (by assumption)) (λ_ _ _=>trivial)) (by have:=a.out.1;omega) HW.out.2.2.2.1)) ?_;rintro eC wC ⟨vC,rfl,hgC,hsC,hOC⟩;rw[a.out.1,<-HW.out.2.2.2.2] at hOC;have av:Ints Any wC vC W:=hOC.ints' (by have:=HW.out.2.1;omega))
            | (go_at_call 294;refine Calls.mono (Calls.rel (w0:=wr) (by first|exact grown_trans X (grown_drew _ _)|assumption) (l07Letter_ok _ j (by omega))) ?_;rintro eL wL ⟨vL,rfl,hgL,hsL,rfl⟩)
            | (go_at_call 294;refine Calls.mono (Calls.rel (w0:=wr) (by first|exact grown_trans X (grown_drew _ _)|assumption) (l07Letter_ok _ i (by omega))) ?_;rintro eM wM ⟨vM,rfl,hgM,hsM,rfl⟩))
          clear e0 e1 e2 z0 z1 z2 z3 q1 q2 q3 q4 q5 q6 M az;go_wp2;go_roundw
          case rel=>exact⟨k+1,j+1,by rw[HW.out.1],by go_num,Lib.hid ⟨by have:=a.out.2.2.2.2.2.2.1;omega,by have:=a.out.2.2.2.2.1;omega⟩,by omega,grown_trans u hgD⟩
          case measure=>simp[intOf];omega
         ·have q:strOfNums (l1++cnjR P i (k+1))=strOfNums l:=by
           rw[cnjR,<-a.out.2.2.1,<-a.out.2.2.2.2.2.2.1,hq,<-List.append_assoc,<-a.out.2.2.2.1];simp
          have HN:=Lib.hid q;clear q;go_wp2_with fail
          go_roundw
          case rel=>exact⟨k+1,j+1,by rw[HN.out],by go_num,Lib.hid ⟨by have:=a.out.2.2.2.2.2.2.1;omega,by have:=a.out.2.2.2.2.1;omega⟩,by omega,grown_trans u X⟩
          case measure=>simp[intOf];omega
        ·have D:strOfNums (l1++cnjR P i k)=strOfNums (l0++cnjT P (i+1)):=by
          have:=HJ.out;rw[a9.out,cnjT,show k=P.orders.length-1-i by omega,List.append_assoc]
         have HF:=Lib.hid D;clear D;have ax:¬((j:Int)<P.orders.length):=by omega
         go_wp2;go_roundw
         case rel=>exact⟨i+1,by rw[HF.out],by go_num,by omega,u⟩
         case measure=>simp[intOf];omega
      ·have N:i=P.orders.length:=by omega
       subst N;have D:strOfNums (l0++cnjT P P.orders.length)=strOfNums (textP P):=by rw[HT.out.1,a7.out,List.append_assoc]
       have HF:=Lib.hid D;clear D;go_wp2;go_ret;exact⟨_,rfl,grown_trans aF u,by rw[<-HF.out];rfl⟩
theorem presN_nil (N B:Nat) (w:World):PresN N B w (.agg #[.slice none 0 0,.slice none 0 0,.slice none 0 0]):=
 ⟨⟨[],[],[]⟩,⟨Nat.zero_le _,rfl,rfl,λi h=>absurd h (by simp),by simp,by simp⟩,_,_,_,rfl,λ_=>False,λ_=>False,λ_=>False,
  ⟨World.ownsRow_nil _ _ _ _,by simp[Value.ownBlock],by simp⟩,
  ⟨[],λ_ _=>False,rfl,by simp,World.ownsRow_nil _ _ _ _,by simp[Value.ownBlock],by simp,by simp,by simp⟩,⟨[],λ_ _=>False,rfl,by simp,World.ownsRow_nil _ _ _ _,by simp[Value.ownBlock],by simp,by simp,by simp⟩,
  λ_ h=>h.elim,λ_ h=>h.elim,λ_ h=>h.elim⟩
def PresC (N B:Nat) (w':World) (v:Value):Prop:=∃(vo vp vc:Value) (c:Int),v=.tuple #[.agg #[vo,vp,vc],.int .i64 c]/\PresN N B w' (.agg #[vo,vp,vc])
theorem CyclicPresentation_ok (w:World) (n:Nat) (hn:1<=n/\n<=729) :
  Calls Tryz.prog 262 #[.int .i64 n] w (Ret w (PresC 9 w.heap.size)):=by
 have K:∀w',Ext (w.alloc (.cells #[.slice none 0 0,.slice none 0 0,.slice none 0 0] 28)) w'->Box3 w' w.heap.size (.slice none 0 0) (.slice none 0 0) (.slice none 0 0):=λw' h=>(Box3.made w 28 _ _ _).ext h;have m:Ext w (w.alloc (.cells #[.slice none 0 0,.slice none 0 0,.slice none 0 0] 28)):=World.grownBy_alloc _ _ _;have L:(w.alloc (.cells #[.slice none 0 0,.slice none 0 0,.slice none 0 0] 28)).heap.size=w.heap.size+1:=by simp
 have M:inB n 1 729=true:=by simp[inB];omega
 have O:=Lib.hid (And.intro hn (And.intro K (And.intro m L)));clear hn K L;go_enter Tryz.func262,Tryz.ntmps262;go_wp2_with fail
 generalize w.alloc (.cells #[.slice none 0 0,.slice none 0 0,.slice none 0 0] 28)=w0 at *;refine Calls.mono (l01In_ok n 1 729 w0) ?_;rintro _ _ ⟨rfl,rfl⟩;rw[M];clear M;go_wp2_with fail
 refine Calls.mono (l07Factors_ok w0 n O.out.1) ?_;rintro e1 p ⟨v1,rfl,a,a1,c1,l,r,rfl,Q,aa,R⟩;have HL:=Lib.hid (And.intro Q (And.intro R aa));clear Q R;have C:=O.out.2.1 p a;obtain⟨k0,k1,k2,k3,k4⟩:=id C;cases r
 ·go_wp2_with fail
  have y:=C.all (.slice none 0 0) (.slice none 0 0) (.slice none 0 0);have A:=grown_set3 p w.heap.size (.slice none 0 0) (.slice none 0 0) (.slice none 0 0);obtain⟨_,z0,z1,z2,_⟩:=id y;have D:=Lib.hid A;clear A y;go_wp2;refine bodyPost_ret (v := .tuple #[.agg #[.slice none 0 0,.slice none 0 0,.slice none 0 0],.int .i64 2]) (by simp[results,Tryz.results262,go_sem,z0,z1,z2]) rfl ?_;exact⟨_,rfl,grown_own (grown_trans m a) D.out (λj E q=>by cases E;omega),_,_,_,_,rfl,presN_nil 9 _ _⟩
 by_cases h6:6<l.length
 ·go_wp2_with fail
  have y:=C.all (.slice none 0 0) (.slice none 0 0) (.slice none 0 0);have A:=grown_set3 p w.heap.size (.slice none 0 0) (.slice none 0 0) (.slice none 0 0);obtain⟨_,z0,z1,z2,_⟩:=id y;have D:=Lib.hid A;clear A y;go_wp2;refine bodyPost_ret (v := .tuple #[.agg #[.slice none 0 0,.slice none 0 0,.slice none 0 0],.int .i64 3]) (by simp[results,Tryz.results262,go_sem,z0,z1,z2]) rfl ?_;exact⟨_,rfl,grown_own (grown_trans m a) D.out (λj E q=>by cases E;omega),_,_,_,_,rfl,presN_nil 9 _ _⟩
 clear k0 k1 k2 k3 k4;go_wp2_with fail
 refine Calls.mono (l07Trivial_ok p _ l _ (HL.out.1.ints (by omega)) (by omega)) ?_;rintro e2 J ⟨v2,rfl,hg2,vo,vp,vc,rfl,F⟩;obtain⟨G,co,ap,u,H,I,rfl,rfl,rfl⟩:=trivX_shape F;go_wp2_with fail
 have ab:=hg2.size;have ar:=a.size;have S:Ext J (J.alloc (.cells #[.slice G l.length co,.slice ap l.length u,.slice H l.length I] 28)):=World.grownBy_alloc _ _ _;have e:=BX.start (N:=9) (B:=p.heap.size) (by omega) F S (Box3.made J 28 (.slice G l.length co) (.slice ap l.length u) (.slice H l.length I)) ab;generalize J.alloc (.cells #[.slice G l.length co,.slice ap l.length u,.slice H l.length I] 28)=w3 at *;have T:Ext p w3:=grown_trans hg2 S;clear F hg2;go_loopw [7] (λiv wr=>∃i:Nat,iv=.int .i64 i/\i<=l.length/\Ext p wr/\BX 9 l p.heap.size J.heap.size wr (.slice G l.length co) (.slice ap l.length u) (.slice H l.length I)) (λiv _=>l.length-(intOf iv).toNat)
 case atStart=>exact⟨0,rfl,by omega,T,e⟩
 case round=>
  clear e T;obtain⟨i,rfl,hi,hg,e⟩:=hrel;by_cases q:i+1<l.length
  ·have U:(i:Int)+1<l.length:=by omega
   obtain⟨g,cap,z,hvg,hgB,hgp,hgl,V,W⟩:=e.storeP i (by omega);obtain⟨rfl,rfl⟩:ap=some ⟨g,0,none⟩/\u=cap:=by cases hvg;exact⟨rfl,rfl⟩
   clear hvg;have e1:∀w',Near wr g w'->w'.cell? ⟨J.heap.size,1,none⟩=some (.slice (some ⟨g,0,none⟩) l.length u):=λw' h=>h.cell e.box.2.2.1 (by simp;omega)
   have X:∀w,Calls Tryz.prog 167 #[.int .i64 l.length,.int .i64 ((i:Int)+1)] w (Ret w λw' v=>Own w.heap.size w' v (unitV l.length (i+1))):=λw=>by
    have h:=l07Unit_ok l.length (i+1) w (by omega) (by omega);rwa [show((i+1:Nat):Int)=(i:Int)+1 by omega] at h
   have HX:=Lib.hid (And.intro e (And.intro W V));clear e W V;have au:(i:Int)<l.length:=by omega
   have av:IntKind.i64.wrap ((i:Int)+1)=(i:Int)+1:=IntWalk.i64_in _ (by omega);have aw:wrap64 ((i:Int)+1)=(i:Int)+1:=IntWalk.wrap64_in _ (by omega);go_wp2
   go_region_held3 (λw'=>Near wr g w') (first|exact Near.of (grown_drew _ _)|exact Near.of (by assumption)|exact Near.store (by assumption)|assumption)
    (first
     | (go_at_call 167;refine Calls.mono (Calls.rel (w0:=wr) (by first|exact grown_drew _ _|assumption) (X _)) ?_;rintro eE Z ⟨vE,rfl,b,hsE,Y⟩;obtain⟨aE,cE,hvE,_⟩:=(Y.ints (by rw[unitV_len];omega)).shape;subst hvE;have ag:=(HX.out.2.2 Z b).1;have ah:=(HX.out.2.2 Z b).2))
   have az:=b.size;have ai:=HX.out.2.1 Z _ (unitV l.length (i+1)) b (OwnIn.of Y (by rw[unitV_len];omega) (λk hk _=>Nat.le_trans (by assumption) hk)) (by rw[unitV_len];omega);have aj:Ext p (Z.setCell ⟨g,i,none⟩ (.slice aE (unitV l.length (i+1)).length cE)):=grown_own (grown_trans hg b) (grown_set1 _ _ _ _) (λj E q=>by cases E;omega);clear ag ah e1;go_wp2;go_roundw
   case rel=>exact⟨i+1,by go_num,by omega,aj,ai⟩
   case measure=>simp[intOf];omega
  ·have U:¬((i:Int)+1<l.length):=by omega
   have hz:=O.out.2.1 wr (grown_trans a hg);obtain⟨h0,h1,h2,h3',h4⟩:=id e.box;obtain⟨k0,k1,k2,k3,k4⟩:=id hz;have y:=hz.all (.slice G l.length co) (.slice ap l.length u) (.slice H l.length I);have A:=grown_set3 wr w.heap.size (.slice G l.length co) (.slice ap l.length u) (.slice H l.length I);obtain⟨_,z0,z1,z2,_⟩:=id y;have D:=Lib.hid (And.intro A e);clear A y e;go_wp2;refine bodyPost_ret (v := .tuple #[.agg #[.slice G l.length co,.slice ap l.length u,.slice H l.length I],.int .i64 0]) (by simp[results,Tryz.results262,go_sem,z0,z1,z2]) rfl ?_;exact⟨_,rfl,grown_own (grown_trans m (grown_trans a hg)) D.out.1 (λj E q=>by cases E;omega),_,_,_,_,rfl,(D.out.2.ret D.out.1 (by have:=O.out.2.2.2;omega)).weak (by have:=O.out.2.2.2;omega)⟩
def PresN3 (N B:Nat) (w':World) (vo vp vc:Value):Prop:=∃Q,Shp N Q/\Pres3 (From B) w' vo vp vc Q
def PresC3 (N B:Nat) (w':World) (v:Value):Prop:=∃(vo vp vc:Value) (c:Int),v=.tuple #[.agg #[vo,vp,vc],.int .i64 c]/\PresN3 N B w' vo vp vc
theorem pres3_nil (S:Nat->Prop) (w:World):Pres3 S w (.slice none 0 0) (.slice none 0 0) (.slice none 0 0) ⟨[],[],[]⟩:=
 ⟨⟨none,0,rfl,⟨by simp,by simp,λ_=>rfl⟩,λi a=>by simp at a⟩,⟨none,0,rfl,⟨by simp,by simp,λ_=>rfl⟩,λi a=>by simp at a⟩,⟨none,0,rfl,⟨by simp,by simp,λ_=>rfl⟩,λi a=>by simp at a⟩⟩
theorem shp_nil (N:Nat):Shp N ⟨[],[],[]⟩:=⟨Nat.zero_le _,rfl,rfl,λi h=>absurd h (by simp),by simp,by simp⟩
theorem ParsePresentation_ok (w:World) (s:ByteArray) (hs:s.size<=1000) :
  Calls Tryz.prog 227 #[.string s] w (Ret w (PresC3 6 w.heap.size)):=by
 have aQ:=Box3.made w 28 (.slice none 0 0) (.slice none 0 0) (.slice none 0 0);have aR:Ext w (w.alloc (.cells #[.slice none 0 0,.slice none 0 0,.slice none 0 0] 28)):=World.grownBy_alloc _ _ _;have bg:(w.alloc (.cells #[.slice none 0 0,.slice none 0 0,.slice none 0 0] 28)).heap.size=w.heap.size+1:=by simp
 go_enter Tryz.func227,Tryz.ntmps227;go_wp2_with fail
 generalize w.alloc (.cells #[.slice none 0 0,.slice none 0 0,.slice none 0 0] 28)=w0 at *;refine Calls.mono (l01Split_ok w0 s 59 hs) ?_;rintro e1 w1 ⟨v1,rfl,R,av,cv,ts,rfl,hl1,ag,S,hT⟩;obtain⟨bt,rfl,hc0⟩:=StrsR.at hT 0 (by omega);have bi:=S _ (gtMem (show 0<ts.length by omega));have bj:(0:Int)<ts.length:=by omega
 have ah:=grown_trans aR R;have a0:ts.length<=1001:=by omega
 go_wp2_with fail
 refine Calls.mono (l07Orders_ok w1 _ (by omega)) ?_;rintro e2 F ⟨v2,rfl,H,ao,n,co,r,rfl,hR⟩;have y:=grown_trans ah H;have A:=(aQ.ext R).ext H;have bk:w.heap.size+1<=F.heap.size:=by have:=R.size;have:=H.size;omega
 have a4:=(hT.lt bt rfl).2;have HT:=Lib.hid (And.intro hT (And.intro S ag));clear hT S ag hc0;cases r
 case' false=>
  obtain⟨n0,n1,n2,n3,n4⟩:=id A;have b:=A.all (.slice none 0 0) (.slice none 0 0) (.slice none 0 0);obtain⟨-,z0,z1,z2,-⟩:=id b;have l:=grown_set3 F w.heap.size (.slice none 0 0) (.slice none 0 0) (.slice none 0 0);have m:=Lib.hid l;clear b l;go_wp2_with fail
  refine bodyPost_ret (v := .tuple #[.agg #[.slice none 0 0,.slice none 0 0,.slice none 0 0],.int .i64 6]) (by simp[results,Tryz.results227,go_sem,z0,z1,z2]) rfl ?_;exact⟨_,rfl,grown_own y m.out (λj B a=>by cases B;omega),_,_,_,_,rfl,_,shp_nil 6,pres3_nil _ _⟩
 obtain⟨o,T,ho6,C,hO⟩:=hR rfl;have T:=T;subst T;clear hR;have ai:=hO.ints (by omega);have HO:=Lib.hid (And.intro C hO);clear C hO;go_wp2_with fail
 refine Calls.mono (l07Trivial_ok F _ o _ ai (by omega)) ?_;rintro e3 q ⟨v3,rfl,hg3,vo,vp,vc,rfl,hX3⟩;obtain⟨a1,c1,a2,c2,a3,c3,rfl,rfl,rfl⟩:=trivX_shape hX3;have U:Ext q (q.alloc (.cells #[.slice a1 o.length c1,.slice a2 o.length c2,.slice a3 o.length c3] 28)):=World.grownBy_alloc _ _ _;have ak:=Box3.made q 28 (.slice a1 o.length c1) (.slice a2 o.length c2) (.slice a3 o.length c3)
 have al:Pres3 (λk=>F.heap.size<=k/\k≠q.heap.size) (q.alloc (.cells #[.slice a1 o.length c1,.slice a2 o.length c2,.slice a3 o.length c3] 28)) (.slice a1 o.length c1) (.slice a2 o.length c2) (.slice a3 o.length c3) (trivP o):=
  hX3.p3.mono (λk hk a=>⟨⟨hk,by omega⟩,Nat.lt_of_lt_of_le a U.size,U.block k a (by simp)⟩)
 have bm:=hg3.size;have M:=grown_trans hg3 U;go_wp2_with fail
 generalize q.alloc (.cells #[.slice a1 o.length c1,.slice a2 o.length c2,.slice a3 o.length c3] 28)=w4 at *;clear hX3 ai;go_loopw [6,8] (λaS iv wr=>∃(i:Nat) (qo qp qc:Value) (Q:Pr),aS=.bool true/\iv=.int .i64 i/\i<=ts.length/\Ext F wr/\Box3 wr q.heap.size qo qp qc/\Shp 6 Q/\Q.orders=o/\Pres3 (λk=>F.heap.size<=k/\k≠q.heap.size) wr qo qp qc Q) (λ_ iv _=>ts.length-(intOf iv).toNat)
 case atStart=>exact⟨1,_,_,_,trivP o,rfl,rfl,by omega,M,ak,trivP_shp o ho6,rfl,al⟩
 case round=>
  clear al ak M;obtain⟨i,qo,qp,qc,Q,rfl,rfl,hi,hg,hB,I,D,G⟩:=hrel;have bn:=grown_trans y hg;by_cases a:i<ts.length
  ·have an:(i:Int)<ts.length:=by omega
   obtain⟨_,hbe,ap⟩:=StrsR.at HT.out.1 i a;cases hbe
   have V:=(grown_trans H hg).cell ap (by simp);clear ap;have aX:=HT.out.2.1 _ (gtMem a);have aq:(gt ts i).size<=1000:=by omega
   obtain⟨t0,ar⟩:∃t0,t0=gt ts i:=⟨_,rfl⟩;rw[<-ar] at V aq;clear aX ar;have C:∀x∈Q.orders,primeB x=true:=by rw[D];exact HO.out.1
   obtain⟨a5,c5,hqo,_,_⟩:=G.o.shape;obtain⟨a6,c6,hqp,_,_⟩:=Sl.shape G.p;obtain⟨a7,c7,hqc,_,_⟩:=Sl.shape G.c;subst hqo hqp hqc;have au:=hB.ext (grown_drew _ none);have aw:Pres3 (λk=>F.heap.size<=k/\k≠q.heap.size) wr.drew _ _ _ Q:=G.ext (grown_drew _ none);obtain⟨d0,d1,d2,d3,d4⟩:=id au;have f1:wr.drew.cell? ⟨bt,i,none⟩=some (.string t0):=V;have z:=Lib.hid (And.intro I (And.intro D (And.intro C (And.intro aw hB))));clear I D C aw hB G au V;go_wp2_with fail
   go_region_law (first
    | (go_simp;go_at_call 272;refine Calls.mono (l07Relation_ok _ _ Q _ t0 ⟨_,_,_,rfl,z.out.2.2.2.1⟩ z.out.1 z.out.2.2.1 aq) ?_;rintro eC wC ⟨vC,rfl,ay,yo,yp,yc,r,u,rfl,az,ho2,hP2⟩;have aA:=Lib.hid ho2;clear ho2;obtain⟨W,k5,rfl,_,_⟩:=hP2.o.shape;obtain⟨X,k6,rfl,_,_⟩:=Sl.shape hP2.p;obtain⟨e7,k7,rfl,_,_⟩:=Sl.shape hP2.c;have Y:=(z.out.2.2.2.2.ext (grown_drew _ none)).ext ay;obtain⟨g0,g1,g2,g3,g4⟩:=id Y))
   all_goals
    have aB:Ext wr wC:=grown_trans (grown_drew _ _) ay;have a9:=z.out.2.2.2.2.1;have bp:=hg.size;have aC:=Y.all (.slice W u.orders.length k5) (.slice X u.powers.length k6) (.slice e7 u.conj.length k7);have J:=grown_set3 wC q.heap.size (.slice W u.orders.length k5) (.slice X u.powers.length k6) (.slice e7 u.conj.length k7);have Z:Ext F (((wC.setCell ⟨q.heap.size,0,none⟩ (.slice W u.orders.length k5)).setCell ⟨q.heap.size,1,none⟩ (.slice X u.powers.length k6)).setCell ⟨q.heap.size,2,none⟩ (.slice e7 u.conj.length k7)):=grown_own (grown_trans hg aB) J (λj B a=>by cases B;omega)
    have aD:Pres3 (λk=>F.heap.size<=k/\k≠q.heap.size) (((wC.setCell ⟨q.heap.size,0,none⟩ (.slice W u.orders.length k5)).setCell ⟨q.heap.size,1,none⟩ (.slice X u.powers.length k6)).setCell ⟨q.heap.size,2,none⟩ (.slice e7 u.conj.length k7)) (.slice W u.orders.length k5) (.slice X u.powers.length k6) (.slice e7 u.conj.length k7) u:=
     hP2.mono (λk hk a=>by
      have aE:F.heap.size<=k/\k≠q.heap.size:=by
       have hd:wr.drew.heap.size=wr.heap.size:=rfl;rcases hk with hk|hk
       ·exact hk
       ·exact⟨by omega,by omega⟩
      exact⟨aE,Nat.lt_of_lt_of_le a J.size,J.block k a (λe=>aE.2 (by cases e;rfl))⟩)
    have HF:=Lib.hid (And.intro aC (And.intro aD (And.intro az aA.out)));clear aC aD az aA hP2 J g0 g1 g2 g3 g4 Y d0 d1 d2 d3 d4 f1;generalize ((wC.setCell ⟨q.heap.size,0,none⟩ (.slice W u.orders.length k5)).setCell ⟨q.heap.size,1,none⟩ (.slice X u.powers.length k6)).setCell ⟨q.heap.size,2,none⟩ (.slice e7 u.conj.length k7)=w9 at *;cases r
    case' false=>
     have aF:=A.ext Z;have aG:=grown_trans y Z;obtain⟨n0,n1,n2,n3,n4⟩:=id aF;have b:=aF.all (.slice none 0 0) (.slice none 0 0) (.slice none 0 0);obtain⟨-,z0,z1,z2,-⟩:=id b;have l:=grown_set3 w9 w.heap.size (.slice none 0 0) (.slice none 0 0) (.slice none 0 0);have m:=Lib.hid l;clear b l;go_wp2_with fail
     refine bodyPost_ret (v := .tuple #[.agg #[.slice none 0 0,.slice none 0 0,.slice none 0 0],.int .i64 6]) (by simp[results,Tryz.results227,go_sem,z0,z1,z2]) rfl ?_;exact⟨_,rfl,grown_own aG m.out (λj B a=>by cases B;omega),_,_,_,_,rfl,_,shp_nil 6,pres3_nil _ _⟩
    go_wp2_with fail
    go_roundw
    case rel=>exact⟨i+1,_,_,_,u,rfl,by go_num,by omega,Z,HF.out.1,HF.out.2.2.1,by rw[HF.out.2.2.2];exact z.out.2.1,HF.out.2.1⟩
    case measure=>simp[intOf];omega
  ·have an:¬((i:Int)<ts.length):=by omega
   obtain⟨a5,c5,hqo,_,_⟩:=G.o.shape;obtain⟨a6,c6,hqp,_,_⟩:=Sl.shape G.p;obtain⟨a7,c7,hqc,_,_⟩:=Sl.shape G.c;subst hqo hqp hqc;obtain⟨d0,d1,d2,d3,d4⟩:=id hB;have z:=Lib.hid (And.intro I (And.intro D (And.intro G hB)));clear I D G hB;go_wp2_with fail
   refine Calls.mono (sIsPresentation_ok wr _ Q _ ⟨_,_,_,rfl,z.out.2.2.1⟩) ?_;rintro W w5 ⟨v5,rfl,K,rfl⟩;have aa:=z.out.2.2.2.ext K;obtain⟨p0,p1,p2,p3,p4⟩:=id aa;have E:=grown_trans hg K;rcases hv:validB Q with _|_
   case' false=>
    have aH:=A.ext E;have aI:=grown_trans y E;obtain⟨n0,n1,n2,n3,n4⟩:=id aH;have b:=aH.all (.slice none 0 0) (.slice none 0 0) (.slice none 0 0);obtain⟨-,z0,z1,z2,-⟩:=id b;have l:=grown_set3 w5 w.heap.size (.slice none 0 0) (.slice none 0 0) (.slice none 0 0);have m:=Lib.hid l;clear b l;go_wp2_with fail
    refine bodyPost_ret (v := .tuple #[.agg #[.slice none 0 0,.slice none 0 0,.slice none 0 0],.int .i64 6]) (by simp[results,Tryz.results227,go_sem,z0,z1,z2]) rfl ?_;exact⟨_,rfl,grown_own aI m.out (λj B a=>by cases B;omega),_,_,_,_,rfl,_,shp_nil 6,pres3_nil _ _⟩
   have hV:=valid_of hv;clear hv;have HV:=Lib.hid hV;clear hV;go_wp2_with fail
   refine Calls.mono (l07Text_ok Q HV.out w5 _ _ ⟨_,_,_,rfl,z.out.2.2.1.ext K⟩) ?_;rintro X w6 ⟨v6,rfl,ab,rfl⟩;have N:=grown_trans E ab;have L:=A.ext N;have O:=grown_trans y N;have aY:=aa.ext ab;have aJ:=(z.out.2.2.1.ext K).ext ab;clear p0 p1 p2 p3 p4 d0 d1 d2 d3 d4 aa;rcases be:((strOfNums (textP Q)).toList == s.toList) with _|_
   case' false=>
    obtain⟨n0,n1,n2,n3,n4⟩:=id L;have b:=L.all (.slice none 0 0) (.slice none 0 0) (.slice none 0 0);obtain⟨-,z0,z1,z2,-⟩:=id b;have l:=grown_set3 w6 w.heap.size (.slice none 0 0) (.slice none 0 0) (.slice none 0 0);have m:=Lib.hid l;clear b l;go_wp2_with fail
    refine bodyPost_ret (v := .tuple #[.agg #[.slice none 0 0,.slice none 0 0,.slice none 0 0],.int .i64 6]) (by simp[results,Tryz.results227,go_sem,z0,z1,z2]) rfl ?_;exact⟨_,rfl,grown_own O m.out (λj B a=>by cases B;omega),_,_,_,_,rfl,_,shp_nil 6,pres3_nil _ _⟩
   obtain⟨p0,p1,p2,p3,p4⟩:=id aY;obtain⟨n0,n1,n2,n3,n4⟩:=id L;have b:=L.all (.slice a5 Q.orders.length c5) (.slice a6 Q.powers.length c6) (.slice a7 Q.conj.length c7);obtain⟨-,z0,z1,z2,-⟩:=id b;have l:=grown_set3 w6 w.heap.size (.slice a5 Q.orders.length c5) (.slice a6 Q.powers.length c6) (.slice a7 Q.conj.length c7);have m:=Lib.hid (And.intro l aJ);clear b l aJ;go_wp2_with fail
   refine bodyPost_ret (v := .tuple #[.agg #[.slice a5 Q.orders.length c5,.slice a6 Q.powers.length c6,.slice a7 Q.conj.length c7],.int .i64 0]) (by simp[results,Tryz.results227,go_sem,z0,z1,z2]) rfl ?_;exact⟨_,rfl,grown_own O m.out.1 (λj B a=>by cases B;omega),_,_,_,_,rfl,Q,z.out.1,m.out.2.mono (λk hk a=>⟨(by show w.heap.size<=k;omega),Nat.lt_of_lt_of_le a m.out.1.size,m.out.1.block k a (λe=>by cases e;omega)⟩)⟩
def PresQ (N B:Nat) (w':World) (v:Value):Prop:=∃(vo vp vc:Value),v=.agg #[vo,vp,vc]/\PresN3 N B w' vo vp vc
theorem PresN.q {N B:Nat}{w':World}{v:Value}(h:PresN N B w' v):PresQ N B w' v:=by
 obtain⟨P,h1,vo,vp,vc,rfl,h2⟩:=h;exact⟨_,_,_,rfl,P,h1,h2.p3⟩
theorem PresQ.mono {N M B B':Nat}{w':World}{v:Value}(h:PresQ N B w' v) (b:N<=M) (hB:B'<=B):PresQ M B' w' v:=by
 obtain⟨vo,vp,vc,rfl,P,h1,h2⟩:=h;exact⟨_,_,_,rfl,P,h1.mono b,h2.mono (λk hk a=>⟨Nat.le_trans hB hk,a,rfl⟩)⟩
theorem PresN3.shape {N B:Nat}{w':World}{vo vp vc:Value}(h:PresN3 N B w' vo vp vc):∃a n c a2 b c2 e i c3,vo=.slice a n c/\vp=.slice a2 b c2/\vc=.slice e i c3:=by
 obtain⟨Q,_,h2⟩:=h;obtain⟨j,c5,hqo,_,_⟩:=h2.o.shape;obtain⟨k,c6,hqp,_,_⟩:=Sl.shape h2.p;obtain⟨l,c7,hqc,_,_⟩:=Sl.shape h2.c;exact⟨_,_,_,_,_,_,_,_,_,hqo,hqp,hqc⟩
theorem hQ3 {B r:Nat}{w w':World}{vo vp vc:Value}{Q:Pr}(b:w.grownBy w' (some r)) (h:Pres3 (λk=>B<=k/\k≠r) w vo vp vc Q):Pres3 (From B) w' vo vp vc Q:=
 h.mono (λk hk a=>⟨hk.1,Nat.lt_of_lt_of_le a b.size,b.block k a (λe=>hk.2 (by cases e;rfl))⟩)
theorem l07Table_ok (w:World) (k:Int) (h0:0<=k) (h9:k<10) :
  Calls Tryz.prog 177 #[.int .i64 k] w (Ret w (PresQ 6 w.heap.size)):=by
 have R:=Box3.made w 28 (.slice none 0 0) (.slice none 0 0) (.slice none 0 0);have S:Ext w (w.alloc (.cells #[.slice none 0 0,.slice none 0 0,.slice none 0 0] 28)):=World.grownBy_alloc _ _ _;have T:(w.alloc (.cells #[.slice none 0 0,.slice none 0 0,.slice none 0 0] 28)).heap.size=w.heap.size+1:=by simp
 rcases(show k=0\/k=1\/k=2\/k=3\/k=4\/k=5\/k=6\/k=7\/k=8\/k=9 by omega) with rfl|rfl|rfl|rfl|rfl|rfl|rfl|rfl|rfl|rfl
 all_goals
  clear h0 h9;go_enter Tryz.func177,Tryz.ntmps177;go_wp2_with fail
  refine Calls.mono (ParsePresentation_ok _ _ (by decide)) ?_;rintro e1 m ⟨v1,rfl,p,vo,vp,vc,c,rfl,hP⟩;obtain⟨a1,u,c1,a2,y,c2,z,A,c3,rfl,rfl,rfl⟩:=hP.shape;have p:=grown_trans (World.grownBy_alloc _ _ _) p;have J:=R.ext p;have D:=grown_trans S p;have ai:=p.size;clear R S p;generalize w.alloc (.cells #[.slice none 0 0,.slice none 0 0,.slice none 0 0] 28)=w0 at *
  have K:∃Q,Shp 6 Q/\Pres3 (λk=>w.heap.size<=k/\k≠w.heap.size) m (.slice a1 u c1) (.slice a2 y c2) (.slice z A c3) Q:=by
   obtain⟨Q,q1,q2⟩:=hP;exact⟨Q,q1,q2.mono (λk hk a=>⟨by have hk:_<=k:=hk;simp at hk;omega,a,rfl⟩)⟩
  have ad:w.heap.size+1<=m.heap.size:=by omega
  have ae:=Lib.hid T;clear T hP p;obtain⟨q0,q1,q2,q3,q4⟩:=id J;by_cases Z:c=0
  ·subst Z
   have l:=World.grownBy_alloc (((m.setCell ⟨w.heap.size,0,none⟩ (.slice a1 u c1)).setCell ⟨w.heap.size,1,none⟩ (.slice a2 y c2)).setCell ⟨w.heap.size,2,none⟩ (.slice z A c3)) (.cells #[.slice a1 u c1,.slice a2 y c2,.slice z A c3] 28) none;have q:=(J.all (.slice a1 u c1) (.slice a2 y c2) (.slice z A c3)).ext l;obtain⟨-,z0,z1,z2,-⟩:=id q;have b:=grown_set3 m w.heap.size (.slice a1 u c1) (.slice a2 y c2) (.slice z A c3);have L:=Lib.hid (And.intro b (And.intro K l));clear q b K l;go_wp2_with fail
   refine bodyPost_ret (v := .agg #[.slice a1 u c1,.slice a2 y c2,.slice z A c3]) (by simp[results,Tryz.results177,go_sem,z0,z1,z2]) rfl ?_;obtain⟨b,⟨Q,k1,k2⟩,l⟩:=L.out;exact⟨_,rfl,grown_trans (grown_own D b (λj U a=>by cases U;omega)) l,_,_,_,rfl,Q,k1,(hQ3 b k2).ext l⟩
  ·have ak:(c != 0)=true:=by simp[Z]
   clear Z;have l:Ext m (m.alloc (.cells #[.slice a1 u c1,.slice a2 y c2,.slice z A c3] 28)):=World.grownBy_alloc _ _ _;have V:=Box3.made m 28 (.slice a1 u c1) (.slice a2 y c2) (.slice z A c3);have aa:(m.alloc (.cells #[.slice a1 u c1,.slice a2 y c2,.slice z A c3] 28)).heap.size=m.heap.size+1:=by simp
   go_wp2_with fail
   generalize m.alloc (.cells #[.slice a1 u c1,.slice a2 y c2,.slice z A c3] 28)=W at *;have M:Ext W (W.alloc (.cells #[.int .i64 2] 2)):=World.grownBy_alloc _ _ _
   have hL:Ints Any (W.alloc (.cells #[.int .i64 2] 2)) (.slice (some ⟨W.heap.size,0,none⟩) 1 1) [2]:=
    ints_of_own (show Own 0 _ _ [2] from World.ownsRow_lit W #[.int .i64 2] 1 (Nat.zero_le _) (by decide) rfl) (by simp) (λ_ _=>trivial)
   rw[aa] at hL;refine Calls.mono (l07Trivial_ok _ _ [2] _ hL (by simp)) ?_;rintro e3 Y ⟨v3,rfl,N,vo,vp,vc,rfl,hX3⟩;obtain⟨E,c4,F,c5,G,c6,rfl,rfl,rfl⟩:=trivX_shape hX3;have H:=grown_trans l (grown_trans M N);have B:=J.ext H;have r:=V.ext (grown_trans M N);have X:=grown_trans D H;have ac:Pres3 (λk=>w.heap.size<=k/\k≠w.heap.size) Y (.slice E 1 c4) (.slice F 1 c5) (.slice G 1 c6) (trivP [2]):=hX3.p3.mono (λk hk a=>⟨by have hk:_<=k:=hk;simp at hk;omega,a,rfl⟩);have C:Pres3 (λk=>m.heap.size<k) Y (.slice E 1 c4) (.slice F 1 c5) (.slice G 1 c6) (trivP [2]):=hX3.p3.mono (λk hk a=>⟨by have hk:_<=k:=hk;simp at hk;omega,a,rfl⟩);clear hX3 ac hL V K q0 q1 q2 q3 q4 N M;obtain⟨p0,p1,p2,p3,p4⟩:=id r;obtain⟨q0,q1,q2,q3,q4⟩:=id B;have i:=grown_set3 Y m.heap.size (.slice E 1 c4) (.slice F 1 c5) (.slice G 1 c6);have I:=r.all (.slice E 1 c4) (.slice F 1 c5) (.slice G 1 c6);have O:=Box3.keep B i.size (i.block _ B.1 (λe=>by have:=Option.some.inj e;omega));obtain⟨r0,r1,r2,r3,r4⟩:=id I;obtain⟨s0,s1,s2,s3,s4⟩:=id O;have q:=O.all (.slice E 1 c4) (.slice F 1 c5) (.slice G 1 c6);obtain⟨-,z0,z1,z2,-⟩:=id q;have b:=grown_set3 (((Y.setCell ⟨m.heap.size,0,none⟩ (.slice E 1 c4)).setCell ⟨m.heap.size,1,none⟩ (.slice F 1 c5)).setCell ⟨m.heap.size,2,none⟩ (.slice G 1 c6)) w.heap.size (.slice E 1 c4) (.slice F 1 c5) (.slice G 1 c6);have L:=Lib.hid (And.intro i (And.intro b C));clear q b i C B r I O;go_wp2_with fail
   refine bodyPost_ret (v := .agg #[.slice E 1 c4,.slice F 1 c5,.slice G 1 c6]) (by simp[results,Tryz.results177,go_sem,z0,z1,z2]) rfl ?_;obtain⟨i,b,C⟩:=L.out;refine⟨_,rfl,grown_own (grown_own X i (λj U a=>by have:=Option.some.inj U;omega)) b (λj U a=>by have:=Option.some.inj U;omega),_,_,_,rfl,trivP [2],trivP_shp _ (by simp),C.mono (λk hk a=>⟨(show w.heap.size<=k by omega),?_,?_⟩)⟩
   ·exact Nat.lt_of_lt_of_le a (Nat.le_trans i.size b.size)
   ·exact(b.block k (Nat.lt_of_lt_of_le a i.size) (λe=>by have:=Option.some.inj e;omega)).trans (i.block k a (λe=>by have:=Option.some.inj e;omega))
theorem i64_succ (i:Nat) (h:i<100000):IntKind.i64.wrap ((i:Int)+1)=(i:Int)+1:=IntWalk.i64_in _ (by omega)
theorem w64_succ (i:Nat) (h:i<100000):wrap64 ((i:Int)+1)=(i:Int)+1:=IntWalk.wrap64_in _ (by omega)
theorem i64_sp (k:Nat) (h:k<100000):IntKind.i64.wrap (((k+1:Nat):Int)-1)=(k:Int):=by
 rw[show((k+1:Nat):Int)-1=(k:Int) by omega];exact IntWalk.i64_in _ (by omega)
theorem w64_sp (k:Nat) (h:k<100000):wrap64 (((k+1:Nat):Int)-1)=(k:Int):=by
 rw[show((k+1:Nat):Int)-1=(k:Int) by omega];exact IntWalk.wrap64_in _ (by omega)
theorem l07Meta_ok (w:World) (n m r s:Int) (hn:1<=n/\n<=729) (hm:1<=m/\m<=729) (hr:0<=r/\r<30000) (hs:0<=s/\s<=1000000000) :
  Calls Tryz.prog 178 #[.int .i64 n,.int .i64 m,.int .i64 r,.int .i64 s] w (Ret w (PresN 18 w.heap.size)):=by
 obtain⟨n,rfl⟩:=Int.eq_ofNat_of_zero_le (show 0<=n by omega);obtain⟨m,rfl⟩:=Int.eq_ofNat_of_zero_le (show 0<=m by omega);have aN:∀w',Ext (w.alloc (.cells #[.slice none 0 0,.slice none 0 0,.slice none 0 0] 28)) w'->Box3 w' w.heap.size (.slice none 0 0) (.slice none 0 0) (.slice none 0 0):=λw' h=>(Box3.made w 28 _ _ _).ext h;have aO:Ext w (w.alloc (.cells #[.slice none 0 0,.slice none 0 0,.slice none 0 0] 28)):=World.grownBy_alloc _ _ _;have aP:(w.alloc (.cells #[.slice none 0 0,.slice none 0 0,.slice none 0 0] 28)).heap.size=w.heap.size+1:=by simp
 have S:0<=r%(m:Int):=Int.emod_nonneg _ (by omega);have X:r%(m:Int)<m:=Int.emod_lt_of_pos _ (by omega);obtain⟨pw,ah⟩:∃pw,pw=r%(m:Int):=⟨_,rfl⟩;rw[<-ah] at S X;have bL:(m:Int)≠0:=by omega
 have HN:=Lib.hid (And.intro hn (And.intro hm (And.intro hs (And.intro aN (And.intro aP (And.intro S X))))));clear hn aN aP S X hs hm;go_enter Tryz.func178,Tryz.ntmps178;go_wp2_with fail
 generalize w.alloc (.cells #[.slice none 0 0,.slice none 0 0,.slice none 0 0] 28)=w0 at *;refine Calls.mono (l07Factors_ok w0 n (by have:=HN.out.1;omega)) ?_;rintro e1 w1 ⟨v1,rfl,hg1,a1,c1,t,r1,rfl,ay,aQ,az⟩;go_wp2_with fail
 refine Calls.mono (l07Factors_ok w1 m (by have:=HN.out.2.1;omega)) ?_;rintro e2 w2 ⟨v2,rfl,aA,a2,c2,b,r2,rfl,aR,aS,hbx⟩;go_wp2_with fail
 refine Calls.mono (l01Own_ok w2 _ t _ (Ints.ext (ay.ints (by omega)) aA) (by omega)) ?_;rintro e3 w3 ⟨v3,rfl,aj,aB⟩;go_wp2_with (at_builtin;refine wp_app_ints rfl _ _ rfl w2.heap.size v3 t rfl aB _ b rfl _ (Ints.ext (aR.ints (by omega)) aj) (by omega) aj.size ?_;intro v4 F ak aT _)
 have Y:Ext w2 F:=grown_own aj aT (λj Z u=>by have:=(aB.lt j Z).1;omega);obtain⟨o,ho⟩:∃o,o=t++b:=⟨_,rfl⟩;rw[<-ho] at ak;have aU:o.length=t.length+b.length:=by rw[ho];simp
 have aa:∀i,i<o.length->1<=gt o i/\gt o i<=7:=λi hi=>by
  have aW:gt o i∈t++b:=by rw[<-ho,gt_eq o i hi];exact List.getElem_mem hi
  rcases List.mem_append.1 aW with h|h
  ·have:=az _ h;omega
  ·have:=hbx _ h;omega
 clear ho;have HT:=Lib.hid (And.intro aU (And.intro aa (And.intro az (And.intro aQ aS))));clear aU aa az hbx aS aQ;have ar:o.length<=18:=by have:=HT.out;omega
 have bN:t.length<=o.length:=by have:=HT.out;omega
 obtain⟨a4,c4,hv4,_⟩:=(ak.ints (by omega)).shape;subst hv4;have bO:=Y.size;have aX:Ints Any F (.slice a4 o.length c4) o:=(ak.ints (by omega)).sub (λ_ _ _=>trivial);refine Calls.mono (l07Trivial_ok F _ o _ aX (by omega)) ?_;rintro e5 w5 ⟨v5,rfl,al,vo,vp,vc,rfl,q⟩;obtain⟨W,co,ap,K,T,O,rfl,rfl,rfl⟩:=trivX_shape q;go_wp2_with fail
 have aY:Ext w5 (w5.alloc (.cells #[.slice W o.length co,.slice ap o.length K,.slice T o.length O] 28)):=World.grownBy_alloc _ _ _;have e:=BX.start (N:=18) (B:=F.heap.size) (by omega) q aY (Box3.made w5 28 (.slice W o.length co) (.slice ap o.length K) (.slice T o.length O)) al.size;have bP:=al.size;generalize w5.alloc (.cells #[.slice W o.length co,.slice ap o.length K,.slice T o.length O] 28)=w6 at *;have aZ:Ext F w6:=grown_trans al aY;have D:Ext w0 F:=grown_trans hg1 (grown_trans aA Y);have bl:Ints Any w1 (.slice a1 t.length c1) t:=(ay.ints (by omega)).sub (λ_ _ _=>trivial);have bm:Ext w1 F:=grown_trans aA Y;clear q al ay aR aB ak aj aT;go_loopw [16] (λiv wr=>∃i:Nat,iv=.int .i64 i/\i<=o.length/\Ext F wr/\BX 18 o F.heap.size w5.heap.size wr (.slice W o.length co) (.slice ap o.length K) (.slice T o.length O)) (λiv _=>o.length-(intOf iv).toNat)
 case atStart=>exact⟨0,rfl,by omega,aZ,e⟩
 case round =>
  clear e aZ;obtain⟨i,rfl,hi,G,e⟩:=hrel;by_cases u:i+1<o.length
  ·have Q:(i:Int)+1<o.length:=by omega
   have a0:i<100000:=by omega
   have bQ:t.length<100000:=by omega
   by_cases hk:(i:Int)=(t.length:Int)-1
   ·skip
    go_wp2;go_roundw
    case rel=>exact⟨i+1,by go_num,by omega,G,e⟩
    case measure=>simp[intOf];omega
   ·obtain ⟨g,cap,z,hvg,hgB,hgp,hgl,ab,ad⟩:=e.storeP i (by omega)
    obtain⟨rfl,rfl⟩:ap=some ⟨g,0,none⟩/\K=cap:=by cases hvg;exact⟨rfl,rfl⟩
    clear hvg;have e1:∀w',Near wr g w'->w'.cell? ⟨w5.heap.size,1,none⟩=some (.slice (some ⟨g,0,none⟩) o.length K):=λw' h=>h.cell e.box.2.2.1 (by simp;omega)
    have R:∀w,Calls Tryz.prog 167 #[.int .i64 o.length,.int .i64 ((i:Int)+1)] w (Ret w λw' v=>Own w.heap.size w' v (unitV o.length (i+1))):=λw=>by
     have h:=l07Unit_ok o.length (i+1) w (by omega) (by omega);rwa [show((i+1:Nat):Int)=(i:Int)+1 by omega] at h
    have a3:(unitV o.length (i+1)).length<=9223372036854775807:=by rw[unitV_len];omega
    have L:=Lib.hid (And.intro e (And.intro ad (And.intro ab a3)));clear e ad ab a3;have bR:(i:Int)<o.length:=by omega
    go_wp2;clear hk;have aC:IntKind.i64.wrap ((i:Int)+1)=(i:Int)+1:=i64_succ _ a0;have aD:wrap64 ((i:Int)+1)=(i:Int)+1:=w64_succ _ a0
    go_region_held3 (λw'=>Near wr g w') (first|exact Near.of (grown_drew _ _)|exact Near.of (by assumption)|exact Near.store (by assumption)|assumption)
     (first
      | (go_at_call 167;refine Calls.mono (Calls.rel (w0:=wr) (by first|exact grown_drew _ _|assumption) (R _)) ?_;rintro eE M ⟨vE,rfl,a,hsE,E⟩;obtain⟨aE,cE,hvE,_⟩:=(E.ints L.out.2.2.2).shape;subst hvE;have U:=(L.out.2.2.1 M a).1;have ae:=(L.out.2.2.1 M a).2))
    clear aC aD;have a5:=a.size;have q:=L.out.2.1 M _ (unitV o.length (i+1)) a (OwnIn.of E (by rw[unitV_len];omega) (λk hk _=>Nat.le_trans (by assumption) hk)) (by rw[unitV_len];omega);have C:Ext F (M.setCell ⟨g,i,none⟩ (.slice aE (unitV o.length (i+1)).length cE)):=grown_own (grown_trans G a) (grown_set1 _ _ _ _) (λj Z u=>by cases Z;omega);clear U ae e1;go_wp2;go_roundw
    case rel=>exact⟨i+1,by go_num,by omega,C,q⟩
    case measure=>simp[intOf];omega
  ·have Q:¬((i:Int)+1<o.length):=by omega
   have bn:t.length<=18:=by omega
   have bS:(1:Int)<=m/\(m:Int)<=729:=HN.out.2.1;by_cases bT:t.length=0
   ·have a6:¬(0:Int)<t.length:=by omega
    go_wp2;clear ah;generalize bo:r%(m:Int)=pw';clear bo;go_loopw [18] (λiv wx=>iv=.int .i64 0/\wx=wr) (λ_ _=>0)
    case atStart=>exact⟨rfl,rfl⟩
    case round=>
     obtain⟨rfl,rfl⟩:=hrel;have hz:=HN.out.2.2.2.1 _ (grown_trans D G);obtain⟨h0,h1,h2,h3',h4⟩:=id e.box;obtain⟨k0,k1,k2,k3,k4⟩:=id hz;have hZ:=hz.all (.slice W o.length co) (.slice ap o.length K) (.slice T o.length O);have hT:=grown_set3 wr w.heap.size (.slice W o.length co) (.slice ap o.length K) (.slice T o.length O);obtain⟨_,z0,z1,z2,_⟩:=id hZ;have HQ:=Lib.hid (And.intro hT e);clear hT hZ e;go_wp2;refine bodyPost_ret (v := .agg #[.slice W o.length co,.slice ap o.length K,.slice T o.length O]) (by simp[results,Tryz.results178,go_sem,z0,z1,z2]) rfl ?_;have bq:=HN.out.2.2.2.2.1;have br:=D.size;exact⟨_,rfl,grown_own (grown_trans aO (grown_trans D G)) HQ.out.1 (λj Z u=>by cases Z;omega),(HQ.out.2.ret HQ.out.1 (by omega)).weak (by omega)⟩
   ·have a6:(0:Int)<t.length:=by omega
    obtain⟨kt,V⟩:∃kt,t.length=kt+1:=⟨t.length-1,by omega⟩;obtain⟨g,cap,z,hvg,hgB,hgp,hgl,ab,ad⟩:=e.storeP kt (by omega);obtain⟨rfl,rfl⟩:ap=some ⟨g,0,none⟩/\K=cap:=by cases hvg;exact⟨rfl,rfl⟩
    clear hvg;have e1:∀w',Near wr g w'->w'.cell? ⟨w5.heap.size,1,none⟩=some (.slice (some ⟨g,0,none⟩) o.length K):=λw' h=>h.cell e.box.2.2.1 (by simp;omega);have aa:=HT.out.2.1
    have H:∀w' (k:Nat) (x:Int),Ext F w'->0<=x->x<=1000000000->Calls Tryz.prog 229 #[.slice a4 o.length c4,.int .i64 k,.int .i64 x] w' (Ret w' λaG r=>∃l,l.length=o.length/\Own w'.heap.size aG r l):=λw' k x he h1 h2=>
     l07Digits_ok w' _ o k x Any (aX.ext he) (by omega) aa ⟨h1,h2⟩
    have I:o.length<=9223372036854775807:=by omega
    have bu:(kt:Int)<o.length:=by omega
    have L:=Lib.hid (And.intro e (And.intro ad (And.intro ab (And.intro H (And.intro I V)))));clear e ad ab H aa I V;have aH:=HN.out.2.2.2.2.2;have aI:=HN.out.2.2.1;go_wp2;have au:kt<100000:=by omega
    have V:=L.out.2.2.2.2.2;have aC:IntKind.i64.wrap ((t.length:Int)-1)=(kt:Int):=by rw[V];exact i64_sp kt au
    have aD:wrap64 ((t.length:Int)-1)=(kt:Int):=by rw[V];exact w64_sp kt au
    clear V
    go_region_held3 (λw'=>Near wr g w') (first|exact Near.of (grown_drew _ _)|exact Near.of (by assumption)|exact Near.store (by assumption)|assumption)
     (first
      | (go_at_call 229;refine Calls.mono (Calls.rel (w0:=wr) (by first|exact grown_drew _ _|assumption) (L.out.2.2.2.1 _ t.length s (grown_trans G (by first|exact grown_drew _ _|assumption)) aI.1 aI.2)) ?_;rintro eE M ⟨vE,rfl,a,hsE,lE,A,E⟩;obtain⟨aE,cE,hvE,_⟩:=(E.ints (by rw[A];exact L.out.2.2.2.2.1)).shape;subst hvE;have U:=(L.out.2.2.1 M a).1;have ae:=(L.out.2.2.1 M a).2))
    clear aC aD;have a5:=a.size;have q:=L.out.2.1 M _ lE a (OwnIn.of E (by rw[A];exact L.out.2.2.2.2.1) (λk hk _=>Nat.le_trans (by assumption) hk)) (by rw[A];exact ar);have C:Ext F (M.setCell ⟨g,kt,none⟩ (.slice aE lE.length cE)):=grown_own (grown_trans G a) (grown_set1 _ _ _ _) (λj Z u=>by cases Z;omega);rw[A] at q C;have H:=L.out.2.2.2.1;have I:=L.out.2.2.2.2.1;have HD:=Lib.hid (And.intro H I);clear H A I L;clear U ae e1 u Q bu hgB hgp hgl aI E a a5 hsE;go_wp2;rw[<-ah];clear ah;clear hi G;generalize M.setCell ⟨g,kt,none⟩ (.slice aE o.length cE)=w7 at *;go_loopw [17,18] (λpv iv wr=>∃(i:Nat) (p:Int),iv=.int .i64 i/\pv=.int .i64 p/\i<=t.length/\0<=p/\p<30000/\Ext F wr/\BX 18 o F.heap.size w5.heap.size wr (.slice W o.length co) (.slice (some ⟨g,0,none⟩) o.length K) (.slice T o.length O)) (λ_ iv _=>t.length-(intOf iv).toNat)
    case atStart=>exact⟨0,pw,rfl,rfl,by omega,aH.1,by have:=aH.2;omega,C,q⟩
    case round=>
     clear q C aH;obtain⟨i,p,rfl,rfl,hi,S,X,G,e⟩:=hrel;by_cases u:i<t.length
     ·have Q:(i:Int)<t.length:=by omega
      obtain⟨wo,hwo⟩:∃wo:World,wo=wr:=⟨_,rfl⟩;go_wp2;go_loopw [19] (λjv wx=>∃(J:Nat) (y:Int),jv=.int .i64 y/\y=((i+1+J:Nat):Int)/\i+1+J<=o.length/\Ext F wx/\BX 18 o F.heap.size w5.heap.size wx (.slice W o.length co) (.slice (some ⟨g,0,none⟩) o.length K) (.slice T o.length O)) (λjv _=>o.length-(intOf jv).toNat)
      case atStart=>exact⟨t.length-i-1,_,rfl,by omega,by omega,G,e⟩
      case round=>
       clear e G hwo;obtain⟨J,y,rfl,hy,hJ,G,e⟩:=hrel;by_cases bJ:i+1+J<o.length
       ·have bx:y<o.length:=by omega
        have bW:0<=y:=by omega
        obtain⟨gc,capc,b,ba,z2,hvc,hcB,hcp,U,hcell,hbB,hbp,hbg,hbl,av,aw⟩:=e.storeC i J (by omega) (by omega);obtain⟨rfl,rfl⟩:T=some ⟨gc,0,none⟩/\O=capc:=by cases hvc;exact⟨rfl,rfl⟩
        clear hvc;have e1:∀w',Near wr b w'->w'.cell? ⟨w5.heap.size,2,none⟩=some (.slice (some ⟨gc,0,none⟩) o.length O):=λw' h=>h.cell e.box.2.2.2.1 (by simp;omega);have e2:∀w',Near wr b w'->w'.cell? ⟨gc,i,none⟩=some (.slice (some ⟨b,0,none⟩) (o.length-1-i) ba):=λw' h=>h.cell hcell (by simp;omega);have bb:=HD.out.1
        have R:∀w',Ext F w'->Calls Tryz.prog 229 #[.slice a4 o.length c4,.int .i64 y,.int .i64 p] w' (Ret w' λaG r=>∃l,l.length=o.length/\Own w'.heap.size aG r l):=λw' he=>by
         rw[hy];exact bb w' _ p he S (by omega)
        have HY:=Lib.hid (And.intro e (And.intro aw (And.intro av (And.intro R hy))));clear e aw av R bb hcell;have bX:(J:Int)<((o.length-1-i:Nat):Int):=by omega
        have bY:(i:Int)<o.length:=by omega
        go_wp2;obtain⟨d,hd⟩:∃d,d=y-(i:Int):=⟨_,rfl⟩;have an:IntKind.i64.wrap (y-(i:Int))=d:=by rw[hd];exact IntWalk.i64_in _ (by omega)
        have aq:IntKind.i64.wrap (d-1)=(J:Int):=by rw[show d-1=(J:Int) by omega];exact IntWalk.i64_in _ (by omega)
        have aJ:wrap64 (y-(i:Int))=d:=by rw[hd];exact IntWalk.wrap64_in _ (by clear an aq;omega)
        have bA:wrap64 (d-1)=(J:Int):=by rw[show d-1=(J:Int) by clear an aJ aq;omega];exact IntWalk.wrap64_in _ (by clear an aJ aq;omega)
        clear hd hy
        go_region_held3 (λw'=>Near wr b w') (first|exact Near.of (grown_drew _ _)|exact Near.of (by assumption)|exact Near.store (by assumption)|assumption)
         (first
          | (go_at_call 229;refine Calls.mono (Calls.rel (w0:=wr) (by first|exact grown_drew _ _|assumption) (HY.out.2.2.2.1 _ (grown_trans G (by first|exact grown_drew _ _|assumption)))) ?_;rintro eE M ⟨vE,rfl,a,hsE,lE,A,E⟩;obtain⟨aE,cE,hvE,_⟩:=(E.ints (by rw[A];exact HD.out.2)).shape;subst hvE;have U:=(HY.out.2.2.1 M a).1;have ae:=(HY.out.2.2.1 M a).2))
        clear an aJ aq bA;have q:=HY.out.2.1 M _ lE a (OwnIn.of E (by rw[A];exact HD.out.2) (λk hk _=>Nat.le_trans (by assumption) hk)) (by rw[A];exact ar);have C:Ext F (M.setCell ⟨b,J,none⟩ (.slice aE lE.length cE)):=grown_own (grown_trans G a) (grown_set1 _ _ _ _) (λj Z u=>by cases Z;omega);rw[A] at q C;have bd:=HY.out.2.2.2.2;clear U ae e1 e2 A;have HZ:=Lib.hid bd;clear bd;go_wp2;go_roundw
        case rel=>exact⟨J+1,y+1,rfl,by have:=HZ.out;omega,by omega,C,q⟩
        case measure=>have:=HZ.out;simp[intOf];omega
       ·have bx:¬(y<o.length):=by omega
        obtain⟨bt,ot,rfl,_,_,hct⟩:=Ints.at (Ints.ext bl (grown_trans bm G)) i u;have be:2<=gt t i/\gt t i<=7:=HT.out.2.2.1 _ (by rw[gt_eq t i u];exact List.getElem_mem u);have ax:=l01Power_ok wr p (gt t i) m ⟨S,X⟩ (by omega) (by omega);have HP:=Lib.hid (And.intro be hy);clear be hy;go_wp2_with fail
        refine Calls.mono ax ?_;rintro eP wP ⟨vP,rfl,hgP,pn,rfl,hpn0,hpn1⟩;have C:=grown_trans G hgP;have bB:=e.ext hgP;clear e G ax;go_wp2;go_roundw
        case rel=>exact⟨i+1,pn,by go_num,rfl,by omega,hpn0,hpn1,C,bB⟩
        case measure=>simp[intOf];omega
     ·have Q:¬((i:Int)<t.length):=by omega
      have hz:=HN.out.2.2.2.1 _ (grown_trans D G);obtain⟨h0,h1,h2,h3',h4⟩:=id e.box;obtain⟨k0,k1,k2,k3,k4⟩:=id hz;have hZ:=hz.all (.slice W o.length co) (.slice (some ⟨g,0,none⟩) o.length K) (.slice T o.length O);have hT:=grown_set3 wr w.heap.size (.slice W o.length co) (.slice (some ⟨g,0,none⟩) o.length K) (.slice T o.length O);obtain⟨_,z0,z1,z2,_⟩:=id hZ;have HQ:=Lib.hid (And.intro hT e);clear hT hZ e;go_wp2;refine bodyPost_ret (v := .agg #[.slice W o.length co,(.slice (some ⟨g,0,none⟩) o.length K),(.slice T o.length O)]) (by simp[results,Tryz.results178,go_sem,z0,z1,z2]) rfl ?_;have bq:=HN.out.2.2.2.2.1;have br:=D.size;exact⟨_,rfl,grown_own (grown_trans aO (grown_trans D G)) HQ.out.1 (λj Z u=>by cases Z;omega),(HQ.out.2.ret HQ.out.1 (by omega)).weak (by omega)⟩
theorem BX.by {N:Nat}{o:List Int}{B pb:Nat}{w w':World}{vo vp vc:Value}(h:BX N o B pb w vo vp vc) {r:Option Nat}(b:w.grownBy w' r) (i:∀k,r=some k->k<B):BX N o B pb w' vo vp vc:=by
 obtain⟨P,h1,h2,h3⟩:=h.px;have hB:=h.hB;refine⟨hB,Box3.keep h.box b.size (b.block _ h.box.1 (λe=>by have:=i _ e.symm;omega)),P,h1,h2,h3.mono (λk hk a=>⟨hk,Nat.lt_of_lt_of_le a b.size,b.block k a (λe=>by have:=i _ e.symm;have:B<=k:=hk.1;omega)⟩)⟩
def NearS (w:World) (s g:Nat) (w':World):Prop:=∀k,k<w.heap.size->k≠s->k≠g->w'.heap[k]? = w.heap[k]?
theorem NearS.of {w w':World}{s g:Nat}(h:w.grownBy w' (some s)):NearS w s g w':=λk hk a _=>h.block k hk (λe=>a (by cases e;rfl))
theorem NearS.ext {w w':World}{s g:Nat}(h:Ext w w'):NearS w s g w':=NearS.of (grown_of_ext _ h)
theorem NearS.two {w a w':World}{s g:Nat}(h:w.grownBy a (some s)) (b:a.grownBy w' (some g)):NearS w s g w':=λk hk i j=>
 (b.block k (Nat.lt_of_lt_of_le hk h.size) (λe=>j (by cases e;rfl))).trans (h.block k hk (λe=>i (by cases e;rfl)))
theorem NearS.cell {w w':World}{s g:Nat}(h:NearS w s g w') {a:Addr}{v:Value}(i:w.cell? a=some v) (b:a.block≠g) (e:a.block≠s):w'.cell? a=some v:=
 (World.cell?_of_block (h a.block (World.block_lt_of_cell? w a i) e b)).trans i
theorem own_lit3 (w:World) (x y z:Int) {B:Nat}(hB:B<=w.heap.size):OwnIn (From B) (w.alloc (.cells #[.int .i64 x,.int .i64 y,.int .i64 z] 2)) (.slice (some ⟨w.heap.size,0,none⟩) 3 3) [x,y,z]:=
 OwnIn.of (Own.of (World.ownsRow_lit w #[.int .i64 x,.int .i64 y,.int .i64 z] 3 hB (by decide) rfl)) (by simp) (λk hk _=>hk)
def DrawR (a sb:Nat) (Φ : World->Value->Prop) (w':World) (v:Value):Prop := Φ w' v/\Src a w' sb
theorem l07Heisenberg_ok (B0:Nat) (w:World) (sb:Nat) (p:Int) (au:B0<=w.heap.size) (hs:Src B0 w sb) :
  Calls Tryz.prog 263 #[.pointer (some ⟨sb,0,none⟩),.int .i64 p] w (Mut w (some sb) (DrawR B0 sb (PresN 3 w.heap.size))):=by
 have av:∀w' r,(w.alloc (.cells #[.slice none 0 0,.slice none 0 0,.slice none 0 0] 28)).grownBy w' r->(∀k,r=some k->k≠w.heap.size)->Box3 w' w.heap.size (.slice none 0 0) (.slice none 0 0) (.slice none 0 0):=λw' r h hr=>
  Box3.keep (Box3.made w 28 _ _ _) h.size (h.block _ (by simp) (λe=>hr _ e.symm rfl))
 have aK:Ext w (w.alloc (.cells #[.slice none 0 0,.slice none 0 0,.slice none 0 0] 28)):=World.grownBy_alloc _ _ _;have aw:(w.alloc (.cells #[.slice none 0 0,.slice none 0 0,.slice none 0 0] 28)).heap.size=w.heap.size+1:=by simp
 have ax:=hs.lt;have J:=Lib.hid (And.intro av (And.intro aw (And.intro hs ax)));clear av aw hs ax;go_enter Tryz.func263,Tryz.ntmps263;go_wp2_with fail
 generalize w.alloc (.cells #[.slice none 0 0,.slice none 0 0,.slice none 0 0] 28)=w0 at *;have V:=own_lit3 w0 p p p (Nat.le_refl _);have ay:Ext w0 (w0.alloc (.cells #[.int .i64 p,.int .i64 p,.int .i64 p] 2)):=World.grownBy_alloc _ _ _;rw[J.out.2.1] at V;obtain⟨o,ho⟩:∃o,o=[p,p,p]:=⟨_,rfl⟩;have az:o.length=3:=by rw[ho];rfl
 rw[<-ho] at V;clear ho;have aX:(w0.alloc (.cells #[.int .i64 p,.int .i64 p,.int .i64 p] 2)).heap.size=w.heap.size+2:=by simp[J.out.2.1]
 generalize w0.alloc (.cells #[.int .i64 p,.int .i64 p,.int .i64 p] 2)=w1 at *;refine Calls.mono (l07Trivial_ok w1 _ o _ V.ints (by omega)) ?_;rintro e5 w5 ⟨v5,rfl,L,vo,vp,vc,rfl,hX5⟩;obtain⟨W,co,ap,K,ac,M,h1,h2,h3⟩:=trivX_shape hX5;subst h1 h2 h3;have X:=Lib.hid az;clear az;go_wp2_with fail
 have O:Ext w5 (w5.alloc (.cells #[.slice W o.length co,.slice ap o.length K,.slice ac o.length M] 28)):=World.grownBy_alloc _ _ _;have hX:=BX.start (N:=3) (B:=w1.heap.size) (by have:=X.out;omega) hX5 O (Box3.made w5 28 (.slice W o.length co) (.slice ap o.length K) (.slice ac o.length M)) L.size;have aY:=L.size;generalize w5.alloc (.cells #[.slice W o.length co,.slice ap o.length K,.slice ac o.length M] 28)=A at *;have aM:Ext w A:=grown_trans aK (grown_trans ay (grown_trans L O));have aA:Ext w0 A:=grown_trans ay (grown_trans L O);clear hX5 V L;obtain⟨gc,capc,b,capb,z2,hvc,hcB,hcp,Y,C,hbB,hbp,hbg,hbl,hcc2,hst2⟩:=hX.storeC 0 0 (by have:=X.out;omega) (by have:=X.out;omega);obtain⟨rfl,rfl⟩:ac=some ⟨gc,0,none⟩/\M=capc:=by cases hvc;exact⟨rfl,rfl⟩
 clear hvc;have q:Ext A (A.alloc (.cells #[.int .i64 0,.int .i64 1,.int .i64 1] 2)):=World.grownBy_alloc _ _ _;have aN:=own_lit3 A 0 1 1 (Nat.le_refl _);have c1:=(hX.ext q).box.2.2.2.1;have c2:=q.cell C (by simp);obtain⟨c3,c4⟩:=hcc2 _ q;have k1:=hX.box.2.2.2.1;have aj:=hst2 _ _ _ q aN (by simp);have aZ:=q.size;have Z:Ext w ((A.alloc (.cells #[.int .i64 0,.int .i64 1,.int .i64 1] 2)).setCell ⟨b,0,none⟩ (.slice (some ⟨A.heap.size,0,none⟩) 3 3)):=grown_own (grown_trans aM q) (grown_set1 _ _ _ _) (λj D E=>by cases D;omega);have Q:Ext w0 ((A.alloc (.cells #[.int .i64 0,.int .i64 1,.int .i64 1] 2)).setCell ⟨b,0,none⟩ (.slice (some ⟨A.heap.size,0,none⟩) 3 3)):=grown_own (grown_trans aA q) (grown_set1 _ _ _ _) (λj D E=>by cases D;have:=J.out.2.1;omega);clear hst2 hX;obtain⟨m,hm⟩:∃m,m=o.length-1-0:=⟨_,rfl⟩;have a0:(0:Int)<m:=by have:=X.out;omega
 have a1:0<o.length:=by have:=X.out;omega
 have a2:1<o.length:=by have:=X.out;omega
 have a3:0<m:=by have:=X.out;omega
 have aP:(0:Int)<o.length:=by have:=X.out;omega
 have a4:(1:Int)<o.length:=by have:=X.out;omega
 rw[<-hm] at C c2;clear hm
 have heq:(A.alloc (.cells #[.int .i64 0,.int .i64 1,.int .i64 1] 2)).setCell ⟨b,0,none⟩ (.slice (some ⟨A.heap.size,0,none⟩) 3 3)=(A.setCell ⟨b,0,none⟩ (.slice (some ⟨A.heap.size,0,none⟩) 3 3)).alloc (.cells #[.int .i64 0,.int .i64 1,.int .i64 1] 2):=by
  simp[go_sem,hbl]
 rw[heq] at aj Z Q
 have i1:∀w',(Instr.indexAt 26 (.slice (some ⟨gc,0,none⟩) o.length M) (.int .i64 0)).run Tryz.prog w'=.ok (.pointer (some ⟨gc,0,none⟩)) w':=λw'=>by
  rw[run_indexAt_slice (h:=by rfl),if_pos ⟨by decide,aP⟩];kernel_rfl
 go_wp2;rw[i1];clear i1;go_wp2_with fail
 generalize (A.setCell ⟨b,0,none⟩ (.slice (some ⟨A.heap.size,0,none⟩) 3 3)).alloc (.cells #[.int .i64 0,.int .i64 1,.int .i64 1] 2)=w7 at *;have a6:=J.out.2.2.2;refine Calls.mono (l01Next_ok B0 w7 sb 2 (J.out.2.2.1.ext Z)) ?_;rintro e8 w8 ⟨v8,rfl,aa,x,rfl,hx0,hx1,al⟩;have I:=aj.by aa (λk e=>by cases e;omega)
 have R:=grown_trans (grown_of_ext (some sb) Z) aa;have F:=grown_trans (grown_of_ext (some sb) Q) aa;clear aj aa Z Q c1 c2 c3 c4 k1 hx0 hx1 C hcc2 heq;by_cases hx:x=0
 ·subst hx
  go_wp2;obtain⟨g,capg,z,hvg,hgB,hgp,hgl,hcc,hst⟩:=I.storeP 0 (by omega);obtain⟨rfl,rfl⟩:ap=some ⟨g,0,none⟩/\K=capg:=by cases hvg;exact⟨rfl,rfl⟩
  clear hvg;have e1:∀w',NearS w8 sb g w'->w'.cell? ⟨w5.heap.size,1,none⟩=some (.slice (some ⟨g,0,none⟩) o.length K):=λw' h=>h.cell I.box.2.2.1 (by simp;omega) (by simp;omega);have ab:=Lib.hid (And.intro I (And.intro al (And.intro R F)));clear I al R F hcc hst
  go_region_held3 (λw'=>NearS w8 sb g w') (first|exact NearS.ext (grown_drew _ _)|exact NearS.of (by assumption)|exact NearS.of q|exact NearS.two a (grown_trans (grown_set1 _ _ _ _) (grown_of_ext _ (World.grownBy_alloc _ _ _)))|assumption)
   (first
    | (go_at_call 84;refine Calls.mono (l01Next_ok B0 w8.drew sb p (ab.out.2.1.ext (grown_drew _ _))) ?_;rintro e9 i ⟨v9,rfl,a,xa,rfl,hx0,hx1,hs9⟩;have a:w8.grownBy i (some sb):=grown_trans (grown_of_ext (some sb) (grown_drew _ _)) a;have q:w8.grownBy (i.alloc (.cells #[.int .i64 0,.int .i64 0,.int .i64 xa] 2)) (some sb):=grown_trans a (grown_of_ext _ (World.grownBy_alloc _ _ _));have S:=ab.out.1.by a (λk e=>by cases e;omega);obtain⟨g',capg',z',hvg',_,_,_,y,hst9⟩:=S.storeP 0 (by omega);cases hvg';have Y:=(y (i.alloc (.cells #[.int .i64 0,.int .i64 0,.int .i64 xa] 2)) (World.grownBy_alloc _ _ _)).1;have am:=(y (i.alloc (.cells #[.int .i64 0,.int .i64 0,.int .i64 xa] 2)) (World.grownBy_alloc _ _ _)).2))
  have G:=hst9 _ _ _ (World.grownBy_alloc _ _ _) (own_lit3 i 0 0 xa (Nat.le_refl _)) (by simp)
  have hq:(i.alloc (.cells #[.int .i64 0,.int .i64 0,.int .i64 xa] 2)).setCell ⟨g,0,none⟩ (.slice (some ⟨i.heap.size,0,none⟩) 3 3)=(i.setCell ⟨g,0,none⟩ (.slice (some ⟨i.heap.size,0,none⟩) 3 3)).alloc (.cells #[.int .i64 0,.int .i64 0,.int .i64 xa] 2):=by
   simp[go_sem,Nat.lt_of_lt_of_le hgl a.size]
  rw[hq] at G;have H:i.grownBy ((i.setCell ⟨g,0,none⟩ (.slice (some ⟨i.heap.size,0,none⟩) 3 3)).alloc (.cells #[.int .i64 0,.int .i64 0,.int .i64 xa] 2)) (some g):=grown_trans (grown_set1 _ _ _ _) (grown_of_ext _ (World.grownBy_alloc _ _ _));have ag:=hs9.own H (λk e=>by cases e;omega);have ah:=grown_own (grown_trans ab.out.2.2.1 a) H (λj D E=>by cases D;omega);have T:=grown_own (grown_trans ab.out.2.2.2 a) H (λj D E=>by cases D;have:=J.out.2.1;omega);have ad:=G;clear G hq H Y am y hst9 S q a hs9 hx0 hx1 e1;go_wp2;generalize (i.setCell ⟨g,0,none⟩ (.slice (some ⟨i.heap.size,0,none⟩) 3 3)).alloc (.cells #[.int .i64 0,.int .i64 0,.int .i64 xa] 2)=wA at *;have aV:=J.out.2.1;obtain⟨g2,capg,z,hvg,hgB,hgp,hgl,hcc,hst⟩:=ad.storeP 1 (by omega);cases hvg
  have e1:∀w',NearS wA sb g w'->w'.cell? ⟨w5.heap.size,1,none⟩=some (.slice (some ⟨g,0,none⟩) o.length K):=λw' h=>h.cell ad.box.2.2.1 (by simp;omega) (by simp;omega);have ae:=Lib.hid (And.intro ad (And.intro ag (And.intro ah T)));clear ad ag ah T hcc hst
  go_region_held3 (λw'=>NearS wA sb g w') (first|exact NearS.ext (grown_drew _ _)|exact NearS.of (by assumption)|exact NearS.of q|exact NearS.two a (grown_trans (grown_set1 _ _ _ _) (grown_of_ext _ (World.grownBy_alloc _ _ _)))|assumption)
   (first
    | (go_at_call 84;refine Calls.mono (l01Next_ok B0 wA.drew sb p (ae.out.2.1.ext (grown_drew _ _))) ?_;rintro e9 l ⟨v9,rfl,a,xb,rfl,hx0,hx1,hs9⟩;have a:wA.grownBy l (some sb):=grown_trans (grown_of_ext (some sb) (grown_drew _ _)) a;have q:wA.grownBy (l.alloc (.cells #[.int .i64 0,.int .i64 0,.int .i64 xb] 2)) (some sb):=grown_trans a (grown_of_ext _ (World.grownBy_alloc _ _ _));have S:=ae.out.1.by a (λk e=>by cases e;omega);obtain⟨g',capg',z',hvg',_,_,_,y,hst9⟩:=S.storeP 1 (by omega);cases hvg';have Y:=(y (l.alloc (.cells #[.int .i64 0,.int .i64 0,.int .i64 xb] 2)) (World.grownBy_alloc _ _ _)).1;have am:=(y (l.alloc (.cells #[.int .i64 0,.int .i64 0,.int .i64 xb] 2)) (World.grownBy_alloc _ _ _)).2))
  have G:=hst9 _ _ _ (World.grownBy_alloc _ _ _) (own_lit3 l 0 0 xb (Nat.le_refl _)) (by simp)
  have hq:(l.alloc (.cells #[.int .i64 0,.int .i64 0,.int .i64 xb] 2)).setCell ⟨g,1,none⟩ (.slice (some ⟨l.heap.size,0,none⟩) 3 3)=(l.setCell ⟨g,1,none⟩ (.slice (some ⟨l.heap.size,0,none⟩) 3 3)).alloc (.cells #[.int .i64 0,.int .i64 0,.int .i64 xb] 2):=by
   simp[go_sem,Nat.lt_of_lt_of_le hgl a.size]
  rw[hq] at G;have H:l.grownBy ((l.setCell ⟨g,1,none⟩ (.slice (some ⟨l.heap.size,0,none⟩) 3 3)).alloc (.cells #[.int .i64 0,.int .i64 0,.int .i64 xb] 2)) (some g):=grown_trans (grown_set1 _ _ _ _) (grown_of_ext _ (World.grownBy_alloc _ _ _));have aR:=hs9.own H (λk e=>by cases e;omega);have aD:=grown_own (grown_trans ae.out.2.2.1 a) H (λj D E=>by cases D;omega);have an:=grown_own (grown_trans ae.out.2.2.2 a) H (λj D E=>by cases D;have:=J.out.2.1;omega);have aE:=G;clear G hq H Y am y hst9 S q a hs9 hx0 hx1 e1;generalize (l.setCell ⟨g,1,none⟩ (.slice (some ⟨l.heap.size,0,none⟩) 3 3)).alloc (.cells #[.int .i64 0,.int .i64 0,.int .i64 xb] 2)=wB at *;have hz:=J.out.1 wB (some sb) an (λk e=>by cases e;have:=J.out.2.2.2.2;omega);obtain⟨h0,h1,h2,h3',h4⟩:=id aE.box;obtain⟨k0,k1,k2,k3,k4⟩:=id hz;have hZ:=hz.all (.slice W o.length co) (.slice (some ⟨g,0,none⟩) o.length K) (.slice (some ⟨gc,0,none⟩) o.length M);have H:=grown_set3 wB w.heap.size (.slice W o.length co) (.slice (some ⟨g,0,none⟩) o.length K) (.slice (some ⟨gc,0,none⟩) o.length M);obtain⟨_,z0,z1,z2,_⟩:=id hZ;have U:=Lib.hid (And.intro H (And.intro aE aR));clear H hZ;go_wp2;refine bodyPost_ret (v := .agg #[.slice W o.length co,(.slice (some ⟨g,0,none⟩) o.length K),.slice (some ⟨gc,0,none⟩) o.length M]) (by simp[results,Tryz.results263,go_sem,z0,z1,z2]) rfl ?_;exact⟨_,rfl,grown_own aD U.out.1 (λj D E=>by cases D;omega),(U.out.2.1.ret U.out.1 (by omega)).weak (by omega),U.out.2.2.own U.out.1 (λk e=>by cases e;exact au)⟩
 ·skip
  have hz:=J.out.1 w8 (some sb) F (λk e=>by cases e;have:=J.out.2.2.2.2;omega);obtain⟨h0,h1,h2,h3',h4⟩:=id I.box;obtain⟨k0,k1,k2,k3,k4⟩:=id hz;have hZ:=hz.all (.slice W o.length co) (.slice ap o.length K) (.slice (some ⟨gc,0,none⟩) o.length M);have H:=grown_set3 w8 w.heap.size (.slice W o.length co) (.slice ap o.length K) (.slice (some ⟨gc,0,none⟩) o.length M);obtain⟨_,z0,z1,z2,_⟩:=id hZ;have U:=Lib.hid (And.intro H (And.intro I al));clear H hZ;go_wp2;refine bodyPost_ret (v := .agg #[.slice W o.length co,(.slice ap o.length K),.slice (some ⟨gc,0,none⟩) o.length M]) (by simp[results,Tryz.results263,go_sem,z0,z1,z2]) rfl ?_;exact⟨_,rfl,grown_own R U.out.1 (λj D E=>by cases D;omega),(U.out.2.1.ret U.out.1 (by omega)).weak (by omega),U.out.2.2.own U.out.1 (λk e=>by cases e;exact au)⟩
end Go.Proofs.YtoakmefajbbggaaGreat
