/- Merged from templates. -/
import Derived.Test.YtdcobapnlpeaaaaGreatX1
import Derived.StillTailTactics
import Derived.Deep.LoopGhost
import Derived.Lib.AppendZeros
set_option maxRecDepth 100000
set_option maxHeartbeats 8000000
namespace Go.Proofs.YtdcobapnlpeaaaaGreat
open Go.RowKit
theorem run_head (w:World) (a:Option Addr) (n cap:Nat) (k:Int) (b:0<=k) (h1:k<=cap) :
  (Instr.slice 24 (.slice a n cap) none (some (.int .i64 k)) none).run Tryz.prog w=.ok (.slice a k.toNat cap) w:=by
 rw[run_slice_h w 24 a n cap (by kernel_rfl) .i64 k b h1];have:(sizeOf (Tryz.prog.elem 24)).run Tryz.prog w=.ok 1 w:=by kernel_rfl
 rw[this];simp only[Result.andThen,sliced,Nat.sub_zero,Nat.zero_mul];have e:(a.map λx=>x.add 0)=a:=by cases a<;>simp[Addr.add]
 split
 ·rfl
 ·rw[e]
theorem head_ints {S:Nat->Prop}{w:World}{a:Option Addr}{n cap:Nat}{xs:List Int}(h:Ints S w (.slice a n cap) xs) (k:Nat) (hk:k<=xs.length):Ints S w (.slice a k cap) (xs.take k):=by
 obtain⟨a',cap',hv,hl,hc⟩:=h;cases hv
 have e:(xs.take k).length=k:=by simp;omega
 refine⟨a,cap,by rw[e],⟨by omega,by omega,hl.2.2⟩,λi g => ?_⟩;obtain⟨b,off,u,h1,h2,h3,h4,h5⟩:=hc i (by omega);refine⟨b,off,u,h1,h2,h3,h4,?_⟩;have:gt (xs.take k) i=gt xs i:=by simp only[gt,List.getD_eq_getElem?_getD,List.getElem?_take];rw[if_pos (by omega)]
 rw[this];exact h5
def tailB (o:List Int) (i:Nat) (e:List Int):Bool:=expB o e && isZeroB (e.take (i+1))
theorem expB_vec {o e:List Int} : expB o e=true↔Vec o e:=by
 unfold expB Vec;rw[Bool.and_eq_true,decide_eq_true_eq,allB_true];constructor
 ·rintro ⟨h1,a⟩
  exact⟨h1,λi b=>by have:=inB_true.1 (a i (by omega));omega⟩
 ·rintro ⟨h1,a⟩
  exact⟨h1,λi b=>by have:=a i (by omega);exact inB_true.2 (by omega)⟩
theorem isZeroB_true {l:List Int} : isZeroB l=true↔∀i,i<l.length->gt l i=0:=by
 unfold isZeroB;rw[allB_true];simp
theorem gt_take {l:List Int}{k i:Nat}(h:i<k):gt (l.take k) i=gt l i:=by
 simp only[gt,List.getD_eq_getElem?_getD,List.getElem?_take];rw[if_pos h]
theorem gt_big {l:List Int}{i:Nat}(h:l.length<=i):gt l i=0:=by
 simp only[gt,List.getD_eq_getElem?_getD];rw[List.getElem?_eq_none h];rfl
theorem tailB_vec {o e:List Int}{i:Nat} : tailB o i e=true↔Vec o e/\ZeroTo i e:=by
 unfold tailB;rw[Bool.and_eq_true,expB_vec,isZeroB_true];constructor
 ·rintro ⟨h1,h2⟩
  refine⟨h1,λk hk => ?_⟩;by_cases a:k<e.length
  ·have:=h2 k (by simp;omega)
   rwa [gt_take (by omega)] at this
  ·exact gt_big (by omega)
 ·rintro ⟨h1,h2⟩
  refine⟨h1,λk hk => ?_⟩;simp at hk
  rw[gt_take (by omega)];exact h2 k (by omega)
theorem expZB_vec {o e:List Int}{i:Nat} : expZB o e i=true↔Vec o e/\ZeroTo i e:=by
 rw[<-tailB_vec];unfold expZB tailB expB;rw[Bool.and_eq_true,Bool.and_eq_true,Bool.and_eq_true,allB_true,allB_true,isZeroB_true];constructor
 ·rintro ⟨h1,b⟩
  refine⟨⟨h1,λk hk=>((Bool.and_eq_true _ _).mp (b k hk)).1⟩,λk hk => ?_⟩;rw[List.length_take] at hk;rw[gt_take (by omega)];have:=((Bool.and_eq_true _ _).mp (b k (by omega))).2;simp at this
  rcases this with h|h
  ·omega
  ·exact h
 ·rintro ⟨⟨h1,b⟩,h3⟩
  refine⟨h1,λk hk => ?_⟩;rw[Bool.and_eq_true];refine⟨b k hk,?_⟩;simp;rcases Nat.lt_or_ge i k with a|a
  ·exact .inl a
  ·have:=h3 k (by rw[List.length_take];omega)
   rw[gt_take (by omega)] at this;exact .inr this
theorem tailVector_ok (w:World) (p v:Value) (P:Pr) (e:List Int) (i:Nat) (S S':Nat->Prop) (l:PresP S w p P) (g:Ints S' w v e) (m:∀i,i<P.orders.length->0<=gt P.orders i/\gt P.orders i<=7)
  (y:i<P.orders.length) (z:P.orders.length<=6) :
  Calls Tryz.prog 285 #[p,.int .i64 i,v] w λj w'=>j=.returned (.bool (tailB P.orders i e))/\w=w':=by
 obtain⟨a,cap,rfl,hcap,_⟩:=g.shape;cases hx:expB P.orders e with
 | false=>
  have k:=Lib.hid hx;clear hx;go_enter Tryz.func285,Tryz.ntmps285;have q:=k.out;go_wp2_with (go_at_call 116;refine(isExponents_ok _ _ _ P e S S' l g m).mono ?_;rintro j n ⟨rfl,rfl⟩)
  go_ret;exact⟨ret_b (by rw[tailB,k.out,Bool.false_and]),rfl⟩
 | true=>
  have b:=expB_vec.1 hx;have r:P.orders.length<=e.length:=by rw[b.1];omega
  have A:=λw=>run_head w a e.length cap ((i:Int)+1) (by omega) (by omega);have u:=head_ints g (i+1) (by omega);have k:=Lib.hid hx;clear b;go_enter Tryz.func285,Tryz.ntmps285
  go_wp2_with (first
   | (go_at_call 116;refine(isExponents_ok _ _ _ P e S S' l g m).mono ?_;rintro j n ⟨rfl,rfl⟩)
   | (go_at_call 208;refine(isZero_ok _ _ _ S' u).mono ?_;rintro j n ⟨rfl,rfl⟩))
  go_ret;exact⟨ret_b (by rw[tailB,k.out,Bool.true_and]),rfl⟩
theorem primeB_true {n:Int} : primeB n=true↔n=2\/n=3\/n=5\/n=7:=by simp[primeB]
theorem prodTo_pos {l:List Int}(k:Nat) (h:∀i,i<k->1<=gt l i):1<=prodTo l k:=by
 induction k with
 | zero=>simp[prodTo]
 | succ k a=>
  have h1:=a (λi e=>h i (by omega));have b:=h k (by omega);have:=Int.mul_le_mul h1 b (by omega) (by omega);simp only[prodTo];omega
theorem prodTo_mono {l:List Int}(k n:Nat) (a:k<=n) (h:∀i,i<n->1<=gt l i):prodTo l k<=prodTo l n:=by
 induction n with
 | zero=>have:k=0:=(by omega);rw[this];exact Int.le_refl _
 | succ n b=>
  rcases Nat.lt_or_ge n k with h1|h1
  ·have:k=n+1:=by omega
   rw[this];exact Int.le_refl _
  ·have j:=b h1 (λi e=>h i (by omega))
   have g:=h n (by omega);have m:=prodTo_pos (l:=l) n (λi e=>h i (by omega));have p:prodTo l n*1<=prodTo l n*gt l n:=Int.mul_le_mul_of_nonneg_left g (by omega);simp only[prodTo];omega
open Classical in
noncomputable def validB (P:Pr):Bool:=decide (Valid P)
theorem validB_true {P:Pr}(h:Valid P):validB P=true:=by simp[validB,h]
theorem validB_false {P:Pr}(h:¬Valid P):validB P=false:=by simp[validB,h]
theorem valid_of {P:Pr}(h:validB P=true):Valid P:=by simpa [validB] using h
theorem Valid.pos {P:Pr}(h:Valid P) (i:Nat) (a:i<P.orders.length):1<=gt P.orders i:=by have:=h.ord7 i a;omega
theorem Valid.pre {P:Pr}(h:Valid P) (k:Nat) (hk:k<=P.orders.length):prodTo P.orders k<=729:=
 Int.le_trans (prodTo_mono k _ hk (λi a=>h.pos i a)) h.le729
theorem isPresentation_ok (w:World) (pv:Value) (P:Pr) (S:Nat->Prop) (hp:PresV S w pv P) :
  Calls Tryz.prog 218 #[pv] w (Ret w λ_ v=>v=.bool (validB P)):=by
 obtain⟨vo,vp,vc,rfl,h3⟩:=hp;have e:=PresP.box h3 28;have g:Ext w (w.alloc (.cells #[vo,vp,vc] 28)):=World.grownBy_alloc _ _ _;go_enter Tryz.func218,Tryz.ntmps218;obtain⟨ao,capo,fo,hoi⟩:=e.ordAt;obtain⟨ap,capp,gW,hpi⟩:=e.powAt;obtain⟨ac,capc,hcc,gH⟩:=e.conjAt;by_cases C:P.orders.length<=6;rotate_left
 ·have K:decide ((6:Int)<(P.orders.length:Int))=true:=by simp;omega
  go_wp2;go_ret;exact ret_bool g (validB_false (λh=>C h.n6)).symm
 have V:decide ((6:Int)<(P.orders.length:Int))=false:=by simp;omega
 by_cases m:P.powers.length=P.orders.length;rotate_left
 ·have K:((P.powers.length:Int) != (P.orders.length:Int))=true:=by simp;omega
  have T:=Lib.hid m;clear m;go_wp2;go_ret;exact ret_bool g (validB_false (λh=>T.out h.pl)).symm
 have W:((P.powers.length:Int) != (P.orders.length:Int))=false:=by simp[m]
 by_cases p:P.conj.length=P.orders.length;rotate_left
 ·have K:((P.conj.length:Int) != (P.orders.length:Int))=true:=by simp;omega
  have T:=Lib.hid m;clear m;have X:=Lib.hid p;clear p;go_wp2;go_ret;exact ret_bool g (validB_false (λh=>X.out h.cl)).symm
 have Y:((P.conj.length:Int) != (P.orders.length:Int))=false:=by simp[p]
 have aj:P.powers.length<=P.orders.length/\P.orders.length<=P.powers.length:=by omega
 have ak:P.conj.length<=P.orders.length/\P.orders.length<=P.conj.length:=by omega
 have T:=Lib.hid m;clear m;have X:=Lib.hid p;clear p;go_wp2;clear V W Y;generalize Z:w.alloc (.cells #[vo,vp,vc] 28)=w0 at *;clear Z;go_loop [4,32] (λpr i=>∃k:Nat,i=.int .i64 k/\pr=.int .i64 (prodTo P.orders k)/\k<=P.orders.length/\prodTo P.orders k<=729/\∀i,i<k->primeB (gt P.orders i)=true) (λ_ i=>P.orders.length-(intOf i).toNat)
 case atStart=>exact⟨0,rfl,rfl,by omega,by simp[prodTo],λi l=>by omega⟩
 case round =>
  obtain⟨k,rfl,rfl,hk,hle,z⟩:=hrel;have aa:1<=prodTo P.orders k:=prodTo_pos k (λi l=>by have:=primeB_true.1 (z i l);omega);have HZ:=Lib.hid z;clear z;by_cases a:k<P.orders.length
  ·obtain ⟨b,off,rfl,_,_,hc⟩:=Ints.at hoi k a
   cases hx:primeB (gt P.orders k) with
   | false=>
    have L:=Lib.hid hx;go_wp2_with (go_at_call 284;refine(isGroupPrime_ok _ _).mono ?_;rintro D E ⟨rfl,rfl⟩)
    go_ret;exact ret_bool g (validB_false (λh=>by have:=primeB_true.2 (h.ord k a);rw[L.out] at this;cases this)).symm
   | true=>
    have ad:=primeB_true.1 hx;have F:2<=gt P.orders k/\gt P.orders k<=7:=by omega
    have al:2<=gt P.orders k:=F.1;have am:gt P.orders k<=7:=F.2;have au:0<=prodTo P.orders k*gt P.orders k:=Int.mul_nonneg (by omega) (by omega)
    have av:prodTo P.orders k*gt P.orders k<=5103:=by
     have h1:prodTo P.orders k*gt P.orders k<=729*gt P.orders k:=Int.mul_le_mul_of_nonneg_right hle (by omega);omega
    have q:prodTo P.orders (k+1)=prodTo P.orders k*gt P.orders k:=rfl;have G:=Lib.hid q;clear q ad F;by_cases M:prodTo P.orders k*gt P.orders k<=729
    ·go_wp2_with (go_at_call 284;refine(isGroupPrime_ok _ _).mono ?_;rintro D E ⟨rfl,rfl⟩)
     go_round
     case rel=>exact⟨k+1,by go_num,by rw[G.out],by omega,by rw[G.out];exact M,λi l=>by
      rcases Nat.lt_or_ge i k with h1|h1
      ·exact HZ.out i h1
      ·have:i=k:=by omega
       rw[this];exact hx⟩
     case measure=>simp[intOf];omega
    ·go_wp2_with (go_at_call 284;refine(isGroupPrime_ok _ _).mono ?_;rintro D E ⟨rfl,rfl⟩)
     go_ret;exact ret_bool g (validB_false (λh=>by have:=h.pre (k+1) a;rw[G.out] at this;omega)).symm
  ·have H : k=P.orders.length:=by omega
   subst H;have B:∀i,i<P.orders.length->0<=gt P.orders i/\gt P.orders i<=7:=λi l=>by have:=primeB_true.1 (HZ.out i l);omega
   have N:=Lib.hid B;clear B;have ae:=Lib.hid hle;clear hle aa;go_wp2;clear hcc gW fo;go_loop [50] (λi=>∃k:Nat,i=.int .i64 k/\k<=P.orders.length/\∀i,i<k->tailB P.orders i (gt P.powers i)=true/\(gt P.conj i).length=P.orders.length-1-i/\∀j,j<P.orders.length-1-i->tailB P.orders i (gt (gt P.conj i) j)=true) (λi=>P.orders.length-(intOf i).toNat)
   case atStart=>exact⟨0,rfl,by omega,λi l=>by omega⟩
   case round =>
    obtain⟨k,rfl,hk,z⟩:=hrel;have A:=Lib.hid z;clear z;by_cases a:k<P.orders.length
    ·obtain ⟨ap,capp,gW,hpi⟩:=e.powAt
     obtain⟨ac,capc,hcc,gH⟩:=e.conjAt;obtain⟨b1,o1,a2,cap2,rfl,_,_,hc2,I⟩:=Rows2.at hpi k (by omega);obtain⟨b3,o3,a4,Cl,rfl,_,_,jQ,hi4⟩:=Rows3.at gH k (by omega);have r:tailB P.orders k (gt P.powers k)=false->validB P=false:=λhx=>validB_false (λh=>by have:=tailB_vec.2 (h.pv k a);rw[hx] at this;cases this);have u:¬(gt P.conj k).length=P.orders.length-1-k->validB P=false:=λhx=>validB_false (λh=>hx (h.cv k a).1);have y:∀j,j<P.orders.length-1-k->tailB P.orders k (gt (gt P.conj k) j)=false->validB P=false:=λj U hx=>validB_false (λh=>by have:=tailB_vec.2 ((h.cv k a).2 j U);rw[hx] at this;cases this);have af:=Lib.hid r;have ag:=Lib.hid u;have ah:=Lib.hid y;clear r u y;cases hx:tailB P.orders k (gt P.powers k) with
     | false=>
      have L:=Lib.hid hx;go_wp2_with (go_at_call 285;refine(tailVector_ok _ _ _ P _ k Any Any e I N.out a C).mono ?_;rintro D E ⟨rfl,rfl⟩)
      go_ret;exact ret_bool g (af.out L.out).symm
     | true =>
      have L:=Lib.hid hx;by_cases n:(gt P.conj k).length=P.orders.length-1-k
      ·have K:(((gt P.conj k).length:Int) != (P.orders.length:Int)-1-k)=false:=by simp;omega
       have aw:(gt P.conj k).length<=P.orders.length-1-k/\P.orders.length-1-k<=(gt P.conj k).length:=by omega
       have J:=Lib.hid n;clear n;go_wp2_with (go_at_call 285;refine(tailVector_ok _ _ _ P _ k Any Any e I N.out a C).mono ?_;rintro D E ⟨rfl,rfl⟩)
       clear K hx gW hc2;go_loop [80] (λi=>∃j:Nat,i=.int .i64 j/\j<=(gt P.conj k).length/\∀i,i<j->tailB P.orders k (gt (gt P.conj k) i)=true) (λi=>(gt P.conj k).length-(intOf i).toNat)
       case atStart=>exact⟨0,rfl,by omega,λi l=>by omega⟩
       case round=>
        obtain⟨j,rfl,U,z⟩:=hrel;have O:=Lib.hid z;clear z;by_cases Q:j<(gt P.conj k).length
        ·obtain ⟨b5,o5,a6,Ek,rfl,_,_,qL,R⟩:=Rows2.at hi4 j Q
         cases hy:tailB P.orders k (gt (gt P.conj k) j) with
         | false=>
          have HY:=Lib.hid hy;go_wp2_with (go_at_call 285;refine(tailVector_ok _ _ _ P _ k Any Any e R N.out a C).mono ?_;rintro D E ⟨rfl,rfl⟩)
          go_ret;exact ret_bool g (ah.out j (by omega) HY.out).symm
         | true=>
          have HY:=Lib.hid hy;go_wp2_with (go_at_call 285;refine(tailVector_ok _ _ _ P _ k Any Any e R N.out a C).mono ?_;rintro D E ⟨rfl,rfl⟩)
          go_round
          case rel=>exact⟨j+1,by go_num,by omega,λi l=>by
           rcases Nat.lt_or_ge i j with h1|h1
           ·exact O.out i h1
           ·have:i=j:=by omega
            rw[this];exact HY.out⟩
          case measure=>simp[intOf];omega
        ·have ax:j=(gt P.conj k).length:=by omega
         go_wp2;go_round
         case rel=>exact⟨k+1,by go_num,by omega,λi l=>by
          rcases Nat.lt_or_ge i k with h1|h1
          ·exact A.out i h1
          ·have:i=k:=by omega
           rw[this];exact⟨L.out,J.out,λi l=>O.out i (by omega)⟩⟩
         case measure=>simp[intOf];omega
      ·have K:(((gt P.conj k).length:Int) != (P.orders.length:Int)-1-k)=true:=by simp;omega
       have J:=Lib.hid n;clear n;go_wp2_with (go_at_call 285;refine(tailVector_ok _ _ _ P _ k Any Any e I N.out a C).mono ?_;rintro D E ⟨rfl,rfl⟩)
       go_ret;exact ret_bool g (ag.out J.out).symm
    ·have H:k=P.orders.length:=by omega
     subst H;go_wp2;go_ret;refine ret_bool g (validB_true ?_).symm
     exact ⟨ae.out,C,T.out,X.out,λi l=>primeB_true.1 (HZ.out i l),λi l=>tailB_vec.1 (A.out i l).1,
      λi l=>⟨(A.out i l).2.1,λj U=>tailB_vec.1 ((A.out i l).2.2 j U)⟩⟩
def capTo (l:List Int):Nat->Int
 | 0=>1
 | k+1=>if capTo l k<=729 then capTo l k*gt l k else capTo l k
theorem capTo_le {l:List Int}(n:Nat) (h:∀i,i<n->1<=gt l i):(capTo l n<=729↔prodTo l n<=729)/\(capTo l n<=729->capTo l n=prodTo l n):=by
 induction n with
 | zero=>simp[capTo,prodTo]
 | succ n b=>
  obtain⟨h1,e⟩:=b (λi k=>h i (by omega));simp only[capTo];split
  ·rename_i a
   rw[e a];exact⟨Iff.rfl,λ_=>rfl⟩
  ·rename_i a
   have g:=prodTo_mono (l:=l) n (n+1) (by omega) h;have j:¬prodTo l n<=729:=λh=>a (h1.2 h);exact⟨⟨λh=>absurd h a,λh=>absurd (Int.le_trans g h) j⟩,λh=>absurd h a⟩
theorem capTo_bd {l:List Int}(n:Nat) (h:∀i,i<n->1<=gt l i/\gt l i<=7):1<=capTo l n/\capTo l n<=5103:=by
 induction n with
 | zero=>simp[capTo]
 | succ n a=>
  have h1:=a (λi e=>h i (by omega));have b:=h n (by omega);simp only[capTo];split
  ·have g:capTo l n*gt l n<=729*gt l n:=Int.mul_le_mul_of_nonneg_right (by omega) (by omega)
   have j:=Int.mul_le_mul h1.1 b.1 (by omega) (by omega);omega
  ·omega
theorem l07Product_ok (w:World) (v:Value) (l:List Int) (S:Nat->Prop) (q:Ints S w v l) (r:∀i,i<l.length->1<=gt l i/\gt l i<=7) :
  Calls Tryz.prog 236 #[v] w λe w'=>e=.returned (.int .i64 (capTo l l.length))/\w=w':=by
 obtain⟨a,cap,rfl,_,_⟩:=q.shape;have u:=Lib.hid r;clear r;go_enter Tryz.func236,Tryz.ntmps236;go_wp2;go_loop [3,4] (λz i=>∃k:Nat,i=.int .i64 k/\z=.int .i64 (capTo l k)/\k<=l.length) (λ_ i=>l.length-(intOf i).toNat)
 case atStart=>exact⟨0,rfl,rfl,by omega⟩
 case round=>
  obtain⟨k,rfl,rfl,hk⟩:=hrel;by_cases m:k<l.length
  ·obtain ⟨b,off,rfl,_,_,hc⟩:=Ints.at q k m
   have h1:=u.out k m;have y:=capTo_bd (l:=l) k (λi D=>u.out i (by omega));have A:1<=capTo l k:=y.1;have g:capTo l (k+1)=if capTo l k<=729 then capTo l k*gt l k else capTo l k:=rfl
   have n:=Lib.hid g;clear g y;by_cases j:capTo l k<=729
   ·have B:0<=capTo l k*gt l k:=Int.mul_nonneg (by omega) (by omega)
    have C:capTo l k*gt l k<=5103:=by
     have h1:capTo l k*gt l k<=729*gt l k:=Int.mul_le_mul_of_nonneg_right j (by omega);omega
    go_wp2;go_round
    case rel=>exact⟨k+1,by go_num,by rw[n.out,if_pos j],by omega⟩
    case measure=>simp[intOf];omega
   ·go_wp2
    go_round
    case rel=>exact⟨k+1,by go_num,by rw[n.out,if_neg j],by omega⟩
    case measure=>simp[intOf];omega
  ·have p:k=l.length:=by omega
   subst p;go_wp2;go_ret;exact⟨rfl,rfl⟩
def ordP (P:Pr):Int:=prodTo P.orders P.orders.length
theorem Valid.ordP_pos {P:Pr}(h:Valid P):1<=ordP P:=prodTo_pos _ (λi a=>h.pos i a)
theorem orderOf_ok (w:World) (p:Value) (P:Pr) (S:Nat->Prop) (hP:Valid P) (j:PresP S w p P) :
  Calls Tryz.prog 110 #[p] w λe w'=>e=.returned (.int .i64 (ordP P))/\w=w':=by
 obtain⟨pb,po,rfl⟩:=j.shape;obtain⟨v,capo,fo,hoi⟩:=j.ordAt;have n:=hP.n6;go_enter Tryz.func110,Tryz.ntmps110;go_wp2;go_loop [3,11] (λq i=>∃k:Nat,i=.int .i64 k/\q=.int .i64 (prodTo P.orders k)/\k<=P.orders.length) (λ_ i=>P.orders.length-(intOf i).toNat)
 case atStart=>exact⟨0,rfl,rfl,by omega⟩
 case round=>
  obtain⟨k,rfl,rfl,hk⟩:=hrel;by_cases a:k<P.orders.length
  ·obtain ⟨b,off,rfl,_,_,hc⟩:=Ints.at hoi k a
   have h1:=hP.pre (k+1) a;have m:=prodTo_pos (l:=P.orders) (k+1) (λi y=>hP.pos i (by omega));have r:0<=prodTo P.orders k*gt P.orders k:=by simp only[prodTo] at m;omega
   have u:prodTo P.orders k*gt P.orders k<=729:=h1;clear m h1;go_wp2;go_round
   case rel=>exact⟨k+1,by go_num,rfl,by omega⟩
   case measure=>simp[intOf];omega
  ·have g:k=P.orders.length:=by omega
   subst g;go_wp2;go_ret;exact⟨rfl,rfl⟩
theorem l10Order_ok (w:World) (pv:Value) (P:Pr) (S:Nat->Prop) (hP:Valid P) (j:PresV S w pv P) :
  Calls Tryz.prog 105 #[pv] w (Ret w λ_ v=>v=.int .i64 (ordP P)):=by
 obtain⟨vo,vp,vc,rfl,h3⟩:=j;have hB:=PresP.box h3 28;obtain⟨r,capo,fo,hoi⟩:=hB.ordAt;have m:=hP.n6;go_enter Tryz.func105,Tryz.ntmps105;go_wp2;go_loop [3,4] (λn i=>∃k:Nat,i=.int .i64 k/\n=.int .i64 (prodTo P.orders k)/\k<=P.orders.length) (λ_ i=>P.orders.length-(intOf i).toNat)
 case atStart=>exact⟨0,rfl,rfl,by omega⟩
 case round=>
  obtain⟨k,rfl,rfl,hk⟩:=hrel;by_cases a:k<P.orders.length
  ·obtain ⟨b,off,rfl,_,_,hc⟩:=Ints.at hoi k a
   have h1:=hP.pre (k+1) a;have g:=prodTo_pos (l:=P.orders) (k+1) (λi u=>hP.pos i (by omega));have p:0<=prodTo P.orders k*gt P.orders k:=by simp only[prodTo] at g;omega
   have q:prodTo P.orders k*gt P.orders k<=729:=h1;clear g h1;go_wp2;go_round
   case rel=>exact⟨k+1,by go_num,rfl,by omega⟩
   case measure=>simp[intOf];omega
  ·have e:k=P.orders.length:=by omega
   subst e;go_wp2;go_ret;exact⟨_,rfl,World.grownBy_alloc _ _ _,rfl⟩
end Go.Proofs.YtdcobapnlpeaaaaGreat
namespace Go.Proofs.YtdcobapnlpeaaaaGreat
theorem tvec_keep {P:Pr}(hP:Valid P) (f j:Nat) (u:P.orders.length<=f+1+j)
  (l:∀(e:List Int) (i:Nat),Vec P.orders e->i<P.orders.length->P.orders.length<=f+i->∀k,k<i->gt (tgen P f e i) k=gt e k)
  (c:List Int) (n:Vec P.orders c) (p:ZeroTo j c) (e:List Int) (q:Vec P.orders e):∀k,k<=j->gt (tvec (tgen P f) e c) k=gt e k:=by
 have a:∀m,m<=P.orders.length->Vec P.orders (tvecTo (tgen P f) c e m)/\∀k,k<=j->gt (tvecTo (tgen P f) c e m) k=gt e k:=by
  intro m;induction m with
  | zero=>intro _;exact⟨q,λk _=>rfl⟩
  | succ m b=>
   intro v;obtain⟨h1,h2⟩:=b (by omega);unfold tvecTo;by_cases g:gt c m=0
   ·rw[g];exact⟨h1,h2⟩
   ·have r:¬m<=j:=λh=>g (p m h)
    refine iter_inv (λy=>Vec P.orders y/\∀k,k<=j->gt y k=gt e k) _ (λy hy=>⟨tgen_vec hP f y m hy.1 (by omega) (by omega),λk hk => ?_⟩) _ _ ⟨h1,h2⟩;rw[l y m hy.1 (by omega) (by omega) k (by omega)];exact hy.2 k hk
 intro k hk;exact(a c.length (by rw[n.1];omega)).2 k hk
theorem tgen_entries {P:Pr}(hP:Valid P) (f:Nat):∀(e:List Int) (j:Nat),Vec P.orders e->j<P.orders.length->P.orders.length<=f+j ->
  (∀k,k<j->gt (tgen P f e j) k=gt e k)/\gt (tgen P f e j) j=if gt e j+1=gt P.orders j then 0 else gt e j+1:=by
 induction f with
 | zero=>intro e j _ n I;omega
 | succ f J=>
  intro e j w n I;have z:∀(e:List Int) (i:Nat),Vec P.orders e->i<P.orders.length->P.orders.length<=f+i->∀k,k<i->gt (tgen P f e i) k=gt e k:=λe i a b c k hk=>(J e i a b c).1 k hk;have Q:=w.1;have r:j+1+(e.drop (j+1)).length<=e.length:=by simp;omega
  have E:=w.zeroed j (e.drop (j+1)).length r;have hx:=w.2 j n;have R:=hP.ord7 j n;have K:=length_zeroed e j (e.drop (j+1)).length r;obtain⟨l,A⟩:∃l,l=(if gt e j+1=gt P.orders j then tvec (tgen P f) (((zeroed e j (e.drop (j+1)).length).set j (gt e j+1)).set j 0) (gt P.powers j) else (zeroed e j (e.drop (j+1)).length).set j (gt e j+1)):=⟨_,rfl⟩
  have B:∀c,Vec P.orders c->ZeroTo j c->∀x,Vec P.orders x->Vec P.orders (tvec (tgen P f) x c):=λc p E x hx=>
   tvec_vec p (λe i w L M=>tgen_vec hP f e i w L (by
    have:¬i<=j:=λh=>M (E i h);omega)) hx
  have g:∀k,k<j->gt (zeroed e j (e.drop (j+1)).length) k=gt e k:=λk hk=>by rw[gt_zeroed _ _ _ _ r,if_neg (by omega)]
  have F:Vec P.orders l/\(∀k,k<j->gt l k=gt e k)/\gt l j=if gt e j+1=gt P.orders j then 0 else gt e j+1:=by
   rw[A];split
   ·rename_i p
    rw[List.set_set];have C:Vec P.orders ((zeroed e j (e.drop (j+1)).length).set j 0):=E.set j 0 ⟨by omega,λ_=>by omega⟩;have hk:=tvec_keep hP f j (by omega) z _ (hP.pv j n).1 (hP.pv j n).2 _ C;refine⟨B _ (hP.pv j n).1 (hP.pv j n).2 _ C,λk u => ?_,?_⟩
    ·rw[hk k (by omega),gt_set_ne _ _ _ _ (by omega)];exact g k u
    ·rw[hk j (Nat.le_refl _),gt_set_eq _ _ _ (by omega)]
   ·rename_i p
    refine⟨E.set j _ ⟨by omega,λ_=>by omega⟩,λk u => ?_,?_⟩
    ·rw[gt_set_ne _ _ _ _ (by omega)];exact g k u
    ·rw[gt_set_eq _ _ _ (by omega)]
  have v:∀m,m<=(e.drop (j+1)).length->Vec P.orders (tconjTo (tgen P f) (gt P.conj j) (e.drop (j+1)) l m)/\∀k,k<=j->gt (tconjTo (tgen P f) (gt P.conj j) (e.drop (j+1)) l m) k=gt l k:=by
   intro m;induction m with
   | zero=>intro _;exact⟨F.1,λk _=>rfl⟩
   | succ m G=>
    intro N;obtain⟨O,h4⟩:=G (by omega);have H:m<P.orders.length-1-j:=by simp at N;omega
    have p:=(hP.cv j n).2 m H;unfold tconjTo;refine iter_inv (λy=>Vec P.orders y/\∀k,k<=j->gt y k=gt l k) _ (λy hy=>⟨B _ p.1 p.2 _ hy.1,λk hk => ?_⟩) _ _ ⟨O,h4⟩;rw[tvec_keep hP f j (by omega) z _ p.1 p.2 _ hy.1 k hk];exact hy.2 k hk
  have q:=v _ (Nat.le_refl _);have D:tgen P (f+1) e j=tconjTo (tgen P f) (gt P.conj j) (e.drop (j+1)) l (e.drop (j+1)).length:=by rw[A];rfl
  rw[D];exact⟨λk hk=>by rw[q.2 k (by omega)];exact F.2.1 k hk,by rw[q.2 j (Nat.le_refl _)];exact F.2.2⟩
def tg (P:Pr) (e:List Int) (j:Nat):List Int:=tgen P P.orders.length e j
def tv (P:Pr) (e f:List Int):List Int:=tvec (tg P) e f
theorem tg_vec {P:Pr}(hP:Valid P) (e:List Int) (j:Nat) (a:Vec P.orders e) (b:j<P.orders.length):Vec P.orders (tg P e j):=tgen_vec hP _ e j a b (by omega)
theorem tv_vec {P:Pr}(hP:Valid P) (e f:List Int) (a:Vec P.orders e) (b:Vec P.orders f):Vec P.orders (tv P e f):=tvec_vec b (λe j a g _=>tg_vec hP e j a g) a
end Go.Proofs.YtdcobapnlpeaaaaGreat
namespace Go.Proofs.YtdcobapnlpeaaaaGreat
open Go.RowKit
theorem tgenOk (P:Pr) (hP:Valid P) (f:Nat):TgenOk P f:=by
 induction f with
 | zero=>intro base w p e E j _ _ _ b g;omega
 | succ f a=>exact timesGenerator_of P hP f a
theorem timesGenerator_ok (P:Pr) (hP:Valid P) (base:Nat) (w:World) (p e:Value) (E:List Int) (j:Nat) (a:PresP (Off e.ownBlock) w p P) (b:Own base w e E) (g:Vec P.orders E) (i:j<P.orders.length) :
  Calls Tryz.prog 280 #[p,e,.int .i64 j] w (Mut w e.ownBlock λw' v=>v=.tuple #[]/\Own base w' e (tg P E j)):=
 tgenOk P hP _ base w p e E j a b g i (by omega)
theorem timesVector_ok (P:Pr) (hP:Valid P) (base:Nat) (w:World) (p e f:Value) (E F:List Int) (a:PresP (Off e.ownBlock) w p P) (b:Own base w e E)
  (g:Vec P.orders E) (i:Ints (Off e.ownBlock) w f F) (hF:Vec P.orders F) :
  Calls Tryz.prog 207 #[p,e,f] w (Mut w e.ownBlock λw' v=>v=.tuple #[]/\Own base w' e (tv P E F)):=
 timesVector_of P hP _ (tgenOk P hP _) base w p e f E F a b g i hF (λj k _=>by omega)
theorem off_of {base:Nat}{w a:World}{v:Value}{l:List Int}{S:Nat->Prop}(hO:Own base a v l) (e:w.heap.size<=base) (b:Ext w a) :
  ∀k,S k->k<w.heap.size->Off v.ownBlock k/\k<a.heap.size/\a.heap[k]? = w.heap[k]? :=by
 intro k _ hk;refine⟨λh => ?_,Nat.lt_of_lt_of_le hk b.size,b.block k hk (by simp)⟩;have:=(hO.lt k h).1;omega
theorem mut_ext {base:Nat}{w a b:World}{v:Value}{l:List Int}(e:Ext w a) (hO:Own base a v l) (k:w.heap.size<=base) (h:a.grownBy b v.ownBlock):Ext w b:=
 grown_own e h (λj g i=>by have:=(hO.lt j g).1;omega)
theorem multiply_ok (P:Pr) (hP:Valid P) (w:World) (p a b:Value) (A B:List Int) (l j m:Nat->Prop) (n:PresP l w p P) (ha:Ints j w a A) (q:Ints m w b B) (k:Vec P.orders A) (hB:Vec P.orders B) :
  Calls Tryz.prog 152 #[p,a,b] w (Ret w λw' v=>Own w.heap.size w' v (tv P A B)):=by
 have u:=hP.n6;have y:A.length<=6:=by rw[k.1];omega
 go_enter Tryz.func152,Tryz.ntmps152;go_wp2_with fail
 refine Calls.mono (clone_ok w a A j ha (by omega)) ?_;rintro C z ⟨r,rfl,e,g⟩;go_wp2_with fail
 refine Calls.mono (timesVector_ok P hP w.heap.size z p r b A B (n.mono (off_of g (Nat.le_refl _) e)) g k (q.mono (off_of g (Nat.le_refl _) e)) hB) ?_;rintro D E ⟨F,rfl,i,rfl,qh⟩;go_wp2;go_ret;exact⟨_,rfl,mut_ext e g (Nat.le_refl _) i,qh⟩
def iPow (P:Pr) (a:List Int) (k:Int):List Int:=iter k.toNat (λout=>tv P out a) (List.replicate a.length 0)
theorem zeros_vec' {P:Pr}(hP:Valid P) {a:List Int}(ha:Vec P.orders a):Vec P.orders (List.replicate a.length 0):=by
 refine⟨by rw[List.length_replicate];exact ha.1,λi b => ?_⟩;have:=hP.ord7 i b;rw[gt_replicate];omega
theorem iPow_vec {P:Pr}(hP:Valid P) (a:List Int) (k:Int) (ha:Vec P.orders a):Vec P.orders (iPow P a k):=
 iter_inv (Vec P.orders) _ (λy hy=>tv_vec hP y a hy ha) _ _ (zeros_vec' hP ha)
theorem power_ok (P:Pr) (hP:Valid P) (w:World) (p a:Value) (A:List Int) (k:Int) (z B:Nat->Prop) (C:PresP z w p P) (ha:Ints B w a A) (g:Vec P.orders A) (hk:k<=1000000000) :
  Calls Tryz.prog 101 #[p,a,.int .i64 k] w (Ret w λw' v=>Own w.heap.size w' v (iPow P A k)):=by
 have D:=hP.n6;have E:A.length<=6:=by rw[g.1];omega
 obtain⟨I,capa,rfl,_,_⟩:=ha.shape;go_enter Tryz.func101,Tryz.ntmps101;go_wp2_with (at_make;refine wp_make_ints rfl _ _ rfl w.heap.size A.length w.heap.size rfl _ rfl rfl rfl (by omega) (Nat.le_refl _) ?_;intro J l n _)
 generalize Value.slice (some ⟨w.heap.size,0,none⟩) A.length A.length=r at *;go_loopw [12] (λi wr=>∃m:Nat,i=.int .i64 m/\m<=k.toNat/\Ext w wr/\Own w.heap.size wr r (iter m (λout=>tv P out A) (List.replicate A.length 0))) (λi _=>k.toNat-(intOf i).toNat)
 case atStart=>exact⟨0,rfl,by omega,n,l⟩
 case round=>
  obtain⟨m,rfl,hm,j,hO⟩:=hrel;by_cases F:(m:Int)<k
  ·have b:Vec P.orders (iter m (λout=>tv P out A) (List.replicate A.length 0)):=iter_inv (Vec P.orders) _ (λy hy=>tv_vec hP y A hy g) _ _ (zeros_vec' hP g)
   have G:=Lib.hid b;clear b;go_wp2_with fail
   refine Calls.mono (timesVector_ok P hP w.heap.size wr p r _ _ A (C.mono (off_of hO (Nat.le_refl _) j)) hO G.out (ha.mono (off_of hO (Nat.le_refl _) j)) g) ?_;rintro K L ⟨M,rfl,q,rfl,qh⟩;have u:=mut_ext j hO (Nat.le_refl _) q;go_wp2;go_roundw
   case rel=>exact⟨m+1,by go_num,by omega,u,qh⟩
   case measure=>simp[intOf];omega
  ·have e:m=k.toNat:=by omega
   have H:Hid (Own w.heap.size wr r (iPow P A k)):=by rw[e] at hO;exact hO
   clear hO e;go_wp2;go_ret;exact⟨_,rfl,j,H.out⟩
def zeros (n:Nat):List Int:=List.replicate n 0
def rImgTo (at_:List Int->List Int->List Int) (a:List (List Int)) (i:Nat) (x out:List Int):Nat->List Int
 | 0=>out
 | k+1=>iter (gt x (i+1+k)).toNat (λout=>at_ out (gt a k)) (rImgTo at_ a i x out k)
def rAt (P:Pr):Nat->Nat->List Int->List Int->List Int
 | 0,_,_,_=>zeros P.orders.length
 | f+1,i,A,B=>
  let left:=iter (gt B i).toNat (λl=>rImgTo (rAt P f (i+1)) (gt P.conj i) i l (zeros P.orders.length) f) (A.set i 0)
  let rest:=rAt P f (i+1) left (B.set i 0)
  let c:=gt A i+gt B i
  if gt P.orders i<=c then (rAt P f (i+1) (gt P.powers i) rest).set i (c-gt P.orders i) else rest.set i c
def rImage (P:Pr) (f i:Nat) (x:List Int):List Int:=rImgTo (rAt P f (i+1)) (gt P.conj i) i x (zeros P.orders.length) f
theorem zeros_vec {P:Pr}(hP:Valid P):Vec P.orders (zeros P.orders.length):=by
 refine⟨by simp[zeros],λi a => ?_⟩;have:=hP.ord7 i a;unfold zeros;rw[gt_replicate];omega
def AtVec (P:Pr) (f:Nat):Prop:=∀i A B,i+f=P.orders.length->Vec P.orders A->Vec P.orders B->Vec P.orders (rAt P f i A B)
theorem rImgTo_vec {P:Pr}(hP:Valid P) (f i:Nat) (g:i+(f+1)=P.orders.length) (a:AtVec P f) (x out:List Int) (b:Vec P.orders out) (k:Nat) (hk:k<=f) :
  Vec P.orders (rImgTo (rAt P f (i+1)) (gt P.conj i) i x out k):=by
 induction k with
 | zero=>exact b
 | succ k e=>
  unfold rImgTo;exact iter_inv (Vec P.orders) _ (λy hy=>a _ _ _ (by omega) hy ((hP.cv i (by omega)).2 k (by omega)).1) _ _ (e (by omega))
theorem rAt_vec {P:Pr}(hP:Valid P) (f:Nat):AtVec P f:=by
 induction f with
 | zero=>intro i A B _ _ _;exact zeros_vec hP
 | succ f a=>
  intro i A B g b hB;have n:=hP.ord7 i (by omega);have j:=b.2 i (by omega);have k:=hB.2 i (by omega)
  have m:Vec P.orders (iter (gt B i).toNat (λl=>rImgTo (rAt P f (i+1)) (gt P.conj i) i l (zeros P.orders.length) f) (A.set i 0)):=
   iter_inv (Vec P.orders) _ (λy hy=>rImgTo_vec hP f i g a _ _ (zeros_vec hP) f (Nat.le_refl _)) _ _ (b.set i 0 ⟨by omega,λ_=>by omega⟩)
  have e:=a (i+1) _ _ (by omega) m (hB.set i 0 ⟨by omega,λ_=>by omega⟩);simp only[rAt];split
  ·exact(a (i+1) _ _ (by omega) (hP.pv i (by omega)).1 e).set i _ ⟨by omega,λ_=>by omega⟩
  ·exact e.set i _ ⟨by omega,λ_=>by omega⟩
def AtOk (P:Pr) (f:Nat):Prop:=
 ∀ (w:World) (pv a b:Value) (i:Nat) (A B:List Int) (e g j:Nat->Prop),i+f=P.orders.length->PresV e w pv P->Ints g w a A->Ints j w b B->Vec P.orders A->Vec P.orders B ->
  Calls Tryz.prog 281 #[pv,.int .i64 i,a,b] w (Ret w λw' v=>Own w.heap.size w' v (rAt P f i A B))
theorem l08Image_of (P:Pr) (hP:Valid P) (f:Nat) (ih:AtOk P f) (w:World) (pv x:Value) (i:Nat) (X:List Int) (Sp W:Nat->Prop) (hi:i+(f+1)=P.orders.length) (hp:PresV Sp w pv P)
  (hx:Ints W w x X) (E:Vec P.orders X) :
  Calls Tryz.prog 315 #[pv,.int .i64 i,x] w (Ret w λw' v=>Own w.heap.size w' v (rImage P f i X)):=by
 obtain⟨vo,vp,vc,rfl,h3⟩:=hp;obtain⟨ax,p,rfl,_,_⟩:=hx.shape;have ah:=hP.n6;have hB:=PresP.box h3 28;obtain⟨ao,capo,fo,hoi⟩:=hB.ordAt;go_enter Tryz.func315,Tryz.ntmps315;go_wp2_with (at_make;refine wp_make_ints rfl _ _ rfl (w.heap.size+1) P.orders.length (w.heap.size+1) (by simp) _ rfl rfl rfl (by omega) (by simp) ?_;intro n q r _)
 have a:Ext (w.alloc (.cells #[vo,vp,vc] 28)) n:=r;have F:PresP Any n (.pointer (some ⟨w.heap.size,0,none⟩)) P:=hB.ext a;have G:Ints W n (.slice ax X.length p) X:=(hx.ext (World.grownBy_alloc _ _ _)).ext a;have H:Ext w n:=grown_trans (World.grownBy_alloc _ _ _) a;have I:i<P.conj.length:=by rw[hP.cl];omega
 have ai:f<=(gt P.conj i).length:=by rw[(hP.cv i (by omega)).1];omega
 clear fo hoi r a hx hB;go_loopw [8,9] (λv j wr=>∃k:Nat,j=.int .i64 ((i:Int)+1+k)/\k<=f/\Ext n wr/\Own (w.heap.size+1) wr v (rImgTo (rAt P f (i+1)) (gt P.conj i) i X (zeros P.orders.length) k)) (λ_ j _=>P.orders.length-(intOf j).toNat)
 case atStart=>exact⟨0,by simp,by omega,Ext.refl _,q⟩
 case round=>
  clear q;obtain⟨k,rfl,hk,b,hO⟩:=hrel;by_cases aj:k<f
  ·have u:=E.2 (i+1+k) (by omega)
   have J:=hP.ord7 (i+1+k) (by omega);have ak:0<=gt X (i+1+k):=u.1;have al:gt X (i+1+k)<=7:=by omega
   clear u J;have z:=rImgTo_vec hP f i hi (rAt_vec hP f) X _ (zeros_vec hP) k hk;have HV:=Lib.hid z;clear z;have K:(i:Int)+1+k<P.orders.length:=by omega
   go_wp2;go_loopw [8,10] (λv L wr=>∃m:Nat,L=.int .i64 m/\m<=(gt X (i+1+k)).toNat/\Ext n wr/\Own (w.heap.size+1) wr v (iter m (λout=>rAt P f (i+1) out (gt (gt P.conj i) k)) (rImgTo (rAt P f (i+1)) (gt P.conj i) i X (zeros P.orders.length) k))) (λ_ L _=>(gt X (i+1+k)).toNat-(intOf L).toNat)
   case atStart=>exact⟨0,rfl,by omega,b,hO⟩
   case round=>
    clear b hO;obtain⟨m,rfl,hm,b,hO⟩:=hrel;have M:=G.ext b;obtain⟨bx,ox,rfl,_,_,hcx⟩:=Ints.at M (i+1+k) (by rw[E.1];omega);have an:X.length<=P.orders.length/\P.orders.length<=X.length:=by rw[E.1];omega
    have ap:((i:Int)+1+k).toNat=i+1+k:=by omega
    by_cases Y:(m:Int)<gt X (i+1+k)
    ·obtain ⟨N,jD,jR,_,_,hc0,A,B,gf⟩:=(F.ext b).at
     obtain⟨ac,capc,rfl,_,_⟩:=Sl.shape gf.c;obtain⟨Z,oc,kE,e,rfl,_,_,hcc,hrc⟩:=Rows3.at gf.c i I;obtain⟨bd,od,O,g,rfl,_,_,hcd,Q⟩:=Rows2.at hrc k (by omega)
     have l:Vec P.orders (iter m (λout=>rAt P f (i+1) out (gt (gt P.conj i) k)) (rImgTo (rAt P f (i+1)) (gt P.conj i) i X (zeros P.orders.length) k)):=
      iter_inv (Vec P.orders) _ (λy hy=>rAt_vec hP f _ _ _ (by omega) hy ((hP.cv i (by omega)).2 k (by omega)).1) _ _ HV.out
     have C:=((hP.cv i (by omega)).2 k (by omega)).1;have R:=hO.ints (by rw[l.1];omega);have S:=Lib.hid l;clear l;have T:=Lib.hid C;clear C;have e1:∀w',Ext wr w'->w'.cell? ⟨w.heap.size,0,none⟩=some N:=λw' h=>h.cell hc0 (by simp);have e2:∀w',Ext wr w'->w'.cell? ⟨w.heap.size,1,none⟩=some jD:=λw' h=>h.cell (by simpa using A) (by simp);have e3:∀w',Ext wr w'->w'.cell? ⟨w.heap.size,2,none⟩=some (.slice (some ⟨Z,oc,none⟩) P.conj.length capc):=λw' h=>h.cell (by simpa using B) (by simp);have e4:∀w',Ext wr w'->w'.cell? ⟨Z,oc+i,none⟩=some (.slice (some ⟨bd,od,none⟩) (gt P.conj i).length e):=λw' h=>h.cell hcc (by simp);have e5:∀w',Ext wr w'->w'.cell? ⟨bd,od+k,none⟩=some (.slice O (gt (gt P.conj i) k).length g):=λw' h=>h.cell hcd (by simp);have s1:IntKind.i64.wrap ((i:Int)+1+k-i)=(k:Int)+1:=by rw[show(i:Int)+1+k-i=(k:Int)+1 by omega];exact IntWalk.i64_in _ (by omega)
     have s2:IntKind.i64.wrap (k:Int)=(k:Int):=IntWalk.i64_in _ (by omega);have s3:IntKind.i64.wrap ((i:Int)+1)=(i:Int)+1:=IntWalk.i64_in _ (by omega);have b1:(0:Int)<=k:=by omega
     have b2:(k:Int)<(gt P.conj i).length:=by omega
     have b3:(i:Int)<P.conj.length:=by omega
     go_wp2;clear hc0 A B hcc hcd
     go_region_held3 (λw'=>Ext wr w') (first|exact grown_drew _ _|exact D)
      (first|(go_at_call 281;refine Calls.mono (Calls.rel (w0:=wr) (by assumption) (ih _ _ _ _ (i+1) _ (gt (gt P.conj i) k) Any Any Any (by omega) ⟨_,_,_,rfl,Pres3.ext gf (by assumption)⟩ (Ints.ext R (by assumption)) (Ints.ext Q (by assumption)) S.out T.out)) ?_;rintro e6 w6 ⟨v6,rfl,D,hsz6,nY⟩))
     clear e1 e2 e3 e4 e5 s1 s2 s3;go_wp2;go_roundw
     case rel=>exact⟨m+1,by go_num,by omega,grown_trans b D,nY.weak (by have:=b.size;omega)⟩
     case measure=>simp[intOf];omega
    ·have U:m=(gt X (i+1+k)).toNat:=by omega
     subst U;go_wp2;go_roundw
     case rel=>exact⟨k+1,by go_num,by omega,b,hO⟩
     case measure=>simp[intOf];omega
  ·have V:k=f:=by omega
   subst V;go_wp2;go_ret;exact⟨_,rfl,grown_trans H b,hO.weak (by omega)⟩
def left_ (o x:Int):Nat:=if x=0 then 0 else (o-x).toNat
def invTo (P:Pr) (a:List Int):Nat->List Int × List Int
 | 0=>(a,List.replicate a.length 0)
 | k+1=>
  let s:=invTo P a k
  let m:=left_ (gt P.orders k) (gt s.1 k)
  (iter m (λe=>tg P e k) s.1,iter m (λe=>tg P e k) s.2)
def iInv (P:Pr) (a:List Int):List Int:=(invTo P a a.length).2
theorem iter_tg {P:Pr}(hP:Valid P) (e:List Int) (k:Nat) (hk:k<P.orders.length) (a:Vec P.orders e) (i:gt e k≠0) (s:Nat) (j:s<=left_ (gt P.orders k) (gt e k)) :
  Vec P.orders (iter s (λe=>tg P e k) e)/\gt (iter s (λe=>tg P e k) e) k=if s=left_ (gt P.orders k) (gt e k) then 0 else gt e k+s:=by
 have hx:=a.2 k hk;have l:left_ (gt P.orders k) (gt e k)=(gt P.orders k-gt e k).toNat:=by unfold left_;rw[if_neg i]
 rw[l] at j ⊢;induction s with
 | zero=>exact⟨a,by rw[if_neg (by omega)];simp[iter]⟩
 | succ s m=>
  obtain⟨h1,b⟩:=m (by omega);refine⟨tg_vec hP _ k h1 hk,?_⟩;show gt (tg P (iter s (λe=>tg P e k) e) k) k=_
  have n:=(tgen_entries hP P.orders.length (iter s (λe=>tg P e k) e) k h1 hk (by omega)).2;rw[if_neg (by omega)] at b;have p:gt (tg P (iter s (λe=>tg P e k) e) k) k=if gt (iter s (λe=>tg P e k) e) k+1=gt P.orders k then 0 else gt (iter s (λe=>tg P e k) e) k+1:=n
  rw[p,b];by_cases g:gt e k+s+1=gt P.orders k
  ·rw[if_pos g,if_pos (by omega)]
  ·rw[if_neg g,if_neg (by omega)];omega
theorem invTo_vec {P:Pr}(hP:Valid P) (a:List Int) (ha:Vec P.orders a) (k:Nat) (hk:k<=P.orders.length):Vec P.orders (invTo P a k).1/\Vec P.orders (invTo P a k).2:=by
 induction k with
 | zero=>exact⟨ha,zeros_vec' hP ha⟩
 | succ k b=>
  obtain⟨h1,e⟩:=b (by omega);exact⟨iter_inv (Vec P.orders) _ (λy hy=>tg_vec hP y k hy (by omega)) _ _ h1,iter_inv (Vec P.orders) _ (λy hy=>tg_vec hP y k hy (by omega)) _ _ e⟩
theorem invert_ok (P:Pr) (hP:Valid P) (w:World) (p a:Value) (A:List Int) (Sp Sa:Nat->Prop) (hp:PresP Sp w p P) (ha:Ints Sa w a A) (hA:Vec P.orders A) :
  Calls Tryz.prog 227 #[p,a] w (Ret w λw' v=>Own w.heap.size w' v (iInv P A)):=by
 have aA:=hP.n6;have aB:A.length<=P.orders.length/\P.orders.length<=A.length:=by rw[hA.1];omega
 obtain⟨aa,capa,rfl,_,_⟩:=ha.shape;go_enter Tryz.func227,Tryz.ntmps227;go_wp2_with fail
 refine Calls.mono (clone_ok w _ A Sa ha (by omega)) ?_;rintro e1 B ⟨r,rfl,hg1,hR⟩;have K:=hR.ints (by omega);obtain⟨ar,b,rfl,_,_⟩:=K.shape;go_wp2_with (at_make;refine wp_make_ints rfl _ _ rfl B.heap.size A.length B.heap.size rfl _ rfl rfl rfl (by omega) (Nat.le_refl _) ?_;intro w2 L M _)
 generalize Value.slice (some ⟨B.heap.size,0,none⟩) A.length A.length=t at *;have N:=hR.ext0 M;have D:=hR.lt;have ae:=Lib.hid D;clear K hR D;have af:Ext w w2:=grown_trans hg1 M;have E:=hg1.size;go_loopw [15] (λi wr=>∃k:Nat,i=.int .i64 k/\k<=A.length/\Ext w wr/\Own w.heap.size wr (.slice ar A.length b) (invTo P A k).1/\Own B.heap.size wr t (invTo P A k).2) (λi _=>A.length-(intOf i).toNat)
 case atStart=>exact⟨0,rfl,by omega,af,N,L⟩
 case round=>
  clear N L;obtain⟨k,rfl,hk,F,hO,z⟩:=hrel;obtain⟨j,hv2⟩:=invTo_vec hP A hA k (by omega);have G:=Lib.hid j;have ag:=Lib.hid hv2;by_cases aD:k<A.length
  ·have hx:=j.2 k (by omega)
   have O:=hP.ord7 k (by omega);obtain⟨g,capg,H,_,_⟩:=hO.form (by rw[j.1];omega);have l:(invTo P A k).1.length=A.length:=by rw[j.1,hA.1]
   rw[l] at H;have m:invTo P A (k+1)=(iter (left_ (gt P.orders k) (gt (invTo P A k).1 k)) (λe=>tg P e k) (invTo P A k).1,iter (left_ (gt P.orders k) (gt (invTo P A k).1 k)) (λe=>tg P e k) (invTo P A k).2):=rfl;have Q:=Lib.hid m;clear m;obtain⟨rfl,Cm⟩:ar=some ⟨g,0,none⟩/\b=capg:=by cases H;exact⟨rfl,rfl⟩
   clear H Cm j hv2;have S:=z.lt;have aE:g<B.heap.size:=(ae.out g rfl).2;have aF:=Lib.hid S;clear S;generalize U:(invTo P A k).1=R at *;generalize V:(invTo P A k).2=T at *;have aG:=Lib.hid U;have aH:=Lib.hid V;clear U V;have aI:0<=gt R k:=hx.1;have aJ:gt R k<gt P.orders k:=hx.2;have au:gt P.orders k<=7:=O.2;have av:=Lib.hid l;clear l hx O;go_wp2;go_loopg [21] (left_ (gt P.orders k) (gt R k)) (λgk u wr=>∃s:Nat,gk+s=left_ (gt P.orders k) (gt R k)/\Ext w wr/\Own w.heap.size wr (.slice (some ⟨g,0,none⟩) A.length b) (iter s (λe=>tg P e k) R)/\Own B.heap.size wr t (iter s (λe=>tg P e k) T))
   case atStart=>exact⟨0,by omega,F,hO,z⟩
   case round=>
    clear F hO z;obtain⟨s,hs,F,hO,z⟩:=hrel
    have I:Vec P.orders (iter s (λe=>tg P e k) R)/\Vec P.orders (iter s (λe=>tg P e k) T):=
     ⟨iter_inv (Vec P.orders) _ (λy hy=>tg_vec hP y k hy (by omega)) _ _ G.out,iter_inv (Vec P.orders) _ (λy hy=>tg_vec hP y k hy (by omega)) _ _ ag.out⟩
    have W:=Lib.hid I;have hc:=hO.cell k (by rw[I.1.1];omega);clear I;by_cases C:s=left_ (gt P.orders k) (gt R k)
    ·have X:gt (iter s (λe=>tg P e k) R) k=0:=by
      by_cases J:gt R k=0
      ·have:s=0:=by rw[C];unfold left_;rw[if_pos J]
       rw[this];exact J
      ·rw[(iter_tg hP R k (by omega) G.out J s (by omega)).2,if_pos C]
     rw[X] at hc;have Y:Own w.heap.size wr (.slice (some ⟨g,0,none⟩) A.length b) (invTo P A (k+1)).1:=by rw[Q.out,<-C];exact hO
     have Z:Own B.heap.size wr t (invTo P A (k+1)).2:=by rw[Q.out,<-C];exact z
     have ah:=Lib.hid Y;have ai:=Lib.hid Z;clear Y Z hO z C X;go_wp2;go_roundw
     case rel=>exact⟨k+1,by go_num,by omega,F,ah.out,ai.out⟩
     case measure=>simp[intOf];omega
    ·have X:gt (iter s (λe=>tg P e k) R) k≠0:=by
      by_cases J:gt R k=0
      ·exfalso;apply C
       have:left_ (gt P.orders k) (gt R k)=0:=by unfold left_;rw[if_pos J]
       omega
      ·rw[(iter_tg hP R k (by omega) G.out J s (by omega)).2,if_neg C];omega
     have aj:(gt (iter s (λe=>tg P e k) R) k != 0)=true:=by simpa using X
     have HM:=Lib.hid C;clear C X;go_wp2_with fail
     refine Calls.mono (timesGenerator_ok P hP w.heap.size wr p _ _ k (hp.mono (off_of hO (Nat.le_refl _) F)) hO W.out.1 (by omega)) ?_;rintro e3 w3 ⟨v3,rfl,ab,rfl,jS⟩;have ac:=mut_ext F hO (Nat.le_refl _) ab
     have n:Own B.heap.size w3 t (iter s (λe=>tg P e k) T):=z.ext ab (by
      cases hb:t.ownBlock with
      | none=>exact .inl rfl
      | some q=>exact .inr (λh=>by have h:some q=some g:=h;cases h;have:=(z.lt _ hb).1;omega))
     go_wp2_with fail
     refine Calls.mono (timesGenerator_ok P hP B.heap.size w3 p t _ k (hp.mono (off_of n E ac)) n W.out.2 (by omega)) ?_;rintro e4 w4 ⟨v4,rfl,hg4,rfl,Cn⟩;have al:=mut_ext ac n E hg4
     have am:=jS.ext hg4 (by
      cases hb:t.ownBlock with
      | none=>exact .inr (by simp[Value.ownBlock])
      | some q=>exact .inr (λh=>by have h:some g=some q:=h;cases h;have:=(n.lt _ hb).1;omega))
     clear hc aj hO z jS n;go_wp2;go_roundg (gk-1)
     case measure=>have:=HM.out;omega
     case rel=>exact⟨s+1,by have:=HM.out;omega,al,am,Cn⟩
  ·have an:k=A.length:=by omega
   subst an;go_wp2;go_ret;exact⟨_,rfl,F,z.weak E⟩
theorem iInv_vec {P:Pr}(hP:Valid P) (a:List Int) (ha:Vec P.orders a):Vec P.orders (iInv P a):=(invTo_vec hP a ha a.length (by rw[ha.1];omega)).2
def iConj (P:Pr) (a b:List Int):List Int:=tv P (iInv P b) (tv P a b)
theorem conjugate_ok (P:Pr) (hP:Valid P) (w:World) (p a b:Value) (A B:List Int) (i u j:Nat->Prop) (k:PresP i w p P) (ha:Ints u w a A) (y:Ints j w b B) (l:Vec P.orders A) (hB:Vec P.orders B) :
  Calls Tryz.prog 156 #[p,a,b] w (Ret w λw' v=>Own w.heap.size w' v (iConj P A B)):=by
 have z:=hP.n6;have C:(iInv P B).length<=6:=by rw[(iInv_vec hP B hB).1];omega
 have D:(tv P A B).length<=6:=by rw[(tv_vec hP A B l hB).1];omega
 go_enter Tryz.func156,Tryz.ntmps156;go_wp2_with fail
 refine Calls.mono (invert_ok P hP w p b B i j k y hB) ?_;rintro I E ⟨r,rfl,e,F⟩;go_wp2_with fail
 refine Calls.mono (multiply_ok P hP E p a b A B i u j (k.ext e) (ha.ext e) (y.ext e) l hB) ?_;rintro J G ⟨m,rfl,g,H⟩;go_wp2_with fail
 refine Calls.mono (multiply_ok P hP G p r m _ _ i Any Any (k.ext (grown_trans e g)) ((F.ext0 g).ints (by omega)) (H.ints (by omega)) (iInv_vec hP B hB) (tv_vec hP A B l hB)) ?_;rintro K L ⟨q,rfl,n,hQ⟩;go_wp2;go_ret;exact⟨_,rfl,grown_trans (grown_trans e g) n,hQ.weak (by have:=e.size;have:=g.size;omega)⟩
def iImg (P:Pr) (i:Nat) (x:List Int):List Int:=rImgTo (tv P) (gt P.conj i) i x (List.replicate x.length 0) (gt P.conj i).length
theorem iImgTo_vec {P:Pr}(hP:Valid P) (i:Nat) (a:i<P.orders.length) (x out:List Int) (b:Vec P.orders out) (k:Nat) (hk:k<=(gt P.conj i).length) :
  Vec P.orders (rImgTo (tv P) (gt P.conj i) i x out k):=by
 have e:=hP.cv i a;induction k with
 | zero=>exact b
 | succ k g=>
  unfold rImgTo;exact iter_inv (Vec P.orders) _ (λy hy=>tv_vec hP _ _ hy (e.2 k (by omega)).1) _ _ (g (by omega))
theorem imageBy_ok (P:Pr) (hP:Valid P) (w:World) (p x:Value) (i:Nat) (X:List Int) (R S:Nat->Prop) (z:i<P.orders.length) (A:PresP R w p P) (hx:Ints S w x X) (B:Vec P.orders X) :
  Calls Tryz.prog 316 #[p,.int .i64 i,x] w (Ret w λw' v=>Own w.heap.size w' v (iImg P i X)):=by
 have T:=hP.n6;have U:X.length<=P.orders.length/\P.orders.length<=X.length:=by rw[B.1];omega
 obtain⟨pb,po,rfl⟩:=A.shape;obtain⟨ax,capx,rfl,_,_⟩:=hx.shape;have C:i<P.conj.length:=by rw[hP.cl];omega
 have e:=(hP.cv i z).1;have V:(gt P.conj i).length+i+1<=P.orders.length:=by omega
 have W:=Lib.hid e;clear e;obtain⟨ac,capc,tX,tY⟩:=A.conjAt;obtain⟨bc,oc,kE,uN,rfl,_,_,gY,Co⟩:=Rows3.at tY i C;go_enter Tryz.func316,Tryz.ntmps316;go_wp2_with (at_make;refine wp_make_ints rfl _ _ rfl w.heap.size X.length w.heap.size rfl _ rfl rfl rfl (by omega) (Nat.le_refl _) ?_;intro w1 g b _;have D:=b.cell tX (by simp);have E:=b.cell gY (by simp))
 clear D E tY tX gY;generalize Value.slice (some ⟨w.heap.size,0,none⟩) X.length X.length=t at *;go_loopw [21] (λii wr=>∃k:Nat,ii=.int .i64 k/\k<=(gt P.conj i).length/\Ext w wr/\Own w.heap.size wr t (rImgTo (tv P) (gt P.conj i) i X (List.replicate X.length 0) k)) (λii _=>(gt P.conj i).length-(intOf ii).toNat)
 case atStart=>exact⟨0,rfl,by omega,b,g⟩
 case round=>
  clear g;obtain⟨k,rfl,hk,a,hO⟩:=hrel;by_cases F:k<(gt P.conj i).length
  ·have j:=iImgTo_vec hP i z X _ (zeros_vec' hP B) k hk
   have Y:=Lib.hid j;clear j;have l:=((hP.cv i z).2 k (by omega)).1;have n:=Lib.hid l;clear l;have Z:((i:Int)+1+k).toNat=i+1+k:=by omega
   have aa:(i:Int)+1+k<X.length:=by omega
   obtain⟨bx,ox,rfl,_,_,hcx⟩:=Ints.at (hx.ext a) (i+1+k) (by omega);have q:=B.2 (i+1+k) (by omega);have G:=hP.ord7 (i+1+k) (by omega);have ab:0<=gt X (i+1+k):=q.1;have ad:gt X (i+1+k)<=7:=by omega
   clear q G;obtain⟨bd,od,uO,uP,rfl,_,_,tZ,H⟩:=Rows2.at Co k F;have I:=a.cell tZ (by simp);go_wp2;go_loopw [33] (λJ r=>∃m:Nat,J=.int .i64 m/\m<=(gt X (i+1+k)).toNat/\Ext w r/\Own w.heap.size r t (iter m (λout=>tv P out (gt (gt P.conj i) k)) (rImgTo (tv P) (gt P.conj i) i X (List.replicate X.length 0) k))) (λJ _=>(gt X (i+1+k)).toNat-(intOf J).toNat)
   case atStart=>exact⟨0,rfl,by omega,a,hO⟩
   case round=>
    clear a hO hcx I tZ;obtain⟨m,rfl,hm,a,hO⟩:=hrel;by_cases Q:(m:Int)<gt X (i+1+k)
    ·have u:Vec P.orders (iter m (λout=>tv P out (gt (gt P.conj i) k)) (rImgTo (tv P) (gt P.conj i) i X (List.replicate X.length 0) k)):=iter_inv (Vec P.orders) _ (λy hy=>tv_vec hP y _ hy n.out) _ _ Y.out
     have K:=Lib.hid u;clear u;go_wp2_with fail
     refine Calls.mono (timesVector_ok P hP w.heap.size wr _ t _ _ _ (A.mono (off_of hO (Nat.le_refl _) a)) hO K.out (H.mono (off_of hO (Nat.le_refl _) a)) n.out) ?_;rintro e3 w3 ⟨v3,rfl,L,rfl,jS⟩;have M:=mut_ext a hO (Nat.le_refl _) L;go_wp2;go_roundw
     case rel=>exact⟨m+1,by go_num,by omega,M,jS⟩
     case measure=>simp[intOf];omega
    ·have N:m=(gt X (i+1+k)).toNat:=by omega
     subst N;go_wp2;go_roundw
     case rel=>exact⟨k+1,by go_num,by omega,a,hO⟩
     case measure=>simp[intOf];omega
  ·have O:k=(gt P.conj i).length:=by omega
   subst O;go_wp2;go_ret;exact⟨_,rfl,a,hO⟩
def numTo (o x:List Int):Nat->Int
 | 0=>0
 | k+1=>numTo o x k*gt o k+gt x k
def num (P:Pr) (x:List Int):Int:=numTo P.orders x P.orders.length
theorem numTo_bd {P:Pr}(hP:Valid P) {x:List Int}(hx:Vec P.orders x) (k:Nat) (hk:k<=P.orders.length):0<=numTo P.orders x k/\numTo P.orders x k+1<=prodTo P.orders k:=by
 induction k with
 | zero=>simp[numTo,prodTo]
 | succ k a=>
  obtain⟨h1,h2⟩:=a (by omega);have e:=hP.pos k (by omega);have g:=hx.2 k (by omega);have i:0<=numTo P.orders x k*gt P.orders k:=Int.mul_nonneg h1 (by omega);have b:(numTo P.orders x k+1)*gt P.orders k<=prodTo P.orders k*gt P.orders k:=Int.mul_le_mul_of_nonneg_right h2 (by omega);rw[Int.add_mul,Int.one_mul] at b;simp only[numTo,prodTo];omega
theorem num_bd {P:Pr}(hP:Valid P) {x:List Int}(hx:Vec P.orders x):0<=num P x/\num P x<ordP P:=by
 have:=numTo_bd hP hx P.orders.length (Nat.le_refl _);unfold num ordP;omega
theorem numberOf_ok (P:Pr) (hP:Valid P) (w:World) (p x:Value) (X:List Int) (q r:Nat->Prop) (l:PresP q w p P) (hx:Ints r w x X) (a:Vec P.orders X) :
  Calls Tryz.prog 177 #[p,x] w λe w'=>e=.returned (.int .i64 (num P X))/\w=w':=by
 have u:=hP.n6;have v:X.length<=P.orders.length/\P.orders.length<=X.length:=by rw[a.1];omega
 obtain⟨pb,po,rfl⟩:=l.shape;obtain⟨B,capx,rfl,_,_⟩:=hx.shape;obtain⟨C,capo,fo,hoi⟩:=l.ordAt;go_enter Tryz.func177,Tryz.ntmps177;go_wp2;go_loop [5,10] (λy i=>∃k:Nat,i=.int .i64 k/\y=.int .i64 (numTo P.orders X k)/\k<=X.length) (λ_ i=>X.length-(intOf i).toNat)
 case atStart=>exact⟨0,rfl,rfl,by omega⟩
 case round=>
  obtain⟨k,rfl,rfl,hk⟩:=hrel;by_cases g:k<X.length
  ·obtain ⟨b,off,rfl,_,_,hc⟩:=Ints.at hx k g
   obtain⟨b2,off2,rfl,_,_,hc2⟩:=Ints.at hoi k (by omega);have h1:=numTo_bd hP a (k+1) (by omega);have z:=hP.pre (k+1) (by omega);have m:=a.2 k (by omega);have n:=numTo_bd hP a k (by omega);have A:=hP.ord7 k (by omega);have D:0<=numTo P.orders X k*gt P.orders k:=Int.mul_nonneg n.1 (by omega);have E:numTo P.orders X k*gt P.orders k<=729:=by simp only[numTo] at h1;omega
   have F:0<=gt X k:=m.1;have G:gt X k<=7:=by omega
   clear h1 z m n A;go_wp2;go_round
   case rel=>exact⟨k+1,by go_num,rfl,by omega⟩
   case measure=>simp[intOf];omega
  ·have j:k=P.orders.length:=by omega
   subst j;go_wp2;go_ret;exact⟨rfl,rfl⟩
theorem l10Number_ok (P:Pr) (hP:Valid P) (w:World) (pv x:Value) (X:List Int) (r u:Nat->Prop) (y:PresV r w pv P) (hx:Ints u w x X) (e:Vec P.orders X) :
  Calls Tryz.prog 255 #[pv,x] w (Ret w λ_ v=>v=.int .i64 (num P X)):=by
 obtain⟨vo,vp,vc,rfl,g⟩:=y;have z:=hP.n6;have A:X.length<=P.orders.length/\P.orders.length<=X.length:=by rw[e.1];omega
 have hB:=PresP.box g 28;have a:Ext w (w.alloc (.cells #[vo,vp,vc] 28)):=World.grownBy_alloc _ _ _;have l:=hx.ext a;obtain⟨I,capx,rfl,_,_⟩:=hx.shape;go_enter Tryz.func255,Tryz.ntmps255;go_wp2;generalize m:w.alloc (.cells #[vo,vp,vc] 28)=w0 at *;clear m;go_loopw [5,6] (λB i wr=>∃k:Nat,i=.int .i64 k/\B=.int .i64 (numTo P.orders X k)/\k<=X.length/\Ext w0 wr) (λ_ i _=>X.length-(intOf i).toNat)
 case atStart=>exact⟨0,rfl,rfl,by omega,Ext.refl _⟩
 case round=>
  obtain⟨k,rfl,rfl,hk,j⟩:=hrel;by_cases n:k<X.length
  ·obtain ⟨J,capo,fo,hoi⟩:=(hB.ext j).ordAt
   obtain⟨b,off,rfl,_,_,hc⟩:=Ints.at (l.ext j) k n;obtain⟨b2,off2,rfl,_,_,hc2⟩:=Ints.at hoi k (by omega);have h1:=numTo_bd hP e (k+1) (by omega);have C:=hP.pre (k+1) (by omega);have g:=e.2 k (by omega);have q:=numTo_bd hP e k (by omega);have D:=hP.ord7 k (by omega);have K:0<=numTo P.orders X k*gt P.orders k:=Int.mul_nonneg q.1 (by omega);have L:numTo P.orders X k*gt P.orders k<=729:=by simp only[numTo] at h1;omega
   have M:0<=gt X k:=g.1;have N:gt X k<=7:=by omega
   have E:(k:Int)<X.length:=by omega
   have F:(k:Int)<P.orders.length:=by omega
   have G:IntKind.i64.wrap (numTo P.orders X k*gt P.orders k)=numTo P.orders X k*gt P.orders k:=IntWalk.i64_in _ (by omega);have H:IntKind.i64.wrap (numTo P.orders X k*gt P.orders k+gt X k)=numTo P.orders X k*gt P.orders k+gt X k:=IntWalk.i64_in _ (by omega);clear h1 C g q D;go_wp2;go_quiet (fail)
   clear G H;go_wp2;go_roundw
   case rel=>exact⟨k+1,by go_num,rfl,by omega,grown_trans j (grown_drewN _ _ _)⟩
   case measure=>simp[intOf];omega
  ·have p:k=P.orders.length:=by omega
   subst p;go_wp2;go_ret;exact⟨_,rfl,grown_trans a j,rfl⟩
def elTo (o:List Int) (N:Nat) (m:Int):Nat->List Int × Int
 | 0=>(List.replicate N 0,m)
 | k+1=>
  let s:=elTo o N m k
  (s.1.set (N-1-k) (s.2%gt o (N-1-k)),s.2/gt o (N-1-k))
def elAt (P:Pr) (m:Int):List Int:=(elTo P.orders P.orders.length m P.orders.length).1
theorem elTo_inv {P:Pr}(hP:Valid P) (m:Int) (b:0<=m) (k:Nat) (hk:k<=P.orders.length) :
  Vec P.orders (elTo P.orders P.orders.length m k).1/\0<=(elTo P.orders P.orders.length m k).2/\(elTo P.orders P.orders.length m k).2<=m:=by
 induction k with
 | zero=>
  refine⟨⟨by simp[elTo],λi e => ?_⟩,b,Int.le_refl _⟩;have:=hP.ord7 i e;simp only[elTo];rw[gt_replicate];omega
 | succ k g=>
  obtain⟨h1,a,j⟩:=g (by omega);have l:=hP.ord7 (P.orders.length-1-k) (by omega);refine⟨h1.set _ _ ⟨Int.emod_nonneg _ (by omega),λ_=>Int.emod_lt_of_pos _ (by omega)⟩,Int.ediv_nonneg a (by omega),?_⟩;exact Int.le_trans (Int.ediv_le_self _ a) j
theorem elAt_vec {P:Pr}(hP:Valid P) (m:Int) (a:0<=m):Vec P.orders (elAt P m):=(elTo_inv hP m a _ (Nat.le_refl _)).1
theorem l10One_ok (P:Pr) (hP:Valid P) (w:World) (pv:Value) (e:Nat->Prop) (g:PresV e w pv P) :
  Calls Tryz.prog 212 #[pv] w (Ret w λw' v=>Own w.heap.size w' v (zeros P.orders.length)):=by
 obtain⟨vo,vp,vc,rfl,h3⟩:=g;have i:=hP.n6;have hB:=PresP.box h3 28;obtain⟨j,capo,fo,hoi⟩:=hB.ordAt;go_enter Tryz.func212,Tryz.ntmps212;go_wp2_with (at_make;refine wp_make_ints rfl _ _ rfl (w.heap.size+1) P.orders.length (w.heap.size+1) (by simp) _ rfl rfl rfl (by omega) (by simp) ?_;intro k a b _)
 go_ret;exact⟨_,rfl,grown_trans (World.grownBy_alloc _ _ _) b,a.weak (by omega)⟩
theorem elementAt_ok (P:Pr) (hP:Valid P) (w:World) (p:Value) (m:Int) (H:Nat->Prop) (A:PresP H w p P) (I:0<=m) (J:m<=1000000000) :
  Calls Tryz.prog 147 #[p,.int .i64 m] w (Ret w λw' v=>Own w.heap.size w' v (elAt P m)):=by
 have K:=hP.n6;obtain⟨pb,po,rfl⟩:=A.shape;obtain⟨R,capo,gy,hoi⟩:=A.ordAt;have g:=gy;go_enter Tryz.func147,Tryz.ntmps147;go_wp2_with (at_make;refine wp_make_ints rfl _ _ rfl w.heap.size P.orders.length w.heap.size rfl _ rfl rfl rfl (by omega) (by simp) ?_;intro S q r _)
 clear g;have l:=Lib.hid gy;clear gy
 go_loopw [1,6] (λmv i wr=>∃k:Nat,i=.int .i64 ((P.orders.length:Int)-1-k)/\mv=.int .i64 (elTo P.orders P.orders.length m k).2/\k<=P.orders.length/\Ext w wr /\
   Own w.heap.size wr (.slice (some ⟨w.heap.size,0,none⟩) P.orders.length P.orders.length) (elTo P.orders P.orders.length m k).1) (λ_ i _=>(intOf i+1).toNat)
 case atStart=>exact⟨0,by simp,rfl,by omega,r,q⟩
 case round=>
  obtain⟨k,rfl,rfl,hk,hg,hO⟩:=hrel;obtain⟨N,hm0,hm1⟩:=elTo_inv hP m I k hk;by_cases u:k<P.orders.length
  ·obtain ⟨b2,off2,rfl,_,_,gY⟩:=Ints.at hoi (P.orders.length-1-k) (by omega)
   have g:=hg.cell l.out (by simp);have O:=hg.cell gY (by simp);have b:=hP.ord7 (P.orders.length-1-k) (by omega);have T:=hO.cell (P.orders.length-1-k) (by rw[N.1];omega);have U:=hO.frozen (P.orders.length-1-k);have a:elTo P.orders P.orders.length m (k+1)=((elTo P.orders P.orders.length m k).1.set (P.orders.length-1-k) ((elTo P.orders P.orders.length m k).2%gt P.orders (P.orders.length-1-k)),(elTo P.orders P.orders.length m k).2/gt P.orders (P.orders.length-1-k)):=rfl;have n:=Lib.hid a;clear a;obtain⟨y,hg2⟩:=hO.store (P.orders.length-1-k) ((elTo P.orders P.orders.length m k).2%gt P.orders (P.orders.length-1-k));have e:Ext w (wr.setCell ⟨w.heap.size,P.orders.length-1-k,none⟩ (.int .i64 ((elTo P.orders P.orders.length m k).2%gt P.orders (P.orders.length-1-k)))):=grown_own hg hg2 (λj Q u=>by cases Q;omega);have B:=e.cell l.out (by simp);have C:=e.cell gY (by simp);clear gY;have D:((P.orders.length:Int)-1-k).toNat=P.orders.length-1-k:=by omega
   generalize E:P.orders.length-1-k=i at *;generalize (elTo P.orders P.orders.length m k).1=L at *;generalize (elTo P.orders P.orders.length m k).2=M at *;have F:2<=gt P.orders i:=b.1;have G:gt P.orders i<=7:=b.2;have V:=Lib.hid E;clear E b;go_wp2;go_roundw
   case rel=>exact⟨k+1,by congr 1;omega,by rw[n.out],by omega,e,by rw[n.out];exact y⟩
   case measure=>simp[intOf];omega
  ·have z:k=P.orders.length:=by omega
   subst z;go_wp2;go_ret;exact⟨_,rfl,hg,hO⟩
theorem l10At_ok (P:Pr) (hP:Valid P) (w:World) (pv:Value) (m:Int) (V:Nat->Prop) (D:PresV V w pv P) (W:0<=m) (X:m<=1000000000) :
  Calls Tryz.prog 107 #[pv,.int .i64 m] w (Ret w λw' v=>Own w.heap.size w' v (elAt P m)):=by
 have Y:=hP.n6;obtain⟨vo,vp,vc,rfl,h3⟩:=D;have N:=PresP.box h3 28;have E:Ext w (w.alloc (.cells #[vo,vp,vc] 28)):=World.grownBy_alloc _ _ _;obtain⟨Z,jD,jR,_,_,hc0,hc1,z,gf⟩:=N.at;obtain⟨ao,capo,n,hoi⟩:=N.ordAt;go_enter Tryz.func107,Tryz.ntmps107;go_wp2_with fail
 have A:(w.alloc (.cells #[vo,vp,vc] 28)).heap.size=w.heap.size+1:=by simp
 have HS:=Lib.hid A;clear A;clear hc0 hc1 z;have B:=Lib.hid n;clear n;generalize F:w.alloc (.cells #[vo,vp,vc] 28)=w0 at *;clear F;refine Calls.mono (l10One_ok P hP w0 _ Any ⟨_,_,_,rfl,gf⟩) ?_;rintro e1 w1 ⟨r,rfl,hg1,a⟩;have p:=a.ints (by simp[zeros];omega);obtain⟨G,b,rfl,_,_⟩:=p.shape;have l:(zeros P.orders.length).length=P.orders.length:=by simp[zeros]
 rw[l] at p;have a:Own w0.heap.size w1 (.slice G P.orders.length b) (zeros P.orders.length):=by rw[l] at a;exact a
 simp only[l];clear l p;go_wp2
 go_loopw [1,6] (λmv i wr=>∃k:Nat,i=.int .i64 ((P.orders.length:Int)-1-k)/\mv=.int .i64 (elTo P.orders P.orders.length m k).2/\k<=P.orders.length/\Ext w0 wr /\
   Own w0.heap.size wr (.slice G P.orders.length b) (elTo P.orders P.orders.length m k).1) (λ_ i _=>(intOf i+1).toNat)
 case atStart=>exact⟨0,by simp,rfl,by omega,hg1,a⟩
 case round=>
  clear a;obtain⟨k,rfl,rfl,hk,hg,hO⟩:=hrel;obtain⟨H,hm0,hm1⟩:=elTo_inv hP m W k hk;by_cases I:k<P.orders.length
  ·obtain ⟨g,capg,q,hgb,hgs⟩:=hO.form (by rw[H.1];omega)
   rw[H.1] at q;obtain⟨rfl,_⟩:G=some ⟨g,0,none⟩/\b=capg:=by cases q;exact⟨rfl,rfl⟩
   clear q;obtain⟨b2,off2,rfl,_,_,gY⟩:=Ints.at hoi (P.orders.length-1-k) (by omega);have n:=hg.cell B.out (by simp);have z:=hg.cell gY (by simp);have u:=hP.ord7 (P.orders.length-1-k) (by omega);have hc:=hO.cell (P.orders.length-1-k) (by rw[H.1];omega);have hf:=hO.frozen (P.orders.length-1-k);have e:elTo P.orders P.orders.length m (k+1)=((elTo P.orders P.orders.length m k).1.set (P.orders.length-1-k) ((elTo P.orders P.orders.length m k).2%gt P.orders (P.orders.length-1-k)),(elTo P.orders P.orders.length m k).2/gt P.orders (P.orders.length-1-k)):=rfl;have C:=Lib.hid e;clear e;obtain⟨J,hg2⟩:=hO.store (P.orders.length-1-k) ((elTo P.orders P.orders.length m k).2%gt P.orders (P.orders.length-1-k));have y:Ext w0 (wr.setCell ⟨g,P.orders.length-1-k,none⟩ (.int .i64 ((elTo P.orders P.orders.length m k).2%gt P.orders (P.orders.length-1-k)))):=grown_own hg hg2 (λj hj I=>by cases hj;omega);have O:=y.cell B.out (by simp);have Q:=y.cell gY (by simp);clear gY;have R:((P.orders.length:Int)-1-k).toNat=P.orders.length-1-k:=by omega
   generalize S:P.orders.length-1-k=i at *;generalize (elTo P.orders P.orders.length m k).1=L at *;generalize (elTo P.orders P.orders.length m k).2=M at *;have T:2<=gt P.orders i:=u.1;have U:gt P.orders i<=7:=u.2;have HI:=Lib.hid S;clear S u;go_wp2;go_roundw
   case rel=>exact⟨k+1,by congr 1;omega,by rw[C.out],by omega,y,by rw[C.out];exact J⟩
   case measure=>simp[intOf];omega
  ·have K:k=P.orders.length:=by omega
   subst K;go_wp2;go_ret;exact⟨_,rfl,grown_trans E hg,hO.weak (by have:=HS.out;omega)⟩
theorem und_rows:Tryz.prog.underlying 25=some (.slice 24):=by kernel_rfl
theorem Tryz.infoRow:(Tryz.prog.info? 24).map (λi=>(i.zero,i.size,i.bytes))=some (some (.slice none 0 0),1,24):=by kernel_rfl
theorem wp_app_row {i:Array Oper}{rest:List Oper}{o:Oper}{a:Act}{Q:Exit->Act->World->Prop}{w:World}(l:o.guard=none) (s x:Operand)
  (n:o.op=Op.call { callee:=Callee.builtin Builtin.append,args := #[s,x],argTypes := #[25,25] }) (B:Nat) (e g:World) (v u:Value) (xs:List (List Int)) (y:List Int) (p:a.eval s=v) (j:RowsO B e v xs)
  (q:Ext e g) (r:OwnIn (From e.heap.size) g u y) (z:w=g.alloc (.cells #[u] 24)) (hx:a.eval x=.slice (some ⟨g.heap.size,0,none⟩) 1 1) (k:xs.length<=1000000) (b:B<=e.heap.size)
  (h:∀m w',RowsO B w' m (xs++[y])->e.grownBy w' v.ownBlock->g.grownBy w' v.ownBlock->wpList Tryz.prog i Q rest (a.put o.dst m) w') :
  wpList Tryz.prog i Q (o :: rest) a w:=
 wp_app_one rdOwn 25 24 (.slice none 0 0) 24 und_rows Tryz.infoRow rfl (by decide) l s x n B e g v u xs y p j q r z hx k b h
theorem SlO.lt {α:Type} [Inhabited α] {El:(Nat->Prop)->World->Value->α->Prop}{E B:Nat}{w:World}{v:Value}{xs:List α}(h:SlO El E B w v xs) (k:Nat) (hk:v.ownBlock=some k):B<=k/\k<w.heap.size:=by
 obtain⟨a,G,_,hO,_⟩:=h;exact hO.lt k hk
theorem SlO.extw {α:Type} [Inhabited α] {El:(Nat->Prop)->World->Value->α->Prop}{E B:Nat}{w a b:World}{v:Value}{xs:List α}(h:SlO El E B a v xs) (e:Ext w a) (hB:w.heap.size<=B) (k:a.grownBy b v.ownBlock):Ext w b:=
 grown_own e k (λj g i=>by have:=(h.lt j g).1;omega)
def allEl (P:Pr):List (List Int):=(List.range (ordP P).toNat).map (λk:Nat=>elAt P (k:Int))
theorem range_map_succ {α:Type}(f:Nat->α) (k:Nat):(List.range (k+1)).map f=(List.range k).map f++[f k]:=by
 rw[List.range_succ,List.map_append];rfl
theorem allElements_ok (P:Pr) (hP:Valid P) (w:World) (p:Value) (g:Nat->Prop) (u:PresP g w p P) :
  Calls Tryz.prog 99 #[p] w (Ret w λw' v=>RowsO w.heap.size w' v (allEl P)):=by
 have y:ordP P<=729:=hP.le729;have z:=hP.ordP_pos;go_enter Tryz.func99,Tryz.ntmps99;go_wp2_with (go_at_call 110;refine(orderOf_ok _ _ P g hP u).mono ?_;rintro F G ⟨rfl,rfl⟩)
 go_loopw [3,7] (λv i wr=>∃k:Nat,i=.int .i64 k/\k<=(ordP P).toNat/\Ext w wr/\RowsO w.heap.size wr v ((List.range k).map (λk:Nat=>elAt P (k:Int)))) (λ_ i _=>(ordP P).toNat-(intOf i).toNat)
 case atStart=>exact⟨0,rfl,by omega,Ext.refl _,SlO.nil _ _ _ _⟩
 case round=>
  obtain⟨k,rfl,hk,e,hO⟩:=hrel;by_cases C:(k:Int)<ordP P
  ·go_wp2_with fail
   refine Calls.mono (elementAt_ok P hP wr p k g (u.ext e) (by omega) (by omega)) ?_;rintro H A ⟨r,rfl,l,hR⟩;have B:=elAt_vec hP (k:Int) (by omega);have a:OwnIn (From wr.heap.size) A r (elAt P k):=OwnIn.of hR (by rw[B.1];have:=hP.n6;omega) (λj D _=>D);clear B;obtain⟨I,capr,rfl,_,_⟩:=a.ints.shape;go_wp2_with (at_builtin;go_must (refine wp_app_row rfl _ _ rfl w.heap.size wr A _ _ _ (elAt P k) rfl hO l a rfl rfl (by simp;omega) e.size ?_);intro J K b m E)
   have n:=hO.extw e (Nat.le_refl _) m;rw[<-range_map_succ (λk:Nat=>elAt P (k:Int))] at b;go_roundw
   case rel=>exact⟨k+1,by go_num,by omega,n,b⟩
   case measure=>simp[intOf];omega
  ·have q:k=(ordP P).toNat:=by omega
   subst q;go_wp2;go_ret;exact⟨_,rfl,e,hO⟩
def gensOf (n:Nat):List (List Int):=(List.range n).map (λk:Nat=>unitV n k)
theorem generators_ok (P:Pr) (hP:Valid P) (w:World) (p:Value) (A:Nat->Prop) (y:PresP A w p P) :
  Calls Tryz.prog 168 #[p] w (Ret w λw' v=>RowsO w.heap.size w' v (gensOf P.orders.length)):=by
 have B:=hP.n6;obtain⟨pb,po,rfl⟩:=y.shape;obtain⟨E,capo,gy,hoi⟩:=y.ordAt;have a:=gy;go_enter Tryz.func168,Tryz.ntmps168;go_wp2;clear a;have g:=Lib.hid gy;clear gy;go_loopw [3,10] (λv i wr=>∃k:Nat,i=.int .i64 k/\k<=P.orders.length/\Ext w wr/\RowsO w.heap.size wr v ((List.range k).map (λk:Nat=>unitV P.orders.length k))) (λ_ i _=>P.orders.length-(intOf i).toNat)
 case atStart=>exact⟨0,rfl,by omega,Ext.refl _,SlO.nil _ _ _ _⟩
 case round=>
  obtain⟨k,rfl,hk,hg,hO⟩:=hrel;by_cases l:k<P.orders.length
  ·have a:=hg.cell g.out (by simp)
   go_wp2_with fail
   refine Calls.mono (unitVector_ok P.orders.length k wr l (by omega)) ?_;rintro F z ⟨r,rfl,m,hR⟩;have b:OwnIn (From wr.heap.size) z r (unitV P.orders.length k):=OwnIn.of hR (by simp[unitV];omega) (λj C _=>C);obtain⟨G,capr,rfl,_,_⟩:=b.ints.shape;go_wp2_with (at_builtin;go_must (refine wp_app_row rfl _ _ rfl w.heap.size wr z _ _ _ (unitV P.orders.length k) rfl hO m b rfl rfl (by simp;omega) hg.size ?_);intro H I e n D)
   have q:=hO.extw hg (Nat.le_refl _) n;rw[<-range_map_succ (λk:Nat=>unitV P.orders.length k)] at e;go_roundw
   case rel=>exact⟨k+1,by go_num,by omega,q,e⟩
   case measure=>simp[intOf];omega
  ·have u:k=P.orders.length:=by omega
   subst u;go_wp2;go_ret;exact⟨_,rfl,hg,hO⟩
theorem Tryz.infoRows:(Tryz.prog.info? 25).map (λi=>(i.zero,i.size,i.bytes))=some (some (.slice none 0 0),1,24):=by kernel_rfl
theorem und_rows3:Tryz.prog.underlying 26=some (.slice 25):=by kernel_rfl
def Box3 (W:World) (b:Nat) (a e g:Value):Prop:=
 b<W.heap.size/\W.cell? ⟨b,0,none⟩=some a/\W.cell? ⟨b,1,none⟩=some e/\W.cell? ⟨b,2,none⟩=some g/\∀k,W.frozen? ⟨b,k,none⟩=false
theorem Box3.ext {W e:World}{b:Nat}{g i j:Value}(h:Box3 W b g i j) (a:Ext W e):Box3 e b g i j:=by
 obtain⟨l,h1,h2,h3,m⟩:=h;exact⟨Nat.lt_of_lt_of_le l a.size,a.cell h1 (by simp),a.cell h2 (by simp),a.cell h3 (by simp),λk=>(World.frozen?_of_block (w:=W) (a.block b l (by simp))).trans (m k)⟩
theorem Box3.put {W:World}{b:Nat}{a e g:Value}(h:Box3 W b a e g) (v:Value) :
  Box3 (W.setCell ⟨b,0,none⟩ v) b v e g/\Box3 (W.setCell ⟨b,1,none⟩ v) b a v g/\Box3 (W.setCell ⟨b,2,none⟩ v) b a e v:=by
 obtain⟨n,h1,l,m,i⟩:=h;have j:∀k,b<(W.setCell ⟨b,k,none⟩ v).heap.size:=λk=>by simpa [World.setCell] using n
 refine⟨⟨j 0,World.cell?_setCell_same _ _ _ h1,?_,?_,λk=>by simp[i]⟩,⟨j 1,?_,World.cell?_setCell_same _ _ _ l,?_,λk=>by simp[i]⟩,⟨j 2,?_,?_,World.cell?_setCell_same _ _ _ m,λk=>by simp[i]⟩⟩
 all_goals first
  | exact(World.cell?_setCell_other _ _ _ _ (by simp)).trans h1
  | exact(World.cell?_setCell_other _ _ _ _ (by simp)).trans l
  | exact(World.cell?_setCell_other _ _ _ _ (by simp)).trans m
theorem Box3.made (w:World) (T:Nat) (a b e:Value):Box3 (w.alloc (.cells #[a,b,e] T)) w.heap.size a b e:=by
 refine⟨by simp,?_,?_,?_,λk=>World.frozen?_alloc_at _ _ _ _ rfl⟩<;>(rw[World.cell?_alloc_at _ _ _ _ rfl];rfl)
structure Touch (F:Nat->Prop) (w w':World):Prop where
 os:w'.os=w.os
 tape:w'.tape=w.tape
 output:w'.output=w.output
 size:w.heap.size<=w'.heap.size
 block:∀k,k<w.heap.size->¬F k->w'.heap[k]? = w.heap[k]?
theorem Touch.of {F:Nat->Prop}{w w':World}{r:Option Nat}(h:w.grownBy w' r) (a:∀k,r=some k->F k):Touch F w w':=
 ⟨h.os,h.tape,h.output,h.size,λk hk hF=>h.block k hk (λe=>hF (a k e.symm))⟩
theorem Box3.keep {W a:World}{b:Nat}{g i j:Value}(h:Box3 W b g i j) (l:W.heap.size<=a.heap.size) (e:a.heap[b]? = W.heap[b]?):Box3 a b g i j:=by
 obtain⟨c0,c1,c2,c3,c4⟩:=h;exact⟨Nat.lt_of_lt_of_le c0 l,(World.cell?_of_block (w:=W) e).trans c1,(World.cell?_of_block (w:=W) e).trans c2,(World.cell?_of_block (w:=W) e).trans c3,λk=>(World.frozen?_of_block (w:=W) e).trans (c4 k)⟩
def ByteEl (_:World) (u:Value) (x:Int):Prop:=u=.int .u8 x/\0<=x/\x<=255
abbrev Bytes (S:Nat->Prop) (w:World) (v:Value) (l:List Int):Prop:=Sl ByteEl S w v l
theorem Bytes.at {S:Nat->Prop}{w:World}{a:Option Addr}{n cap:Nat}{xs:List Int}(h:Sl ByteEl S w (.slice a n cap) xs) (i:Nat) (g:i<xs.length) :
  ∃b off,a=some ⟨b,off,none⟩/\S b/\b<w.heap.size/\w.cell? ⟨b,off+i,none⟩=some (.int .u8 (gt xs i))/\0<=gt xs i/\gt xs i<=255:=by
 obtain⟨b,off,u,h1,h2,h3,j,e⟩:=h.at i g;obtain⟨e,h6⟩:u=.int .u8 (gt xs i)/\0<=gt xs i/\gt xs i<=255:=e;exact⟨b,off,h1,h2,h3,by rw[j,e],h6⟩
theorem Bytes.mono {S S':Nat->Prop}{w w':World}{v:Value}{xs:List Int}(h:Bytes S w v xs) (a:∀k,S k->k<w.heap.size->S' k/\k<w'.heap.size/\w'.heap[k]? = w.heap[k]?):Bytes S' w' v xs:=Sl.mono h a (λ_ _ h=>h)
theorem Bytes.ext {S:Nat->Prop}{w w':World}{v:Value}{xs:List Int}(h:Bytes S w v xs) (a:Ext w w'):Bytes S w' v xs:=h.mono (frame_ext a)
theorem grown_set (w:World) (b j:Nat) (v:Value):w.grownBy (w.setCell ⟨b,j,none⟩ v) (some b):=⟨rfl,rfl,rfl,by simp[World.setCell],λk _ hk=>Below.heap_setCell _ _ _ _ (by intro e;exact hk (by rw[e]))⟩
def Src (b:Nat) (w:World) (sb:Nat):Prop:=∃(cv:Value) (pos a:Nat) (e:List Int),Box3 w sb cv (.int .i64 pos) (.int .i64 a)/\Bytes (λk=>k≠sb/\k<b) w cv e/\pos<=e.length/\a<2147483647/\sb<b
theorem Src.keep {b:Nat}{w w':World}{sb:Nat}(h:Src b w sb) (e:w.heap.size<=w'.heap.size) (g:∀k,k<b->k<w.heap.size->w'.heap[k]? = w.heap[k]?):Src b w' sb:=by
 obtain⟨cv,pos,seed,bs,h1,h2,h3,h4,i⟩:=h;exact⟨cv,pos,seed,bs,h1.keep e (g sb i h1.1),Sl.mono h2 (λk hk a=>⟨hk,Nat.lt_of_lt_of_le a e,g k hk.2 a⟩) (λ_ _ h=>h),h3,h4,i⟩
theorem Src.ext {b:Nat}{w w':World}{sb:Nat}(h:Src b w sb) (e:Ext w w'):Src b w' sb:=h.keep e.size (λk _ a=>e.block k a (by simp))
theorem Src.own {a:Nat}{w w':World}{sb:Nat}{r:Option Nat}(h:Src a w sb) (g:w.grownBy w' r) (i:∀k,r=some k->a<=k):Src a w' sb:=
 h.keep g.size (λk hk b=>g.block k b (λe=>by have:=i k e.symm;omega))
theorem Src.lt {a:Nat}{w:World}{sb:Nat}(h:Src a w sb):sb<a/\sb<w.heap.size:=by
 obtain⟨cv,pos,seed,bs,h1,h2,h3,h4,h5⟩:=h;exact⟨h5,h1.1⟩
def NextR (a sb:Nat) (n:Int) (w':World) (v:Value):Prop:=∃x:Int,v=.int .i64 x/\(n<=1->x=0)/\(1<n->0<=x/\x<n)/\Src a w' sb
theorem l01Next_ok (O:Nat) (w:World) (sb:Nat) (n:Int) (h:Src O w sb) :
  Calls Tryz.prog 135 #[.pointer (some ⟨sb,0,none⟩),.int .i64 n] w (Mut w (some sb) (NextR O sb n)):=by
 have V:=h;obtain⟨cv,pos,D,A,hB,hby,hpos,hseed,hlt⟩:=h;by_cases hn:n<=1
 ·go_enter Tryz.func135,Tryz.ntmps135
  go_wp2;go_ret;exact⟨_,rfl,grown_refl _ _,0,rfl,λ_=>rfl,λh=>by omega,V⟩
 ·have Y:1<n:=by omega
  obtain⟨a,cap,rfl,_,hlen⟩:=hby.shape;obtain⟨j,hs2⟩:∃j:Nat,j=(D*48271+71)%2147483647:=⟨_,rfl⟩;have q:j<2147483647:=by omega
  have I:((D:Int)*48271+71)%2147483647=(j:Int):=by omega
  have r:=(hB.put (.int .i64 (j:Nat))).2.2;obtain⟨F,h1,h2,h3,h4⟩:=id hB;go_enter Tryz.func135,Tryz.ntmps135;have u:w.grownBy (w.setCell ⟨sb,2,none⟩ (.int .i64 (j:Nat))) (some sb):=grown_set _ _ _ _;have l:Bytes (λk=>k≠sb/\k<O) (w.setCell ⟨sb,2,none⟩ (.int .i64 (j:Nat))) (.slice a A.length cap) A:=Bytes.mono hby (frame_of u (λk hk _=>⟨hk,λe=>hk.1 (by cases e;rfl)⟩));have J:=Lib.hid (And.intro r (And.intro u l));clear r hB hs2 hby V u l;go_wp2;clear F h1 h2 h3 h4 I;obtain⟨r,u,l⟩:=J.out;clear J;generalize w.setCell ⟨sb,2,none⟩ (.int .i64 (j:Nat))=G at *;obtain⟨F,h1,h2,h3,h4⟩:=id r;have g:=Lib.hid (And.intro r (And.intro u l));clear r u l;by_cases Z:pos<A.length
  ·obtain ⟨b,off,rfl,⟨nE,jV⟩,hbl,v,R,S⟩:=Bytes.at g.out.2.2 pos Z
   obtain⟨x,hx⟩:∃x,x=gt A pos:=⟨_,rfl⟩;rw[<-hx] at v R S;have HX:=Lib.hid hx;clear hx;have aa:(pos:Int)<A.length:=by omega
   have ab:(0:Int)<=pos:=by omega
   have ac:0<=(j:Int)/47/\(j:Int)/47<=45691142:=by omega
   have T:IntKind.i64.wrap ((j:Int)/47+x)=(j:Int)/47+x:=IntWalk.i64_in _ (by omega);go_quiet (fail)
   go_wp2;have i:Ext G (G.drewN nq):=grown_drewN _ _ _;have E:=i.cell v (by simp);have K:sb<(G.drewN nq).heap.size:=Nat.lt_of_lt_of_le F i.size;have B:=And.intro (g.out.1.ext i) (And.intro (grown_trans g.out.2.1 (grown_of_ext (some sb) i)) (Bytes.ext g.out.2.2 i));have g:=Lib.hid B;clear B i v F h1 h2 h3 h4;obtain⟨h1,h2,h3,h4⟩:=g.out.1.2;generalize G.drewN nq=P at *;go_quiet (fail)
   have i:Ext P (P.drewN nq):=grown_drewN _ _ _;have v:=i.cell E (by simp);have F:sb<(P.drewN nq).heap.size:=Nat.lt_of_lt_of_le K i.size;have B:=And.intro (g.out.1.ext i) (And.intro (grown_trans g.out.2.1 (grown_of_ext (some sb) i)) (Bytes.ext g.out.2.2 i));have g:=Lib.hid B;clear B i E K h1 h2 h3 h4;obtain⟨h1,h2,h3,h4⟩:=g.out.1.2;generalize P.drewN nq=L at *;have y:=(g.out.1.put (.int .i64 ((pos:Int)+1))).2.1;have z:L.grownBy (L.setCell ⟨sb,1,none⟩ (.int .i64 ((pos:Int)+1))) (some sb):=grown_set _ _ _ _;have m:Bytes (λk=>k≠sb/\k<O) (L.setCell ⟨sb,1,none⟩ (.int .i64 ((pos:Int)+1))) (.slice (some ⟨b,off,none⟩) A.length cap) A:=Bytes.mono g.out.2.2 (frame_of z (λk hk _=>⟨hk,λe=>hk.1 (by cases e;rfl)⟩));have C:(L.setCell ⟨sb,1,none⟩ (.int .i64 ((pos:Int)+1))).cell? ⟨b,off+pos,none⟩=some (.int .u8 x):=(World.cell?_setCell_other _ _ _ _ (by first|exact λe=>nE (congrArg Addr.block e)|exact λe=>nE (congrArg Addr.block e).symm)).trans v;have p:=Lib.hid (And.intro y (And.intro (grown_trans g.out.2.1 z) (And.intro m C)));clear y z m C g T;have U:IntKind.i64.wrap ((pos:Int)+1)=(pos:Int)+1:=IntWalk.i64_in _ (by omega);by_cases Q:n<=256/\((pos:Int)+1)%2=0
   ·obtain ⟨M,N⟩:=Q
    go_wp2;clear F h1 h2 h3 h4 U v;obtain⟨y,z,m,C⟩:=p.out;have W:IntKind.i64.wrap ((pos:Int)+1-1)=(pos:Int):=by rw[show(pos:Int)+1-1=(pos:Int) by omega];exact IntWalk.i64_in _ (by omega)
    clear p;generalize L.setCell ⟨sb,1,none⟩ (.int .i64 ((pos:Int)+1))=X at *;obtain⟨F,h1,h2,h3,h4⟩:=id y;have g:=Lib.hid (And.intro y (And.intro z m));clear y z m;go_quiet (fail)
    have i:Ext X (X.drewN nq):=grown_drewN _ _ _;have H:0<=x%n/\x%n<n:=⟨Int.emod_nonneg _ (by omega),Int.emod_lt_of_pos _ (by omega)⟩;go_wp2;go_ret;exact⟨_,rfl,grown_trans g.out.2.1 (grown_of_ext _ i),_,rfl,λh=>by omega,λ_=>H,_,pos+1,j,A,g.out.1.ext i,g.out.2.2.ext i,by omega,q,hlt⟩
   ·have H:0<=((j:Int)/47+x)%n/\((j:Int)/47+x)%n<n:=⟨Int.emod_nonneg _ (by omega),Int.emod_lt_of_pos _ (by omega)⟩
    by_cases M:n<=256
    ·have N:(((pos:Int)+1)%2 == 0)=false:=by simp;exact λh=>Q ⟨M,h⟩
     clear Q;go_wp2;go_ret;exact⟨_,rfl,p.out.2.1,_,rfl,λh=>by omega,λ_=>H,_,pos+1,j,A,p.out.1,p.out.2.2.1,by omega,q,hlt⟩
    ·clear Q
     go_wp2;go_ret;exact⟨_,rfl,p.out.2.1,_,rfl,λh=>by omega,λ_=>H,_,pos+1,j,A,p.out.1,p.out.2.2.1,by omega,q,hlt⟩
  ·go_quiet (fail)
   go_wp2;have i:Ext G (G.drewN nq):=grown_drewN _ _ _;have H:0<=(j:Int)/47%n/\(j:Int)/47%n<n:=⟨Int.emod_nonneg _ (by omega),Int.emod_lt_of_pos _ (by omega)⟩;go_ret;exact⟨_,rfl,grown_trans g.out.2.1 (grown_of_ext _ i),_,rfl,λh=>by omega,λ_=>H,_,pos,j,A,g.out.1.ext i,g.out.2.2.ext i,hpos,q,hlt⟩
theorem und_int:Tryz.prog.underlying 3=some (.int .i64):=by kernel_rfl
theorem zeroCells_toList (m:Nat):(Builtin.zeroCells #[Value.int .i64 0] m).toList=(List.replicate m (0:Int)).map (Value.int .i64):=by
 apply List.ext_getElem
 ·simp[Builtin.zeroCells]
 ·intro i h1 a
  simp[Builtin.zeroCells,Nat.mod_one]
theorem run_app_zeros (w:World) (base:Nat) (v:Value) (l:List Int) (i:Own base w v l) (T:TypeId) (m:Nat) (U:l.length+m<=2147483648) (j:base<=w.heap.size) :
  ∃V w',(Builtin.append_ #[24,3] T #[v,.int .i64 m]).run Tryz.prog w=.ok V w'/\Own base w' V (l++List.replicate m 0)/\w.grownBy w' v.ownBlock:=by
 obtain⟨O,H,C,hz1,D⟩:=info_parts Tryz.infoInt;have I:=und_ints;have n:=und_int;have W:IntKind.i64.wrap (m:Int)=m:=IntWalk.i64_in _ (by omega);have J:IntKind.i64.wrap 0=0:=IntWalk.i64_in _ (by omega);have A:¬((m:Int)<0):=by omega
 have B:¬(281474976710656<(m:Int)*(O.bytes:Int)):=by rw[D];omega
 have y:(Value.int IntKind.i64 0).cells = #[Value.int IntKind.i64 0]:=rfl;have p:=zeroCells_toList m;have z:(Builtin.zeroCells #[Value.int .i64 0] m).toList.length=m:=by rw[p];simp
 have q:=i;obtain⟨Q,i⟩:=i;rcases i with⟨rfl,hn⟩|⟨g,cap,a,rfl,hbg,X,hnc,E,hcs,r⟩
 ·have R:l=[]:=List.eq_nil_of_length_eq_zero hn
  subst R;by_cases G:m=0
  ·subst G
   refine⟨.slice none 0 0,w,?_,World.ownsRow_nil _ _ _ _,grown_refl _ _⟩;simp[Builtin.append_,run_underlying I,run_underlying n,sizeOf,typeInfo,H,asInt,asIntOf,J]
  ·have hr:=Lib.run_append_nil_zeros (P:=Tryz.prog) w 24 3 T 2 O (.int .i64 0) .i64 .i64 I n H C m (by omega) (by omega) (by omega) (by rw[D];omega)
   refine⟨_,_,hr,?_,⟨rfl,rfl,rfl,by simp,λk hk _=>heap_alloc_old w.drew _ hk⟩⟩;have F:=grownCap_ge w m 0 2;have E:grownCap w m 0 2<=maxLen:=grownCap_le_maxLen w m 0 2 (by unfold maxLen;omega);have Y:(([]:List Int)++List.replicate m 0).length=m:=by simp
   refine⟨by simp,.inr ⟨w.heap.size,_,_,by rw[Y],j,heap_alloc_new w.drew _,by rw[Y];exact F,E,?_,?_⟩⟩
   ·rw [Array.size_append,y,<-Array.length_toList,z,<-Array.length_toList,zeroCells_toList]
    simp;omega
   ·rw [Array.toList_append,y,p,List.nil_append]
    simp
 ·by_cases b:l.length+m<=cap
  ·by_cases G:m=0
   ·subst G
    refine⟨_,w,?_,by simpa using q,grown_refl _ _⟩;simp[Builtin.append_,run_underlying I,run_underlying n,sizeOf,typeInfo,H,asInt,asIntOf,J,hnc,storeCells]
   ·have K:=run_storeCells_at (P:=Tryz.prog) g (l.length*1) 2 (Builtin.zeroCells #[Value.int .i64 0] m).toList 0 a w X (by rw[z];omega) (by rw[p];intro u hu;obtain⟨x,_,rfl⟩:=List.mem_map.1 hu;rfl)
    simp only[Nat.add_zero,Nat.mul_one] at K;rw[Nat.mul_one] at r;refine⟨.slice (some ⟨g,0,none⟩) (l.length+m) cap,w.setRow g (a.toList.take l.length++(Builtin.zeroCells #[Value.int .i64 0] m).toList++a.toList.drop (l.length+(Builtin.zeroCells #[Value.int .i64 0] m).toList.length)).toArray,?_,⟨by simp,.inr ⟨g,cap,_,by simp,hbg,setRow_heap w g a _ _ _ X,by simp;exact b,E,?_,?_⟩⟩,⟨rfl,rfl,rfl,by simp,λk _ hk=>setRow_other w g k _ (λe=>hk (by simp[Value.ownBlock,e]))⟩⟩
    ·generalize a.toList.take l.length++(Builtin.zeroCells #[Value.int .i64 0] m).toList++a.toList.drop (l.length+(Builtin.zeroCells #[Value.int .i64 0] m).toList.length)=Z at *
     simp[Builtin.append_,run_underlying I,run_underlying n,sizeOf,typeInfo,zeroValue,H,C,hz1,asInt,asIntOf,W,A,B,b,G,y,Addr.add_lit,K]
    ·have S:a.toList.length=cap:=by rw[Array.length_toList];omega
     simp only[List.size_toArray,List.length_append,List.length_take,List.length_drop,z,S];omega
    ·rw [r,p]
     simp only[List.length_append,List.length_replicate,Nat.mul_one,List.map_append];exact List.take_left' (by simp)
  ·have G:m≠0:=by omega
   have holds:=q.cells (g:=g) rfl;have hf:=run_firstCells_some (P:=Tryz.prog) w.drew 1 l.length ⟨g,0,none⟩ l.length cap (l.map (Value.int .i64)) Q (by simpa using holds);have L:¬(9223372036854775807<((l.length:Int)+(m:Int))):=by omega
   have M:¬(281474976710656<Builtin.nextslicecap (l.length+m) cap*O.bytes):=by
    rw[D];have:=nextslicecap_le (show cap<l.length+m by omega);omega
   refine⟨.slice (some ⟨w.heap.size,0,none⟩) (l.length+m) (grownCap w (l.length+m) cap 2),w.drew.alloc (.cells ((l.map (Value.int .i64)).toArray++Builtin.zeroCells #[Value.int .i64 0] m++Builtin.zeroCells #[Value.int .i64 0] (grownCap w (l.length+m) cap 2-(l.length+m))) 2),?_,?_,⟨rfl,rfl,rfl,by simp,λk hk _=>heap_alloc_old w.drew _ hk⟩⟩
   ·simp [Builtin.append_,run_underlying I,run_underlying n,sizeOf,typeInfo,zeroValue,H,C,hz1,asInt,asIntOf,W,A,B,b,G,y,L,M,Question.forced,hf,newRow,grownCap]
    done
   ·have F:=grownCap_ge w (l.length+m) cap 2
    have N:grownCap w (l.length+m) cap 2<=maxLen:=grownCap_le_maxLen w (l.length+m) cap 2 (by unfold maxLen;omega);refine⟨by simp,.inr ⟨w.heap.size,_,_,by simp,j,heap_alloc_new w.drew _,by simp;exact F,N,?_,?_⟩⟩
    ·simp only[Array.size_append]
     rw[<-Array.length_toList (xs:=Builtin.zeroCells #[Value.int .i64 0] m),z,<-Array.length_toList (xs:=Builtin.zeroCells #[Value.int .i64 0] _),zeroCells_toList];simp;omega
    ·rw [Array.toList_append,Array.toList_append,p]
     simp only[List.length_append,List.length_replicate,Nat.mul_one,List.map_append];exact List.take_left' (by simp)
theorem wp_app_zeros {e:Array Oper}{rest:List Oper}{o:Oper}{a:Act}{Q:Exit->Act->World->Prop}{w:World}(k:o.guard=none) (s x:Operand)
  (n:o.op=Op.call { callee:=Callee.builtin Builtin.append,args := #[s,x],argTypes := #[24,3] }) (base:Nat) (v:Value) (l:List Int) (p:a.eval s=v) (g:Own base w v l) (m:Nat) (hx:a.eval x=.int .i64 m)
  (i:l.length+m<=2147483648) (b:base<=w.heap.size)
  (h:∀j w',Own base w' j (l++List.replicate m 0)->w.grownBy w' v.ownBlock->wpList Tryz.prog e Q rest (a.put o.dst j) w') :
  wpList Tryz.prog e Q (o :: rest) a w:=by
 obtain⟨j,w',hr,h1,q⟩:=run_app_zeros w base v l g o.type m i b;exact Lib.wpList_append_run w k s x _ _ n _ _ p hx j w' hr (h j w' h1 q)
theorem wp_app_v (T E:Nat) (z:Value) (bytes:Nat) (A:Tryz.prog.underlying T=some (.slice E)) (B:(Tryz.prog.info? E).map (λi=>(i.zero,i.size,i.bytes))=some (some z,1,bytes))
  (n:z.cells.size=1) (p:bytes<=64) {g:Array Oper}{rest:List Oper}{o:Oper}{a:Act}{Q:Exit->Act->World->Prop}{w:World}(q:o.guard=none) (s x:Operand)
  (C:o.op=Op.call { callee:=Callee.builtin Builtin.append,args := #[s,x],argTypes := #[T,T] }) (base:Nat) (b:World) (v u:Value) (xs:List Value) (D:a.eval s=v) (k:OwnV base E b v xs)
  (F:w=b.alloc (.cells #[u] E)) (G:u.oneCell'=true) (hx:a.eval x=.slice (some ⟨b.heap.size,0,none⟩) 1 1) (y:xs.length<=1000000) (r:base<=b.heap.size)
  (h:∀m w',OwnV base E w' m (xs++[u])->b.grownBy w' v.ownBlock->wpList Tryz.prog g Q rest (a.put o.dst m) w') :
  wpList Tryz.prog g Q (o :: rest) a w:=by
 subst F;have e:Ext b (b.alloc (.cells #[u] E)):=World.grownBy_alloc _ _ _;refine wp_app T E z bytes A B n p q s x C base v xs D (k.kept e (by cases I:v.ownBlock<;>simp)) (some ⟨b.heap.size,0,none⟩) 1 1 [u] hx rfl (by simp) ?_ ?_ (by omega) (by have:=e.size;omega) ?_
 ·intro j J
  have:j=0:=by omega
  subst this;exact⟨_,_,rfl,by rw[World.cell?_alloc_at _ _ _ _ rfl];rfl⟩
 ·intro K l
  simp at l;subst l;exact G
 ·intro m w' h1 H _ _
  exact h m w' h1 (grown_trans (grown_of_ext _ e) H)
theorem wp_app_int {g:Array Oper}{rest:List Oper}{o:Oper}{a:Act}{Q:Exit->Act->World->Prop}{w:World}(m:o.guard=none) (s x:Operand)
  (n:o.op=Op.call { callee:=Callee.builtin Builtin.append,args := #[s,x],argTypes := #[24,24] }) (B:Nat) (v:Value) (l:List Int) (y:Int) (p:a.eval s=v) (e:World) (i:Own B e v l)
  (q:w=e.alloc (.cells #[.int .i64 y] 2)) (hx:a.eval x=.slice (some ⟨e.heap.size,0,none⟩) 1 1) (j:l.length<=1000000) (b:B<=e.heap.size)
  (h:∀k w',Own B w' k (l++[y])->e.grownBy w' v.ownBlock->wpList Tryz.prog g Q rest (a.put o.dst k) w') :
  wpList Tryz.prog g Q (o :: rest) a w:=
 wp_app_v 24 2 (.int .i64 0) 8 und_ints Tryz.infoInt rfl (by decide) m s x n B e v (.int .i64 y) (l.map (Value.int .i64)) p i.v q rfl hx (by rw[List.length_map];exact j) b
  (λk w' h1 r=>h k w' (Own.of (by rw[List.map_append];exact h1)) r)
theorem wp_app_vb (T E:Nat) (z:Value) (bytes:Nat) (C:Tryz.prog.underlying T=some (.slice E)) (D:(Tryz.prog.info? E).map (λi=>(i.zero,i.size,i.bytes))=some (some z,1,bytes))
  (q:z.cells.size=1) (r:bytes<=64) {m:Array Oper}{rest:List Oper}{o:Oper}{a:Act}{Q:Exit->Act->World->Prop}{w:World}(y:o.guard=none) (s x:Operand)
  (F:o.op=Op.call { callee:=Callee.builtin Builtin.append,args := #[s,x],argTypes := #[T,T] }) (base:Nat) (b:World) (v u:Value) (xs:List Value) (G:a.eval s=v) (n:OwnV base E b v xs)
  (H:w=b.alloc (.cells #[u] E)) (I:u.oneCell'=true) (hx:a.eval x=.slice (some ⟨b.heap.size,0,none⟩) 1 1) (B:xs.length<=1000000) (A:base<=b.heap.size)
  (h:∀l w',OwnV base E w' l (xs++[u])->b.grownBy w' v.ownBlock->(l.ownBlock=v.ownBlock\/∀k,l.ownBlock=some k->b.heap.size<=k)->wpList Tryz.prog m Q rest (a.put o.dst l) w') :
  wpList Tryz.prog m Q (o :: rest) a w:=by
 subst H;have g:Ext b (b.alloc (.cells #[u] E)):=World.grownBy_alloc _ _ _;refine wp_app T E z bytes C D q r y s x F base v xs G (n.kept g (by cases L:v.ownBlock<;>simp)) (some ⟨b.heap.size,0,none⟩) 1 1 [u] hx rfl (by simp) ?_ ?_ (by omega) (by have:=g.size;omega) ?_
 ·intro j M
  have:j=0:=by omega
  subst this;exact⟨_,_,rfl,by rw[World.cell?_alloc_at _ _ _ _ rfl];rfl⟩
 ·intro N p
  simp at p;subst p;exact I
 ·intro l w' h1 J _ K
  exact h l w' h1 (grown_trans (grown_of_ext _ g) J) (K.elim .inl (λe => .inr (λk hk=>by rw[e] at hk;cases hk;exact g.size)))
theorem wp_app_intb {i:Array Oper}{rest:List Oper}{o:Oper}{a:Act}{Q:Exit->Act->World->Prop}{w:World}(n:o.guard=none) (s x:Operand)
  (p:o.op=Op.call { callee:=Callee.builtin Builtin.append,args := #[s,x],argTypes := #[24,24] }) (B:Nat) (v:Value) (l:List Int) (y:Int) (q:a.eval s=v) (b:World) (j:Own B b v l)
  (r:w=b.alloc (.cells #[.int .i64 y] 2)) (hx:a.eval x=.slice (some ⟨b.heap.size,0,none⟩) 1 1) (m:l.length<=1000000) (e:B<=b.heap.size)
  (h:∀g w',Own B w' g (l++[y])->b.grownBy w' v.ownBlock->(g.ownBlock=v.ownBlock\/∀k,g.ownBlock=some k->b.heap.size<=k)->wpList Tryz.prog i Q rest (a.put o.dst g) w') :
  wpList Tryz.prog i Q (o :: rest) a w:=
 wp_app_vb 24 2 (.int .i64 0) 8 und_ints Tryz.infoInt rfl (by decide) n s x p B b v (.int .i64 y) (l.map (Value.int .i64)) q j.v r rfl hx (by rw[List.length_map];exact m) e
  (λg w' h1 u z=>h g w' (Own.of (by rw[List.map_append];exact h1)) u z)
end Go.Proofs.YtdcobapnlpeaaaaGreat
