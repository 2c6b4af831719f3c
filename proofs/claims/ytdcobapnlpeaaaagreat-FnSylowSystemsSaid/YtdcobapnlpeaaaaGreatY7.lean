/- Merged from templates. -/
import Derived.Test.YtdcobapnlpeaaaaGreatY6
set_option maxRecDepth 100000
set_option maxHeartbeats 8000000
namespace Go.Proofs.YtdcobapnlpeaaaaGreat
def sq (r:Nat->List Int) (k m:Nat):List (List Int):=(List.range' m k).filterMap (λd=>if r d=[] then none else some (r d))
theorem sq_zero (r:Nat->List Int) (m:Nat):sq r 0 m=[]:=rfl
theorem sq_succ (r:Nat->List Int) (k m:Nat):sq r (k+1) m=(if r m=[] then [] else [r m])++sq r k (m+1):=by
 unfold sq;rw[List.range'_succ,List.filterMap_cons];by_cases h:r m=[]<;>simp[h]
theorem sq_all (r:Nat->List Int) (n:Nat):seqOf n r=sq r n 0:=by unfold seqOf sq;rw[List.range_eq_range']
theorem sq_congr {r a:Nat->List Int}(k m:Nat) (h:∀d,m<=d->d<m+k->r d=a d):sq r k m=sq a k m:=by
 induction k generalizing m with
 | zero=>rfl
 | succ k b=>rw[sq_succ,sq_succ,h m (by omega) (by omega),b (m+1) (λd h1 e=>h d (by omega) (by omega))]
theorem mem_sq {r:Nat->List Int}{k m:Nat}{z:List Int} : z∈sq r k m↔∃e,m<=e/\e<m+k/\r e≠[]/\z=r e:=by
 induction k generalizing m with
 | zero=>
  rw[sq_zero];constructor
  ·intro h;cases h
  ·rintro⟨e,h1,h2,_⟩;omega
 | succ k g=>
  rw[sq_succ,List.mem_append,g];constructor
  ·rintro (h|⟨e,h1,h2,a⟩)
   ·split at h
    ·cases h
    ·rename_i i
     simp at h
     exact⟨m,by omega,by omega,i,h⟩
   ·exact⟨e,by omega,by omega,a⟩
  ·rintro ⟨e,h1,h2,a,b⟩
   rcases Nat.lt_or_ge m e with h|h
   ·exact .inr ⟨e,by omega,by omega,a,b⟩
   ·have:e=m:=by omega
    subst this;left;rw[if_neg a];simp[b]
theorem sq_len (r:Nat->List Int) (k m:Nat):(sq r k m).length<=k:=by
 induction k generalizing m with
 | zero=>exact Nat.le_refl _
 | succ k a=>rw[sq_succ,List.length_append];have:=a (m+1);split<;>simp<;>omega
structure CanInv (P:Pr) (H:List Int->Prop) (b r:Nat->List Int) (m:Nat):Prop where
 nil:∀e,m<=e->e<P.orders.length->(r e=[]↔b e=[])
 mem:∀e,m<=e->e<P.orders.length->r e≠[]->H (r e)/\T P e (r e)/\gt (r e) e=1
 red:∀e e',m<=e->e<e'->e'<P.orders.length->r e≠[]->r e'≠[]->gt (r e) e'=0
section
variable {P:Pr}(G:Grp P)
include G
omit G in
theorem CanInv.dep {H:List Int->Prop}{b r:Nat->List Int}{m e:Nat}(h:CanInv P H b r m) (h1:m<=e) (a:e<P.orders.length) (g:r e≠[]):dep (r e)=e:=by
 obtain⟨_,hT,i⟩:=h.mem e h1 a g;exact dep_lead a hT (by rw[i];decide)
omit G in
theorem CanInv.sorted {H:List Int->Prop}{b r:Nat->List Int}{g:Nat}(h:CanInv P H b r g):∀k m,g<=m->m+k=P.orders.length->(sq r k m).Pairwise (λx y=>Go.Proofs.YtdcobapnlpeaaaaGreat.dep x<Go.Proofs.YtdcobapnlpeaaaaGreat.dep y):=by
 intro k;induction k with
 | zero=>intro m _ _;exact List.Pairwise.nil
 | succ k i=>
  intro m j p;rw[sq_succ];by_cases a:r m=[]
  ·rw[if_pos a,List.nil_append];exact i (m+1) (by omega) (by omega)
  ·rw [if_neg a,List.singleton_append]
   refine List.Pairwise.cons (λz l => ?_) (i (m+1) (by omega) (by omega));obtain⟨e,h1,h2,n,rfl⟩:=mem_sq.1 l;rw[h.dep j (by omega) a,h.dep (by omega) (by omega) n];omega
omit G in
theorem CanInv.seqOk {H:List Int->Prop}{b r:Nat->List Int}{k m:Nat}(h:CanInv P H b r m) (n:m+k=P.orders.length):SeqOk P (sq r k m):=by
 refine⟨λz p => ?_,λi j a g => ?_⟩
 ·obtain ⟨e,h1,h2,l,rfl⟩:=mem_sq.1 p
  obtain⟨_,a2,a3⟩:=h.mem e h1 (by omega) l;rw[h.dep h1 (by omega) l];exact⟨a2.1,by omega,a3⟩
 ·rw [gt_eq _ i (by omega),gt_eq _ j g]
  exact List.pairwise_iff_getElem.1 (h.sorted k m (Nat.le_refl _) n) i j (by omega) g a
theorem Grp.can_step {H:List Int->Prop}{b r:Nat->List Int}{d k:Nat}{y:List Int}(I:Ind P H b) (h:CanInv P H b r (d+1)) (hk:d+1+k=P.orders.length) (E:b d≠[]) (hy:RepTo P (sq r k (d+1)) (b d) (sq r k (d+1)).length y) :
  CanInv P H b (λe=>if e=d then y else r e) d/\sq (λe=>if e=d then y else r e) (k+1) d=y :: sq r k (d+1):=by
 have F:d<P.orders.length:=by omega
 obtain⟨J,u,m3⟩:=I.mem d F E;have i:y≠[]:=λe=>by have:=hy.vec.1;rw[e] at this;simp at this;omega
 have l:∀j,j<=d->gt y j=gt (b d) j:=λj n=>hy.old j (λz p=>by
  obtain⟨e,h1,a,g,rfl⟩:=mem_sq.1 p;rw[h.dep h1 (by omega) g];omega)
 have v:H y:=by
  have h1:=hy.cos H I.sub (λz p=>by
   obtain⟨e,h1,a,g,rfl⟩:=mem_sq.1 p;exact(h.mem e h1 (by omega) g).1)
  have a:=I.sub.mul _ _ J h1;rwa [<-G.ass u.1 (G.invV u.1) hy.vec,G.mul_inv u.1,G.grp.el _ hy.vec] at a
 have w:T P d y:=⟨hy.vec,λj n=>by rw[l j (by omega)];exact u.2 j n⟩;have A:gt y d=1:=by rw[l d (Nat.le_refl _)];exact m3
 have B:∀e,d<e->e<P.orders.length->r e≠[]->gt y e=0:=λe h1 a g=>by
  have p:r e∈sq r k (d+1):=mem_sq.2 ⟨e,by omega,by omega,g,rfl⟩;obtain⟨j,n,kg⟩:=List.getElem_of_mem p;have q:=hy.zer j n;rw[gt_eq _ j n,kg,h.dep (by omega) a g] at q;exact q
 refine⟨⟨λe h1 a => ?_,λe h1 a g => ?_,λe e' h1 a g q C => ?_⟩,?_⟩
 ·by_cases m:e=d
  ·subst m;simp[i,E]
  ·rw[if_neg m];exact h.nil e (by omega) a
 ·by_cases m:e=d
  ·subst m;simp only[if_true] ; exact⟨v,w,A⟩
  ·simp only[if_neg m] at g ⊢;exact h.mem e (by omega) a g
 ·have D:e'≠d:=by omega
  simp only[if_neg D] at C;by_cases m:e=d
  ·subst m;simp only[if_true];exact B e' a g C
  ·simp only[if_neg m] at q ⊢;exact h.red e e' (by omega) a g q C
 ·rw [sq_succ,if_pos rfl,if_neg i,List.singleton_append]
  congr 1
  exact sq_congr k (d+1) (λe h1 a=>by rw[if_neg (by omega)])
omit G in
theorem can_skip {H:List Int->Prop}{b r:Nat->List Int}{d k:Nat}(h:CanInv P H b r (d+1)) (n:b d=[]) :
  CanInv P H b (λe=>if e=d then [] else r e) d/\sq (λe=>if e=d then [] else r e) (k+1) d=sq r k (d+1):=by
 refine⟨⟨λe h1 g => ?_,λe h1 g i => ?_,λe e' h1 g i j m => ?_⟩,?_⟩
 ·by_cases a:e=d
  ·subst a;simp[n]
  ·rw[if_neg a];exact h.nil e (by omega) g
 ·by_cases a:e=d
  ·subst a;simp at i
  ·simp only[if_neg a] at i ⊢;exact h.mem e (by omega) g i
 ·have l:e'≠d:=by omega
  simp only[if_neg l] at m;by_cases a:e=d
  ·subst a;simp at j
  ·simp only[if_neg a] at j ⊢;exact h.red e e' (by omega) g i j m
 ·rw [sq_succ,if_pos rfl,if_pos rfl,List.nil_append]
  exact sq_congr k (d+1) (λe h1 g=>by rw[if_neg (by omega)])
theorem Grp.can_end {H:List Int->Prop}{b r:Nat->List Int}(I:Ind P H b) (h:CanInv P H b r 0):sq r P.orders.length 0=cseq P H:=by
 have j:Red P H r:=⟨⟨I.sub,λd a g=>h.mem d (by omega) a g,λx hx d a k l g=>I.piv x hx d a k l ((h.nil d (by omega) a).1 g)⟩,λd e i m h1 n=>h.red d e (by omega) i m h1 n⟩;rw[G.cseq_red j,sq_all]
end
theorem elTo_len (o:List Int) (N:Nat) (m:Int) (k:Nat):(elTo o N m k).1.length=N:=by
 induction k with
 | zero=>simp[elTo]
 | succ k a=>simp only[elTo];rw[List.length_set,a]
theorem elTo_keep (o:List Int) (N:Nat) (m:Int) (j k:Nat) (hk:j<k) (a:k<=N):gt (elTo o N m k).1 (N-1-j)=(elTo o N m j).2%gt o (N-1-j):=by
 induction k with
 | zero=>omega
 | succ k b=>
  simp only[elTo];by_cases e:j=k
  ·subst e;rw[gt_set_eq _ _ _ (by rw[elTo_len];omega)]
  ·rw[gt_set_ne _ _ _ _ (by omega)];exact b (by omega) (by omega)
theorem elTo_lt {P:Pr}(hP:Valid P) (m:Int) (h1:m<ordP P) (k:Nat) (hk:k<=P.orders.length):(elTo P.orders P.orders.length m k).2<prodTo P.orders (P.orders.length-k):=by
 induction k with
 | zero=>exact h1
 | succ k b=>
  have a:=b (by omega);have g:=hP.ord7 (P.orders.length-1-k) (by omega);simp only[elTo];have e:P.orders.length-k=(P.orders.length-(k+1))+1:=by omega
  rw[e] at a;simp only[prodTo] at a;rw[show P.orders.length-(k+1)=P.orders.length-1-k by omega] at a ⊢;exact Int.ediv_lt_of_lt_mul (by omega) a
theorem num_elAt {P:Pr}(hP:Valid P) (m:Int) (g:0<=m) (h1:m<ordP P):num P (elAt P m)=m:=by
 have i:(elTo P.orders P.orders.length m P.orders.length).2=0:=by
  have a:=elTo_lt hP m h1 P.orders.length (Nat.le_refl _);have n:=(elTo_inv hP m g P.orders.length (Nat.le_refl _)).2.1;rw[Nat.sub_self] at a;simp only[prodTo] at a;omega
 have key:∀k,k<=P.orders.length->numTo P.orders (elAt P m) k=(elTo P.orders P.orders.length m (P.orders.length-k)).2:=by
  intro k;induction k with
  | zero=>intro _;simp only[numTo,Nat.sub_zero];exact i.symm
  | succ k j=>
   intro hk;simp only[numTo];rw[j (by omega)];have e:P.orders.length-k=(P.orders.length-(k+1))+1:=by omega
   have l:gt (elAt P m) k=(elTo P.orders P.orders.length m (P.orders.length-(k+1))).2%gt P.orders k:=by
    have:=elTo_keep P.orders P.orders.length m (P.orders.length-(k+1)) P.orders.length (by omega) (Nat.le_refl _);rw[show P.orders.length-1-(P.orders.length-(k+1))=k by omega] at this;exact this
   rw[l,e];simp only[elTo];rw[show P.orders.length-1-(P.orders.length-(k+1))=k by omega];have:=Int.emod_add_mul_ediv (elTo P.orders P.orders.length m (P.orders.length-(k+1))).2 (gt P.orders k);rw[Int.mul_comm] at this;omega
 have b:=key P.orders.length (Nat.le_refl _);rw[Nat.sub_self] at b;exact b
theorem num_inj {P:Pr}(hP:Valid P) {x y:List Int}(hx:Vec P.orders x) (hy:Vec P.orders y) (h:num P x=num P y):x=y:=by
 have key:∀k,k<=P.orders.length->numTo P.orders x (P.orders.length-k)=numTo P.orders y (P.orders.length-k)/\∀j,P.orders.length-k<=j->j<P.orders.length->gt x j=gt y j:=by
  intro k;induction k with
  | zero=>intro _;exact⟨h,λj a b=>by omega⟩
  | succ k m=>
   intro hk;obtain⟨h1,h2⟩:=m (by omega);have e:P.orders.length-k=(P.orders.length-(k+1))+1:=by omega
   rw[e] at h1;simp only[numTo] at h1;have u:=hP.ord7 (P.orders.length-(k+1)) (by omega);have g:=hx.2 (P.orders.length-(k+1)) (by omega);have i:=hy.2 (P.orders.length-(k+1)) (by omega)
   have n:gt x (P.orders.length-(k+1))=gt y (P.orders.length-(k+1)):=by
    have l:(numTo P.orders x (P.orders.length-(k+1))*gt P.orders (P.orders.length-(k+1))+gt x (P.orders.length-(k+1)))%gt P.orders (P.orders.length-(k+1))=(numTo P.orders y (P.orders.length-(k+1))*gt P.orders (P.orders.length-(k+1))+gt y (P.orders.length-(k+1)))%gt P.orders (P.orders.length-(k+1)):=by rw[h1]
    rw[Int.add_comm,Int.add_mul_emod_self_right,Int.add_comm _ (gt y _),Int.add_mul_emod_self_right,Int.emod_eq_of_lt g.1 g.2,Int.emod_eq_of_lt i.1 i.2] at l;exact l
   refine⟨?_,λj a b => ?_⟩
   ·have p:numTo P.orders x (P.orders.length-(k+1))*gt P.orders (P.orders.length-(k+1))=numTo P.orders y (P.orders.length-(k+1))*gt P.orders (P.orders.length-(k+1)):=by omega
    exact Int.eq_of_mul_eq_mul_right (by omega) p
   ·by_cases q:j=P.orders.length-(k+1)
    ·rw[q];exact n
    ·exact h2 j (by omega) b
 have r:=(key P.orders.length (Nat.le_refl _)).2;exact ext_gt (by rw[hx.1,hy.1]) (λk hk=>r k (by omega) (by rw[<-hx.1];exact hk))
theorem elAt_num {P:Pr}(hP:Valid P) {x:List Int}(hx:Vec P.orders x):elAt P (num P x)=x:=by
 have a:=num_bd hP hx;exact num_inj hP (elAt_vec hP _ a.1) hx (num_elAt hP _ a.1 a.2)
end Go.Proofs.YtdcobapnlpeaaaaGreat
namespace Go.Proofs.YtdcobapnlpeaaaaGreat
open Go.RowKit
def cmpI (a b:Int):Int:=if a<b then -1 else if b<a then 1 else 0
theorem isNaN_ok (a:Int) (w:World):Calls Tryz.prog 322 #[.int .i64 a] w λe w'=>e=.returned (.bool false)/\w'=w:=by
 go_enter Tryz.func322,Tryz.ntmps322;go_wp2;exact bodyPost_ret (v := .bool false) (by simp[results,Tryz.results322,go_sem]) rfl ⟨rfl,rfl⟩
theorem cmpI_ok (a b:Int) (w:World):Calls Tryz.prog 294 #[.int .i64 a,.int .i64 b] w λe w'=>e=.returned (.int .i64 (cmpI a b))/\w'=w:=by
 go_enter Tryz.func294,Tryz.ntmps294;go_wp2_with fail
 refine Calls.mono (isNaN_ok a w) ?_;rintro j k ⟨rfl,rfl⟩;go_wp2_with fail
 refine Calls.mono (isNaN_ok b _) ?_;rintro j k ⟨rfl,rfl⟩;by_cases h1:a<b
 ·go_wp2
  exact bodyPost_ret (v := .int .i64 (-1)) (by simp[results,Tryz.results294,go_sem]) rfl ⟨by simp[cmpI,h1],rfl⟩
 ·by_cases i:b<a
  ·have g:b<=a:=by omega
   go_wp2;exact bodyPost_ret (v := .int .i64 1) (by simp[results,Tryz.results294,go_sem]) rfl ⟨by simp[cmpI,h1,i],rfl⟩
  ·have g:b=a:=by omega
   subst g;clear h1 i;go_wp2;exact bodyPost_ret (v := .int .i64 0) (by simp[results,Tryz.results294,go_sem]) rfl ⟨by simp[cmpI],rfl⟩
def cmpL:List Int->List Int->Int
 | [],[]=>0
 | [],_ :: _ => -1
 | _ :: _,[]=>1
 | x :: xs,y :: ys=>if cmpI x y=0 then cmpL xs ys else cmpI x y
theorem drop_gt {l:List Int}{k:Nat}(h:k<l.length):l.drop k=gt l k :: l.drop (k+1):=by
 rw[List.drop_eq_getElem_cons h];simp[gt,h]
theorem sCompare_ok (a b:Value) (X Y:List Int) (w:World) (y z:Nat->Prop) (ha:Ints y w a X) (r:Ints z w b Y) :
  Calls Tryz.prog 245 #[a,b] w λe w'=>e=.returned (.int .i64 (cmpL X Y))/\w'=w:=by
 obtain⟨A,capa,rfl,hla,_⟩:=ha.shape;obtain⟨ab,capb,rfl,hlb,_⟩:=r.shape;go_enter Tryz.func245,Tryz.ntmps245;go_wp2;go_loopw [11] (λv wr=>∃k:Nat,v=.int .i64 k/\k<=X.length/\k<=Y.length/\wr=w/\cmpL X Y=cmpL (X.drop k) (Y.drop k)) (λv _=>X.length-(intOf v).toNat)
 case atStart=>exact⟨0,rfl,by omega,by omega,rfl,by simp⟩
 case round=>
  obtain⟨k,rfl,hk,hkY,rfl,g⟩:=hrel;by_cases m:k<X.length
  ·obtain ⟨B,oa,rfl,_,_,hca⟩:=Ints.at ha k m
   by_cases j:k<Y.length
   ·obtain ⟨C,ob,rfl,_,_,hcb⟩:=Ints.at r k j
    rw[drop_gt m,drop_gt j] at g;simp only[cmpL] at g;have l:=Lib.hid g;clear g;go_wp2_with fail
    refine Calls.mono (cmpI_ok (gt X k) (gt Y k) _) ?_;rintro D E ⟨rfl,rfl⟩;by_cases u:cmpI (gt X k) (gt Y k)=0
    ·have i:=l.out
     rw[if_pos u] at i;have n:=Lib.hid i;clear i l;go_wp2;go_roundw
     case rel=>exact⟨k+1,by go_num,by omega,by omega,trivial,n.out⟩
     case measure=>simp[intOf];omega
    ·have i:=l.out
     rw[if_neg u] at i;have n:=Lib.hid i;clear i l;go_wp2;exact bodyPost_ret (v := .int .i64 (cmpI (gt X k) (gt Y k))) (by simp[results,Tryz.results245,go_sem]) rfl ⟨by rw[n.out],rfl⟩
   ·have p:k=Y.length:=by omega
    subst p;rw[drop_gt m,List.drop_length] at g;simp only[cmpL] at g;have l:=Lib.hid g;clear g;go_wp2;exact bodyPost_ret (v := .int .i64 1) (by simp[results,Tryz.results245,go_sem]) rfl ⟨by rw[l.out],rfl⟩
  ·have p:k=X.length:=by omega
   subst p;rw[List.drop_length] at g;by_cases j:X.length<Y.length
   ·rw [drop_gt j] at g
    simp only[cmpL] at g;have l:=Lib.hid g;clear g;go_wp2;exact bodyPost_ret (v := .int .i64 (-1)) (by simp[results,Tryz.results245,go_sem]) rfl ⟨by rw[l.out],rfl⟩
   ·have q:Y.length<=X.length:=by omega
    rw[List.drop_of_length_le q] at g;simp only[cmpL] at g;have l:=Lib.hid g;clear g;go_wp2;exact bodyPost_ret (v := .int .i64 0) (by simp[results,Tryz.results245,go_sem]) rfl ⟨by rw[l.out],rfl⟩
theorem cmpI_cases (a b:Int):(cmpI a b = -1/\a<b)\/(cmpI a b=0/\a=b)\/(cmpI a b=1/\b<a):=by
 unfold cmpI;by_cases h:a<b
 ·simp[h]
 ·by_cases e:b<a
  ·simp[h,e]
  ·simp[h,e];omega
theorem cmpL_zero:∀(x y:List Int),cmpL x y=0↔x=y
 | [],[]=>by simp[cmpL]
 | [],_ :: _=>by simp[cmpL]
 | _ :: _,[]=>by simp[cmpL]
 | x :: xs,y :: ys=>by
  simp only[cmpL];rcases cmpI_cases x y with⟨h,a⟩|⟨h,a⟩|⟨h,a⟩
  ·simp[h];omega
  ·rw[if_pos h,cmpL_zero xs ys];simp[a]
  ·simp[h];omega
theorem cmpL_swap:∀(x y:List Int),cmpL y x = - cmpL x y
 | [],[]=>by simp[cmpL]
 | [],_ :: _=>by simp[cmpL]
 | _ :: _,[]=>by simp[cmpL]
 | x :: xs,y :: ys=>by
  simp only[cmpL];have a:=cmpL_swap xs ys;rcases cmpI_cases x y with⟨h,h2⟩|⟨h,h2⟩|⟨h,h2⟩<;>rcases cmpI_cases y x with⟨k,k2⟩|⟨k,k2⟩|⟨k,k2⟩<;>simp[h,k,a]<;>omega
theorem cmpL_le_trans:∀(x y z:List Int),cmpL x y<=0->cmpL y z<=0->cmpL x z<=0
 | [],[],[]=>by simp[cmpL]
 | [],[],_ :: _=>by simp[cmpL]
 | [],_ :: _,[]=>by simp[cmpL]
 | [],_ :: _,_ :: _=>by simp[cmpL]
 | _ :: _,[],[]=>by simp[cmpL]
 | _ :: _,[],_ :: _=>by simp[cmpL]
 | _ :: _,_ :: _,[]=>by simp[cmpL]
 | x :: xs,y :: ys,z :: zs=>by
  simp only[cmpL];have a:=cmpL_le_trans xs ys zs;rcases cmpI_cases x y with⟨h,h2⟩|⟨h,h2⟩|⟨h,h2⟩<;>rcases cmpI_cases y z with⟨k,k2⟩|⟨k,k2⟩|⟨k,k2⟩<;>rcases cmpI_cases x z with⟨l,l2⟩|⟨l,l2⟩|⟨l,l2⟩<;>simp[h,k,l]<;>first|omega|(intros;omega)|exact a|skip
theorem cmpL_total (x y:List Int):cmpL x y<=0\/cmpL y x<=0:=by have:=cmpL_swap x y;omega
theorem cmpL_antisymm {x y:List Int}(h:cmpL x y<=0) (k:cmpL y x<=0):x=y:=by
 have:=cmpL_swap x y;exact(cmpL_zero x y).1 (by omega)
def SortedL (L:List (List Int)):Prop:=L.Pairwise (λx y=>cmpL x y<=0)
def sortL (L:List (List Int)):List (List Int):=L.mergeSort (λx y=>decide (cmpL x y<=0))
theorem sortL_perm (L:List (List Int)):(sortL L).Perm L:=List.mergeSort_perm _ _
theorem sortL_sorted (L:List (List Int)):SortedL (sortL L):=by
 have h:=List.pairwise_mergeSort (le:=λx y=>decide (cmpL x y<=0)) (λa b c h k=>by simp at *;exact cmpL_le_trans a b c h k) (λa b=>by simp;exact cmpL_total a b) L;exact h.imp (λh=>by simpa using h)
theorem sorted_unique:∀(L M:List (List Int)),SortedL L->SortedL M->L.Perm M->L=M:=by
 intro L;induction L with
 | nil=>intro M _ _ h;exact(List.nil_perm.1 h).symm▸rfl
 | cons x L l=>
  intro M i j a;cases M with
  | nil=>exact absurd a.symm (by simp)
  | cons y M=>
   have b:x∈y :: M:=a.subset (by simp);have e:y∈x :: L:=a.symm.subset (by simp)
   have g:x=y:=by
    rcases List.mem_cons.1 b with h|h
    ·exact h
    ·rcases List.mem_cons.1 e with k|k
     ·exact k.symm
     ·exact cmpL_antisymm ((List.pairwise_cons.1 i).1 y k) ((List.pairwise_cons.1 j).1 x h)
   subst g;rw[l M (List.pairwise_cons.1 i).2 (List.pairwise_cons.1 j).2 (List.perm_cons x |>.1 a)]
theorem sortL_unique {L M:List (List Int)}(h:M.Perm L) (a:SortedL M):M=sortL L:=
 sorted_unique _ _ a (sortL_sorted L) (h.trans (sortL_perm L).symm)
theorem gt_mem {α:Type} [Inhabited α] {l:List α}{i:Nat}(h:i<l.length):gt l i∈l:=by
 simp only[gt,List.getD_eq_getElem?_getD,List.getElem?_eq_getElem h,Option.getD_some];exact List.getElem_mem h
theorem mem_gt {α:Type} [Inhabited α] {l:List α}{x:α}(h:x∈l):∃i,i<l.length/\gt l i=x:=by
 obtain⟨i,hi,rfl⟩:=List.getElem_of_mem h;exact⟨i,hi,by simp[gt,hi]⟩
end Go.Proofs.YtdcobapnlpeaaaaGreat
namespace Go.Proofs.YtdcobapnlpeaaaaGreat
theorem cmpL_append:∀(a b:List Int) (u v:Int),a.length=b.length->cmpL (a++[u]) (b++[v])=if cmpL a b=0 then cmpL [u] [v] else cmpL a b
 | [],[],u,v,_=>by simp[cmpL]
 | [],_ :: _,_,_,h=>by simp at h
 | _ :: _,[],_,_,h=>by simp at h
 | x :: a,y :: b,u,v,h=>by
  have e:=cmpL_append a b u v (by simpa using h);generalize cmpL [u] [v]=c at e ⊢;simp only[List.cons_append,cmpL];rcases cmpI_cases x y with⟨h1,_⟩|⟨h1,_⟩|⟨h1,_⟩<;>simp[h1,e]
theorem cmpL_one (u v:Int):(cmpL [u] [v]<0↔u<v)/\(cmpL [u] [v]=0↔u=v):=by
 simp only[cmpL];rcases cmpI_cases u v with⟨h1,h2⟩|⟨h1,h2⟩|⟨h1,h2⟩<;>simp[h1]<;>omega
theorem cmpL_num {P:Pr}(hP:Valid P) {x y:List Int}(hx:Vec P.orders x) (hy:Vec P.orders y):cmpL x y<0↔num P x<num P y:=by
 have key:∀k,k<=P.orders.length->(cmpL (x.take k) (y.take k)<0↔numTo P.orders x k<numTo P.orders y k)/\(cmpL (x.take k) (y.take k)=0↔numTo P.orders x k=numTo P.orders y k):=by
  intro k;induction k with
  | zero=>intro _;simp[numTo,cmpL]
  | succ k i=>
   intro hk;obtain⟨h1,h2⟩:=i (by omega);have m:=hP.ord7 k (by omega);have j:=hx.2 k (by omega);have l:=hy.2 k (by omega);rw[take_succ_gt x k (by rw[hx.1];omega),take_succ_gt y k (by rw[hy.1];omega),cmpL_append _ _ _ _ (by simp[hx.1,hy.1])];simp only[numTo];obtain⟨c1,c2⟩:=cmpL_one (gt x k) (gt y k);rcases Int.lt_trichotomy (numTo P.orders x k) (numTo P.orders y k) with h|h|h
   ·have a:cmpL (x.take k) (y.take k)<0:=h1.2 h
    rw[if_neg (by omega)];have g:(numTo P.orders x k+1)*gt P.orders k<=numTo P.orders y k*gt P.orders k:=Int.mul_le_mul_of_nonneg_right (by omega) (by omega);rw[Int.add_mul,Int.one_mul] at g;exact⟨⟨λ_=>by omega,λ_=>a⟩,⟨λh=>by omega,λh=>by omega⟩⟩
   ·have a:cmpL (x.take k) (y.take k)=0:=h2.2 h
    rw[if_pos a,h];exact⟨by rw[c1];omega,by rw[c2];omega⟩
   ·have a:¬cmpL (x.take k) (y.take k)<0:=λe=>by have:=h1.1 e;omega
    have b:¬cmpL (x.take k) (y.take k)=0:=λe=>by have:=h2.1 e;omega
    rw[if_neg b];have g:(numTo P.orders y k+1)*gt P.orders k<=numTo P.orders x k*gt P.orders k:=Int.mul_le_mul_of_nonneg_right (by omega) (by omega);rw[Int.add_mul,Int.one_mul] at g;exact⟨⟨λh=>absurd h a,λh=>by omega⟩,⟨λh=>absurd h b,λh=>by omega⟩⟩
 have h:=(key P.orders.length (Nat.le_refl _)).1;rw[List.take_of_length_le (by rw[hx.1];omega),List.take_of_length_le (by rw[hy.1];omega)] at h;exact h
theorem asc_unique {P:Pr}(hP:Valid P) {L M:List (List Int)}(k:∀x∈L,Vec P.orders x) (i:L.Pairwise (λx y=>num P x<num P y)) (m:M.Pairwise (λx y=>num P x<num P y)) (h:∀x,x∈L↔x∈M):L=M:=by
 have n:∀ {K:List (List Int)},K.Pairwise (λx y=>num P x<num P y)->K.Nodup:=λp=>p.imp (λh e=>by rw[e] at h;omega);have q:L.Perm M:=(List.perm_ext_iff_of_nodup (n i) (n m)).2 h;have j:∀x∈M,Vec P.orders x:=λx hx=>k x ((h x).2 hx)
 have r:SortedL L:=by
  refine List.Pairwise.imp_of_mem ?_ i;intro a b ha l g;have:=(cmpL_num hP (k a ha) (k b l)).2 g;omega
 have u:SortedL M:=by
  refine List.Pairwise.imp_of_mem ?_ m;intro a b ha l g;have:=(cmpL_num hP (j a ha) (j b l)).2 g;omega
 exact sorted_unique L M r u q
open Classical in
noncomputable def elemsIn (P:Pr) (H:List Int->Prop):List (List Int):=(List.range (ordP P).toNat).filterMap (λt:Nat=>if H (elAt P (t:Int)) then some (elAt P (t:Int)) else none)
theorem elemsIn_mem {P:Pr}(hP:Valid P) {H:List Int->Prop}(hH:∀x,H x->Vec P.orders x) (x:List Int):x∈elemsIn P H↔H x:=by
 unfold elemsIn;rw[List.mem_filterMap];constructor
 ·rintro ⟨t,_,h⟩
  split at h
  ·cases h;assumption
  ·cases h
 ·intro h
  have a:=num_bd hP (hH x h);refine⟨(num P x).toNat,List.mem_range.2 (by omega),?_⟩
  have e:elAt P (((num P x).toNat:Nat):Int)=x:=by
   rw[show(((num P x).toNat:Nat):Int)=num P x by omega];exact elAt_num hP (hH x h)
  rw[e,if_pos h]
theorem elemsIn_asc {P:Pr}(hP:Valid P) (H:List Int->Prop):(elemsIn P H).Pairwise (λx y=>num P x<num P y):=by
 unfold elemsIn;rw[List.pairwise_filterMap];refine List.Pairwise.imp_of_mem ?_ (List.pairwise_lt_range (n:=(ordP P).toNat));intro a b ha e g x hx y hy;have i:=List.mem_range.1 ha;have j:=List.mem_range.1 e;split at hx
 ·split at hy
  ·cases hx;cases hy
   rw[num_elAt hP _ (by omega) (by omega),num_elAt hP _ (by omega) (by omega)];omega
  ·cases hy
 ·cases hx
theorem sort_elemsIn {P:Pr}(hP:Valid P) {H:List Int->Prop}(hH:∀x,H x->Vec P.orders x) {L:List (List Int)}(n:L.Nodup) (p:∀x,x∈L↔H x):sortL L=elemsIn P H:=by
 have m:=sortL_perm L;have g:∀x,x∈sortL L↔H x:=λx=>m.mem_iff.trans (p x);have i:(sortL L).Nodup:=m.nodup_iff.2 n;refine asc_unique hP (λx hx=>hH x ((g x).1 hx)) ?_ (elemsIn_asc hP H) (λx=>(g x).trans (elemsIn_mem hP hH x).symm);have q:=sortL_sorted L
 have r:(sortL L).Pairwise (λx y=>cmpL x y<=0/\x≠y):=by
  have:=List.pairwise_and_iff.2 ⟨q,i⟩;exact this
 refine List.Pairwise.imp_of_mem ?_ r;intro a b ha u j;have k:=hH a ((g a).1 ha);have l:=hH b ((g b).1 u);refine(cmpL_num hP k l).1 ?_;have v:cmpL a b≠0:=λe=>j.2 ((cmpL_zero a b).1 e);omega
def stepE (P:Pr) (u:List Int) (o:Nat) (x:List Int):List (List Int):=(List.range o).map (λt=>rMul P x (pw P u t))
def elsP (P:Pr) (U:List (List Int)):Nat->List (List Int)
 | 0=>[zeros P.orders.length]
 | k+1=>(elsP P U k).flatMap (stepE P (gt U k) (gt P.orders (dep (gt U k))).toNat)
section
variable {P:Pr}(G:Grp P)
include G
omit G in
theorem elsP_sub {H:List Int->Prop}{U:List (List Int)}(S:Sub P H) (a:∀z∈U,H z):∀k,k<=U.length->∀x∈elsP P U k,H x:=by
 intro k;induction k with
 | zero=>intro _ x hx;simp[elsP] at hx;rw[hx];exact S.one
 | succ k b=>
  intro hk x hx;simp only[elsP,List.mem_flatMap,stepE,List.mem_map] at hx;obtain⟨y,hy,t,_,rfl⟩:=hx;exact S.mul _ _ (b (by omega) y hy) (S.pw (a _ (gtMem (by omega))) t)
theorem Grp.elsP_diff {U:List (List Int)}(r:SeqOk P U):∀k m,k<=U.length->(∀j,j<k->dep (gt U j)<m)->m<=P.orders.length->(elsP P U k).Pairwise (λx y=>∃j,j<m/\gt x j≠gt y j):=by
 intro k;induction k with
 | zero=>intro m _ _ _;simp[elsP]
 | succ k D=>
  intro m hk u J;have n:k<U.length:=by omega
  obtain⟨E,p,h1⟩:=r.1 _ (gtMem n);have w:=u k (by omega);have B:=dep_T E;have A:=D (dep (gt U k)) (by omega) (λj u=>r.2 j k u n) (by omega);have e:∀x∈elsP P U k,Vec P.orders x:=elsP_sub G.sub_all (λz F=>(r.1 z F).1) k (by omega);have H:=G.v.ord (dep (gt U k)) p
  have g:∀x,Vec P.orders x->∀t:Nat,t<(gt P.orders (dep (gt U k))).toNat->gt (rMul P x (pw P (gt U k) t)) (dep (gt U k))=(gt x (dep (gt U k))+t)%gt P.orders (dep (gt U k))/\∀j,j<dep (gt U k)->gt (rMul P x (pw P (gt U k) t)) j=gt x j:=λx hx t i=>by
   have C:=G.right (Nat.le_of_lt p) hx (G.pw_T (Nat.le_of_lt p) B t);refine⟨?_,C.1⟩;rw[C.2 p,G.pw_at p B,h1,Int.mul_one,Int.emod_eq_of_lt (show(0:Int)<=t by omega) (by omega)]
  simp only[elsP];rw[List.pairwise_flatMap];refine⟨λx hx => ?_,?_⟩
  ·unfold stepE
   rw[List.pairwise_map];refine List.Pairwise.imp_of_mem ?_ List.pairwise_lt_range;intro s t l i I;have l:=List.mem_range.1 l;have i:=List.mem_range.1 i;refine⟨dep (gt U k),w,?_⟩;rw[(g x (e x hx) s l).1,(g x (e x hx) t i).1];rcases H with h|h|h|h<;>rw[h] at l i ⊢ <;> omega
  ·refine List.Pairwise.imp_of_mem ?_ A
   rintro x y hx hy ⟨j,q,hne⟩ a ha b hb;simp only[stepE,List.mem_map,List.mem_range] at ha hb;obtain⟨s,l,rfl⟩:=ha;obtain⟨t,i,rfl⟩:=hb;exact⟨j,by omega,by rw[(g x (e x hx) s l).2 j q,(g y (e y hy) t i).2 j q];exact hne⟩
theorem Grp.elsP_nodup {U:List (List Int)}(a:SeqOk P U):(elsP P U U.length).Nodup:=
 (G.elsP_diff a U.length P.orders.length (Nat.le_refl _) (λj b=>(a.1 _ (gtMem b)).2.1) (Nat.le_refl _)).imp (λ⟨j,_,h⟩ e=>h (by rw[e]))
def nextD (P:Pr) (U:List (List Int)) (k:Nat):Nat:=if k<U.length then dep (gt U k) else P.orders.length
theorem Grp.next_T {H:List Int->Prop}{U:List (List Int)}(l:SeqOk P U) (n:∀x,H x->Vec P.orders x) (a:∀x,H x->∀d,d<P.orders.length->T P d x->gt x d≠0->∃j,j<U.length/\dep (gt U j)=d) (k m:Nat) (hk:k<=U.length) (p:∀j,j<k->dep (gt U j)<m) {z:List Int}(g:H z) (q:∀j,j<m->gt z j=0):T P (nextD P U k) z:=by
 by_cases i:z=zeros P.orders.length
 ·rw[i];exact T.zeros G.v _
 ·obtain ⟨d,hd,xH,b⟩:=depth_ex (n z g) i
  obtain⟨j,hj,hjd⟩:=a z g d hd xH b
  have r:m<=d:=by
   rcases Nat.lt_or_ge d m with h|h
   ·exact absurd (q d h) b
   ·exact h
  have u:k<=j:=by
   rcases Nat.lt_or_ge j k with h|h
   ·have:=p j h;omega
   ·exact h
  have e:nextD P U k<=d:=by
   unfold nextD;rw[if_pos (by omega)];rcases Nat.lt_or_ge k j with h|h
   ·have:=l.2 k j h hj;omega
   ·have:k=j:=by omega
    rw[this];omega
  exact xH.down e
theorem Grp.elsP_all {H:List Int->Prop}{U:List (List Int)}(S:Sub P H) (n:SeqOk P U) (l:∀z∈U,H z) (g:∀x,H x->∀d,d<P.orders.length->T P d x->gt x d≠0->∃j,j<U.length/\dep (gt U j)=d) {h:List Int}(q:H h) :
  ∀k,k<=U.length->∃x z,x∈elsP P U k/\H z/\T P (nextD P U k) z/\h=rMul P x z:=by
 intro k;induction k with
 | zero=>exact λ_=>⟨zeros P.orders.length,h,by simp[elsP],q,G.next_T n S.vec g 0 0 (by omega) (λj r=>by omega) q (λj r=>by omega),(G.grp.el _ (S.vec h q)).symm⟩
 | succ k D=>
  intro hk;have b:k<U.length:=by omega
  obtain⟨x,z,hx,A,e,rfl⟩:=D (by omega);unfold nextD at e;rw[if_pos b] at e;obtain⟨B,p,h1⟩:=n.1 _ (gtMem b);have C:=dep_T B;have E:=e.1.2 _ p;have u:=S.vec x (elsP_sub S l k (by omega) x hx);have a:=G.pw_vec B (gt z (dep (gt U k))).toNat;have v:=G.pw_T (Nat.le_of_lt p) C (gt z (dep (gt U k))).toNat
  have w:gt (pw P (gt U k) (gt z (dep (gt U k))).toNat) (dep (gt U k))=gt z (dep (gt U k)):=by
   rw[G.pw_at p C,h1,Int.mul_one,Int.emod_eq_of_lt (by omega) (by omega)];omega
  have y:=G.diff p v e w;have m:H (rMul P (rInv P (pw P (gt U k) (gt z (dep (gt U k))).toNat)) z):=S.mul _ _ (S.inv _ (S.pw (l _ (gtMem b)) _)) A;have i:=S.vec z A;refine⟨rMul P x (pw P (gt U k) (gt z (dep (gt U k))).toNat),_,?_,m,?_,?_⟩
  ·simp only[elsP,List.mem_flatMap,stepE,List.mem_map,List.mem_range]
   exact⟨x,hx,_,by omega,rfl⟩
  ·exact G.next_T n S.vec g (k+1) (dep (gt U k)+1) hk (λj r=>by
    rcases Nat.lt_succ_iff_lt_or_eq.1 r with h|h
    ·have:=n.2 j k h b;omega
    ·rw[h];omega) m y.2
  ·rw[G.ass u a (G.mulV (G.invV a) i),<-G.ass a (G.invV a) i,G.mul_inv a,G.grp.el _ i]
theorem Grp.elsP_mem {H:List Int->Prop}{U:List (List Int)}(S:Sub P H) (i:SeqOk P U) (b:∀z∈U,H z) (e:∀x,H x->∀d,d<P.orders.length->T P d x->gt x d≠0->∃j,j<U.length/\dep (gt U j)=d) (h:List Int):h∈elsP P U U.length↔H h:=by
 refine⟨elsP_sub S b _ (Nat.le_refl _) h,λl => ?_⟩;obtain⟨x,z,hx,hz,a,m⟩:=G.elsP_all S i b e l U.length (Nat.le_refl _);unfold nextD at a;rw[if_neg (by omega)] at a;have g:z=zeros P.orders.length:=Vec.ext a.1 (zeros_vec G.v) (λk hk=>by rw[a.2 k (by have:=a.1.1;omega)];exact(gt_replicate _ _).symm);rw[m,g,G.grp.er _ (S.vec x (elsP_sub S b _ (Nat.le_refl _) x hx))];exact hx
theorem Grp.seq_facts {H:List Int->Prop}(S:Sub P H):SeqOk P (cseq P H)/\(∀z∈cseq P H,H z)/\∀x,H x->∀d,d<P.orders.length->T P d x->gt x d≠0->∃j,j<(cseq P H).length/\dep (gt (cseq P H) j)=d:=by
 obtain⟨r,a,n⟩:=G.cseq_spec S;have i:CanInv P H r r 0:=⟨λe _ _=>Iff.rfl,λe _ h1 b=>a.mem e h1 b,λe e' _ h1 b g p=>a.red e e' h1 b g p⟩;rw[n,sq_all];refine⟨i.seqOk (by omega),λz q => ?_,λx hx d k u v => ?_⟩
 ·obtain ⟨e,_,b,g,rfl⟩:=mem_sq.1 q
  exact(a.mem e (by omega) g).1
 ·have l:=a.piv x hx d k u v
  have w:r d∈sq r P.orders.length 0:=mem_sq.2 ⟨d,by omega,by omega,l,rfl⟩;obtain⟨j,m,kg⟩:=List.getElem_of_mem w;exact⟨j,m,by rw[gt_eq _ j m,kg];exact i.dep (by omega) k l⟩
theorem Grp.els_sorted {H:List Int->Prop}(S:Sub P H):sortL (elsP P (cseq P H) (cseq P H).length)=elemsIn P H:=by
 obtain⟨h1,a,b⟩:=G.seq_facts S;exact sort_elemsIn G.v S.vec (G.elsP_nodup h1) (G.elsP_mem S h1 a b)
end
end Go.Proofs.YtdcobapnlpeaaaaGreat
namespace Go.Proofs.YtdcobapnlpeaaaaGreat
open Go.RowKit
theorem step_append_at {P:Program}(w:World) {v:Array Oper}{o:Oper}{a:Act}{K:Act->World->Prop}{Q:Exit->Act->World->Prop}{M:Prop}
  (N:o.guard=none) (s x:Operand) (t:TypeId) (y:o.op=Op.call { callee:=Callee.builtin Builtin.append,args := #[s,x],argTypes := #[t,t] })
  (e:TypeId) (i:TypeInfo) (z:Value) (size bytes:Nat) (h1:P.underlying t=some (.slice e)) (G:P.info? e=some i) (O:i.zero=some z) (H:i.size=size) (R:i.bytes=bytes) (S:z.cells.size=size) (T:0<size)
  (b off n cap:Nat) (k:List Value) (I:a.eval s=.slice (some ⟨b,off,none⟩) n cap) (E:k.length=n*size) (holds:∀j u,k[j]? = some u->w.cell? ⟨b,off+j,none⟩=some u)
  (B:Addr) (m c:Nat) (g:List Value) (hx:a.eval x=.slice (some B) m c) (J:g.length=m*size) (L:∀j u,g[j]? = some u->w.cell? (B.add j)=some u) (F:∀u∈g,u.oneCell'=true)
  (l:n+m<=cap->∀j,j<g.length->(w.cell? ⟨b,off+n*size+j,none⟩).isSome=true/\w.frozen? ⟨b,off+n*size+j,none⟩=false)
  (b1:n+m<=maxLen) (b2:(n+m)*bytes<=140737488355328)
  (q:n+m<=cap->K (a.put o.dst (.slice (some ⟨b,off,none⟩) (n+m) cap)) (w.setCells b (off+n*size) g))
  (r:cap<n+m->∀C w',w'.ownsRow w.heap.size e size C (n+m) (k++g)->w.grownBy w' none->K (a.put o.dst C) w') :
  if Region.wanted o (yielded v a.tmps)=true then Oper.wp P o a w K Q else M:=by
 have U:Region.wanted o (yielded v a.tmps)=true:=by simp[Region.wanted,N]
 rw[if_pos U];by_cases D:n+m<=cap
 ·subst H
  have p:=run_append_room_cells (P:=P) w t o.type e i h1 G b off n cap B m c g J L F D (λj A=>(l D j A).1) (λj A=>(l D j A).2);unfold Oper.wp;simp[execOp,y,resolve,invoke,builtin,I,hx,p,Result.andThen]
  exact q D
 ·obtain ⟨C,w',p,V,W⟩:=run_append_arg_grows (P:=P) w t o.type e i z size bytes h1 G O H R S T ⟨b,off,none⟩ n cap k E (λj u A=>by rw[Addr.add_lit];exact holds j u A) B m c g J L (by omega) b1 b2
  unfold Oper.wp;simp[execOp,y,resolve,invoke,builtin,I,hx,p,Result.andThen]
  exact r (by omega) C w' V W
theorem step_q_app (T E:Nat) (z:Value) (bytes:Nat) (R:Tryz.prog.underlying T=some (.slice E)) (S:(Tryz.prog.info? E).map (λi=>(i.zero,i.size,i.bytes))=some (some z,1,bytes))
  (y:z.cells.size=1) (A:bytes<=64) {I:Array Oper}{o:Oper}{a:Act}{K:Act->World->Prop}{Q:Exit->Act->World->Prop}{Ex:Prop}{w:World}(B:o.guard=none) (s x:Operand)
  (U:o.op=Op.call { callee:=Callee.builtin Builtin.append,args := #[s,x],argTypes := #[T,T] }) (base:Nat) (v:Value) (xs:List Value) (V:a.eval s=v) (C:QOwn base E w v xs)
  (H:Nat) (u:Value) (hx:a.eval x=.slice (some ⟨H,0,none⟩) 1 1) (W:w.cell? ⟨H,0,none⟩=some u) (h1:u.oneCell'=true) (X:xs.length<=1000000) (p:base<=w.heap.size)
  (h:∀n w',QOwn base E w' n (xs++[u])->w.grownBy w' v.ownBlock->(n.ownBlock=v.ownBlock\/∀k,n.ownBlock=some k->w.heap.size<=k)->K (a.put o.dst n) w') :
  if Region.wanted o (yielded I a.tmps)=true then Oper.wp Tryz.prog o a w K Q else Ex:=by
 rcases C with⟨rfl,rfl⟩|⟨g,off,cap,cur,rfl,hb,F,hnc,hcm,hsz,hc⟩
 ·refine step_app T E z bytes R S y A B s x U base (.slice none 0 0) [] V (World.ownsRow_nil _ _ _ _) H u hx W h1 (by simp) p ?_
  intro n w' G J k4;exact h n w' (QOwn.of G) J (k4.imp id (λe k hk=>by rw[e] at hk;cases hk;exact Nat.le_refl _))
 ·obtain ⟨i0,L,hz0,hz1,hz2⟩:=info_parts S
  have ad:g<w.heap.size:=(Array.getElem?_eq_some_iff.1 F).1
  have b:∀i,i<cur.size->w.cell? ⟨g,i,none⟩=cur[i]? :=λi _=>by
   simp only[World.cell?,F,Option.isSome_none,Bool.false_eq_true,if_false]
  refine step_append_at w B s x T U E i0 z 1 bytes R L hz0 hz1 hz2 y (by decide) g off xs.length cap xs V (by omega) ?_ ⟨H,0,none⟩ 1 1 [u] hx rfl ?_ ?_ ?_ (by unfold maxLen;omega) (by have:=Nat.mul_le_mul (show xs.length+1<=1000001 by omega) A;omega) ?_ ?_
  ·intro j Y m
   have M:j<xs.length:=by
    rcases Nat.lt_or_ge j xs.length with h|h
    ·exact h
    ·rw[List.getElem?_eq_none h] at m;cases m
   rw[b _ (by omega),hc j M];simp[gt,m]
  ·intro j Y m
   match j,m with
   | 0,m=>
    simp at m;subst m
    simpa [Addr.add] using W
  ·intro Y D
   simp at D;subst D;exact h1
  ·intro l j m
   have:j=0:=by simpa using m
   subst this;refine⟨?_,?_⟩
   ·rw[b _ (by omega),Array.getElem?_eq_getElem (by omega)];rfl
   ·simp[World.frozen?,F]
  ·intro l
   have e:w.setCells g (off+xs.length*1) [u]=w.setCell ⟨g,off+xs.length,none⟩ u:=by
    simp[World.setCells]
   rw[e];refine h _ _ (.inr ⟨g,off,cap,cur.setIfInBounds (off+xs.length) u,by simp,hb,?_,by simpa using l,hcm,by simpa using hsz,λi L => ?_⟩) ?_ (.inl rfl)
   ·simp only[World.setCell,Array.getElem?_modify,if_true,F,Option.map_some]
    simp
   ·simp only[List.length_append,List.length_singleton] at L
    by_cases ei:i=xs.length
    ·subst ei
     rw[gt_concat,Array.getElem?_setIfInBounds_self];simp;omega
    ·rw [gt_append_left _ _ _ (by omega),Array.getElem?_setIfInBounds_ne (by omega)]
     exact hc i (by omega)
   ·exact⟨rfl,rfl,rfl,by simp[World.setCell],λk hk N=>Below.heap_setCell _ _ _ _ (by intro e2;exact N (by rw[e2];rfl))⟩
  ·intro O n w' G J
   have k3:OwnV base E w' n (xs++[u]):=by
    unfold OwnV;rw[List.length_append];obtain⟨P,q⟩:=G;refine⟨P,?_⟩;rcases q with h|⟨Z,cap',cur',hv,hg',r⟩
    ·exact .inl h
    ·exact .inr ⟨Z,cap',cur',hv,by omega,r⟩
   refine h n w' (QOwn.of k3) (grown_of_ext _ J) (.inr (λk hk => ?_));obtain⟨_,q⟩:=G;rcases q with h|⟨Z,cap',cur',rfl,hg',r⟩
   ·rw[h.1] at hk;simp[Value.ownBlock] at hk
   ·simp [Value.ownBlock] at hk
    omega
theorem step_shq_app {r:Array Oper}{o:Oper}{a:Act}{K:Act->World->Prop}{Q:Exit->Act->World->Prop}{J:Prop}{w:World}(z:o.guard=none) (s x:Operand)
  (L:o.op=Op.call { callee:=Callee.builtin Builtin.append,args := #[s,x],argTypes := #[25,25] }) (bad:Nat->Prop) (B:Nat) (v u:Value) (xs:List (List Int)) (y:List Int) (M:a.eval s=v) (w0:World) (m:ShQ bad B w0 v xs)
  (N:w=w0.alloc (.cells #[u] 24)) (F:Ints (λk=>¬bad k/\v.ownBlock≠some k) w0 u y) (hx:a.eval x=.slice (some ⟨w0.heap.size,0,none⟩) 1 1) (G:xs.length<=1000000) (A:B<=w0.heap.size)
  (h:∀g w',ShQ bad B w' g (xs++[y])->w0.grownBy w' v.ownBlock->(g.ownBlock=v.ownBlock\/∀k,g.ownBlock=some k->w0.heap.size<=k)->K (a.put o.dst g) w') :
  if Region.wanted o (yielded r a.tmps)=true then Oper.wp Tryz.prog o a w K Q else J:=by
 subst N;obtain⟨C,H,hq,O⟩:=m;have j:Ext w0 (w0.alloc (.cells #[u] 24)):=World.grownBy_alloc _ _ _;have b:=hq.lt;have D:QOwn B 24 (w0.alloc (.cells #[u] 24)) v C:=hq.kept (λk hk=>j.block k (b k hk).2 (by simp));have n:u.oneCell'=true:=rdInts.one F;refine step_q_app 25 24 (.slice none 0 0) 24 und_rows Tryz.infoRow rfl (by decide) z s x L B v C M D w0.heap.size u hx (by rw[World.cell?_alloc_at _ _ _ _ rfl];rfl) n (by omega) (by have:=j.size;omega) ?_;intro g w' h1 P I;have l:w0.grownBy w' v.ownBlock:=grown_trans (grown_of_ext _ j) P
 have p:∀k,k<w0.heap.size->g.ownBlock=some k->v.ownBlock=some k:=λk hk e=>by
  rcases I with h|h
  ·rw[<-h];exact e
  ·have:=h k e;simp at this;omega
 refine h g w' ⟨C++[u],by simp[H],h1,λi R => ?_⟩ l (I.imp id (λh k hk=>by have:=h k hk;simp at this;omega));simp only[List.length_append,List.length_singleton] at R
 have q:∀k,(¬bad k/\v.ownBlock≠some k)->k<w0.heap.size->(¬bad k/\g.ownBlock≠some k)/\k<w'.heap.size/\w'.heap[k]? = w0.heap[k]? :=λk hk b=>
  ⟨⟨hk.1,λe=>hk.2 (p k b e)⟩,Nat.lt_of_lt_of_le b l.size,l.block k b (λe=>hk.2 e.symm)⟩
 by_cases b:i<xs.length
 ·rw [gt_append_left _ _ _ (by omega),gt_append_left _ _ _ b]
  exact Ints.mono (O i b) q
 ·have E:i=xs.length:=by omega
  subst E;rw[gt_concat,<-H,gt_concat];exact Ints.mono F q
theorem run_tail_rows (w:World) (a:Option Addr) (n cap:Nat) (k:Int) (b:0<=k) (h1:k<=n) :
  (Instr.slice 25 (.slice a n cap) (some (.int .i64 k)) none none).run Tryz.prog w=.ok (subSl (.slice a n cap) k.toNat n) w:=by
 rw[run_slice_l w 25 a n cap (by kernel_rfl) .i64 k b h1];have:(sizeOf (Tryz.prog.elem 25)).run Tryz.prog w=.ok 1 w:=by kernel_rfl
 rw[this];simp[Result.andThen,sliced,subSl]
theorem Sl.vals {α:Type} [Inhabited α] {El:World->Value->α->Prop}{S:Nat->Prop}{w:World}{a:Option Addr}{n cap:Nat}{xs:List α}(h:Sl El S w (.slice a n cap) xs) :
  ∃j:List Value,j.length=xs.length/\∀i,i<xs.length->(∃b off,a=some ⟨b,off,none⟩/\w.cell? ⟨b,off+i,none⟩=some (gt j i))/\El w (gt j i) (gt xs i):=by
 have h1:∀i,∃u,i<xs.length->(∃b off,a=some ⟨b,off,none⟩/\w.cell? ⟨b,off+i,none⟩=some u)/\El w u (gt xs i):=λi=>by
  by_cases g:i<xs.length
  ·obtain ⟨b,off,u,h1,_,_,h4,h5⟩:=h.at i g
   exact⟨u,λ_=>⟨⟨b,off,h1,h4⟩,h5⟩⟩
  ·exact⟨undef,λh=>absurd h g⟩
 obtain⟨f,hf⟩:=Classical.axiomOfChoice h1;refine⟨(List.range xs.length).map f,by simp,λi g => ?_⟩;have e:gt ((List.range xs.length).map f) i=f i:=by simp[gt,g]
 rw[e];exact hf i g
theorem cloneRows_ok (w:World) (v:Value) (xs:List (List Int)) (S bad:Nat->Prop) (D:Rows2 S w v xs) (I:∀k,S k->k<w.heap.size->¬bad k) (J:xs.length<=1000000) :
  Calls Tryz.prog 203 #[v] w (Ret w λw' r=>ShQ bad w.heap.size w' r xs):=by
 obtain⟨a,cap,rfl,_,_⟩:=Sl.shape D;have O:=λn=>Lib.run_eql_slice_nil (P:=Tryz.prog) w 25 24 a n cap 0 0 (by kernel_rfl);cases a with
 | none=>
  obtain⟨rfl,rfl⟩:=Sl.nil_of_none D;clear D J;go_enter Tryz.func203,Tryz.ntmps203;go_wp2_with fail
  go_ret;exact⟨_,rfl,Ext.refl _,ShQ.nil _ _ _⟩
 | some a=>
  obtain⟨y,z,l⟩:=Sl.vals D
  have g:∀w',Ext w w'->∀j,j<xs.length->∃b off,some a=some ⟨b,off,none⟩/\w'.cell? ⟨b,off+j,none⟩=some (gt y j):=λw' p j A=>by
   obtain⟨⟨b,off,h1,h2⟩,_⟩:=l j A;exact⟨b,off,h1,p.cell h2 (by simp)⟩
  have h1:∀u,u∈y->u.oneCell'=true:=λu K=>by
   obtain⟨j,A,rfl⟩:=List.getElem_of_mem K;rw[<-gt_eq y j A];exact rdInts.one (l j (by omega)).2
  have B:∀(q:World) (C:Value),OwnV w.heap.size 24 q C y->Ext w q->ShQ bad w.heap.size q C xs:=λq C H p=>by
   refine⟨y,z,QOwn.of H,λi L=>Ints.mono (l i L).2 (λk hk m=>⟨⟨I k hk m,λe => ?_⟩,Nat.lt_of_lt_of_le m p.size,p.block k m (by simp)⟩)⟩;have:=(H.lt k e).1;omega
  have E:=Lib.hid (And.intro g (And.intro h1 B));clear g h1 B l;go_enter Tryz.func203,Tryz.ntmps203;go_wp2_with (at_builtin;refine wp_app 25 24 (.slice none 0 0) 24 und_rows Tryz.infoRow rfl (by decide) rfl _ _ rfl w.heap.size _ [] rfl (World.ownsRow_lit w #[] 0 (Nat.le_refl _) (by decide) rfl) (some a) xs.length cap y rfl z (by simp) (E.out.1 _ (World.grownBy_alloc _ _ _)) E.out.2.1 (by simp;omega) (by simp) ?_;intro C q F G M N)
  go_ret;have p:Ext w q:=grown_own (World.grownBy_alloc _ _ _) G (λj A m=>by have:=own_blk A;omega);exact⟨_,rfl,p,E.out.2.2 q C (by simpa using F) p⟩
theorem OwnV.weak {B B' E:Nat}{w:World}{v:Value}{a:List Value}(h:OwnV B E w v a) (b:B'<=B):OwnV B' E w v a:=by
 obtain⟨h1,e⟩:=h;refine⟨h1,?_⟩;rcases e with h|⟨g,cap,cur,hv,hg,r⟩
 ·exact .inl h
 ·exact .inr ⟨g,cap,cur,hv,Nat.le_trans b hg,r⟩
theorem wp_prep_row {G:Array Oper}{rest:List Oper}{o:Oper}{a:Act}{Q:Exit->Act->World->Prop}{w:World}(R:o.guard=none) (s x:Operand)
  (ho:o.op=Op.call { callee:=Callee.builtin Builtin.append,args := #[s,x],argTypes := #[25,25] }) (B:Nat) (D l:World) (v u:Value) (xs:List (List Int)) (y:List Int) (H:RowsO B D v xs) (hB:B<=D.heap.size)
  (S:Ext D l) (hu:OwnIn (From D.heap.size) l u y) (hw:w=l.alloc (.cells #[u] 24)) (hs:a.eval s=.slice (some ⟨l.heap.size,0,none⟩) 1 1) (hx:a.eval x=v) (X:xs.length<=1000000)
  (h:∀I w',RowsO B w' I (y :: xs)->Ext D w'->wpList Tryz.prog G Q rest (a.put o.dst I) w') :
  wpList Tryz.prog G Q (o :: rest) a w:=by
 subst hw;obtain⟨n,F,T,hO,hG,hd,J⟩:=H;have E:Ext l (l.alloc (.cells #[u] 24)):=World.grownBy_alloc _ _ _;have K:=grown_trans S E;have L:OwnV B 24 (l.alloc (.cells #[u] 24)) v n:=hO.kept K (by cases Y:v.ownBlock<;>simp);have M:OwnV l.heap.size 24 (l.alloc (.cells #[u] 24)) (.slice (some ⟨l.heap.size,0,none⟩) 1 1) [u]:=World.ownsRow_lit l #[u] 1 (Nat.le_refl _) (by decide) rfl;have af:=S.size
 have q:∃N c,v=.slice N n.length c/\(N=none->c=0)/\∀j,j<n.length->∃b off,N=some ⟨b,off,none⟩/\(l.alloc (.cells #[u] 24)).cell? ⟨b,off+j,none⟩=some (gt n j):=by
  rcases L.form with⟨rfl,Z⟩|⟨g,cp,rfl,_⟩
  ·exact⟨none,0,by rw[Z];rfl,λ_=>rfl,λj p=>by rw[Z] at p;simp at p⟩
  ·exact⟨_,_,rfl,λh=>by simp at h,λj p=>⟨g,0,rfl,by rw[Nat.zero_add];exact L.cell j p⟩⟩
 obtain⟨N,c,Y,U,r⟩:=q;refine wp_app 25 24 (.slice none 0 0) 24 und_rows Tryz.infoRow rfl (by decide) R s x ho l.heap.size _ [u] hs M N n.length c n (hx.trans Y) rfl U r ?_ (by simp;omega) E.size ?_
 ·intro u' V
  obtain⟨j,p,rfl⟩:=List.getElem_of_mem V;rw[<-gt_eq n j p];exact rdOwn.one (J j (by omega))
 ·intro I w' k1 k2 _ _
  have z:Ext l w':=grown_own E k2 (λj p ah=>by have:=own_blk p;omega);have A:=grown_trans S z;have C:∀k,I.ownBlock=some k->l.heap.size<=k:=λk hk=>(k1.lt k hk).1;refine h I w' ⟨[u]++n,λi k=>if i=0 then D.heap.size<=k/\k<l.heap.size else F (i-1) k/\k<D.heap.size,by simp[T],?_,?_,?_,?_⟩ A
  ·exact OwnV.weak k1 (by omega)
  ·intro i k O hk
   split at hk
   ·exact⟨by omega,λe=>by have:=C k e;omega,Nat.lt_of_lt_of_le hk.2 z.size⟩
   ·rename_i W
    simp only[List.length_cons] at O;obtain⟨a1,a2,a3⟩:=hG (i-1) k (by omega) hk.1;exact⟨a1,λe=>by have:=C k e;omega,Nat.lt_of_lt_of_le a3 A.size⟩
  ·intro i j k O p hk P
   simp only[List.length_cons] at O p;split at hk<;>split at P
   ·omega
   ·omega
   ·omega
   ·have:=hd (i-1) (j-1) k (by omega) (by omega) hk.1 P.1;omega
  ·intro i O
   simp only[List.length_cons] at O;by_cases W:i=0
   ·subst W
    simp only[if_true];exact rdOwn.mono hu (λk hk m=>⟨⟨hk,m⟩,Nat.lt_of_lt_of_le m z.size,z.block k m (by simp)⟩)
   ·simp only[if_neg W]
    have e1:gt ([u]++n) i=gt n (i-1):=by
     obtain⟨j,rfl⟩:∃j,i=j+1:=⟨i-1,by omega⟩;simp[gt]
    have e2:gt (y :: xs) i=gt xs (i-1):=by
     obtain⟨j,rfl⟩:∃j,i=j+1:=⟨i-1,by omega⟩;simp[gt]
    rw[e1,e2];exact rdOwn.mono (J (i-1) (by omega)) (λk hk m=>⟨⟨hk,m⟩,Nat.lt_of_lt_of_le m A.size,A.block k m (by simp)⟩)
theorem canonical_ok (P:Pr) (G:Grp P) (w:World) (sb gb B:Nat) (p:Value) (b:List (List Int)) (H:List Int->Prop) (Sp bad:Nat->Prop) (hp:PresP Sp w p P) (R:SeqAt B bad w sb gb p P.orders.length b) (hI:Ind P H (gt b)) :
  Calls Tryz.prog 103 #[.pointer (some ⟨sb,0,none⟩)] w (Ret w λw' v=>RowsO w.heap.size w' v (cseq P H)):=by
 have hP:=G.v;have ai:=hP.n6;obtain⟨pb,po,rfl⟩:=hp.shape;have l:=R.c0;have n:=R.c1;have O:=Lib.hid hI;clear hI;have S:IntKind.i64.wrap ((P.orders.length:Int)-1)=(P.orders.length:Int)-1:=IntWalk.i64_in _ (by omega);go_enter Tryz.func103,Tryz.ntmps103;go_wp2;clear S;go_loopw [3,4] (λov dv wr=>∃(m:Nat) (r:Nat->List Int) (v4:Value),v4=ov/\dv=.int .i64 ((m:Int)-1)/\m<=P.orders.length/\Ext w wr/\RowsO w.heap.size wr v4 (sq r (P.orders.length-m) m)/\Hid (CanInv P H (gt b) r m)) (λ_ dv _=>(intOf dv+1).toNat)
 case atStart=>exact⟨P.orders.length,λ_=>[],_,rfl,rfl,Nat.le_refl _,Ext.refl _,by rw[Nat.sub_self];exact SlO.nil _ _ _ _,Lib.hid ⟨λe h1 h2=>by omega,λe h1 h2=>by omega,λe e' h1 h2 h3=>by omega⟩⟩
 case round=>
  obtain⟨m,r,v4,rfl,rfl,hm,z,hO,A⟩:=hrel;clear l n;by_cases C:m=0
  ·subst C
   have D:=sq_len r P.orders.length 0;rw[G.can_end O.out A.out] at D;rw[Nat.sub_zero,G.can_end O.out A.out] at hO;have E:((0:Nat):Int)-1 = -1:=rfl;rw[E];obtain⟨az,capz,rfl,_⟩:=SlD.shape (hO.toD (by omega));go_wp2;go_ret;exact⟨_,rfl,z,hO⟩
  ·obtain ⟨d,rfl⟩:∃d,m=d+1:=⟨m-1,by omega⟩
   obtain⟨k,hk⟩:∃k,k=P.orders.length-(d+1):=⟨_,rfl⟩;rw[<-hk] at hO;have F:d+1+k=P.orders.length:=by omega
   have I:P.orders.length-d=k+1:=by omega
   rw[show(((d+1:Nat)):Int)-1=d by omega];have al:(d:Int)<P.orders.length:=by omega
   have am:(0:Int)<=d:=by omega
   have an:IntKind.i64.wrap ((d:Int)-1)=(d:Int)-1:=IntWalk.i64_in _ (by omega);have q:=R.ext z;have l:=q.c0;have n:=q.c1;have D:=sq_len r k (d+1);have ao:k<=6:=by omega
   have Q:=Lib.hid (And.intro F I);clear F I hk C;obtain⟨_,T⟩:=q.tab.at d (by omega);rcases T with⟨h0,hcell⟩|⟨u,ab,J,hcell,U⟩
   ·obtain ⟨a,g⟩:=can_skip (k:=k) A.out h0
    have i:=Lib.hid (And.intro a g);clear a g h0;go_wp2;go_roundw
    case rel=>exact⟨d,_,v4,rfl,rfl,by omega,z,by rw[Q.out.2,i.out.2];exact hO,Lib.hid i.out.1⟩
    case measure=>simp[intOf]
   ·have K:=hO.toD (by omega)
    obtain⟨az,capz,fk,_,_⟩:=SlD.shape K;subst fk;have hU:=RowsD.rows K;have L:=A.out.seqOk Q.out.1;have M:=(O.out.mem d (by omega) u).2.1.1;have V:=hp.ext z;have W:=Lib.hid (And.intro L (And.intro M u));clear L M u;have e1:∀w',Ext wr w'->w'.cell? ⟨sb,0,none⟩=some (.pointer (some ⟨pb,po,none⟩)):=λw' h=>h.cell l (by simp);have e2:∀w',Ext wr w'->w'.cell? ⟨sb,1,none⟩=some (.slice (some ⟨gb,0,none⟩) P.orders.length P.orders.length):=λw' h=>h.cell n (by simp);have e3:∀w',Ext wr w'->w'.cell? ⟨gb,d,none⟩=some (.slice (some ab) (gt b d).length J):=λw' h=>h.cell hcell (by simp);go_wp2
    go_region_held3 (λw'=>Ext wr w') (first|exact grown_drew _ _|assumption)
     (first
      | (go_at_call 117;refine Calls.mono (Calls.rel (w0:=wr) (by assumption) (representative_ok P G _ _ _ _ (sq r k (d+1)) (gt b d) Any Any Any (PresP.sub (PresP.ext V (by assumption)) (λ_ _ _=>trivial)) (Rows2.sub (Rows2.ext hU (by assumption)) (λ_ _ _=>trivial)) W.out.1 (by omega) (Ints.sub (Ints.ext U (by assumption)) (λ_ _ _=>trivial)) W.out.2.1)) ?_;rintro eY wY ⟨yv,rfl,X,Dj,Y,Dk,y⟩))
    have aw:Y.length<=6:=by rw[y.vec.1];omega
    obtain⟨a,g⟩:=G.can_step O.out A.out Q.out.1 W.out.2.2 y;have i:=Lib.hid (And.intro a g);clear a g;have N:OwnIn (From wr.heap.size) wY yv Y:=OwnIn.of Dk (by omega) (λj h1 _=>Nat.le_trans Dj h1);obtain⟨ay,capy,gK,_,_⟩:=N.ints.shape;subst gK;clear e1 e2 e3 hcell l n y;go_wp2_with (first|(at_builtin;refine wp_prep_row rfl _ _ rfl w.heap.size wr wY _ _ (sq r k (d+1)) Y hO z.size X N rfl rfl rfl (by omega) ?_;intro v5 w5 Z aa)|fail)
    go_roundw
    case rel=>exact⟨d,_,v5,rfl,rfl,by omega,grown_trans z aa,by rw[Q.out.2,i.out.2];exact Z,Lib.hid i.out.1⟩
    case measure=>simp[intOf]
theorem inverseMod_ret (a m:Int) (w:World) (b:m=2\/m=3\/m=5\/m=7) (h1:1<=a) (g:a<m) :
  Calls Tryz.prog 206 #[.int .i64 a,.int .i64 m] w (Ret w λ_ v=>∃k:Int,v=.tuple #[.int .i64 k,.bool true]/\0<=k/\k<m/\(k*a)%m=1):=
 (inverseMod_ok a m w b h1 g).mono (by rintro e w' ⟨⟨k,rfl,h⟩,rfl⟩;exact⟨_,rfl,Ext.refl _,k,rfl,h⟩)
theorem q_kept {bad:Nat->Prop}{g i:World}{v1 j:Value}(a:g.grownBy i v1.ownBlock) (l:j.ownBlock=v1.ownBlock\/∀k,j.ownBlock=some k->g.heap.size<=k) :
  ∀k,(¬bad k/\v1.ownBlock≠some k)->k<g.heap.size->(¬bad k/\j.ownBlock≠some k)/\k<i.heap.size/\i.heap[k]? = g.heap[k]? :=λk hk b=>
 ⟨⟨hk.1,λe=>by
  rcases l with h|h
  ·exact hk.2 (by rw[<-h];exact e)
  ·have:=h k e;omega⟩,Nat.lt_of_lt_of_le b a.size,a.block k b (λe=>hk.2 e.symm)⟩
theorem seq_kept {B sb gb n W:Nat}{pv:Value}{g m:World}{v1 i:Value}{b:List (List Int)}(h:SeqAt B (λk=>v1.ownBlock=some k) g sb gb pv n b) (p:∀k,v1.ownBlock=some k->W<=k) (q:gb<W) (r:sb<W)
  (a:g.grownBy m v1.ownBlock) (j:i.ownBlock=v1.ownBlock\/∀k,i.ownBlock=some k->g.heap.size<=k):SeqAt B (λk=>i.ownBlock=some k) m sb gb pv n b:=by
 refine h.kept a.size (λk hk l=>a.block k hk (λe => ?_)) (λk hk e => ?_)
 ·rcases l with rfl|rfl|l
  ·have:=p _ e.symm;omega
  ·have:=p _ e.symm;omega
  ·exact l e.symm
 ·rcases j with h|h
  ·rw[<-h];exact e
  ·have:=h k e;omega
def AddPost (P:Pr) (H:List Int->Prop) (L b a:List (List Int)) (g:Bool):Prop:=
 Ind P (genP P (λx=>H x\/x∈L)) (gt a)/\(g=false->a=b)/\(g=true->miss a P.orders.length<miss b P.orders.length)
def AddSt (P:Pr) (H:List Int->Prop) (L b a q:List (List Int)) (g:Bool):Prop:=
 (∃R,AddInv P (λx=>H x\/x∈L) (gt a) q R)/\(g=false->a=b)/\(g=true->miss a P.orders.length<miss b P.orders.length)/\miss a P.orders.length<=miss b P.orders.length
theorem add_ok (P:Pr) (G:Grp P) (w:World) (sb gb B:Nat) (p lv:Value) (L b:List (List Int)) (H:List Int->Prop) (hp:PresP (λk=>k≠gb) w p P) (E:SeqAt B (λ_=>False) w sb gb p P.orders.length b) (hI:Ind P H (gt b))
  (hL:∀x∈L,Vec P.orders x) (hl:Rows2 (λk=>¬(k=gb\/k=sb)) w lv L) (cw:L.length<=10000) :
  Calls Tryz.prog 100 #[.pointer (some ⟨sb,0,none⟩),lv] w λe w'=>∃a g,e=.returned (.bool g)/\w.grownBy w' (some gb)/\SeqAt B (λ_=>False) w' sb gb p P.orders.length a/\AddPost P H L b a g:=by
 have hP:=G.v;have cF:=hP.n6;obtain⟨pb,po,rfl⟩:=hp.shape;obtain⟨ao,ac,aS,hoi⟩:=hp.ordAt;obtain⟨_,_,_,cc,bu,_⟩:=hp.at;have O:=E.tab.lt;have bv:∀w',w.grownBy w' (some gb)->PresP (λk=>k≠gb) w' (.pointer (some ⟨pb,po,none⟩)) P:=λw' h=>hp.mono (frame_of h (λk hk _=>⟨hk,λe=>hk (Option.some.inj e).symm⟩));have aU:∀w',w.grownBy w' (some gb)->w'.cell? ⟨sb,0,none⟩=some (.pointer (some ⟨pb,po,none⟩)):=λw' h=>(World.cell?_of_block (h.block sb E.slt (by simpa using E.ne))).trans E.c0;have aV:∀w',w.grownBy w' (some gb)->w'.cell? ⟨sb,1,none⟩=some (.slice (some ⟨gb,0,none⟩) P.orders.length P.orders.length):=λw' h=>(World.cell?_of_block (h.block sb E.slt (by simpa using E.ne))).trans E.c1;have aW:∀w',w.grownBy w' (some gb)->w'.cell? ⟨pb,po,none⟩=some (.slice ao P.orders.length ac):=λw' h=>(World.cell?_of_block (h.block pb bu (by simpa using cc))).trans aS;have F:=Lib.hid (And.intro bv (And.intro aU (And.intro aV aW)));clear bv aU aV aW aS;have HI:=Lib.hid (And.intro hI hL);clear hI hL;go_enter Tryz.func100,Tryz.ntmps100;go_wp2_with fail
 refine Calls.mono (cloneRows_ok w lv L _ (λk=>k=gb\/k=sb) hl (λk hk _=>hk) (by omega)) ?_;rintro e0 w0 ⟨cH,rfl,hg0,bw⟩;go_wp2
 go_loopg [5,6] (miss b P.orders.length*(P.orders.length+3)+L.length) (λgk gv qv wr=>∃(a q:List (List Int)) (g:Bool),gk<=20000/\gk=miss a P.orders.length*(P.orders.length+3)+q.length/\gv=.bool g/\w.grownBy wr (some gb) /\
  SeqAt B (λk=>qv.ownBlock=some k) wr sb gb (.pointer (some ⟨pb,po,none⟩)) P.orders.length a/\ShQ (λk=>k=gb\/k=sb) w.heap.size wr qv q/\Hid (AddSt P H L b a q g))
 case atStart=>
  have ba:miss b P.orders.length*(P.orders.length+3)+L.length<=20000:=by
   have h3:miss b P.orders.length*(P.orders.length+3)<=6*9:=Nat.mul_le_mul (by have:=miss_le b P.orders.length;omega) (by omega);omega
  exact⟨b,L,false,ba,rfl,rfl,grown_of_ext _ hg0,E.kept hg0.size (λk hk _=>hg0.block k hk (by simp)) (λk hk h=>by have:=(bw.lt k h).1;omega),bw,Lib.hid ⟨⟨_,G.addInv_start HI.out.1 HI.out.2⟩,λ_=>rfl,by simp,Nat.le_refl _⟩⟩
 case round=>
  obtain⟨a,q,g,hgkb,bb,rfl,hg,av,hq,nh⟩:=hrel;cases q with
  | nil=>
   obtain⟨aq,capq,rfl,_⟩:=hq.shape;go_wp2;go_ret;exact⟨a,g,rfl,hg,av.kept (Nat.le_refl _) (λ_ _ _=>rfl) (λ_ _ h=>h.elim),by obtain⟨⟨R,hA⟩,h2,h3,_⟩:=nh.out;exact⟨G.addInv_end hA,h2,h3⟩⟩
  | cons y q=>
   obtain⟨aq,capq,rfl,_⟩:=hq.shape;obtain⟨gq,off,u,rfl,hgB,hglt,l,ad⟩:=ShQ.head hq 0 (by simp);obtain⟨m,hm⟩:∃m,m=(y :: q).length:=⟨_,rfl⟩;rw[<-hm] at hq bb ⊢;have bz:m=q.length+1:=by rw[hm];rfl
   have ad:Ints (λk=>¬(k=gb\/k=sb)/\k≠gq) wr u y:=ad;obtain⟨ay,capy,rfl,_,_⟩:=ad.shape;have cK:m<=20000:=by omega
   have cd:=F.out.2.1 wr hg;have bA:=F.out.2.2.1 wr hg;rw[Nat.add_zero] at l;have cL:(0:Int)<m:=by omega
   have HM:=Lib.hid (And.intro bb (And.intro hm bz));clear bb hm bz;have bB:Vec P.orders y:=by obtain⟨⟨R,hA⟩,_⟩:=nh.out;exact hA.vec _ (hA.que _ List.mem_cons_self)
   have aX:∀d,d<P.orders.length->gt a d≠[]->T P d (gt a d)/\gt (gt a d) d=1:=by obtain⟨⟨R,hA⟩,_⟩:=nh.out;exact λd W h=>(hA.tab d W h).2
   have HT:=Lib.hid (And.intro bB aX);clear bB aX;go_wp2_with fail
   refine Calls.mono (sift_ok P G wr sb gb B _ _ y a _ _ _ (F.out.1 wr hg) av HT.out.2 ad HT.out.1) ?_;rintro e1 Q ⟨xv,rfl,bc,Y,xI,bd,bC,hΦ⟩;have A:=grown_trans hg (grown_of_ext (some gb) bc)
   have S:Hid (AddSt P H L b a (Y :: q) g):=by
    obtain⟨⟨R,hA⟩,h2⟩:=nh.out;exact Lib.hid ⟨G.sift_add hA hΦ,h2⟩
   clear hΦ nh cd bA l;have C:ShQ (λk=>k=gb\/k=sb) w.heap.size Q (subSl (.slice (some ⟨gq,off,none⟩) m capq) 1 m) q:=(hq.ext bc).tail;have be:=run_tail_rows Q (some ⟨gq,off,none⟩) m capq 1 (by omega) (by omega)
   have n:∀k,(subSl (.slice (some ⟨gq,off,none⟩) m capq) 1 m).ownBlock=some k->k=gq:=λk hk=>by
    have h3:=QOwn.own_tail k hk;simp[Value.ownBlock] at h3;exact h3.symm
   rw[show(1:Int).toNat=1 from rfl] at be;generalize subSl (.slice (some ⟨gq,off,none⟩) m capq) 1 m=bD at C be n;have ae:SeqAt B (λk=>bD.ownBlock=some k) Q sb gb (.pointer (some ⟨pb,po,none⟩)) P.orders.length a:=(av.ext bc).kept (Nat.le_refl _) (λ_ _ _=>rfl) (λk _ h=>by rw[n k h];rfl)
   have r:Ints (λk=>¬(k=gb\/k=sb)/\bD.ownBlock≠some k) Q xv Y:=Ints.sub xI (λk hk _=>by
    have h1:=E.slt;have h2:=hg.size;rcases hk with hk|hk
    ·exact⟨hk.1,λe=>hk.2 (n k e)⟩
    ·exact⟨by omega,λe=>by have:=n k e;omega⟩)
   obtain⟨a1,bE,rfl,_⟩:=C.shape;obtain⟨ax,capx,hv,_,_⟩:=r.shape;rw[bd.1] at hv;subst hv;clear av hq ad xI n;have HY:=Lib.hid (And.intro bd bC);clear bd bC;by_cases aA:dep Y=P.orders.length
   ·have bG:Hid (AddSt P H L b a q g):=by
     obtain⟨⟨R,hA⟩,h2⟩:=S.out;exact Lib.hid ⟨⟨R,addInv_drop hA ((dep_top hP HY.out.1).1 aA)⟩,h2⟩
    clear S;go_wp2_with (go_at_call 205;refine Calls.mono (depthOf_ok _ Y Q _ r) ?_;rintro eD wD ⟨rfl,rfl⟩)
    go_roundg (gk-1)
    case measure=>have:=HM.out;omega
    case rel=>exact⟨a,q,g,by omega,by have:=HM.out;omega,rfl,A,ae,C,bG⟩
   ·have W:dep Y<P.orders.length:=by have:=dep_le Y;have:=HY.out.1.1;omega
    have aB:=dep_T HY.out.1;have bH:=dep_ne (x:=Y) (by rw[HY.out.1.1];exact W);have bf:=HY.out.2 W;obtain⟨d,aD⟩:∃d,d=dep Y:=⟨_,rfl⟩;rw[<-aD] at W aB bH bf aA;have ho:=hP.ord7 d W;have bI:=hP.ord d W;have cf:=aB.1.2 d W;have bJ:1<=gt Y d:=by omega
    obtain⟨bx,ox,rfl,_,_,hcx⟩:=Ints.at r d (by rw[HY.out.1.1];exact W);obtain⟨b2,off2,rfl,af,bK,ag⟩:=Ints.at hoi d W;have c1:∀w',w.grownBy w' (some gb)->w'.cell? ⟨b2,off2+d,none⟩=some (.int .i64 (gt P.orders d)):=λw' h=>(World.cell?_of_block (h.block b2 bK (by simpa using af))).trans ag;have HD:=Lib.hid (And.intro aD (And.intro aB (And.intro bf (And.intro c1 (And.intro bI aA)))));clear aB bH bf c1 bI ag aA;have e1:∀w',Ext Q w'->w'.cell? ⟨sb,0,none⟩=some (.pointer (some ⟨pb,po,none⟩)):=λw' h=>F.out.2.1 w' (grown_trans A (grown_of_ext _ h));have e2:∀w',Ext Q w'->w'.cell? ⟨pb,po,none⟩=some (.slice (some ⟨b2,off2,none⟩) P.orders.length ac):=λw' h=>F.out.2.2.2 w' (grown_trans A (grown_of_ext _ h));have e3:∀w',Ext Q w'->w'.cell? ⟨b2,off2+d,none⟩=some (.int .i64 (gt P.orders d)):=λw' h=>HD.out.2.2.2.1 w' (grown_trans A (grown_of_ext _ h));have e4:∀w',Ext Q w'->w'.cell? ⟨bx,ox+d,none⟩=some (.int .i64 (gt Y d)):=λw' h=>h.cell hcx (by simp);have q1:(d:Int)<P.orders.length:=by omega
    have q2:(0:Int)<=d:=by omega
    have q3:((d:Int) == (P.orders.length:Int))=false:=by simp;omega
    have bL:Calls Tryz.prog 205 #[.slice (some ⟨bx,ox,none⟩) P.orders.length capx] Q (λe w'=>e=.returned (.int .i64 d)/\Q=w'):=by rw[aD];exact depthOf_ok _ Y Q _ r
    clear aD;go_wp2_with (go_at_call 205;refine Calls.mono bL ?_;rintro eD wD ⟨rfl,rfl⟩)
    go_region_held3 (λw'=>Ext Q w') (first|exact grown_drew _ _|assumption)
     (first
      | (go_at_call 206;refine Calls.mono (Calls.rel (w0:=Q) (by assumption) (inverseMod_ret (gt Y d) (gt P.orders d) _ HD.out.2.2.2.2.1 bJ cf.2)) ?_;rintro eI wI ⟨vI,rfl,aE,y5,kk,rfl,ba,hk1,hkm⟩;have HK:=Lib.hid hkm;clear hkm))
    clear e1 e2 e3 e4 bL be;have aY:=grown_trans A (grown_of_ext (some gb) aE);have bh:=C.ext aE;have aZ:=ae.ext aE;have ah:=r.ext aE;have a0:∀k,(Value.slice a1 q.length bE).ownBlock=some k->w.heap.size<=k:=λk hk=>(bh.lt k hk).1;have cS:q.length<=20000:=by have:=HM.out.2.2;omega
    clear C ae r hcx;go_wp2_with (first|(at_builtin;refine wp_shq_app rfl _ _ rfl (λk=>k=gb\/k=sb) w.heap.size _ _ q Y rfl wI bh rfl ah rfl (by omega) aY.size ?_;intro v2 w2 bi aF af;have U:=grown_own aY aF (λj I bM=>by have:=a0 j I;omega);have cy:=F.out.2.1 w2 U)|fail)
    have a2:=seq_kept aZ a0 O.2 E.slt aF af;have a3:=Ints.mono ah (q_kept aF af);clear bh aZ ah;refine Calls.mono (power_ok P hP w2 _ _ Y kk _ _ (F.out.1 w2 U) a3 HY.out.1 (by omega)) ?_;rintro eZ wZ ⟨zv,rfl,bj,ai⟩;have eZ:iPow P Y kk=pw P Y kk.toNat:=G.iPow_eq HY.out.1 kk;rw[eZ] at ai;clear eZ;obtain⟨Z,hZ⟩:∃Z,Z=pw P Y kk.toNat:=⟨_,rfl⟩;rw[<-hZ] at ai;have aG:Vec P.orders Z:=by rw[hZ];exact G.pw_vec HY.out.1 _
    have HZ:=Lib.hid hZ;clear hZ;have V:=grown_trans U (grown_of_ext (some gb) bj);have aH:=bi.ext bj;have a4:=a2.ext bj
    have aI:Ints (λk=>¬(k=gb\/k=sb)/\v2.ownBlock≠some k) wZ zv Z:=ints_of_own ai (by rw[aG.1];omega) (λk hk=>by
     have h1:=(ai.lt k hk).1;have h2:=E.slt;have h3:=U.size;exact⟨by omega,λe=>by have:=(bi.lt k e).2;omega⟩)
    have aj:∀k,v2.ownBlock=some k->w.heap.size<=k:=λk hk=>(aH.lt k hk).1;clear bi a2 a3 aF af;obtain⟨az,ak,hv,_,_⟩:=aI.shape;rw[aG.1] at hv;subst hv;have J:=Lib.hid aG;clear aG;have bN:Vec P.orders (pw P Z (gt P.orders d).toNat):=G.pw_vec J.out _;have bO:(pw P Z (gt P.orders d).toNat).length<=6:=by rw[bN.1];omega
    have bP:iPow P Z (gt P.orders d)=pw P Z (gt P.orders d).toNat:=G.iPow_eq J.out _;have bQ:=Lib.hid (And.intro bO bP);clear bO bP bN;have e1:∀w',w.grownBy w' (some gb)->w'.cell? ⟨sb,0,none⟩=some (.pointer (some ⟨pb,po,none⟩)):=F.out.2.1;have e2:∀w',w.grownBy w' (some gb)->w'.cell? ⟨pb,po,none⟩=some (.slice (some ⟨b2,off2,none⟩) P.orders.length ac):=F.out.2.2.2;have e3:∀w',w.grownBy w' (some gb)->w'.cell? ⟨b2,off2+d,none⟩=some (.int .i64 (gt P.orders d)):=HD.out.2.2.2.1;go_wp2
    go_region_held3 (λw'=>w.grownBy w' (some gb)) (first|exact grown_trans V (grown_drew _ _)|assumption|exact grown_trans al (World.grownBy_alloc _ _ _))
     (first
      | (go_at_call 101;refine Calls.mono (Calls.rel2 (w0:=wZ) (grown_drew _ _) (power_ok P hP _ _ _ Z (gt P.orders d) _ _ ((F.out.1 wZ V).ext (grown_drew _ _)) (aI.ext (grown_drew _ _)) J.out (by omega))) ?_;rintro eT wT ⟨vT,rfl,aJ,EN,hsT,aK⟩;have al:=grown_trans V (grown_of_ext (some gb) aJ);rw[bQ.out.2] at aK;have bk:Ints (λk=>¬(k=gb\/k=sb)/\v2.ownBlock≠some k) wT vT (pw P Z (gt P.orders d).toNat):=ints_of_own aK (by have:=bQ.out.1;omega) (λk hk=>by
        have h1:=(aK.lt k hk).1;have h2:=E.slt;have h3:=V.size;exact⟨by omega,λe=>by have:=(aH.lt k e).2;omega⟩);obtain⟨aT,capT,p9,_,_⟩:=bk.shape;subst p9)
      | (refine step_shq_app rfl _ _ rfl (λk=>k=gb\/k=sb) w.heap.size v2 _ (q++[Y]) _ rfl wT (aH.ext aJ) rfl bk rfl (by simp;omega) al.size ?_;intro v3 w3 bl aL bm;have am:=grown_own al aL (λj I bM=>by have:=aj j I;omega)))
    clear e1 e2 e3;have a5:=seq_kept (a4.ext aJ) aj O.2 E.slt aL bm;have a6:=Ints.mono (aI.ext aJ) (q_kept aL bm);have bR:=F.out.2.2.1 w3 am;have bS:=F.out.2.1 w3 am;obtain⟨T1,bn⟩:∃T1,T1=pw P Z (gt P.orders d).toNat:=⟨_,rfl⟩;rw[<-bn] at bl;have cn:=Lib.hid bn;clear bn;clear aH a4 aI bk aK ai aL bm;go_wp2;clear bR bS
    go_loopw [6,84] (λqv iv aN=>∃(k:Nat) (v4:Value),v4=qv/\iv=.int .i64 k/\k<=P.orders.length/\w.grownBy aN (some gb)/\SeqAt B (λj=>v4.ownBlock=some j) aN sb gb (.pointer (some ⟨pb,po,none⟩)) P.orders.length a /\
     ShQ (λk=>k=gb\/k=sb) w.heap.size aN v4 (q++[Y]++[T1]++coms P a Z k)/\Ints (λj=>¬(j=gb\/j=sb)/\v4.ownBlock≠some j) aN (.slice az P.orders.length ak) Z) (λ_ iv _=>P.orders.length-(intOf iv).toNat)
    case atStart=>exact⟨0,_,rfl,rfl,by omega,am,a5,by simpa [coms] using bl,a6⟩
    case round=>
     obtain⟨k,v4,rfl,rfl,hk,K,i,X,D⟩:=hrel;clear a5 bl a6;have M:∀j,v4.ownBlock=some j->w.heap.size<=j:=λj I=>(X.lt j I).1;by_cases bT:k<P.orders.length
     ·obtain ⟨_,aO⟩:=i.tab.at k bT
      rcases aO with⟨h0,l⟩|⟨bo,ab,capb,l,cp⟩
      ·have an:coms P a Z (k+1)=coms P a Z k:=by simp only[coms];rw[if_pos h0,List.append_nil]
       have HC:=Lib.hid an;clear an h0;go_wp2;go_roundw
       case rel=>exact⟨k+1,v4,rfl,by go_num,by omega,K,i,by rw[HC.out];exact X,D⟩
       case measure=>simp[intOf];omega
      ·have an:coms P a Z (k+1)=coms P a Z k++[comR P (gt a k) Z]:=by simp only[coms];rw[if_neg bo]
       have aP:=(HT.out.2 k bT bo).1.1;have bV:Vec P.orders (comR P (gt a k) Z):=G.mulV (G.invV (G.mulV J.out aP)) (G.mulV aP J.out);have HC:=Lib.hid (And.intro an (And.intro aP bV));clear an aP bV bo;have cq:=F.out.2.1 wr K;go_wp2_with fail
       refine Calls.mono (commutator_ok P G wr _ _ _ (gt a k) Z _ _ _ (F.out.1 wr K) cp D HC.out.2.1 J.out) ?_;rintro eC wC ⟨vC,rfl,aQ,ap⟩;have ap:Own wr.heap.size wC vC (comR P (gt a k) Z):=ap
       have bW:Ints (λj=>¬(j=gb\/j=sb)/\v4.ownBlock≠some j) wC vC (comR P (gt a k) Z):=ints_of_own ap (by rw[HC.out.2.2.1];omega) (λj I=>by
        have h1:=(ap.lt j I).1;have h2:=E.slt;have h3:=K.size;exact⟨by omega,λe=>by have:=(X.lt j e).2;omega⟩)
       have a7:=grown_trans K (grown_of_ext (some gb) aQ);obtain⟨aC,capC,l6,_,_⟩:=bW.shape;subst l6;have cW:=coms_len P a Z k;clear ap l cq;go_wp2_with (first|(at_builtin;refine wp_shq_app rfl _ _ rfl (λk=>k=gb\/k=sb) w.heap.size v4 _ (q++[Y]++[T1]++coms P a Z k) (comR P (gt a k) Z) rfl wC (X.ext aQ) rfl bW rfl (by simp;omega) a7.size ?_;intro v5 w5 bp N bX;have bY:=grown_own a7 N (λj I bM=>by have:=M j I;omega))|fail)
       go_roundw
       case rel=>exact⟨k+1,v5,rfl,by go_num,by omega,bY,seq_kept (i.ext aQ) M O.2 E.slt N bX,by rw[HC.out.1,<-List.append_assoc];exact bp,Ints.mono (D.ext aQ) (q_kept N bX)⟩
       case measure=>simp[intOf];omega
     ·have cs:k=P.orders.length:=by omega
      subst cs;have a8:Z≠[]:=λh=>by have:=J.out.1;rw[h] at this;simp at this;omega
      obtain⟨ct,N⟩:=i.put d (u := .slice az P.orders.length ak) (y:=Z) (Ints.sub D (λj I _=>⟨λe=>I.1 (.inl e),λh=>h.elim (λe=>I.1 (.inr e)) I.2⟩)) a8;obtain⟨cY,aO⟩:=i.tab.at d W;have cZ:wr.cell? ⟨gb,d,none⟩=some (.slice none 0 0):=aO.elim (λh=>h.2) (λh=>absurd HD.out.2.2.1 h.1)
      have bp:ShQ (λk=>k=gb\/k=sb) w.heap.size (wr.setCell ⟨gb,d,none⟩ (.slice az P.orders.length ak)) v4 (q++[Y]++[T1]++coms P a Z P.orders.length):=X.kept N.size (λj I hc=>N.block j I (λe=>by
       have e:=Option.some.inj e;subst e;rcases hc with hc|hc
       ·have:=M _ hc;have:=O.2;omega
       ·exact hc (.inl rfl))) (λ_ _ h=>h)
      have bA:=F.out.2.2.1 wr K;have aR:=miss_set (b:=a) (z:=Z) HD.out.2.2.1 a8 P.orders.length (by rw[i.tab.len];exact Nat.le_refl _);rw[if_pos W] at aR;have b0:(q++[Y]++[T1]++coms P a Z P.orders.length).length<=q.length+2+P.orders.length:=by have:=coms_len P a Z P.orders.length;simp;omega
      have a9:miss a P.orders.length*(P.orders.length+3)=miss (a.set d Z) P.orders.length*(P.orders.length+3)+(P.orders.length+3):=by rw[<-aR,Nat.add_mul,Nat.one_mul]
      have b1:Hid (AddSt P H L b (a.set d Z) (q++[Y]++[T1]++coms P a Z P.orders.length) true):=by
       obtain⟨⟨R,hA⟩,h2,h3,h4⟩:=S.out;have b3:=G.add_step hA W HD.out.2.1 HD.out.2.2.1 i.tab.len kk ba HK.out;rw[<-HZ.out,<-cn.out] at b3;exact Lib.hid ⟨b3,by simp,λ_=>by omega,by omega⟩
      have a':miss (a.set d Z) P.orders.length*(P.orders.length+3)+(q++[Y]++[T1]++coms P a Z P.orders.length).length<gk:=by have:=HM.out;omega
      have HX:=Lib.hid (And.intro b0 (And.intro a' (And.intro a9 aR)));clear b0 a9 aR a' S aO X i D;have c3:(d:Int)<P.orders.length:=by omega
      go_wp2;go_roundg (miss (a.set d Z) P.orders.length*(P.orders.length+3)+(q++[Y]++[T1]++coms P a Z P.orders.length).length)
      case measure=>exact HX.out.2.1
      case rel=>exact⟨a.set d Z,_,true,by have:=HX.out.2.1;omega,rfl,rfl,grown_trans K N,ct,bp,b1⟩
section
variable {P:Pr}(G:Grp P)
include G
theorem Grp.inv_one:rInv P (zeros P.orders.length)=zeros P.orders.length:=by
 have h:=G.inv_mul G.oneV;rwa [G.grp.er _ (G.invV G.oneV)] at h
theorem Grp.sub_one:Sub P (λx=>x=zeros P.orders.length):=
 ⟨λx h=>by rw[h];exact G.oneV,rfl,λx y hx hy=>by rw[hx,hy];exact G.grp.el _ G.oneV,λx h=>by rw[h];exact G.inv_one⟩
theorem Grp.ind_one:Ind P (λx=>x=zeros P.orders.length) (gt (List.replicate P.orders.length ([]:List Int))):=
 ⟨G.sub_one,λd a h=>absurd (by simp[gt,a]) h,λx hx d a _ b=>absurd (by rw[hx];exact gt_replicate _ _) b⟩
omit G in
theorem genP_one (Q:List Int->Prop):genP P (λx=>x=zeros P.orders.length\/Q x)=genP P Q:=
 funext λx=>propext ⟨λh K S a=>h K S (λy hy=>hy.elim (λe=>by rw[e];exact S.one) (a y)),λh K S a=>h K S (λy hy=>a y (.inr hy))⟩
end
theorem generated_ok (P:Pr) (G:Grp P) (w:World) (p r:Value) (L:List (List Int)) (u B:Nat->Prop) (i:PresP u w p P) (y:Rows2 B w r L) (z:∀x∈L,Vec P.orders x) (e:L.length<=10000) :
  Calls Tryz.prog 159 #[p,r] w (Ret w λw' v=>RowsO w.heap.size w' v (cseq P (genP P (λx=>x∈L)))):=by
 have hP:=G.v;have l:=hP.n6;obtain⟨pb,po,rfl⟩:=i.shape;obtain⟨J,capl,rfl,_,_⟩:=Sl.shape y;have C:=Lib.hid z;clear z;go_enter Tryz.func159,Tryz.ntmps159;go_wp2_with fail
 refine Calls.mono (newSequence_ok P w _ u (λ_=>False) i l) ?_;rintro K D ⟨v1,rfl,hg1,sb,gb,rfl,m⟩;have E:=m.tab.lt;have F:=m.sB;go_wp2_with fail
 refine Calls.mono (add_ok P G D sb gb w.heap.size _ _ L _ (λx=>x=zeros P.orders.length) (i.mono (λk _ a=>⟨by omega,Nat.lt_of_lt_of_le a hg1.size,hg1.block k a (by simp)⟩)) m G.ind_one C.out (Rows2.mono y (λk _ a=>⟨by omega,Nat.lt_of_lt_of_le a hg1.size,hg1.block k a (by simp)⟩)) e) ?_;rintro M A ⟨b2,g,rfl,hg2,n,q,_,_⟩;rw[genP_one] at q;have b:Ext w A:=grown_own hg1 hg2 (λj H a=>by cases H;omega);have I:=Lib.hid q;clear q;go_wp2_with fail
 refine Calls.mono (canonical_ok P G A sb gb w.heap.size _ b2 _ _ _ (i.ext b) n I.out) ?_;rintro N O ⟨Q,rfl,hg3,hO⟩;go_wp2;go_ret;exact⟨_,rfl,grown_trans b hg3,hO.weak b.size⟩
theorem eqRows_ok (v1 z:Value) (A B:List (List Int)) (w:World) (H I:Nat->Prop) (h1:Rows2 H w v1 A) (C:Rows2 I w z B) :
  Calls Tryz.prog 287 #[v1,z,.func (.func 151) #[] #[]] w (Ret w λ_ v=>v=.bool (eqB A B)):=by
 obtain⟨a1,cap1,rfl,_,_⟩:=Sl.shape h1;obtain⟨a2,cap2,rfl,_,_⟩:=Sl.shape C;by_cases a:A.length=B.length
 ·have D:=Lib.hid a
  have b:((A.length:Int) != (B.length:Int))=false:=by simp[a]
  clear a;go_enter Tryz.func287,Tryz.ntmps287;go_wp2;go_loopw [17] (λn wr=>∃k:Nat,n=.int .i64 k/\k<=A.length/\Ext w wr/\Hid (∀j,j<k->gt A j=gt B j)) (λn _=>A.length-(intOf n).toNat)
  case atStart=>exact⟨0,rfl,by omega,Ext.refl _,Lib.hid (λj h=>by omega)⟩
  case round=>
   obtain⟨k,rfl,hk,g,hE⟩:=hrel;clear b;by_cases p:k<A.length
   ·have E:(k:Int)<A.length:=by omega
    have F:(k:Int)<B.length:=by have:=D.out;omega
    obtain⟨b1,o1,c1,d1,rfl,_,_,hc1,q⟩:=Rows2.at (Rows2.ext h1 g) k p;obtain⟨b2,o2,c2,d2,rfl,_,_,hc2,r⟩:=Rows2.at (Rows2.ext C g) k (by omega);have J:(0:Int)<=k:=by omega
    go_wp2_with fail
    refine Calls.mono (sEqual_ok _ _ (gt A k) (gt B k) wr _ _ q r) ?_;rintro L M ⟨N,rfl,l7,rfl⟩;clear hc1 hc2;cases m:eqB (gt A k) (gt B k) with
    | true=>
     have u:=Lib.hid m;clear m;go_wp2;go_roundw
     case rel=>exact⟨k+1,by go_num,by omega,grown_trans g l7,Lib.hid (λj K=>by
      rcases Nat.lt_succ_iff_lt_or_eq.1 K with h|h
      ·exact hE.out j h
      ·rw[h];exact eqB_true.1 u.out)⟩
     case measure=>simp[intOf];omega
    | false=>
     have G:=eqB_false_at (eqB_false.1 m);have u:=Lib.hid G;clear m G;go_wp2;go_ret;exact⟨_,rfl,grown_trans g l7,by rw[u.out];rfl⟩
   ·have l:eqB A B=true:=eqB_true.2 (ext_gt D.out (λi O=>hE.out i (by omega)))
    have y:=Lib.hid l;clear l;go_wp2;go_ret;exact⟨_,rfl,g,by rw[y.out];rfl⟩
 ·have l:eqB A B=false:=eqB_false.2 (λe=>a (by rw[e]))
  have y:=Lib.hid l;clear l;have b:((A.length:Int) != (B.length:Int))=true:=by simp;omega
  clear a;go_enter Tryz.func287,Tryz.ntmps287;go_wp2;go_ret;exact⟨_,rfl,Ext.refl _,by rw[y.out];rfl⟩
theorem sameRows_ok (v1 b:Value) (A B:List (List Int)) (w:World) (e g:Nat->Prop) (h1:Rows2 e w v1 A) (i:Rows2 g w b B) :
  Calls Tryz.prog 221 #[v1,b] w (Ret w λ_ v=>v=.bool (eqB A B)):=by
 have a:=eqRows_ok v1 b A B w e g h1 i;obtain⟨a1,cap1,rfl,_,_⟩:=Sl.shape h1;obtain⟨a2,cap2,rfl,_,_⟩:=Sl.shape i;go_enter Tryz.func221,Tryz.ntmps221;go_wp2_with fail
 refine Calls.mono a ?_;rintro j k ⟨v,rfl,hg,rfl⟩;clear a;go_wp2;go_ret;exact⟨_,rfl,hg,rfl⟩
def SubB (P:Pr) (u:List (List Int)):Prop:=(∀x∈u,Vec P.orders x)/\u=cseq P (genP P (λx=>x∈u))
theorem Grp.cseq_len {P:Pr}(G:Grp P) {H:List Int->Prop}(S:Sub P H):(cseq P H).length<=P.orders.length:=by
 obtain⟨r,_,h⟩:=G.cseq_spec S;rw[h,sq_all];exact sq_len _ _ _
theorem Grp.sub_len {P:Pr}(G:Grp P) {u:List (List Int)}(h:SubB P u):u.length<=P.orders.length:=by
 rw[h.2];exact G.cseq_len (G.genP_sub h.1)
theorem areSubgroups_ok (P:Pr) (w:World) (p lv:Value) (q:List (List (List Int))) (O R:Nat->Prop) (Q:PresP O w p P) (g:Rows3 R w lv q) :
  Calls Tryz.prog 112 #[p,lv] w (Ret w λ_ v=>∃r:Bool,v=.bool r/\(r=true↔rconsB P=true/\∀u∈q,SubB P u)):=by
 obtain⟨pb,po,rfl⟩:=Q.shape;obtain⟨al,capl,rfl,_,_⟩:=Sl.shape g;obtain⟨vo,vp,vc,_,_,hc0,hc1,hc2,h3⟩:=Q.at;obtain⟨ao,F,rfl,_,_⟩:=h3.o.shape;obtain⟨ap,capp,rfl,_,_⟩:=Sl.shape h3.p;obtain⟨ac,capc,rfl,_,_⟩:=Sl.shape h3.c;have k:=isConsistent_ok P w (.agg #[.slice ao P.orders.length F,.slice ap P.powers.length capp,.slice ac P.conj.length capc]) O ⟨_,_,_,rfl,h3⟩;rw[icons_eq] at k;go_enter Tryz.func112,Tryz.ntmps112;go_wp2_with fail
 refine Calls.mono k ?_;rintro e1 w1 ⟨v,rfl,hg1,rfl⟩;clear k;cases hq:rconsB P with
 | false=>
  have S:=Lib.hid hq;clear hq;go_wp2;go_ret;exact⟨_,rfl,hg1,false,rfl,by simp only[Bool.false_eq_true,false_iff];rintro⟨h,_⟩;rw[S.out] at h;cases h⟩
 | true =>
  have G:=grp_of_r hq;have ai:=G.v.n6;have S:=Lib.hid hq;clear hq hc1 hc2;go_wp2;go_loopw [16] (λT wr=>∃i:Nat,T=.int .i64 i/\i<=q.length/\Ext w wr/\Hid (∀j,j<i->SubB P (gt q j))) (λT _=>q.length-(intOf T).toNat)
  case atStart=>exact⟨0,rfl,by omega,hg1,Lib.hid (λj h=>by omega)⟩
  case round=>
   obtain⟨i,rfl,hi,a,hS⟩:=hrel;by_cases y:i<q.length
   ·have ae:(i:Int)<q.length:=by omega
    obtain⟨b,off,a2,cap2,rfl,_,_,H,E⟩:=Rows3.at g i y;obtain⟨U,V⟩:∃U,U=gt q i:=⟨_,rfl⟩;rw[<-V] at H E;have z:=Lib.hid V;clear V;have I:=a.cell hc0 (by simp);have J:=a.cell H (by simp);by_cases B:U.length<=P.orders.length
    ·have K:¬(P.orders.length:Int)<U.length:=by omega
     go_wp2;clear J I K;go_loopw [30] (λW wr=>∃j:Nat,W=.int .i64 j/\j<=U.length/\Ext w wr/\Hid (∀l,l<j->Vec P.orders (gt U l))) (λW _=>U.length-(intOf W).toNat)
     case atStart=>exact⟨0,rfl,by omega,a,Lib.hid (λj h=>by omega)⟩
     case round=>
      clear a;obtain⟨j,rfl,hj,a,hV⟩:=hrel;by_cases L:j<U.length
      ·have af:(j:Int)<U.length:=by omega
       obtain⟨b3,wJ,a3,Cr,rfl,_,_,hc3,X⟩:=Rows2.at (Rows2.ext E a) j L;have e:=isExponents_ok wr _ _ P (gt U j) O R (Q.ext a) X (λi hi=>by have:=G.v.ord7 i hi;omega);cases m:expB P.orders (gt U j) with
       | true=>
        rw[m] at e;have A:=Lib.hid (expB_vec.1 m);clear m;go_wp2_with fail
        refine Calls.mono e ?_;rintro eE wE ⟨rfl,rfl⟩;clear e;go_wp2;go_roundw
        case rel=>exact⟨j+1,by go_num,by omega,a,Lib.hid (λl g=>by
         rcases Nat.lt_succ_iff_lt_or_eq.1 g with h|h
         ·exact hV.out l h
         ·rw[h];exact A.out)⟩
        case measure=>simp[intOf];omega
       | false=>
        rw[m] at e
        have n:¬SubB P U:=λh=>by
         have:=expB_vec.2 (h.1 _ (gtMem L));rw[m] at this;cases this
        have A:=Lib.hid n;clear m n;go_wp2_with fail
        refine Calls.mono e ?_;rintro eE wE ⟨rfl,rfl⟩;clear e;go_wp2;go_ret
        exact ⟨_,rfl,a,false,rfl,by
         simp only[Bool.false_eq_true,false_iff];rintro⟨_,h⟩;exact A.out (by rw[z.out];exact h _ (gtMem y))⟩
      ·have Y:j=U.length:=by omega
       subst Y
       have C:∀x∈U,Vec P.orders x:=λx hx=>by
        obtain⟨l,g,rfl⟩:=List.getElem_of_mem hx;rw[<-gt_eq U l g];exact hV.out l g
       have am:(cseq P (genP P (λx=>x∈U))).length<=P.orders.length:=G.cseq_len (G.genP_sub C);have M:=Lib.hid C;clear C;go_wp2_with fail
       refine Calls.mono (generated_ok P G wr _ _ U O R (Q.ext a) (Rows2.ext E a) M.out (by omega)) ?_;rintro eG wG ⟨vG,rfl,mZ,Z⟩;have D:=grown_trans a mZ;have N:=RowsD.rows (Z.toD (by omega));obtain⟨aG,capG,rP,_,_⟩:=Sl.shape N;subst rP;go_wp2_with fail
       refine Calls.mono (sameRows_ok _ _ _ U wG _ _ N (Rows2.ext E D)) ?_;rintro eS wS ⟨vS,rfl,gu,rfl⟩;cases m:eqB (cseq P (genP P (λx=>x∈U))) U with
       | true=>
        have A:=Lib.hid (eqB_true.1 m);clear m;go_wp2;go_roundw
        case rel=>exact⟨i+1,by go_num,by omega,grown_trans D gu,Lib.hid (λl g=>by
         rcases Nat.lt_succ_iff_lt_or_eq.1 g with h|h
         ·exact hS.out l h
         ·rw[h,<-z.out];exact⟨M.out,A.out.symm⟩)⟩
        case measure=>simp[intOf];omega
       | false=>
        have A:=Lib.hid (eqB_false.1 m);clear m;go_wp2;go_ret
        exact ⟨_,rfl,grown_trans D gu,false,rfl,by
         simp only[Bool.false_eq_true,false_iff];rintro⟨_,h⟩;have:=h _ (gtMem y);rw[<-z.out] at this;exact A.out this.2.symm⟩
    ·have K:(P.orders.length:Int)<U.length:=by omega
     have n:¬SubB P U:=λh=>B (G.sub_len h);have A:=Lib.hid n;clear n B;go_wp2;go_ret
     exact ⟨_,rfl,a,false,rfl,by
      simp only[Bool.false_eq_true,false_iff];rintro⟨_,h⟩;exact A.out (by rw[z.out];exact h _ (gtMem y))⟩
   ·have aa:i=q.length:=by omega
    subst aa;go_wp2;go_ret
    exact ⟨_,rfl,a,true,rfl,by
     simp only[true_iff]
     exact ⟨S.out,λu E=>by
      obtain⟨l,g,rfl⟩:=List.getElem_of_mem E;rw[<-gt_eq q l g];exact hS.out l g⟩⟩
end Go.Proofs.YtdcobapnlpeaaaaGreat
namespace Go.Proofs.YtdcobapnlpeaaaaGreat
theorem pwZ_nat (P:Pr) (x:List Int) (k:Int) (hk:0<=k):pwZ P x k=pw P x k.toNat:=by
 unfold pwZ;rw[if_neg (by omega)]
def tabTo (U:List (List Int)) (n:Nat):Nat->List (List Int)
 | 0=>List.replicate n []
 | k+1=>(tabTo U n k).set (dep (gt U k)) (gt U k)
theorem tabTo_len (U:List (List Int)) (n k:Nat):(tabTo U n k).length=n:=by
 induction k with
 | zero=>simp[tabTo]
 | succ k a=>simp only[tabTo,List.length_set];exact a
theorem tabTo_at (P:Pr) (U:List (List Int)):∀k,k<=U.length->∀d,d<P.orders.length ->
  (gt (tabTo U P.orders.length k) d=[]/\∀j,j<k->dep (gt U j)≠d)\/∃j,j<k/\dep (gt U j)=d/\gt (tabTo U P.orders.length k) d=gt U j:=by
 intro k;induction k with
 | zero=>intro _ d b;exact .inl ⟨by simp[tabTo,gt,b],λj a=>by omega⟩
 | succ k e=>
  intro hk d b;have g:=tabTo_len U P.orders.length k;simp only[tabTo];by_cases h:dep (gt U k)=d
  ·right
   exact⟨k,by omega,h,by rw[h,gt_set_eq _ _ _ (by omega)]⟩
  ·rw [gt_set_ne _ _ _ _ h]
   rcases e (by omega) d b with⟨h1,h2⟩|⟨j,h1,h2,h3⟩
   ·left
    refine⟨h1,λj a => ?_⟩;rcases Nat.lt_succ_iff_lt_or_eq.1 a with a|a
    ·exact h2 j a
    ·rw[a];exact h
   ·right
    exact⟨j,by omega,h2,h3⟩
theorem tabTo_vec {P:Pr}{U:List (List Int)}(e:SeqOk P U) (d:Nat) (g:d<P.orders.length) (b:gt (tabTo U P.orders.length U.length) d≠[]) :
  T P d (gt (tabTo U P.orders.length U.length) d)/\gt (gt (tabTo U P.orders.length U.length) d) d=1:=by
 rcases tabTo_at P U U.length (Nat.le_refl _) d g with⟨h,_⟩|⟨j,i,hjd,k⟩
 ·exact absurd h b
 ·obtain ⟨a,_,c⟩:=e.1 _ (gtMem i)
  rw[k,<-hjd];exact⟨dep_T a,c⟩
structure RedTo (P:Pr) (H:List Int->Prop) (b:List (List Int)) (X:List Int) (d:Nat) (Y:List Int):Prop where
 vec:Vec P.orders Y
 cos:H (rMul P (rInv P X) Y)
 zer:∀e,e<d->gt b e≠[]->gt Y e=0
structure StripTo (P:Pr) (b:List (List Int)) (X:List Int) (d:Nat) (Y:List Int):Prop where
 vec:T P d Y
 inv:∀Q q R,AddInv P Q (gt b) (X :: q) R->∃R',AddInv P Q (gt b) (Y :: q) R'
structure FullTo (P:Pr) (r:Nat->List Int) (m:Nat) (X:List Int) (e:Nat) (Y:List Int):Prop where
 vec:Vec P.orders Y
 zer:∀i,m<=i->i<e->r i≠[]->gt Y i=0
 cos:∀K,Sub P K->(∀i,m<=i->i<P.orders.length->r i≠[]->K (r i))->K (rMul P (rInv P X) Y)
 old:∀k,(∀i,m<=i->i<P.orders.length->r i≠[]->k<i)->gt Y k=gt X k
def comsR (P:Pr) (b:List (List Int)) (z:List Int):Nat->List (List Int)
 | 0=>[]
 | k+1=>comsR P b z k++(if gt b k=[] then [] else [comR P z (gt b k)])
theorem comsR_len (P:Pr) (b:List (List Int)) (z:List Int) (k:Nat):(comsR P b z k).length<=k:=by
 induction k with
 | zero=>exact Nat.le_refl _
 | succ k a=>simp only[comsR];split<;>simp<;>omega
theorem mem_comsR {P:Pr}{b:List (List Int)}{z x:List Int}{k:Nat} : x∈comsR P b z k↔∃e,e<k/\gt b e≠[]/\x=comR P z (gt b e):=by
 induction k with
 | zero=>simp[comsR]
 | succ k i=>
  simp only[comsR,List.mem_append,i];constructor
  ·rintro (⟨e,h1,a,g⟩|h)
   ·exact⟨e,by omega,a,g⟩
   ·split at h
    ·simp at h
    ·rename_i hk
     simp at h
     exact⟨k,by omega,hk,h⟩
  ·rintro ⟨e,h1,a,g⟩
   rcases Nat.lt_succ_iff_lt_or_eq.1 h1 with h|h
   ·exact .inl ⟨e,h,a,g⟩
   ·subst h;right;rw[if_neg a];simp[g]
section
variable {P:Pr}(G:Grp P)
include G
theorem Grp.ind_tab {H:List Int->Prop}(S:Sub P H):Ind P H (gt (tabTo (cseq P H) P.orders.length (cseq P H).length)):=by
 obtain⟨h1,h2,h3⟩:=G.seq_facts S;refine⟨S,λd a b => ?_,λx hx d a k l => ?_⟩
 ·refine ⟨?_,tabTo_vec h1 d a b⟩
  rcases tabTo_at P _ _ (Nat.le_refl _) d a with⟨h,_⟩|⟨j,e,_,g⟩
  ·exact absurd h b
  ·rw[g];exact h2 _ (gtMem e)
 ·obtain ⟨j,e,hjd⟩:=h3 x hx d a k l
  rcases tabTo_at P _ _ (Nat.le_refl _) d a with⟨_,h⟩|⟨i,m,_,g⟩
  ·exact absurd hjd (h j e)
  ·rw [g]
   intro n;have:=(h1.1 _ (gtMem m)).1.1;rw[n] at this;simp at this;omega
theorem Grp.redTo_zero {H:List Int->Prop}{b:List (List Int)}(S:Sub P H) {X:List Int}(a:Vec P.orders X):RedTo P H b X 0 X:=
 ⟨a,by rw[G.inv_mul a];exact S.one,λe g=>by omega⟩
omit G in
theorem RedTo.skip {H:List Int->Prop}{b:List (List Int)}{X Y:List Int}{d:Nat}(h:RedTo P H b X d Y) (g:gt b d=[]\/gt Y d=0):RedTo P H b X (d+1) Y:=
 ⟨h.vec,h.cos,λe i a=>by
  rcases Nat.lt_succ_iff_lt_or_eq.1 i with h1|h1
  ·exact h.zer e h1 a
  ·subst h1;exact g.elim (λh=>absurd h a) id⟩
theorem Grp.redTo_step {H:List Int->Prop}{b:List (List Int)}(I:Ind P H (gt b)) {X Y:List Int}{d:Nat}(k:Vec P.orders X) (i:d<P.orders.length) (l:gt b d≠[]) (h:RedTo P H b X d Y) :
  RedTo P H b X (d+1) (rMul P Y (pwZ P (gt b d) (-(gt Y d)))):=by
 obtain⟨m,j,m3⟩:=I.mem d i l;have a:=G.right_clear i h.vec j m3;refine⟨a.2.2,?_,λe n g => ?_⟩
 ·rw [<-G.ass (G.invV k) h.vec (G.pwZ_vec j.1 _)]
  exact I.sub.mul _ _ h.cos (I.sub.pwZ m _)
 ·rcases Nat.lt_succ_iff_lt_or_eq.1 n with h1|h1
  ·rw[a.2.1 e h1];exact h.zer e h1 g
  ·subst h1;exact a.1
omit G in
theorem RedTo.rep {H:List Int->Prop}{b:List (List Int)}{X Y:List Int}(h:RedTo P H b X P.orders.length Y):Rep P H (gt b) X Y:=⟨h.vec,h.cos,h.zer⟩
theorem Grp.rep_mem {H:List Int->Prop}{b:Nat->List Int}(I:Ind P H b) {X Y:List Int}(a:Vec P.orders X) (h:Rep P H b X Y):Y=zeros P.orders.length↔H X:=by
 have g:=G.invV a;constructor
 ·intro i
  have h1:=h.2.1;rw[i,G.grp.er _ g] at h1;have:=I.sub.inv _ h1;rwa [G.inv_inv a] at this
 ·intro hx
  refine G.rep_one I a h ⟨G.oneV,?_,λe _ _=>gt_replicate _ _⟩;rw[G.grp.er _ g];exact I.sub.inv _ hx
omit G in
theorem stripTo_zero {b:List (List Int)}{X:List Int}(a:Vec P.orders X):StripTo P b X 0 X:=⟨T_zero.2 a,λ_ _ R A=>⟨R,A⟩⟩
omit G in
theorem StripTo.skip {b:List (List Int)}{X Y:List Int}{d:Nat}(h:StripTo P b X d Y) (a:gt Y d=0):StripTo P b X (d+1) Y:=⟨h.vec.up a,h.inv⟩
theorem Grp.stripTo_step {b:List (List Int)}{X Y:List Int}{d:Nat}(j:d<P.orders.length) (m:gt b d≠[]) (a:T P d (gt b d)/\gt (gt b d) d=1) (n:gt Y d≠0) (h:StripTo P b X d Y) :
  StripTo P b X (d+1) (rMul P Y (pwZ P (gt b d) (-(gt Y d)))):=by
 have e:=G.right_clear j h.vec.1 a.1 a.2;have l:T P (d+1) (rMul P Y (pwZ P (gt b d) (-(gt Y d)))):=T.up ⟨e.2.2,λk hk=>by rw[e.2.1 k hk];exact h.vec.2 k hk⟩ e.1;have g:=G.pwZ_vec a.1.1 (-(gt Y d));refine⟨l,λQ q R A => ?_⟩;obtain⟨r,A1⟩:=h.inv Q q R A;refine⟨_,addInv_sift A1 j h.vec n m l (λK S h1 i => ?_) (λK S h1 i=>S.mul _ _ i (S.pwZ h1 _))⟩;have p:=S.mul _ _ i (S.inv _ (S.pwZ h1 (-(gt Y d))));rwa [G.ass h.vec.1 g (G.invV g),G.mul_inv g,G.grp.er _ h.vec.1] at p
theorem Grp.close_step {Q:List Int->Prop}{b q q':List (List Int)}{R:List Int->Prop}{y:List Int}(A:AddInv P Q (gt b) (y :: q) R) {d:Nat}(l:d<P.orders.length) (m:T P d y) (r:gt b d=[]) (n:b.length=P.orders.length)
  (k:Int) (g:0<=k) (hk:(k*gt y d)%gt P.orders d=1) (a:∀x,x∈q'↔x∈q\/x=y\/x=pw P (pw P y k.toNat) (gt P.orders d).toNat\/x∈comsR P b (pw P y k.toNat) P.orders.length) :
  ∃R',AddInv P Q (gt (b.set d (pw P y k.toNat))) q' R':=by
 obtain⟨u,hz1⟩:=G.lead_one l m k g hk;refine⟨_,G.addInv_insert A l m r u hz1 (λK S h=>S.pw h _) (λe p => ?_) (λx hx => ?_) (λx hx => ?_) (λe p i => .inr ?_)⟩
 ·by_cases h:e=d
  ·subst h;rw[if_pos rfl,gt_set_eq _ _ _ (by omega)]
  ·rw[if_neg h,gt_set_ne _ _ _ _ (λj=>h j.symm)]
 ·rcases (a x).1 hx with h|h|h|h
  ·exact .inl h
  ·exact .inr (.inl h)
  ·exact .inr (.inr (.inr (.inl h)))
  ·obtain ⟨e,h1,j,h3⟩:=mem_comsR.1 h
   exact .inr (.inr (.inr (.inr ⟨e,h1,j,.inr h3⟩)))
 ·rw [a]
  rcases hx with h|h|h
  ·exact .inl h
  ·exact .inr (.inl h)
  ·exact .inr (.inr (.inl h))
 ·rw [a]
  exact .inr (.inr (.inr (mem_comsR.2 ⟨e,p,i,rfl⟩)))
theorem Grp.fullTo_zero {r:Nat->List Int}{m:Nat}{X:List Int}(a:Vec P.orders X):FullTo P r m X m X:=
 ⟨a,λi h1 b=>by omega,λK S _=>by rw[G.inv_mul a];exact S.one,λ_ _=>rfl⟩
omit G in
theorem FullTo.skip {r:Nat->List Int}{m e:Nat}{X Y:List Int}(h:FullTo P r m X e Y) (g:r e=[]\/gt Y e=0):FullTo P r m X (e+1) Y:=
 ⟨h.vec,λi h1 j b=>by
  rcases Nat.lt_succ_iff_lt_or_eq.1 j with a|a
  ·exact h.zer i h1 a b
  ·subst a;exact g.elim (λh=>absurd h b) id,h.cos,h.old⟩
theorem Grp.fullTo_step {r:Nat->List Int}{m e:Nat}{X Y:List Int}(u:Vec P.orders X) (a:m<=e) (j:e<P.orders.length) (p:r e≠[]) (l:T P e (r e)/\gt (r e) e=1) (h:FullTo P r m X e Y) :
  FullTo P r m X (e+1) (rMul P Y (pwZ P (r e) (-(gt Y e)))):=by
 have b:=G.right_clear j h.vec l.1 l.2;refine⟨b.2.2,λi h1 v n => ?_,λK S q => ?_,λk hk=>by rw[b.2.1 k (hk e a j p)];exact h.old k hk⟩
 ·rcases Nat.lt_succ_iff_lt_or_eq.1 v with g|g
  ·rw[b.2.1 i g];exact h.zer i h1 g n
  ·subst g;exact b.1
 ·rw [<-G.ass (G.invV u) h.vec (G.pwZ_vec l.1.1 _)]
  exact S.mul _ _ (h.cos K S q) (S.pwZ (q e a j p) _)
omit G in
theorem FullTo.repTo {H:List Int->Prop}{b r:Nat->List Int}{d k:Nat}{X Y:List Int}(h:FullTo P r (d+1) X P.orders.length Y) (C:CanInv P H b r (d+1)) (hk:d+1+k=P.orders.length) :
  RepTo P (sq r k (d+1)) X (sq r k (d+1)).length Y:=by
 refine ⟨h.vec,λj g => ?_,λK S m=>h.cos K S (λi h1 l a=>m _ (mem_sq.2 ⟨i,h1,by omega,a,rfl⟩)),λj g=>h.old j (λi h1 l a=>by
  have:=g _ (mem_sq.2 ⟨i,h1,by omega,a,rfl⟩);rwa [C.dep h1 l a] at this)⟩
 obtain⟨e,h1,l,a,n⟩:=mem_sq.1 (gtMem g);rw[n,C.dep h1 (by omega) a];exact h.zer e h1 (by omega) a
end
end Go.Proofs.YtdcobapnlpeaaaaGreat
namespace Go.Proofs.YtdcobapnlpeaaaaGreat
open Go.RowKit
theorem Grp.rRep_pw {P:Pr}(G:Grp P) {X:List Int}(a:Vec P.orders X) (k:Nat):rRep (rAt P P.orders.length 0) (zeros P.orders.length) X k=pw P X k:=
 G.lvl.rRep_eq (T_zero.2 a) k
theorem l10Pow_ok (P:Pr) (G:Grp P) (w:World) (pv x:Value) (X:List Int) (k:Int) (D B:Nat->Prop) (E:PresV D w pv P) (hx:Ints B w x X) (z:Vec P.orders X) (hk : -1000000000<=k/\k<=1000000000) :
  Calls Tryz.prog 106 #[pv,x,.int .i64 k] w (Ret w λw' v=>Own w.heap.size w' v (pwZ P X k)):=by
 have hP:=G.v;have F:=hP.n6;obtain⟨vo,vp,vc,rfl,h3⟩:=E;have j:=PresP.box h3 28;have b:Ext w (w.alloc (.cells #[vo,vp,vc] 28)):=World.grownBy_alloc _ _ _;have l:=hx.ext b;have m:(w.alloc (.cells #[vo,vp,vc] 28)).heap.size=w.heap.size+1:=by simp
 have C:=Lib.hid m;clear m hx;have n:X.length=P.orders.length:=z.1;have y:=Lib.hid (And.intro z n);clear z n;by_cases a:k<0
 ·have p:pwZ P X k=pw P (rInv P X) (-k).toNat:=by unfold pwZ;rw[if_pos a]
  have e:=G.invV y.out.1;have H:(rInv P X).length<=6:=by rw[e.1];omega
  have q:=Lib.hid (And.intro p e);clear p e;have I:IntKind.i64.wrap (-k) = -k:=IntWalk.i64_in _ (by omega);go_enter Tryz.func106,Tryz.ntmps106;go_wp2;generalize A:w.alloc (.cells #[vo,vp,vc] 28)=w0 at *;clear A;obtain⟨r,dI,dG,_,_,hc0,g,i,dy⟩:=j.at;have J:∀w',Ext w0 w'->w'.cell? ⟨w.heap.size,0,none⟩=some r:=λw' h=>h.cell hc0 (by simp);have K:∀w',Ext w0 w'->w'.cell? ⟨w.heap.size,1,none⟩=some dI:=λw' h=>h.cell (by simpa using g) (by simp);have L:∀w',Ext w0 w'->w'.cell? ⟨w.heap.size,2,none⟩=some dG:=λw' h=>h.cell (by simpa using i) (by simp);clear hc0 g i
  go_region_held3 (λw'=>Ext w0 w') (first|exact grown_drew _ _|assumption)
   (first
    | (go_at_call 211;refine Calls.mono (Calls.rel (w0:=w0) (by assumption) (l10Inv_ok P hP _ _ _ _ Any Any ⟨_,_,_,rfl,Pres3.ext dy (by assumption)⟩ (Ints.sub (Ints.ext l (by assumption)) (λ_ _ _=>trivial)) y.out.1)) ?_;rintro Q R ⟨S,rfl,dR,eW,gw⟩;have u:=gw.ints (by omega))
    | (go_at_call 210;refine Calls.mono (Calls.rel (w0:=w0) (by assumption) (l08Repeat_ok P hP _ _ _ 0 P.orders.length (by omega) _ (-k) Any Any ⟨_,_,_,rfl,Pres3.ext dy (by assumption)⟩ u q.out.2 (by omega) (by omega))) ?_;rintro M N ⟨O,rfl,hgB,hsB,gX⟩))
  clear J K L;rw[G.rRep_pw q.out.2,<-q.out.1] at gX;go_wp2;go_ret;exact⟨_,rfl,grown_trans b hgB,gX.weak (by have:=C.out;omega)⟩
 ·have p:pwZ P X k=pw P X k.toNat:=by unfold pwZ;rw[if_neg a]
  have q:=Lib.hid p;clear p;obtain⟨r,dI,dG,_,_,hc0,g,i,dy⟩:=j.at;go_enter Tryz.func106,Tryz.ntmps106;go_wp2_with fail
  refine Calls.mono (l08Repeat_ok P hP _ _ _ 0 P.orders.length (by omega) X k Any B ⟨_,_,_,rfl,dy⟩ l y.out.1 (by omega) (by omega)) ?_;rintro M N ⟨O,rfl,hgB,gX⟩;rw[G.rRep_pw y.out.1,<-q.out] at gX;go_wp2;go_ret;exact⟨_,rfl,grown_trans b hgB,gX.weak (by have:=C.out;omega)⟩
end Go.Proofs.YtdcobapnlpeaaaaGreat
