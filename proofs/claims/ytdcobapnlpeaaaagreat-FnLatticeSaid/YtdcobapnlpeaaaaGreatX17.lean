/- Merged from templates. -/
import Derived.Test.YtdcobapnlpeaaaaGreatX16
import Derived.Carry
import Derived.Deep.Slices
import Derived.ChangeSame
import Derived.ChangeSlices
import Derived.JoinedOf
import Derived.JoinedAt
import Derived.JoinedCond
import Derived.ReadAgain
set_option maxRecDepth 100000
set_option maxHeartbeats 8000000
namespace Go.Proofs.YtdcobapnlpeaaaaGreat
open Go.RowKit
open Classical in
noncomputable def jO (P:Pr):rU:=if fk P=0/\∃L,LatL P L then dL P (j5 P) (j5 P).length else ⟨[],[],[]⟩
noncomputable def fJ (P:Pr):List (List (List Int)):=(jO P).firsts
noncomputable def gh (P:Pr):List Int:=dy (jO P).sizes
theorem kU {P:Pr}{L:List (List (List Int))}(h:fk P=0) (a:LatL P L):fJ P=(dL P L L.length).firsts/\gh P=dy (dL P L L.length).sizes:=by
 have e:jO P=dL P L L.length:=by unfold jO;rw[if_pos ⟨h,L,a⟩,oV a]
 unfold fJ gh;rw[e];exact⟨rfl,rfl⟩
theorem sV {P:Pr}(h:fk P≠0):fJ P=[]/\gh P=[]:=by
 have e:jO P=⟨[],[],[]⟩:=by unfold jO;rw[if_neg (λa=>h a.1)]
 unfold fJ gh;rw[e];exact⟨rfl,rfl⟩
theorem pL (P:Pr):(fJ P).length<=17408/\(gh P).length=(fJ P).length/\∀u∈fJ P,u.length<=6/\∀x∈u,x.length<=6:=by
 by_cases h:fk P=0/\∃L,LatL P L
 ·obtain ⟨a,L,b⟩:=h
  have G:=grp_of_r (gB a).1;rw[(kU a b).1,(kU a b).2];have h1:=j7 P L L.length;have i:=G.j6 (gB a).2 b;exact⟨by omega,by rw[fE];omega,λu g=>G.oW b u (lQ P (Nat.le_refl _) u g)⟩
 ·have e:jO P=⟨[],[],[]⟩:=by unfold jO;rw[if_neg h]
  unfold fJ gh;rw[e];simp[dy]
theorem Aa (P:Pr):(fJ P).length<=17408:=(pL P).1
theorem Ab (P:Pr):(gh P).length<=17408:=by have:=pL P;omega
theorem SlOA.weak {α:Type} [Inhabited α] {El:(Nat->Prop)->World->Value->α->Prop}{E B B':Nat}{A:Nat->Prop}{w:World}{v:Value}{xs:List α}(h:SlOA El E B A w v xs) (e:B'<=B):SlOA El E B' A w v xs:=by
 obtain⟨g,G,h1,h2,h3,h4,h5,h6,h7⟩:=h;exact⟨g,G,h1,h2.weak e,λi k j hk=>by obtain⟨a,b,c⟩:=h3 i k j hk;exact⟨by omega,b,c⟩,h4,h5,h6,h7⟩
theorem SlOA.nil' {α:Type} [Inhabited α] (El:(Nat->Prop)->World->Value->α->Prop) (E B:Nat) (A:Nat->Prop) (w:World):SlOA El E B A w (.slice none 0 0) ([]:List α):=
 ⟨[],λ_ _=>False,rfl,World.ownsRow_nil _ _ _ _,by simp,by simp,by simp,by simp,by simp[Value.ownBlock]⟩
theorem SlOA.toD {α:Type} [Inhabited α] {El:(Nat->Prop)->World->Value->α->Prop}{E B:Nat}{A:Nat->Prop}{w:World}{v:Value}{xs:List α}(h:SlOA El E B A w v xs) (j:xs.length<=9223372036854775807):SlD El (λk=>B<=k/\¬A k) w v xs:=by
 obtain⟨l,G,b,hO,e,hd,hE,hr,hr2⟩:=h;refine⟨G,λk=>(B<=k/\¬A k)/\v.ownBlock=some k,λk hk=>hk.1,λi k a hk=>⟨⟨(e i k a hk).1,hr i k a hk⟩,λh=>(e i k a hk).2.1 h.2⟩,hd,?_⟩;rcases hO.form with⟨rfl,rfl⟩|⟨g,cap,rfl,hnc,jh,hgs⟩
 ·have:xs.length=0:=by simpa using b.symm
  exact⟨none,0,by rw[this],⟨by omega,by omega,λ_=>rfl⟩,λi a=>by omega⟩
 ·refine ⟨_,cap,by rw[b],⟨by omega,j,λh=>by cases h⟩,λi a=>⟨g,0,gt l i,rfl,⟨⟨jh,hr2 g rfl⟩,rfl⟩,hgs,?_,hE i a⟩⟩
  rw[Nat.zero_add];exact hO.cell i (by omega)
theorem Ac (P:Pr) (w:World) (pv:Value) (M:Nat->Prop) (B:PresV M w pv P) :
  Calls Tryz.prog 86 #[pv] w (Ret w λw' v=>∃a n c p q r,v=.tuple #[.slice a n c,.slice p q r,.int .i64 (fk P)] /\
   SlOA (λF w u (x:List (List Int))=>RowsD F w u x) 25 w.heap.size (λb=>(Value.slice p q r).ownBlock=some b) w' (.slice a n c) (fJ P)/\Own w.heap.size w' (.slice p q r) (gh P)):=by
 obtain⟨vo,vp,vc,rfl,h3⟩:=B;have y:=PresP.box h3 28;have z:Ext w (w.alloc (.cells #[vo,vp,vc] 28)):=World.grownBy_alloc _ _ _;have j:=pK P _ _ Any y;go_enter Tryz.func86,Tryz.ntmps86;go_wp2_with fail
 generalize C:w.alloc (.cells #[vo,vp,vc] 28)=w0 at *;clear C;refine Calls.mono j ?_;rintro R N ⟨v1,rfl,l,lp,rfl,hno,hyes⟩;clear j;have g:=grown_trans z l;by_cases i:fk P=0
 ·obtain ⟨lb,L,rfl,hL,hA⟩:=hyes i
  obtain⟨O,lv,mv,hX,hO,hM⟩:=hA;have G:=grp_of_r (gB i).1;have D:=(gB i).2;have e:=kU i hL;have A:=y9 P G D L hL N w0.heap.size lb _ lv mv Any hX (y.ext l) hO l.size;obtain⟨c,k⟩:∃c,c=fk P:=⟨_,rfl⟩;have E:c=0:=by rw[k];exact i
  rw[<-k];have m:=Lib.hid (And.intro k e);clear k e hO hL hM hno hyes i hX;subst E;go_wp2_with fail
  refine Calls.mono A ?_;rintro S T ⟨U,rfl,hg2,a,n,c,p,q,r,rfl,H,I⟩;clear A;rw[<-m.out.2.1] at H;rw[<-m.out.2.2] at I;have K:=Lib.hid (And.intro (H.weak z.size) (I.weak g.size));clear H I;go_wp2;refine bodyPost_ret (v := .tuple #[.slice a n c,.slice p q r,.int .i64 0]) (by simp[results,Tryz.results86,go_sem]) rfl ?_;exact⟨_,rfl,grown_trans g hg2,_,_,_,_,_,_,by rw[<-m.out.1],K.out.1,K.out.2⟩
 ·have J:=hno i
  subst J;have e:=sV i;obtain⟨c,k⟩:∃c,c=fk P:=⟨_,rfl⟩;rw[<-k] at i ⊢;have Q:(c != 0)=true:=by simpa using i
  have m:=Lib.hid (And.intro k e);clear k e hno hyes;go_wp2;refine bodyPost_ret (v := .tuple #[.slice none 0 0,.slice none 0 0,.int .i64 c]) (by simp[results,Tryz.results86,go_sem]) rfl ?_;exact⟨_,rfl,g,none,0,0,none,0,0,by rw[<-m.out.1],by rw[m.out.2.1];exact SlOA.nil' _ _ _ _ _,by rw[m.out.2.2];exact World.ownsRow_nil _ _ _ _⟩
theorem Ad (P:Pr) (w:World) (pv:Value) (Sp:Nat->Prop) (Q:PresV Sp w pv P) :
  Calls Tryz.prog 87 #[pv] w (Ret w λw' v=>∃a n c J u K,v=.tuple #[.slice a n c,.slice J u K,.int .i64 (fk P)]/\Rows3 Any w' (.slice a n c) (fJ P)/\Ints Any w' (.slice J u K) (gh P)):=by
 obtain⟨vo,vp,vc,rfl,h3⟩:=Q;have z:=PresP.box h3 28;have A:Ext w (w.alloc (.cells #[vo,vp,vc] 28)):=World.grownBy_alloc _ _ _;obtain⟨B,fB,fu,_,_,j,e,g,fq⟩:=z.at;simp only[Nat.zero_add] at e g;have C:∀w',Ext (w.alloc (.cells #[vo,vp,vc] 28)) w'->w'.cell? ⟨w.heap.size,0,none⟩=some B/\w'.cell? ⟨w.heap.size,1,none⟩=some fB/\w'.cell? ⟨w.heap.size,2,none⟩=some fu:=λw' h=>⟨h.cell j (by simp),h.cell e (by simp),h.cell g (by simp)⟩;have HB:=Lib.hid C;clear C z;have D:=zy P _ (.agg #[B,fB,fu]) Any ⟨_,_,_,rfl,fq⟩;go_enter Tryz.func87,Tryz.ntmps87;go_wp2_with fail
 clear j e g;generalize R:w.alloc (.cells #[vo,vp,vc] 28)=w0 at *;clear R;refine Calls.mono D ?_;rintro e1 w1 ⟨v1,rfl,k,rfl⟩;clear D;obtain⟨c,y⟩:∃c,c=fk P:=⟨_,rfl⟩;rw[<-y];have HC:=Lib.hid y;by_cases l:fk P=0
 ·have G:=grp_of_r (gB l).1
  have S:=(gB l).2;have E:c=0:=by rw[y];exact l
  have HZ:=Lib.hid l;clear y l;subst E;obtain⟨j,e,g⟩:=HB.out w1 k;go_wp2_with fail
  clear j e g;refine Calls.mono (zB P G w1 _ Any S ⟨_,_,_,rfl,Pres3.ext fq k⟩) ?_;rintro e2 w2 ⟨v2,rfl,T,fv,zv,rfl,L,hL,M,N⟩;have b:=kU HZ.out hL;obtain⟨F,m,p⟩:=pL P;rw[<-b.1] at M;rw[<-b.2] at N;obtain⟨X,U⟩:∃X,X=fJ P:=⟨_,rfl⟩;obtain⟨Y,V⟩:∃Y,Y=gh P:=⟨_,rfl⟩;rw[<-U] at M F p m;rw[<-V] at N m;obtain⟨la,lc,hlv,_,_⟩:=Sl.shape M;subst hlv;have q:=N.ints (by omega);obtain⟨J,K,lY,_,_⟩:=q.shape;subst lY;have O:=Lib.hid (And.intro p (And.intro U (And.intro V q)));clear p b U V N q;obtain⟨u,r⟩:∃u,u=Y.length:=⟨_,rfl⟩;rw[<-r];have HN:=Lib.hid r;clear r m;go_wp2_with fail
  refine Calls.mono (zz w2 _ X _ M O.out.1 (by omega)) ?_;rintro e3 w3 ⟨v3,rfl,H,hO⟩;have W:=hO.toD (by omega);obtain⟨ra,rc,pM,_,_⟩:=SlD.shape W;subst pM;have I:=Rows3D.rows W;have HR:=Lib.hid I;clear I W hO;go_wp2;refine bodyPost_ret (v := .tuple #[.slice ra X.length rc,.slice J u K,.int .i64 0]) (by simp[results,Tryz.results87,go_sem]) rfl ?_;exact⟨_,rfl,grown_trans A (grown_trans k (grown_trans T H)),_,_,_,_,_,_,by rw[<-HC.out],by rw[<-O.out.2.1];exact Rows3.sub HR.out (λ_ _ _=>trivial),by rw[<-O.out.2.2.1,HN.out];exact Ints.ext O.out.2.2.2 H⟩
 ·have b:=sV l
  rw[<-y] at l;have al:(c != 0)=true:=by simpa using l
  have HA:=Lib.hid b;clear b y;go_wp2;refine bodyPost_ret (v := .tuple #[.slice none 0 0,.slice none 0 0,.int .i64 c]) (by simp[results,Tryz.results87,go_sem]) rfl ?_;exact⟨_,rfl,grown_trans A k,none,0,0,none,0,0,by rw[<-HC.out],by rw[HA.out.1];exact⟨none,0,rfl,⟨by simp,by simp,λ_=>rfl⟩,λi Z=>by simp at Z⟩,by rw[HA.out.2];exact⟨none,0,rfl,⟨by simp,by simp,λ_=>rfl⟩,λi Z=>by simp at Z⟩⟩
open Classical in
noncomputable def gC (P:Pr) (L:List (List (List Int))):Nat->List (List (List Int))
 | 0=>[]
 | k+1=>if gQ P (gP P (gt L k)) then gC P L k++[gt L k] else gC P L k
theorem sW {P:Pr}{L:List (List (List Int))}{k:Nat}(h:gQ P (gP P (gt L k))):gC P L (k+1)=gC P L k++[gt L k]:=by rw[gC,if_pos h]
theorem pN {P:Pr}{L:List (List (List Int))}{k:Nat}(h:¬gQ P (gP P (gt L k))):gC P L (k+1)=gC P L k:=by rw[gC,if_neg h]
theorem sX (P:Pr) (L:List (List (List Int))):∀k,(gC P L k).length<=k
 | 0=>Nat.le_refl _
 | k+1=>by
  have:=sX P L k;unfold gC;split
  ·rw[List.length_append,List.length_singleton];omega
  ·omega
theorem pO {P:Pr}{L:List (List (List Int))} : ∀ {k:Nat},k<=L.length->∀u∈gC P L k,u∈L
 | 0,_,u,h=>by cases h
 | k + 1,hk,u,h=>by
  unfold gC at h;split at h
  ·rcases List.mem_append.1 h with h|h
   ·exact pO (by omega) u h
   ·rw[List.mem_singleton.1 h];exact gt_mem (by omega)
  ·exact pO (by omega) u h
def fG (F:List (List (List Int))) (Z:List Nat):Nat->List (List (List Int))
 | 0=>[]
 | k+1=>if gt Z k=1 then fG F Z k++[gt F k] else fG F Z k
theorem sY (F:List (List (List Int))) (Z:List Nat) (a:Z.length=F.length) (u:List (List Int)) (s:Nat):∀k,k<=F.length->fG (F++[u]) (Z++[s]) k=fG F Z k
 | 0,_=>rfl
 | k+1,hk=>by
  unfold fG;rw[sY F Z a u s k (by omega),gt_append_left _ _ _ (show k<Z.length by omega),gt_append_left _ _ _ (show k<F.length by omega)]
theorem Ae (F:List (List (List Int))) (Z:List Nat) (a:Z.length=F.length) (u:List (List Int)) (s:Nat):fG (F++[u]) (Z++[s]) (F.length+1)=if s=1 then fG F Z F.length++[u] else fG F Z F.length:=by
 rw[fG,sY F Z a u s _ (Nat.le_refl _),gt_concat];have:gt (Z++[s]) F.length=s:=by rw[<-a,gt_concat]
 rw[this]
theorem nL (P:Pr) (u:List (List Int)) (S:List (List (List Int))):∀t,(fC P u S t).1.length=S.length+(fC P u S t).2
 | 0=>rfl
 | t + 1=>by
  have a:=nL P u S t;by_cases h:fI P u (elAt P (t:Int))∈(fC P u S t).1
  ·rw[lM h];exact a
  ·rw [lN h]
   simp only[List.length_append,List.length_singleton];omega
section
variable {P:Pr}(G:Grp P)
include G
theorem Grp.pP {x:List Int}(hx:Vec P.orders x):∃j,j<(ordP P).toNat/\x=elAt P (j:Int):=
 ⟨_,(G.num_lt hx).1,(G.num_lt hx).2.symm⟩
theorem Grp.pQ {u:List (List Int)}(a:SubB P u) {x:List Int}(hx:Vec P.orders x):fI P (fI P u x) (rInv P x)=u:=by
 rw[G.nk a hx (G.invV hx),G.mul_inv hx,G.oZ a]
theorem Grp.l6 {L:List (List (List Int))}(b:∀u∈L,SubB P u):∀k,k<=L.length->∀v,v∈(dL P L k).seen↔∃j,j<k/\∃x,Vec P.orders x/\v=fI P (gt L j) x
 | 0,_,v=>⟨λh=>(by cases h),λ⟨j,a,_⟩=>(by omega)⟩
 | k + 1,hk,v=>by
  have g:=Grp.l6 b k (by omega);have l:=b _ (gt_mem (show k<L.length by omega));by_cases h:gt L k∈(dL P L k).seen
  ·rw [jo h,g v]
   constructor
   ·rintro⟨j,a,r⟩;exact⟨j,by omega,r⟩
   ·rintro ⟨j,a,x,hx,e⟩
    rcases Nat.lt_succ_iff_lt_or_eq.1 a with h1|h1
    ·exact⟨j,h1,x,hx,e⟩
    ·subst h1
     obtain⟨i,hi,y,hy,e2⟩:=(g _).1 h;refine⟨i,hi,rMul P y x,G.mulV hy hx,?_⟩;rw[e,e2,G.nk (b _ (gt_mem (by omega))) hy hx]
  ·rw [jq h]
   show v∈(fC P (gt L k) (dL P L k).seen (ordP P).toNat).1↔_
   rw[ny,g v];constructor
   ·rintro (⟨j,a,r⟩|⟨j,a,e⟩)
    ·exact⟨j,by omega,r⟩
    ·exact⟨k,by omega,_,G.elAtV a,e⟩
   ·rintro ⟨j,a,x,hx,e⟩
    rcases Nat.lt_succ_iff_lt_or_eq.1 a with h1|h1
    ·exact .inl ⟨j,h1,x,hx,e⟩
    ·subst h1
     obtain⟨i,hi,e2⟩:=G.pP hx;exact .inr ⟨i,hi,by rw[e,e2]⟩
theorem Grp.Af {L:List (List (List Int))}(z:∀u∈L,SubB P u) {k:Nat}(hk:k<L.length) (A:¬gt L k∈(dL P L k).seen) :
  (fC P (gt L k) (dL P L k).seen (ordP P).toNat).2=1↔gQ P (gP P (gt L k)):=by
 have q:=z _ (gt_mem hk);rw[G.rT q];have B:=G.kO z k (by omega);have n:=G.l6 z k (by omega);obtain⟨S,r⟩:∃S,S=(dL P L k).seen:=⟨_,rfl⟩;obtain⟨u,w⟩:∃u,u=gt L k:=⟨_,rfl⟩;rw[<-r,<-w] at A ⊢;rw[<-r] at B n;rw[<-w] at q;have K:=nL P u S (ordP P).toNat;have l:=ny P u S (ordP P).toNat;have M:=G.kN q B _ (Nat.le_refl _)
 have p:u∈(fC P u S (ordP P).toNat).1:=(l u).2 (by
  obtain⟨i,hi,e⟩:=G.pP G.oneV;exact .inr ⟨i,hi,by rw[<-e,G.oZ q]⟩)
 have m:(S++[u]).Nodup:=by
  rw[List.nodup_append];exact⟨B.one,by simp,λa ha b C e=>A (by rw[List.mem_singleton.1 C] at e;rw[<-e];exact ha)⟩
 constructor
 ·intro h1 x hx
  refine Classical.byContradiction λD => ?_
  have E:¬fI P u x∈S:=λN=>by
   obtain⟨j,F,y,hy,e⟩:=(n _).1 N;refine A ((n u).2 ⟨j,F,rMul P y (rInv P x),G.mulV hy (G.invV hx),?_⟩);rw[<-G.nk (z _ (gt_mem (by omega))) hy (G.invV hx),<-e,G.pQ q hx]
  have H:fI P u x∈(fC P u S (ordP P).toNat).1:=(l _).2 (by
   obtain⟨i,hi,e⟩:=G.pP hx;exact .inr ⟨i,hi,by rw[<-e]⟩)
  have I:(S++[u]++[fI P u x]).Nodup:=by
   rw[List.nodup_append];refine⟨m,by simp,λa ha b C e => ?_⟩;rw[List.mem_singleton.1 C] at e;rcases List.mem_append.1 ha with h|h
   ·exact E (by rw[<-e];exact h)
   ·exact D (by rw[<-e];exact List.mem_singleton.1 h)
  have J:=nodup_sub_len _ (fC P u S (ordP P).toNat).1 I (λv g=>by
   rcases List.mem_append.1 g with g|g
   ·rcases List.mem_append.1 g with g|g
    ·exact(l v).2 (.inl g)
    ·rw[List.mem_singleton.1 g];exact p
   ·rw[List.mem_singleton.1 g];exact H)
  simp only[List.length_append,List.length_singleton] at J;omega
 ·intro h
  have I:=nodup_sub_len _ (S++[u]) M.one (λv g=>by
   rcases(l v).1 g with g|⟨j,F,e⟩
   ·exact List.mem_append.2 (.inl g)
   ·rw[e,h _ (G.elAtV F)];simp)
  have J:=nodup_sub_len _ (fC P u S (ordP P).toNat).1 m (λv g=>by
   rcases List.mem_append.1 g with g|g
   ·exact(l v).2 (.inl g)
   ·rw[List.mem_singleton.1 g];exact p)
  simp only[List.length_append,List.length_singleton] at I J;omega
theorem Grp.sZ {L:List (List (List Int))}(h:LatL P L):∀k,k<=L.length->fG (dL P L k).firsts (dL P L k).sizes (dL P L k).firsts.length=gC P L k
 | 0,_=>rfl
 | k + 1,hk=>by
  have i:=Grp.sZ h k (by omega);have b:∀u∈L,SubB P u:=λu l=>(h.2 u).1 l;have l:=b _ (gt_mem (show k<L.length by omega));by_cases g:gt L k∈(dL P L k).seen
  ·rw [jo g,i]
   refine(pN (λa => ?_)).symm;obtain⟨j,q,x,hx,e⟩:=(G.l6 b k (by omega) _).1 g;have m:=b _ (gt_mem (show j<L.length by omega));have h1:=G.pQ m hx;rw[<-e,(G.rT l).1 a _ (G.invV hx)] at h1;have n:=List.pairwise_iff_getElem.1 h.1 j k (by omega) (by omega) q;rw[<-gt_eq L j (by omega),<-gt_eq L k (by omega),<-h1] at n;exact subLt_irrefl n
  ·rw [jq g]
   show fG ((dL P L k).firsts++[gt L k]) ((dL P L k).sizes++[_]) ((dL P L k).firsts++[gt L k]).length=_
   rw[List.length_append,List.length_singleton,Ae _ _ (j7 P L k).2];have p:=G.Af b (show k<L.length by omega) g;by_cases a:gQ P (gP P (gt L k))
   ·rw[if_pos (p.2 a),sW a,i]
   ·rw[if_neg (λr=>a (p.1 r)),pN a,i]
end
open Classical in
noncomputable def iD (P:Pr):List (List (List Int)):=if fk P=0/\∃L,LatL P L then gC P (j5 P) (j5 P).length else []
theorem pR {P:Pr}{L:List (List (List Int))}(h:fk P=0) (a:LatL P L):iD P=gC P L L.length:=by
 unfold iD;rw[if_pos ⟨h,L,a⟩,oV a]
theorem Ag {P:Pr}(h:fk P≠0):iD P=[]:=by unfold iD;rw[if_neg (λa=>h a.1)]
theorem td (P:Pr):(iD P).length<=17408/\∀u∈iD P,u.length<=6/\∀x∈u,x.length<=6:=by
 by_cases h:fk P=0/\∃L,LatL P L
 ·obtain ⟨a,L,b⟩:=h
  have G:=grp_of_r (gB a).1;rw[pR a b];have h1:=sX P L L.length;have g:=G.j6 (gB a).2 b;exact⟨by omega,λu e=>G.oW b u (pO (Nat.le_refl _) u e)⟩
 ·unfold iD;rw[if_neg h];simp
theorem Ah (P:Pr):(iD P).length<=17408:=(td P).1
def gD (P:Pr) (has:List Int->Prop) (k:Nat) (y:List Int):Prop:=y∈(allEl P).take k/\has y
theorem Ai (P:Pr) (has:List Int->Prop):gD P has 0=λ_=>False:=by
 funext y;unfold gD;simp
theorem Aj {P:Pr}{has:List Int->Prop}{k:Nat}(hk:k<(allEl P).length) (h:has (gt (allEl P) k)):gD P has (k+1)=λy=>gD P has k y\/y∈[gt (allEl P) k]:=
 funext λy=>propext (by
  unfold gD;rw[List.take_add_one,List.getElem?_eq_getElem hk,List.mem_append,gt_eq _ _ hk];simp only[Option.toList_some,List.mem_singleton];constructor
  ·rintro ⟨h1|h1,h2⟩
   ·exact .inl ⟨h1,h2⟩
   ·exact .inr h1
  ·rintro (⟨h1,h2⟩|h1)
   ·exact⟨.inl h1,h2⟩
   ·exact⟨.inr h1,by rw[h1,<-gt_eq _ _ hk];exact h⟩)
theorem Ak {P:Pr}{has:List Int->Prop}{k:Nat}(hk:k<(allEl P).length) (h:¬has (gt (allEl P) k)):gD P has (k+1)=gD P has k:=
 funext λy=>propext (by
  unfold gD;rw[List.take_add_one,List.getElem?_eq_getElem hk,List.mem_append];simp only[Option.toList_some,List.mem_singleton];constructor
  ·rintro ⟨h1|h1,h2⟩
   ·exact⟨h1,h2⟩
   ·rw[h1,<-gt_eq _ _ hk] at h2;exact absurd h2 h
  ·rintro ⟨h1,h2⟩
   exact⟨.inl h1,h2⟩)
theorem Al {P:Pr}(hP:Valid P) (has:List Int->Prop):gD P has (allEl P).length=λy=>Vec P.orders y/\has y:=
 funext λy=>propext (by
  unfold gD;rw[List.take_length]
  have a:y∈allEl P↔Vec P.orders y:=by
   unfold allEl;rw[List.mem_map];constructor
   ·rintro ⟨k,hk,rfl⟩
    exact elAt_vec hP _ (by omega)
   ·intro h
    have b:=num_bd hP h;exact⟨(num P y).toNat,by rw[List.mem_range];omega,by rw[show(((num P y).toNat:Nat):Int)=num P y by omega];exact elAt_num hP h⟩
  rw[a])
theorem Am {P:Pr}(hP:Valid P) {has:List Int->Prop}{k:Nat} : ∀y,gD P has k y->Vec P.orders y:=λy h=>by
 have:=List.mem_of_mem_take h.1;unfold allEl at this;rw[List.mem_map] at this;obtain⟨j,hj,rfl⟩:=this;exact elAt_vec hP _ (by omega)
def inTo (E:List (List Int)) (K:List Int->Prop) (k:Nat) (x:List Int):Prop:=x∈E.take k/\K x
theorem inTo_succ {E:List (List Int)}{K:List Int->Prop}{k:Nat}(hk:k<E.length) (a:K (gt E k)):(λx=>inTo E K k x\/x∈[gt E k])=inTo E K (k+1):=by
 funext x
 unfold inTo;rw[take_succ_gt E k hk];simp only[List.mem_append,List.mem_singleton,eq_iff_iff];constructor
 ·rintro (⟨h1,h2⟩|h)
  ·exact⟨.inl h1,h2⟩
  ·exact⟨.inr h,by rw[h];exact a⟩
 ·rintro ⟨h|h,h2⟩
  ·exact .inl ⟨h,h2⟩
  ·exact .inr h
theorem inTo_skip {E:List (List Int)}{K:List Int->Prop}{k:Nat}(hk:k<E.length) (a:¬K (gt E k)):inTo E K (k+1)=inTo E K k:=by
 funext x
 unfold inTo;rw[take_succ_gt E k hk];simp only[List.mem_append,List.mem_singleton,eq_iff_iff];constructor
 ·rintro ⟨h|h,h2⟩
  ·exact⟨h,h2⟩
  ·exact absurd (by rw[<-h];exact h2) a
 ·rintro ⟨h,h2⟩
  exact⟨.inl h,h2⟩
theorem inTo_zero (E:List (List Int)) (K:List Int->Prop):inTo E K 0=λ_=>False:=by
 funext x;unfold inTo;simp
theorem inTo_all {P:Pr}{H K:List Int->Prop}(hP:Valid P) (S:Sub P H) (E:List (List Int)) (a:E=elemsIn P H):inTo E K E.length=λx=>H x/\K x:=by
 funext x
 unfold inTo;rw[List.take_length,a,elemsIn_mem hP S.vec]
theorem rows2One {S S':Nat->Prop}{w:World}{u:Value}{X:List Int}(h:Ints S w u X) (e:∀k,S k->k<w.heap.size->S' k) (g:S' w.heap.size):Rows2 S' (w.alloc (.cells #[u] 24)) (.slice (some ⟨w.heap.size,0,none⟩) 1 1) [X]:=by
 refine⟨_,1,rfl,⟨by simp,by simp,λh=>by cases h⟩,λi j => ?_⟩;have:i=0:=by simpa using j
 subst this;have b:Ext w (w.alloc (.cells #[u] 24)):=World.grownBy_alloc _ _ _;refine⟨w.heap.size,0,u,rfl,g,by simp,by rw[World.cell?_alloc_at _ _ _ _ rfl];rfl,?_⟩;exact Ints.mono h (λk hk a=>⟨e k hk a,Nat.lt_of_lt_of_le a b.size,b.block k a (by simp)⟩)
theorem meet_ok (P:Pr) (G:Grp P) (w:World) (p uv vv:Value) (H K:List Int->Prop) (Y Su Sv:Nat->Prop) (S:Sub P H) (R:Sub P K) (A:PresP Y w p P) (hu:Rows2 Su w uv (cseq P H)) (hv:Rows2 Sv w vv (cseq P K)) :
  Calls Tryz.prog 174 #[p,uv,vv] w (Ret w λw' v=>RowsO w.heap.size w' v (cseq P (λx=>H x/\K x))):=by
 have hP:=G.v;have aC:=hP.n6;obtain⟨pb,po,rfl⟩:=A.shape;have a3:=G.cseq_len S;have a4:=G.cseq_len R;have aa:=(G.seq_facts S).1;have ab:=(G.seq_facts R).1;obtain⟨au,B,rfl,_,_⟩:=Sl.shape hu;obtain⟨av,C,rfl,_,_⟩:=Sl.shape hv
 have l:∃(M N:List Int->Prop) (u1 v1:Value),Sub P M/\Sub P N/\Rows2 Any w u1 (cseq P M)/\Rows2 Any w v1 (cseq P N)/\(λx=>M x/\N x)=(λx=>H x/\K x) /\
   ((prodU P (cseq P K) (cseq P K).length<prodU P (cseq P H) (cseq P H).length/\u1=.slice av (cseq P K).length C/\v1=.slice au (cseq P H).length B) \/
    (¬prodU P (cseq P K) (cseq P K).length<prodU P (cseq P H) (cseq P H).length/\u1=.slice au (cseq P H).length B/\v1=.slice av (cseq P K).length C)):=by
  have ac:=Rows2.sub hu (S':=Any) (λ_ _ _=>trivial);have ad:=Rows2.sub hv (S':=Any) (λ_ _ _=>trivial);by_cases h:prodU P (cseq P K) (cseq P K).length<prodU P (cseq P H) (cseq P H).length
  ·exact⟨K,H,_,_,R,S,ad,ac,funext λx=>propext ⟨λh=>⟨h.2,h.1⟩,λh=>⟨h.2,h.1⟩⟩,.inl ⟨h,rfl,rfl⟩⟩
  ·exact⟨H,K,_,_,S,R,ac,ad,rfl,.inr ⟨h,rfl,rfl⟩⟩
 obtain⟨M,N,u1,v1,O,R1,aD,aE,af,l⟩:=l;have aS:=G.cseq_len O;have hE:=G.els_sorted O;have ag:=(G.seq_facts O).1;have HX:=Lib.hid (And.intro aa (And.intro ab (And.intro af (And.intro hE ag))));clear aa ab af hE ag;obtain⟨E,Q⟩:∃E,E=elemsIn P M:=⟨_,rfl⟩;have a5:E.length<=729:=by rw[Q];exact elemsIn_len hP M
 have HE:=Lib.hid Q;clear Q;go_enter Tryz.func174,Tryz.ntmps174;go_wp2_with fail
 refine Calls.mono (sizeOf_ok P hP w _ _ (cseq P H) Y Su A hu HX.out.1 (by omega)) ?_;rintro eA wA ⟨vA,rfl,T,rfl⟩;go_wp2_with fail
 refine Calls.mono (sizeOf_ok P hP wA _ _ (cseq P K) Y Sv (A.ext T) (Rows2.ext hv T) HX.out.2.1 (by omega)) ?_;rintro eB wB ⟨vB,rfl,hgB,rfl⟩;have U:=grown_trans T hgB;obtain⟨m1,ai⟩:∃m1,m1=prodU P (cseq P H) (cseq P H).length:=⟨_,rfl⟩;obtain⟨m2,hm2⟩:∃m2,m2=prodU P (cseq P K) (cseq P K).length:=⟨_,rfl⟩;rw[<-ai,<-hm2] at l ⊢;clear ai hm2 hu hv;rcases l with⟨hc,rfl,rfl⟩|⟨hc,rfl,rfl⟩
 all_goals
  go_wp2_with fail
  clear hc;refine Calls.mono (newSequence_ok P wB _ Y (λ_=>False) (A.ext U) aC) ?_;rintro e1 w1 ⟨v1,rfl,hg1,sb,gb,rfl,m⟩;have a7:=m.tab.lt;have a8:=m.sB;have a9:=m.slt;have n:=grown_trans U hg1;go_wp2_with fail
  refine Calls.mono (elementsOf_ok P G w1 _ _ (cseq P M) Y Any (A.ext n) (Rows2.ext aD n) HX.out.2.2.2.2 (by omega)) ?_;rintro e2 w2 ⟨v2,rfl,hg2,hO⟩;rw[HX.out.2.2.2.1,<-HE.out] at hO;have aj:=grown_trans n hg2;have i:=RowsD.rows (SlO.toD hO (by omega));obtain⟨ae,q,pG,_,_⟩:=Sl.shape i;subst pG;have D:Rows2 (λj=>w1.heap.size<=j) w2 (.slice ae E.length q) E:=i;have ak:=m.ext hg2;have ba:=U.size;clear hO i m;go_wp2;go_loopw [25] (λiv wr=>∃(k:Nat) (b:List (List Int)),iv=.int .i64 k/\k<=E.length/\Ext w wr/\SeqAt wB.heap.size (λ_=>False) wr sb gb (.pointer (some ⟨pb,po,none⟩)) P.orders.length b/\Rows2 (λj=>w1.heap.size<=j) wr (.slice ae E.length q) E/\Hid (Ind P (genP P (inTo E N k)) (gt b))) (λiv _=>E.length-(intOf iv).toNat)
  case atStart=>exact⟨0,_,rfl,by omega,aj,ak,D,Lib.hid (by rw[inTo_zero,G.genP_none];exact G.ind_one)⟩
  case round=>
   clear ak D;obtain⟨k,b,rfl,hk,Z,m,i,hI⟩:=hrel;by_cases a:k<E.length
   ·have aX:(k:Int)<E.length:=by omega
    obtain⟨bb,off,a2,F,rfl,_,_,hc,hr⟩:=Rows2.at i k a;have al:Vec P.orders (gt E k):=O.vec _ ((elemsIn_mem hP O.vec _).1 (by rw[<-HE.out];exact gtMem a));have am:=Lib.hid al;clear al;go_wp2_with fail
    clear hc;refine Calls.mono (isMember_ok P G wr _ _ _ N (gt E k) Y Any _ R1 (A.ext Z) (Rows2.ext aE Z) hr am.out) ?_;rintro e3 w3 ⟨v3,rfl,g,r,rfl,z⟩;have I:=grown_trans Z g;cases r with
    | false=>
     have V:Hid (Ind P (genP P (inTo E N (k+1))) (gt b)):=Lib.hid (by rw[inTo_skip a (λh=>by have:=z.2 h;cases this)];exact hI.out);have aI:=m.ext g;have an:=Rows2.ext i g;clear z;go_wp2;go_roundw
     case rel=>exact⟨k+1,b,by go_num,by omega,I,aI,an,V⟩
     case measure=>simp[intOf];omega
    | true=>
     have ao:=inTo_succ a (z.1 rfl);have aJ:=Lib.hid ao;clear ao z;have u:Ext w3 (w3.alloc (.cells #[.slice a2 (gt E k).length F] 24)):=World.grownBy_alloc _ _ _;have aZ:=g.size;have bd:=m.slt;have be:=m.tab.lt;have J:=rows2One (S':=λj=>¬(j=gb\/j=sb)) (Ints.ext hr g) (λj W a=>by omega) (by omega);have y:=grown_trans I u;have L:=add_ok P G (w3.alloc (.cells #[.slice a2 (gt E k).length F] 24)) sb gb wB.heap.size _ _ [gt E k] b _ (A.mono (λj _ W=>⟨by omega,Nat.lt_of_lt_of_le W y.size,y.block j W (by simp)⟩)) ((m.ext g).ext u) hI.out (λx hx=>by rw[List.mem_singleton.1 hx];exact am.out) J (by simp);have HA:=Lib.hid L;clear L;go_wp2_with fail
     refine Calls.mono HA.out ?_;rintro e4 w4 ⟨b4,g4,rfl,X,hs4,pS,_,_⟩;rw[genP_or,aJ.out] at pS;have ap:Ext w w4:=grown_own y X (λj W a=>by cases W;omega);have aq:Rows2 (λj=>w1.heap.size<=j) w4 (.slice (some ⟨bb,off,none⟩) E.length q) E:=Rows2.mono i (λj W a=>⟨W,Nat.lt_of_lt_of_le a (Nat.le_trans g.size (Nat.le_trans u.size X.size)),(X.block j (Nat.lt_of_lt_of_le a (Nat.le_trans g.size u.size)) (λe=>by cases e;omega)).trans ((u.block j (Nat.lt_of_lt_of_le a g.size) (by simp)).trans (g.block j a (by simp)))⟩);have aK:=Lib.hid pS;clear pS HA J;go_wp2;go_roundw
     case rel=>exact⟨k+1,b4,by go_num,by omega,ap,hs4,aq,aK⟩
     case measure=>simp[intOf];omega
   ·have ar:k=E.length:=by omega
    have V:Hid (Ind P (λx=>H x/\K x) (gt b)):=Lib.hid (by
     have h:=hI.out;rw[ar,inTo_all hP O E HE.out,genP_self (O.and R1),HX.out.2.2.1] at h;exact h)
    subst ar;clear hI;go_wp2_with fail
    refine Calls.mono (canonical_ok P G wr sb gb wB.heap.size _ b _ _ _ (A.ext Z) m V.out) ?_;rintro e5 w5 ⟨v5,rfl,gK,jr⟩;go_wp2;go_ret;exact⟨_,rfl,grown_trans Z gK,jr.weak Z.size⟩
theorem Ao (P:Pr) (G:Grp P) (w:World) (p c1 c2:Value) (has:List Int->Prop) (Sp:Nat->Prop) (S:PresP Sp w p P)
  (hc:∀(w':World) (xv:Value) (X:List Int) (Sx:Nat->Prop),Ext w w'->Ints Sx w' xv X->Vec P.orders X->Calls Tryz.prog 143 #[xv,c1,c2] w' (Ret w' λ_ v=>∃r:Bool,v=.bool r/\(r=true↔has X))) :
  Calls Tryz.prog 142 #[p,.func (.func 143) #[] #[c1,c2]] w (Ret w λw' v=>RowsO w.heap.size w' v (cseq P (genP P (λy=>Vec P.orders y/\has y)))):=by
 have hP:=G.v;have aq:=hP.n6;have T:ordP P<=729:=hP.le729;have U:=hP.ordP_pos;obtain⟨pb,po,rfl⟩:=S.shape;have HC:=Lib.hid hc;clear hc;go_enter Tryz.func142,Tryz.ntmps142;go_wp2_with fail
 refine Calls.mono (newSequence_ok P w _ Sp (λ_=>False) S aq) ?_;rintro e1 O ⟨v1,rfl,V,sb,gb,rfl,A⟩;have aL:=A.tab.lt;have aM:=A.sB;have aN:=A.slt;go_wp2_with fail
 refine Calls.mono (allElements_ok P hP O _ Sp (S.ext V)) ?_;rintro e2 W ⟨v2,rfl,hg2,hE⟩;have ar:(allEl P).length=(ordP P).toNat:=by simp[allEl]
 have H:Rows2 (λk=>O.heap.size<=k) W v2 (allEl P):=RowsD.rows (SlO.toD hE (by omega));obtain⟨aE,Y,fQ,_,_⟩:=Sl.shape H;subst fQ;obtain⟨N,hN⟩:∃N,N=(allEl P).length:=⟨_,rfl⟩;rw[<-hN];rw[<-hN] at H;have au:N<=729:=by omega
 have Z:=A.kept (bad':=λ_=>False) hg2.size (λk hk _=>hg2.block k hk (by simp)) (λ_ _ h=>h)
 have aa:Ind P (genP P (gD P has 0)) (gt (List.replicate P.orders.length ([]:List Int))):=by
  rw[Ai,G.genP_none];exact G.ind_one
 have ab:=grown_trans V hg2;have aQ:O.heap.size<=W.heap.size:=hg2.size;have HN:=Lib.hid (And.intro hN aa);clear hN aa ar hE T U A;go_wp2;go_loopw [13] (λiv wr=>∃(k:Nat) (t:List (List Int)),iv=.int .i64 k/\k<=N/\W.grownBy wr (some gb)/\SeqAt w.heap.size (λ_=>False) wr sb gb (.pointer (some ⟨pb,po,none⟩)) P.orders.length t/\Hid (Ind P (genP P (gD P has k)) (gt t))) (λiv _=>N-(intOf iv).toNat)
 case atStart=>exact⟨0,_,rfl,by omega,grown_refl _ _,Z,Lib.hid HN.out.2⟩
 case round=>
  clear Z;obtain⟨k,t,rfl,hk,hg,A,Q⟩:=hrel;have b:Ext w wr:=grown_own ab hg (λj R g=>by cases R;omega);by_cases g:k<N
  ·have aG:(k:Int)<N:=by omega
   have B:k<(allEl P).length:=by rw[<-HN.out.1];exact g
   have I:Rows2 (λk=>O.heap.size<=k) wr (.slice aE N Y) (allEl P):=Rows2.mono H (frame_of hg (λj R _=>⟨R,λe=>by cases e;omega⟩));rw[HN.out.1] at I;obtain⟨bx,ox,a2,l,hab,_,_,ac,J⟩:=Rows2.at I k B;subst hab;have K:Vec P.orders (gt (allEl P) k):=Am hP (has:=λ_=>True) (k:=(allEl P).length) _ ⟨by rw[List.take_length];exact gtMem B,trivial⟩;obtain⟨x,hx⟩:∃x,x=gt (allEl P) k:=⟨_,rfl⟩;rw[<-hx] at ac J K;have m:=Aj (has:=has) B;have L:=Ak (has:=has) B;rw[<-hx] at m L;have HX:=Lib.hid (And.intro K (And.intro m L));clear K m L hx;have n:=HC.out wr _ x _ b J HX.out.1;go_wp2_with fail
   refine Calls.mono n ?_;rintro e3 C ⟨v3,rfl,a,r,rfl,hr⟩;clear n ac;have q:W.grownBy C (some gb):=grown_trans hg (grown_of_ext _ a);have M:=A.kept (bad':=λ_=>False) a.size (λk hk _=>a.block k hk (by simp)) (λ_ _ h=>h);have aT:O.heap.size<=C.heap.size:=by have:=q.size;omega
   have ad:=grown_trans b a;have ae:=Ints.ext J a;cases r with
   | false=>
    have af:Ind P (genP P (gD P has (k+1))) (gt t):=by
     rw[HX.out.2.2 (λh=>by have:=hr.2 h;cases this)];exact Q.out
    have ax:=Lib.hid af;clear af hr Q;go_wp2;go_roundw
    case rel=>exact⟨k+1,t,by go_num,by omega,q,M,ax⟩
    case measure=>simp[intOf];omega
   | true=>
    have u:=HX.out.2.1 (hr.1 rfl);have ay:=Lib.hid u;clear u hr;have z:Ext C (C.alloc (.cells #[.slice a2 x.length l] 24)):=World.grownBy_alloc _ _ _;have D:=M.kept (bad':=λ_=>False) z.size (λk hk _=>z.block k hk (by simp)) (λ_ _ h=>h)
    have E:Rows2 (λk=>¬(k=gb\/k=sb)) (C.alloc (.cells #[.slice a2 x.length l] 24)) (.slice (some ⟨C.heap.size,0,none⟩) 1 1) [x]:=by
     refine⟨some ⟨C.heap.size,0,none⟩,1,rfl,⟨by simp,by simp,λh=>by cases h⟩,λi hi=>⟨C.heap.size,0,.slice a2 x.length l,rfl,by omega,by simp,?_,?_⟩⟩
     ·have:i=0:=by simpa using hi
      subst this;rw[World.cell?_alloc_at _ _ _ _ rfl];rfl
     ·have:i=0:=by simpa using hi
      subst this
      exact Ints.sub (Ints.ext ae z) (λj R _=>by
       have R:O.heap.size<=j:=R;omega)
    have ag:∀y∈[x],Vec P.orders y:=λy hy=>by rw[List.mem_singleton.1 hy];exact HX.out.1
    have HL:=Lib.hid (And.intro E ag);clear E ag;have F:=grown_trans ad z;go_wp2_with fail
    refine Calls.mono (add_ok P G _ sb gb w.heap.size _ _ [x] t (genP P (gD P has k)) (S.mono (λk _ g=>⟨by omega,Nat.lt_of_lt_of_le g F.size,F.block k g (by simp)⟩)) D Q.out HL.out.2 HL.out.1 (by simp)) ?_;rintro e5 w5 ⟨t5,g5,rfl,ah,hs5,hA,_,_⟩
    have ai:Ind P (genP P (gD P has (k+1))) (gt t5):=by
     rw[ay.out,<-genP_or];exact hA
    have az:=Lib.hid ai;clear ai hA;have aj:W.grownBy w5 (some gb):=grown_trans (grown_trans q (grown_of_ext _ z)) ah;clear Q A M D ah I;go_wp2;go_roundw
    case rel=>exact⟨k+1,t5,by go_num,by omega,aj,hs5,az⟩
    case measure=>simp[intOf];omega
  ·have aA:k=N:=by omega
   have ak:Ind P (genP P (λy=>Vec P.orders y/\has y)) (gt t):=by
    have:=Q.out;rw[aA,HN.out.1,Al hP] at this;exact this
   have aB:=Lib.hid ak;clear ak Q;go_wp2_with fail
   refine Calls.mono (canonical_ok P G wr sb gb w.heap.size _ t _ _ _ (S.ext b) A aB.out) ?_;rintro e3 C ⟨v3,rfl,a,hO⟩;go_wp2;go_ret;exact⟨_,rfl,grown_trans b a,hO.weak b.size⟩
noncomputable def prodSz (P:Pr) (H K:List Int->Prop):Int:=
 prodU P (cseq P H) (cseq P H).length*prodU P (cseq P K) (cseq P K).length/prodU P (cseq P (λx=>H x/\K x)) (cseq P (λx=>H x/\K x)).length
end Go.Proofs.YtdcobapnlpeaaaaGreat
namespace Go.Proofs.YtdcobapnlpeaaaaGreat
abbrev gU (P:Pr) (U:List (List Int)):List Int->Prop:=genP P (λx=>x∈U)
def jy (P:Pr) (U V:List (List Int)):Prop:=rconsB P=true/\SubB P U/\SubB P V
end Go.Proofs.YtdcobapnlpeaaaaGreat
namespace Go.Proofs.YtdcobapnlpeaaaaGreat
open Go.RowKit
open Classical in
noncomputable def l7 (P:Pr) (U V:List (List Int)):Int:=if jy P U V then 0 else 1
open Classical in
noncomputable def nM (P:Pr) (U V:List (List Int)):Int:=if jy P U V then prodSz P (gU P U) (gU P V) else 0
open Classical in
noncomputable def kV (P:Pr) (U V:List (List Int)):List (List Int):=if jy P U V then cseq P (λx=>gU P U x/\gU P V x) else []
theorem th {P:Pr}{U V:List (List Int)}(h:¬jy P U V):l7 P U V=1/\nM P U V=0/\kV P U V=[]:=by
 unfold l7 nM kV;rw[if_neg h,if_neg h,if_neg h];exact⟨rfl,rfl,rfl⟩
theorem pT {P:Pr}{U V:List (List Int)}(h:jy P U V):l7 P U V=0/\nM P U V=prodSz P (gU P U) (gU P V)/\kV P U V=cseq P (λx=>gU P U x/\gU P V x):=by
 unfold l7 nM kV;rw[if_pos h,if_pos h,if_pos h];exact⟨rfl,rfl,rfl⟩
theorem Ap (P:Pr) (U V:List (List Int)):(kV P U V).length<=729:=by
 by_cases h:jy P U V
 ·have G:=grp_of_r h.1
  rw[(pT h).2.2];have h1:(cseq P (λx=>gU P U x/\gU P V x)).length<=P.orders.length:=G.cseq_len ((G.subB h.2.1).and (G.subB h.2.2));have:=G.v.n6;omega
 ·rw[(th h).2.2];simp
theorem Aq (P:Pr) (w:World) (pv O Q:Value) (U V:List (List Int)) (W B C:Nat->Prop) (D:PresV W w pv P) (E:Rows2 B w O U) (F:Rows2 C w Q V) :
  Calls Tryz.prog 76 #[pv,O,Q] w (Ret w λw' v=>∃a n c,v=.tuple #[.slice a n c,.int .i64 (l7 P U V)]/\RowsO w.heap.size w' (.slice a n c) (kV P U V)):=by
 obtain⟨vo,vp,vc,rfl,h3⟩:=D;have r:=PresP.box h3 28;have j:Ext w (w.alloc (.cells #[vo,vp,vc] 28)):=World.grownBy_alloc _ _ _;have m:(w.alloc (.cells #[vo,vp,vc] 28)).heap.size=w.heap.size+1:=by simp
 have u:=Rows2.ext E j;have y:=Rows2.ext F j;obtain⟨R,k,rfl,_,_⟩:=Sl.shape E;obtain⟨S,l,rfl,_,_⟩:=Sl.shape F;have p:Ext (w.alloc (.cells #[vo,vp,vc] 28)) ((w.alloc (.cells #[vo,vp,vc] 28)).alloc (.cells #[.slice R U.length k,.slice S V.length l] 25)):=World.grownBy_alloc _ _ _;have T:=rows3Two u y;have i:=areSubgroups_ok P _ _ _ [U,V] Any Any (r.ext p) T;rw[m] at i;clear T E F;go_enter Tryz.func76,Tryz.ntmps76;go_wp2_with fail
 refine Calls.mono i ?_;rintro e1 H ⟨v1,rfl,eH,r1,rfl,e⟩;clear i;have e:r1=true↔jy P U V:=by rw[e];unfold jy;simp
 have b:=grown_trans p eH;have X:=Lib.hid m;clear m;generalize I:w.alloc (.cells #[vo,vp,vc] 28)=w0 at *;clear I p eH;cases r1 with
 | false=>
  obtain⟨z,_,A⟩:=th (P:=P) (U:=U) (V:=V) (λh=>by have:=e.2 h;cases this);have q:=Lib.hid (And.intro z A);clear z A e;go_wp2;go_ret2
  exact⟨_,rfl,grown_trans j b,none,0,0,by rw[q.out.1];rfl,by rw[q.out.2];exact SlO.nil _ _ _ _⟩
 | true=>
  have g:=e.1 rfl;have G:=grp_of_r g.1;have Y:=G.v.n6;obtain⟨z,_,A⟩:=pT g;have J:=g.2.1.2;have K:=g.2.2.2;have Z:=Ap P U V;have q:=Lib.hid (And.intro z (And.intro A g));clear z A e g;have L:Rows2 B H (.slice R U.length k) (cseq P (gU P U)):=by rw[<-J];exact Rows2.ext u b
  have M:Rows2 C H (.slice S V.length l) (cseq P (gU P V)):=by rw[<-K];exact Rows2.ext y b
  have aa:=Lib.hid (And.intro J K);clear J K;go_wp2_with fail
  refine Calls.mono (meet_ok P G H _ _ _ (gU P U) (gU P V) Any B C (G.subB q.out.2.2.2.1) (G.subB q.out.2.2.2.2) (r.ext b) L M) ?_;rintro e2 w2 ⟨v2,rfl,N,hO⟩;rw[<-q.out.2.1] at hO;obtain⟨az,capz,fM,_,_⟩:=SlD.shape (hO.toD (by omega));subst fM;have ab:=b.size;go_wp2;go_ret2
  exact⟨_,rfl,grown_trans j (grown_trans b N),_,_,_,by rw[q.out.1];rfl,hO.weak (by have:=X.out;omega)⟩
def fV (P:Pr) (H:List Int->Prop) (x:List Int):Prop:=Vec P.orders x/\∀y,H y->H (rConj P y x)
theorem Ar {P:Pr}{H:List Int->Prop}(S:Sub P H):genP P H=H:=
 funext λ_=>propext ⟨λh=>h H S (λ_ h=>h),λh=>genP_mem h⟩
theorem Grp.Au {P:Pr}(G:Grp P) {H:List Int->Prop}(S:Sub P H) {x:List Int}(h:fV P H x) (k:Nat):fV P H (pw P x k):=by
 induction k with
 | zero=>exact⟨G.oneV,λy hy=>by rw[pw_zero,G.conj_one (S.vec y hy)];exact hy⟩
 | succ k a=>exact⟨G.pw_vec h.1 _,λy hy=>by rw[pw_succ,<-G.conj_mul (S.vec y hy) (G.pw_vec h.1 k) h.1];exact h.2 _ (a.2 y hy)⟩
theorem Grp.l8 {P:Pr}(G:Grp P) {H:List Int->Prop}(S:Sub P H):Sub P (fV P H):=
 ⟨λ_ h=>h.1,⟨G.oneV,λy hy=>by rw[G.conj_one (S.vec y hy)];exact hy⟩,
  λx z hx a=>⟨G.mulV hx.1 a.1,λy hy=>by rw[<-G.conj_mul (S.vec y hy) hx.1 a.1];exact a.2 _ (hx.2 y hy)⟩,
  λx hx=>by obtain⟨k,hk⟩:=G.inv_pw hx.1;rw[hk];exact G.Au S hx k⟩
theorem Grp.Aw {P:Pr}(G:Grp P) {H:List Int->Prop}(S:Sub P H):(λx=>Vec P.orders x/\∀y∈cseq P H,H (rConj P y x))=fV P H:=by
 have a:=G.seq_facts S;refine funext λ_=>propext ⟨λh=>⟨h.1,λy hy => ?_⟩,λh=>⟨h.1,λy hy=>h.2 y (a.2.1 y hy)⟩⟩;have h1:genP P (λz=>z∈cseq P H) y:=by rw[G.genP_cseq S];exact hy
 exact(h1 _ (G.oO S h.1) (λz b=>⟨S.vec z (a.2.1 z b),h.2 z b⟩)).2
theorem Ax (P:Pr) (G:Grp P) (w:World) (p M F N:Value) (U:List (List Int)) (X:List Int) (H:List Int->Prop) (I O Q R:Nat->Prop) (S:Sub P H) (J:PresP I w p P) (T:Rows2 O w M U) (V:Rows2 Q w F (cseq P H)) (hx:Ints R w N X) (W:∀x∈U,Vec P.orders x) (Y:Vec P.orders X) :
  Calls Tryz.prog 140 #[p,M,F,N] w (Ret w λ_ v=>∃r:Bool,v=.bool r/\(r=true↔∀y∈U,H (rConj P y X))):=by
 have hP:=G.v;have ac:=hP.n6;obtain⟨pb,po,rfl⟩:=J.shape;obtain⟨au,capu,rfl,_,hul⟩:=Sl.shape T;obtain⟨av,nv,capv,Ay⟩:∃a n c,F=Value.slice a n c:=by obtain⟨a,c,e,_⟩:=Sl.shape V;exact⟨_,_,_,e⟩
 subst Ay;obtain⟨ax,capx,rfl,_,_⟩:=hx.shape;have E:=Lib.hid (And.intro W Y);clear W Y;go_enter Tryz.func140,Tryz.ntmps140;go_wp2;go_loopw [13] (λK wr=>∃(i:Nat),K=.int .i64 i/\i<=U.length/\Ext w wr/\Hid (∀k,k<i->H (rConj P (gt U k) X))) (λK _=>U.length-(intOf K).toNat)
 case atStart=>exact⟨0,rfl,by omega,grown_refl _ _,Lib.hid (λk hk=>by omega)⟩
 case round=>
  obtain⟨i,rfl,hi,j,hH⟩:=hrel;by_cases l:i<U.length
  ·have Z:(i:Int)<U.length:=by omega
   obtain⟨b,off,ay,capy,rfl,_,_,hc,hy⟩:=Rows2.at T i l;have C:=j.cell hc (by simp);have q:=E.out.1 _ (gtMem l);obtain⟨y,u⟩:∃y,y=gt U i:=⟨_,rfl⟩;rw[<-u] at C hy q;have D:=Lib.hid (And.intro u q);clear u q hc;go_wp2_with fail
   refine Calls.mono (conjugate_ok P hP wr _ _ _ y X I O R (J.ext j) (Ints.ext hy j) (hx.ext j) D.out.2 E.out.2) ?_;rintro eC wC ⟨vC,rfl,iL,z⟩;rw[G.iConj_eq D.out.2 E.out.2] at z;have A:=G.conjV D.out.2 E.out.2;have B:=z.ints (by rw[A.1];omega);obtain⟨aC,nC,capC,j3⟩:∃a n c,vC=Value.slice a n c:=by obtain⟨a,c,e,_⟩:=B.shape;exact⟨_,_,_,e⟩
   subst j3;have L:=Lib.hid A;clear A z C;have g:=grown_trans j iL;go_wp2_with fail
   refine Calls.mono (isMember_ok P G wC _ _ _ H (rConj P y X) I Q _ S (J.ext g) (Rows2.ext V g) B L.out) ?_;rintro eM wM ⟨vM,rfl,kW,r,rfl,hr⟩;have HR:=Lib.hid hr;clear hr B;cases r with
   | true=>
    go_wp2;go_roundw
    case rel=>exact⟨i+1,by go_num,by omega,grown_trans g kW,Lib.hid (λk hk=>by
     rcases Nat.lt_succ_iff_lt_or_eq.1 hk with h|h
     ·exact hH.out k h
     ·rw[h,<-D.out.1];exact HR.out.1 (by simp))⟩
    case measure=>simp[intOf];omega
   | false=>
    go_wp2;go_ret
    exact ⟨_,rfl,grown_trans g kW,false,rfl,by
     constructor
     ·intro h;cases h
     ·intro h
      have:=HR.out.2 (by rw[D.out.1];exact h _ (gtMem l));cases this⟩
  ·have af:i=U.length:=by omega
   have HF:=Lib.hid (show ∀y∈U,H (rConj P y X) from λy hy=>by
    obtain⟨m,hm,rfl⟩:=mem_gt hy;exact hH.out m (by omega))
   go_wp2;go_ret
   first
    | exact⟨_,rfl,j,true,rfl,by simpa using HF.out⟩
    | exact⟨_,rfl,j,.inr ⟨rfl,HF.out⟩⟩
theorem Az (P:Pr) (G:Grp P) (w:World) (p g i:Value) (c2:Nat) (H:List Int->Prop) (X:List Int) (l j m:Nat->Prop) (S:Sub P H) (q:PresP l w p P) (k:Rows2 j w g (cseq P H)) (B:w.cell? ⟨c2,0,none⟩=some g) (hx:Ints m w i X) (u:Vec P.orders X) :
  Calls Tryz.prog 143 #[i,p,.pointer (some ⟨c2,0,none⟩)] w (Ret w λ_ v=>∃r:Bool,v=.bool r/\(r=true↔∀y∈cseq P H,H (rConj P y X))):=by
 have b:=Ax P G w p g g i (cseq P H) X H l j j m S q k k hx (λy hy=>S.vec y ((G.seq_facts S).2.1 y hy)) u;obtain⟨pb,po,rfl⟩:=q.shape;obtain⟨C,nu,capu,jt⟩:∃a n c,g=Value.slice a n c:=by obtain⟨a,c,e,_⟩:=Sl.shape k;exact⟨_,_,_,e⟩
 subst jt;obtain⟨D,capx,rfl,_,_⟩:=hx.shape;have z:=Lib.hid b;clear b;go_enter Tryz.func143,Tryz.ntmps143;go_wp2_with fail
 refine Calls.mono z.out ?_;rintro E F ⟨v1,rfl,hg1,r,rfl,hr⟩;have A:=Lib.hid hr;clear hr;go_wp2;go_ret;exact⟨_,rfl,hg1,r,rfl,A.out⟩
theorem AA (P:Pr) (K:rconsB P=true) (w:World) (pv T:Value) (U:List (List Int)) (Y L:Nat->Prop) (M:PresV Y w pv P) (A:Rows2 L w T U) (N:SubB P U) :
  Calls Tryz.prog 40 #[pv,T] w (Ret w λw' v=>∃a n c,v=.tuple #[.slice a n c,.int .i64 0]/\RowsO w.heap.size w' (.slice a n c) (cseq P (fV P (gU P U)))):=by
 have G:=grp_of_r K;have Z:=G.v.n6;obtain⟨vo,vp,vc,rfl,h3⟩:=M;have k:=PresP.box h3 28;have l:Ext w (w.alloc (.cells #[vo,vp,vc] 28)):=World.grownBy_alloc _ _ _;obtain⟨j,b,rfl,_,_⟩:=Sl.shape A;have m:(w.alloc (.cells #[vo,vp,vc] 28)).heap.size=w.heap.size+1:=by simp
 have p:Ext (w.alloc (.cells #[vo,vp,vc] 28)) ((w.alloc (.cells #[vo,vp,vc] 28)).alloc (.cells #[.slice j U.length b] 25)):=World.grownBy_alloc _ _ _
 have B:((w.alloc (.cells #[vo,vp,vc] 28)).alloc (.cells #[.slice j U.length b] 25)).cell? ⟨w.heap.size+1,0,none⟩=some (.slice j U.length b):=by
  rw[<-m,World.cell?_alloc_at _ _ _ _ rfl];rfl
 have C:((w.alloc (.cells #[vo,vp,vc] 28)).alloc (.cells #[.slice j U.length b] 25)).heap.size=w.heap.size+1+1:=by simp
 have D:=k.ext p;have q:=grown_trans l p;have E:=Rows2.ext A q;have V:=rows3One E;have r:Ext ((w.alloc (.cells #[vo,vp,vc] 28)).alloc (.cells #[.slice j U.length b] 25)) (((w.alloc (.cells #[vo,vp,vc] 28)).alloc (.cells #[.slice j U.length b] 25)).alloc (.cells #[.slice j U.length b] 25)):=World.grownBy_alloc _ _ _;have i:=areSubgroups_ok P _ _ _ [U] Any Any (D.ext r) V;rw[C] at i;have S:=G.subB N;have z:=Lib.hid (And.intro K (And.intro N S));clear K V A m k l p C N;go_enter Tryz.func40,Tryz.ntmps40;go_wp2_with fail
 refine Calls.mono i ?_;rintro e1 W ⟨v1,rfl,eH,r1,rfl,hr1⟩;clear i;obtain rfl:r1=true:=hr1.2 (by have:=z.out;simp only[List.mem_cons,List.mem_nil_iff,or_false];exact⟨this.1,λu A=>by subst A;exact this.2.1⟩);clear hr1;have g:=grown_trans r eH;generalize (w.alloc (.cells #[vo,vp,vc] 28)).alloc (.cells #[.slice j U.length b] 25)=w0 at *;clear r eH;have F:=D.ext g;have H:=g.cell B (by simp)
 have I:Rows2 L W (.slice j U.length b) (cseq P (gU P U)):=by
  have h:=Rows2.ext E g;have e:cseq P (gU P U)=U:=z.out.2.1.2.symm;rw[e];exact h
 have J:=G.Aw z.out.2.2;have O:=Ao P G W (.pointer (some ⟨w.heap.size,0,none⟩)) (.pointer (some ⟨w.heap.size,0,none⟩)) (.pointer (some ⟨w.heap.size+1,0,none⟩)) (λx=>∀y∈cseq P (gU P U),gU P U (rConj P y x)) Any F (λw' xv X Sx Q hx hX=>Az P G w' _ _ xv (w.heap.size+1) (gU P U) X Any L Sx z.out.2.2 (F.ext Q) (Rows2.ext I Q) (Q.cell H (by simp)) hx hX);rw[J,Ar (G.l8 z.out.2.2)] at O;have HE:=Lib.hid O;clear O J I H B;go_wp2_with fail
 refine Calls.mono HE.out ?_;rintro e2 w2 ⟨v2,rfl,R,hO⟩;have ag:=G.cseq_len (G.l8 z.out.2.2);obtain⟨ad,nd,AB,pU⟩:∃a n c,v2=Value.slice a n c:=by obtain⟨a,c,e,_⟩:=SlD.shape (hO.toD (by omega));exact⟨_,_,_,e⟩
 subst pU;have HO:=Lib.hid hO;clear hO;go_wp2;go_ret2
 exact⟨_,rfl,grown_trans q (grown_trans g R),_,_,_,rfl,HO.out.weak (by have:=g.size;have:=q.size;omega)⟩
end Go.Proofs.YtdcobapnlpeaaaaGreat
namespace Go.Proofs.YtdcobapnlpeaaaaGreat
def El {P:Pr}(_:Grp P):Type := {x:List Int // Vec P.orders x}
section
variable {P:Pr}{G:Grp P}
instance:Mul (El G):=⟨λx y=>⟨rMul P x.1 y.1,G.mulV x.2 y.2⟩⟩
instance:One (El G):=⟨⟨zeros P.orders.length,G.oneV⟩⟩
instance:Inv (El G):=⟨λx=>⟨rInv P x.1,G.invV x.2⟩⟩
theorem El.ass (x y z:El G):x*y*z=x*(y*z):=Subtype.ext (G.ass x.2 y.2 z.2)
theorem El.ol (x:El G):1*x=x:=Subtype.ext (G.grp.el _ x.2)
theorem El.or (x:El G):x*1=x:=Subtype.ext (G.grp.er _ x.2)
theorem El.il (x:El G):x⁻¹ * x=1:=Subtype.ext (G.inv_mul x.2)
theorem El.ir (x:El G):x*x⁻¹ = 1:=Subtype.ext (G.mul_inv x.2)
theorem El.pV (x y:El G):x⁻¹ * (x*y)=y:=by rw[<-El.ass,El.il,El.ol]
theorem El.AD (x y:El G):x*(x⁻¹ * y)=y:=by rw[<-El.ass,El.ir,El.ol]
theorem El.inv_of {x y:El G}(h:x*y=1):y=x⁻¹ :=by rw[<-El.pV x y,h,El.or]
structure SG (H:El G->Prop):Prop where
 one:H 1
 mul:∀x y,H x->H y->H (x*y)
 inv:∀x,H x->H x⁻¹
theorem pW (G:Grp P):∃l:List (El G),l.Nodup/\∀x,x∈l:=by
 have key:∀m:List (List Int),m.Nodup->∃l:List (El G),l.Nodup/\∀x:El G,x∈l↔x.1∈m:=by
  intro m;induction m with
  | nil=>intro _;exact⟨[],List.nodup_nil,λx=>by simp⟩
  | cons a m j=>
   intro h;obtain⟨h1,g⟩:=List.nodup_cons.1 h;obtain⟨l,hl,i⟩:=j g;by_cases ha:Vec P.orders a
   ·obtain ⟨y,hy⟩:∃y:El G,y.1=a:=⟨⟨a,ha⟩,rfl⟩
    refine⟨y :: l,List.nodup_cons.2 ⟨λb=>h1 (hy▸(i _).1 b),hl⟩,λx => ?_⟩;rw[List.mem_cons,List.mem_cons,i x];exact⟨λb=>b.elim (λe => .inl (by rw[e];exact hy)) .inr,λb=>b.elim (λe => .inl (Subtype.ext (e.trans hy.symm))) .inr⟩
   ·refine ⟨l,hl,λx => ?_⟩
    rw[i x,List.mem_cons];exact⟨.inr,λb=>b.elim (λe=>absurd (e▸x.2) ha) id⟩
 obtain⟨l,h1,g⟩:=key (elemsIn P (Vec P.orders)) (mV G.v _);exact⟨l,h1,λx=>(g x).2 ((elemsIn_mem G.v (λ_ h=>h)) x.1 |>.2 x.2)⟩
noncomputable def els (G:Grp P):List (El G):=Classical.choose (pW G)
theorem AE (G:Grp P):(els G).Nodup:=(Classical.choose_spec (pW G)).1
theorem AG (G:Grp P) (x:El G):x∈els G:=(Classical.choose_spec (pW G)).2 x
open Classical in
noncomputable def kX (H:El G->Prop):List (El G):=(els G).filter (λx=>decide (H x))
theorem pX (H:El G->Prop):(kX H).Nodup:=(AE G).filter _
theorem jP {H:El G->Prop}{x:El G} : x∈kX H↔H x:=by
 classical
 unfold kX;rw[List.mem_filter,decide_eq_true_iff];exact⟨λh=>h.2,λh=>⟨AG G x,h⟩⟩
noncomputable def cd (H:El G->Prop):Nat:=(kX H).length
theorem tj {H:El G->Prop}{l:List (El G)}(h1:l.Nodup) (a:∀x,x∈l↔H x):cd H=l.length:=
 ((List.perm_ext_iff_of_nodup (pX H) h1).2 (λx=>jP.trans (a x).symm)).length_eq
theorem AH {H:El G->Prop}(S:SG H):0<cd H:=List.length_pos_of_mem (jP.2 S.one)
def eqv (N:El G->Prop) (x y:El G):Prop:=N (x⁻¹ * y)
theorem AJ {N:El G->Prop}(S:SG N) (x:El G):eqv N x x:=by unfold eqv;rw[El.il];exact S.one
theorem AK {α a:Type}(l:List α) (f:α->List a) (n:Nat) (h:∀x∈l,(f x).length=n):(l.flatMap f).length=l.length*n:=flatMap_len' l f n h
theorem AL {N B:El G->Prop}(S:SG N) {ts:List (El G)}(k:ts.Nodup) (p:∀t∈ts,∀n,N n->B (t*n)) (h1:∀t∈ts,∀u∈ts,eqv N t u->t=u) (q:∀x,B x->∃t∈ts,eqv N t x):cd B=ts.length*cd N:=by
 rw[tj (H:=B) (l:=ts.flatMap (λt=>(kX N).map (λn=>t*n))) ?_ ?_]
 ·exact AK _ _ _ (λx _=>List.length_map ..)
 ·refine List.nodup_iff_pairwise_ne.2 (List.pairwise_flatMap.2 ⟨λt _ => ?_,?_⟩)
  ·rw [List.pairwise_map]
   refine(List.nodup_iff_pairwise_ne.1 (pX N)).imp (λ{a b} g e=>g ?_);have:=congrArg (λz=>t⁻¹ * z) e;simpa only[El.pV] using this
  ·refine (List.nodup_iff_pairwise_ne.1 k).imp_of_mem (λ{a b} ha r g x hx y hy e=>g (h1 a ha b r ?_))
   obtain⟨n,i,rfl⟩:=List.mem_map.1 hx;obtain⟨m,j,rfl⟩:=List.mem_map.1 hy;unfold eqv
   have v:a⁻¹ * b=n*m⁻¹ :=by
    have w:b=a*n*m⁻¹ :=by rw[e,El.ass,El.ir,El.or]
    rw[w,El.ass,El.pV]
   rw[v];exact S.mul _ _ (jP.1 i) (S.inv _ (jP.1 j))
 ·intro x
  rw[List.mem_flatMap];constructor
  ·rintro ⟨t,ht,hx⟩
   obtain⟨n,i,rfl⟩:=List.mem_map.1 hx;exact p t ht n (jP.1 i)
  ·intro hx
   obtain⟨t,ht,h⟩:=q x hx;exact⟨t,ht,List.mem_map.2 ⟨t⁻¹ * x,jP.2 h,El.AD t x⟩⟩
end
end Go.Proofs.YtdcobapnlpeaaaaGreat
namespace Go.Proofs.YtdcobapnlpeaaaaGreat
open Go.RowKit
section
variable {P:Pr}{G:Grp P}
def kY (G:Grp P) (H:List Int->Prop):El G->Prop:=λx=>H x.1
theorem pY {H:List Int->Prop}(S:Sub P H):SG (kY G H):=⟨S.one,λ_ _ h k=>S.mul _ _ h k,λ_ h=>S.inv _ h⟩
theorem tq {H:List Int->Prop}(S:Sub P H):prodU P (cseq P H) (cseq P H).length=(cd (kY G H):Int):=by
 rw[G.oP S]
 have h1:((kX (kY G H)).map (λx:El G=>x.1)).Nodup:=by
  refine List.nodup_iff_pairwise_ne.2 ?_;rw[List.pairwise_map];exact(List.nodup_iff_pairwise_ne.1 (pX _)).imp (λ{a b} g e=>g (Subtype.ext e))
 have i:=(List.perm_ext_iff_of_nodup (mV G.v H) h1).2 (λx=>by
  rw[elemsIn_mem G.v S.vec,List.mem_map];constructor
  ·intro hx
   exact⟨⟨x,S.vec x hx⟩,jP.2 hx,rfl⟩
  ·rintro ⟨y,hy,rfl⟩
   exact jP.1 hy)
 rw[i.length_eq,List.length_map];rfl
end
section
variable {P:Pr}(G:Grp P)
noncomputable def jA (P:Pr) (H:List Int->Prop):Int:=prodU P (cseq P H) (cseq P H).length
include G in
theorem Grp.AO {H:List Int->Prop}(S:Sub P H):1<=jA P H:=by
 unfold jA;rw[tq (G:=G) S];have:=AH (pY (G:=G) S);omega
end
end Go.Proofs.YtdcobapnlpeaaaaGreat
namespace Go.Proofs.YtdcobapnlpeaaaaGreat
section
variable {P:Pr}(G:Grp P)
include G
theorem Grp.AP {C:List Int->Prop}(S:Sub P C) {g:List Int}(a:Vec P.orders g) (h:∀x,C x->C (rConj P x g)):fH P C g=C:=by
 have e:=G.invV a
 have b:∀k x,C x->C (rConj P x (pw P g k)):=λk=>by
  induction k with
  | zero=>intro x hx;rw[pw_zero,G.conj_one (S.vec x hx)];exact hx
  | succ k i=>
   intro x hx;rw[pw_succ,<-G.conj_mul (S.vec x hx) (G.pw_vec a k) a];exact h _ (i x hx)
 refine funext λx=>propext ⟨?_,λhx => ?_⟩
 ·rintro⟨y,hy,rfl⟩;exact h y hy
 ·obtain ⟨k,hk⟩:=G.inv_pw a
  have h1:=b k x hx;rw[<-hk] at h1;refine⟨_,h1,?_⟩;rw[G.conj_mul (S.vec x hx) e a,G.inv_mul a,G.conj_one (S.vec x hx)]
end
section
variable {P:Pr}(G:Grp P)
include G
theorem Grp.AQ {H K:List Int->Prop}(S:Sub P H) (T:Sub P K) (h:cseq P H=cseq P K):H=K:=by
 rw[<-G.genP_cseq S,<-G.genP_cseq T,h]
theorem Grp.AR {H:List Int->Prop}(S:Sub P H) {w:List Int}(h:fV P H w):fH P H w=H:=G.AP S h.1 h.2
theorem Grp.AU {H:List Int->Prop}(S:Sub P H) {x t:List Int}(hx:Vec P.orders x) (a:Vec P.orders t):fH P H x=fH P H t↔fV P H (rMul P x (rInv P t)):=by
 have b:=G.invV a;have g:=G.mulV hx b;constructor
 ·intro h
  refine⟨g,λy hy => ?_⟩;have h1:fH P H x (rConj P y x):=⟨y,hy,rfl⟩;rw[h] at h1;obtain⟨z,i,e⟩:=h1;rw[<-G.conj_mul (S.vec y hy) hx b,e,G.conj_back (S.vec z i) a];exact i
 ·intro h
  have e:rMul P (rMul P x (rInv P t)) t=x:=by rw[G.ass hx b a,G.inv_mul a,G.grp.er _ hx]
  rw[<-e,<-G.rS S g a,G.AR S h]
end
open Classical in
noncomputable def gu (P:Pr) (H:List Int->Prop):Nat->List (List (List Int))
 | 0=>[]
 | t+1=>if cseq P (fH P H (elAt P t))∈gu P H t then gu P H t else gu P H t++[cseq P (fH P H (elAt P t))]
theorem AV {P:Pr}{H:List Int->Prop}{t:Nat}(h:cseq P (fH P H (elAt P t))∈gu P H t):gu P H (t+1)=gu P H t:=by unfold gu;rw[if_pos h];cases t<;>rfl
theorem AW {P:Pr}{H:List Int->Prop}{t:Nat}(h:¬cseq P (fH P H (elAt P t))∈gu P H t):gu P H (t+1)=gu P H t++[cseq P (fH P H (elAt P t))]:=by
 rw[gu,if_neg h]
theorem tr (P:Pr) (H:List Int->Prop) (t:Nat):∃k:List Nat,gu P H t=k.map (λi=>cseq P (fH P H (elAt P (i:Nat))))/\(∀i∈k,i<t)/\(k.map (λi=>cseq P (fH P H (elAt P (i:Nat))))).Nodup/\∀j,j<t->cseq P (fH P H (elAt P (j:Nat)))∈gu P H t:=by
 induction t with
 | zero=>exact⟨[],rfl,by simp,by simp,λj l=>by omega⟩
 | succ t q=>
  obtain⟨k,h1,h2,h3,p⟩:=q;by_cases h:cseq P (fH P H (elAt P t))∈gu P H t
  ·rw [AV h]
   refine⟨k,h1,λi m=>by have:=h2 i m;omega,h3,λj l => ?_⟩;rcases Nat.lt_succ_iff_lt_or_eq.1 l with g|g
   ·exact p j g
   ·rw[g];exact h
  ·rw [AW h]
   refine⟨k++[t],by rw[List.map_append,<-h1];rfl,λi m => ?_,?_,λj l => ?_⟩
   ·rcases List.mem_append.1 m with g|g
    ·have:=h2 i g;omega
    ·have:i=t:=by simpa using g
     omega
   ·rw [List.map_append,List.nodup_append]
    refine⟨h3,by simp,λa ha b r e=>h ?_⟩;have n:b=cseq P (fH P H (elAt P t)):=by simpa using r
    rw[<-n,<-e,h1];exact ha
   ·rcases Nat.lt_succ_iff_lt_or_eq.1 l with g|g
    ·exact List.mem_append_left _ (p j g)
    ·rw[g];exact List.mem_append_right _ (by simp)
theorem AX {α k:Type}{f:α->k}{l:List α}(h:(l.map f).Nodup) {a b:α}(ha:a∈l) (j:b∈l) (e:f a=f b):a=b:=by
 induction l with
 | nil=>cases ha
 | cons c l m=>
  rw[List.map_cons,List.nodup_cons] at h;rcases List.mem_cons.1 ha with rfl|i
  ·rcases List.mem_cons.1 j with rfl|g
   ·rfl
   ·exact absurd (List.mem_map.2 ⟨b,g,e.symm⟩) h.1
  ·rcases List.mem_cons.1 j with rfl|g
   ·exact absurd (List.mem_map.2 ⟨a,i,e⟩) h.1
   ·exact m h.2 i g
theorem Grp.AY {P:Pr}(G:Grp P) {H:List Int->Prop}(S:Sub P H):((gu P H (ordP P).toNat).length:Int)*jA P (fV P H)=ordP P:=by
 have hP:=G.v;have I:=hP.ordP_pos;obtain⟨J,h1,h2,y,h4⟩:=tr P H (ordP P).toNat;have r:=G.l8 S;let z:Nat->El G:=λi=>⟨elAt P (i:Nat),elAt_vec hP _ (by omega)⟩
 let k:Nat->El G:=λi=>(z i)⁻¹
 have key:∀i j:Nat,eqv (kY G (fV P H)) (k i) (k j)↔cseq P (fH P H (elAt P (i:Nat)))=cseq P (fH P H (elAt P (j:Nat))):=λi j=>by
  have m:=elAt_vec hP (i:Int) (by omega);have n:=elAt_vec hP (j:Int) (by omega)
  have e:eqv (kY G (fV P H)) (k i) (k j)↔fV P H (rMul P (elAt P (i:Nat)) (rInv P (elAt P (j:Nat)))):=by
   show fV P H (rMul P (rInv P (rInv P (elAt P (i:Nat)))) (rInv P (elAt P (j:Nat))))↔_
   rw[G.inv_inv m]
  rw[e,<-G.AU S m n];exact⟨λh=>by rw[h],λh=>G.AQ (G.kJ S m) (G.kJ S n) h⟩
 have p:cd (λ_:El G=>True)=(ordP P).toNat:=by
  rw[tj (H:=λ_:El G=>True) (l:=(List.range (ordP P).toNat).map z) ?_ ?_]
  ·rw[List.length_map,List.length_range]
  ·rw [List.nodup_iff_pairwise_ne,List.pairwise_map]
   refine(List.pairwise_lt_range).imp_of_mem (λ{a b} ha A q e => ?_);have K:elAt P (a:Nat)=elAt P (b:Nat):=congrArg Subtype.val e;have L:=List.mem_range.1 ha;have M:=List.mem_range.1 A;have O:=num_elAt hP (a:Int) (by omega) (by omega);have Q:=num_elAt hP (b:Int) (by omega) (by omega);rw[K,Q] at O;omega
  ·intro x
   refine⟨λ_=>trivial,λ_=>List.mem_map.2 ⟨(num P x.1).toNat,?_,Subtype.ext ?_⟩⟩
   ·have:=num_bd hP x.2;rw[List.mem_range];omega
   ·have:=num_bd hP x.2
    show elAt P (((num P x.1).toNat:Nat):Int)=x.1
    rw[show(((num P x.1).toNat:Nat):Int)=num P x.1 by omega];exact elAt_num hP x.2
 have C:=AL (N:=kY G (fV P H)) (B:=λ_:El G=>True) (pY r) (ts:=J.map k) ?_ (λ_ _ _ _=>trivial) ?_ ?_
 ·rw [p,List.length_map] at C
  have R:=tq (G:=G) r;rw[h1,List.length_map];unfold jA;rw[R,<-Int.natCast_mul,<-C];omega
 ·rw [List.nodup_iff_pairwise_ne,List.pairwise_map]
  have D:=List.nodup_iff_pairwise_ne.1 y;rw[List.pairwise_map] at D;refine D.imp (λ{a b} q e=>q ?_);have:=(key a b).1 (by rw[e];exact AJ (pY r) _);exact this
 ·intro t T u U h
  obtain⟨i,w,rfl⟩:=List.mem_map.1 T;obtain⟨j,V,rfl⟩:=List.mem_map.1 U;rw[AX y w V ((key i j).1 h)]
 ·intro x _
  have E:=G.invV x.2;have A:=num_bd hP E;have g:=h4 (num P (rInv P x.1)).toNat (by omega);rw[h1] at g;obtain⟨i,w,W⟩:=List.mem_map.1 g;refine⟨k i,List.mem_map.2 ⟨i,w,rfl⟩,?_⟩;have F:=(key i (num P (rInv P x.1)).toNat).2 W
  have X:k (num P (rInv P x.1)).toNat=x:=by
   apply Subtype.ext;show rInv P (elAt P (((num P (rInv P x.1)).toNat:Nat):Int))=x.1
   rw[show(((num P (rInv P x.1)).toNat:Nat):Int)=num P (rInv P x.1) by omega,elAt_num hP E,G.inv_inv x.2]
  rw[X] at F;exact F
end Go.Proofs.YtdcobapnlpeaaaaGreat
namespace Go.Proofs.YtdcobapnlpeaaaaGreat
open Go.RowKit
def iN:List Nat->Nat
 | []=>0
 | a :: l=>a+iN l
theorem AZ (l m:List Nat):iN (l++m)=iN l+iN m:=by
 induction l with
 | nil=>simp[iN]
 | cons a l b=>simp only[List.cons_append,iN,b];omega
section
variable {P:Pr}(G:Grp P)
include G
omit G in
theorem tu (P:Pr) (L:List (List (List Int))):∀k,(dL P L k).seen.length=iN (dL P L k).sizes
 | 0=>rfl
 | k + 1=>by
  have a:=tu P L k;by_cases h:gt L k∈(dL P L k).seen
  ·rw[jo h];exact a
  ·rw [jq h]
   show(fC P (gt L k) (dL P L k).seen (ordP P).toNat).1.length=iN ((dL P L k).sizes++[_])
   rw[nL,AZ,a];simp[iN]
theorem Grp.A0 {L:List (List (List Int))}(h:LatL P L):iN (dL P L L.length).sizes=L.length:=by
 have i:∀u∈L,SubB P u:=λu p=>(h.2 u).1 p;have m:=G.kO i L.length (Nat.le_refl _);have g:=G.l6 i L.length (Nat.le_refl _);have q:L.Nodup:=List.nodup_iff_pairwise_ne.2 (h.1.imp (λ{a b} k e=>by subst e;exact subLt_irrefl k));rw[<-tu];refine((List.perm_ext_iff_of_nodup m.one q).2 (λv => ?_)).length_eq;constructor
 ·intro l;exact(h.2 v).2 (m.sub v l)
 ·intro l
  obtain⟨j,n,e⟩:=mem_gt l;exact(g v).2 ⟨j,n,_,G.oneV,by rw[G.oZ (i _ (gt_mem n)),e]⟩
theorem Grp.tA {L:List (List (List Int))}(p:∀u∈L,SubB P u):∀k,k<=L.length->∀i,i<(dL P L k).firsts.length->((gt (dL P L k).sizes i:Nat):Int)*jA P (fV P (gP P (gt (dL P L k).firsts i)))=ordP P
 | 0,_,i,l=>by simp[dL] at l
 | k + 1, hk,i,l=>by
  have H:=Grp.tA p k (by omega);have B:=p _ (gt_mem (show k<L.length by omega));by_cases h:gt L k∈(dL P L k).seen
  ·rw[jo h] at l ⊢;exact H i l
  ·rw [jq h] at l ⊢
   show((gt ((dL P L k).sizes++[_]) i:Nat):Int)*jA P (fV P (gP P (gt ((dL P L k).firsts++[gt L k]) i)))=ordP P
   have C:=(j7 P L k).2;by_cases q:i<(dL P L k).firsts.length
   ·rw [gt_append_left _ _ _ q,gt_append_left _ _ _ (by omega)]
    exact H i q
   ·have r:i=(dL P L k).firsts.length:=by
     have l:i<((dL P L k).firsts++[gt L k]).length:=l;rw[List.length_append,List.length_singleton] at l;omega
    have K:gt ((dL P L k).firsts++[gt L k]) i=gt L k:=by rw[r,gt_concat]
    rw[K];have M:∀s:Nat,gt ((dL P L k).sizes++[s]) i=s:=λs=>by rw[r,<-C,gt_concat]
    rw[M];have S:=G.subB B;have I:=G.kO p k (by omega);have m:=G.l6 p k (by omega);have N:=G.kN B I _ (Nat.le_refl _);have w:=ny P (gt L k) (dL P L k).seen (ordP P).toNat;have z:=nL P (gt L k) (dL P L k).seen (ordP P).toNat;obtain⟨T,f1,f2,f3,f4⟩:=tr P (gP P (gt L k)) (ordP P).toNat;have n:∀j:Nat,j<(ordP P).toNat->cseq P (fH P (gP P (gt L k)) (elAt P (j:Nat)))=fI P (gt L k) (elAt P (j:Int)):=λj g=>(G.jK B (G.elAtV g)).symm
    have A:∀v∈(dL P L k).seen,v∈gu P (gP P (gt L k)) (ordP P).toNat->False:=λv O J=>by
     rw[f1] at J;obtain⟨j,g,e⟩:=List.mem_map.1 J;rw[n j (f2 j g)] at e;obtain⟨Q,hj2,y,hy,e3⟩:=(m v).1 O;refine h ((m _).2 ⟨Q,hj2,rMul P y (rInv P (elAt P (j:Int))),G.mulV hy (G.invV (G.elAtV (f2 j g))),?_⟩);rw[<-G.nk (p _ (gt_mem (by omega))) hy (G.invV (G.elAtV (f2 j g))),<-e3,<-e,G.pQ B (G.elAtV (f2 j g))]
    have D:((dL P L k).seen++gu P (gP P (gt L k)) (ordP P).toNat).Nodup:=by
     rw[List.nodup_append];refine⟨I.one,by rw[f1];exact f3,λa ha b R e=>A a ha (by rw[e];exact R)⟩
    have E:=((List.perm_ext_iff_of_nodup N.one D).2 (λv=>by
     rw[w v,List.mem_append];constructor
     ·rintro (h1|⟨j,g,e⟩)
      ·exact .inl h1
      ·refine .inr ?_
       rw[e,<-n j g];exact f4 j g
     ·rintro (h1|h1)
      ·exact .inl h1
      ·rw [f1] at h1
       obtain⟨j,g,e⟩:=List.mem_map.1 h1;exact .inr ⟨j,f2 j g,by rw[<-e,n j (f2 j g)]⟩)).length_eq
    rw[z,List.length_append] at E;have F:(fC P (gt L k) (dL P L k).seen (ordP P).toNat).2=(gu P (gP P (gt L k)) (ordP P).toNat).length:=by omega
    rw[F];exact G.AY S
end
theorem tB (F:List (List (List Int))) (Z:List Nat):∀n k,k<=n->∃M,fG F Z n=fG F Z k++M
 | 0,k,hk=>⟨[],by obtain rfl:k=0:=(by omega);simp⟩
 | n + 1,k,hk=>by
  rcases Nat.lt_or_ge k (n+1) with h|h
  ·obtain ⟨M,a⟩:=tB F Z n k (by omega)
   rw[fG];split
   ·exact⟨M++[gt F n],by rw[a,List.append_assoc]⟩
   ·exact⟨M,a⟩
  ·obtain rfl:k=n+1:=by omega
   exact⟨[],by simp⟩
theorem A1 (F:List (List (List Int))) (Z:List Nat) {n i:Nat}(b:i<n) (h1:gt Z i=1):(fG F Z i).length<(fG F Z n).length/\gt (fG F Z n) (fG F Z i).length=gt F i/\(fG F Z (i+1)).length=(fG F Z i).length+1:=by
 obtain⟨M,a⟩:=tB F Z n (i+1) (by omega);have e:fG F Z (i+1)=fG F Z i++[gt F i]:=by rw[fG,if_pos h1]
 rw[e] at a;refine⟨by rw[a,List.length_append,List.length_append,List.length_singleton];omega,?_,by rw[e,List.length_append,List.length_singleton]⟩;rw[a,gt_append_left _ _ _ (by rw[List.length_append,List.length_singleton];omega),gt_concat]
theorem A2 (F:List (List (List Int))) (Z:List Nat) {i:Nat}(h1:gt Z i≠1):fG F Z (i+1)=fG F Z i:=by rw[fG,if_neg h1]
end Go.Proofs.YtdcobapnlpeaaaaGreat
namespace Go.Proofs.YtdcobapnlpeaaaaGreat
end Go.Proofs.YtdcobapnlpeaaaaGreat
namespace Go.Proofs.YtdcobapnlpeaaaaGreat
open Go.RowKit
/-! ### the classes -/
end Go.Proofs.YtdcobapnlpeaaaaGreat
namespace Go.Proofs.YtdcobapnlpeaaaaGreat
section
variable {P:Pr}(G:Grp P)
include G
end
end Go.Proofs.YtdcobapnlpeaaaaGreat
namespace Go.Proofs.YtdcobapnlpeaaaaGreat
open Go.RowKit
theorem Bl (P:Pr) (C:rconsB P=true) (w:World) (pv:Value) (D:Nat->Prop) (p:PresV D w pv P) :
  Calls Tryz.prog 146 #[pv] w (Ret w λ_ v=>v=.tuple #[.int .i64 (ordP P),.int .i64 0]):=by
 have G:=grp_of_r C;have hP:=G.v;obtain⟨vo,vp,vc,rfl,h3⟩:=p;have q:=PresP.box h3 28;have r:Ext w (w.alloc (.cells #[vo,vp,vc] 28)):=World.grownBy_alloc _ _ _;obtain⟨b,fB,fu,_,_,hc0,k,l,m⟩:=q.at;simp only[Nat.zero_add] at k l;have u:=sIsPresentation_ok (w.alloc (.cells #[vo,vp,vc] 28)) (.agg #[b,fB,fu]) P Any ⟨_,_,_,rfl,m⟩;have A:=validB_true hP;rw[A] at u;have n:∀w',Ext (w.alloc (.cells #[vo,vp,vc] 28)) w'->w'.cell? ⟨w.heap.size,0,none⟩=some b:=λw' h=>h.cell hc0 (by simp);have E:=Lib.hid n;clear n A;go_enter Tryz.func146,Tryz.ntmps146;go_wp2_with fail
 clear hc0 k l;generalize w.alloc (.cells #[vo,vp,vc] 28)=w0 at *;refine Calls.mono u ?_;rintro I B ⟨v1,rfl,e,rfl⟩;clear u;have F:=E.out B e;have g:∀i,i<P.orders.length->1<=gt P.orders i/\gt P.orders i<=7:=λi y=>by have:=hP.ord7 i y;omega
 have j:=l07Product_ok B b P.orders Any (m.o.ext e) g
 have a:capTo P.orders P.orders.length=ordP P:=by
  have h:=capTo_le P.orders.length (λi y=>(g i y).1);have H:=hP.le729;exact h.2 (h.1.2 H)
 rw[a] at j;have z:=Lib.hid j;clear j a g;go_wp2_with fail
 refine Calls.mono z.out ?_;rintro _ _ ⟨rfl,rfl⟩;go_wp2;go_ret2
 exact⟨_,rfl,grown_trans r e,rfl⟩
theorem Bn (P:Pr) (k:rconsB P=true) (w:World) (pv:Value) (l:Nat->Prop) (g:PresV l w pv P) :
  Calls Tryz.prog 44 #[pv] w (Ret w λ_ v=>v=.int .i64 (ordP P)):=by
 have i:=Lib.hid k;clear k;obtain⟨vo,vp,vc,rfl,h3⟩:=g;have a:=PresP.box h3 28;have j:Ext w (w.alloc (.cells #[vo,vp,vc] 28)):=World.grownBy_alloc _ _ _;obtain⟨m,fB,fu,_,_,hc0,b,e,fq⟩:=a.at;simp only[Nat.zero_add] at b e;clear a;go_enter Tryz.func44,Tryz.ntmps44;go_wp2_with fail
 clear hc0 b e;refine Calls.mono (Bl P i.out _ _ _ ⟨_,_,_,rfl,fq⟩) ?_;rintro n p ⟨v1,rfl,hg1,rfl⟩;go_wp2;go_ret;exact⟨_,rfl,grown_trans j hg1,rfl⟩
end Go.Proofs.YtdcobapnlpeaaaaGreat
namespace Go.Proofs.YtdcobapnlpeaaaaGreat
section
variable {P:Pr}(G:Grp P)
include G
end
def fW:List Int->Int
 | []=>0
 | a :: l=>a+fW l
theorem Bo (l m:List Int):fW (l++m)=fW l+fW m:=by
 induction l with
 | nil=>simp[fW]
 | cons a l b=>simp only[List.cons_append,fW,b];omega
section
variable {P:Pr}(G:Grp P)
include G
end
end Go.Proofs.YtdcobapnlpeaaaaGreat
namespace Go.Proofs.YtdcobapnlpeaaaaGreat
open Go.RowKit
open Classical in
noncomputable def gF (P:Pr):List (List (List Int)):=if fk P=0/\∃L,LatL P L then j5 P else []
theorem p7 {P:Pr}{L:List (List (List Int))}(h:fk P=0) (a:LatL P L):gF P=L:=by
 unfold gF;rw[if_pos ⟨h,L,a⟩,oV a]
theorem Bp {P:Pr}(h:fk P≠0):gF P=[]:=by unfold gF;rw[if_neg (λa=>h a.1)]
theorem tJ (P:Pr):(gF P).length<=17408/\∀u∈gF P,u.length<=6/\∀x∈u,x.length<=6:=by
 by_cases h:fk P=0/\∃L,LatL P L
 ·obtain ⟨a,L,b⟩:=h
  have G:=grp_of_r (gB a).1;rw[p7 a b];exact⟨G.j6 (gB a).2 b,G.oW b⟩
 ·unfold gF;rw[if_neg h];simp
theorem Bq (P:Pr):(gF P).length<=17408:=(tJ P).1
theorem Br (P:Pr) (w:World) (pv:Value) (B:Nat->Prop) (m:PresV B w pv P) :
  Calls Tryz.prog 89 #[pv] w (Ret w λw' v=>∃a n c,v=.tuple #[.slice a n c,.int .i64 (fk P)]/\SlO (λF w u (x:List (List Int))=>RowsD F w u x) 25 w.heap.size w' (.slice a n c) (gF P)):=by
 obtain⟨vo,vp,vc,rfl,h3⟩:=m;have p:=PresP.box h3 28;have l:Ext w (w.alloc (.cells #[vo,vp,vc] 28)):=World.grownBy_alloc _ _ _;have e:=pK P _ _ Any p;go_enter Tryz.func89,Tryz.ntmps89;go_wp2_with fail
 generalize q:w.alloc (.cells #[vo,vp,vc] 28)=w0 at *;clear q;refine Calls.mono e ?_;rintro G H ⟨v1,rfl,hg1,lp,rfl,hno,hyes⟩;clear e;have g:=grown_trans l hg1;by_cases i:fk P=0
 ·obtain ⟨lb,L,rfl,r,hA⟩:=hyes i
  obtain⟨C,lv,mv,hX,hO,hM⟩:=hA;have b:=p7 i r;have y:=Bq P;rw[b] at y;obtain⟨I,lc,hlv,_,_⟩:=SlD.shape (hO.toD (by omega));subst hlv;obtain⟨c,j⟩:∃c,c=fk P:=⟨_,rfl⟩;have z:c=0:=by rw[j];exact i
  rw[<-j];have k:=Lib.hid (And.intro j (And.intro b (And.intro hO r)));clear j b hO r hM hno hyes i;subst z;obtain⟨D,hx1,hx2,hx3,jd⟩:=id hX;go_wp2;clear hx1 hx2 hx3 jd;go_ret2
  exact⟨_,rfl,g,_,_,_,by rw[<-k.out.1];rfl,by rw[k.out.2.1];exact k.out.2.2.1.weak l.size⟩
 ·have A:=hno i
  subst A;have b:=Bp i;obtain⟨c,j⟩:∃c,c=fk P:=⟨_,rfl⟩;rw[<-j] at i ⊢;have E:(c != 0)=true:=by simpa using i
  have k:=Lib.hid (And.intro j b);clear j b hno hyes;go_wp2;go_ret2
  exact⟨_,rfl,g,none,0,0,by rw[<-k.out.1];rfl,by rw[k.out.2];exact SlO.nil _ _ _ _⟩
section
variable {P:Pr}(G:Grp P)
include G
theorem Grp.tK {L:List (List (List Int))}(b:L.Pairwise (subLt P)) (i:∀v∈L,SubB P v) {a:List (List Int)}(ha:SubB P a):∃g:List (List (List Int)),g.Pairwise (subLt P)/\∀u,u∈g↔(u=a\/u∈L):=by
 classical
 refine⟨L.filter (λv=>decide (subLt P v a))++a :: L.filter (λv=>decide (subLt P a v)),?_,?_⟩
 ·rw [List.pairwise_append]
  refine⟨b.filter _,?_,?_⟩
  ·rw [List.pairwise_cons]
   exact⟨λv j=>by simpa using (List.mem_filter.1 j).2,b.filter _⟩
  ·intro x hx y hy
   have h1:subLt P x a:=by simpa using (List.mem_filter.1 hx).2
   rcases List.mem_cons.1 hy with rfl|hy
   ·exact h1
   ·exact subLt_trans h1 (by simpa using (List.mem_filter.1 hy).2)
 ·intro u
  simp only[List.mem_append,List.mem_cons,List.mem_filter,decide_eq_true_eq];constructor
  ·rintro (⟨h,_⟩|h|⟨h,_⟩)
   ·exact .inr h
   ·exact .inl h
   ·exact .inr h
  ·rintro (h|h)
   ·exact .inr (.inl h)
   ·by_cases e:u=a
    ·exact .inr (.inl e)
    ·by_cases k:subLt P u a
     ·exact .inl ⟨h,k⟩
     ·exact .inr (.inr ⟨h,subLt_total G (i u h) ha e k⟩)
theorem Grp.Bt (g:ordP P<=32) {L:List (List (List Int))}(h:L.Pairwise (subLt P)) (i:∀v∈L,SubB P v):L.length<=17408:=by
 have k:(L.map (mskU P)).Nodup:=by
  refine List.nodup_iff_pairwise_ne.2 ?_;rw[List.pairwise_map];refine h.imp_of_mem (λ{a b} ha l j e => ?_);have:=G.nh (i a ha) (i b l) e;subst this;exact subLt_irrefl j
 have:=G.few_subs g k (λm n=>by
  obtain⟨u,p,rfl⟩:=List.mem_map.1 n;exact⟨_,G.subB (i u p),rfl⟩)
 rwa [List.length_map] at this
theorem Grp.Bu (w:ordP P<=32):∀(n:Nat) (L:List (List (List Int))),L.Pairwise (subLt P)->(∀v∈L,SubB P v)->17408-L.length<=n->∃g,LatL P g:=by
 intro n;induction n with
 | zero=>
  intro L j k B;refine⟨L,j,λu=>⟨k u,λl => ?_⟩⟩;refine Decidable.byContradiction (λy => ?_);obtain⟨g,h1,r⟩:=G.tK j k l
  have m:∀v∈g,SubB P v:=λv z=>by
   rcases(r v).1 z with rfl|h
   ·exact l
   ·exact k v h
  have D:=G.Bt w h1 m;have p:(u :: L).Nodup:=List.nodup_cons.2 ⟨y,List.nodup_iff_pairwise_ne.2 (j.imp (λ{a b} q e=>by subst e;exact subLt_irrefl q))⟩;have A:=nodup_sub_len _ g p (λx hx=>(r x).2 (List.mem_cons.1 hx));rw[List.length_cons] at A;omega
 | succ n C=>
  intro L j k B;by_cases i:∀u,SubB P u->u∈L
  ·exact⟨L,j,λu=>⟨k u,i u⟩⟩
  ·obtain ⟨u,l⟩:=Classical.not_forall.1 i
   obtain⟨l,y⟩:=Classical.not_imp.1 l;obtain⟨g,h1,r⟩:=G.tK j k l
   have m:∀v∈g,SubB P v:=λv z=>by
    rcases(r v).1 z with rfl|h
    ·exact l
    ·exact k v h
   have p:(u :: L).Nodup:=List.nodup_cons.2 ⟨y,List.nodup_iff_pairwise_ne.2 (j.imp (λ{a b} q e=>by subst e;exact subLt_irrefl q))⟩;have A:=nodup_sub_len _ g p (λx hx=>(r x).2 (List.mem_cons.1 hx));rw[List.length_cons] at A;exact C g h1 m (by omega)
theorem Grp.Bv (a:ordP P<=32):∃L,LatL P L:=
 G.Bu a 17408 [] List.Pairwise.nil (λv b=>by cases b) (by simp)
end
theorem tL:∀l:List Nat,fW (dy l)=((iN l:Nat):Int)
 | []=>rfl
 | a :: l=>by
  have b:=tL l;show fW ((a:Int) :: dy l)=_
  simp only[fW,iN,b];omega
structure Bw (P:Pr) (Z:List Nat):Prop where
 len:(fJ P).length=Z.length
 z:gh P=dy Z
 sum:fW (gh P)=(((gF P).length:Nat):Int)
 pos:0<(gF P).length
 Bx:iD P=fG (fJ P) Z (fJ P).length
 sub:∀i,i<(fJ P).length->SubB P (gt (fJ P) i)
 idx:∀i,i<(fJ P).length->((gt Z i:Nat):Int)*jA P (fV P (gP P (gt (fJ P) i)))=ordP P
 le:∀i,i<(fJ P).length->((gt Z i:Nat):Int)<=1000
 mem:∀u,u∈gF P↔SubB P u
 Eb:(gF P).length<=17408
theorem Bz {P:Pr}(h:fk P=0):∃Z,Bw P Z:=by
 have G:=grp_of_r (gB h).1;have l:=(gB h).2;obtain⟨L,e⟩:=G.Bv l;have a:=p7 h e;have j:=kU h e;have q:=pR h e;have r:=j7 P L L.length;have p:∀u∈L,SubB P u:=λu v=>(e.2 u).1 v;have g:=λi b=>G.tA p L.length (Nat.le_refl _) i b;have m:=G.oQ e;have n:=G.j6 l e;have k:=G.sZ e L.length (Nat.le_refl _);refine⟨(dL P L L.length).sizes,?_,j.2,?_,?_,?_,?_,?_,?_,?_,?_⟩
 ·rw[j.1];exact r.2.symm
 ·rw[j.2,tL,G.A0 e,a]
 ·rw[a];exact m.1
 ·rw[q,j.1];exact k.symm
 ·intro i b
  rw[j.1] at b ⊢;exact p _ (lQ P (Nat.le_refl _) _ (gt_mem b))
 ·intro i b
  rw[j.1] at b ⊢;exact g i b
 ·intro i b
  rw[j.1] at b;have h1:=g i b;have w:=G.AO (G.l8 (G.subB (p _ (lQ P (Nat.le_refl _) _ (gt_mem b)))));generalize jA P (fV P (gP P (gt (dL P L L.length).firsts i)))=s at h1 w;generalize ((gt (dL P L L.length).sizes i:Nat):Int)=z at h1 ⊢;by_cases y:z<=1000
  ·exact y
  ·have:1000*1<=z*s:=Int.mul_le_mul (by omega) (by omega) (by omega) (by omega)
   omega
 ·intro u;rw[a];exact e.2 u
 ·rw[a];exact n
open Classical in
noncomputable def gG (Q:Nat->Prop) (L:List (List (List Int))):Nat->List (List (List Int))
 | 0=>[]
 | k+1=>if Q k then gG Q L k++[gt L k] else gG Q L k
theorem p8 {Q:Nat->Prop}{L:List (List (List Int))}{k:Nat}(h:Q k):gG Q L (k+1)=gG Q L k++[gt L k]:=by rw[gG,if_pos h]
theorem p9 {Q:Nat->Prop}{L:List (List (List Int))}{k:Nat}(h:¬Q k):gG Q L (k+1)=gG Q L k:=by rw[gG,if_neg h]
theorem qa (Q:Nat->Prop) (L:List (List (List Int))):∀k,(gG Q L k).length<=k
 | 0=>Nat.le_refl _
 | k+1=>by
  have:=qa Q L k;unfold gG;split
  ·rw[List.length_append,List.length_singleton];omega
  ·omega
theorem BA (Q:Nat->Prop) (c1 c2:Value) (L:List (List (List Int))) (hn:L.length<=17408) (w:World) (B lb:Nat) (p lv mv:Value) (hX:Box3 w lb p lv mv)
  (hL:SlO (λF w u (x:List (List Int))=>RowsD F w u x) 25 B w lv L) (hB:B<=w.heap.size)
  (K:∀(i:Nat) (wr:World),i<L.length->Ext w wr->Calls Tryz.prog 190 #[.int .i64 (i:Int),c1,c2] wr (Ret wr λ_ v=>∃r:Bool,v=.bool r/\(r=true↔Q i))) :
  Calls Tryz.prog 189 #[.pointer (some ⟨lb,0,none⟩),.func (.func 190) #[] #[c1,c2]] w
   (Ret w λw' v=>SlO (λF w u (x:List (List Int))=>RowsD F w u x) 25 B w' v (gG Q L L.length)):=by
 obtain⟨vs,q,D,E,M,hd,hE⟩:=hL
 obtain ⟨la,lc,hlv⟩:∃a c,lv=.slice a L.length c:=by
  rcases E.form with⟨G,e2⟩|⟨g,cp,G,_⟩
  ·have:L.length=0:=by rw[<-D,e2];rfl
   exact⟨none,0,by rw[G,this]⟩
  ·exact⟨_,_,by rw[G,D]⟩
 subst hlv;have am:=hX;obtain⟨an,hx1,hx2,hx3,jd⟩:=id hX;go_enter Tryz.func189,Tryz.ntmps189;go_wp2;clear hx1 hx2 hx3 jd;go_loopw [5,13] (λov iv wr=>∃(k:Nat) (H:Value),H=ov/\iv=.int .i64 k/\k<=L.length/\Ext w wr/\SlOA (λF w u (x:List (List Int))=>RowsD F w u x) 25 B (λb=>∃j,k<=j/\j<L.length/\q j b) wr H (gG Q L k)/\∀b,H.ownBlock=some b->w.heap.size<=b) (λ_ iv _=>L.length-(intOf iv).toNat)
 case atStart=>exact⟨0,_,rfl,rfl,by omega,Ext.refl _,⟨[],λ_ _=>False,rfl,World.ownsRow_nil _ _ _ _,by simp,by simp,by simp[gG],by simp,by simp[Value.ownBlock]⟩,by simp[Value.ownBlock]⟩
 case round=>
  obtain⟨k,H,rfl,rfl,hk,hg,hO,iq⟩:=hrel;by_cases m:k<L.length
  ·have ag:(k:Int)<L.length:=by omega
   obtain ⟨gl,hla⟩:∃gl,la=some ⟨gl,0,none⟩:=by
    rcases E.form with⟨G,e2⟩|⟨g,cp,G,_⟩
    ·have:L.length=0:=by rw[<-D,e2];rfl
     omega
    ·simp only[Value.slice.injEq] at G;exact⟨g,G.1⟩
   subst hla;have hc:=hg.cell (E.cell k (by omega)) (by simp);have I:=hE k m;obtain⟨ua,uc,ab,_,_⟩:=SlD.shape I;rw[ab] at hc I;have N:=K k wr m hg;go_wp2_with fail
   refine Calls.mono N ?_;rintro eA J ⟨vA,rfl,eH,r,rfl,Z⟩;clear N hc;have l:=grown_trans hg eH;have A:=hO.ext rdRows eH;have ac:=qa Q L k;cases r with
   | false=>
    have y:=p9 (L:=L) (λh=>by have:=Z.2 h;cases this);have e:=A.less (A':=λb=>∃j,k+1<=j/\j<L.length/\q j b) (λb ⟨j,h1,O,P⟩=>⟨j,by omega,O,P⟩);rw[<-y] at e;clear Z y hO A;go_wp2;go_roundw
    case rel=>exact⟨k+1,H,rfl,by go_num,by omega,l,e,iq⟩
    case measure=>simp[intOf];omega
   | true=>
    have y:=p8 (L:=L) (Z.1 rfl);have e:=A.less (A':=λb=>(∃j,k<=j/\j<L.length/\q j b)/\b<J.heap.size) (λb h=>h.1);have R:RowsD (q k) J (.slice ua (gt L k).length uc) (gt L k):=rdRows.mono I (λb z m=>⟨z,Nat.lt_of_lt_of_le m l.size,l.block b m (by simp)⟩);have ar:=e.avoids;have S:∀b,q k b->b<J.heap.size->((∃j,k<=j/\j<L.length/\q j b)/\b<J.heap.size)/\B<=b:=λb z C=>⟨⟨⟨k,by omega,m,z⟩,C⟩,(M k b m z).1⟩;have T:∀b,(∃j,k+1<=j/\j<L.length/\q j b)->((∃j,k<=j/\j<L.length/\q j b)/\b<J.heap.size)/\¬q k b:=λb ⟨j,h1,O,P⟩=>⟨⟨⟨j,by omega,O,P⟩,by have:=(M j b O P).2.2;have:=l.size;omega⟩,λh4=>by have:=hd j k b O m P h4;omega⟩;have U:=Lib.hid (And.intro y (And.intro e (And.intro R (And.intro S T))));clear Z y hO A e R S T;have av:=l.size;go_wp2_with (first|(at_builtin;refine rX rfl _ _ rfl B (λb=>(∃j,k<=j/\j<L.length/\q j b)/\b<J.heap.size) (λb=>∃j,k+1<=j/\j<L.length/\q j b) (q k) J H _ (gG Q L k) (gt L k) rfl U.out.2.1 U.out.2.2.1 U.out.2.2.2.1 U.out.2.2.2.2 (λb z=>z.2) rfl rfl (by omega) (by omega) ?_;intro v8 w8 V ad ae)|fail)
    have W:Ext w w8:=grown_own l ad (λb z C=>by have:=iq b z;omega)
    have X:∀b,v8.ownBlock=some b->w.heap.size<=b:=λb z=>by
     rcases ae with h|h
     ·exact iq b (by rw[<-h];exact z)
     ·have:=h b z;omega
    rw[<-U.out.1] at V;go_roundw
    case rel=>exact⟨k+1,v8,rfl,by go_num,by omega,W,V,X⟩
    case measure=>simp[intOf];omega
  ·have Y:k=L.length:=by omega
   have e:=hO.o;rw[Y] at e
   obtain ⟨az,nz,cz,fM⟩:∃a n c,H=.slice a n c:=by
    have ac:=qa Q L L.length;obtain⟨a,c,h,_⟩:=SlD.shape (e.toD (by omega));exact⟨_,_,_,h⟩
   subst fM;have ax:¬(k:Int)<L.length:=by omega
   clear hO Y;go_wp2;go_ret;exact⟨_,rfl,hg,e⟩
theorem tM (P:Pr) (L:List (List (List Int))):∀k,gG (λi=>gQ P (gP P (gt L i))) L k=gC P L k
 | 0=>rfl
 | k+1=>by
  have a:=tM P L k;by_cases h:gQ P (gP P (gt L k))
  ·rw[p8 (Q:=λi=>gQ P (gP P (gt L i))) h,sW h,a]
  ·rw[p9 (Q:=λi=>gQ P (gP P (gt L i))) h,pN h,a]
section
variable {P:Pr}(G:Grp P)
include G
end
theorem BC {B:Nat}{w:World}{lv:Value}{L:List (List (List Int))}(h:SlO (λF w u (x:List (List Int))=>RowsD F w u x) 25 B w lv L) {i:Nat}(p:i<L.length) :
  ∃g c j k,lv=.slice (some ⟨g,0,none⟩) L.length c/\w.cell? ⟨g,i,none⟩=some (.slice j (gt L i).length k)/\Rows2 Any w (.slice j (gt L i).length k) (gt L i):=by
 obtain⟨q,Gb,b,e,Ec,hd,hE⟩:=h;rcases e.form with⟨m,e2⟩|⟨g,cp,m,_⟩
 ·have:L.length=0:=by rw[<-b,e2];rfl
  omega
 ·subst m
  have n:=e.cell i (by omega);have a:=hE i p;obtain⟨j,k,l,_,_⟩:=SlD.shape a;rw[l] at n a;refine⟨g,cp,j,k,by rw[b],n,Rows2.sub (RowsD.rows a) (λ_ _ _=>trivial)⟩
theorem BD (P:Pr) (G:Grp P) (L:List (List (List Int))) (A:LatL P L) (w:World) (B lb m i:Nat) (k p lv mv:Value) (n:Nat->Prop) (q:i<L.length) (C:Box3 w lb p lv mv) (y:PresP n w k P)
  (l:SlO (λF w u (x:List (List Int))=>RowsD F w u x) 25 B w lv L) (hx:w.cell? ⟨m,0,none⟩=some (.pointer (some ⟨lb,0,none⟩))) :
  Calls Tryz.prog 190 #[.int .i64 (i:Int),k,.pointer (some ⟨m,0,none⟩)] w (Ret w λ_ v=>∃r:Bool,v=.bool r/\(r=true↔gQ P (gP P (gt L i)))):=by
 have b:=(A.2 _).1 (gt_mem q);have S:=G.subB b;obtain⟨g,c,D,E,rfl,hc,hR⟩:=BC l q;have e:cseq P (genP P λx=>x∈gt L i)=gt L i:=b.2.symm;have j:Rows2 Any w (.slice D (gt L i).length E) (cseq P (genP P λx=>x∈gt L i)):=by rw[e];exact hR
 have z:=xJ P G w k _ _ n Any S y j;have a:=G.xP S;obtain⟨pb,po,rfl⟩:=y.shape;obtain⟨H,hx1,hx2,hx3,jd⟩:=id C;have I:(i:Int)<L.length:=by omega
 have J:=Lib.hid a;clear a e hR j b;go_enter Tryz.func190,Tryz.ntmps190;go_wp2_with fail
 refine Calls.mono z ?_;rintro M N ⟨v1,rfl,hg1,r,rfl,hr⟩;have K:=Lib.hid hr;clear hr z;go_wp2;go_ret;exact⟨_,rfl,hg1,r,rfl,K.out.trans J.out⟩
theorem BF (P:Pr) (w:World) (pv:Value) (Q:Nat->Prop) (I:PresV Q w pv P) :
  Calls Tryz.prog 90 #[pv] w (Ret w λw' v=>∃a n c,v=.tuple #[.slice a n c,.int .i64 (fk P)]/\SlO (λF w u (x:List (List Int))=>RowsD F w u x) 25 w.heap.size w' (.slice a n c) (iD P)):=by
 obtain⟨vo,vp,vc,rfl,h3⟩:=I;have B:=PresP.box h3 28;have C:Ext w (w.alloc (.cells #[vo,vp,vc] 28)):=World.grownBy_alloc _ _ _;have k:=pK P _ _ Any B;go_enter Tryz.func90,Tryz.ntmps90;go_wp2_with fail
 generalize J:w.alloc (.cells #[vo,vp,vc] 28)=w0 at *;clear J;refine Calls.mono k ?_;rintro W l ⟨v1,rfl,q,lp,rfl,hno,hyes⟩;clear k;have m:=grown_trans C q;by_cases g:fk P=0
 ·obtain ⟨lb,L,rfl,hL,hA⟩:=hyes g
  obtain⟨R,lv,mv,hX,hO,hM⟩:=hA;have G:=grp_of_r (gB g).1;have K:=(gB g).2;have e:=pR g hL;have S:=Ah P;have D:=G.j6 K hL;have b:Ext l (l.alloc (.cells #[.pointer (some ⟨lb,0,none⟩)] 151)):=World.grownBy_alloc _ _ _;have hx:(l.alloc (.cells #[.pointer (some ⟨lb,0,none⟩)] 151)).cell? ⟨l.heap.size,0,none⟩=some (.pointer (some ⟨lb,0,none⟩)):=by rw[World.cell?_alloc_at _ _ _ _ rfl];rfl
  have r:=hX.ext b;have y:=hO.ext rdRows b;have E:=B.ext (grown_trans q b)
  have z:=BA (λi=>gQ P (gP P (gt L i))) (.pointer (some ⟨w.heap.size,0,none⟩)) (.pointer (some ⟨l.heap.size,0,none⟩)) L D _ w0.heap.size lb _ lv mv r y (Nat.le_trans q.size b.size)
   (λi wr T j=>BD P G L hL wr w0.heap.size lb l.heap.size i _ _ lv mv Any T (r.ext j) (E.ext j) (y.ext rdRows j) (j.cell hx (by simp)))
  rw[tM] at z;obtain⟨c,p⟩:∃c,c=fk P:=⟨_,rfl⟩;have M:c=0:=by rw[p];exact g
  rw[<-p];have A:=Lib.hid (And.intro p (And.intro e (And.intro b hx)));clear p e hO hL hM y hno hyes g hX r b hx E;subst M;go_wp2_with fail
  refine Calls.mono z ?_;rintro X Y ⟨Z,rfl,N,H⟩;clear z;rw[<-A.out.2.1] at H;obtain⟨ra,rc,pM,_,_⟩:=SlD.shape (H.toD (by omega));subst pM;have U:=Lib.hid H;clear H;go_wp2;go_ret2
  exact⟨_,rfl,grown_trans m (grown_trans A.out.2.2.1 N),_,_,_,by rw[<-A.out.1];rfl,U.out.weak C.size⟩
 ·have O:=hno g
  subst O;have e:=Ag g;obtain⟨c,p⟩:∃c,c=fk P:=⟨_,rfl⟩;rw[<-p] at g ⊢;have V:(c != 0)=true:=by simpa using g
  have b:Ext l (l.alloc (.cells #[.pointer none] 151)):=World.grownBy_alloc _ _ _;have A:=Lib.hid (And.intro p (And.intro e b));clear p e hno hyes b;go_wp2;go_ret2
  exact⟨_,rfl,grown_trans m A.out.2.2,none,0,0,by rw[<-A.out.1];rfl,by rw[A.out.2.1];exact SlO.nil _ _ _ _⟩
theorem tN (l:List Int) (i:Nat) (a:i<l.length):fW (l.take (i+1))=fW (l.take i)+gt l i:=by
 rw[take_succ_gt l i a,Bo];simp[fW]
theorem BG (l:List Int) (h:∀i,i<l.length->0<=gt l i/\gt l i<=1000) (k:Nat) (hk:k<=l.length):0<=fW (l.take k)/\fW (l.take k)<=1000*k:=by
 induction k with
 | zero=>simp[fW]
 | succ k a=>
  have h1:=a (by omega);have b:=h k (by omega);rw[tN l k (by omega)];omega
theorem BH (w:World) (v:Value) (l:List Int) (S:Nat->Prop) (y:Ints S w v l) (G:l.length<=100000) (z:∀i,i<l.length->0<=gt l i/\gt l i<=1000) :
  Calls Tryz.prog 66 #[v] w λe w'=>e=.returned (.int .i64 (fW l))/\w=w':=by
 obtain⟨a,cap,rfl,_,_⟩:=y.shape;have A:=Lib.hid z;clear z;go_enter Tryz.func66,Tryz.ntmps66;go_wp2;go_loop [3,4] (λC q=>∃(k:Nat) (n:Int),q=.int .i64 k/\C=.int .i64 n/\k<=l.length/\Hid (n=fW (l.take k))) (λ_ q=>l.length-(intOf q).toNat)
 case atStart=>exact⟨0,0,rfl,rfl,by omega,Lib.hid (by simp[fW])⟩
 case round=>
  obtain⟨k,n,rfl,rfl,hk,m⟩:=hrel;by_cases g:k<l.length
  ·obtain ⟨b,off,rfl,_,_,D⟩:=Ints.at y k g
   have h1:=BG l A.out k (by omega);rw[<-m.out] at h1;have B:=A.out k g;have j:n+gt l k=fW (l.take (k+1)):=by rw[tN l k g,m.out]
   generalize gt l k=x at D B j;have E:0<=n+x:=by omega
   have F:n+x<=1000000000:=by omega
   have r:=Lib.hid j;clear j h1 B m;go_wp2;go_round
   case rel=>exact⟨k+1,n+x,by go_num,rfl,by omega,r⟩
   case measure=>simp[intOf];omega
  ·have u:k=l.length:=by omega
   subst u;have p:n=fW l:=by rw[m.out,List.take_length]
   subst p;clear m;go_wp2;go_ret;exact⟨rfl,rfl⟩
theorem Ints.jB {S:Nat->Prop}{w w':World}{v:Value}{xs:List Int}(h:Ints S w v xs) (a:Ext w w'):Ints Any w' v xs:=Ints.sub (Ints.ext h a) (λ_ _ _=>trivial)
theorem Rows2.jB {S:Nat->Prop}{w w':World}{v:Value}{xs:List (List Int)}(h:Rows2 S w v xs) (a:Ext w w'):Rows2 Any w' v xs:=Rows2.sub (Rows2.ext h a) (λ_ _ _=>trivial)
theorem qd (v1 q:Value) (e g:List Int) (w:World) (z A:Nat->Prop) (h1:Ints z w v1 e) (r:Ints A w q g) :
  Calls Tryz.prog 26 #[v1,q] w (Ret w λ_ v=>v=.bool (eqB e g)):=by
 obtain⟨a,cap,rfl,_,_⟩:=h1.shape;obtain⟨a2,cap2,rfl,_,_⟩:=r.shape;by_cases l:e.length=g.length
 ·have B:((e.length:Int) != (g.length:Int))=false:=by simp[l]
  have C:e.length<=g.length/\g.length<=e.length:=by omega
  have n:=Lib.hid l;clear l;go_enter Tryz.func26,Tryz.ntmps26;go_wp2;go_loopw [5] (λi wr=>∃k:Nat,i=.int .i64 k/\k<=e.length/\Ext w wr/\∀i,i<k->gt e i=gt g i) (λi _=>e.length-(intOf i).toNat)
  case atStart=>exact⟨0,rfl,by omega,Ext.refl _,λi u=>by omega⟩
  case round=>
   obtain⟨k,rfl,hk,m,hz⟩:=hrel;have y:=Lib.hid hz;clear hz;by_cases p:k<e.length
   ·obtain ⟨b,off,rfl,_,_,hc⟩:=Ints.at (h1.ext m) k p
    obtain⟨b2,off2,rfl,_,_,hc2⟩:=Ints.at (r.ext m) k (by omega);by_cases hx:gt e k=gt g k
    ·have D:(gt e k != gt g k)=false:=by simp[hx]
     have j:=Lib.hid hx;clear hx;go_wp2;go_quiet (fail)
     go_wp2;go_roundw
     case rel=>exact⟨k+1,by go_num,by omega,grown_trans m (grown_drewN _ _ _),λi u=>by
      rcases Nat.lt_or_ge i k with h1|h1
      ·exact y.out i h1
      ·have:i=k:=by omega
       rw[this,j.out]⟩
     case measure=>simp[intOf];omega
    ·have D:(gt e k != gt g k)=true:=by simp[hx]
     have j:=Lib.hid hx;clear hx;go_wp2;go_quiet (fail)
     go_wp2;go_ret;exact ret_bool (grown_trans m (grown_drewN _ _ _)) (by rw[eqB_false_at (hx:=j.out)])
   ·go_wp2
    go_ret;exact ret_bool m (by rw[eqB_true.2 (ext_gt n.out (λi u=>y.out i (by omega)))])
 ·have B:((e.length:Int) != (g.length:Int))=true:=by simp;omega
  have n:=Lib.hid l;clear l;go_enter Tryz.func26,Tryz.ntmps26;go_wp2;go_ret;exact ret_bool (Ext.refl _) (by rw[eqB_false.2 (λh=>n.out (by rw[h]))])
theorem l9 (v1 z:Value) (g j:List (List Int)) (w:World) (G H:Nat->Prop) (h1:Rows2 G w v1 g) (A:Rows2 H w z j) :
  Calls Tryz.prog 19 #[v1,z] w (Ret w λ_ v=>v=.bool (eqB g j)):=by
 obtain⟨a,cap,rfl,_,_⟩:=Sl.shape h1;obtain⟨a2,cap2,rfl,_,_⟩:=Sl.shape A;by_cases n:g.length=j.length
 ·have I:((g.length:Int) != (j.length:Int))=false:=by simp[n]
  have J:g.length<=j.length/\j.length<=g.length:=by omega
  have u:=Lib.hid n;clear n;go_enter Tryz.func19,Tryz.ntmps19;go_wp2;go_loopw [5] (λi wr=>∃k:Nat,i=.int .i64 k/\k<=g.length/\Ext w wr/\∀i,i<k->gt g i=gt j i) (λi _=>g.length-(intOf i).toNat)
  case atStart=>exact⟨0,rfl,by omega,Ext.refl _,λi B=>by omega⟩
  case round=>
   obtain⟨k,rfl,hk,p,hz⟩:=hrel;have C:=Lib.hid hz;clear hz;by_cases y:k<g.length
   ·obtain ⟨b,off,K,c1,rfl,_,_,hc,q⟩:=Rows2.at (Rows2.ext h1 p) k y
    obtain⟨b2,off2,L,c2,rfl,_,_,hc2,r⟩:=Rows2.at (Rows2.ext A p) k (by omega);have D:∀w',Ext wr w'->w'.cell? ⟨b,off+k,none⟩=some (.slice K (gt g k).length c1):=λw' h=>h.cell hc (by simp);have E:∀w',Ext wr w'->w'.cell? ⟨b2,off2+k,none⟩=some (.slice L (gt j k).length c2):=λw' h=>h.cell hc2 (by simp);clear hc hc2;have F:k<j.length:=by omega
    go_wp2;cases hx:eqB (gt g k) (gt j k) with
    | true=>
     have l:=Lib.hid hx
     go_region_held3 (λw'=>Ext wr w') (first|exact grown_drew _ _|assumption)
      (first
       | (go_at_call 26;refine Calls.mono (Calls.rel (w0:=wr) (by assumption) (qd _ _ _ _ _ Any Any ((Ints.jB q (by assumption))) (Ints.jB r (by assumption)))) ?_;rintro M N ⟨O,rfl,m,fK,rfl⟩))
     clear D E;go_wp2;go_roundw
     case rel=>exact⟨k+1,by go_num,by omega,grown_trans p m,λi B=>by
      rcases Nat.lt_or_ge i k with h1|h1
      ·exact C.out i h1
      ·have:i=k:=by omega
       rw[this];exact eqB_true.1 l.out⟩
     case measure=>simp[intOf];omega
    | false=>
     have l:=Lib.hid hx
     go_region_held3 (λw'=>Ext wr w') (first|exact grown_drew _ _|assumption)
      (first
       | (go_at_call 26;refine Calls.mono (Calls.rel (w0:=wr) (by assumption) (qd _ _ _ _ _ Any Any (Ints.jB q (by assumption)) (Ints.jB r (by assumption)))) ?_;rintro M N ⟨O,rfl,m,fK,rfl⟩))
     clear D E;go_wp2;go_ret;exact ret_bool (grown_trans p m) (by rw[eqB_false_at (hx:=eqB_false.1 l.out)])
   ·go_wp2
    go_ret;exact ret_bool p (by rw[eqB_true.2 (ext_gt u.out (λi B=>C.out i (by omega)))])
 ·have I:((g.length:Int) != (j.length:Int))=true:=by simp;omega
  have u:=Lib.hid n;clear n;go_enter Tryz.func19,Tryz.ntmps19;go_wp2;go_ret;exact ret_bool (Ext.refl _) (by rw[eqB_false.2 (λe=>u.out (by rw[e]))])
theorem BI (v1 z:Value) (g j:List (List (List Int))) (w:World) (G H:Nat->Prop) (h1:Rows3 G w v1 g) (A:Rows3 H w z j) :
  Calls Tryz.prog 88 #[v1,z] w (Ret w λ_ v=>v=.bool (eqB g j)):=by
 obtain⟨a,cap,rfl,_,_⟩:=Sl.shape h1;obtain⟨a2,cap2,rfl,_,_⟩:=Sl.shape A;by_cases n:g.length=j.length
 ·have I:((g.length:Int) != (j.length:Int))=false:=by simp[n]
  have J:g.length<=j.length/\j.length<=g.length:=by omega
  have u:=Lib.hid n;clear n;go_enter Tryz.func88,Tryz.ntmps88;go_wp2;go_loopw [5] (λi wr=>∃k:Nat,i=.int .i64 k/\k<=g.length/\Ext w wr/\∀i,i<k->gt g i=gt j i) (λi _=>g.length-(intOf i).toNat)
  case atStart=>exact⟨0,rfl,by omega,Ext.refl _,λi B=>by omega⟩
  case round=>
   obtain⟨k,rfl,hk,p,hz⟩:=hrel;have C:=Lib.hid hz;clear hz;by_cases y:k<g.length
   ·obtain ⟨b,off,K,c1,rfl,_,_,hc,q⟩:=Rows3.at (Rows3.ext h1 p) k y
    obtain⟨b2,off2,L,c2,rfl,_,_,hc2,r⟩:=Rows3.at (Rows3.ext A p) k (by omega);have D:∀w',Ext wr w'->w'.cell? ⟨b,off+k,none⟩=some (.slice K (gt g k).length c1):=λw' h=>h.cell hc (by simp);have E:∀w',Ext wr w'->w'.cell? ⟨b2,off2+k,none⟩=some (.slice L (gt j k).length c2):=λw' h=>h.cell hc2 (by simp);clear hc hc2;have F:k<j.length:=by omega
    go_wp2;cases hx:eqB (gt g k) (gt j k) with
    | true=>
     have l:=Lib.hid hx
     go_region_held3 (λw'=>Ext wr w') (first|exact grown_drew _ _|assumption)
      (first
       | (go_at_call 19;refine Calls.mono (Calls.rel (w0:=wr) (by assumption) (l9 _ _ _ _ _ Any Any ((Rows2.jB q (by assumption))) (Rows2.jB r (by assumption)))) ?_;rintro M N ⟨O,rfl,m,fK,rfl⟩))
     clear D E;go_wp2;go_roundw
     case rel=>exact⟨k+1,by go_num,by omega,grown_trans p m,λi B=>by
      rcases Nat.lt_or_ge i k with h1|h1
      ·exact C.out i h1
      ·have:i=k:=by omega
       rw[this];exact eqB_true.1 l.out⟩
     case measure=>simp[intOf];omega
    | false=>
     have l:=Lib.hid hx
     go_region_held3 (λw'=>Ext wr w') (first|exact grown_drew _ _|assumption)
      (first
       | (go_at_call 19;refine Calls.mono (Calls.rel (w0:=wr) (by assumption) (l9 _ _ _ _ _ Any Any (Rows2.jB q (by assumption)) (Rows2.jB r (by assumption)))) ?_;rintro M N ⟨O,rfl,m,fK,rfl⟩))
     clear D E;go_wp2;go_ret;exact ret_bool (grown_trans p m) (by rw[eqB_false_at (hx:=eqB_false.1 l.out)])
   ·go_wp2
    go_ret;exact ret_bool p (by rw[eqB_true.2 (ext_gt u.out (λi B=>C.out i (by omega)))])
 ·have I:((g.length:Int) != (j.length:Int))=true:=by simp;omega
  have u:=Lib.hid n;clear n;go_enter Tryz.func88,Tryz.ntmps88;go_wp2;go_ret;exact ret_bool (Ext.refl _) (by rw[eqB_false.2 (λe=>u.out (by rw[e]))])
end Go.Proofs.YtdcobapnlpeaaaaGreat
namespace Go.Proofs.YtdcobapnlpeaaaaGreat
open Go.Proofs Go.Shelf Go.RowKit Go.Lib
def Tryz.tO_ren : Go.Shelf.Ren := ⟨fun | 4 => 253 | n => n, fun | 22 => 25 | 25 => 24 | 3 => 3 | 4 => 4 | 9 => 9 | 20 => 20 | 0 => 0 | n => n, fun | n => n⟩
theorem Tryz.tO : Go.Proofs.Lays8.n4 Tryz.prog Tryz.tO_ren := {
  mixed := by kernel_rfl
  f4 := ⟨Tryz.f253.name, by decide, Tryz.func253.trans (congrArg some (by kernel_rfl))⟩
  t0 := Tryz.underlying0
  a0 := Tryz.isAgg0
  z0 := Tryz.sizeOf0
  v0 := Tryz.zeroValue0
  t3 := Tryz.underlying3
  a3 := Tryz.isAgg3
  z3 := Tryz.sizeOf3
  v3 := Tryz.zeroValue3
  t4 := Tryz.underlying4
  a4 := Tryz.isAgg4
  z4 := Tryz.sizeOf4
  v4 := Tryz.zeroValue4
  t9 := Tryz.underlying9
  a9 := Tryz.isAgg9
  z9 := Tryz.sizeOf9
  v9 := Tryz.zeroValue9
  t20 := Tryz.underlying20
  a20 := Tryz.isAgg20
  z20 := Tryz.sizeOf20
  v20 := Tryz.zeroValue20
  t22 := Tryz.underlying25
  a22 := Tryz.isAgg25
  z22 := Tryz.sizeOf25
  v22 := Tryz.zeroValue25 }
theorem BJ (n:Nat) (u:n<=1000000) (w:World):Calls Tryz.prog 253 #[.slice none 0 0,.int .i64 n] w (Ret w λw' v=>OwnV w.heap.size 24 w' v []):=by
 rcases Nat.eq_zero_or_pos n with rfl|y
 ·have h:=Any8.slices_Grow_room Tryz.tO none 0 0 0 w (by omega) (by omega) (by omega) (by omega)
  change Calls Tryz.prog 253 _ _ _ at h;refine h.mono ?_;rintro e w' ⟨rfl,rfl⟩;exact⟨_,rfl,Ext.refl _,World.ownsRow_nil _ _ _ _⟩
 ·obtain ⟨p,q,g,i,j⟩:=info_parts Tryz.infoRow
  have b:0+n<=maxLen:=by unfold maxLen;omega
  have h:=Any8.slices_Grow_grow Tryz.tO p (.slice none 0 0) q g (by rw[i];decide) none 0 0 n [] w (by omega) (by omega) (by rw[j];omega) (by omega) (by simp) (λ_=>rfl) (λa ha=>by cases ha);change Calls Tryz.prog 253 _ _ _ at h;refine h.mono ?_;rintro e w' ⟨rfl,rfl⟩;have k:=grownCap_ge w (0+n) 0 24;have l:=grownCap_le_maxLen w (0+n) 0 24 b;refine⟨_,rfl,grown_trans (grown_drew w none) (World.grownBy_alloc _ _ _),rfl,.inr ⟨w.heap.size,_,_,rfl,Nat.le_refl _,Array.getElem?_push_size (xs:=w.heap),Nat.zero_le _,l,?_,by simp⟩⟩;simp only[Array.size_append,size_zeroCells,List.size_toArray,List.length_nil];have r:(Value.cells (.slice none 0 0)).size=1:=rfl;have m:0+n<=grownCap w (0+n) 0 24:=k;rw[r];show 0+(0+n-0)*1+(grownCap w (0+n) 0 24-(0+n))*1=grownCap w (0+n) 0 24*1
  omega
end Go.Proofs.YtdcobapnlpeaaaaGreat
namespace Go.Proofs.YtdcobapnlpeaaaaGreat
open Go.RowKit
def fR (a:List (List (List Int))):Nat->List (List Int)
 | 0=>[]
 | k+1=>fR a k++gt a k
theorem BK (a:List (List (List Int))) (b:Nat) (h:∀u∈a,u.length<=b) (k:Nat) (hk:k<=a.length):(fR a k).length<=b*k:=by
 induction k with
 | zero=>simp[fR]
 | succ k e=>
  have h1:=e (by omega);have g:=h _ (gt_mem (l:=a) (i:=k) (by omega));simp only[fR,List.length_append,Nat.mul_succ];omega
theorem BL (w:World) (lv:Value) (a:List (List (List Int))) (Sr:Nat->Prop) (W:Rows3 Sr w lv a) (X:∀u∈a,u.length<=1000) (hn:a.length<=100) :
  Calls Tryz.prog 175 #[lv] w (Ret w λw' v=>Rows2 Any w' v (fR a a.length)):=by
 obtain⟨al,capl,rfl,_,_⟩:=Sl.shape W;have M:∀k,k<=a.length->(fR a k).length<=100000:=λk hk=>by have:=BK a 1000 X k hk;omega
 have N:=Lib.hid (And.intro M X);clear M X;go_enter Tryz.func175,Tryz.ntmps175;go_wp2;go_loopw [3,11] (λsv G wr=>∃k:Nat,sv=.int .i64 ((fR a k).length:Nat)/\G=.int .i64 k/\k<=a.length/\w=wr) (λ_ G _=>a.length-(intOf G).toNat)
 case atStart=>exact⟨0,rfl,rfl,by omega,rfl⟩
 case round=>
  obtain⟨k,rfl,rfl,hk,rfl⟩:=hrel;have A:=N.out.1 k hk;by_cases p:k<a.length
  ·have O:(k:Int)<a.length:=by omega
   obtain⟨b,off,a2,r,rfl,_,_,U,V⟩:=Rows3.at W k p;have P:=N.out.1 (k+1) p;have B:(fR a (k+1)).length=(fR a k).length+(gt a k).length:=by simp only[fR,List.length_append]
   obtain⟨m,J⟩:∃m,m=(fR a k).length:=⟨_,rfl⟩;obtain⟨K,H⟩:∃K,K=(gt a k).length:=⟨_,rfl⟩;rw[<-J] at A B ⊢;rw[<-H] at U V B;have ah:m+K<=100000:=by omega
   have hw:IntKind.i64.wrap ((m:Int)+(K:Int))=((m+K:Nat):Int):=by rw[IntWalk.i64_in _ (by omega)];omega
   have ai:¬((m+K:Nat):Int)<0:=by omega
   have HS:=Lib.hid (And.intro B (And.intro J H));clear B J H P;go_wp2;go_roundw
   case rel=>exact⟨k+1,by rw[HS.out.1,Int.natCast_add],by go_num,by omega,trivial⟩
   case measure=>simp[intOf];omega
  ·have I:k=a.length:=by omega
   subst I;obtain⟨m,J⟩:∃m,m=(fR a a.length).length:=⟨_,rfl⟩;rw[<-J] at A ⊢;clear J;go_wp2_with fail
   refine Calls.mono (BJ m (by omega) w) ?_;rintro e1 w1 ⟨v1,rfl,hg1,iP⟩;go_wp2;go_loopw [6,27] (λov G wr=>∃(k:Nat) (v4:Value) (l:List Value),v4=ov/\G=.int .i64 k/\k<=a.length/\Ext w wr/\OwnV w.heap.size 24 wr v4 l/\Hid (l.length=(fR a k).length/\∀i,i<l.length->Ints Any w (gt l i) (gt (fR a k) i))) (λ_ G _=>a.length-(intOf G).toNat)
   case atStart=>exact⟨0,v1,[],rfl,rfl,by omega,hg1,iP,Lib.hid ⟨rfl,λi C=>by simp at C⟩⟩
   case round=>
    clear iP;obtain⟨k,v4,l,rfl,rfl,hk,L,hO,q⟩:=hrel;by_cases p:k<a.length
    ·have O:(k:Int)<a.length:=by omega
     obtain⟨b,off,a2,r,rfl,_,_,U,V⟩:=Rows3.at W k p;have Y:=L.cell U (by simp);obtain⟨e,y,n⟩:=Sl.vals V
     have D:a2=none->r=0:=by
      obtain⟨a',cap',hv,hl',_⟩:=V;cases hv;exact hl'.2.2
     have Z:=N.out.2 _ (gt_mem p);have A:=N.out.1 k hk
     have z:∀j,j<(gt a k).length->∃b off,a2=some ⟨b,off,none⟩/\wr.cell? ⟨b,off+j,none⟩=some (gt e j):=λj Q=>by
      obtain⟨⟨b,off,h1,h2⟩,_⟩:=n j Q;exact⟨b,off,h1,L.cell h2 (by simp)⟩
     have E:∀u,u∈e->u.oneCell'=true:=λu hu=>by
      obtain⟨j,Q,rfl⟩:=List.getElem_of_mem hu;rw[<-gt_eq e j Q];exact rdInts.one (n j (by omega)).2
     have R:Hid ((l++e).length=(fR a (k+1)).length/\∀i,i<(l++e).length->Ints Any w (gt (l++e) i) (gt (fR a (k+1)) i)):=by
      refine Lib.hid ⟨by simp only[List.length_append,fR,q.out.1,y],λi C => ?_⟩;simp only[fR];by_cases h:i<l.length
      ·rw [gt_append_left _ _ _ h,gt_append_left _ _ _ (by rw[<-q.out.1];exact h)]
       exact q.out.2 i h
      ·have aa:i-l.length<(gt a k).length:=by simp only[List.length_append] at C;omega
       have e1:gt (l++e) i=gt e (i-l.length):=by
        simp only[gt,List.getD_eq_getElem?_getD];rw[List.getElem?_append_right (by omega)]
       have e2:gt (fR a k++gt a k) i=gt (gt a k) (i-l.length):=by
        rw[q.out.1];simp only[gt,List.getD_eq_getElem?_getD];rw[List.getElem?_append_right (by rw[<-q.out.1];omega)]
       rw[e1,e2];exact Ints.sub (n _ aa).2 (λ_ _ _=>trivial)
     have F:l.length+(gt a k).length<=2147483648:=by rw[q.out.1];omega
     have S:=Lib.hid (And.intro z (And.intro E (And.intro y (And.intro D F))));clear z E y n F D Z A U;go_wp2_with (first|(at_builtin;refine wp_app 25 24 (.slice none 0 0) 24 und_rows Tryz.infoRow rfl (by decide) rfl _ _ rfl w.heap.size v4 l rfl hO a2 (gt a k).length r e rfl S.out.2.2.1 S.out.2.2.2.1 S.out.1 S.out.2.1 S.out.2.2.2.2 L.size ?_;intro v5 w5 ab ac _ _;have T:=grown_own L ac (λj Q p=>by have:=(hO.lt j Q).1;omega))|fail)
     clear Y;go_roundw
     case rel=>exact⟨k+1,v5,_,rfl,by go_num,by omega,T,ab,R⟩
     case measure=>simp[intOf];omega
    ·have I:k=a.length:=by omega
     subst I
     have hR:Rows2 Any wr v4 (fR a a.length):=by
      have ap:=N.out.1 a.length (Nat.le_refl _);rcases hO.form with⟨rfl,rfl⟩|⟨g,cp,rfl,gW,hgB,hgs⟩
      ·have h0:fR a a.length=[]:=List.eq_nil_of_length_eq_zero q.out.1.symm
       rw[h0];exact⟨none,0,rfl,⟨by simp,by simp,λ_=>rfl⟩,λi C=>by simp at C⟩
      ·refine ⟨_,cp,by rw[q.out.1],⟨by rw[<-q.out.1];exact gW,by omega,λh=>by cases h⟩,λi C=>⟨g,0,gt l i,rfl,trivial,hgs,?_,?_⟩⟩
       ·rw[Nat.zero_add];exact hO.cell i (by rw[q.out.1];exact C)
       ·exact Ints.ext (q.out.2 i (by rw[q.out.1];exact C)) L
     obtain⟨az,capz,fM,_,_⟩:=Sl.shape hR;subst fM;clear q hO;go_wp2;go_ret;exact⟨_,rfl,L,hR⟩
theorem RowsO.BM {B:Nat}{w:World}{v:Value}{L:List (List Int)}(h:RowsO B w v L) (b:L.length<=1000000):∃a c,v=.slice a L.length c:=by
 obtain⟨a,c,hv,_,_⟩:=SlD.shape (h.toD (by omega));exact⟨a,c,hv⟩
theorem BN (P:Pr) (p:rconsB P=true) (w:World) (pv D:Value) (U:List (List Int)) (I E:Nat->Prop) (q:PresV I w pv P) (j:Rows2 E w D U) (r:SubB P U) :
  Calls Tryz.prog 43 #[pv,D] w (Ret w λ_ v=>v=.tuple #[.int .i64 (prodU P U U.length),.int .i64 0]):=by
 have G:=grp_of_r p;have J:=G.v.n6;obtain⟨vo,vp,vc,rfl,h3⟩:=q;have k:=PresP.box h3 28;have l:Ext w (w.alloc (.cells #[vo,vp,vc] 28)):=World.grownBy_alloc _ _ _;have g:(w.alloc (.cells #[vo,vp,vc] 28)).heap.size=w.heap.size+1:=by simp
 have m:=Rows2.ext j l;obtain⟨K,n,rfl,_,_⟩:=Sl.shape j;have i:Ext (w.alloc (.cells #[vo,vp,vc] 28)) ((w.alloc (.cells #[vo,vp,vc] 28)).alloc (.cells #[.slice K U.length n] 25)):=World.grownBy_alloc _ _ _;have F:=rows3One m;have a:=areSubgroups_ok P _ _ _ [U] Any Any (k.ext i) F;rw[g] at a;clear F j;have H:U.length<=P.orders.length:=G.sub_len r;have y:=Lib.hid (And.intro p (And.intro r ((trivial:True))));clear p r;go_enter Tryz.func43,Tryz.ntmps43;go_wp2_with fail
 refine Calls.mono a ?_;rintro N L ⟨v1,rfl,eH,r1,rfl,hr1⟩;clear a;obtain rfl:r1=true:=hr1.2 (by have:=y.out;simp only[List.mem_cons,List.mem_nil_iff,or_false];exact⟨this.1,λu j=>by subst j;exact this.2.1⟩);clear hr1;have b:=grown_trans i eH;have O:=Lib.hid g;clear g;generalize z:(w.alloc (.cells #[vo,vp,vc] 28))=w0 at *;clear z i eH;have A:=k.ext b;have B:=Rows2.ext m b;have e:=G.seq_facts (G.subB y.out.2.1);rw[<-y.out.2.1.2] at e;have M:=Lib.hid e;clear e;go_wp2_with fail
 refine Calls.mono (sizeOf_ok P G.v L _ _ U Any E A B M.out.1 (by omega)) ?_;rintro Q R ⟨S,rfl,C,rfl⟩;go_wp2;go_ret2
 exact⟨_,rfl,grown_trans l (grown_trans b C),rfl⟩
theorem BO (P:Pr) (I:rconsB P=true) (w:World) (pv uv vv:Value) (U V:List (List Int)) (Sp Su Sv:Nat->Prop) (J:PresV Sp w pv P) (k:Rows2 Su w uv U) (K:Rows2 Sv w vv V) (L:SubB P U) (M:SubB P V) :
  Calls Tryz.prog 77 #[pv,uv,vv] w (Ret w λw' v=>∃a n c,v=.tuple #[.slice a n c,.int .i64 0]/\RowsO w.heap.size w' (.slice a n c) (cseq P (gU P (U++V)))):=by
 have G:=grp_of_r I;have ak:=G.v.n6;obtain⟨vo,vp,vc,rfl,h3⟩:=J;have p:=PresP.box h3 28;have j:Ext w (w.alloc (.cells #[vo,vp,vc] 28)):=World.grownBy_alloc _ _ _;have q:(w.alloc (.cells #[vo,vp,vc] 28)).heap.size=w.heap.size+1:=by simp
 have z:=Rows2.ext k j;have A:=Rows2.ext K j;obtain⟨N,e,rfl,_,_⟩:=Sl.shape k;obtain⟨O,capv,rfl,_,_⟩:=Sl.shape K;have r:Ext (w.alloc (.cells #[vo,vp,vc] 28)) ((w.alloc (.cells #[vo,vp,vc] 28)).alloc (.cells #[.slice N U.length e,.slice O V.length capv] 25)):=World.grownBy_alloc _ _ _;have hl:=rows3Two z A;have g:=areSubgroups_ok P _ _ _ [U,V] Any Any (p.ext r) hl;rw[q] at g;clear hl k K;have af:U.length<=P.orders.length:=G.sub_len L;have ag:V.length<=P.orders.length:=G.sub_len M;have Q:=Lib.hid (And.intro I (And.intro L ( And.intro M ((trivial:True)))));clear I L M;go_enter Tryz.func77,Tryz.ntmps77;go_wp2_with fail
 refine Calls.mono g ?_;rintro e1 R ⟨v1,rfl,eH,r1,rfl,hr1⟩;clear g;obtain rfl:r1=true:=hr1.2 (by have:=Q.out;simp only[List.mem_cons,List.mem_nil_iff,or_false];exact⟨this.1,λu k=>by rcases k with rfl|rfl;exact this.2.1;exact this.2.2.1⟩);clear hr1;have b:=grown_trans r eH;have HS:=Lib.hid q;clear q;generalize S:(w.alloc (.cells #[vo,vp,vc] 28))=w0 at *;clear S r eH;have al:=p.ext b;have T:=Rows2.ext z b;have W:=Rows2.ext A b;have l:∀x∈U++V,Vec P.orders x:=λx hx=>(List.mem_append.1 hx).elim (Q.out.2.1.1 x) (Q.out.2.2.1.1 x);have B:=Lib.hid l;clear l;have X:Ext R (R.alloc (.cells #[.slice N U.length e,.slice O V.length capv] 25)):=World.grownBy_alloc _ _ _;have m:=rows3Two T W;have y:=BL (R.alloc (.cells #[.slice N U.length e,.slice O V.length capv] 25)) _ [U,V] Any m (λu k=>by simp at k;rcases k with rfl|rfl<;>omega) (by simp);have C:fR [U,V] [U,V].length=U++V:=by simp[fR,gt]
 rw[C] at y;have D:=Lib.hid y;clear y m C;go_wp2_with fail
 refine Calls.mono D.out ?_;rintro e3 w3 ⟨v3,rfl,Y,E⟩;clear D;have i:=grown_trans b (grown_trans X Y);obtain⟨ac,capc,F,_,_⟩:=Sl.shape E;rw[List.length_append] at F;subst F;go_wp2_with fail
 refine Calls.mono (generated_ok P G w3 _ _ (U++V) Any Any (p.ext i) E B.out (by rw[List.length_append];omega)) ?_;rintro e4 w4 ⟨v4,rfl,hg4,jL⟩;have Z:Sub P (gU P (U++V)):=G.genP_sub B.out;have an:(cseq P (gU P (U++V))).length<=P.orders.length:=G.cseq_len Z
 obtain ⟨ad,nd,AB,pU⟩:∃a n c,v4=.slice a n c:=by
  obtain⟨a,c,h⟩:=RowsO.BM jL (by show(cseq P (gU P (U++V))).length<=_;omega);exact⟨a,_,c,h⟩
 subst pU;have H:=grown_trans i hg4;go_wp2;go_ret2
 exact⟨_,rfl,grown_trans j H,_,_,_,rfl,jL.weak (by have:=i.size;have:=j.size;omega)⟩
theorem qg (z:Int):0<=IntKind.u64.wrap z/\IntKind.u64.wrap z<18446744073709551616:=by
 have h:IntKind.u64.wrap z=z%18446744073709551616:=by simp[IntKind.wrap,IntKind.signed,IntKind.bits]
 rw[h];exact⟨Int.emod_nonneg _ (by decide),Int.emod_lt_of_pos _ (by decide)⟩
theorem BP (h:Int) (b:0<=h) (h1:h<18446744073709551616):∃x:Int,0<=x/\x<16777216/\bits .and .u64 (h/8589934592) 16777215=x:=by
 obtain⟨n,rfl⟩:∃n:Nat,h=n:=⟨h.toNat,by omega⟩;have a:n/8589934592<2 ^ 64:=by omega
 have e:=u64_and_nat (n/8589934592) 16777215 a (by decide);refine⟨((n/8589934592 &&& 16777215:Nat):Int),by omega,?_,?_⟩
 ·have:=Nat.and_lt_two_pow (n:=24) (n/8589934592) (y:=16777215) (by decide)
  have g:(2:Nat) ^ 24=16777216:=by decide
  omega
 ·rw[<-e];rfl
def jC (S:Nat->Prop) (w:World) (b:Nat):Prop:=∃(cv:Value) (i:Nat) (h:Int) (a:List Int),Box3 w b cv (.int .i64 i) (.int .u64 h)/\Bytes S w cv a/\i<=a.length/\a.length<=4096/\(∀k,S k->k≠b)/\0<=h/\h<18446744073709551616
theorem jC.keep {S:Nat->Prop}{w w':World}{b:Nat}(h:jC S w b) (e:w.heap.size<=w'.heap.size) (g:∀k,(S k\/k=b)->k<w.heap.size->w'.heap[k]? = w.heap[k]?):jC S w' b:=by
 obtain⟨cv,i,x,bs,h1,h2,h3⟩:=h;exact⟨cv,i,x,bs,h1.keep e (g b (.inr rfl) h1.1),Sl.mono h2 (λk hk a=>⟨hk,Nat.lt_of_lt_of_le a e,g k (.inl hk) a⟩) (λ_ _ h=>h),h3⟩
theorem jC.ext {S:Nat->Prop}{w w':World}{b:Nat}(h:jC S w b) (e:Ext w w'):jC S w' b:=h.keep e.size (λk _ a=>e.block k a (by simp))
theorem BQ (w:World) (cv:Value) (g:List Int) (S:Nat->Prop) (m:Int) (M:g.length<=4096) (C:Bytes S w cv g) :
  Calls Tryz.prog 51 #[cv,.int .u64 m] w (Ret w λw' v=>∃N,v=.pointer (some ⟨N,0,none⟩)/\w.heap.size<=N/\jC (λk=>S k/\k<w.heap.size) w' N):=by
 obtain⟨a,cap,rfl,_,hlen⟩:=Sl.shape C;obtain⟨B,p⟩:∃B,B=IntKind.u64.wrap (IntKind.u64.wrap (m*7607)+(g.length:Nat)):=⟨_,rfl⟩;have u:=qg (IntKind.u64.wrap (m*7607)+(g.length:Nat));rw[<-p] at u;have D:=Box3.made w 138 (.slice a g.length cap) (.int .i64 0) (.int .u64 B);have E:Ext w (w.alloc (.cells #[.slice a g.length cap,.int .i64 0,.int .u64 B] 138)):=World.grownBy_alloc _ _ _;go_enter Tryz.func51,Tryz.ntmps51;go_wp2_with fail
 rw[<-p];have X:=Lib.hid p;clear p;generalize w.alloc (.cells #[.slice a g.length cap,.int .i64 0,.int .u64 B] 138)=w0 at *;go_loopw [6] (λO wr=>∃(i:Nat) (h:Int),O=.int .i64 i/\i<=g.length/\(0<=h/\h<18446744073709551616)/\Ext w wr/\Box3 wr w.heap.size (.slice a g.length cap) (.int .i64 0) (.int .u64 h)) (λO _=>g.length-(intOf O).toNat)
 case atStart=>exact⟨0,B,rfl,by omega,u,E,D⟩
 case round=>
  clear D E u;obtain⟨i,h,rfl,hi,BR,F,hB⟩:=hrel;by_cases l:i<g.length
  ·obtain ⟨b,off,rfl,rE,BS,y,P,Q⟩:=Bytes.at C i l
   have z:=F.cell y (by simp);generalize gt g i=x at y z P Q;have R:(i:Int)<(g.length:Nat):=by omega
   obtain⟨q,A⟩:∃q,q=IntKind.u64.wrap (IntKind.u64.wrap (IntKind.u64.wrap (h*1099511628211)+x)+5):=⟨_,rfl⟩;have n:=qg (IntKind.u64.wrap (IntKind.u64.wrap (h*1099511628211)+x)+5);rw[<-A] at n;have G:=(hB.put (.int .u64 q)).2.2;have H:=grown_set wr w.heap.size 2 (.int .u64 q);have I:Ext w (wr.setCell ⟨w.heap.size,2,none⟩ (.int .u64 q)):=grown_own F H (λj U l=>by have:=Option.some.inj U;omega);have J:=G.ext (grown_drew (wr.setCell ⟨w.heap.size,2,none⟩ (.int .u64 q)) none);have K:=grown_trans I (grown_drew (wr.setCell ⟨w.heap.size,2,none⟩ (.int .u64 q)) none);have V:IntKind.u64.wrap x=x:=IntWalk.u64_in _ (by omega);obtain⟨L,h1,h2,h3,h4⟩:=id hB;have c0:wr.drew.cell? ⟨w.heap.size,2,none⟩=some (.int .u64 h):=h3;have c1:wr.drew.cell? ⟨b,off+i,none⟩=some (.int .u8 x):=z;have c2:w.heap.size<wr.drew.heap.size:=L;have c3:=h4;have T:=A.symm;have r:=Lib.hid (And.intro K (And.intro J (And.intro n C)));clear K J A n C I H G hB F L h1 h2 h3 y z;go_wp2;go_still_tail 15,(by kernel_rfl)
   change wpList _ _ _ _ _ wr.drew;go_wp2;go_roundw
   case rel=>exact⟨i+1,q,by go_num,by omega,r.out.2.2.1,r.out.1,r.out.2.1⟩
   case measure=>simp[intOf];omega
  ·have R:¬(i:Int)<(g.length:Nat):=by omega
   have r:=Lib.hid (And.intro F hB);clear F hB;go_wp2;go_ret;exact⟨_,rfl,r.out.1,w.heap.size,rfl,Nat.le_refl _,_,0,h,g,r.out.2,Bytes.mono C (λk W l=>⟨⟨W,l⟩,Nat.lt_of_lt_of_le l r.out.1.size,r.out.1.block k l (by simp)⟩),by omega,M,λk hk e=>by have:=hk.2;omega,BR⟩
theorem tP (S:Nat->Prop) (w:World) (m:Nat) (n:Int) (W:jC S w m) (hn:1<=n) (X:n<=1000000000) :
  Calls Tryz.prog 52 #[.pointer (some ⟨m,0,none⟩),.int .i64 n] w (Mut w (some m) λw' v=>∃x:Int,v=.int .i64 x/\0<=x/\x<n/\jC S w' m):=by
 obtain⟨cv,pos,h,z,hB,hby,hpos,hbl,nN,hh0,Ed⟩:=W;obtain⟨a,cap,rfl,_,hlen⟩:=hby.shape;obtain⟨A,C⟩:∃A,A=IntKind.u64.wrap (IntKind.u64.wrap (h*6364136223846793005)+1442695040888963407):=⟨_,rfl⟩;have i:=qg (IntKind.u64.wrap (h*6364136223846793005)+1442695040888963407);rw[<-C] at i;obtain⟨y,hy0,hy1,hand⟩:=BP A i.1 i.2;have p:=(hB.put (.int .u64 A)).2.2;obtain⟨G,h1,h2,h3,h4⟩:=id hB;have H:=C.symm;clear C;go_enter Tryz.func52,Tryz.ntmps52;have q:w.grownBy (w.setCell ⟨m,2,none⟩ (.int .u64 A)) (some m):=grown_set _ _ _ _;have j:Bytes S (w.setCell ⟨m,2,none⟩ (.int .u64 A)) (.slice a z.length cap) z:=Bytes.mono hby (frame_of q (λk hk _=>⟨hk,λe=>nN k hk (by cases e;rfl)⟩));have I:=Lib.hid (And.intro p (And.intro q j));clear p hB hby q j;go_wp2;clear G h1 h2 h3 h4 H hand;obtain⟨p,q,j⟩:=I.out;clear I;generalize w.setCell ⟨m,2,none⟩ (.int .u64 A)=F at *;obtain⟨G,h1,h2,h3,h4⟩:=id p;have g:=Lib.hid (And.intro p (And.intro q j));clear p q j;by_cases Y:pos<z.length
 ·obtain ⟨b,off,rfl,nE,BS,D,O,P⟩:=Bytes.at g.out.2.2 pos Y
  obtain⟨x,hx⟩:∃x,x=gt z pos:=⟨_,rfl⟩;rw[<-hx] at D O P;have HX:=Lib.hid hx;clear hx;have Q:(pos:Int)<z.length:=by omega
  have Z:(0:Int)<=pos:=by omega
  have R:IntKind.i64.wrap (y+x)=y+x:=IntWalk.i64_in _ (by omega);go_quiet (fail)
  go_wp2;have l:Ext F (F.drewN nq):=grown_drewN _ _ _;have J:=l.cell D (by simp);have K:m<(F.drewN nq).heap.size:=Nat.lt_of_lt_of_le G l.size;have r:=And.intro (g.out.1.ext l) (And.intro (grown_trans g.out.2.1 (grown_of_ext (some m) l)) (Bytes.ext g.out.2.2 l));have g:=Lib.hid r;clear r l D G h1 h2 h3 h4;obtain⟨h1,h2,h3,h4⟩:=g.out.1.2;generalize F.drewN nq=N at *;go_quiet (fail)
  have l:Ext N (N.drewN nq):=grown_drewN _ _ _;have G:m<(N.drewN nq).heap.size:=Nat.lt_of_lt_of_le K l.size;have r:=And.intro (g.out.1.ext l) (And.intro (grown_trans g.out.2.1 (grown_of_ext (some m) l)) (Bytes.ext g.out.2.2 l));have g:=Lib.hid r;clear r l J K h1 h2 h3 h4;obtain⟨h1,h2,h3,h4⟩:=g.out.1.2;generalize N.drewN nq=T at *;have L:=(g.out.1.put (.int .i64 ((pos:Int)+1))).2.1;have E:T.grownBy (T.setCell ⟨m,1,none⟩ (.int .i64 ((pos:Int)+1))) (some m):=grown_set _ _ _ _;have B:Bytes S (T.setCell ⟨m,1,none⟩ (.int .i64 ((pos:Int)+1))) (.slice (some ⟨b,off,none⟩) z.length cap) z:=Bytes.mono g.out.2.2 (frame_of E (λk hk _=>⟨hk,λe=>nN k hk (by cases e;rfl)⟩));have M:0<=(y+x)%n/\(y+x)%n<n:=⟨Int.emod_nonneg _ (by omega),Int.emod_lt_of_pos _ (by omega)⟩;have u:=Lib.hid (And.intro L (And.intro (grown_trans g.out.2.1 E) (And.intro B M)));clear L E B g R M;have aa:IntKind.i64.wrap ((pos:Int)+1)=(pos:Int)+1:=IntWalk.i64_in _ (by omega);have U:n≠0:=by omega
  go_wp2;go_ret;exact⟨_,rfl,u.out.2.1,_,rfl,u.out.2.2.2.1,u.out.2.2.2.2,_,pos+1,A,z,u.out.1,u.out.2.2.1,by omega,hbl,nN,i⟩
 ·have Q:¬(pos:Int)<z.length:=by omega
  have U:n≠0:=by omega
  go_quiet (fail)
  have l:Ext F (F.drewN nq):=grown_drewN _ _ _;have M:0<=y%n/\y%n<n:=⟨Int.emod_nonneg _ (by omega),Int.emod_lt_of_pos _ (by omega)⟩;have V:=Lib.hid M;clear M;go_wp2;go_ret;exact⟨_,rfl,grown_trans g.out.2.1 (grown_of_ext _ l),_,rfl,V.out.1,V.out.2,_,pos,A,z,g.out.1.ext l,Bytes.ext g.out.2.2 l,hpos,hbl,nN,i⟩
end Go.Proofs.YtdcobapnlpeaaaaGreat
namespace Go.Proofs.YtdcobapnlpeaaaaGreat
open Go.RowKit
attribute [local go_sem ↓] Go.wp_at_zero Go.wp_at_succ
theorem tQ {α:Type} [Inhabited α] (l:List α) (i:Nat) (a:i<l.length) (x:α):x∈l.take (i+1)↔(x∈l.take i\/gt l i=x):=by
 rw[take_succ_gt l i a,List.mem_append,List.mem_singleton];exact⟨λh=>h.elim .inl (λe => .inr e.symm),λh=>h.elim .inl (λe => .inr e.symm)⟩
theorem BU (w:World) (cv:Value) (bs:List Int) (S:Nat->Prop) (hb:Bytes S w cv bs) :
  Calls Tryz.prog 13 #[cv] w (Ret w λ_ v=>v=.bool true):=by
 obtain⟨ca,cc,rfl,_,_⟩:=Sl.shape hb;go_enter Tryz.func13,Tryz.ntmps13;go_wp2_with fail
 refine Calls.mono (xF w _ bs S hb) ?_;rintro _ _ ⟨rfl,rfl⟩;by_cases a7:4096<bs.length
 ·have hd:decide (4096<bs.length)=true:=by simp[a7]
  rw[hd];go_wp2;go_ret;exact⟨_,rfl,grown_refl _ _,rfl⟩
 have cN:bs.length<=4096:=by omega
 have hd:decide (4096<bs.length)=false:=by simp[a7]
 rw[hd];clear hd a7;go_wp2_with fail
 refine Calls.mono (xH w _ bs S hb) ?_;rintro e1 w1 ⟨v1,rfl,hg1,vo,vp,vc,P,rfl,Ee,hP⟩;obtain⟨a1,n1,c1,hy1⟩:∃a n c,vo=.slice a n c:=by obtain⟨a,c,e,_⟩:=hP.o.shape;exact⟨_,_,_,e⟩
 obtain⟨a2,n2,c2,hy2⟩:∃a n c,vp=.slice a n c:=by obtain⟨a,c,e,_⟩:=Sl.shape hP.p;exact⟨_,_,_,e⟩
 obtain⟨a3,n3,c3,fZ⟩:∃a n c,vc=.slice a n c:=by obtain⟨a,c,e,_⟩:=Sl.shape hP.c;exact⟨_,_,_,e⟩
 subst hy1 hy2 fZ;have L:Ext w1 (w1.alloc (.cells #[.slice a1 n1 c1,.slice a2 n2 c2,.slice a3 n3 c3] 28)):=World.grownBy_alloc _ _ _;have hX:=Box3.made w1 28 (.slice a1 n1 c1) (.slice a2 n2 c2) (.slice a3 n3 c3);have bN:=hP.ext L;have b:=grown_trans hg1 L;have bO:=Bytes.ext hb b;have aE:=Lib.hid (And.intro bN (And.intro b bO));clear bN  b bO L hP  hg1 hb;obtain⟨pb,bb⟩:∃pb,pb=w1.heap.size:=⟨_,rfl⟩;rw[<-bb] at hX;have HP:=Lib.hid bb;clear bb;go_wp2_with fail
 rw[<-HP.out];generalize w1.alloc (.cells #[.slice a1 n1 c1,.slice a2 n2 c2,.slice a3 n3 c3] 28)=w2 at *;clear HP
 have aS:∀w',Ext w2 w'->Box3 w' pb (.slice a1 n1 c1) (.slice a2 n2 c2) (.slice a3 n3 c3)/\PresV (From w.heap.size) w' (.agg #[.slice a1 n1 c1,.slice a2 n2 c2,.slice a3 n3 c3]) P/\Bytes S w' (.slice ca bs.length cc) bs:=
  λw' h=>⟨hX.ext h,⟨_,_,_,rfl,aE.out.1.ext h⟩,Bytes.ext aE.out.2.2 h⟩
 have D:=Lib.hid aS;clear aS hX;have b:=grown_refl w2 none;have bc:=Aa P;have bd:=Ab P;obtain⟨m,iE,iF,iG,_⟩:=id (D.out w2 b).1;go_wp2_with fail
 clear m iE iF iG;refine Calls.mono (Ac P w2 _ _ (D.out w2 b).2.1) ?_;rintro e3 w3 ⟨v3,rfl,fO,fa,fn,fc,za,zn,zc,rfl,bQ,bR⟩;replace b:=grown_trans b fO
 have bS:Rows3 Any w3 (.slice fa fn fc) (fJ P):=Rows3.sub (Rows3D.rows (SlOA.toD bQ (by omega))) (λ_ _ _=>trivial);have bT:∀w',Ext w3 w'->Rows3 Any w' (.slice fa fn fc) (fJ P):=λw' h=>Rows3.ext bS h;have HQ:=Lib.hid bT;clear bS bT;have g:=grown_refl w3 none;have bV:Ints Any w3 (.slice za zn zc) (gh P):=Ints.sub (bR.ints (by omega)) (λ_ _ _=>trivial);have bW:∀w',Ext w3 w'->Ints Any w' (.slice za zn zc) (gh P):=λw' h=>Ints.ext bV h;have HZ:=Lib.hid bW;clear bV bW;have cP:=grown_refl w3 none;clear bQ bR cP;clear fO;obtain⟨m,iE,iF,iG,_⟩:=id (D.out w3 b).1;go_wp2_with fail
 clear m iE iF iG;refine Calls.mono (Ad P w3 _ _ (D.out w3 b).2.1) ?_;rintro e4 w4 ⟨v4,rfl,fO,ga,gn,gc,ta,tn,tc,rfl,tR,tS⟩;replace b:=grown_trans b fO
 replace g:=grown_trans g fO
 have bX:Rows3 Any w4 (.slice ga gn gc) (fJ P):=tR;have bY:∀w',Ext w4 w'->Rows3 Any w' (.slice ga gn gc) (fJ P):=λw' h=>Rows3.ext bX h;have HG:=Lib.hid bY;clear bX bY;have Z:=grown_refl w4 none;have bZ:Ints Any w4 (.slice ta tn tc) (gh P):=tS;have b0:∀w',Ext w4 w'->Ints Any w' (.slice ta tn tc) (gh P):=λw' h=>Ints.ext bZ h;have HT:=Lib.hid b0;clear bZ b0;have cQ:=grown_refl w4 none;clear tR tS cQ;clear fO;go_wp2_with fail
 refine Calls.mono (BI _ _ (fJ P) (fJ P) w4 Any Any (HQ.out w4 g) (HG.out w4 Z)) ?_;rintro e5 w5 ⟨v5,rfl,fO,rfl⟩;replace b:=grown_trans b fO
 replace g:=grown_trans g fO
 replace Z:=grown_trans Z fO
 rw[show eqB (fJ P) (fJ P)=true from eqB_true.2 rfl];clear HG;clear fO;go_wp2_with fail
 refine Calls.mono (qd _ _ (gh P) (gh P) w5 Any Any (HZ.out w5 g) (HT.out w5 Z)) ?_;rintro e6 w6 ⟨v6,rfl,fO,rfl⟩;replace b:=grown_trans b fO
 replace g:=grown_trans g fO
 replace Z:=grown_trans Z fO
 rw[show eqB (gh P) (gh P)=true from eqB_true.2 rfl];clear HT Z;clear fO;by_cases hz:fk P=0
 case neg=>
  have dT:(fk P != 0)=true:=by simpa using hz
  clear hz;generalize fk P=cc at *;go_wp2;go_ret;exact⟨_,rfl,grown_trans aE.out.2.1 b,rfl⟩
 have hr:=(gB hz).1;have dU:=(gB hz).2;obtain⟨Y,aH⟩:=Bz hz;rw[hz];have b3:=Lib.hid hz;clear hz;have G:=grp_of_r hr;have dV:=G.v.n6;have dW:=G.v.ordP_pos;obtain⟨F,hF⟩:∃F,F=fJ P:=⟨_,rfl⟩;have aI:=aH.len;rw[aH.z] at HZ bd;rw[fE] at bd;rw[<-hF] at HQ bc aI;obtain⟨N,hN⟩:∃N,N=F.length:=⟨_,rfl⟩
 obtain rfl:N=fn:=by
  obtain⟨a,c,e,_⟩:=Sl.shape (HQ.out _ g);cases e;exact hN
 obtain rfl:N=zn:=by
  obtain⟨a,c,e,_⟩:=(HZ.out _ g).shape;rw[fE] at e;cases e;omega
 rw[<-hN] at aI bc;have M:=Lib.hid (And.intro hF (And.intro hN (And.intro aI aH)));clear hF hN aI aH bd;have b4:=(tJ P).1;have ap:=(td P).1;obtain⟨m,iE,iF,iG,_⟩:=id (D.out w6 b).1;go_wp2_with fail
 clear m iE iF iG;refine Calls.mono (Br P w6 _ _ (D.out w6 b).2.1) ?_;rintro e7 E ⟨v7,rfl,fO,la,ln,lc,rfl,b5⟩;replace b:=grown_trans b fO
 replace g:=grown_trans g fO
 rw[b3.out];have b6:Rows3 Any E (.slice la ln lc) (gF P):=Rows3.sub (Rows3D.rows (SlO.toD b5 (by omega))) (λ_ _ _=>trivial);have b7:∀w',Ext E w'->Rows3 Any w' (.slice la ln lc) (gF P):=λw' h=>Rows3.ext b6 h;have HL:=Lib.hid b7;clear b6 b7;have aq:=grown_refl E none;clear b5;clear fO;obtain⟨m,iE,iF,iG,_⟩:=id (D.out E b).1;go_wp2_with fail
 clear m iE iF iG;refine Calls.mono (BF P E _ _ (D.out E b).2.1) ?_;rintro e8 w8 ⟨v8,rfl,fO,na,nn,nc,rfl,b8⟩;replace b:=grown_trans b fO
 replace g:=grown_trans g fO
 replace aq:=grown_trans aq fO
 rw[b3.out];have af:Rows3 Any w8 (.slice na nn nc) (iD P):=Rows3.sub (Rows3D.rows (SlO.toD b8 (by omega))) (λ_ _ _=>trivial);have b9:∀w',Ext w8 w'->Rows3 Any w' (.slice na nn nc) (iD P):=λw' h=>Rows3.ext af h;have HM:=Lib.hid b9;clear af b9;have be:=grown_refl w8 none;clear b8;clear fO;obtain⟨A,hA⟩:∃A,A=gF P:=⟨_,rfl⟩;obtain⟨B,hB⟩:∃B,B=iD P:=⟨_,rfl⟩;rw[<-hA] at HL b4;rw[<-hB] at HM ap;obtain⟨K,hK⟩:∃K,K=A.length:=⟨_,rfl⟩
 obtain rfl:K=ln:=by
  obtain⟨a,c,e,_⟩:=Sl.shape (HL.out _ aq);cases e;exact hK
 obtain⟨J,hJ⟩:∃J,J=B.length:=⟨_,rfl⟩
 obtain rfl:J=nn:=by
  obtain⟨a,c,e,_⟩:=Sl.shape (HM.out _ be);cases e;exact hJ
 rw[<-hK] at b4;rw[<-hJ] at ap;have dZ:0<K:=by rw[hK,hA];exact M.out.2.2.2.pos
 have aU:fW (dy Y)=(K:Int):=by
  have h:=M.out.2.2.2.sum;rw[M.out.2.2.2.z] at h;rw[h,hK,hA]
 have cb:B=fG F Y N:=by rw[hB,M.out.2.2.2.Bx,<-M.out.1,<-M.out.2.1]
 have cd:∀i,i<(dy Y).length->0<=gt (dy Y) i/\gt (dy Y) i<=1000:=λi hi=>by
  rw[fE] at hi;have e:gt (dy Y) i=((gt Y i:Nat):Int):=gt_map _ _ _ hi;have h:=M.out.2.2.2.le i (by rw[M.out.2.2.2.len];exact hi);omega
 have aV:∀u,u∈A↔SubB P u:=λu=>by rw[hA];exact M.out.2.2.2.mem u
 have ar:(dy Y).length<=100000:=by rw[fE];have:=M.out.2.2.1;omega
 have W:=Lib.hid (And.intro aU (And.intro cd (And.intro cb (And.intro aV (And.intro hK hJ)))));clear aU cd cb aV hK hJ hA hB;go_wp2_with fail
 refine Calls.mono (BH _ _ (dy Y) _ (HZ.out _ g) ar W.out.2.1) ?_;rintro _ _ ⟨rfl,rfl⟩;rw[W.out.1];clear ar;obtain⟨wk,rfl⟩:∃wk:World,wk=w8:=⟨_,rfl⟩;have ce:((K:Int) == 0)=false:=by simp;omega
 go_wp2;clear ce;go_loopw [14,15] (λov iv wr=>∃(i o:Nat),iv=.int .i64 i/\i<=N/\ov=.int .i64 o/\o<=i/\Ext wk wr/\Hid (o=(fG F Y i).length)) (λ_ iv _=>N-(intOf iv).toNat)
 case atStart=>exact⟨0,0,rfl,by omega,rfl,by omega,grown_refl _ _,Lib.hid (by simp[fG])⟩
 case round=>
  obtain⟨i,o,rfl,hi,rfl,hoi,hg,hO⟩:=hrel;obtain⟨l,rfl⟩:∃l:World,l=wr:=⟨_,rfl⟩;have C:=grown_trans b hg;by_cases r:i<N
  ·have cf:(i:Int)<N:=by omega
   have bg:i<F.length:=by rw[<-M.out.2.1];exact r
   have aK:i<Y.length:=by rw[<-M.out.2.2.1];exact r
   have I:=M.out.2.2.2.sub i (by rw[<-M.out.1];exact bg);have au:=M.out.2.2.2.idx i (by rw[<-M.out.1];exact bg);have aW:=W.out.2.1 i (by rw[fE];exact aK);have cg:gt (dy Y) i=((gt Y i:Nat):Int):=gt_map _ _ _ aK;have O:=λh=>A1 F Y r h;have ab:=λh=>A2 F Y (i:=i) h;rw[<-M.out.1] at I au;obtain⟨rb,ro,ua,uc,hab,_,_,bh,hx⟩:=Rows3.at (HQ.out l (grown_trans g hg)) i bg;subst hab;obtain⟨zb,zf,hab,_,_,aL⟩:=Ints.at (HZ.out l (grown_trans g hg)) i (by rw[fE];exact aK);subst hab;rw[cg] at aL aW;obtain⟨U,Q⟩:∃U,U=gt F i:=⟨_,rfl⟩;obtain⟨s,ch⟩:∃s,s=gt Y i:=⟨_,rfl⟩;rw[<-Q] at bh hx I au O;rw[<-ch] at aL au aW O ab;rw[<-W.out.2.2.1] at O;have SN:=G.l8 (G.subB I);have ci:=G.subB_cseq SN;have ea:(cseq P (fV P (gU P U))).length<=P.orders.length:=G.cseq_len SN;have HX:=Lib.hid (And.intro I (And.intro au (And.intro O (And.intro ab ci))));clear I au O ab ci SN Q ch cg aK;have aM:∀w',Ext l w'->w'.cell? ⟨pb,0,none⟩=some (.slice a1 n1 c1):=λw' h=>(D.out w' (grown_trans C h)).1.2.1;have aN:∀w',Ext l w'->w'.cell? ⟨pb,1,none⟩=some (.slice a2 n2 c2):=λw' h=>(D.out w' (grown_trans C h)).1.2.2.1;have aO:∀w',Ext l w'->w'.cell? ⟨pb,2,none⟩=some (.slice a3 n3 c3):=λw' h=>(D.out w' (grown_trans C h)).1.2.2.2.1;have aP:∀w',Ext l w'->w'.cell? ⟨rb,ro+i,none⟩=some (.slice ua U.length uc):=λw' h=>h.cell bh (by simp);have av:∀w',Ext l w'->w'.cell? ⟨zb,zf+i,none⟩=some (.int .i64 (s:Int)):=λw' h=>h.cell aL (by simp);have aw:=Lib.hid (And.intro aM (And.intro aN (And.intro aO (And.intro aP av))));clear av bh aL;go_wp2
   go_region_held3 (λw'=>Ext l w') (first|exact grown_drew _ _|assumption)
    (first
     | (go_at_call 40;refine Calls.mono (Calls.rel (w0:=l) (by assumption) (AA P hr _ _ _ U _ _ (D.out _ (grown_trans C (by assumption))).2.1 (Rows2.ext hx (by assumption)) HX.out.1)) ?_;rintro e6 w6 ⟨v6,rfl,ah,_,k1,k2,k3,rfl,cj⟩))
   clear aM aN aO aP;have ck:Rows2 Any w6 (.slice k1 k2 k3) (cseq P (fV P (gU P U))):=Rows2.sub (RowsD.rows (SlO.toD cj (by omega))) (λ_ _ _=>trivial);have cY:=Lib.hid ck;clear ck cj;obtain⟨m,iE,iF,iG,_⟩:=id (D.out w6 (grown_trans C ah)).1;go_wp2_with fail
   clear m iE iF iG;refine Calls.mono (BN P hr w6 _ _ _ _ _ (D.out w6 (grown_trans C ah)).2.1 cY.out HX.out.2.2.2.2) ?_;rintro e7 E ⟨v7,rfl,hg7,rfl⟩;obtain⟨n,hn⟩:∃n,n=jA P (fV P (gP P U)):=⟨_,rfl⟩;rw[show prodU P (cseq P (fV P (gU P U))) (cseq P (fV P (gU P U))).length=n from hn.symm];have aZ:(s:Int)*n=ordP P:=by rw[hn];exact HX.out.2.1
   have c0:=Lib.hid aZ;clear aZ hn;have H:=grown_trans ah hg7;have aM:∀w',Ext E w'->w'.cell? ⟨pb,0,none⟩=some (.slice a1 n1 c1):=λw' h=>aw.out.1 w' (grown_trans H h);have aN:∀w',Ext E w'->w'.cell? ⟨pb,1,none⟩=some (.slice a2 n2 c2):=λw' h=>aw.out.2.1 w' (grown_trans H h);have aO:∀w',Ext E w'->w'.cell? ⟨pb,2,none⟩=some (.slice a3 n3 c3):=λw' h=>aw.out.2.2.1 w' (grown_trans H h);have av:∀w',Ext E w'->w'.cell? ⟨zb,zf+i,none⟩=some (.int .i64 (s:Int)):=λw' h=>aw.out.2.2.2.2 w' (grown_trans H h);go_wp2
   have c4:IntKind.i64.wrap (n*(s:Int))=ordP P:=by
    rw[Int.mul_comm,c0.out];exact IntWalk.i64_in _ (by omega)
   go_region_held3 (λw'=>Ext E w') (first|exact grown_drew _ _|assumption)
    (first
     | (go_at_call 44;refine Calls.mono (Calls.rel (w0:=E) (by assumption) (Bn P hr _ _ _ (D.out _ (grown_trans C (grown_trans H (by assumption)))).2.1)) ?_;rintro e9 w9 ⟨v9,rfl,ac,_,rfl⟩))
   clear aM aN aO c4;have c5:=av w9 ac;clear av;have ax:=grown_trans H ac;have bi:=grown_trans hg ax;by_cases cm:s=1
   ·subst cm
    obtain⟨h1,h2,h3⟩:=HX.out.2.2.1 rfl;rw[<-hO.out] at h1 h2 h3;rw[<-W.out.2.2.2.2.2] at h1;have cn:¬(J:Int)<=(o:Int):=by omega
    have c7:decide ((J:Int)<=(o:Int))=false:=decide_eq_false cn;have co:((J:Int)<=(o:Int))=False:=eq_false cn;obtain⟨mb,mo,ma,mc,hab,_,_,bj,hm⟩:=Rows3.at (HM.out w9 (grown_trans be bi)) o (by rw[<-W.out.2.2.2.2.2];exact h1);subst hab;rw[h2] at bj hm;have R:o+1=(fG F Y (i+1)).length:=h3.symm;have aP:∀w',Ext w9 w'->w'.cell? ⟨rb,ro+i,none⟩=some (.slice ua U.length uc):=λw' h=>aw.out.2.2.2.1 w' (grown_trans ax h);have bk:∀w',Ext w9 w'->w'.cell? ⟨mb,mo+o,none⟩=some (.slice ma U.length mc):=λw' h=>h.cell bj (by simp);have bl:=Lib.hid R;clear R h2 h3 bj;go_wp2
    go_region_held3 (λw'=>Ext w9 w') (first|exact grown_drew _ _|assumption)
     (first
      | (go_at_call 19;refine Calls.mono (Calls.rel (w0:=w9) (by assumption) (l9 _ _ U U _ _ _ (Rows2.ext hm (by assumption)) (Rows2.ext hx (grown_trans ax (by assumption))))) ?_;rintro eA wA ⟨vA,rfl,T,_,rfl⟩;rw[show eqB U U=true from eqB_true.2 rfl]))
    clear aP bk c5 c7 co;go_wp2;go_roundw
    case rel=>exact⟨i+1,o+1,by go_num,by omega,by go_num,by omega,grown_trans bi T,bl⟩
    case measure=>simp[intOf];omega
   ·have dJ:((s:Int) == 1)=false:=by simp;omega
    have R:o=(fG F Y (i+1)).length:=by rw[HX.out.2.2.2.1 cm,<-hO.out]
    have bl:=Lib.hid R;clear R;go_wp2;go_roundw
    case rel=>exact⟨i+1,o,by go_num,by omega,rfl,by omega,bi,bl⟩
    case measure=>simp[intOf];omega
  ·have aR:i=N:=by omega
   have cp:o=J:=by
    rw[hO.out,aR,W.out.2.2.2.2.2,<-W.out.2.2.1]
   subst cp;have ap:¬(i:Int)<N:=by omega
   have a0:=grown_trans aq hg;have cq:Rows3 (λk=>k<l.heap.size) l (.slice la K lc) A:=Rows3.sub (HL.out l a0) (λ_ _ h=>h);have cr:Bytes (λk=>k<l.heap.size) l (.slice ca bs.length cc) bs:=Bytes.mono (D.out l C).2.2 (λk _ r=>⟨r,r,rfl⟩);have bm:=Lib.hid cq;clear cq hO aR r hi hoi bc g be aq a0;go_wp2_with fail
   refine Calls.mono (BQ l _ bs (λk=>k<l.heap.size) 11 cN cr) ?_;rintro eD wD ⟨vD,rfl,bn,db,rfl,hdb,cs⟩;clear cr ap;have ct:=Lib.hid (cs.ext (grown_drew wD none));clear cs;go_wp2_with fail
   refine wp_region_held_drew (S:=λw'=>Ext l w') (by kernel_rfl) (grown_trans bn (grown_drew _ _)) (λay => ?_);refine tk 0 ?_;refine tk 1 ?_;refine tk 2 ?_;refine tk 3 ?_;refine tk 7 ?_;refine tk 8 ?_;refine tk 9 ?_;refine tk 10 ?_;refine fD 4 (λKc az => ?_);go_simp;go_at_call 52;refine Calls.mono (tP _ wD.drew db (K:Int) ct.out (by omega) (by omega)) ?_;rintro e6 w6 ⟨v6,rfl,a4,x6,rfl,hx0,hx1,tT⟩;have ah:wD.grownBy w6 (some db):=grown_trans (grown_of_ext (some db) (grown_drew _ _)) a4;have bo:Ext l w6:=grown_own bn ah (λj hj r=>by have:=Option.some.inj hj;omega);obtain⟨i,rfl⟩:=Int.eq_ofNat_of_zero_le hx0;have ad:i<A.length:=by rw[<-W.out.2.2.2.2.1];omega
   have eh:i<K:=by omega
   obtain⟨lb,lo,ua,uc,hab,_,_,ai,hu⟩:=Rows3.at bm.out i ad;subst hab;have I:=(W.out.2.2.2.1 _).1 (gtMem ad);obtain⟨U,Q⟩:∃U,U=gt A i:=⟨_,rfl⟩;rw[<-Q] at ai hu I;have bk:∀w',Ext l w'->w'.cell? ⟨lb,lo+i,none⟩=some (.slice ua U.length uc):=λw' h=>h.cell ai (by simp);have HU:=Lib.hid (And.intro hu I);clear hu I ai Q bn ah a4 ct;have cu:=Lib.hid tT;clear tT;go_wp2_with fail
   refine ko az bo (λay => ?_);clear az Kc;refine tk 5 ?_;refine tk 6 ?_;refine fD 11 (λKc az => ?_);go_simp;go_at_call 52;refine Calls.mono (tP _ w6 db (K:Int) cu.out (by omega) (by omega)) ?_;rintro e7 E ⟨v7,rfl,hg7,x7,rfl,tU,BV,BW⟩;have aj:Ext l E:=grown_own bo hg7 (λj hj r=>by have:=Option.some.inj hj;omega);obtain⟨i2,rfl⟩:=Int.eq_ofNat_of_zero_le tU;have aA:i2<A.length:=by rw[<-W.out.2.2.2.2.1];omega
   have dK:i2<K:=by omega
   obtain⟨ei,Ef,va,cw,BZ,_,_,hcv,hv⟩:=Rows3.at bm.out i2 aA;cases BZ
   have dd:∀w',Ext l w'->w'.cell? ⟨lb,lo+i2,none⟩=some (.slice va (gt A i2).length cw):=λw' h=>h.cell hcv (by simp);go_wp2_with fail
   refine ko az aj (λay => ?_);clear az Kc;refine tk 12 ?_;refine tk 13 ?_;refine tk 14 ?_;refine tk 15 ?_;refine wpAnyH_done (by kernel_rfl) ?_ _;have cx:=hg7;clear bk dd cu BW hg7 cx hx0 hx1 tU BV hdb HZ HQ HM;have ak:=(W.out.2.2.2.1 _).1 (gtMem aA);obtain⟨V,bp⟩:∃V,V=gt A i2:=⟨_,rfl⟩;rw[<-bp] at hv ak;rw[<-bp];clear bp aA ad bo;have L:=grown_trans C aj;have a6:jy P U V:=⟨hr,HU.out.2,ak⟩;have bq:=pT a6;have SM:=(G.subB HU.out.2).and (G.subB ak);have SJ:Sub P (gU P (U++V)):=G.genP_sub (λy hy=>(List.mem_append.1 hy).elim (HU.out.2.1 y) (ak.1 y));have br:=(W.out.2.2.2.1 _).2 (G.subB_cseq SM);have bt:=(W.out.2.2.2.1 _).2 (G.subB_cseq SJ);have dg:=G.cseq_len SM;have dh:=G.cseq_len SJ;obtain⟨X,hX⟩:∃X,X=cseq P (λx=>gU P U x/\gU P V x):=⟨_,rfl⟩;obtain⟨Y2,bu⟩:∃Y2,Y2=cseq P (gU P (U++V)):=⟨_,rfl⟩;have bv:=bq.2.2;rw[<-hX] at br dg bv;rw[<-bu] at bt dh;have al:=Lib.hid (And.intro bq.1 (And.intro bv (And.intro br (And.intro bt (And.intro ak bu)))));clear bq a6 bv br bt SM SJ hX ak bu;have cy:Rows2 Any E (.slice va V.length cw) V:=Rows2.sub (Rows2.ext hv aj) (λ_ _ _=>trivial);have cz:Rows2 Any E (.slice ua U.length uc) U:=Rows2.sub (Rows2.ext HU.out.1 aj) (λ_ _ _=>trivial);have aB:=Lib.hid (And.intro cz cy);clear cz cy hv;obtain⟨m,iE,iF,iG,_⟩:=id (D.out E L).1;go_wp2_with fail
   clear m iE iF iG;refine Calls.mono (Aq P E _ _ _ U V _ _ _ (D.out E L).2.1 aB.out.1 aB.out.2) ?_;rintro e8 w8 ⟨v8,rfl,aC,ma,mn,mc,rfl,bw⟩;rw[al.out.1];rw[al.out.2.1] at bw;have af:Rows2 Any w8 (.slice ma mn mc) X:=Rows2.sub (RowsD.rows (SlO.toD bw (by omega))) (λ_ _ _=>trivial)
   obtain rfl:X.length=mn:=by
    obtain⟨a,c,e,_⟩:=Sl.shape af;cases e;rfl
   have cA:=Lib.hid af;clear af bw;have ae:=grown_trans L aC;obtain⟨m,iE,iF,iG,_⟩:=id (D.out w8 ae).1;go_wp2_with fail
   clear m iE iF iG;refine Calls.mono (BO P hr w8 _ _ _ U V _ _ _ (D.out w8 ae).2.1 (Rows2.ext aB.out.1 aC) (Rows2.ext aB.out.2 aC) HU.out.2 al.out.2.2.2.2.1) ?_;rintro e9 w9 ⟨v9,rfl,ac,ja,jn,jc,rfl,bx⟩;rw[<-al.out.2.2.2.2.2] at bx;have bz:Rows2 Any w9 (.slice ja jn jc) Y2:=Rows2.sub (RowsD.rows (SlO.toD bx (by omega))) (λ_ _ _=>trivial)
   obtain rfl:Y2.length=jn:=by
    obtain⟨a,c,e,_⟩:=Sl.shape bz;cases e;rfl
   have cB:=Lib.hid (And.intro (Rows2.ext cA.out ac) bz);clear bz bx cA;have cC:=grown_trans ae ac;have cD:Rows3 Any w9 (.slice (some ⟨lb,lo,none⟩) K lc) A:=Rows3.sub (Rows3.ext bm.out (grown_trans aj (grown_trans aC ac))) (λ_ _ _=>trivial);have di:=Lib.hid cD;clear cD;clear aj aC ac L ae HU aB C hg;go_wp2;go_loopw [27,28,29] (λfv sv iv wr=>∃(i:Nat) (b1 b2:Bool),fv=.bool b1/\sv=.bool b2/\iv=.int .i64 (i:Int)/\i<=K/\Ext w9 wr/\Hid ((b1=true↔X∈A.take i)/\(b2=true↔Y2∈A.take i))) (λ_ _ iv _=>K-(intOf iv).toNat)
   case atStart=>exact⟨0,false,false,rfl,rfl,rfl,by omega,grown_refl _ _,Lib.hid (by simp)⟩
   case round=>
    obtain⟨i,b1,b2,rfl,rfl,rfl,hi,hg,hB⟩:=hrel;obtain⟨l,rfl⟩:∃l:World,l=wr:=⟨_,rfl⟩;by_cases r:i<K
    ·have cf:(i:Int)<K:=by omega
     have ad:i<A.length:=by rw[<-W.out.2.2.2.2.1];exact r
     obtain⟨el,Eg,ua,uc,hab,_,_,ai,hu⟩:=Rows3.at (Rows3.ext di.out hg) i ad;cases hab
     have h1:=tQ A i ad X;have h2:=tQ A i ad Y2;obtain⟨U,Q⟩:∃U,U=gt A i:=⟨_,rfl⟩;rw[<-Q] at ai hu h1 h2;have bA:∀w',Ext l w'->Calls Tryz.prog 19 #[.slice ua U.length uc,.slice ma X.length mc] w' (Ret w' λ_ v=>v=.bool (eqB U X)):=λw' h=>l9 _ _ U X w' _ _ (Rows2.ext hu h) (Rows2.ext cB.out.1 (grown_trans hg h));have bB:∀w',Ext l w'->Calls Tryz.prog 19 #[.slice ua U.length uc,.slice ja Y2.length jc] w' (Ret w' λ_ v=>v=.bool (eqB U Y2)):=λw' h=>l9 _ _ U Y2 w' _ _ (Rows2.ext hu h) (Rows2.ext cB.out.2 (grown_trans hg h));have bC:(b1 || eqB U X)=true↔X∈A.take (i+1):=by rw[Bool.or_eq_true,hB.out.1,h1,eqB_true]
     have bD:(b2 || eqB U Y2)=true↔Y2∈A.take (i+1):=by rw[Bool.or_eq_true,hB.out.2,h2,eqB_true]
     obtain⟨p,hp⟩:∃p,p=eqB U X:=⟨_,rfl⟩;obtain⟨q,hq⟩:∃q,q=eqB U Y2:=⟨_,rfl⟩;rw[<-hp] at bC bA;rw[<-hq] at bD bB;have HX:=Lib.hid (And.intro (And.intro bC bD) (And.intro bA bB));clear bC bD bA bB h1 h2 hp hq Q hu hB;cases b1 with
     | true=>
      cases b2 with
      | true=>
       go_wp2;go_roundw
       case rel=>exact⟨i+1,true,true,rfl,rfl,by go_num,by omega,hg,Lib.hid (by simpa using HX.out.1)⟩
       case measure=>simp[intOf];omega
      | false=>
       go_wp2_with fail
       refine Calls.mono (HX.out.2.2 l (grown_refl _ _)) ?_;rintro eA wA ⟨vA,rfl,T,rfl⟩;go_wp2;go_roundw
       case rel=>exact⟨i+1,true,q,rfl,rfl,by go_num,by omega,grown_trans hg T,Lib.hid (by simpa using HX.out.1)⟩
       case measure=>simp[intOf];omega
     | false=>
      go_wp2_with fail
      refine Calls.mono (HX.out.2.1 l (grown_refl _ _)) ?_;rintro eA wA ⟨vA,rfl,T,rfl⟩;have dS:=T.cell ai (by simp);cases b2 with
      | true=>
       go_wp2;go_roundw
       case rel=>exact⟨i+1,p,true,rfl,rfl,by go_num,by omega,grown_trans hg T,Lib.hid (by simpa using HX.out.1)⟩
       case measure=>simp[intOf];omega
      | false=>
       go_wp2_with fail
       refine Calls.mono (HX.out.2.2 wA T) ?_;rintro eC wC ⟨vC,rfl,dj,rfl⟩;go_wp2;go_roundw
       case rel=>exact⟨i+1,p,q,rfl,rfl,by go_num,by omega,grown_trans hg (grown_trans T dj),Lib.hid (by simpa using HX.out.1)⟩
       case measure=>simp[intOf];omega
    ·have aR:i=K:=by omega
     have ap:¬(i:Int)<K:=by omega
     have ht:A.take i=A:=by rw[aR,W.out.2.2.2.2.1];exact List.take_length
     have h1:b1=true:=hB.out.1.2 (by rw[ht];exact al.out.2.2.1);have h2:b2=true:=hB.out.2.2 (by rw[ht];exact al.out.2.2.2.1);subst h1 h2;clear hB ht;go_wp2;go_ret;exact⟨_,rfl,grown_trans aE.out.2.1 (grown_trans cC hg),by simp⟩
end Go.Proofs.YtdcobapnlpeaaaaGreat
namespace Go.Proofs.YtdcobapnlpeaaaaGreat
open Go.RowKit Go.ChangeShapes Go.WideShapes Go.Deep
section
variable {H:Type}{enc:TypeId × Value->H}{W:World}{sp:Nat->Bool}
theorem B1 {α:Type} [Inhabited α] {El:World->Value->α->Prop}{t e:TypeId}(v:Tryz.prog.underlying t=some (.slice e)) (w:Tryz.prog.cellsOf e=1)
  (r:∀n c x,DataW.trod enc Tryz.prog W 0 sp true n e [c]=some x->∃y,El W c y) {q:Nat}{c:Value}{x:DataW H × List MemPlace}(h:DataW.trod enc Tryz.prog W 0 sp true q t [c]=some x) :
  ∃xs:List α,Sl El Any W c xs:=by
 rcases open_slice1 v w h with⟨k,_⟩|⟨a,len,cap,m,n,V,D,Pl,k,_,hl,hm,u,_,hx⟩
 ·cases k
  exact⟨[],none,0,rfl,⟨by simp,by simp,λ_=>rfl⟩,λi l=>by simp at l⟩
 ·cases k
  have z:len<=m:=by rw[u];split<;>omega
  obtain⟨Z,hZ⟩:=choose_lt (α:=α) (n:=len) (p:=λi y=>El W (V i) y) (λi l=>r n (V i) _ (hx i (by omega)).2);refine⟨(List.range len).map Z,some a,cap,by simp,⟨by simpa using hl,by simp;unfold maxLen at hm;omega,λh=>by cases h⟩,λi l => ?_⟩;simp only[List.length_map,List.length_range] at l;obtain⟨h1,h2⟩:=hx i (by omega);obtain⟨b,off,spot⟩:=a
  have A:spot=none:=by
   have B:=(hx 0 (by omega)).1;exact World.cell?_spot (by simpa [Addr.add] using B)
  subst A
  have g:W.cell? ⟨b,off+i,none⟩=some (V i):=by
   have e:(⟨b,off,none⟩:Addr).add i=⟨b,off+i,none⟩:=by
    unfold Addr.add;split
    ·rename_i h;subst h;rfl
    ·rfl
   rw[<-e];exact h1
  refine⟨b,off,V i,rfl,trivial,World.block_lt_of_cell? W _ g,g,?_⟩;have:gt ((List.range len).map Z) i=Z i:=by simp[gt,l]
  rw[this];exact hZ i l
end
end Go.Proofs.YtdcobapnlpeaaaaGreat
namespace Go.Proofs.YtdcobapnlpeaaaaGreat
open Go.RowKit Go.ChangeShapes Go.WideShapes Go.ChangeAt
theorem B2:ownKnob Tryz.prog.godebug=none:=by kernel_rfl
theorem B3:laidOutB Tryz.prog=true:=by kernel_rfl
theorem B4:Tryz.prog.underlying 5=some (.int .u8):=by kernel_rfl
theorem tV:Tryz.prog.underlying 22=some (.slice 5):=by kernel_rfl
theorem B5:Tryz.prog.cellsOf 5=1:=by kernel_rfl
theorem B6 {H:Type}{enc:TypeId × Value->H}{W:World}{sp:Nat->Bool}{n:Nat}{c:Value}{x:DataW H × List MemPlace}(h:DataW.trod enc Tryz.prog W 0 sp true n 5 [c]=some x):∃y,ByteEl W c y:=by
 cases n with
 | zero=>simp[DataW.trod] at h
 | succ n=>
  unfold DataW.trod at h;rw[B4] at h;cases c<;>simp at h
  rename_i k z;obtain⟨⟨rfl,hz⟩,_⟩:=h
  have a:0<=z/\z<=255:=by
   have b:=hz;simp[Lit.wf,IntKind.min,IntKind.max,IntKind.signed,IntKind.bits] at b
   omega
  exact⟨z,rfl,a⟩
theorem B7 {H:Type}{enc:TypeId × Value->H}{W:World}{sp:Nat->Bool}{n:Nat}{c:Value}{x:DataW H × List MemPlace}(h:DataW.trod enc Tryz.prog W 0 sp true n 22 [c]=some x):∃l,Bytes Any W c l:=
 B1 (El:=ByteEl) tV B5 (λ_ _ _ h=>B6 h) h
end Go.Proofs.YtdcobapnlpeaaaaGreat
namespace Go.Proofs.YtdcobapnlpeaaaaGreat.RowLtOf
open Go.RowKit Go.ChangeShapes Go.WideShapes Go.ChangeAt
theorem lifted (os:Os) (a:os.Started) (H:Type) (enc:TypeId × Value->H) :
  ReturnsInHanded {} Tryz.checked os 13 .any (Rows.fnLatticeSpec.pre6 enc Tryz.prog Tryz.f13 Rows.fnLatticeRow.domain false) (Rows.fnLatticeSpec.post enc Tryz.prog Tryz.f13 false true false false):=by
 refine returnsInHanded_of_change (C:=Tryz.checked) (s:=Rows.fnLatticeSpec) B2 a (by kernel_rfl) Tryz.func13
  (ChangeSpec.witness6 (enc:=enc) (C:=Tryz.checked) (s:=Rows.fnLatticeSpec) false ⟨#[],#[.slice none 0 0],[]⟩ 8 (by kernel_rfl) (by kernel_rfl) (by kernel_rfl) (by kernel_rfl) (by kernel_rfl)) ?_
 intro W base args A gs k g r _ _;have i:=r;obtain⟨p,q,tW,hV,rfl,_,_⟩:=r;have u:DataW.TrodAll enc Tryz.prog W 0 (λ_=>true) true Tryz.f13.params.toList args.toList A p:=tW;rw[Tryz.params13] at u;obtain⟨v0,Eh,d0,Ei,m,q0,hargs,rfl,rfl,h0,r0⟩:=trodAll_cons u;obtain⟨rfl,rfl,rfl⟩:=trodAll_nil r0;obtain rfl:args = #[v0]:=by cases args;simp_all
 obtain⟨rfl,rfl⟩:=trodVars_none hV;have j:Value.okWide Tryz.prog W .any base 22 v0:=g 0 _ _ (by rw[Tryz.params13];rfl) rfl;obtain⟨w,y,c0,rfl⟩:=okWide_slice tV j;obtain⟨f0,pI⟩:=h0;obtain⟨l,hP⟩:=B7 (c := .slice w y c0) pI;have n:∀x∈m,x.block<W.heap.size:=λx hx=>by simpa using i.lt x (by simpa using hx)
 clear tW;simp only[List.append_nil] at i;refine(BU W (.slice w y c0) l Any hP).mono λe B ⟨v,he,hg,hv⟩ => ?_;subst he;subst hv;have z:Below W.heap.size W B:=hg.below;have b:=Below.trod B3 (by kernel_rfl) (of_decide_eq_true (by kernel_rfl)) ⟨f0,pI⟩ z n;exact⟨_,rfl,[d0],[],m,[],m,[],i,trodAll_mk1 (shut_bool Tryz.underlying4 _),trodAll_mk1 b,rfl,z.frame _,λh=>by cases h⟩
theorem c0:Rows.fnLatticeRow.wf (OpenSpec.ofChange Rows.fnLatticeSpec)=true:=by kernel_rfl
theorem c1:laidOutB Tryz.pinned.checked.prog=true:=by kernel_rfl
theorem c2:mapsRowed Tryz.pinned.checked.prog=true:=by kernel_rfl
theorem c3:Tryz.f13.params.all (Tryz.pinned.checked.prog.readableRec ·)=true:=by kernel_rfl
theorem c4:namedTie Tryz.pinned.checked.prog Rows.fnLatticeRow.named Rows.fnLatticeSpec.vars=true:=by kernel_rfl
theorem c5:(Rows.fnLatticeRow.stops == [])=true:=by kernel_rfl
theorem c6:(Tryz.pinned.checked.prog.stops == [])=true:=by kernel_rfl
theorem c7:(Rows.fnLatticeRow.knobs == [])=true:=by kernel_rfl
theorem c8:(Tryz.pinned.checked.prog.stopKnobs == [])=true:=by kernel_rfl
theorem c9:(Rows.fnLatticeRow.inPlace == Tryz.pinned.checked.prog.inPlace 13)=true:=by kernel_rfl
theorem c10:(Rows.fnLatticeRow.unfollowed == Tryz.pinned.checked.prog.unfollowed 13)=true:=by kernel_rfl
theorem c11:(Rows.fnLatticeRow.recurses == Tryz.pinned.checked.prog.recurses 13)=true:=by kernel_rfl
theorem c12:(Rows.fnLatticeRow.named == Tryz.pinned.checked.prog.varsNamed 13)=true:=by kernel_rfl
theorem c13:(Rows.fnLatticeRow.maps == (Tryz.f13.params.toList++Rows.fnLatticeSpec.plain.varTypes Tryz.pinned.checked.prog).any (Tryz.pinned.checked.prog.mapsRec ·))=true:=by kernel_rfl
theorem c14:(Rows.fnLatticeRow.ifaces == (Tryz.f13.params.toList++Rows.fnLatticeSpec.plain.varTypes Tryz.pinned.checked.prog).any (Tryz.pinned.checked.prog.ifacesRec ·))=true:=by kernel_rfl
theorem c15:(Rows.fnLatticeRow.mapsOut == Tryz.pinned.checked.prog.mapsAmong Tryz.f13.resultTypes.toList)=true:=by kernel_rfl
theorem c16:(Rows.fnLatticeRow.loops == (Tryz.f13.params.toList++Rows.fnLatticeSpec.plain.varTypes Tryz.pinned.checked.prog).any (Tryz.pinned.checked.prog.loopsFrom ·))=true:=by kernel_rfl
theorem c17:(Rows.fnLatticeRow.wideKeys == (Tryz.f13.params.toList++Rows.fnLatticeSpec.plain.varTypes Tryz.pinned.checked.prog++Tryz.f13.resultTypes.toList).any (Tryz.pinned.checked.prog.wideKeysFrom ·))=true:=by kernel_rfl
theorem c18:Rows.fnLatticeSpec.vars.all (Tryz.pinned.checked.prog.varReadable ·)=true:=by kernel_rfl
theorem c19:Tryz.f13.resultTypes.all (λt=>Tryz.pinned.checked.prog.readableRec t && decide (t<Tryz.pinned.checked.prog.types.size))=true:=by kernel_rfl
theorem c20:(Rows.fnLatticeRow.ifacesOut == Tryz.f13.resultTypes.toList.any (Tryz.pinned.checked.prog.ifacesRec ·))=true:=by kernel_rfl
theorem B8:(Rows.fnLatticeRow.loopsOut == Tryz.f13.resultTypes.toList.any (Tryz.pinned.checked.prog.loopsFrom ·))=true:=by kernel_rfl
theorem B9:(Rows.fnLatticeRow.plainKeys == Tryz.pinned.checked.prog.plainKeys)=true:=by kernel_rfl
theorem Ca:Rows.fnLatticeRow.shortTexts.isNone=true:=by kernel_rfl
theorem Cb:Tryz.pinned.checked.prog.stopsHeard=true:=by kernel_rfl
theorem Cc:Tryz.pinned.checked.prog.mayEnter=true:=by kernel_rfl
theorem Ce:(Rows.fnLatticeRow.lifted == Tryz.pinned.checked.prog.liftsFinal)=true:=by kernel_rfl
theorem Cf:(Tryz.pinned.checked.prog.make == some Rows.fnLatticeRow.make)=true:=by kernel_rfl
theorem Cg:(Rows.fnLatticeRow.kinds == (if Rows.fnLatticeRow.domain.isEmpty then [] else Tryz.f13.params.toList.map λt=>match Tryz.pinned.checked.prog.underlying t with|some (.int k)=>some k|_=>none))=true:=by kernel_rfl
theorem Ch:(Rows.fnLatticeRow.pinned == Rows.fnLatticeRow.pinnedBy)=true:=by kernel_rfl
theorem Ci:(Rows.fnLatticeRow.veiled == (Tryz.f13.params.toList++Rows.fnLatticeSpec.plain.varTypes Tryz.pinned.checked.prog++Tryz.f13.resultTypes.toList).any (Tryz.pinned.checked.prog.veiledRec ·))=true:=by kernel_rfl
theorem Ck:Rows.fnLatticeRow.veiledFits Tryz.pinned.checked.prog Tryz.f13.params.toList (Tryz.f13.params.toList++Rows.fnLatticeSpec.plain.varTypes Tryz.pinned.checked.prog++Tryz.f13.resultTypes.toList)=true:=by kernel_rfl
set_option maxRecDepth 1000000 in
theorem facts:joinedFacts Tryz.pinned.checked.prog 13 Tryz.f13 Rows.fnLatticeSpec Rows.fnLatticeRow=true:=
 Bool.and_eq_true_iff.2 ⟨Bool.and_eq_true_iff.2 ⟨Bool.and_eq_true_iff.2 ⟨Bool.and_eq_true_iff.2 ⟨Bool.and_eq_true_iff.2 ⟨Bool.and_eq_true_iff.2 ⟨Bool.and_eq_true_iff.2 ⟨Bool.and_eq_true_iff.2 ⟨Bool.and_eq_true_iff.2 ⟨Bool.and_eq_true_iff.2 ⟨Bool.and_eq_true_iff.2 ⟨Bool.and_eq_true_iff.2 ⟨Bool.and_eq_true_iff.2 ⟨Bool.and_eq_true_iff.2 ⟨Bool.and_eq_true_iff.2 ⟨Bool.and_eq_true_iff.2 ⟨Bool.and_eq_true_iff.2 ⟨Bool.and_eq_true_iff.2 ⟨Bool.and_eq_true_iff.2 ⟨Bool.and_eq_true_iff.2 ⟨Bool.and_eq_true_iff.2 ⟨Bool.and_eq_true_iff.2 ⟨Bool.and_eq_true_iff.2 ⟨Bool.and_eq_true_iff.2 ⟨Bool.and_eq_true_iff.2 ⟨Bool.and_eq_true_iff.2 ⟨Bool.and_eq_true_iff.2 ⟨Bool.and_eq_true_iff.2 ⟨Bool.and_eq_true_iff.2 ⟨Bool.and_eq_true_iff.2 ⟨Bool.and_eq_true_iff.2 ⟨c0,c1⟩,c2⟩,c3⟩,c4⟩,c5⟩,c6⟩,c7⟩,c8⟩,c9⟩,c10⟩,c11⟩,c12⟩,c13⟩,c14⟩,c15⟩,c16⟩,c17⟩,c18⟩,c19⟩,c20⟩,B8⟩,B9⟩,Ca⟩,Cb⟩,Cc⟩,Ce⟩,Cf⟩,Cg⟩,Ch⟩,Ci⟩,Ck⟩
theorem proved:Rows.FnLatticeSaid:=
 OpenClaim.holds_of_wide 13 Tryz.f13 rfl rfl rfl rfl rfl rfl rfl ⟨rfl,rfl,rfl,rfl,rfl⟩ rfl rfl rfl rfl rfl (by kernel_rfl) Tryz.func13 facts
  (of_decide_eq_true (by kernel_rfl)) (by unfold Func.isWrapper;first|(rw[if_pos (by decide +kernel)];kernel_rfl)|(rw[if_neg (by decide +kernel)];exact⟨rfl,rfl⟩))
  (λos a H enc _=>lifted os a H enc)
#print axioms proved
end Go.Proofs.YtdcobapnlpeaaaaGreat.RowLtOf
