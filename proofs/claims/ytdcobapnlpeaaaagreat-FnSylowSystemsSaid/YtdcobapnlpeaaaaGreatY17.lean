/- Merged from templates. -/
import Derived.Test.YtdcobapnlpeaaaaGreatY16
import Derived.Laws.BitsAllLaws
import Derived.Carry
import Derived.Deep.Slices
import Derived.ChangeSame
import Derived.ChangeSlices
import Derived.JoinedOf
import Derived.JoinedAt
import Derived.JoinedCond
import Derived.ReadAgain
set_option maxRecDepth 100000
set_option maxHeartbeats 8000000
namespace Go.Proofs.YtdcobapnlpeaaaaGreat
open Go.RowKit
open Classical in
noncomputable def inF (E:List (List Int)) (K:List Int->Prop) (k:Nat):List (List Int):=(E.take k).filter (λx=>decide (K x))
theorem inF_succ {E:List (List Int)}{K:List Int->Prop}{k:Nat}(hk:k<E.length) (a:K (gt E k)):inF E K (k+1)=inF E K k++[gt E k]:=by
 unfold inF;rw[take_succ_gt E k hk,List.filter_append];simp[a]
theorem inF_skip {E:List (List Int)}{K:List Int->Prop}{k:Nat}(hk:k<E.length) (a:¬K (gt E k)):inF E K (k+1)=inF E K k:=by
 unfold inF;rw[take_succ_gt E k hk,List.filter_append];simp[a]
theorem inF_len (E:List (List Int)) (K:List Int->Prop) (k:Nat):(inF E K k).length<=E.length:=by
 unfold inF;have h1:=List.length_filter_le (λx=>(by classical exact decide (K x):Bool)) (E.take k);rw[List.length_take] at h1;have:((E.take k).filter (λx=>(by classical exact decide (K x):Bool))).length<=E.length:=by omega
 exact this
theorem inF_mem {P:Pr}(hP:Valid P) {H K:List Int->Prop}(S:Sub P H) {E:List (List Int)}(a:E=elemsIn P H) (x:List Int):x∈inF E K E.length↔(H x/\K x):=by
 unfold inF;rw[List.take_length,a,List.mem_filter,elemsIn_mem hP S.vec];simp
theorem l13Meet_ok (P:Pr) (G:Grp P) (w:World) (pv uv vv:Value) (H K:List Int->Prop) (Sp Su Sv:Nat->Prop) (S:Sub P H) (R:Sub P K) (ac:PresV Sp w pv P) (hu:Rows2 Su w uv (cseq P H)) (hv:Rows2 Sv w vv (cseq P K)) :
  Calls Tryz.prog 201 #[pv,uv,vv] w (Ret w λw' v=>Rows2 Any w' v (cseq P (λx=>H x/\K x))):=by
 have hP:=G.v;have aH:=hP.n6;obtain⟨vo,vp,vc,rfl,h3⟩:=ac;have I:=PresP.box h3 28;have z:Ext w (w.alloc (.cells #[vo,vp,vc] 28)):=World.grownBy_alloc _ _ _;have ag:=Rows2.ext hu z;have ah:=Rows2.ext hv z;obtain⟨au,capu,rfl,_,_⟩:=Sl.shape hu;obtain⟨av,capv,rfl,_,_⟩:=Sl.shape hv;obtain⟨J,dI,dG,_,_,hc0,A,B,dy⟩:=I.at;simp only[Nat.zero_add] at A B;have L:∀w',Ext (w.alloc (.cells #[vo,vp,vc] 28)) w'->w'.cell? ⟨w.heap.size,0,none⟩=some J/\w'.cell? ⟨w.heap.size,1,none⟩=some dI/\w'.cell? ⟨w.heap.size,2,none⟩=some dG:=λw' h=>⟨h.cell hc0 (by simp),h.cell A (by simp),h.cell B (by simp)⟩;have Z:=Lib.hid L;clear L I hu hv;have hE:=l12Elements_ok P G (w.alloc (.cells #[vo,vp,vc] 28)) _ _ H Any Su S ⟨_,_,_,rfl,dy⟩ ag;obtain⟨E,n⟩:∃E,E=elemsIn P H:=⟨_,rfl⟩;have aI:E.length<=729:=by rw[n];exact elemsIn_len hP H
 rw[<-n] at hE;have HE:=Lib.hid n;clear n;go_enter Tryz.func201,Tryz.ntmps201;go_wp2_with fail
 clear hc0 A B;generalize ak:w.alloc (.cells #[vo,vp,vc] 28)=w0 at *;clear ak;refine Calls.mono hE ?_;rintro e1 w1 ⟨v1,rfl,hg1,hO⟩;clear hE;have C:=RowsD.rows (hO.toD (by omega));obtain⟨ae,M,q8,_,_⟩:=Sl.shape C;subst q8;have N:Rows2 Any w1 (.slice ae E.length M) E:=Rows2.sub C (λ_ _ _=>trivial);clear hO C;go_wp2;go_loopw [8,9] (λov iv wr=>∃(i:Nat) (v4:Value),v4=ov/\iv=.int .i64 i/\i<=E.length/\Ext w1 wr/\ShQ (λ_=>False) w1.heap.size wr v4 (inF E K i)) (λ_ iv _=>E.length-(intOf iv).toNat)
 case atStart=>exact⟨0,_,rfl,rfl,by omega,World.grownBy_alloc _ _ _,by
  have:inF E K 0=[]:=by simp[inF]
  rw[this];exact ShQ.lit _ _ _ (Nat.le_refl _)⟩
 case round=>
  obtain⟨i,v4,rfl,rfl,hi,hg,O⟩:=hrel;have a:=grown_trans hg1 hg;by_cases g:i<E.length
  ·have aC:(i:Int)<E.length:=by omega
   obtain⟨bb,off,a2,q,rfl,_,_,hc,hr⟩:=Rows2.at N i g;have Q:=hg.cell hc (by simp);have T:Vec P.orders (gt E i):=S.vec _ ((elemsIn_mem hP S.vec _).1 (by rw[<-HE.out];exact gtMem g));have l:=inF_len E K i;have U:=Lib.hid (And.intro T l);clear T l;have e1:∀w',Ext wr w'->w'.cell? ⟨w.heap.size,0,none⟩=some J:=λw' h=>(Z.out w' (grown_trans a h)).1;have e2:∀w',Ext wr w'->w'.cell? ⟨w.heap.size,1,none⟩=some dI:=λw' h=>(Z.out w' (grown_trans a h)).2.1;have e3:∀w',Ext wr w'->w'.cell? ⟨w.heap.size,2,none⟩=some dG:=λw' h=>(Z.out w' (grown_trans a h)).2.2;have e4:∀w',Ext wr w'->w'.cell? ⟨bb,off+i,none⟩=some (.slice a2 (gt E i).length q):=λw' h=>h.cell Q (by simp);clear Q;go_wp2
   go_region_held3 (λw'=>Ext wr w') (first|exact grown_drew _ _|assumption)
    (first
     | (go_at_call 278;refine Calls.mono (Calls.rel (w0:=wr) (by assumption) (l12Has_ok P G _ _ _ _ K (gt E i) Any Any Any R ⟨_,_,_,rfl,Pres3.ext dy (grown_trans a (by assumption))⟩ (Rows2.sub (Rows2.ext ah (grown_trans a (by assumption))) (λ_ _ _=>trivial)) (Ints.sub (Ints.ext hr (grown_trans hg (by assumption))) (λ_ _ _=>trivial)) U.out.1)) ?_;rintro eA wA ⟨vA,rfl,D,eW,r,rfl,p⟩;have V:=Lib.hid p;clear p))
   clear e1 e2 e3 e4;have b:=grown_trans hg D;have am:=b.cell hc (by simp);cases r with
   | false=>
    have m:=inF_skip g (λh=>by have:=V.out.2 h;cases this);have F:=Lib.hid m;clear m;go_wp2;go_roundw
    case rel=>exact⟨i+1,v4,rfl,by go_num,by omega,b,by rw[F.out];exact O.ext D⟩
    case measure=>simp[intOf];omega
   | true=>
    have m:=inF_succ g (V.out.1 rfl);have F:=Lib.hid m;clear m;have p:Ints (λk=>¬False/\v4.ownBlock≠some k) wA (.slice a2 (gt E i).length q) (gt E i):=Ints.mono hr (λk _ hk=>⟨⟨id,λe=>by have:=(O.lt k e).1;omega⟩,Nat.lt_of_lt_of_le hk b.size,b.block k hk (by simp)⟩);go_wp2_with (first|(at_builtin;refine wp_shq_app rfl _ _ rfl (λ_=>False) w1.heap.size v4 _ (inF E K i) (gt E i) rfl wA (O.ext D) rfl p rfl (by have:=U.out.2;omega) b.size ?_;intro v5 w5 an ao aQ;have W:=grown_own b ao (λj hj g=>by have:=(O.lt j hj).1;omega))|fail)
    clear am;go_roundw
    case rel=>exact⟨i+1,v5,rfl,by go_num,by omega,W,by rw[F.out];exact an⟩
    case measure=>simp[intOf];omega
  ·have ap:i=E.length:=by omega
   subst ap;have u:genP P (λx=>x∈inF E K E.length)=λx=>H x/\K x:=genP_list (S.and R) (inF_mem hP S HE.out);have y:∀x∈inF E K E.length,Vec P.orders x:=λx hx=>S.vec x ((inF_mem hP S HE.out x).1 hx).1;have l:=inF_len E K E.length;have HG:=Lib.hid (And.intro u (And.intro y l));clear u y l;obtain⟨aw,hb1,hb2⟩:=Z.out wr a;have X:=O.rows;obtain⟨aq,capq,rC,_,_⟩:=Sl.shape X;subst rC;go_wp2_with fail
   clear aw hb1 hb2;refine Calls.mono (l12Close_ok P G wr _ _ (inF E K E.length) Any Any ⟨_,_,_,rfl,Pres3.ext dy a⟩ X HG.out.2.1 (by have:=HG.out.2.2;omega)) ?_;rintro eF wF ⟨vF,rfl,ax,Y⟩;rw[HG.out.1] at Y;go_wp2;go_ret;exact⟨_,rfl,grown_trans z (grown_trans a ax),Y⟩
theorem l13Conj_ok (P:Pr) (G:Grp P) (w:World) (pv uv xv:Value) (L:List (List Int)) (X:List Int) (Sp Su Sx:Nat->Prop) (U:PresV Sp w pv P) (V:Rows2 Su w uv L) (W:∀y∈L,Vec P.orders y) (an:L.length<=10000) (hx:Ints Sx w xv X) (Y:Vec P.orders X) :
  Calls Tryz.prog 136 #[pv,uv,xv] w (Ret w λw' v=>Rows2 Any w' v (cseq P (genP P (λz=>z∈conjL P L X)))):=by
 have hP:=G.v;have aA:=hP.n6;obtain⟨vo,vp,vc,rfl,h3⟩:=U;have A:=PresP.box h3 28;have m:Ext w (w.alloc (.cells #[vo,vp,vc] 28)):=World.grownBy_alloc _ _ _;have B:(w.alloc (.cells #[vo,vp,vc] 28)).heap.size=w.heap.size+1:=by simp
 have Z:=Rows2.ext V m;have aa:=hx.ext m;obtain⟨au,capu,rfl,_,_⟩:=Sl.shape V;obtain⟨ax,capx,rfl,_,_⟩:=hx.shape;obtain⟨ab,dI,dG,_,_,hc0,n,p,dy⟩:=A.at;simp only[Nat.zero_add] at n p;have C:(conjL P L X).length=L.length:=by unfold conjL;rw[List.length_map]
 have D:∀z∈conjL P L X,Vec P.orders z:=λz hz=>by
  unfold conjL at hz;obtain⟨y,hy,rfl⟩:=List.mem_map.1 hz;exact G.conjV (W y hy) Y
 have l:=Lib.hid (And.intro W (And.intro Y (And.intro C D)));clear W Y C D A V hx;go_enter Tryz.func136,Tryz.ntmps136;go_wp2;have HS:=Lib.hid B;clear B;generalize ac:w.alloc (.cells #[vo,vp,vc] 28)=w0 at *;clear ac;have f1:∀w',Ext w0 w'->w'.cell? ⟨w.heap.size,0,none⟩=some ab:=λw' h=>h.cell hc0 (by simp);have f2:∀w',Ext w0 w'->w'.cell? ⟨w.heap.size,1,none⟩=some dI:=λw' h=>h.cell n (by simp);have f3:∀w',Ext w0 w'->w'.cell? ⟨w.heap.size,2,none⟩=some dG:=λw' h=>h.cell p (by simp);have HF:=Lib.hid (And.intro f1 (And.intro f2 f3));clear f1 f2 f3 hc0 n p;go_loopw [7,8] (λov iv wr=>∃(k:Nat) (v4:Value),v4=ov/\iv=.int .i64 k/\k<=L.length/\Ext w0 wr/\ShQ (λ_=>False) w0.heap.size wr v4 ((conjL P L X).take k)) (λ_ iv _=>L.length-(intOf iv).toNat)
 case atStart=>exact⟨0,_,rfl,rfl,by omega,World.grownBy_alloc _ _ _,by rw[<-HS.out];exact ShQ.lit _ _ _ (Nat.le_refl _)⟩
 case round=>
  obtain⟨k,v4,rfl,rfl,hk,u,E⟩:=hrel;by_cases a:k<L.length
  ·have av:(k:Int)<L.length:=by omega
   obtain⟨b,off,a2,F,rfl,_,_,hc,hr⟩:=Rows2.at Z k a;have q:=l.out.1 _ (gtMem a)
   have g:(conjL P L X).take (k+1)=(conjL P L X).take k++[rConj P (gt L k) X]:=by
    rw[take_succ_gt _ k (by rw[l.out.2.2.1];exact a)];unfold conjL;rw[gt_map _ _ _ a]
   have H:((conjL P L X).take k).length<=1000000:=by rw[List.length_take];have:=l.out.2.2.1;omega
   have I:=G.conjV q l.out.2.1;have J:∀j,v4.ownBlock=some j->w0.heap.size<=j:=λj K=>(E.lt j K).1;have i:=Lib.hid (And.intro g (And.intro q (And.intro H I)));clear g q H I;obtain⟨f1,f2,f3⟩:=HF.out;have f4:∀w',Ext w0 w'->w'.cell? ⟨b,off+k,none⟩=some (.slice a2 (gt L k).length F):=λw' h=>h.cell hc (by simp);clear hc;go_wp2
   go_region_held3 (λw'=>Ext w0 w') (first|exact grown_trans u (grown_drew _ _)|assumption|exact grown_trans r (World.grownBy_alloc _ _ _))
    (first
     | (go_at_call 150;refine Calls.mono (Calls.rel2 (w0:=w0) (by assumption) (l10Conj_ok P hP _ _ _ _ (gt L k) X Any Any Any ⟨_,_,_,rfl,Pres3.ext dy (by assumption)⟩ (Ints.sub (Ints.ext hr (by assumption)) (λ_ _ _=>trivial)) (Ints.sub (Ints.ext aa (by assumption)) (λ_ _ _=>trivial)) i.out.2.1 l.out.2.1)) ?_;rintro eC wC ⟨vC,rfl,r,M,hsC,N⟩;have O:Ext wr wC:=grown_trans (grown_drew _ _) M;have Q:Ints (λj=>¬False/\v4.ownBlock≠some j) wC vC (rConj P (gt L k) X):=ints_of_own N (by rw[i.out.2.2.2.1];omega) (λj K=>⟨id,λe=>by have h1:=(N.lt j K).1;have h2:=(E.lt j e).2;have h3:wr.heap.size<=wr.drew.heap.size:=(grown_drew wr none).size;omega⟩);obtain⟨aC,capC,l6,_,_⟩:=Q.shape;subst l6)
     | (refine step_shq_app rfl _ _ rfl (λ_=>False) w0.heap.size v4 _ ((conjL P L X).take k) _ rfl wC (E.ext O) rfl Q rfl i.out.2.2.1 r.size ?_;intro v5 w5 R af aI;have S:Ext w0 w5:=grown_own r af (λj K a=>by have:=J j K;omega)))
   clear f1 f2 f3 f4;rw[<-i.out.1] at R;go_wp2;go_roundw
   case rel=>exact⟨k+1,v5,rfl,by go_num,by omega,S,R⟩
   case measure=>simp[intOf];omega
  ·have ag:k=L.length:=by omega
   subst ag;rw[List.take_of_length_le (by rw[l.out.2.2.1];exact Nat.le_refl _)] at E;obtain⟨f1,f2,f3⟩:=HF.out;have ah:=f1 wr u;have ai:=f2 wr u;have aj:=f3 wr u;clear f1 f2 f3;have T:=E.rows;obtain⟨aq,capq,rC,_,_⟩:=Sl.shape T;subst rC;go_wp2_with fail
   clear ah ai aj;refine Calls.mono (l12Close_ok P G wr _ _ (conjL P L X) Any Any ⟨_,_,_,rfl,Pres3.ext dy u⟩ T l.out.2.2.2 (by have:=l.out.2.2.1;omega)) ?_;rintro eF wF ⟨vF,rfl,ak,BQ⟩;go_wp2;go_ret;exact⟨_,rfl,grown_trans m (grown_trans u ak),BQ⟩
end Go.Proofs.YtdcobapnlpeaaaaGreat
namespace Go.Proofs.YtdcobapnlpeaaaaGreat
abbrev gU (P:Pr) (U:List (List Int)):List Int->Prop:=genP P (λx=>x∈U)
end Go.Proofs.YtdcobapnlpeaaaaGreat
namespace Go.Proofs.YtdcobapnlpeaaaaGreat
open Go.RowKit
theorem BR {P:Pr}(G:Grp P) {d:Nat}(b:d<P.orders.length):gt P.orders d∈dr (ordP P):=by
 have key:∀k,k<=P.orders.length->d<k->gt P.orders d∣prodTo P.orders k:=by
  intro k;induction k with
  | zero=>intro _ h;omega
  | succ k g=>
   intro hk a;simp only[prodTo];rcases Nat.lt_succ_iff_lt_or_eq.1 a with h|h
   ·exact Int.dvd_trans (g (by omega) h) (Int.dvd_mul_right _ _)
   ·rw[h];exact Int.dvd_mul_left _ _
 have h1:ordP P%gt P.orders d=0:=Int.emod_eq_zero_of_dvd (key _ (Nat.le_refl _) b);have i:=G.v.ord d b;unfold dr;rw[List.mem_filter];refine⟨by rcases i with e|e|e|e<;>rw[e]<;>simp,by simp[h1]⟩
theorem mO {P:Pr}(G:Grp P) {d:Nat}(a:d<P.orders.length):∃k,k<(dr (ordP P)).length/\gt (dr (ordP P)) k=gt P.orders d:=by
 obtain⟨k,hk,e⟩:=mem_gt (BR G a);exact⟨k,hk,e⟩
theorem oZ (n:Int) {i j:Nat}(a:i<(dr n).length) (b:j<(dr n).length) (h:gt (dr n) i=gt (dr n) j):i=j:=by
 rcases Nat.lt_trichotomy i j with h1|h1|h1
 ·exact absurd h.symm (oW n h1 b)
 ·exact h1
 ·exact absurd h (oW n h1 a)
theorem rD (P:Pr) {i k:Nat}(g:i<(dr (ordP P)).length) (hk:k<(dr (ordP P)).length):gt (dr (ordP P)) k∈fA P i↔k≠i:=by
 unfold fA;rw[List.mem_append];constructor
 ·rintro (h|h)
  ·obtain ⟨j,a,e⟩:=List.getElem_of_mem h
   rw[List.length_take] at a;rw[List.getElem_take] at e;have:gt (dr (ordP P)) j=gt (dr (ordP P)) k:=by rw[gt_eq _ j (by omega)];exact e
   have:=oZ _ (by omega) hk this;omega
  ·obtain ⟨j,a,e⟩:=List.getElem_of_mem h
   rw[List.length_drop] at a;rw[List.getElem_drop] at e;have:gt (dr (ordP P)) (i+1+j)=gt (dr (ordP P)) k:=by rw[gt_eq _ _ (by omega)];exact e
   have:=oZ _ (by omega) hk this;omega
 ·intro h
  rw[gt_eq _ k hk];rcases Nat.lt_or_ge k i with h1|h1
  ·refine .inl ?_
   have b:k<((dr (ordP P)).take i).length:=by rw[List.length_take];omega
   have:=List.getElem_mem b;rw[List.getElem_take] at this;exact this
  ·refine .inr ?_
   have b:k-(i+1)<((dr (ordP P)).drop (i+1)).length:=by rw[List.length_drop];omega
   have:=List.getElem_mem b;rw[List.getElem_drop] at this;have e:i+1+(k-(i+1))=k:=by omega
   simp only[e] at this;exact this
section
variable {P:Pr}{G:Grp P}
theorem BS {H K:El G->Prop}(h:∀x,H x->K x):cd H<=cd K:=
 nodup_sub_len _ _ (jg H) (λx hx=>iq.2 (h x (iq.1 hx)))
theorem BU {A B:El G->Prop}(a:SG A) (e:SG B):cd A*cd B<=cd (λx=>A x/\B x)*cd (λ_:El G=>True):=by
 have g:=a.and e;have h1:=tD g a (λx h=>h.1)
 have k:=qj (N:=B) (B:=λx=>∃t∈jh (λx=>A x/\B x) A,eqv B t x) e (ts:=jh (λx=>A x/\B x) A) (jg _) (λt b n l=>⟨t,b,by show B (t⁻¹ * (t*n));rw[El.iM];exact l⟩) (λt b u i m=>by
  have a1:=(kr.1 b).1;have a2:=(kr.1 i).1;exact ql g b i ⟨a.mul _ _ (a.inv _ a1) a2,m⟩) (λx hx=>hx)
 have j:cd (λx=>∃t∈jh (λx=>A x/\B x) A,eqv B t x)<=cd (λ_:El G=>True):=BS (λ_ _=>trivial);rw[k] at j;rw[h1,Nat.mul_right_comm,Nat.mul_comm];exact Nat.mul_le_mul_left _ j
theorem BV:cd (λ_:El G=>True)=dg P (λ_=>True) P.orders.length 0:=by
 have S:SG (λ_:El G=>True):=⟨trivial,λ_ _ _ _=>trivial,λ_ _=>trivial⟩;rw[iZ S];refine fC _ _ (λk _ hk=>⟨λ_=>trivial,λ_ => ?_⟩);have a:k<P.orders.length:=by omega
 refine⟨a,⟨unitV P.orders.length k,unitV_vec G.v k⟩,trivial,λj b => ?_,?_⟩
 ·show gt (unitV P.orders.length k) j=0
  rw[gt_unit _ _ _ (by omega),if_neg (by omega)]
 ·show gt (unitV P.orders.length k) k≠0
  rw[gt_unit _ _ _ a,if_pos rfl];decide
theorem vH (d:Nat):pv (λ_:El G=>True) d↔d<P.orders.length:=by
 refine⟨λh=>h.1,λhk => ?_⟩;refine⟨hk,⟨unitV P.orders.length d,unitV_vec G.v d⟩,trivial,λj a => ?_,?_⟩
 ·show gt (unitV P.orders.length d) j=0
  rw[gt_unit _ _ _ (by omega),if_neg (by omega)]
 ·show gt (unitV P.orders.length d) d≠0
  rw[gt_unit _ _ _ hk,if_pos rfl];decide
theorem BW {A B:El G->Prop}(i:SG A) (j:SG B) {QA QB:Nat->Prop}(m:∀d,pv A d↔d<P.orders.length/\QA d) (hB:∀d,pv B d↔d<P.orders.length/\QB d) (r:∀d,d<P.orders.length->QA d\/QB d) (d:Nat) :
  pv (λx=>A x/\B x) d↔d<P.orders.length/\QA d/\QB d:=by
 have u:=i.and j
 have a:∀d,pv (λx=>A x/\B x) d->d<P.orders.length/\QA d/\QB d:=λd h=>
  ⟨h.1,((m d).1 (gL (λx hx=>hx.1) h)).2,((hB d).1 (gL (λx hx=>hx.2) h)).2⟩
 refine⟨a d,?_⟩;have b:=BU i j;rw[iZ i,iZ j,iZ u,BV] at b;have v:dg P (pv A) P.orders.length 0=dg P QA P.orders.length 0:=fC _ _ (λk _ hk=>by rw[m];exact⟨λh=>h.2,λh=>⟨by omega,h⟩⟩);have w:dg P (pv B) P.orders.length 0=dg P QB P.orders.length 0:=fC _ _ (λk _ hk=>by rw[hB];exact⟨λh=>h.2,λh=>⟨by omega,h⟩⟩);rw[v,w] at b;have n:=iN (P:=P) (Q:=λk=>k<P.orders.length/\QA k/\QB k) (R:=λk=>QA k/\¬QB k) P.orders.length 0 (λk _ _ h1 l=>l.2 h1.2.2)
 have c1:dg P (λk=>(k<P.orders.length/\QA k/\QB k)\/(QA k/\¬QB k)) P.orders.length 0=dg P QA P.orders.length 0:=fC _ _ (λk _ hk=>⟨λh=>h.elim (λh=>h.2.1) (λh=>h.1),λh=>by
  by_cases e:QB k
  ·exact .inl ⟨by omega,h,e⟩
  ·exact .inr ⟨h,e⟩⟩)
 have p:=iN (P:=P) (Q:=QB) (R:=λk=>QA k/\¬QB k) P.orders.length 0 (λk _ _ h1 l=>l.2 h1)
 have c2:dg P (λk=>QB k\/(QA k/\¬QB k)) P.orders.length 0=dg P (λ_=>True) P.orders.length 0:=fC _ _ (λk _ hk=>⟨λ_=>trivial,λ_=>by
  by_cases e:QB k
  ·exact .inl e
  ·exact .inr ⟨(r k (by omega)).resolve_right e,e⟩⟩)
 rw[c1] at n;rw[c2] at p;have g:=iG G (λ_=>True) _ _ (Nat.zero_add P.orders.length)
 have y:dg P (λk=>k<P.orders.length/\QA k/\QB k) P.orders.length 0<=dg P (pv (λx=>A x/\B x)) P.orders.length 0:=by
  rw[<-n,Nat.mul_assoc,Nat.mul_comm (dg P (λk=>QA k/\¬QB k) P.orders.length 0),p] at b;exact Nat.le_of_mul_le_mul_right b g
 have z:dg P (λd=>(d<P.orders.length/\QA d/\QB d)/\pv (λx=>A x/\B x) d) P.orders.length 0=dg P (pv (λx=>A x/\B x)) P.orders.length 0:=fC _ _ (λk _ _=>⟨λh=>h.2,λh=>⟨a k h,h⟩⟩);have q:dg P (pv (λx=>A x/\B x)) P.orders.length 0<=dg P (λk=>k<P.orders.length/\QA k/\QB k) P.orders.length 0:=uk G _ _ (λk _ h=>a k h);exact(um G (λk=>k<P.orders.length/\QA k/\QB k) (pv (λx=>A x/\B x)) (λd h=>h.1)).1 (by rw[z];omega) d
end
def iJ (P:Pr) (a:Nat->Prop) (j:Nat) (x:List Int):Prop:=Vec P.orders x/\∀k,k<j->¬a k->gP P (gJ P (fA P k)) x
theorem o7 (P:Pr) (i:Nat):∀j x,ez P i j x↔iJ P (λk=>k=i) j x
 | 0,x=>⟨λh=>⟨h,λk hk=>by omega⟩,λh=>h.1⟩
 | j + 1,x=>by
  unfold ez;by_cases e:j=i
  ·rw [if_pos e,o7 P i j x]
   exact⟨λh=>⟨h.1,λk hk a=>h.2 k (by omega) a⟩,λh=>⟨h.1,λk hk a=>h.2 k (by omega) a⟩⟩
  ·rw [if_neg e]
   constructor
   ·rintro ⟨h1,h2⟩
    have h1:=(o7 P i j x).1 h1;refine⟨h1.1,λk hk a => ?_⟩;rcases Nat.lt_succ_iff_lt_or_eq.1 hk with h|h
    ·exact h1.2 k h a
    ·rw[h];exact h2
   ·intro h
    exact⟨(o7 P i j x).2 ⟨h.1,λk hk a=>h.2 k (by omega) a⟩,h.2 j (by omega) e⟩
theorem BZ {P:Pr}{pr:List Int}(h:ew P pr=0):gQ P pr (gJ P pr):=by
 have G:=grp_of_r (ji h).1;obtain⟨L,a⟩:=uX G pr;unfold gJ;rw[oP h a];exact(a.2 _).1 (gt_mem (a.pos G))
theorem pg {P:Pr}(h:ew P []=0) (b:Nat->Prop) (j:Nat):Sub P (iJ P b j):=by
 have G:=grp_of_r (ji h).1;have S:=λk=>G.subB (oQ (mJ h k));exact⟨λx hx=>hx.1,⟨G.oneV,λk _ _=>(S k).one⟩,λx y hx hy=>⟨G.mulV hx.1 hy.1,λk hk a=>(S k).mul _ _ (hx.2 k hk a) (hy.2 k hk a)⟩,λx hx=>⟨G.invV hx.1,λk hk a=>(S k).inv _ (hx.2 k hk a)⟩⟩
theorem rE {P:Pr}(h:ew P []=0) (G:Grp P) (b:Nat->Prop):∀j,j<=(dr (ordP P)).length->∀d,pv (ey G (iJ P b j)) d↔d<P.orders.length/\∀k,k<j->¬b k->gt P.orders d≠gt (dr (ordP P)) k
 | 0,_,d=>by
  have e:ey G (iJ P b 0)=λ_=>True:=funext λx=>propext ⟨λ_=>trivial,λ_=>⟨x.2,λk hk=>by omega⟩⟩;rw[e,vH];exact⟨λh=>⟨h,λk hk=>by omega⟩,λh=>h.1⟩
 | j + 1,hj,d=>by
  have u:=rE h G b j (by omega);by_cases l:b j
  ·have e:ey G (iJ P b (j+1))=ey G (iJ P b j):=funext λx=>propext ⟨λhx=>⟨hx.1,λk hk a=>hx.2 k (by omega) a⟩,λhx=>⟨hx.1,λk hk a=>by
    rcases Nat.lt_succ_iff_lt_or_eq.1 hk with h1|h1
    ·exact hx.2 k h1 a
    ·rw[h1] at a;exact absurd l a⟩⟩
   rw[e,u d]
   exact ⟨λi=>⟨i.1,λk hk a=>by
    rcases Nat.lt_succ_iff_lt_or_eq.1 hk with h1|h1
    ·exact i.2 k h1 a
    ·rw[h1] at a;exact absurd l a⟩,λi=>⟨i.1,λk hk a=>i.2 k (by omega) a⟩⟩
  ·have hH:=BZ (mJ h j)
   have p:=(jS G hH.1 (fA P j)).1 hH.2
   have e:ey G (iJ P b (j+1))=λx=>ey G (iJ P b j) x/\ey G (gP P (gJ P (fA P j))) x:=funext λx=>propext ⟨λhx=>⟨⟨hx.1,λk hk a=>hx.2 k (by omega) a⟩,hx.2 j (by omega) l⟩,λhx=>⟨hx.1.1,λk hk a=>by
    rcases Nat.lt_succ_iff_lt_or_eq.1 hk with h1|h1
    ·exact hx.1.2 k h1 a
    ·rw[h1];exact hx.2⟩⟩
   rw [e,BW (jF (pg h b j)) (jF (G.subB hH.1)) (QA:=λd=>∀k,k<j->¬b k->gt P.orders d≠gt (dr (ordP P)) k) (QB:=λd=>gt P.orders d∈fA P j) u p (λd w=>by
    obtain⟨m,n,em⟩:=mO G w;by_cases q:m=j
    ·refine .inl (λk hk _ g => ?_)
     rw[<-em] at g;have:=oZ _ n (by omega) g;omega
    ·refine .inr ?_
     show gt P.orders d∈fA P j
     rw[<-em];exact(rD P (by omega) n).2 q) d]
   constructor
   ·rintro ⟨h1,h2,v⟩
    refine⟨h1,λk hk a => ?_⟩;rcases Nat.lt_succ_iff_lt_or_eq.1 hk with r|r
    ·exact h2 k r a
    ·rw [r]
     intro g;rw[g] at v;exact(rD P (by omega) (by omega)).1 v rfl
   ·rintro ⟨h1,h2⟩
    refine⟨h1,λk hk a=>h2 k (by omega) a,?_⟩;obtain⟨m,n,em⟩:=mO G h1;rw[<-em];refine(rD P (by omega) n).2 (λg=>h2 j (by omega) l ?_);rw[<-em,g]
section
variable {P:Pr}(G:Grp P) (h:ew P []=0)
include G h
omit G in
theorem vJ {i:Nat}(a:i<(dr (ordP P)).length):gt (dP P) i=cseq P (iJ P (λk=>k=i) (dr (ordP P)).length):=by
 rw[mM h];unfold fS;rw[gt_map _ _ _ (by rw[List.length_range];exact a)];have e:gt (List.range (dr (ordP P)).length) i=i:=by rw[gt_eq _ i (by rw[List.length_range];exact a)];simp
 rw[e];congr 1
 exact funext λx=>propext (o7 P i _ x)
theorem pq {i:Nat}(g:i<(dr (ordP P)).length) (d:Nat):pv (ey G (iJ P (λk=>k=i) (dr (ordP P)).length)) d↔d<P.orders.length/\gt P.orders d=gt (dr (ordP P)) i:=by
 rw[rE h G _ _ (Nat.le_refl _)];constructor
 ·rintro ⟨h1,a⟩
  refine⟨h1,?_⟩;obtain⟨m,j,em⟩:=mO G h1;by_cases e:m=i
  ·rw[<-em,e]
  ·exact absurd em.symm (a m j e)
 ·rintro ⟨h1,a⟩
  refine⟨h1,λk hk b e=>b ?_⟩;rw[a] at e;exact oZ _ hk g e.symm
omit G in
theorem mP:(dP P).length=(dr (ordP P)).length:=by rw[mM h,lI]
theorem pE {i:Nat}(a:i<(dr (ordP P)).length):SubB P (gt (dP P) i):=by
 rw[vJ h a];exact G.subB_cseq (pg h _ _)
theorem lJ {i:Nat}(a:i<(dr (ordP P)).length):gP P (gt (dP P) i)=iJ P (λk=>k=i) (dr (ordP P)).length:=by
 rw[vJ h a];exact G.genP_cseq (pg h _ _)
theorem B1:∀u∈dP P,SubB P u:=λu a=>by
 obtain⟨i,hi,rfl⟩:=mem_gt a;exact pE G h (by rw[<-mP h];exact hi)
theorem vK {i:Nat}(a:i<(dr (ordP P)).length):oU P (gt (dP P) i)=dU P [gt (dr (ordP P)) i]:=by
 refine(jS G (pE G h a) _).2 (λd => ?_);show pv (ey G (gP P (gt (dP P) i))) d↔_
 rw[lJ G h a,pq G h a,List.mem_singleton]
theorem B2 {i j:Nat}(w:j<i) (g:i<(dr (ordP P)).length):iH P (gt (dP P) j) (gt (dP P) i)=oU P (gt (dP P) j)*oU P (gt (dP P) i):=by
 have a:j<(dr (ordP P)).length:=by omega
 have z:=pE G h a;have A:=pE G h g;have B:∀x∈gt (dP P) j++gt (dP P) i,Vec P.orders x:=λx hx=>(List.mem_append.1 hx).elim (z.1 x) (A.1 x);have n:Sub P (genP P (λx=>x∈gt (dP P) j++gt (dP P) i)):=G.genP_sub B;have ST:=pg h (λk=>k=j\/k=i) (dr (ordP P)).length
 have q:∀x,genP P (λx=>x∈gt (dP P) j++gt (dP P) i) x->iJ P (λk=>k=j\/k=i) (dr (ordP P)).length x:=λx hx=>by
  refine genP_le ST (λy hy => ?_) hx;rcases List.mem_append.1 hy with hy|hy
  ·have h1:gP P (gt (dP P) j) y:=genP_mem hy
   rw[lJ G h a] at h1;exact⟨h1.1,λk hk r=>h1.2 k hk (λe=>r (.inl e))⟩
  ·have h1:gP P (gt (dP P) i) y:=genP_mem hy
   rw[lJ G h g] at h1;exact⟨h1.1,λk hk r=>h1.2 k hk (λe=>r (.inr e))⟩
 have u:∀d,pv (ey G (genP P (λx=>x∈gt (dP P) j++gt (dP P) i))) d↔d<P.orders.length/\(gt P.orders d=gt (dr (ordP P)) j\/gt P.orders d=gt (dr (ordP P)) i):=λd=>by
  constructor
  ·intro v
   have h1:=gL (K:=ey G (iJ P (λk=>k=j\/k=i) (dr (ordP P)).length)) (λx hx=>q x.1 hx) v;rw[rE h G _ _ (Nat.le_refl _)] at h1;refine⟨h1.1,?_⟩;obtain⟨m,C,em⟩:=mO G h1.1;by_cases p:m=j
   ·exact .inl (by rw[<-em,p])
   ·by_cases l:m=i
    ·exact .inr (by rw[<-em,l])
    ·exact absurd em.symm (h1.2 m C (λe=>e.elim p l))
  ·rintro ⟨h1,b⟩
   rcases b with b|b
   ·refine gL (H:=ey G (gP P (gt (dP P) j))) (λx hx => ?_) (by rw[lJ G h a,pq G h a];exact⟨h1,b⟩)
    exact genP_le n (λy hy=>genP_mem (List.mem_append_left _ hy)) (show gP P (gt (dP P) j) x.1 from hx)
   ·refine gL (H:=ey G (gP P (gt (dP P) i))) (λx hx => ?_) (by rw[lJ G h g,pq G h g];exact⟨h1,b⟩)
    exact genP_le n (λy hy=>genP_mem (List.mem_append_right _ hy)) (show gP P (gt (dP P) i) x.1 from hx)
 have p:iH P (gt (dP P) j) (gt (dP P) i)=(dg P (λd=>gt P.orders d=gt (dr (ordP P)) j\/gt P.orders d=gt (dr (ordP P)) i) P.orders.length 0:Nat):=by
  show prodU P (cseq P _) (cseq P _).length=_
  rw[kB (G:=G) n,iZ (jF n)];congr 1
  exact fC _ _ (λd _ v=>by rw[u d];exact⟨λh=>h.2,λh=>⟨by omega,h⟩⟩)
 have l:∀k,k<(dr (ordP P)).length->oU P (gt (dP P) k)=(dg P (λd=>gt P.orders d=gt (dr (ordP P)) k) P.orders.length 0:Nat):=λk hk=>by
  rw[vK G h hk,kC G];congr 1
  exact fC _ _ (λd _ _=>by rw[List.mem_singleton])
 rw[p,l j a,l i g,<-Int.natCast_mul];congr 1
 exact(iN _ _ (λd _ _ h1 b=>oW (ordP P) w g (b.symm.trans h1))).symm
theorem B3:kI P (dP P):=
 ⟨mP h,λi a=>vK G h (by rw[<-mP h];exact a),λi j b a=>B2 G h b (by rw[<-mP h];exact a)⟩
theorem B4 {L:List (List Int)}(j:∀x∈L,Vec P.orders x) (k:∀i,i<(dr (ordP P)).length->∀x∈gt (dP P) i,x∈L):(cseq P (gU P L)).length=P.orders.length:=by
 have S:Sub P (gU P L):=G.genP_sub j
 have b:gU P L=Vec P.orders:=by
  have g:=qh (G:=G) (H:=ey G (gU P L)) (K:=λ_=>True) (jF S) ⟨trivial,λ_ _ _ _=>trivial,λ_ _=>trivial⟩ (λ_ _=>trivial) (λd l=>by
   have e:=(vH (G:=G) d).1 l;obtain⟨m,a,em⟩:=mO G e;refine gL (H:=ey G (gP P (gt (dP P) m))) (λx hx => ?_) (by rw[lJ G h a,pq G h a];exact⟨e,em.symm⟩);exact genP_le S (λy hy=>genP_mem (k m a y hy)) (show gP P (gt (dP P) m) x.1 from hx))
  exact funext λx=>propext ⟨λhx=>S.vec x hx,λhx=>g ⟨x,hx⟩ trivial⟩
 rw[b,G.rB];simp[gensOf]
omit h in
theorem B5 {g:List (List (List Int))}(w:∀u∈g,SubB P u) (k:kI P g) {x:List Int}(hx:Vec P.orders x):kI P (g.map (λu=>dK P u x)):=by
 obtain⟨h1,h2,h3⟩:=k;have A:∀i,i<g.length->gt (g.map (λu=>dK P u x)) i=dK P (gt g i) x:=λi k=>gt_map _ _ _ k;have B:∀i,i<g.length->oU P (dK P (gt g i) x)=oU P (gt g i):=λi k=>qH G (w _ (gt_mem k)) hx;refine⟨by rw[List.length_map];exact h1,λi k => ?_,λi j F k => ?_⟩
 ·rw [List.length_map] at k
  rw[A i k,B i k];exact h2 i k
 ·rw [List.length_map] at k
  rw[A i k,A j (by omega),B i k,B j (by omega),<-h3 i j F k];have r:=w _ (gt_mem (show j<g.length by omega));have v:=w _ (gt_mem k);have E:∀y∈gt g j++gt g i,Vec P.orders y:=λy hy=>(List.mem_append.1 hy).elim (r.1 y) (v.1 y);have m:Sub P (genP P (λy=>y∈gt g j++gt g i)):=G.genP_sub E;have n:=G.subB_cseq m
  have e:genP P (λy=>y∈dK P (gt g j) x++dK P (gt g i) x)=iz P (genP P (λy=>y∈gt g j++gt g i)) x:=by
   have H:=G.jD r hx;have I:=G.jD v hx;have J:=G.jB m hx;have C:∀y∈dK P (gt g j) x++dK P (gt g i) x,Vec P.orders y:=λy hy=>(List.mem_append.1 hy).elim (H.1 y) (I.1 y);have p:=G.genP_sub C;refine funext λz=>propext ⟨λK=>genP_le J (λy hy => ?_) K,?_⟩
   ·rcases List.mem_append.1 hy with hy|hy
    ·have l:gP P (dK P (gt g j) x) y:=genP_mem hy
     rw[G.oB r hx] at l;obtain⟨t,q,e⟩:=l;exact⟨t,genP_le m (λy hy=>genP_mem (List.mem_append_left _ hy)) q,e⟩
    ·have l:gP P (dK P (gt g i) x) y:=genP_mem hy
     rw[G.oB v hx] at l;obtain⟨t,q,e⟩:=l;exact⟨t,genP_le m (λy hy=>genP_mem (List.mem_append_right _ hy)) q,e⟩
   ·rintro ⟨t,q,rfl⟩
    -- the elements whose conjugate lies in the right side
    have L:Sub P (λt=>Vec P.orders t/\genP P (λy=>y∈dK P (gt g j) x++dK P (gt g i) x) (rConj P t x)):=
     ⟨λ_ h=>h.1,⟨G.oneV,by rw[G.ow hx];exact p.one⟩,λa b ha D=>⟨G.mulV ha.1 D.1,by rw[G.conj_hom ha.1 D.1 hx];exact p.mul _ _ ha.2 D.2⟩,λa ha=>⟨G.invV ha.1,by rw[G.qA ha.1 hx];exact p.inv _ ha.2⟩⟩
    refine(genP_le L (λy hy=>⟨E y hy,?_⟩) q).2;rcases List.mem_append.1 hy with hy|hy
    ·have l:gP P (dK P (gt g j) x) (rConj P y x):=by rw[G.oB r hx];exact⟨y,genP_mem hy,rfl⟩
     exact genP_le p (λy hy=>genP_mem (List.mem_append_left _ hy)) l
    ·have l:gP P (dK P (gt g i) x) (rConj P y x):=by rw[G.oB v hx];exact⟨y,genP_mem hy,rfl⟩
     exact genP_le p (λy hy=>genP_mem (List.mem_append_right _ hy)) l
  unfold iH;rw[e]
  have M:cseq P (iz P (genP P (λy=>y∈gt g j++gt g i)) x)=dK P (cseq P (genP P (λy=>y∈gt g j++gt g i))) x:=by
   rw[G.lB n hx];have N:gP P (cseq P (genP P (λy=>y∈gt g j++gt g i)))=genP P (λy=>y∈gt g j++gt g i):=G.genP_cseq m;rw[N]
  rw[M];exact qH G n hx
end
def GW (W:Nat) (w:World) (v:Value) (xs:List (List Int)):Prop:=
 ∃a:List Value,a.length=xs.length/\OwnV W 24 w v a/\∀i,i<xs.length->Ints (λk=>k<W) w (gt a i) (gt xs i)
theorem GW.jW {W H:Nat}{w:World}(hB:W<=w.heap.size) (hH:w.heap.size=H):GW W (w.alloc (.cells #[] 24)) (.slice (some ⟨H,0,none⟩) 0 0) []:=by
 subst hH;exact⟨[],rfl,World.ownsRow_lit w #[] 0 hB (by decide) rfl,by simp⟩
theorem GW.lt {W:Nat}{w:World}{v:Value}{xs:List (List Int)}(h:GW W w v xs) (k:Nat) (hk:v.ownBlock=some k):W<=k/\k<w.heap.size:=by
 obtain⟨a,h1,h2,h3⟩:=h;exact h2.lt k hk
theorem GW.kept {W:Nat}{w w':World}{v:Value}{xs:List (List Int)}{r:Option Nat}(h:GW W w v xs) (a:w.grownBy w' r) (g:∀k,r=some k->W<=k/\v.ownBlock≠some k):GW W w' v xs:=by
 obtain⟨j,h1,h2,l⟩:=h;refine⟨j,h1,h2.kept a ?_,λi m=>Ints.mono (l i m) (frame_of a (λk hk _=>⟨hk,λe=>by have:=(g k e).1;omega⟩))⟩;cases n:v.ownBlock with
 | none=>exact .inl rfl
 | some b=>exact .inr (λe=>(g b e.symm).2 n)
theorem GW.ext {W:Nat}{w w':World}{v:Value}{xs:List (List Int)}(h:GW W w v xs) (a:Ext w w'):GW W w' v xs:=h.kept a (λk hk=>by cases hk)
theorem GW.rows {W:Nat}{w:World}{v:Value}{xs:List (List Int)}(h:GW W w v xs) (l:xs.length<=1000000):Rows2 Any w v xs:=by
 obtain⟨e,h1,b,j⟩:=h;rcases b.form with⟨rfl,e2⟩|⟨g,cp,rfl,hc,hB,hgs⟩
 ·have:xs=[]:=List.eq_nil_of_length_eq_zero (by rw[<-h1,e2];rfl)
  subst this;exact⟨none,0,rfl,⟨by simp,by simp,λ_=>rfl⟩,λi a=>by simp at a⟩
 ·refine ⟨_,cp,by rw[h1],⟨by omega,by omega,λh=>by cases h⟩,λi a=>⟨g,0,gt e i,rfl,trivial,hgs,?_,Ints.sub (j i a) (λk hk _=>trivial)⟩⟩
  rw[Nat.zero_add];exact b.cell i (by omega)
theorem B6 {y:Array Oper}{rest:List Oper}{o:Oper}{a:Act}{Q:Exit->Act->World->Prop}{w:World}(C:o.guard=none) (s x:Operand)
  (N:o.op=Op.call { callee:=Callee.builtin Builtin.append,args := #[s,x],argTypes := #[25,25] }) (W:Nat) (v:Value) (xs p:List (List Int)) (O:a.eval s=v) (z:GW W w v xs)
  (u:Value) (D:Rows2 (λk=>k<W) w u p) (hx:a.eval x=u) (K:xs.length+p.length<=1000000) (q:W<=w.heap.size)
  (h:∀r w',GW W w' r (xs++p)->w.grownBy w' v.ownBlock->(r.ownBlock=v.ownBlock\/r.ownBlock=some w.heap.size)->wpList Tryz.prog y Q rest (a.put o.dst r) w') :
  wpList Tryz.prog y Q (o :: rest) a w:=by
 obtain⟨L,c,rfl,_,_⟩:=Sl.shape D;obtain⟨g,n,l⟩:=Sl.vals D
 have A:L=none->c=0:=by
  obtain⟨a',cap',he,hl',_⟩:=D;cases he;exact hl'.2.2
 obtain⟨E,h1,M,P⟩:=z;refine wp_app 25 24 (.slice none 0 0) 24 und_rows Tryz.infoRow rfl (by decide) C s x N W v E O M L p.length c g hx n A (λj F => ?_) (λu R => ?_) (by omega) q (λr w' S G _ T => ?_)
 ·obtain ⟨⟨b,off,H,I⟩,_⟩:=l j F
  exact⟨b,off,H,I⟩
 ·obtain ⟨j,F,rfl⟩:=List.getElem_of_mem R
  rw[<-gt_eq g j F];exact rdInts.one (l j (by omega)).2
 ·refine h r w' ⟨E++g,by simp[h1,n],S,λi U => ?_⟩ G T
  have B:∀k,k<W->k<w.heap.size->k<W/\k<w'.heap.size/\w'.heap[k]? = w.heap[k]? :=λk hk m=>
   ⟨hk,Nat.lt_of_lt_of_le m G.size,G.block k m (λe=>by have:=(M.lt k e.symm).1;omega)⟩
  by_cases m:i<xs.length
  ·rw [gt_append_left _ _ _ (by omega),gt_append_left _ _ _ m]
   exact Ints.mono (P i m) B
  ·have J:i-xs.length<p.length:=by simp only[List.length_append] at U;omega
   have H:gt (E++g) i=gt g (i-xs.length):=by
    rw[<-h1];simp only[gt,List.getD_eq_getElem?_getD];rw[List.getElem?_append_right (by omega)]
   have I:gt (xs++p) i=gt p (i-xs.length):=by
    simp only[gt,List.getD_eq_getElem?_getD];rw[List.getElem?_append_right (by omega)]
   rw[H,I];exact Ints.mono (l _ J).2 B
theorem B7 (n:Nat) (w:World) (N:n<=6):Calls Tryz.prog 251 #[.int .i64 n] w (Ret w λw' v=>Rows2 Any w' v (gensOf n)):=by
 have m:=qB n;have e:=Lib.hid m;clear m;go_enter Tryz.func251,Tryz.ntmps251;go_wp2;go_loopw [3,4] (λJ u wr=>∃(k:Nat) (v4:Value),v4=J/\u=.int .i64 k/\k<=n/\Ext w wr/\RowsO w.heap.size wr v4 ((gensOf n).take k)) (λ_ u _=>n-(intOf u).toNat)
 case atStart=>exact⟨0,_,rfl,rfl,by omega,World.grownBy_alloc _ _ _,[],λ_ _=>False,rfl,World.ownsRow_lit w #[] 0 (Nat.le_refl _) (by decide) rfl,by simp,by simp,by simp⟩
 case round=>
  obtain⟨k,v4,rfl,rfl,hk,y,hO⟩:=hrel;by_cases g:k<n
  ·have E:(k:Int)<n:=by omega
   have a:(gensOf n).take (k+1)=(gensOf n).take k++[unitV n k]:=by rw[take_succ_gt _ k (by rw[e.out];exact g),zC n k g]
   have p:((gensOf n).take k).length<=1000000:=by rw[List.length_take];omega
   have q:(unitV n k).length=n:=by simp[unitV]
   have i:=Lib.hid (And.intro a (And.intro p q));clear a p q
   go_wp2_with (first
    | (at_make;refine wp_make_ints rfl _ _ rfl wr.heap.size n wr.heap.size rfl _ rfl rfl rfl (by omega) (Nat.le_refl _) ?_;intro G b A H;have O:=b.cell k (by simp;omega);have P:=b.frozen k)
    | (at_builtin;go_must (refine wp_app_row rfl _ _ rfl w.heap.size wr _ v4 _ ((gensOf n).take k) (unitV n k) rfl hO (grown_own A (b.store k 1).2 (λj K g=>by cases K;omega)) (OwnIn.of (base:=wr.heap.size) (F:=From wr.heap.size) (l:=unitV n k) (b.store k 1).1 (by have:=i.out.2.2;omega) (λj h1 _=>h1)) rfl (congrArg (λz=>Value.slice (some ⟨z,0,none⟩) 1 1) (show G.heap.size=(G.setCell ⟨wr.heap.size,k,none⟩ (.int .i64 1)).heap.size by simp[World.setCell])) i.out.2.1 y.size ?_);intro L Q B C M;have r:=hO.extw y (Nat.le_refl _) C)
    | fail)
   go_roundw
   case rel=>exact⟨k+1,L,rfl,by go_num,by omega,r,by rw[i.out.1];exact B⟩
   case measure=>simp[intOf];omega
  ·have D:k=n:=by omega
   subst D;rw[List.take_of_length_le (by rw[e.out];exact Nat.le_refl _)] at hO;have I:=RowsD.rows (hO.toD (by rw[e.out];omega));obtain⟨R,capz,fk,_,_⟩:=Sl.shape I;subst fk;go_wp2;go_ret;exact⟨_,rfl,y,Rows2.sub I (λ_ _ _=>trivial)⟩
theorem B8 (P:Pr) (hP:Valid P) (w:World) (pv:Value) (j:Nat->Prop) (b:PresV j w pv P) :
  Calls Tryz.prog 170 #[pv] w (Ret w λw' v=>Rows2 Any w' v (gensOf P.orders.length)):=by
 obtain⟨vo,vp,vc,rfl,h3⟩:=b;have e:=PresP.box h3 28;have g:Ext w (w.alloc (.cells #[vo,vp,vc] 28)):=World.grownBy_alloc _ _ _;have i:=hP.n6;obtain⟨l,capo,dL,hoi⟩:=e.ordAt;go_enter Tryz.func170,Tryz.ntmps170;go_wp2_with fail
 refine Calls.mono (B7 P.orders.length _ i) ?_;rintro m n ⟨v1,rfl,hg1,hR⟩;have a:=qB P.orders.length;have k:=Lib.hid a;clear a;obtain⟨p,capz,fk,_,_⟩:=Sl.shape hR;subst fk;go_wp2;go_ret;exact⟨_,rfl,grown_trans g hg1,hR⟩
theorem B9 (P:Pr) (G:Grp P) (w:World) (p:Value) (e:Nat->Prop) (g:PresP e w p P) :
  Calls Tryz.prog 196 #[p] w (Ret w λw' v=>RowsO w.heap.size w' v (cseq P (Vec P.orders))):=by
 have b:=G.v.n6;have a:=generators_ok P G.v w p e g;obtain⟨pb,po,rfl⟩:=g.shape;have i:(gensOf P.orders.length).length<=6:=by rw[qB];exact b
 rw[G.rB];generalize gensOf P.orders.length=j at *;go_enter Tryz.func196,Tryz.ntmps196;go_wp2_with fail
 refine Calls.mono a ?_;rintro k l ⟨v1,rfl,hg1,hO⟩;obtain⟨m,capz,fk,_,_⟩:=SlD.shape (hO.toD (by omega));subst fk;clear a;go_wp2;go_ret;exact⟨_,rfl,hg1,hO⟩
theorem Ca {w:World}{v1 a:Value}{e g:List Int}(h1:Ints Any w v1 e) (k:Ints Any w a g):Rows2 Any (w.alloc (.cells #[v1,a] 24)) (.slice (some ⟨w.heap.size,0,none⟩) 2 2) [e,g]:=by
 have j:Ext w (w.alloc (.cells #[v1,a] 24)):=World.grownBy_alloc _ _ _;refine⟨_,2,rfl,⟨by simp,by simp,λh=>by cases h⟩,λi l => ?_⟩;have b:i=0\/i=1:=by simp at l;omega
 rcases b with rfl|rfl
 ·exact⟨w.heap.size,0,v1,rfl,trivial,by simp,by rw[World.cell?_alloc_at _ _ _ _ rfl];rfl,Ints.ext h1 j⟩
 ·exact⟨w.heap.size,0,a,rfl,trivial,by simp,by rw[World.cell?_alloc_at _ _ _ _ rfl];rfl,Ints.ext k j⟩
noncomputable def jH (P:Pr):Int:=ew P []
set_option linter.unusedSimpArgs false in
theorem Cb (P:Pr) (w:World) (pv:Value) (Sp:Nat->Prop) (bc:PresV Sp w pv P) :
  Calls Tryz.prog 92 #[pv] w (Ret w λw' r=>∃a n c,r=.tuple #[.slice a n c,.int .i64 (jH P)]/\SlO (λF w u (x:List (List Int))=>RowsD F w u x) 25 w.heap.size w' (.slice a n c) (dP P)):=by
 obtain⟨vo,vp,vc,rfl,h3⟩:=bc;have H:=PresP.box h3 28;have al:Ext w (w.alloc (.cells #[vo,vp,vc] 28)):=World.grownBy_alloc _ _ _;have ac:Ints Any (w.alloc (.cells #[vo,vp,vc] 28)) (.slice none 0 0) []:=⟨none,0,rfl,⟨by simp,by simp,λ_=>rfl⟩,λi hi=>by simp at hi⟩;have I:=zQ P [] _ _ _ Any Any H ac;clear ac;go_enter Tryz.func92,Tryz.ntmps92;go_wp2_with fail
 generalize bd:w.alloc (.cells #[vo,vp,vc] 28)=w0 at *;clear bd;refine Calls.mono I ?_;rintro e1 w1 ⟨v1,rfl,am,rfl⟩;clear I;have aH:=grown_trans al am;obtain⟨c,hc⟩:∃c,c=ew P []:=⟨_,rfl⟩;rw[<-hc];by_cases hz:c=0
 ·have z : ew P []=0:=by rw[<-hc];exact hz
  have G:=grp_of_r (ji z).1;have ad:=mM z;have ae:=mL z;have aI:=mJ z;have bf:=kE (ordP P);have aJ:=orderOf_ok w1 _ P Any G.v (H.ext am);have aK:=uz P G w1;have HC:=Lib.hid (And.intro hc z);clear hc z;have HV:=Lib.hid (And.intro ad (And.intro ae aI));clear ad ae aI;subst hz;go_wp2_with fail
  refine Calls.mono aJ ?_;rintro e1 w1 ⟨rfl,rfl⟩;go_wp2_with fail
  refine Calls.mono aK ?_;rintro e2 w2 ⟨v2,rfl,hg2,vd,ve,rfl,hD⟩;have Z:=hD.ints (by omega);obtain⟨da,dc,rfl,bg,_⟩:=Z.shape;clear aJ aK hD;obtain⟨n,hn⟩:∃n,n=(dr (ordP P)).length:=⟨_,rfl⟩;rw[<-hn] at bf Z bg ⊢;have HN:=Lib.hid hn;clear hn;have ag:=grown_trans am hg2;go_wp2;go_loopw [7,25] (λhv iv wr=>∃(k:Nat) (vh:Value),vh=hv/\iv=.int .i64 (k:Int)/\k<=n/\Ext w2 wr/\SlO (λF w u (x:List (List Int))=>RowsD F w u x) 25 w2.heap.size wr vh (fc P k)) (λ_ iv _=>n-(intOf iv).toNat)
  case atStart=>exact⟨0,_,rfl,by go_num,Nat.zero_le _,Ext.refl _,SlO.nil _ _ _ _⟩
  case round=>
   obtain⟨k,vh,rfl,rfl,hk,hg,hH⟩:=hrel;have aq:=mK P k;by_cases A:k<n
   ·have aN:(k:Int)<(n:Int):=by omega
    obtain⟨k1,hk1⟩:∃k1:Int,k1=(k:Int)+1:=⟨_,rfl⟩;have bi:IntKind.i64.wrap ((k:Int)+1)=k1:=by rw[IntWalk.i64_in _ (by omega),hk1]
    have bj:∀w',(Instr.slice 24 (.slice da n dc) none (some (.int .i64 (k:Int))) none).run Tryz.prog w'=.ok (.slice da k dc) w':=λw'=>by
     have h:=run_head w' da n dc (k:Int) (by omega) (by omega);rw[Int.toNat_natCast] at h;exact h
    have B:=subSl_ints Z (k+1) n (by omega) (by rw[<-HN.out];exact Nat.le_refl _)
    have e:∀w',(Instr.slice 24 (.slice da n dc) (some (.int .i64 k1)) none none).run Tryz.prog w'=.ok (subSl (.slice da n dc) (k+1) n) w':=λw'=>by
     have h:=run_tail w' da n dc k1 (by omega) (by omega);rw[show k1.toNat=k+1 by omega] at h;exact h
    have aO:=head_ints Z k (by rw[<-HN.out];exact hk);rw[show(dr (ordP P)).take n=dr (ordP P) from List.take_of_length_le (by rw[HN.out];exact Nat.le_refl _)] at B;obtain⟨sa,sc,aP,_,_⟩:=B.shape;rw[aP] at B e;obtain⟨sn,aQ⟩:∃sn,sn=((dr (ordP P)).drop (k+1)).length:=⟨_,rfl⟩;rw[<-aQ] at B e;have heq:fA P k=[(dr (ordP P)).take k,(dr (ordP P)).drop (k+1)].flatten:=by unfold fA;simp
    have aR:∀u∈[(dr (ordP P)).take k,(dr (ordP P)).drop (k+1)],u.length<=1000:=λu hu=>by
     have:=kE (ordP P);simp only[List.mem_cons,List.not_mem_nil,or_false] at hu;rcases hu with rfl|rfl
     ·rw[List.length_take];omega
     ·rw[List.length_drop];omega
    have bk:=uZ P k;have aa:Ext w2 wr.drew:=grown_trans hg (grown_drew _ _);have aS:Ext wr.drew (wr.drew.alloc (.cells #[.slice da k dc,.slice sa sn sc] 24)):=World.grownBy_alloc _ _ _;have ar:=qR (wr.drew.alloc (.cells #[.slice da k dc,.slice sa sn sc] 24)) _ _ Any (Ca (Ints.ext aO aa) (Ints.ext B aa)) aR (by simp);rw[<-heq] at ar;have HX:=Lib.hid (And.intro aa (And.intro aS (HV.out.2.2 k)));clear aP aQ heq aR aO B hk1;clear aa aS
    have J:∀j,vh.ownBlock=some j->w2.heap.size<=j:=λj hj=>by
     obtain⟨vs,_,_,h2,_⟩:=hH;exact(h2.lt j hj).1
    go_wp2;refine wp_region_held_drew (S:=λw'=>Ext w2 w') (by kernel_rfl) (grown_trans hg (grown_drew _ _)) (λl => ?_);refine tk 0 ?_;refine tk 1 ?_;refine tk 2 ?_;refine tk 3 ?_;refine tk 4 ?_;refine tk 5 ?_;refine tk 6 ?_;refine tk 7 ?_;refine eu 8 (λK b => ?_);go_simp;refine ko b ?_ (λl => ?_)
    ·exact grown_trans hg (grown_trans (grown_drew _ _) (World.grownBy_alloc _ _ _))
    clear b K;refine eu 9 (λK b => ?_);go_simp;go_at_call 195;refine Calls.mono ar ?_;rintro e3 w3 ⟨v3,rfl,bn,jd,_⟩;clear ar bj e bi;have au:=jd.ints (by omega);obtain⟨oa,oc,rfl,_,_⟩:=au.shape;have M:Ext wr w3:=grown_trans (grown_drew _ _) (grown_trans HX.out.2.1 bn);have N:=grown_trans hg M;have hh:=Bu P G (fA P k) w3 _ _ Any Any (H.ext (grown_trans ag N)) au;obtain⟨on,aT⟩:∃on,on=(fA P k).length:=⟨_,rfl⟩;rw[<-aT] at hh ⊢;clear au jd aT bk;go_wp2_with fail
    refine ko b ?_ (λl => ?_)
    ·exact N
    clear b K;refine eu 10 (λK b => ?_);go_simp;go_at_call 194;refine Calls.mono hh ?_;rintro e4 w4 ⟨v4,rfl,hg4,L,hL,hO⟩;clear hh;have ah:gJ P (fA P k)=gt L 0:=by unfold gJ;rw[oP HX.out.2.2 hL]
    have aU:=hL.pos G;obtain⟨g,cg,ua,uc,rfl,O,C⟩:=Bx hO aU;have bS:(0:Int)<L.length:=by omega
    have aV:=grown_trans M hg4;have Q:=grown_trans N hg4;have R:RowsD (From wr.heap.size) w4 (.slice ua (gt L 0).length uc) (gt L 0):=rdRows.mono C (λj hj A=>⟨Nat.le_trans M.size hj,A,rfl⟩);have T:fc P (k+1)=fc P k++[gt L 0]:=by rw[u5,ah]
    obtain⟨X,hX⟩:∃X,X=gt L 0:=⟨_,rfl⟩;rw[<-hX] at O R T;have HR:=Lib.hid (And.intro T R);clear T R C hO ah hX hL;go_wp2_with fail
    refine ko b ?_ (λl => ?_)
    ·exact Q
    clear b K;refine tk 11 ?_;refine eu 12 (λK b => ?_);go_simp;refine ko b ?_ (λl => ?_)
    ·exact Q
    clear b K;refine eu 13 (λK b => ?_);go_simp;refine ko b ?_ (λl => ?_)
    ·exact grown_trans Q (World.grownBy_alloc _ _ _)
    clear b K;refine eu 14 (λK b => ?_);refine step_app_one rdRows 26 25 (.slice none 0 0) 24 lu Tryz.lz rfl (by decide) rfl _ _ rfl w2.heap.size wr w4 _ _ (fc P k) X rfl hH aV HR.out.2 rfl rfl (by omega) hg.size ?_;intro v5 w5 bq av aY;have ab:Ext w2 w5:=grown_own hg av (λj hj bU=>by have:=J j hj;omega);refine ko b ?_ (λl => ?_)
    ·exact ab
    clear b K;refine tk 15 ?_;refine wpAnyH_done (by kernel_rfl) ?_ _;clear O;go_wp2;go_roundw
    case rel=>exact⟨k+1,_,rfl,by go_num,by omega,ab,by rw[HR.out.1];exact bq⟩
    case measure=>simp[intOf];omega
   ·have br:k=n:=by omega
    subst br;have aZ:Rows3 Any wr vh (fc P k):=Rows3.sub (Rows3D.rows (hH.toD (by omega))) (λ_ _ _=>trivial);obtain⟨ha,gC,a0,_,_⟩:=Sl.shape aZ;rw[aq] at a0;subst a0;have aw:=grown_trans ag hg;obtain⟨wm,rfl⟩:∃wm:World,wm=wr:=⟨_,rfl⟩;obtain⟨n,rfl⟩:∃n,n=k:=⟨_,rfl⟩;have bs:=Lib.hid aq;clear aq hH A;go_wp2;go_loopw [9,46] (λov iv wr=>∃(i:Nat) (vo:Value),vo=ov/\iv=.int .i64 (i:Int)/\i<=n/\Ext wm wr/\SlO (λF w u (x:List (List Int))=>RowsD F w u x) 25 wm.heap.size wr vo (fS P i)) (λ_ iv _=>n-(intOf iv).toNat)
    case atStart=>exact⟨0,_,rfl,by go_num,Nat.zero_le _,Ext.refl _,SlO.nil _ _ _ _⟩
    case round=>
     obtain⟨i,vo,rfl,rfl,hi,U,hO⟩:=hrel;have a1:=lI P i;by_cases A:i<n
     ·have aN:(i:Int)<(n:Int):=by omega
      obtain⟨wo,rfl⟩:∃wo:World,wo=wr:=⟨_,rfl⟩;have a3:=grown_trans aw U;have az:=B9 P G wo _ Any (H.ext a3);have bt:=G.cseq_len (HV.out.2.1 i 0);rw[show Vec P.orders=ez P i 0 from rfl] at az;go_wp2_with fail
      refine Calls.mono az ?_;rintro e5 w5 ⟨v5,rfl,av,hU⟩;clear az;obtain⟨ua,uc,p,_,_⟩:=SlD.shape (hU.toD (by have:=G.v.n6;omega));subst p;go_wp2;go_loopw [11,52] (λuv jv wr=>∃(j:Nat) (vu:Value),vu=uv/\jv=.int .i64 (j:Int)/\j<=n/\Ext wo wr/\RowsO wo.heap.size wr vu (cseq P (ez P i j))) (λ_ jv _=>n-(intOf jv).toNat)
      case atStart=>exact⟨0,_,rfl,by go_num,Nat.zero_le _,av,hU⟩
      case round=>
       clear hU;obtain⟨j,vu,rfl,rfl,hj,D,hU⟩:=hrel;have bv:=G.cseq_len (HV.out.2.1 i j);have bX:=G.v.n6;have E:=hU.toD (by omega);obtain⟨bY,Cc,p,_,_⟩:=SlD.shape E;by_cases ai:j<n
       ·have bw:(j:Int)<(n:Int):=by omega
        obtain⟨bl,ol,a2,cap2,kJ,_,hbl,hcl,iI⟩:=Rows3.at aZ j (by rw[bs.out];exact ai);cases kJ
        have aj:=grown_trans U D;have aB:=aj.cell hcl (by simp);have y:=Rows2.ext iI aj;have aC:=u6 P ai;by_cases V:j=i
        ·have e:ez P i (j+1)=ez P i j:=by show(if j=i then ez P i j else _)=_;rw[if_pos V]
         have HS:=Lib.hid e;clear e hcl iI y;have a4:((j:Int) != (i:Int))=false:=by rw[V];simp
         obtain⟨W,m⟩:∃W,W=(gt (fc P n) j).length:=⟨_,rfl⟩;rw[<-m] at aB;clear m aC E;subst p;have HJ:=Lib.hid V;clear V;go_wp2;go_roundw
         case rel=>exact⟨j+1,_,rfl,by go_num,by omega,D,by rw[HS.out];exact hU⟩
         case measure=>simp[intOf];omega
        ·have e:ez P i (j+1)=λx=>ez P i j x/\gP P (gJ P (fA P j)) x:=by show(if j=i then ez P i j else _)=_;rw[if_neg V]
         have hb:=oQ (HV.out.2.2 j);rw[<-aC] at hb e;have eb:cseq P (gP P (gt (fc P n) j))=gt (fc P n) j:=hb.2.symm;rw[<-eb] at y;subst p;have Y:=meet_ok P G wr _ _ _ (ez P i j) (gP P (gt (fc P n) j)) Any Any Any (HV.out.2.1 i j) (G.subB hb) ((H.ext a3).ext D) (Rows2.sub (RowsD.rows E) (λ_ _ _=>trivial)) (Rows2.sub y (λ_ _ _=>trivial));rw[<-e] at Y;rw[eb] at Y;obtain⟨W,m⟩:∃W,W=(gt (fc P n) j).length:=⟨_,rfl⟩;rw[<-m] at aB Y;have a4:((j:Int) != (i:Int))=true:=by simp;omega
         clear m aC E e hb eb y hcl iI;go_wp2_with fail
         clear aB;refine Calls.mono Y ?_;rintro e6 w6 ⟨v6,rfl,aY,lR⟩;clear Y;have a5:=grown_trans D aY;go_wp2;go_roundw
         case rel=>exact⟨j+1,_,rfl,by go_num,by omega,a5,lR.weak D.size⟩
         case measure=>simp[intOf];omega
       ·have bz:j=n:=by omega
        subst bz;have e:fS P (i+1)=fS P i++[cseq P (ez P i j)]:=by rw[u7,<-HN.out]
        have C:RowsD (From wo.heap.size) wr vu (cseq P (ez P i j)):=rdRows.mono E (λq hq A=>⟨hq,A,rfl⟩);obtain⟨X,hX⟩:∃X,X=cseq P (ez P i j):=⟨_,rfl⟩;rw[<-hX] at e C p bv;have HR:=Lib.hid (And.intro e C);clear e C E hU hX
        have J:∀q,vo.ownBlock=some q->wm.heap.size<=q:=λq hq=>by
         obtain⟨vs,_,_,h2,_⟩:=hO;exact(h2.lt q hq).1
        obtain⟨xl,a7⟩:∃xl,xl=X.length:=⟨_,rfl⟩;rw[<-a7] at p;clear a7;subst p;go_wp2_with (first|(at_builtin;refine wp_app_one rdRows 26 25 (.slice none 0 0) 24 lu Tryz.lz rfl (by decide) rfl _ _ rfl wm.heap.size wo wr _ _ (fS P i) X rfl hO D HR.out.2 rfl rfl (by omega) U.size ?_;intro v7 w7 bA bB b1))
        have ab:Ext wm w7:=grown_own U bB (λq hq b2=>by have:=J q hq;omega);go_roundw
        case rel=>exact⟨i+1,_,rfl,by go_num,by omega,ab,by rw[HR.out.1];exact bA⟩
        case measure=>simp[intOf];omega
     ·have bC:i=n:=by omega
      subst bC;have ak:dP P=fS P i:=by rw[HV.out.1,<-HN.out]
      obtain⟨ra,rc,a8,_,_⟩:=SlD.shape (hO.toD (by omega));rw[a1] at a8;subst a8;have HF:=Lib.hid (And.intro ak hO);clear ak hO a1;go_wp2;go_ret2
      exact⟨_,rfl,grown_trans al (grown_trans aw U),_,_,_,by rw[show jH P=0 from HC.out.1.symm];rfl,by rw[HF.out.1];exact HF.out.2.weak (Nat.le_trans al.size aw.size)⟩
 ·have a4:(c != 0)=true:=by simpa using hz
  have HC:=Lib.hid hc;clear hc;go_wp2;go_ret2
  exact⟨_,rfl,aH,none,0,0,by rw[show jH P=c from HC.out.symm];rfl,by rw[rq (by rw[<-HC.out];exact hz)];exact SlO.nil _ _ _ _⟩
def pF (w:World) (g n:Nat):Prop:=∀j u,n<=j->w.cell? ⟨g,j,none⟩=some u->u=.slice none 0 0
def Kp (w w':World):Prop:=w.heap.size<=w'.heap.size/\∀b j u,w.cell? ⟨b,j,none⟩=some u->u ≠ .slice none 0 0->w'.cell? ⟨b,j,none⟩=some u
theorem Kp.of {w w':World}(h:Ext w w'):Kp w w':=⟨h.size,λb j u a _=>h.cell a (by simp)⟩
theorem Ints.kp {S:Nat->Prop}{w w':World}{v:Value}{l:List Int}(h:Ints S w v l) (k:Kp w w'):Ints S w' v l:=by
 obtain⟨a,cap,rfl,hl,hc⟩:=h;refine⟨a,cap,rfl,hl,λi j => ?_⟩;obtain⟨b,off,u,h1,h2,h3,h4,g⟩:=hc i j;exact⟨b,off,u,h1,h2,Nat.lt_of_lt_of_le h3 k.1,k.2 _ _ _ h4 (by rw[show u=.int .i64 (gt l i) from g];intro e;cases e),g⟩
theorem Ce {α:Type} [Inhabited α] {l:List α}{i:Nat}(h:i<l.length):gt l i∈l:=by
 have e:gt l i=l[i]:=by simp[gt,h]
 rw[e];exact List.getElem_mem h
theorem Rows2.kp {S:Nat->Prop}{w w':World}{v:Value}{L:List (List Int)}(h:Rows2 S w v L) (g:∀x∈L,0<x.length) (k:Kp w w'):Rows2 S w' v L:=by
 obtain⟨a,cap,rfl,hl,hc⟩:=h;refine⟨a,cap,rfl,hl,λi j => ?_⟩;obtain⟨b,off,u,h1,h2,h3,h4,h5⟩:=hc i j;refine⟨b,off,u,h1,h2,Nat.lt_of_lt_of_le h3 k.1,k.2 _ _ _ h4 ?_,Ints.kp h5 k⟩;obtain⟨a',c',rfl,_,_⟩:=h5.shape;intro e;have:=g _ (Ce j);simp only[Value.slice.injEq] at e;omega
theorem Cf (T E:Nat) (bytes:Nat) (O:Tryz.prog.underlying T=some (.slice E)) (hE:(Tryz.prog.info? E).map (λi=>(i.zero,i.size,i.bytes))=some (some (.slice none 0 0),1,bytes))
  (R:bytes<=64) {S:Array Oper}{o:Oper}{a:Act}{K:Act->World->Prop}{Q:Exit->Act->World->Prop}{Ex:Prop}{w:World}(ab:o.guard=none) (s x:Operand)
  (ho:o.op=Op.call { callee:=Callee.builtin Builtin.append,args := #[s,x],argTypes := #[T,T] }) (base g cap:Nat) (xs:List Value) (hs:a.eval s=.slice (some ⟨g,0,none⟩) xs.length cap) (l:OwnV base E w (.slice (some ⟨g,0,none⟩) xs.length cap) xs)
  (D:pF w g xs.length) (Z:Option Addr) (m c:Nat) (e:List Value) (hx:a.eval x=.slice Z m c) (hl:e.length=m) (af:Z=none->c=0)
  (v:∀j,j<m->∃b off,Z=some ⟨b,off,none⟩/\w.cell? ⟨b,off+j,none⟩=some (gt e j)) (h1:∀u,u∈e->u.oneCell'=true) (ao:xs.length+m<=1000000) (F:base<=w.heap.size)
  (h:∀U A w',OwnV base E w' (.slice (some ⟨U,0,none⟩) (xs++e).length A) (xs++e)->pF w' U (xs++e).length->w.grownBy w' (some g)->Kp w w'->K (a.put o.dst (.slice (some ⟨U,0,none⟩) (xs++e).length A)) w') :
  if Region.wanted o (yielded S a.tmps)=true then Oper.wp Tryz.prog o a w K Q else Ex:=by
 obtain⟨N,V,W,r,X⟩:=info_parts hE;have hw:Region.wanted o (yielded S a.tmps)=true:=by simp[Region.wanted,ab]
 rw[if_pos hw];rcases Nat.eq_zero_or_pos m with rfl|hm
 ·have hn:e=[]:=List.eq_nil_of_length_eq_zero hl
  subst hn;rw[List.append_nil] at h;have n:=h g cap w l D (grown_refl _ _) (Kp.of (Ext.refl _));cases Z with
  | none=>
   have k:=af rfl;subst k;have y:=run_append_owned_none (P:=Tryz.prog) (w:=w) base T o.type E N 1 O V _ xs.length xs l;unfold Oper.wp;simp[execOp,ho,resolve,invoke,builtin,hs,hx,y,Result.andThen]
   exact n
  | some ad=>
   have aq:xs.length<=cap:=by
    rcases l.form with⟨h,_⟩|⟨U,cp,hv,k,_⟩
    ·cases h
    ·simp only[Value.slice.injEq] at hv;omega
   have y:=run_append_room_cells (P:=Tryz.prog) w T o.type E N O V g 0 xs.length cap ad 0 c [] (by simp) (by simp) (by simp) (by omega) (λj p=>by simp at p) (λj p=>by simp at p);unfold Oper.wp;simp[execOp,ho,resolve,invoke,builtin,hs,hx,y,Result.andThen,World.setCells]
   exact n
 ·obtain ⟨b,off,rfl,_⟩:=v 0 hm
  have G:∀j u,e[j]? = some u->w.cell? ((⟨b,off,none⟩:Addr).add j)=some u:=λj u p=>by
   have H:j<m:=by
    rcases Nat.lt_or_ge j e.length with h|h
    ·omega
    ·rw[List.getElem?_eq_none h] at p;cases p
   obtain⟨b',off',he,k⟩:=v j H;cases he
   have I:gt e j=u:=by simp[gt,p]
   rw[I] at k;unfold Addr.add;split
   ·rename_i h0;subst h0;exact k
   ·exact k
  obtain⟨g1,B,w1,J,k1,k2,k3,k4⟩:=run_append_lies (P:=Tryz.prog) w T o.type base E N (.slice none 0 0) 1 bytes O V W r X rfl (by decide) _ xs.length xs l ⟨b,off,none⟩ m c e (by omega) G h1 hm (by unfold maxLen;omega) (by have:=Nat.mul_le_mul (show xs.length+m<=1000000 by omega) R;omega) F w.heap.size rfl;have Y:(xs++e).length=xs.length+m:=by rw[List.length_append,hl]
  have ai:OwnV base E w1 (.slice (some ⟨g1,0,none⟩) (xs++e).length B) (xs++e):=by unfold OwnV;rw[Y];exact k1
  have key:pF w1 g1 (xs++e).length/\Kp w w1:=by
   by_cases L:xs.length+m<=cap
   ·have z:∀j,j<cap->(w.cell? ⟨g,j,none⟩).isSome=true/\w.frozen? ⟨g,j,none⟩=false:=λj p=>by
     obtain⟨_,⟨h,_⟩|⟨U,cp,cur,hv,_,hh,_,_,hsz,_⟩⟩:=l
     ·cases h
     ·cases hv
      refine⟨?_,by simp[World.frozen?,hh]⟩;simp only[World.cell?,hh,Option.isSome_none,Bool.false_eq_true,if_false];rw[Array.getElem?_eq_getElem (by omega)];rfl
    have M:=run_append_room_cells (P:=Tryz.prog) w T o.type E N O V g 0 xs.length cap ⟨b,off,none⟩ m c e (by rw[r];omega) G h1 L (λj p=>by rw[r];exact(z _ (by omega)).1) (λj p=>by rw[r];exact(z _ (by omega)).2);rw[M] at J;simp only[Result.ok.injEq,Value.slice.injEq,Option.some.injEq,Addr.mk.injEq,r,Nat.zero_add,Nat.mul_one] at J;obtain⟨⟨⟨rfl,_⟩,_⟩,rfl⟩:=J;refine⟨λj u p k => ?_,⟨k2.size,λb' j u k hu => ?_⟩⟩
    ·rw [World.cell?_setCells_out _ _ _ _ _ (λ_ _ => .inr (by show xs.length+e.length<=j;omega))] at k
     exact D j u (by omega) k
    ·rw [World.cell?_setCells_out _ _ _ _ _ (λhb _ => ?_)]
     ·exact k
     ·have aj:b'=g:=hb
      subst aj;show j<xs.length\/xs.length+e.length<=j
      rcases Nat.lt_or_ge j xs.length with ak|al
      ·exact .inl ak
      ·exact absurd (D j u al k) hu
   ·have am:N.zero=some (.slice none 0 0):=W
    have holds:∀j u,xs[j]? = some u->w.cell? ((⟨g,0,none⟩:Addr).add j)=some u:=λj u p=>by
     have H:j<xs.length:=by
      rcases Nat.lt_or_ge j xs.length with h|h
      ·exact h
      ·rw[List.getElem?_eq_none h] at p;cases p
     have k:=l.cell j H;have I:gt xs j=u:=by simp[gt,p]
     rw[I] at k;rw[Addr.add_lit,Nat.zero_add];exact k
    have M:=run_append_grow (P:=Tryz.prog) (w:=w) T o.type E N (.slice none 0 0) O V am ⟨g,0,none⟩ xs.length cap xs (by rw[r];omega) holds ⟨b,off,none⟩ m c e (by rw[r];omega) G (by omega) (by omega) (growslice_fits (by omega) (by rw[X];have:=Nat.mul_le_mul (show xs.length+m<=1000000 by omega) R;omega));rw[M] at J;simp only[Result.ok.injEq,Value.slice.injEq,Option.some.injEq,Addr.mk.injEq] at J;obtain⟨⟨⟨rfl,_⟩,_⟩,rfl⟩:=J;refine⟨λj u p k => ?_,Kp.of (grown_trans (grown_drew w none) (World.grownBy_alloc _ _ _))⟩;rw[World.cell?_alloc_at (w:=w.drew) _ _ w.heap.size j rfl] at k;rw[Array.getElem?_append_right (by simp only[Array.size_append,List.size_toArray];omega)] at k;have e1:(Value.cells (.slice none 0 0)) = #[.slice none 0 0]:=rfl;rw[e1] at k;simp only[Builtin.zeroCells] at k;have C:=Array.mem_of_getElem? k;simp at C
    obtain⟨q,_,hq⟩:=C;rw[Nat.mod_one] at hq;exact hq.symm
  unfold Oper.wp execOp;simp only[ho,resolve,invoke,builtin,Sem.run_bind,Sem.run_pure,Result.andThen_ok,List.map_toArray,List.map_cons,List.map_nil,hs,hx,J];have n:=h g1 B w1 ai key.1 (by have:=k2;exact this) key.2;rw[Y] at n;exact n
structure rF {α:Type}(El:World->Value->α->Prop):Prop where
 kp:∀ {w w':World}{u:Value}{x:α},El w u x->Kp w w'->El w' u x
 one:∀ {w:World}{u:Value}{x:α},El w u x->u.oneCell'=true
def jq (w:World) (u:Value) (x:List (List Int)):Prop:=Rows2 Any w u x/\∀r∈x,0<r.length
theorem kK:rF jq:=⟨λh k=>⟨Rows2.kp h.1 h.2 k,h.2⟩,λh=>by obtain⟨⟨a,c,rfl,_⟩,_⟩:=h;rfl⟩
section
variable {α:Type} [Inhabited α] {El:World->Value->α->Prop}
def ZL (El:World->Value->α->Prop) (E B:Nat) (w:World) (v:Value) (xs:List α):Prop:=
 ∃(g cap:Nat) (a:List Value),v=.slice (some ⟨g,0,none⟩) xs.length cap/\a.length=xs.length/\OwnV B E w (.slice (some ⟨g,0,none⟩) a.length cap) a/\pF w g xs.length/\∀i,i<xs.length->El w (gt a i) (gt xs i)
theorem ZL.ext (a:rF El) {E B:Nat}{w w':World}{v:Value}{xs:List α}(h:ZL El E B w v xs) (b:Ext w w'):ZL El E B w' v xs:=by
 obtain⟨g,cap,vs,rfl,h2,m,h4,n⟩:=h;have k:=(m.lt g rfl).2;refine⟨g,cap,vs,rfl,h2,m.kept b (.inr (λe=>by cases e)),λj u p l=>h4 j u p ?_,λi q=>a.kp (n i q) (Kp.of b)⟩;have e:=b.block g k (λe=>by cases e);unfold World.cell? at l ⊢;rw[e] at l;exact l
theorem ZL.lt {E B:Nat}{w:World}{v:Value}{xs:List α}(h:ZL El E B w v xs) (k:Nat) (hk:v.ownBlock=some k):B<=k/\k<w.heap.size:=by
 obtain⟨g,cap,vs,rfl,h2,h3,h4,h5⟩:=h;exact h3.lt k hk
theorem ZL.shape {E B:Nat}{w:World}{v:Value}{xs:List α}(h:ZL El E B w v xs):∃g cap,v=.slice (some ⟨g,0,none⟩) xs.length cap:=by
 obtain⟨g,cap,vs,rfl,h2,h3,h4,h5⟩:=h;exact⟨g,cap,rfl⟩
theorem ZL.jW {E B H:Nat}{w:World}(hB:B<=w.heap.size) (hH:w.heap.size=H):ZL El E B (w.alloc (.cells #[] E)) (.slice (some ⟨H,0,none⟩) 0 0) []:=by
 subst hH;refine⟨w.heap.size,0,[],rfl,rfl,World.ownsRow_lit w #[] 0 hB (by decide) rfl,λj u _ a => ?_,λi b=>by simp at b⟩;rw[World.cell?_alloc_at _ _ _ _ rfl] at a;simp at a
theorem ZL.sl {E B:Nat}{w:World}{v:Value}{xs:List α}(h:ZL El E B w v xs) (l:xs.length<=1000000):Sl El Any w v xs:=by
 obtain⟨g,cap,vs,rfl,h2,a,h4,h5⟩:=h
 have e:vs.length<=cap:=by
  rcases a.form with⟨h,_⟩|⟨m,cp,j,e,_⟩
  ·cases h
  ·simp only[Value.slice.injEq] at j;omega
 have b:=(a.lt g rfl).2;refine⟨_,cap,rfl,⟨by omega,by omega,λh=>by cases h⟩,λi k=>⟨g,0,gt vs i,rfl,trivial,b,?_,h5 i k⟩⟩;rw[Nat.zero_add];exact a.cell i (by omega)
theorem vQ (n:rF El) (T E:Nat) (bytes:Nat) (U:Tryz.prog.underlying T=some (.slice E)) (V:(Tryz.prog.info? E).map (λi=>(i.zero,i.size,i.bytes))=some (some (.slice none 0 0),1,bytes))
  (F:bytes<=64) {G:Array Oper}{o:Oper}{a:Act}{K:Act->World->Prop}{Q:Exit->Act->World->Prop}{W:Prop}{w:World}(H:o.guard=none) (s x:Operand)
  (X:o.op=Op.call { callee:=Callee.builtin Builtin.append,args := #[s,x],argTypes := #[T,T] }) (B:Nat) (v:Value) (xs l:List α) (Y:a.eval s=v) (y:ZL El E B w v xs)
  (u:Value) (S:Nat->Prop) (I:Sl El S w u l) (hx:a.eval x=u) (P:xs.length+l.length<=1000000) (p:B<=w.heap.size)
  (h:∀r e w',ZL El E B w' (.slice (some ⟨r,0,none⟩) (xs++l).length e) (xs++l)->w.grownBy w' v.ownBlock->Kp w w'->K (a.put o.dst (.slice (some ⟨r,0,none⟩) (xs++l).length e)) w') :
  if Region.wanted o (yielded G a.tmps)=true then Oper.wp Tryz.prog o a w K Q else W:=by
 obtain⟨R,c,rfl,_,_⟩:=Sl.shape I;obtain⟨k,vR,m⟩:=Sl.vals I
 have z:R=none->c=0:=by
  obtain⟨a',e,he,hl',_⟩:=I;cases he;exact hl'.2.2
 obtain⟨g,cap,C,rfl,D,h3,h4,Z⟩:=y;refine Cf T E bytes U V F H s x X B g cap C (by rw[Y,D]) h3 (by rw[D];exact h4) R l.length c k hx vR z (λj J => ?_) (λu hu => ?_) (by omega) p (λr e w' k1 k2 k3 L => ?_)
 ·obtain ⟨⟨b,off,M,N⟩,_⟩:=m j J
  exact⟨b,off,M,N⟩
 ·obtain ⟨j,J,rfl⟩:=List.getElem_of_mem hu
  rw[<-gt_eq k j J];exact n.one (m j (by omega)).2
 ·have q:(C++k).length=(xs++l).length:=by simp[D,vR]
  have hz:ZL El E B w' (.slice (some ⟨r,0,none⟩) (xs++l).length e) (xs++l):=by
   refine⟨r,e,C++k,rfl,q,k1,by rw[<-q];exact k2,λi hi => ?_⟩;by_cases A:i<xs.length
   ·rw [gt_append_left _ _ _ (by omega),gt_append_left _ _ _ A]
    exact n.kp (Z i A) L
   ·have O:i-xs.length<l.length:=by simp only[List.length_append] at hi;omega
    have M:gt (C++k) i=gt k (i-xs.length):=by
     rw[<-D];simp only[gt,List.getD_eq_getElem?_getD];rw[List.getElem?_append_right (by omega)]
    have N:gt (xs++l) i=gt l (i-xs.length):=by
     simp only[gt,List.getD_eq_getElem?_getD];rw[List.getElem?_append_right (by omega)]
    rw[M,N];exact n.kp (m _ O).2 L
  rw[q];exact h r e w' hz k3 L
end
theorem vW {P:Pr}(G:Grp P) {u:List (List Int)}(a:SubB P u):SeqOk P u:=by
 have h:=(G.seq_facts (G.subB a)).1;have e:cseq P (genP P λx=>x∈u)=u:=a.2.symm;rw[e] at h;exact h
theorem vX {pr:List Int}(h:gy pr) {i:Nat}(a:i<pr.length):∃p:Nat,gt pr i=(p:Int)/\(p=2\/p=3\/p=5\/p=7):=by
 have:=primeB_true.1 (h i a).1;exact⟨(gt pr i).toNat,by omega,by omega⟩
theorem vY {pr:List Int}(h:gy pr):∀j i,j<i->i<pr.length->gt pr j<gt pr i
 | j,0,b,_=>by omega
 | j, i+1,b,e=>by
  have h1:=(h (i+1) e).2 (by omega);rw[Nat.add_sub_cancel] at h1;rcases Nat.lt_succ_iff_lt_or_eq.1 b with a|a
  ·have:=vY h j i a (by omega)
   omega
  ·subst a;exact h1
theorem rG (P:Pr) (G:Grp P) (pr:List Int) (B:gy pr) (Q:Nat->Prop) (w:World) (v:Value) (S:Nat->Prop) (R:Ints S w v pr) :
  Calls Tryz.prog 311 #[.int .i64 ((dg P Q P.orders.length 0:Nat):Int),v] w (Ret w λ_ r=>r=.int .i64 ((dg P (λd=>Q d/\gt P.orders d∈pr) P.orders.length 0:Nat):Int)):=by
 have hb:=mD G Q
 have u:∀i,i<pr.length->dg P (λd=>Q d/\gt P.orders d∈pr.take i) P.orders.length 0*dg P (λd=>Q d/\gt P.orders d=gt pr i) P.orders.length 0=dg P (λd=>Q d/\gt P.orders d∈pr.take (i+1)) P.orders.length 0:=λi F=>by
  rw [iN _ _ (λk _ _ h1 C=>by
   obtain⟨j,hj,e⟩:=mem_gt h1.2;rw[List.length_take] at hj;have e2:gt (pr.take i) j=gt pr j:=gt_take (by omega);have:=vY B j i (by omega) F;rw[e2] at e;have:=C.2;omega)]
  refine fC _ _ (λk _ _ => ?_);rw[take_succ_gt pr i F,List.mem_append,List.mem_singleton];exact⟨λh=>h.elim (λh=>⟨h.1,.inl h.2⟩) (λh=>⟨h.1,.inr h.2⟩),λh=>h.2.elim (λC => .inl ⟨h.1,C⟩) (λC => .inr ⟨h.1,C⟩)⟩
 have I:∀i,1<=dg P (λd=>Q d/\gt P.orders d∈pr.take i) P.orders.length 0/\dg P (λd=>Q d/\gt P.orders d∈pr.take i) P.orders.length 0<=729:=λi=>mD G _;have J:∀i,1<=dg P (λd=>Q d/\gt P.orders d=gt pr i) P.orders.length 0/\dg P (λd=>Q d/\gt P.orders d=gt pr i) P.orders.length 0<=729:=λi=>mD G _
 have y:∀i,i<pr.length->∀p:Nat,gt pr i=(p:Int)->prt p (dg P Q P.orders.length 0)=dg P (λd=>Q d/\gt P.orders d=gt pr i) P.orders.length 0:=λi F p hp=>by
  obtain⟨p2,h1,C⟩:=vX B F;have:p=p2:=by omega
  subst this;rw[uj G Q C _ _ (Nat.zero_add _)];exact fC _ _ (λk _ _=>by rw[hp])
 have Y:dg P (λd=>Q d/\gt P.orders d∈pr.take 0) P.orders.length 0=1:=by
  rw[List.take_zero]
  have:∀f d,dg P (λd=>Q d/\gt P.orders d∈([]:List Int)) f d=1:=by
   intro f;induction f with
   | zero=>intro d;rfl
   | succ f ih=>intro d;rw[dg,if_neg (λh=>by cases h.2),ih]
  exact this _ _
 obtain⟨n,Z⟩:∃n,n=dg P Q P.orders.length 0:=⟨_,rfl⟩;rw[<-Z] at hb y ⊢;have H:=Lib.hid (And.intro u (And.intro I (And.intro J (And.intro y Y))));clear u I J y Y Z;obtain⟨a,c,rfl,_,_⟩:=R.shape;have HV:=Lib.hid R;clear R;go_enter Tryz.func311,Tryz.ntmps311;go_wp2;go_loopw [5,6] (λov T wr=>∃i o:Nat,ov=.int .i64 (o:Int)/\T=.int .i64 i/\i<=pr.length/\Ext w wr/\Hid (o=dg P (λd=>Q d/\gt P.orders d∈pr.take i) P.orders.length 0)) (λ_ T _=>pr.length-(intOf T).toNat)
 case atStart=>exact⟨0,1,rfl,by go_num,by omega,Ext.refl _,Lib.hid H.out.2.2.2.2.symm⟩
 case round=>
  obtain⟨i,o,rfl,rfl,F,hg,hO⟩:=hrel;by_cases A:i<pr.length
  ·have aa:(i:Int)<pr.length:=by omega
   obtain⟨b,of,hab,_,_,hc⟩:=Ints.at HV.out i A;subst hab;have K:=hg.cell hc (by simp);obtain⟨p,D,hp2⟩:=vX B A;rw[D] at K;have L:=H.out.2.2.2.1 i A p D;have m:=H.out.1 i A;have U:=H.out.2.1 i;have M:=H.out.2.2.1 i;have z:=H.out.2.1 (i+1);rw[<-m] at z;rw[<-hO.out] at m U z;rw[<-L] at m M z;have g:=zW n p (by omega) (by omega) (by omega) (by omega) wr;obtain⟨q,hq⟩:∃q,q=prt p n:=⟨_,rfl⟩;rw[<-hq] at m M z g;have V:(o:Int)*(q:Int)=((o*q:Nat):Int):=(Int.natCast_mul o q).symm;have HS:=Lib.hid (And.intro m z);clear m L hq hc D;obtain⟨E,l⟩:∃E,E=o*q:=⟨_,rfl⟩;rw[<-l] at V;have N:1<=E/\E<=729:=by rw[l];exact HS.out.2
   have W:=uq E (Nat.le_trans N.2 (by decide));have al:=zV E (Nat.le_trans N.2 (by decide));have HQ:=Lib.hid l;clear l;go_wp2_with fail
   refine Calls.mono g ?_;rintro e1 w1 ⟨v1,rfl,hg1,rfl⟩;clear g K;go_wp2;go_roundw
   case rel=>exact⟨i+1,E,by first|rfl|exact congrArg (Value.int .i64) W,by go_num,by omega,grown_trans hg hg1,Lib.hid (by rw[HQ.out];exact HS.out.1)⟩
   case measure=>simp[intOf];omega
  ·have O:i=pr.length:=by omega
   have an:¬(i:Int)<pr.length:=by omega
   have X:=hO.out;rw[O,List.take_of_length_le (Nat.le_refl _)] at X;have HO:=Lib.hid X;clear X hO O;go_wp2;go_ret;refine⟨_,rfl,hg,?_⟩;show Value.int .i64 (o:Int)=_
   rw[HO.out]
def lK {P:Pr}(G:Grp P) (pr:List Int) (U U':List (List Int)) (t:Nat) (g:Bool):Prop:=
 SubB P U'/\prodU P U' U'.length∣dU P pr/\(g=true->prodU P U U.length<prodU P U' U'.length)/\(g=false->U'=U/\∀j,j<t->¬jm G pr U j)
set_option maxHeartbeats 16000000 in
set_option linter.unusedSimpArgs false in
theorem Cg (P:Pr) (G:Grp P) (pr:List Int) (a8:gy pr) (w:World) (pv v:Value) (Sp S:Nat->Prop) (bZ:PresV Sp w pv P) (hv:Ints S w v pr) :
  Calls Tryz.prog 276 #[pv,v] w (Ret w λw' r=>∃U,gQ P pr U/\Rows2 Any w' r U):=by
 have hP:=G.v;have bo:=hP.n6;have bp:ordP P<=729:=hP.le729;have bq:=hP.ordP_pos;obtain⟨vo,vp,vc,rfl,h3⟩:=bZ;have br:=PresP.box h3 28;have a9:Ext w (w.alloc (.cells #[vo,vp,vc] 28)):=World.grownBy_alloc _ _ _;obtain⟨aq,dI,dG,_,_,B,u,y,dy⟩:=br.at;simp only[Nat.zero_add] at u y;have a':=Ints.ext hv a9;obtain⟨av,cv,rfl,_,_⟩:=hv.shape;have bs:∀w',Ext (w.alloc (.cells #[vo,vp,vc] 28)) w'->w'.cell? ⟨w.heap.size,0,none⟩=some aq/\w'.cell? ⟨w.heap.size,1,none⟩=some dI/\w'.cell? ⟨w.heap.size,2,none⟩=some dG:=λw' h=>⟨h.cell B (by simp),h.cell u (by simp),h.cell y (by simp)⟩;have HB:=Lib.hid bs;clear bs br hv;have bt:=Lib.hid G.uG;obtain⟨N,hN⟩:∃N,N=(ordP P).toNat:=⟨_,rfl⟩;have b1:N<=729:=by omega
 have az:ordP P=(N:Int):=by omega
 have HN:=Lib.hid (And.intro hN az);clear hN bq bp az;have aU:=uF G pr;have aA:=λw' v' (b2:Ints Any w' v' pr)=>rG P G pr a8 (λ_=>True) w' v' Any b2
 have aB:((dg P (λd=>True/\gt P.orders d∈pr) P.orders.length 0:Nat):Int)=dU P pr:=by
  rw[kC G];congr 1
  exact fC _ _ (λk _ _=>⟨λh=>h.2,λh=>⟨trivial,h⟩⟩)
 rw[aB] at aA;rw[qL G,HN.out.2] at aA;obtain⟨D,ae⟩:∃D,D=dU P pr:=⟨_,rfl⟩;rw[<-ae] at aA aU;have HW:=Lib.hid (And.intro ae aA);clear ae aB aA;go_enter Tryz.func276,Tryz.ntmps276;obtain⟨B,u,y⟩:=HB.out _ (Ext.refl _);have aY:∀(W:World) (a:Addr),Rows2 Any W (.slice (some a) 0 0) []:=λW a=>⟨some a,0,rfl,⟨by simp,by simp,λh=>by cases h⟩,λi hi=>by simp at hi⟩;have HZ:=Lib.hid aY;clear aY;go_wp2_with fail
 clear B u y;generalize b3:w.alloc (.cells #[vo,vp,vc] 28)=w0 at *;clear b3;have bv:Ext w0 (w0.alloc (.cells #[] 24)):=World.grownBy_alloc _ _ _;generalize b4:w0.alloc (.cells #[] 24)=w1 at *;clear b4;refine Calls.mono (l10Order_ok w1 (.agg #[vo,vp,vc]) P Sp hP ⟨_,_,_,rfl,Pres3.ext h3 (grown_trans a9 bv)⟩) ?_;rintro e2 w2 ⟨v2,rfl,hg2,rfl⟩;rw[HN.out.2];have aZ:=grown_trans bv hg2;go_wp2_with fail
 refine Calls.mono (HW.out.2 w2 _ (Ints.sub (Ints.ext a' aZ) (λ_ _ _=>trivial))) ?_;rintro e3 w3 ⟨v3,rfl,hg3,rfl⟩;have bw:=grown_trans aZ hg3;go_wp2;go_loopg [5] ((D-1).toNat) (λgk uv wr=>∃U:List (List Int),gk=(D-prodU P U U.length).toNat/\Ext w3 wr/\Rows2 Any wr uv U/\Hid (SubB P U/\prodU P U U.length∣dU P pr))
 case atStart=>exact⟨[],rfl,Ext.refl _,HZ.out _ _,Lib.hid ⟨bt.out,Int.one_dvd _⟩⟩
 case round=>
  obtain⟨U,bb,hg,hU,hS⟩:=hrel;have bc:=grown_trans bw hg;have cA:=G.sub_len hS.out.1;have aC:=vW G hS.out.1;have bx:=G.oK hS.out.1;have a0:prodU P U U.length<=D:=by rw[HW.out.1];exact oI hS.out.2 (by rw[<-HW.out.1];exact aU.1)
  obtain⟨ua,uc,huv,_,_⟩:=Sl.shape hU;subst huv;have bd:=l12Order_ok P hP wr (.agg #[aq,dI,dG]) _ U Any Any ⟨_,_,_,rfl,Pres3.ext dy bc⟩ hU aC (by omega);obtain⟨s,hs⟩:∃s,s=prodU P U U.length:=⟨_,rfl⟩;rw[<-hs] at bx a0 bd bb;have be:=Lib.hid (And.intro hs aC);clear hs aC;have bz:=Lib.hid bb;clear bb;obtain⟨B,u,y⟩:=HB.out wr bc;go_wp2_with fail
  clear B u y;refine Calls.mono bd ?_;rintro e4 w4 ⟨v4,rfl,hg4,rfl⟩;clear bd;have a1:=grown_trans bc hg4;have bA:=grown_trans hg hg4;have bB:=Rows2.ext hU hg4;clear hU;by_cases aa:s<D
  ·have bC:lK G pr U U 0 false:=⟨hS.out.1,hS.out.2,λh=>(by cases h),λ_=>⟨rfl,λj hj=>by omega⟩⟩
   have bD:=Lib.hid bC;clear bC;obtain⟨U0,vZ⟩:∃U0,U0=U:=⟨_,rfl⟩;have b7:=Lib.hid vZ;clear vZ;go_wp2;go_loopw [5,7,8] (λuv gv tv wr=>∃(t:Nat) (U':List (List Int)) (g:Bool),tv=.int .i64 t/\gv=.bool g/\t<=N/\Ext w4 wr/\Rows2 Any wr uv U'/\Hid (lK G pr U U' t g)) (λ_ _ tv _=>N-(intOf tv).toNat)
   case atStart=>exact⟨0,U,false,by go_num,rfl,by omega,Ext.refl _,bB,bD⟩
   case round=>
    obtain⟨t,U',g,rfl,rfl,ht,ag,hU,hI⟩:=hrel;have l:=grown_trans a1 ag;have cm:=G.sub_len hI.out.1;obtain⟨xa,xc,qY,_,_⟩:=Sl.shape hU;subst qY;have ar:=l10Order_ok wr (.agg #[aq,dI,dG]) P Any hP ⟨_,_,_,rfl,Pres3.ext dy l⟩;rw[HN.out.2] at ar;obtain⟨B,u,y⟩:=HB.out wr l;by_cases bf:t<N/\g=false
    ·obtain ⟨bE,rfl⟩:=bf
     have bF:(t:Int)<N:=by omega
     have bG:t<(ordP P).toNat:=by rw[<-HN.out.1];exact bE
     have ah:Vec P.orders (elAt P (t:Int)):=G.elAtV bG;obtain⟨aD,rH⟩:=hI.out.2.2.2 rfl
     have aE:¬jm G pr U' t->lK G pr U U' (t+1) false:=λh=>⟨hI.out.1,hI.out.2.1,λh=>(by cases h),λ_=>⟨aD,λj hj=>(by
      rcases Nat.lt_succ_iff_lt_or_eq.1 hj with h3|h3
      ·exact rH j h3
      ·subst h3;rw[<-aD];exact h)⟩⟩
     have bH:gT G pr U U' t:=⟨hI.out.1,hI.out.2.1,.inr ⟨aD,rH⟩⟩
     have V:¬gP P U' (elAt P (t:Int))->prodU P (cseq P (extP P (gP P U') (elAt P (t:Int)))) (cseq P (extP P (gP P U') (elAt P (t:Int)))).length∣dU P pr->lK G pr U (cseq P (extP P (gP P U') (elAt P (t:Int)))) (t+1) true:=λh1 h2=>by
      have h3:=bH.take bG h1 h2;refine⟨h3.sub,h3.dv,λ_ => ?_,λh=>(by cases h)⟩;rcases h3.up with h4|⟨h4,_⟩
      ·exact h4
      ·exfalso
       apply h1;rw[<-aD] at h4;have h5:gP P (cseq P (extP P (gP P U') (elAt P (t:Int))))=extP P (gP P U') (elAt P (t:Int)):=G.genP_cseq (ext_sub G hI.out.1 ah);rw[h4] at h5;rw[h5];exact genP_mem (.inr rfl)
     have aV:jm G pr U' t=(¬gP P U' (elAt P (t:Int))/\prodU P (cseq P (extP P (gP P U') (elAt P (t:Int)))) (cseq P (extP P (gP P U') (elAt P (t:Int)))).length∣dU P pr /\
      ∀d,pv (ey G (iO P (elAt P (t:Int)))) d->gt P.orders d∈pr):=rfl
     have hE:=ext_sub G hI.out.1 ah;have bJ:=λ(w':World) (h:Ext wr w')=>l10At_ok P hP w' (.agg #[aq,dI,dG]) (t:Int) Any ⟨_,_,_,rfl,Pres3.ext dy (grown_trans l h)⟩ (by omega) (by omega)
     have aF:=λ(w':World) (h:Ext wr w') (xv:Value) (hx:Ints Any w' xv (elAt P (t:Int)))=>l12Has_ok P G w' (.agg #[aq,dI,dG]) (.slice xa U'.length xc) xv (gP P U') (elAt P (t:Int)) Any Any Any (G.subB hI.out.1) ⟨_,_,_,rfl,Pres3.ext dy (grown_trans l h)⟩ (by
      have e:cseq P (gP P U')=U':=hI.out.1.2.symm;rw[e];exact Rows2.ext hU h) hx ah
     obtain⟨X,bg⟩:∃X,X=elAt P (t:Int):=⟨_,rfl⟩;obtain⟨C,al⟩:∃C,C=cseq P (extP P (gP P U') X):=⟨_,rfl⟩;rw[<-bg] at ah hE V aV aF;rw[<-al] at V aV;have bK:SubB P C:=by rw[al];exact G.subB_cseq hE
     have bL:cseq P (genP P (λz=>z∈U'++[X]))=C:=by rw[uE,al]
     have cF:X.length<=6:=by rw[ah.1];exact bo
     have a2:∀z∈U',z.length<=6:=λz hz=>by rw[(hI.out.1.1 z hz).1];exact bo
     have aG:∀z∈U',Vec P.orders z:=hI.out.1.1;have q:=Lib.hid (And.intro aE (And.intro V (And.intro aV (And.intro bK (And.intro bL (And.intro aF (And.intro ah (And.intro bJ (And.intro a2 (And.intro aG bg))))))))));clear aE V aV bK bL aF ah hE al bJ a2 aG bH rH aD bg;have b9:=Lib.hid ar;go_wp2_with fail
     clear B u y;refine Calls.mono ar ?_;rintro e5 w5 ⟨v5,rfl,K,rfl⟩;clear ar;have a3:=q.out.2.2.2.2.2.2.2.1 w5 K;obtain⟨B,u,y⟩:=HB.out w5 (grown_trans l K);go_wp2_with fail
     clear B u y;refine Calls.mono a3 ?_;rintro e6 w6 ⟨v6,rfl,gj,bi⟩;clear a3;rw[<-q.out.2.2.2.2.2.2.2.2.2.2] at bi;have aX:Ints Any w6 v6 X:=bi.ints (by omega);obtain⟨ax,cx,mQ,_,_⟩:=aX.shape;subst mQ;have ao:=grown_trans K gj;have bM:=q.out.2.2.2.2.2.1 w6 ao _ aX;obtain⟨B,u,y⟩:=HB.out w6 (grown_trans l ao);go_wp2_with fail
     clear B u y;refine Calls.mono bM ?_;rintro e7 w7 ⟨v7,rfl,I,r,rfl,hr⟩;clear bM;have ap:=grown_trans ao I;have L:=grown_trans ag ap;have bj:=Rows2.ext hU ap;have bN:=Ints.ext aX I;have M:=grown_trans l ap;clear hU aX bi;cases r with
     | true=>
      have H:=q.out.1 (by rw[q.out.2.2.1];intro h;exact h.1 (hr.1 rfl));have Y:=Lib.hid H;clear H hr;go_wp2;go_roundw
      case rel=>exact⟨t+1,U',false,by go_num,rfl,by omega,L,bj,Y⟩
      case measure=>simp[intOf];omega
     | false=>
      have bO:¬gP P U' X:=λh=>by have:=hr.2 h;cases this
      have cb:=G.sub_len q.out.2.2.2.1;have bP:=vW G q.out.2.2.2.1;have az:=G.oK q.out.2.2.2.1
      have aI:∀z∈U'++[X],Vec P.orders z:=λz hz=>by
       rcases List.mem_append.1 hz with h|h
       ·exact q.out.2.2.2.2.2.2.2.2.2.1 z h
       ·rw[List.mem_singleton.1 h];exact q.out.2.2.2.2.2.2.1
      have aJ:(U'++[X]).length<=10000:=by rw[List.length_append,List.length_singleton];omega
      have bQ:prodU P C C.length∣dU P pr->lK G pr U C (t+1) true:=λh=>q.out.2.1 bO h;have bR:¬prodU P C C.length∣dU P pr->lK G pr U U' (t+1) false:=λh=>q.out.1 (by rw[q.out.2.2.1];intro hh;exact h hh.2.1);have heq:=oF G q.out.2.2.2.1
      have J:((dg P (λd=>fW G C d/\gt P.orders d∈pr) P.orders.length 0:Nat):Int)=prodU P C C.length↔prodU P C C.length∣dU P pr:=by
       rw[oG G q.out.2.2.2.1,heq,Int.natCast_inj];exact um G _ _ (λd hd=>hd.1)
      have T:=Lib.hid (And.intro aI (And.intro aJ (And.intro q.out.2.2.2.2.1 (And.intro (show C.length<=100 by omega) (And.intro bP (And.intro (And.intro bQ bR) (And.intro (And.intro trivial (And.intro heq J)) (And.intro az q.out.2.2.2.2.2.2.2.2.1))))))));clear aI aJ cb bP az bQ bR hr bO heq J;have f1:∀w',Ext w7 w'->w'.cell? ⟨w.heap.size,0,none⟩=some aq:=λw' h=>(HB.out w' (grown_trans M h)).1;have f2:∀w',Ext w7 w'->w'.cell? ⟨w.heap.size,1,none⟩=some dI:=λw' h=>(HB.out w' (grown_trans M h)).2.1;have f3:∀w',Ext w7 w'->w'.cell? ⟨w.heap.size,2,none⟩=some dG:=λw' h=>(HB.out w' (grown_trans M h)).2.2;clear ag l K gj I ao ap b9;clear q;go_wp2;generalize w7=wr at *;have ag:=L;have l:=M;have hU:=bj;have hX:=bN;clear L M bj bN;clear b7 bD;refine wp_region_held_drew (S:=λw'=>Ext wr w') (by kernel_rfl) (grown_drew _ _) (λA => ?_);refine tk 0 ?_;refine tk 1 ?_;refine tk 3 ?_;refine jx 2 4 (λKc m => ?_) (λKc m => ?_)
      ·go_simp
       go_at_call 213;refine Calls.mono (l01Own2_ok wr.drew _ U' Any (Rows2.ext hU (grown_drew wr none)) (λz hz=>by have:=T.out.2.2.2.2.2.2.2.2 z hz;omega) (by omega)) ?_;rintro eC wC ⟨vC,rfl,au,gz⟩;have Z:=SlO.shq (bad:=λ_=>False) gz (λ_ h=>h.elim);have E:Ext wr wC:=grown_trans (grown_drew wr none) au;obtain⟨ca,cc,hcv,_⟩:=Z.shape;subst hcv;go_wp2_with fail
       refine ko m ?_ (λA => ?_)
       ·exact E
       clear m Kc;refine eu 4 (λKc m => ?_);go_simp;refine ko m ?_ (λA => ?_)
       ·exact grown_trans E (World.grownBy_alloc _ _ _)
       clear m Kc;refine eu 5 (λKc m => ?_);have bk:Ints (λk=>¬(λ_:Nat=>False) k/\(Value.slice ca U'.length cc).ownBlock≠some k) (wC.alloc (.cells #[.slice ax X.length cx] 24)) (.slice ax X.length cx) X:=Ints.mono hX (λk _ aa=>⟨⟨λh=>h,λe=>by have h1:=(Z.lt k e).1;have h2:wr.heap.size<=wr.drew.heap.size:=(grown_drew wr none).size;  omega⟩,Nat.lt_of_lt_of_le aa ((grown_trans E (World.grownBy_alloc wC (.cells #[.slice ax X.length cx] 24) none):Ext wr (wC.alloc (.cells #[.slice ax X.length cx] 24)))).size,((grown_trans E (World.grownBy_alloc wC (.cells #[.slice ax X.length cx] 24) none):Ext wr (wC.alloc (.cells #[.slice ax X.length cx] 24)))).block k aa (by simp)⟩);refine oL rfl _ _ rfl (λ_=>False) wr.drew.heap.size _ (Value.slice ca U'.length cc) _ U' X rfl (Z.ext (World.grownBy_alloc _ _ _)) bk rfl (by rw[World.cell?_alloc_at _ _ _ _ rfl];rfl) (by omega) (Nat.le_trans au.size (World.grownBy_alloc wC _ none).size) ?_;intro v5 w5 aK K;have O:Ext wr w5:=grown_own ((grown_trans E (World.grownBy_alloc wC (.cells #[.slice ax X.length cx] 24) none):Ext wr (wC.alloc (.cells #[.slice ax X.length cx] 24)))) K (λb hb aa=>by have h1:=(Z.lt b hb).1;have h2:wr.heap.size<=wr.drew.heap.size:=(grown_drew wr none).size;  omega);have bl:=aK.rows;obtain⟨da,dc,F,_⟩:=aK.shape;have ac:(U'++[X]).length=U'.length+1:=by simp
       rw[ac] at F;clear ac;subst F;refine ko m ?_ (λA => ?_)
       ·exact O
       clear m Kc;refine eu 6 (λKc m => ?_);go_simp;go_at_call 108;refine Calls.mono (l12Close_ok P G w5 _ _ (U'++[X]) Any Any ⟨_,_,_,rfl,Pres3.ext dy (grown_trans l O)⟩ bl T.out.1 T.out.2.1) ?_;rintro e6 w6 ⟨v6,rfl,gj,aL⟩;have p:=grown_trans O gj;rw[T.out.2.2.1] at aL;have aj:Rows2 Any w6 v6 C:=aL;obtain⟨ga,gc,kH,_,_⟩:=Sl.shape aj;subst kH;go_wp2_with fail
       refine ko m ?_ (λA => ?_)
       ·exact p
       clear m Kc;refine tk 7 ?_;refine wpAnyH_done (by kernel_rfl) ?_ _;clear f1 f2 f3;obtain⟨B,u,y⟩:=HB.out w6 (grown_trans l p);go_wp2_with fail
       clear B u y;refine Calls.mono (l12Order_ok P hP w6 _ _ C Any Any ⟨_,_,_,rfl,Pres3.ext dy (grown_trans l p)⟩ aj T.out.2.2.2.2.1 T.out.2.2.2.1) ?_;rintro e7 w7 ⟨v7,rfl,I,rfl⟩;have L:=grown_trans ag (grown_trans p I);have aM:=Rows2.ext aj I;have n:=rG P G pr a8 (fW G C) w7 _ S (Ints.ext a' (grown_trans (grown_trans l p) I));rw[<-T.out.2.2.2.2.2.2.1.2.1] at n;obtain⟨s2,Q⟩:∃s2,s2=prodU P C C.length:=⟨_,rfl⟩;rw[<-Q] at n ⊢;obtain⟨s3,R⟩:∃s3,s3=((dg P (λd=>fW G C d/\gt P.orders d∈pr) P.orders.length 0:Nat):Int):=⟨_,rfl⟩;rw[<-R] at n;have J:s3=s2↔prodU P C C.length∣dU P pr:=by rw[R,Q];exact T.out.2.2.2.2.2.2.1.2.2
       have aP:=Lib.hid J;clear J Q R;go_wp2_with fail
       refine Calls.mono n ?_;rintro e8 w8 ⟨v8,rfl,ak,rfl⟩;clear n;have ad:=grown_trans L ak;by_cases F:s3=s2
       ·have H:=T.out.2.2.2.2.2.1.1 (aP.out.1 F)
        have Y:=Lib.hid H;clear H;have aQ:=Rows2.ext aM ak;go_wp2;go_roundw
        case rel=>exact⟨t+1,C,true,by go_num,rfl,by omega,ad,aQ,Y⟩
        case measure=>simp[intOf];omega
       ·have H:=T.out.2.2.2.2.2.1.2 (λh=>F (aP.out.2 h))
        have Y:=Lib.hid H;clear H;have ce:(s3 == s2)=false:=by simpa using F
        have bm:=Rows2.ext hU (grown_trans p (grown_trans I ak));clear F;go_wp2;go_roundw
        case rel=>exact⟨t+1,U',false,by go_num,rfl,by omega,ad,bm,Y⟩
        case measure=>simp[intOf];omega
      ·go_simp
       have aR:Ext wr (wr.drew.alloc (.cells #[.slice ax X.length cx] 24)):=grown_trans (grown_drew _ _) (World.grownBy_alloc _ _ _);have cf:(wr.drew.alloc (.cells #[.slice ax X.length cx] 24)).cell? ⟨wr.drew.heap.size,0,none⟩=some (.slice ax X.length cx):=by rw[World.cell?_alloc_at _ _ _ _ rfl];rfl
       refine ko m ?_ (λA => ?_)
       ·exact aR
       clear m Kc;refine eu 2 (λKc m => ?_);go_simp;go_at_call 213;refine Calls.mono (l01Own2_ok (wr.drew.alloc (.cells #[.slice ax X.length cx] 24)) _ U' Any (Rows2.ext hU aR) (λz hz=>by have:=T.out.2.2.2.2.2.2.2.2 z hz;omega) (by omega)) ?_;rintro eC wC ⟨vC,rfl,au,gz⟩;have Z:=SlO.shq (bad:=λ_=>False) gz (λ_ h=>h.elim);have E:Ext wr wC:=grown_trans aR au;obtain⟨ca,cc,hcv,_⟩:=Z.shape;subst hcv;go_wp2_with fail
       refine ko m ?_ (λA => ?_)
       ·exact E
       clear m Kc;refine eu 5 (λKc m => ?_);have bk:Ints (λk=>¬(λ_:Nat=>False) k/\(Value.slice ca U'.length cc).ownBlock≠some k) (wC) (.slice ax X.length cx) X:=Ints.mono hX (λk _ aa=>⟨⟨λh=>h,λe=>by have h1:=(Z.lt k e).1;have h2:wr.heap.size<=wr.drew.heap.size:=(grown_drew wr none).size;have h3:=aR.size;omega⟩,Nat.lt_of_lt_of_le aa (E).size,(E).block k aa (by simp)⟩);refine oL rfl _ _ rfl (λ_=>False) (wr.drew.alloc (.cells #[.slice ax X.length cx] 24)).heap.size _ (Value.slice ca U'.length cc) _ U' X rfl Z bk rfl (au.cell cf (by simp)) (by omega) (au.size) ?_;intro v5 w5 aK K;have O:Ext wr w5:=grown_own (E) K (λb hb aa=>by have h1:=(Z.lt b hb).1;have h2:wr.heap.size<=wr.drew.heap.size:=(grown_drew wr none).size;have h3:=aR.size;omega);have bl:=aK.rows;obtain⟨da,dc,F,_⟩:=aK.shape;have ac:(U'++[X]).length=U'.length+1:=by simp
       rw[ac] at F;clear ac;subst F;refine ko m ?_ (λA => ?_)
       ·exact O
       clear m Kc;refine eu 6 (λKc m => ?_);go_simp;go_at_call 108;refine Calls.mono (l12Close_ok P G w5 _ _ (U'++[X]) Any Any ⟨_,_,_,rfl,Pres3.ext dy (grown_trans l O)⟩ bl T.out.1 T.out.2.1) ?_;rintro e6 w6 ⟨v6,rfl,gj,aL⟩;have p:=grown_trans O gj;rw[T.out.2.2.1] at aL;have aj:Rows2 Any w6 v6 C:=aL;obtain⟨ga,gc,kH,_,_⟩:=Sl.shape aj;subst kH;go_wp2_with fail
       refine ko m ?_ (λA => ?_)
       ·exact p
       clear m Kc;refine tk 7 ?_;refine wpAnyH_done (by kernel_rfl) ?_ _;clear f1 f2 f3;obtain⟨B,u,y⟩:=HB.out w6 (grown_trans l p);go_wp2_with fail
       clear B u y;refine Calls.mono (l12Order_ok P hP w6 _ _ C Any Any ⟨_,_,_,rfl,Pres3.ext dy (grown_trans l p)⟩ aj T.out.2.2.2.2.1 T.out.2.2.2.1) ?_;rintro e7 w7 ⟨v7,rfl,I,rfl⟩;have L:=grown_trans ag (grown_trans p I);have aM:=Rows2.ext aj I;have n:=rG P G pr a8 (fW G C) w7 _ S (Ints.ext a' (grown_trans (grown_trans l p) I));rw[<-T.out.2.2.2.2.2.2.1.2.1] at n;obtain⟨s2,Q⟩:∃s2,s2=prodU P C C.length:=⟨_,rfl⟩;rw[<-Q] at n ⊢;obtain⟨s3,R⟩:∃s3,s3=((dg P (λd=>fW G C d/\gt P.orders d∈pr) P.orders.length 0:Nat):Int):=⟨_,rfl⟩;rw[<-R] at n;have J:s3=s2↔prodU P C C.length∣dU P pr:=by rw[R,Q];exact T.out.2.2.2.2.2.2.1.2.2
       have aP:=Lib.hid J;clear J Q R;go_wp2_with fail
       refine Calls.mono n ?_;rintro e8 w8 ⟨v8,rfl,ak,rfl⟩;clear n;have ad:=grown_trans L ak;by_cases F:s3=s2
       ·have H:=T.out.2.2.2.2.2.1.1 (aP.out.1 F)
        have Y:=Lib.hid H;clear H;have aQ:=Rows2.ext aM ak;go_wp2;go_roundw
        case rel=>exact⟨t+1,C,true,by go_num,rfl,by omega,ad,aQ,Y⟩
        case measure=>simp[intOf];omega
       ·have H:=T.out.2.2.2.2.2.1.2 (λh=>F (aP.out.2 h))
        have Y:=Lib.hid H;clear H;have ce:(s3 == s2)=false:=by simpa using F
        have bm:=Rows2.ext hU (grown_trans p (grown_trans I ak));clear F;go_wp2;go_roundw
        case rel=>exact⟨t+1,U',false,by go_num,rfl,by omega,ad,bm,Y⟩
        case measure=>simp[intOf];omega
    ·cases g with
     | false=>
      exfalso
      have cg:t=N:=by
       rcases Nat.lt_or_ge t N with h|h
       ·exact absurd ⟨h,rfl⟩ bf
       ·omega
      obtain⟨j,hj,Ch⟩:=uD G pr hS.out.1 hS.out.2 (by rw[<-be.out.1,<-HW.out.1];omega);exact(hI.out.2.2.2 rfl).2 j (by rw[cg,HN.out.1];exact hj) Ch
     | true=>
      have bn:=hI.out.2.2.1 rfl;rw[<-be.out.1] at bn;have a5:prodU P U' U'.length<=D:=by rw[HW.out.1];exact oI hI.out.2.1 (by rw[<-HW.out.1];exact aU.1)
      have HE:=Lib.hid (And.intro bn (And.intro a5 (And.intro hI.out.1 hI.out.2.1)));clear bn a5 bf;go_wp2_with fail
      clear B u y;refine Calls.mono ar ?_;rintro e5 w5 ⟨v5,rfl,K,rfl⟩;clear ar;have bU:=Rows2.ext hU K;have a7:=grown_trans bA (grown_trans ag K);by_cases bE:t<N
      ·have bF:(t:Int)<N:=by omega
       go_wp2;go_roundg ((D-prodU P U' U'.length).toNat)
       case rel=>exact⟨U',rfl,a7,bU,Lib.hid ⟨HE.out.2.2.1,HE.out.2.2.2⟩⟩
       case measure=>have:=HE.out.1;have:=HE.out.2.1;have:=bz.out;omega
      ·have cQ:¬(t:Int)<N:=by omega
       go_wp2;go_roundg ((D-prodU P U' U'.length).toNat)
       case rel=>exact⟨U',rfl,a7,bU,Lib.hid ⟨HE.out.2.2.1,HE.out.2.2.2⟩⟩
       case measure=>have:=HE.out.1;have:=HE.out.2.1;have:=bz.out;omega
  ·have bV:s=D:=by omega
   have aS:gQ P pr U:=⟨hS.out.1,by rw[<-be.out.1,bV,HW.out.1]⟩;have HH:=Lib.hid aS;clear aS bV aU bx a0;go_wp2;go_ret;exact⟨_,rfl,grown_trans a9 a1,U,HH.out,bB⟩
theorem Ci (P:Pr) (G:Grp P) (pr:List Int) (aj:gy pr) (w:World) (pv v:Value) (Sp S:Nat->Prop) (ak:PresV Sp w pv P) (hv:Ints S w v pr) :
  Calls Tryz.prog 200 #[pv,v] w (Ret w λw' r=>∃L,gR P pr L/\L.length<=729/\Rows3 Any w' r L):=by
 have hP:=G.v;have am:=hP.n6;have D:ordP P<=729:=hP.le729;have E:=hP.ordP_pos;obtain⟨vo,vp,vc,rfl,F⟩:=ak;have H:=PresP.box F 28;have I:Ext w (w.alloc (.cells #[vo,vp,vc] 28)):=World.grownBy_alloc _ _ _;obtain⟨e,dI,dG,_,_,n,g,k,dy⟩:=H.at;simp only[Nat.zero_add] at g k;have J:∀w',Ext (w.alloc (.cells #[vo,vp,vc] 28)) w'->w'.cell? ⟨w.heap.size,0,none⟩=some e/\w'.cell? ⟨w.heap.size,1,none⟩=some dI/\w'.cell? ⟨w.heap.size,2,none⟩=some dG:=λw' h=>⟨h.cell n (by simp),h.cell g (by simp),h.cell k (by simp)⟩;have HB:=Lib.hid J;clear J H;have K:=Cg P G pr aj _ (.agg #[e,dI,dG]) v Any S ⟨_,_,_,rfl,dy⟩ (Ints.ext hv I);obtain⟨av,cv,rfl,_,_⟩:=hv.shape;obtain⟨N,hN⟩:∃N,N=(ordP P).toNat:=⟨_,rfl⟩;have an:N<=729:=by omega
 have M:ordP P=(N:Int):=by omega
 have HN:=Lib.hid (And.intro hN M);clear hN E D M hv;have y:∀(W:World) (a:Addr),Rows3 Any W (.slice (some a) 0 0) []:=λW a=>⟨some a,0,rfl,⟨by simp,by simp,λh=>by cases h⟩,λi hi=>by simp at hi⟩;have HZ:=Lib.hid y;clear y;go_enter Tryz.func200,Tryz.ntmps200;go_wp2_with fail
 clear n g k;generalize ap:w.alloc (.cells #[vo,vp,vc] 28)=w0 at *;clear ap;refine Calls.mono K ?_;rintro e1 w1 ⟨v1,rfl,hg1,U,rI,hU⟩;clear K;obtain⟨ua,uc,huv,_,_⟩:=Sl.shape hU;subst huv;have aI:=G.sub_len rI.1;have HH:=Lib.hid rI;clear rI;go_wp2;go_loopw [6,7] (λov tv wr=>∃(t:Nat) (R:List (List (List Int))),tv=.int .i64 t/\t<=N/\Ext w1 wr/\Rows3 Any wr ov R/\Hid (R.Pairwise (subLt P)/\(∀u,u∈R↔∃j,j<t/\u=dK P U (elAt P (j:Int)))/\R.length<=t)) (λ_ tv _=>N-(intOf tv).toNat)
 case atStart=>exact⟨0,[],by go_num,by omega,World.grownBy_alloc _ _ _,HZ.out _ _,Lib.hid ⟨List.Pairwise.nil,λu=>⟨λh=>(by cases h),λ⟨j,h,_⟩=>(by omega)⟩,Nat.le_refl _⟩⟩
 case round=>
  obtain⟨t,R,rfl,ht,hg,hR,C⟩:=hrel;have l:=grown_trans hg1 hg;obtain⟨ra,rc,Cj,_,_⟩:=Sl.shape hR;subst Cj;have A:=l10Order_ok wr (.agg #[e,dI,dG]) P Any hP ⟨_,_,_,rfl,Pres3.ext dy l⟩;rw[HN.out.2] at A;have aK:=C.out.2.2;obtain⟨n,g,k⟩:=HB.out wr l;go_wp2_with fail
  clear n g k;refine Calls.mono A ?_;rintro e2 m ⟨v2,rfl,p,rfl⟩;clear A;have b:=grown_trans l p;have B:=Rows3.ext hR p;have O:=Rows2.ext (Rows2.ext hU hg) p;by_cases ar:t<N
  ·have aB:(t:Int)<N:=by omega
   have au:t<(ordP P).toNat:=by rw[<-HN.out.1];exact ar
   have q:Vec P.orders (elAt P (t:Int)):=G.elAtV au;have f1:∀w',Ext m w'->w'.cell? ⟨w.heap.size,0,none⟩=some e:=λw' h=>(HB.out w' (grown_trans b h)).1;have f2:∀w',Ext m w'->w'.cell? ⟨w.heap.size,1,none⟩=some dI:=λw' h=>(HB.out w' (grown_trans b h)).2.1;have f3:∀w',Ext m w'->w'.cell? ⟨w.heap.size,2,none⟩=some dG:=λw' h=>(HB.out w' (grown_trans b h)).2.2;have Q:=λ(w':World) (h:Ext m w')=>l10At_ok P hP w' (.agg #[e,dI,dG]) (t:Int) Any ⟨_,_,_,rfl,Pres3.ext dy (grown_trans b h)⟩ (by omega) (by omega);have T:=G.jD HH.out.1 q;have V:=λ(w':World) (h:Ext m w') (xv:Value) (hx:Ints Any w' xv (elAt P (t:Int)))=>l13Conj_ok P G w' (.agg #[e,dI,dG]) _ xv U (elAt P (t:Int)) Any Any Any ⟨_,_,_,rfl,Pres3.ext dy (grown_trans b h)⟩ (Rows2.ext O h) HH.out.1.1 (by omega) hx q
   have X:∀u∈R,SubB P u:=λu hu=>by
    obtain⟨j,hj,rfl⟩:=(C.out.2.1 u).1 hu;exact G.jD HH.out.1 (G.elAtV (by omega))
   have z:=λ(w':World) (h:Ext m w') (uv:Value) (hu:Rows2 Any w' uv (dK P U (elAt P (t:Int))))=>Bg P G w' (.agg #[e,dI,dG]) _ uv R _ Any Any ⟨_,_,_,rfl,Pres3.ext dy (grown_trans b h)⟩ (Rows3.ext B h) hu X T C.out.1 (by omega);have Y:(elAt P (t:Int)).length<=6:=by rw[q.1];exact am
   have HF:=Lib.hid (And.intro Q (And.intro V (And.intro z Y)));clear Q V z T X q hR O B Y;go_wp2
   go_region_held3 (λw'=>Ext m w') (first|exact grown_drew _ _|exact Ext.refl _|assumption)
    (first
     | (go_at_call 107;refine Calls.mono (Calls.rel (w0:=m) (by assumption) (HF.out.1 _ (by assumption))) ?_;rintro e3 w3 ⟨v3,rfl,hg3,hs3,Ck⟩;have ax:Ints Any w3 v3 (elAt P (t:Int)):=Ck.ints (by have:=HF.out.2.2.2;omega))
     | (go_at_call 136;refine Calls.mono (Calls.rel (w0:=m) (by assumption) (HF.out.2.1 _ (by assumption) _ ax)) ?_;rintro e4 w4 ⟨v4,rfl,hg4,hs4,Z⟩;obtain⟨ja,jc,qZ,_,_⟩:=Sl.shape Z;subst qZ)
     | (go_at_call 277;refine Calls.mono (Calls.rel (w0:=m) (by assumption) (HF.out.2.2.1 _ (by assumption) _ Z)) ?_;rintro e5 w5 ⟨v5,rfl,ay,hs5,R2,wh,ab,Cl,wj⟩))
   clear f1 f2 f3;have ac:Rows3 Any w5 v5 R2:=Rows3.sub wj (λ_ _ _=>trivial)
   have ad:Hid (R2.Pairwise (subLt P)/\(∀u,u∈R2↔∃j,j<t+1/\u=dK P U (elAt P (j:Int)))/\R2.length<=t+1):=Lib.hid ⟨wh,λu=>by
    rw[ab u,C.out.2.1 u];constructor
    ·rintro (⟨j,h1,h2⟩|h1)
     ·exact⟨j,by omega,h2⟩
     ·exact⟨t,by omega,h1⟩
    ·rintro ⟨j,h1,h2⟩
     rcases Nat.lt_succ_iff_lt_or_eq.1 h1 with F|F
     ·exact .inl ⟨j,F,h2⟩
     ·subst F;exact .inr h2,by omega⟩
   clear wh ab Cl wj;go_wp2;go_roundw
   case rel=>exact⟨t+1,R2,by go_num,by omega,grown_trans hg (grown_trans p ay),ac,ad⟩
   case measure=>simp[intOf];omega
  ·have ae:t=N:=by omega
   have aP:¬(t:Int)<N:=by omega
   have af:gR P pr R:=⟨C.out.1,λu=>by
    rw[C.out.2.1 u,tZ G HH.out u,ae,HN.out.1]⟩
   have HL:=Lib.hid af;clear af ae;go_wp2;go_ret;exact⟨_,rfl,grown_trans I b,R,HL.out,by omega,B⟩
theorem Cm (w:World):Rows3 Any w (.slice none 0 0) []:=⟨none,0,rfl,⟨by simp,by simp,λ_=>rfl⟩,λi a=>by simp at a⟩
theorem wk {P:Program}{b:Array Oper}{rest:List Oper}{o:Oper}{a:Act}{Q:Exit->Act->World->Prop}{w:World}(e:o.guard=none)
  (h:if Region.wanted o (yielded b a.tmps)=true then Oper.wp P o a w (wpList P b Q rest) Q else False):wpList P b Q (o :: rest) a w:=by
 have g:Region.wanted o (yielded b a.tmps)=true:=by simp[Region.wanted,e]
 rw[if_pos g] at h;show if Region.wanted o (yielded b a.tmps)=true then _ else _
 rw[if_pos g];exact .inl h
theorem Cn (w:World) (v:Value) (l:List Int) (S:Nat->Prop) (k:Ints S w v l) (q:l.length<=1048576) :
  Calls Tryz.prog 199 #[v] w (Ret w λw' r=>Own w.heap.size w' r l/\∃g cap,r=.slice (some ⟨g,0,none⟩) l.length cap):=by
 obtain⟨a,cap,rfl,_,_⟩:=k.shape;go_enter Tryz.func199,Tryz.ntmps199;go_wp2_with (at_builtin;refine wp_app_ints rfl _ _ rfl w.heap.size _ [] rfl (World.ownsRow_lit w #[] 0 (Nat.le_refl _) (by decide) rfl) _ l rfl S (k.ext (World.grownBy_alloc _ _ _)) (by simp;omega) (by simp) ?_;intro u y b e i)
 go_ret;refine⟨_,rfl,grown_own (World.grownBy_alloc _ _ _) e (λj m n=>by have:=own_blk m;omega),b,?_⟩;have p:=b;obtain⟨_,⟨h1,_⟩|⟨g,cap',cur,h1,_⟩⟩:=b
 ·have:=(i.1 h1).1
  cases this
 ·exact⟨g,cap',by simpa using h1⟩
theorem Co {P:Pr}(G:Grp P) {u:List (List Int)}(h:SubB P u):∀r∈u,0<r.length:=λr a=>by
 have h1:=G.sub_len h;have b:=(h.1 r a).1;have e:=List.length_pos_of_mem a;omega
theorem wu {S:Nat->Prop}{w:World}{v:Value}{xs:List (List (List Int))}(h:Sl jq S w v xs):Rows3 Any w v xs:=by
 obtain⟨a,cap,rfl,hl,hc⟩:=h
 exact ⟨a,cap,rfl,hl,λi e=>by
  obtain⟨b,off,u,e1,e2,e3,e4,e5⟩:=hc i e;exact⟨b,off,u,e1,trivial,e3,e4,e5.1⟩⟩
theorem wH {w:World}{u:Value}{X:List (List Int)}(h:jq w u X):Sl jq Any (w.alloc (.cells #[u] 25)) (.slice (some ⟨w.heap.size,0,none⟩) 1 1) [X]:=by
 refine⟨_,1,rfl,⟨by simp,by simp,λh=>by cases h⟩,λi a => ?_⟩;have:i=0:=by simpa using a
 subst this;exact⟨w.heap.size,0,u,rfl,trivial,by simp,by rw[World.cell?_alloc_at _ _ _ _ rfl];rfl,kK.kp h (Kp.of (World.grownBy_alloc _ _ _))⟩
theorem Cp (P:Pr) (w:World) (pv:Value) (Sp:Nat->Prop) (bo:PresV Sp w pv P) :
  Calls Tryz.prog 93 #[pv] w (Ret w λw' r=>∃a n c,r=.tuple #[.slice a n c,.int .i64 (jH P)]/\Rows3 Any w' (.slice a n c) (dP P)):=by
 obtain⟨vo,vp,vc,rfl,h3⟩:=bo;have aK:=PresP.box h3 28;have aL:Ext w (w.alloc (.cells #[vo,vp,vc] 28)):=World.grownBy_alloc _ _ _;obtain⟨F,dI,dG,_,_,m,e,g,dy⟩:=aK.at;simp only[Nat.zero_add] at e g;have aM:∀w',Ext (w.alloc (.cells #[vo,vp,vc] 28)) w'->w'.cell? ⟨w.heap.size,0,none⟩=some F/\w'.cell? ⟨w.heap.size,1,none⟩=some dI/\w'.cell? ⟨w.heap.size,2,none⟩=some dG:=λw' h=>⟨h.cell m (by simp),h.cell e (by simp),h.cell g (by simp)⟩;have HB:=Lib.hid aM;clear aM aK;have ad:Ints Any (w.alloc (.cells #[vo,vp,vc] 28)) (.slice none 0 0) []:=⟨none,0,rfl,⟨by simp,by simp,λ_=>rfl⟩,λi hi=>by simp at hi⟩;have M:=zS P [] _ (.agg #[F,dI,dG]) _ Any Any ⟨_,_,_,rfl,dy⟩ ad;clear ad;go_enter Tryz.func93,Tryz.ntmps93;go_wp2_with fail
 clear m e g;generalize bp:w.alloc (.cells #[vo,vp,vc] 28)=w0 at *;clear bp;refine Calls.mono M ?_;rintro e1 w1 ⟨v1,rfl,hg1,rfl⟩;clear M;have aN:=grown_trans aL hg1;obtain⟨c,hc⟩:∃c,c=ew P []:=⟨_,rfl⟩;rw[<-hc];by_cases hz:c=0
 ·have H : ew P []=0:=by rw[<-hc];exact hz
  have G:=grp_of_r (ji H).1;have ae:=mM H;have af:=mL H;have aO:=mJ H;have bq:=kE (ordP P);have HC:=Lib.hid (And.intro hc H);clear hc H;have HV:=Lib.hid (And.intro ae (And.intro af aO));clear ae af aO;subst hz;have aP:=uA P G.v w1 (.agg #[F,dI,dG]) Any ⟨_,_,_,rfl,Pres3.ext dy hg1⟩;obtain⟨m,e,g⟩:=HB.out _ hg1;go_wp2_with fail
  clear m e g;refine Calls.mono aP ?_;rintro e2 w2 ⟨v2,rfl,hg2,hD⟩;have W:=hD.ints (by omega);obtain⟨da,dc,rfl,br,_⟩:=W.shape;clear aP hD;have aQ:=grown_trans hg1 hg2;obtain⟨n,hn⟩:∃n,n=(dr (ordP P)).length:=⟨_,rfl⟩;rw[<-hn] at bq W br ⊢;have aR:ZL jq 25 w2.heap.size (w2.alloc (.cells #[] 25)) (.slice (some ⟨w2.heap.size,0,none⟩) 0 0) []:=ZL.jW (Nat.le_refl _) rfl;have HN:=Lib.hid hn;clear hn;have bt:=Lib.hid aR;clear aR;go_wp2;go_loopw [6,7] (λhv iv wr=>∃(k:Nat) (vh:Value),vh=hv/\iv=.int .i64 (k:Int)/\k<=n/\Ext w2 wr/\ZL jq 25 w2.heap.size wr vh (fc P k)) (λ_ iv _=>n-(intOf iv).toNat)
  case atStart=>exact⟨0,_,rfl,by go_num,Nat.zero_le _,World.grownBy_alloc _ _ _,bt.out⟩
  case round =>
   obtain⟨k,vh,rfl,rfl,hk,hg,hH⟩:=hrel;have Y:=mK P k;have ar:=grown_trans aQ hg;by_cases aS:k<n
   ·have aT:(k:Int)<(n:Int):=by omega
    obtain⟨k1,hk1⟩:∃k1:Int,k1=(k:Int)+1:=⟨_,rfl⟩;have bu:IntKind.i64.wrap ((k:Int)+1)=k1:=by rw[IntWalk.i64_in _ (by omega),hk1]
    have bv:∀w',(Instr.slice 24 (.slice da n dc) none (some (.int .i64 (k:Int))) none).run Tryz.prog w'=.ok (.slice da k dc) w':=λw'=>by
     have h:=run_head w' da n dc (k:Int) (by omega) (by omega);rw[Int.toNat_natCast] at h;exact h
    have I:=subSl_ints W (k+1) n (by omega) (by rw[<-HN.out];exact Nat.le_refl _)
    have b:∀w',(Instr.slice 24 (.slice da n dc) (some (.int .i64 k1)) none none).run Tryz.prog w'=.ok (subSl (.slice da n dc) (k+1) n) w':=λw'=>by
     have h:=run_tail w' da n dc k1 (by omega) (by omega);rw[show k1.toNat=k+1 by omega] at h;exact h
    have aU:=head_ints W k (by rw[<-HN.out];exact hk);rw[show(dr (ordP P)).take n=dr (ordP P) from List.take_of_length_le (by rw[HN.out];exact Nat.le_refl _)] at I;obtain⟨sa,sc,aV,_,_⟩:=I.shape;rw[aV] at I b;obtain⟨sn,aW⟩:∃sn,sn=((dr (ordP P)).drop (k+1)).length:=⟨_,rfl⟩;rw[<-aW] at I b;have heq:fA P k=(dr (ordP P)).take k++(dr (ordP P)).drop (k+1):=rfl;have bw:=uZ P k;have au:((dr (ordP P)).take k).length=k:=by rw[List.length_take,<-HN.out];omega
    have av:((dr (ordP P)).drop (k+1)).length<=4:=by rw[List.length_drop,<-HN.out];omega
    have N:=Ints.ext aU hg;have O:=Ints.ext I hg;obtain⟨D1,aX⟩:∃D1,D1=(dr (ordP P)).take k:=⟨_,rfl⟩;obtain⟨D2,aY⟩:∃D2,D2=(dr (ordP P)).drop (k+1):=⟨_,rfl⟩;rw[<-aX] at N heq au;rw[<-aY] at O heq av;have HX:=Lib.hid (And.intro heq (And.intro (HV.out.2.2 k) (And.intro au av)));clear heq au av aX aY aV aW aU I hk1;go_wp2
    go_region_held3 (λw'=>Ext wr w') (first|exact grown_drew _ _|exact Ext.refl _|assumption)
     (first
      | (go_at_call 199;refine Calls.mono (Calls.rel (w0:=wr) (by first|assumption|exact grown_drew _ _) (Cn _ _ D1 Any (Ints.ext N (by first|assumption|exact grown_drew _ _)) (by have:=HX.out.2.2.1;omega))) ?_;rintro e3 w3 ⟨v3,rfl,aw,hs3,z,og,aZ,rfl⟩)
      | (refine sI rfl _ _ rfl wr.heap.size og aZ _ D1 D2 rfl rfl (z.weak (by first|exact Nat.le_refl _|simp)) _ Any (Ints.ext O aw) rfl (by have:=HX.out.2.2;omega) aw.size ?_;intro v4 w4 ax bA;have D:Ext wr w4:=grown_own aw bA (λj hj bB=>by have h1:=(z.lt og rfl).1;cases hj;simp at h1;omega)))
    clear bv b bu;have D:Ext wr w4:=D;have heq:=HX.out.1;rw[<-heq] at ax;have ay:=ax.ints (by omega);obtain⟨oa,oc,hov,_,_⟩:=ay.shape;subst hov;have ag:=grown_trans ar D;have hh:=Ci P G (fA P k) (uY P k) w4 (.agg #[F,dI,dG]) _ Any Any ⟨_,_,_,rfl,Pres3.ext dy ag⟩ ay;obtain⟨on,a0⟩:∃on,on=(fA P k).length:=⟨_,rfl⟩;rw[<-a0] at hh ⊢;clear ay ax a0 bw heq z N O;obtain⟨m,e,g⟩:=HB.out _ ag;go_wp2_with fail
    clear m e g;refine Calls.mono hh ?_;rintro e5 w5 ⟨v5,rfl,fR,L,hL,En,hO⟩;clear hh;obtain⟨la,lc,hlv,_,_⟩:=Sl.shape hO;subst hlv;have ah:gJ P (fA P k)=gt L 0:=by unfold gJ;rw[oP HX.out.2.1 hL]
    have ai:=hL.pos G;have a3:=((hL.2 _).1 (gt_mem ai)).1;obtain⟨bl,ol,a2,p,kJ,_,hbl,u,iI⟩:=Rows3.at hO 0 ai;subst kJ;have b8:(0:Int)<L.length:=by omega
    have aj:=grown_trans D fR;have u:w5.cell? ⟨bl,ol,none⟩=some (.slice a2 (gt L 0).length p):=u;have A:jq w5 (.slice a2 (gt L 0).length p) (gt L 0):=⟨Rows2.sub iI (λ_ _ _=>trivial),Co G a3⟩;have Q:fc P (k+1)=fc P k++[gt L 0]:=by rw[u5,ah]
    obtain⟨X,hX⟩:∃X,X=gt L 0:=⟨_,rfl⟩;rw[<-hX] at u A Q;have HR:=Lib.hid (And.intro Q (wH A));clear Q A hO ah hX hL iI a3;have R:=hH.lt;have l:Ext w5 (w5.alloc (.cells #[.slice a2 X.length p] 25)):=World.grownBy_alloc _ _ _;have S:=(hH.ext kK aj).ext kK l;have y:=grown_trans hg (grown_trans aj l);obtain⟨gh,ch,T⟩:=hH.shape;have B:=Lib.hid (And.intro l (And.intro S y));clear l S y;rw[Y] at T;subst T;go_wp2_with (first|(at_builtin;refine wk rfl (vQ kK 26 25 24 lu Tryz.lz (by decide) rfl _ _ rfl w2.heap.size _ (fc P k) [X] rfl B.out.2.1 _ Any HR.out.2 rfl (by simp;omega) B.out.2.2.size ?_);intro g6 bX w6 J aA b'))
    clear u;have aB:Ext w2 w6:=grown_own B.out.2.2 aA (λj hj bB=>by have:=(R j hj).1;omega);rw[<-HR.out.1] at J;rw[mK] at J;go_roundw
    case rel=>exact⟨k+1,_,rfl,by go_num,by omega,aB,by first|exact J|(rw[<-HR.out.1,mK];exact J)⟩
    case measure=>simp[intOf];omega
   ·have bE : k=n:=by omega
    subst bE;have a5:Rows3 Any wr vh (fc P k):=wu (hH.sl (by omega));obtain⟨ha,gC,T,_,_⟩:=Sl.shape a5;rw[Y] at T;subst T;obtain⟨Z,rfl⟩:∃Z:World,Z=wr:=⟨_,rfl⟩;obtain⟨n,rfl⟩:∃n,n=k:=⟨_,rfl⟩;have bF:=Lib.hid Y;clear Y hH aS;have a6:ZL jq 25 Z.heap.size (Z.alloc (.cells #[] 25)) (.slice (some ⟨Z.heap.size,0,none⟩) 0 0) []:=ZL.jW (Nat.le_refl _) rfl;have bG:=Lib.hid a6;clear a6;go_wp2;go_loopw [9,10] (λov iv wr=>∃(i:Nat) (vo:Value),vo=ov/\iv=.int .i64 (i:Int)/\i<=n/\Ext Z wr/\ZL jq 25 Z.heap.size wr vo (fS P i)) (λ_ iv _=>n-(intOf iv).toNat)
    case atStart=>exact⟨0,_,rfl,by go_num,Nat.zero_le _,World.grownBy_alloc _ _ _,bG.out⟩
    case round=>
     obtain⟨i,vo,rfl,rfl,hi,aa,hO⟩:=hrel;have aC:=lI P i;by_cases aS:i<n
     ·have aT:(i:Int)<(n:Int):=by omega
      obtain⟨wo,rfl⟩:∃wo:World,wo=wr:=⟨_,rfl⟩;have aD:=grown_trans ar aa;have aE:=B8 P G.v wo (.agg #[F,dI,dG]) Any ⟨_,_,_,rfl,Pres3.ext dy aD⟩;rw[<-G.rB,show Vec P.orders=ez P i 0 from rfl] at aE;obtain⟨m,e,g⟩:=HB.out _ aD;go_wp2_with fail
      clear m e g;refine Calls.mono aE ?_;rintro e5 w5 ⟨v5,rfl,fR,hU⟩;clear aE;obtain⟨ua,uc,C,_,_⟩:=Sl.shape hU;subst C;go_wp2;go_loopw [11,12] (λuv jv wr=>∃(j:Nat) (vu:Value),vu=uv/\jv=.int .i64 (j:Int)/\j<=n/\Ext wo wr/\Rows2 Any wr vu (cseq P (ez P i j))) (λ_ jv _=>n-(intOf jv).toNat)
      case atStart=>exact⟨0,_,rfl,by go_num,Nat.zero_le _,fR,hU⟩
      case round=>
       clear hU;obtain⟨j,vu,rfl,rfl,hj,K,hU⟩:=hrel;obtain⟨bI,bJ,C,_,_⟩:=Sl.shape hU;have E:=grown_trans aD K;by_cases ak:j<n
       ·have bK:(j:Int)<(n:Int):=by omega
        obtain⟨bl,ol,a2,p,kJ,_,hbl,u,iI⟩:=Rows3.at a5 j (by rw[bF.out];exact ak);cases kJ
        have al:=grown_trans aa K;have U:=Rows2.ext iI al;have aF:=u6 P ak;by_cases V:j=i
        ·have b:ez P i (j+1)=ez P i j:=by show(if j=i then ez P i j else _)=_;rw[if_pos V]
         have HS:=Lib.hid b;clear b u iI U;have a8:((j:Int) != (i:Int))=false:=by rw[V];simp
         clear aF;subst C;have HJ:=Lib.hid V;clear V;go_wp2;go_roundw
         case rel=>exact⟨j+1,_,rfl,by go_num,by omega,K,by rw[HS.out];exact hU⟩
         case measure=>simp[intOf];omega
        ·have b:ez P i (j+1)=λx=>ez P i j x/\gP P (gJ P (fA P j)) x:=by show(if j=i then ez P i j else _)=_;rw[if_neg V]
         have hb:=oQ (HV.out.2.2 j);rw[<-aF] at hb b;have eb:cseq P (gP P (gt (fc P n) j))=gt (fc P n) j:=hb.2.symm;have e4:∀w',Ext wr w'->w'.cell? ⟨bl,ol+j,none⟩=some (.slice a2 (gt (fc P n) j).length p):=λw' h=>(grown_trans al h).cell u (by simp);have a':(gt (fc P n) j).length=(cseq P (gP P (gt (fc P n) j))).length:=congrArg List.length hb.2;rw[a'] at e4;rw[<-eb] at U;subst C;have a8:((j:Int) != (i:Int))=true:=by simp;omega
         have e1:∀w',Ext wr w'->w'.cell? ⟨w.heap.size,0,none⟩=some F:=λw' h=>(HB.out w' (grown_trans E h)).1;have e2:∀w',Ext wr w'->w'.cell? ⟨w.heap.size,1,none⟩=some dI:=λw' h=>(HB.out w' (grown_trans E h)).2.1;have e3:∀w',Ext wr w'->w'.cell? ⟨w.heap.size,2,none⟩=some dG:=λw' h=>(HB.out w' (grown_trans E h)).2.2;have HS:=Lib.hid (And.intro hb (And.intro (HV.out.2.1 i j) b));clear hb b u a' aF iI;have HE:=Lib.hid eb;clear eb;go_wp2
         go_region_held3 (λw'=>Ext wr w') (first|exact grown_drew _ _|exact Ext.refl _|assumption)
          (first
           | (go_at_call 201;refine Calls.mono (Calls.rel (w0:=wr) (by assumption) (l13Meet_ok P G _ _ _ _ (ez P i j) (gP P (gt (fc P n) j)) Any Any Any HS.out.2.1 (G.subB HS.out.1) ⟨_,_,_,rfl,Pres3.ext dy (grown_trans E (by assumption))⟩ (Rows2.ext hU (by assumption)) (Rows2.sub (Rows2.ext U (by assumption)) (λ_ _ _=>trivial)))) ?_;rintro e6 w6 ⟨v6,rfl,aA,hs6,J⟩))
         clear e1 e2 e3 e4;have ba:=grown_trans K aA;go_wp2;go_roundw
         case rel=>exact⟨j+1,_,rfl,by go_num,by omega,ba,by rw[HS.out.2.2];exact J⟩
         case measure=>simp[intOf];omega
       ·have bM:j=n:=by omega
        subst bM;have b:fS P (i+1)=fS P i++[cseq P (ez P i j)]:=by rw[u7,<-HN.out]
        have bN:=G.cseq_len (HV.out.2.1 i j)
        have A:jq wr vu (cseq P (ez P i j)):=⟨hU,λr hr=>by
         have h1:=(HV.out.2.1 i j).vec r ((G.seq_facts (HV.out.2.1 i j)).2.1 r hr);have h3:=List.length_pos_of_mem hr;have h4:=h1.1;omega⟩
        obtain⟨X,hX⟩:∃X,X=cseq P (ez P i j):=⟨_,rfl⟩;rw[<-hX] at b A C bN;have HR:=Lib.hid (And.intro b (wH A));clear b hU hX A;have R:=hO.lt;obtain⟨xl,bb⟩:∃xl,xl=X.length:=⟨_,rfl⟩;rw[<-bb] at C;clear bb;subst C;have l:Ext wr (wr.alloc (.cells #[.slice bI xl bJ] 25)):=World.grownBy_alloc _ _ _;have S:=(hO.ext kK K).ext kK l;have y:=grown_trans aa (grown_trans K l);obtain⟨gh,ch,bc⟩:=hO.shape;rw[aC] at bc;subst bc;have B:=Lib.hid (And.intro l (And.intro S y));clear l S y;go_wp2_with (first|(at_builtin;refine wk rfl (vQ kK 26 25 24 lu Tryz.lz (by decide) rfl _ _ rfl Z.heap.size _ (fS P i) [X] rfl B.out.2.1 _ Any HR.out.2 rfl (by simp;omega) B.out.2.2.size ?_);intro g7 b1 w7 ac bP cd))
        have aB:Ext Z w7:=grown_own B.out.2.2 bP (λq hq cf=>by have:=(R q hq).1;omega);rw[<-HR.out.1] at ac;rw[lI] at ac;go_roundw
        case rel=>exact⟨i+1,_,rfl,by go_num,by omega,aB,by first|exact ac|(rw[<-HR.out.1,lI];exact ac)⟩
        case measure=>simp[intOf];omega
     ·have bQ:i=n:=by omega
      subst bQ;have am:dP P=fS P i:=by rw[HV.out.1,<-HN.out]
      have z:=wu (hO.sl (by omega));obtain⟨ra,rc,bd,_,_⟩:=Sl.shape z;rw[aC] at bd;subst bd;have HF:=Lib.hid (And.intro am z);clear am hO aC z;go_wp2;go_ret2
      exact⟨_,rfl,grown_trans aL (grown_trans ar aa),_,_,_,by rw[show jH P=0 from HC.out.1.symm];rfl,by rw[HF.out.1];exact HF.out.2⟩
 ·have a8:(c != 0)=true:=by simpa using hz
  have HC:=Lib.hid hc;clear hc;go_wp2;go_ret2
  exact⟨_,rfl,aN,none,0,0,by rw[show jH P=c from HC.out.symm];rfl,by rw[rq (by rw[<-HC.out];exact hz)];exact Cm _⟩
theorem Cq (Q:Pr) (w:World) (p F:Value) (L:List (List Int)) (y k:Nat->Prop) (z:PresP y w p Q) (e:Rows2 k w F L) :
  Calls Tryz.prog 133 #[p,F] w (Ret w λ_ v=>∃r:Bool,v=.bool r/\(r=true↔rconsB Q=true/\∀x∈L,Vec Q.orders x)):=by
 obtain⟨pb,po,rfl⟩:=z.shape;obtain⟨P,capl,rfl,_,_⟩:=Sl.shape e;obtain⟨vo,vp,vc,_,_,hc0,hc1,hc2,h3⟩:=z.at;obtain⟨I,m,rfl,_,_⟩:=h3.o.shape;obtain⟨ap,capp,rfl,_,_⟩:=Sl.shape h3.p;obtain⟨J,capc,rfl,_,_⟩:=Sl.shape h3.c;have b:=isConsistent_ok Q w (.agg #[.slice I Q.orders.length m,.slice ap Q.powers.length capp,.slice J Q.conj.length capc]) y ⟨_,_,_,rfl,h3⟩;rw[icons_eq] at b;go_enter Tryz.func133,Tryz.ntmps133;go_wp2_with fail
 refine Calls.mono b ?_;rintro R S ⟨v,rfl,hg1,rfl⟩;clear b;cases hq:rconsB Q with
 | false=>
  have A:=Lib.hid hq;clear hq;go_wp2;go_ret;exact⟨_,rfl,hg1,false,rfl,by simp only[Bool.false_eq_true,false_iff];rintro⟨h,_⟩;rw[A.out] at h;cases h⟩
 | true =>
  have G:=grp_of_r hq;have K:=G.v.n6;have A:=Lib.hid hq;clear hq hc0 hc1 hc2;go_wp2;go_loopw [14] (λB wr=>∃j:Nat,B=.int .i64 j/\j<=L.length/\Ext w wr/\Hid (∀l,l<j->Vec Q.orders (gt L l))) (λB _=>L.length-(intOf B).toNat)
  case atStart=>exact⟨0,rfl,by omega,hg1,Lib.hid (λj h=>by omega)⟩
  case round=>
   obtain⟨j,rfl,hj,n,hV⟩:=hrel;by_cases q:j<L.length
   ·have H:(j:Int)<L.length:=by omega
    obtain⟨T,wJ,a3,Cr,rfl,_,_,hc3,C⟩:=Rows2.at (Rows2.ext e n) j q;have a:=isExponents_ok wr _ _ Q (gt L j) y k (z.ext n) C (λi M=>by have:=G.v.ord7 i M;omega);cases g:expB Q.orders (gt L j) with
    | true=>
     rw[g] at a;have D:=Lib.hid (expB_vec.1 g);clear g;go_wp2_with fail
     refine Calls.mono a ?_;rintro N O ⟨rfl,rfl⟩;clear a;go_wp2;go_roundw
     case rel=>exact⟨j+1,by go_num,by omega,n,Lib.hid (λl e=>by
      rcases Nat.lt_succ_iff_lt_or_eq.1 e with h|h
      ·exact hV.out l h
      ·rw[h];exact D.out)⟩
     case measure=>simp[intOf];omega
    | false=>
     rw[g] at a
     have u:¬ ∀x∈L,Vec Q.orders x:=λh=>by
      have:=expB_vec.2 (h _ (gtMem q));rw[g] at this;cases this
     have D:=Lib.hid u;clear g u;go_wp2_with fail
     refine Calls.mono a ?_;rintro N O ⟨rfl,rfl⟩;clear a;go_wp2;go_ret;exact⟨_,rfl,n,false,rfl,by simp only[Bool.false_eq_true,false_iff];rintro⟨_,h⟩;exact D.out h⟩
   ·have E:j=L.length:=by omega
    subst E;go_wp2;go_ret
    exact ⟨_,rfl,n,true,rfl,by
     simp only[true_iff];refine⟨A.out,λx hx => ?_⟩;obtain⟨l,e,rfl⟩:=List.getElem_of_mem hx;rw[<-gt_eq L l e];exact hV.out l e⟩
def jZ (P:Pr) (L:List (List Int)):Prop:=rconsB P=true/\∀x∈L,Vec P.orders x
open Classical in
noncomputable def kL (P:Pr) (L:List (List Int)):Int:=if jZ P L then (if 24<L.length then 3 else 0) else 1
open Classical in
noncomputable def kM (P:Pr) (L:List (List Int)):List (List Int):=if jZ P L/\¬ 24<L.length then cseq P (gU P L) else []
theorem Cs {P:Pr}{L:List (List Int)}(h:¬jZ P L):kL P L=1/\kM P L=[]:=by
 unfold kL kM;rw[if_neg h,if_neg (λa=>h a.1)];exact⟨rfl,rfl⟩
theorem Ct {P:Pr}{L:List (List Int)}(h:jZ P L) (a:24<L.length):kL P L=3/\kM P L=[]:=by
 unfold kL kM;rw[if_pos h,if_pos a,if_neg (λb=>b.2 a)];exact⟨rfl,rfl⟩
theorem wK {P:Pr}{L:List (List Int)}(h:jZ P L) (a:¬ 24<L.length):kL P L=0/\kM P L=cseq P (gU P L):=by
 unfold kL kM;rw[if_pos h,if_neg a,if_pos ⟨h,a⟩];exact⟨rfl,rfl⟩
theorem Cu (P:Pr) (w:World) (pv B:Value) (L:List (List Int)) (F q:Nat->Prop) (r:PresV F w pv P) (u:Rows2 q w B L) :
  Calls Tryz.prog 56 #[pv,B] w (Ret w λw' v=>∃a n c,v=.tuple #[.slice a n c,.int .i64 (kL P L)]/\RowsO w.heap.size w' (.slice a n c) (kM P L)):=by
 obtain⟨vo,vp,vc,rfl,h3⟩:=r;have l:=PresP.box h3 28;have i:Ext w (w.alloc (.cells #[vo,vp,vc] 28)):=World.grownBy_alloc _ _ _;have m:(w.alloc (.cells #[vo,vp,vc] 28)).heap.size=w.heap.size+1:=by simp
 have p:=Rows2.ext u i;obtain⟨Q,cl,rfl,_,_⟩:=Sl.shape u;have C:=Cq P _ _ _ L Any q l p;have H:=Lib.hid m;clear m u;go_enter Tryz.func56,Tryz.ntmps56;go_wp2_with fail
 generalize y:w.alloc (.cells #[vo,vp,vc] 28)=w0 at *;clear y;refine Calls.mono C ?_;rintro R I ⟨v1,rfl,b,r1,rfl,hr1⟩;clear C;cases r1 with
 | false=>
  have j:¬jZ P L:=λh=>by have:=hr1.2 h;cases this
  have k:=Lib.hid (Cs j);clear j hr1;go_wp2;go_ret2
  exact⟨_,rfl,grown_trans i b,none,0,0,by rw[k.out.1];rfl,by rw[k.out.2];exact SlO.nil _ _ _ _⟩
 | true=>
  have g:jZ P L:=hr1.1 rfl;clear hr1;by_cases D:24<L.length
  ·have k:=Lib.hid (Ct g D);clear g
   go_wp2;go_ret2
   exact⟨_,rfl,grown_trans i b,none,0,0,by rw[k.out.1];rfl,by rw[k.out.2];exact SlO.nil _ _ _ _⟩
  ·have k:=Lib.hid (wK g D)
   have G:=grp_of_r g.1;have E:=Lib.hid g.2;clear g;have J:L.length<=24:=by omega
   go_wp2_with fail
   refine Calls.mono (generated_ok P G I _ _ L Any q (l.ext b) (Rows2.ext p b) E.out (by omega)) ?_;rintro S T ⟨K,rfl,z,hO⟩;have A:(cseq P (gU P L)).length<=P.orders.length:=G.cseq_len (G.genP_sub E.out);have M:=G.v.n6;obtain⟨U,nc,cc,fM⟩:∃a n c,K=Value.slice a n c:=by obtain⟨a,c,e,_⟩:=Sl.shape (RowsD.rows (SlO.toD hO (by show(cseq P (gU P L)).length<=_;omega)));exact⟨_,_,_,e⟩
   subst fM;have N:=Lib.hid hO;clear hO A;have O:=b.size;go_wp2;go_ret2
   exact⟨_,rfl,grown_trans i (grown_trans b z),_,_,_,by rw[k.out.1];rfl,by rw[k.out.2];exact N.out.weak (by have:=H.out;omega)⟩
theorem Ints.jI {S:Nat->Prop}{w w':World}{v:Value}{xs:List Int}(h:Ints S w v xs) (a:Ext w w'):Ints Any w' v xs:=Ints.sub (Ints.ext h a) (λ_ _ _=>trivial)
theorem Rows2.jI {S:Nat->Prop}{w w':World}{v:Value}{xs:List (List Int)}(h:Rows2 S w v xs) (a:Ext w w'):Rows2 Any w' v xs:=Rows2.sub (Rows2.ext h a) (λ_ _ _=>trivial)
theorem wQ (v1 q:Value) (e g:List Int) (w:World) (z A:Nat->Prop) (h1:Ints z w v1 e) (r:Ints A w q g) :
  Calls Tryz.prog 26 #[v1,q] w (Ret w λ_ v=>v=.bool (eqB e g)):=by
 obtain⟨a,cap,rfl,_,_⟩:=h1.shape;obtain⟨a2,cap2,rfl,_,_⟩:=r.shape;by_cases l:e.length=g.length
 ·have B:((e.length:Int) != (g.length:Int))=false:=by simp[l]
  have C:e.length<=g.length/\g.length<=e.length:=by omega
  have n:=Lib.hid l;clear l;go_enter Tryz.func26,Tryz.ntmps26;go_wp2;go_loopw [5] (λi wr=>∃k:Nat,i=.int .i64 k/\k<=e.length/\Ext w wr/\∀i,i<k->gt e i=gt g i) (λi _=>e.length-(intOf i).toNat)
  case atStart=>exact⟨0,rfl,by omega,Ext.refl _,λi u=>by omega⟩
  case round=>
   obtain⟨k,rfl,hk,m,hz⟩:=hrel;have y:=Lib.hid hz;clear hz;by_cases p:k<e.length
   ·obtain ⟨b,off,rfl,_,_,hc⟩:=Ints.at (h1.ext m) k p
    obtain⟨b2,off2,rfl,_,_,hc2⟩:=Ints.at (r.ext m) k (by omega);by_cases hx:gt e k=gt g k
    ·have D:(gt e k != gt g k)=false:=by simp[hx]
     have j:=Lib.hid hx;clear hx;go_wp2;go_quiet (fail)
     go_wp2;go_roundw
     case rel=>exact⟨k+1,by go_num,by omega,grown_trans m (grown_drewN _ _ _),λi u=>by
      rcases Nat.lt_or_ge i k with h1|h1
      ·exact y.out i h1
      ·have:i=k:=by omega
       rw[this,j.out]⟩
     case measure=>simp[intOf];omega
    ·have D:(gt e k != gt g k)=true:=by simp[hx]
     have j:=Lib.hid hx;clear hx;go_wp2;go_quiet (fail)
     go_wp2;go_ret;exact ret_bool (grown_trans m (grown_drewN _ _ _)) (by rw[eqB_false_at (hx:=j.out)])
   ·go_wp2
    go_ret;exact ret_bool m (by rw[eqB_true.2 (ext_gt n.out (λi u=>y.out i (by omega)))])
 ·have B:((e.length:Int) != (g.length:Int))=true:=by simp;omega
  have n:=Lib.hid l;clear l;go_enter Tryz.func26,Tryz.ntmps26;go_wp2;go_ret;exact ret_bool (Ext.refl _) (by rw[eqB_false.2 (λh=>n.out (by rw[h]))])
theorem wW (v1 z:Value) (g j:List (List Int)) (w:World) (G H:Nat->Prop) (h1:Rows2 G w v1 g) (A:Rows2 H w z j) :
  Calls Tryz.prog 19 #[v1,z] w (Ret w λ_ v=>v=.bool (eqB g j)):=by
 obtain⟨a,cap,rfl,_,_⟩:=Sl.shape h1;obtain⟨a2,cap2,rfl,_,_⟩:=Sl.shape A;by_cases n:g.length=j.length
 ·have I:((g.length:Int) != (j.length:Int))=false:=by simp[n]
  have J:g.length<=j.length/\j.length<=g.length:=by omega
  have u:=Lib.hid n;clear n;go_enter Tryz.func19,Tryz.ntmps19;go_wp2;go_loopw [5] (λi wr=>∃k:Nat,i=.int .i64 k/\k<=g.length/\Ext w wr/\∀i,i<k->gt g i=gt j i) (λi _=>g.length-(intOf i).toNat)
  case atStart=>exact⟨0,rfl,by omega,Ext.refl _,λi B=>by omega⟩
  case round=>
   obtain⟨k,rfl,hk,p,hz⟩:=hrel;have C:=Lib.hid hz;clear hz;by_cases y:k<g.length
   ·obtain ⟨b,off,K,c1,rfl,_,_,hc,q⟩:=Rows2.at (Rows2.ext h1 p) k y
    obtain⟨b2,off2,L,c2,rfl,_,_,hc2,r⟩:=Rows2.at (Rows2.ext A p) k (by omega);have D:∀w',Ext wr w'->w'.cell? ⟨b,off+k,none⟩=some (.slice K (gt g k).length c1):=λw' h=>h.cell hc (by simp);have E:∀w',Ext wr w'->w'.cell? ⟨b2,off2+k,none⟩=some (.slice L (gt j k).length c2):=λw' h=>h.cell hc2 (by simp);clear hc hc2;have F:k<j.length:=by omega
    go_wp2;cases hx:eqB (gt g k) (gt j k) with
    | true=>
     have l:=Lib.hid hx
     go_region_held3 (λw'=>Ext wr w') (first|exact grown_drew _ _|assumption)
      (first
       | (go_at_call 26;refine Calls.mono (Calls.rel (w0:=wr) (by assumption) (wQ _ _ _ _ _ Any Any ((Ints.jI q (by assumption))) (Ints.jI r (by assumption)))) ?_;rintro M N ⟨O,rfl,m,eW,rfl⟩))
     clear D E;go_wp2;go_roundw
     case rel=>exact⟨k+1,by go_num,by omega,grown_trans p m,λi B=>by
      rcases Nat.lt_or_ge i k with h1|h1
      ·exact C.out i h1
      ·have:i=k:=by omega
       rw[this];exact eqB_true.1 l.out⟩
     case measure=>simp[intOf];omega
    | false=>
     have l:=Lib.hid hx
     go_region_held3 (λw'=>Ext wr w') (first|exact grown_drew _ _|assumption)
      (first
       | (go_at_call 26;refine Calls.mono (Calls.rel (w0:=wr) (by assumption) (wQ _ _ _ _ _ Any Any (Ints.jI q (by assumption)) (Ints.jI r (by assumption)))) ?_;rintro M N ⟨O,rfl,m,eW,rfl⟩))
     clear D E;go_wp2;go_ret;exact ret_bool (grown_trans p m) (by rw[eqB_false_at (hx:=eqB_false.1 l.out)])
   ·go_wp2
    go_ret;exact ret_bool p (by rw[eqB_true.2 (ext_gt u.out (λi B=>C.out i (by omega)))])
 ·have I:((g.length:Int) != (j.length:Int))=true:=by simp;omega
  have u:=Lib.hid n;clear n;go_enter Tryz.func19,Tryz.ntmps19;go_wp2;go_ret;exact ret_bool (Ext.refl _) (by rw[eqB_false.2 (λe=>u.out (by rw[e]))])
theorem Cv (v1 z:Value) (g j:List (List (List Int))) (w:World) (G H:Nat->Prop) (h1:Rows3 G w v1 g) (A:Rows3 H w z j) :
  Calls Tryz.prog 88 #[v1,z] w (Ret w λ_ v=>v=.bool (eqB g j)):=by
 obtain⟨a,cap,rfl,_,_⟩:=Sl.shape h1;obtain⟨a2,cap2,rfl,_,_⟩:=Sl.shape A;by_cases n:g.length=j.length
 ·have I:((g.length:Int) != (j.length:Int))=false:=by simp[n]
  have J:g.length<=j.length/\j.length<=g.length:=by omega
  have u:=Lib.hid n;clear n;go_enter Tryz.func88,Tryz.ntmps88;go_wp2;go_loopw [5] (λi wr=>∃k:Nat,i=.int .i64 k/\k<=g.length/\Ext w wr/\∀i,i<k->gt g i=gt j i) (λi _=>g.length-(intOf i).toNat)
  case atStart=>exact⟨0,rfl,by omega,Ext.refl _,λi B=>by omega⟩
  case round=>
   obtain⟨k,rfl,hk,p,hz⟩:=hrel;have C:=Lib.hid hz;clear hz;by_cases y:k<g.length
   ·obtain ⟨b,off,K,c1,rfl,_,_,hc,q⟩:=Rows3.at (Rows3.ext h1 p) k y
    obtain⟨b2,off2,L,c2,rfl,_,_,hc2,r⟩:=Rows3.at (Rows3.ext A p) k (by omega);have D:∀w',Ext wr w'->w'.cell? ⟨b,off+k,none⟩=some (.slice K (gt g k).length c1):=λw' h=>h.cell hc (by simp);have E:∀w',Ext wr w'->w'.cell? ⟨b2,off2+k,none⟩=some (.slice L (gt j k).length c2):=λw' h=>h.cell hc2 (by simp);clear hc hc2;have F:k<j.length:=by omega
    go_wp2;cases hx:eqB (gt g k) (gt j k) with
    | true=>
     have l:=Lib.hid hx
     go_region_held3 (λw'=>Ext wr w') (first|exact grown_drew _ _|assumption)
      (first
       | (go_at_call 19;refine Calls.mono (Calls.rel (w0:=wr) (by assumption) (wW _ _ _ _ _ Any Any ((Rows2.jI q (by assumption))) (Rows2.jI r (by assumption)))) ?_;rintro M N ⟨O,rfl,m,eW,rfl⟩))
     clear D E;go_wp2;go_roundw
     case rel=>exact⟨k+1,by go_num,by omega,grown_trans p m,λi B=>by
      rcases Nat.lt_or_ge i k with h1|h1
      ·exact C.out i h1
      ·have:i=k:=by omega
       rw[this];exact eqB_true.1 l.out⟩
     case measure=>simp[intOf];omega
    | false=>
     have l:=Lib.hid hx
     go_region_held3 (λw'=>Ext wr w') (first|exact grown_drew _ _|assumption)
      (first
       | (go_at_call 19;refine Calls.mono (Calls.rel (w0:=wr) (by assumption) (wW _ _ _ _ _ Any Any (Rows2.jI q (by assumption)) (Rows2.jI r (by assumption)))) ?_;rintro M N ⟨O,rfl,m,eW,rfl⟩))
     clear D E;go_wp2;go_ret;exact ret_bool (grown_trans p m) (by rw[eqB_false_at (hx:=eqB_false.1 l.out)])
   ·go_wp2
    go_ret;exact ret_bool p (by rw[eqB_true.2 (ext_gt u.out (λi B=>C.out i (by omega)))])
 ·have I:((g.length:Int) != (j.length:Int))=true:=by simp;omega
  have u:=Lib.hid n;clear n;go_enter Tryz.func88,Tryz.ntmps88;go_wp2;go_ret;exact ret_bool (Ext.refl _) (by rw[eqB_false.2 (λe=>u.out (by rw[e]))])
def gB (B:Nat) (w:World) (a:Nat):Prop:=∃(cv:Value) (i:Nat) (h:Int) (b:List Int),Box3 w a cv (.int .i64 i) (.int .u64 h)/\Bytes (λk=>k≠a/\k<B) w cv b/\i<=b.length/\b.length<=4096/\a<B/\0<=h/\h<18446744073709551616
theorem gB.keep {B:Nat}{w w':World}{b:Nat}(h:gB B w b) (e:w.heap.size<=w'.heap.size) (g:∀k,k<B->k<w.heap.size->w'.heap[k]? = w.heap[k]?):gB B w' b:=by
 obtain⟨cv,i,x,bs,h1,h2,h3,h4,j,h6⟩:=h;exact⟨cv,i,x,bs,h1.keep e (g b j h1.1),Sl.mono h2 (λk hk a=>⟨hk,Nat.lt_of_lt_of_le a e,g k hk.2 a⟩) (λ_ _ h=>h),h3,h4,j,h6⟩
theorem gB.ext {B:Nat}{w w':World}{b:Nat}(h:gB B w b) (e:Ext w w'):gB B w' b:=h.keep e.size (λk _ a=>e.block k a (by simp))
theorem gB.own {B:Nat}{w w':World}{b:Nat}{r:Option Nat}(h:gB B w b) (g:w.grownBy w' r) (i:∀k,r=some k->B<=k):gB B w' b:=
 h.keep g.size (λk hk a=>g.block k a (λe=>by have:=i k e.symm;omega))
theorem gB.lt {B:Nat}{w:World}{a:Nat}(h:gB B w a):a<B/\a<w.heap.size:=by
 obtain⟨cv,i,x,bs,h1,h2,h3,h4,h5,h6⟩:=h;exact⟨h5,h1.1⟩
theorem rJ (z:Int):0<=IntKind.u64.wrap z/\IntKind.u64.wrap z<18446744073709551616:=by
 have h:IntKind.u64.wrap z=z%18446744073709551616:=by simp[IntKind.wrap,IntKind.signed,IntKind.bits]
 rw[h];exact⟨Int.emod_nonneg _ (by decide),Int.emod_lt_of_pos _ (by decide)⟩
theorem Cw (w:World) (cv:Value) (e:List Int) (S:Nat->Prop) (g:Int) (M:e.length<=4096) (B:Bytes S w cv e) :
  Calls Tryz.prog 51 #[cv,.int .u64 g] w (Ret w λw' v=>∃L,v=.pointer (some ⟨L,0,none⟩)/\w.heap.size<=L/\gB (L+1) w' L):=by
 obtain⟨a,cap,rfl,_,hlen⟩:=Sl.shape B;obtain⟨A,n⟩:∃A,A=IntKind.u64.wrap (IntKind.u64.wrap (g*7607)+(e.length:Nat)):=⟨_,rfl⟩;have r:=rJ (IntKind.u64.wrap (g*7607)+(e.length:Nat));rw[<-n] at r;have C:=Box3.made w 138 (.slice a e.length cap) (.int .i64 0) (.int .u64 A);have D:Ext w (w.alloc (.cells #[.slice a e.length cap,.int .i64 0,.int .u64 A] 138)):=World.grownBy_alloc _ _ _;go_enter Tryz.func51,Tryz.ntmps51;go_wp2_with fail
 rw[<-n];have V:=Lib.hid n;clear n;generalize w.alloc (.cells #[.slice a e.length cap,.int .i64 0,.int .u64 A] 138)=w0 at *;go_loopw [6] (λN wr=>∃(i:Nat) (h:Int),N=.int .i64 i/\i<=e.length/\(0<=h/\h<18446744073709551616)/\Ext w wr/\Box3 wr w.heap.size (.slice a e.length cap) (.int .i64 0) (.int .u64 h)) (λN _=>e.length-(intOf N).toNat)
 case atStart=>exact⟨0,A,rfl,by omega,r,D,C⟩
 case round=>
  clear C D r;obtain⟨i,h,rfl,hi,Cx,E,hB⟩:=hrel;by_cases l:i<e.length
  ·obtain ⟨b,off,rfl,th,Cy,u,O,P⟩:=Bytes.at B i l
   have y:=E.cell u (by simp);generalize gt e i=x at u y O P;have Q:(i:Int)<(e.length:Nat):=by omega
   obtain⟨p,z⟩:∃p,p=IntKind.u64.wrap (IntKind.u64.wrap (IntKind.u64.wrap (h*1099511628211)+x)+5):=⟨_,rfl⟩;have m:=rJ (IntKind.u64.wrap (IntKind.u64.wrap (h*1099511628211)+x)+5);rw[<-z] at m;have F:=(hB.put (.int .u64 p)).2.2;have G:=grown_set wr w.heap.size 2 (.int .u64 p);have H:Ext w (wr.setCell ⟨w.heap.size,2,none⟩ (.int .u64 p)):=grown_own E G (λj T l=>by have:=Option.some.inj T;omega);have I:=F.ext (grown_drew (wr.setCell ⟨w.heap.size,2,none⟩ (.int .u64 p)) none);have J:=grown_trans H (grown_drew (wr.setCell ⟨w.heap.size,2,none⟩ (.int .u64 p)) none);have U:IntKind.u64.wrap x=x:=IntWalk.u64_in _ (by omega);obtain⟨K,h1,h2,h3,h4⟩:=id hB;have c0:wr.drew.cell? ⟨w.heap.size,2,none⟩=some (.int .u64 h):=h3;have c1:wr.drew.cell? ⟨b,off+i,none⟩=some (.int .u8 x):=y;have c2:w.heap.size<wr.drew.heap.size:=K;have c3:=h4;have R:=z.symm;have q:=Lib.hid (And.intro J (And.intro I (And.intro m B)));clear J I z m B H G F hB E K h1 h2 h3 u y;go_wp2;go_still_tail 15,(by kernel_rfl)
   change wpList _ _ _ _ _ wr.drew;go_wp2;go_roundw
   case rel=>exact⟨i+1,p,by go_num,by omega,q.out.2.2.1,q.out.1,q.out.2.1⟩
   case measure=>simp[intOf];omega
  ·have Q:¬(i:Int)<(e.length:Nat):=by omega
   have q:=Lib.hid (And.intro E hB);clear E hB;go_wp2;go_ret;exact⟨_,rfl,q.out.1,w.heap.size,rfl,Nat.le_refl _,_,0,h,e,q.out.2,Bytes.mono B (λk _ l=>⟨⟨by omega,by omega⟩,Nat.lt_of_lt_of_le l q.out.1.size,q.out.1.block k l (by simp)⟩),by omega,M,by omega,Cx⟩
theorem Cz (h:Int) (b:0<=h) (h1:h<18446744073709551616):∃x:Int,0<=x/\x<16777216/\bits .and .u64 (h/8589934592) 16777215=x:=by
 obtain⟨n,rfl⟩:∃n:Nat,h=n:=⟨h.toNat,by omega⟩;have a:n/8589934592<2 ^ 64:=by omega
 have e:=u64_and_nat (n/8589934592) 16777215 a (by decide);refine⟨((n/8589934592 &&& 16777215:Nat):Int),by omega,?_,?_⟩
 ·have:=Nat.and_lt_two_pow (n:=24) (n/8589934592) (y:=16777215) (by decide)
  have g:(2:Nat) ^ 24=16777216:=by decide
  omega
 ·rw[<-e];rfl
theorem CA (B:Nat) (w:World) (i:Nat) (n:Int) (W:gB B w i) (hn:1<=n) (X:n<=1000000000) :
  Calls Tryz.prog 52 #[.pointer (some ⟨i,0,none⟩),.int .i64 n] w (Mut w (some i) λw' v=>∃x:Int,v=.int .i64 x/\0<=x/\x<n/\gB B w' i):=by
 obtain⟨cv,pos,h,z,hB,hby,hpos,hbl,wX,hh0,Eo⟩:=W;obtain⟨a,cap,rfl,_,hlen⟩:=hby.shape;obtain⟨A,D⟩:∃A,A=IntKind.u64.wrap (IntKind.u64.wrap (h*6364136223846793005)+1442695040888963407):=⟨_,rfl⟩;have j:=rJ (IntKind.u64.wrap (h*6364136223846793005)+1442695040888963407);rw[<-D] at j;obtain⟨y,hy0,hy1,hand⟩:=Cz A j.1 j.2;have p:=(hB.put (.int .u64 A)).2.2;obtain⟨H,h1,h2,h3,h4⟩:=id hB;have I:=D.symm;clear D;go_enter Tryz.func52,Tryz.ntmps52;have q:w.grownBy (w.setCell ⟨i,2,none⟩ (.int .u64 A)) (some i):=grown_set _ _ _ _;have l:Bytes (λk=>k≠i/\k<B) (w.setCell ⟨i,2,none⟩ (.int .u64 A)) (.slice a z.length cap) z:=Bytes.mono hby (frame_of q (λk hk _=>⟨hk,λe=>hk.1 (by cases e;rfl)⟩));have J:=Lib.hid (And.intro p (And.intro q l));clear p hB hby q l;go_wp2;clear H h1 h2 h3 h4 I hand;obtain⟨p,q,l⟩:=J.out;clear J;generalize w.setCell ⟨i,2,none⟩ (.int .u64 A)=G at *;obtain⟨H,h1,h2,h3,h4⟩:=id p;have g:=Lib.hid (And.intro p (And.intro q l));clear p q l;by_cases Y:pos<z.length
 ·obtain ⟨b,off,rfl,⟨rK,jP⟩,Cy,E,P,Q⟩:=Bytes.at g.out.2.2 pos Y
  obtain⟨x,hx⟩:∃x,x=gt z pos:=⟨_,rfl⟩;rw[<-hx] at E P Q;have HX:=Lib.hid hx;clear hx;have R:(pos:Int)<z.length:=by omega
  have Z:(0:Int)<=pos:=by omega
  have S:IntKind.i64.wrap (y+x)=y+x:=IntWalk.i64_in _ (by omega);go_quiet (fail)
  go_wp2;have m:Ext G (G.drewN nq):=grown_drewN _ _ _;have K:=m.cell E (by simp);have L:i<(G.drewN nq).heap.size:=Nat.lt_of_lt_of_le H m.size;have r:=And.intro (g.out.1.ext m) (And.intro (grown_trans g.out.2.1 (grown_of_ext (some i) m)) (Bytes.ext g.out.2.2 m));have g:=Lib.hid r;clear r m E H h1 h2 h3 h4;obtain⟨h1,h2,h3,h4⟩:=g.out.1.2;generalize G.drewN nq=O at *;go_quiet (fail)
  have m:Ext O (O.drewN nq):=grown_drewN _ _ _;have H:i<(O.drewN nq).heap.size:=Nat.lt_of_lt_of_le L m.size;have r:=And.intro (g.out.1.ext m) (And.intro (grown_trans g.out.2.1 (grown_of_ext (some i) m)) (Bytes.ext g.out.2.2 m));have g:=Lib.hid r;clear r m K L h1 h2 h3 h4;obtain⟨h1,h2,h3,h4⟩:=g.out.1.2;generalize O.drewN nq=T at *;have M:=(g.out.1.put (.int .i64 ((pos:Int)+1))).2.1;have F:T.grownBy (T.setCell ⟨i,1,none⟩ (.int .i64 ((pos:Int)+1))) (some i):=grown_set _ _ _ _;have C:Bytes (λk=>k≠i/\k<B) (T.setCell ⟨i,1,none⟩ (.int .i64 ((pos:Int)+1))) (.slice (some ⟨b,off,none⟩) z.length cap) z:=Bytes.mono g.out.2.2 (frame_of F (λk hk _=>⟨hk,λe=>hk.1 (by cases e;rfl)⟩));have N:0<=(y+x)%n/\(y+x)%n<n:=⟨Int.emod_nonneg _ (by omega),Int.emod_lt_of_pos _ (by omega)⟩;have u:=Lib.hid (And.intro M (And.intro (grown_trans g.out.2.1 F) (And.intro C N)));clear M F C g S N;have aa:IntKind.i64.wrap ((pos:Int)+1)=(pos:Int)+1:=IntWalk.i64_in _ (by omega);have U:n≠0:=by omega
  go_wp2;go_ret;exact⟨_,rfl,u.out.2.1,_,rfl,u.out.2.2.2.1,u.out.2.2.2.2,_,pos+1,A,z,u.out.1,u.out.2.2.1,by omega,hbl,wX,j⟩
 ·have R:¬(pos:Int)<z.length:=by omega
  have U:n≠0:=by omega
  go_quiet (fail)
  have m:Ext G (G.drewN nq):=grown_drewN _ _ _;have N:0<=y%n/\y%n<n:=⟨Int.emod_nonneg _ (by omega),Int.emod_lt_of_pos _ (by omega)⟩;have V:=Lib.hid N;clear N;go_wp2;go_ret;exact⟨_,rfl,grown_trans g.out.2.1 (grown_of_ext _ m),_,rfl,V.out.1,V.out.2,_,pos,A,z,g.out.1.ext m,Bytes.ext g.out.2.2 m,hpos,hbl,wX,j⟩
theorem PresV.off {S:Nat->Prop}{w w':World}{v:Value}{P:Pr}{b:Nat}(h:PresV S w v P) (e:Ext w w') (g:w.heap.size<=b):PresV (λk=>k≠b) w' v P:=by
 obtain⟨vo,vp,vc,rfl,h3⟩:=h;exact⟨_,_,_,rfl,h3.mono (λk _ a=>⟨by omega,Nat.lt_of_lt_of_le a e.size,e.block k a (by simp)⟩)⟩
theorem CB (P:Pr) (hP:Valid P) (B:Nat) (w:World) (a:Nat) (pv:Value) (ar:B<=w.heap.size) (U:gB B w a) (V:PresV (λk=>k≠a) w pv P) :
  Calls Tryz.prog 72 #[.pointer (some ⟨a,0,none⟩),pv] w (Mut w (some a) λw' v=>∃X,Own w.heap.size w' v X/\Vec P.orders X/\gB B w' a):=by
 have au:=hP.n6;have av:=U.lt.2;obtain⟨vo,vp,vc,rfl,h3⟩:=V;obtain⟨O,co,ig,_,_⟩:=h3.o.shape;obtain⟨ap,Q,hvp,_,_⟩:=Sl.shape h3.p;obtain⟨R,S,fM,_,_⟩:=Sl.shape h3.c;subst ig hvp fM;have C:=Box3.made w 28 (.slice O P.orders.length co) (.slice ap P.powers.length Q) (.slice R P.conj.length S);have q:Ext w (w.alloc (.cells #[.slice O P.orders.length co,.slice ap P.powers.length Q,.slice R P.conj.length S] 28)):=World.grownBy_alloc _ _ _;have W:=h3.o.ext q;have D:=U.ext q;have b:(w.alloc (.cells #[.slice O P.orders.length co,.slice ap P.powers.length Q,.slice R P.conj.length S] 28)).heap.size=w.heap.size+1:=by simp
 have Y:=Lib.hid (And.intro b D);clear b D U h3;go_enter Tryz.func72,Tryz.ntmps72;go_wp2_with fail
 generalize w.alloc (.cells #[.slice O P.orders.length co,.slice ap P.powers.length Q,.slice R P.conj.length S] 28)=w0 at *;have b:w0.heap.size=w.heap.size+1:=Y.out.1;have r:=World.grownBy_alloc w0 (.cells #[] 2) none;have g:Own w0.heap.size (w0.alloc (.cells #[] 2)) (.slice (some ⟨w0.heap.size,0,none⟩) 0 0) []:=World.ownsRow_lit w0 #[] 0 (Nat.le_refl _) (by decide) rfl;have HS:=Lib.hid (Y.out.2.ext r);have E:=grown_of_ext (some a) r;clear r;have HW:=Lib.hid b;rw[b] at g;have aw:w.heap.size+1<=w0.heap.size:=by omega
 clear b Y;generalize w0.alloc (.cells #[] 2)=w1 at *;rw[<-HW.out] at g;rw[<-HW.out];go_loopw [5,6] (λov Z wr=>∃(i:Nat) (l:List Int) (v4:Value),v4=ov/\Z=.int .i64 i/\i<=P.orders.length/\Hid (l.length=i/\∀j,j<i->0<=gt l j/\gt l j<gt P.orders j)/\w0.grownBy wr (some a)/\Own w0.heap.size wr v4 l/\Hid (gB B wr a)) (λ_ Z _=>P.orders.length-(intOf Z).toNat)
 case atStart=>exact⟨0,[],_,rfl,rfl,by omega,Lib.hid ⟨rfl,λj m=>by omega⟩,E,g,HS⟩
 case round=>
  clear E g HS;obtain⟨i,l,v4,rfl,rfl,hi,j0,F,hO,G⟩:=hrel;have aa:=C.keep F.size (F.block _ C.1 (λe=>by have:=Option.some.inj e;omega));obtain⟨b0,b1,b2,b3,b4⟩:=id aa;have H:∀j,v4.ownBlock=some j->w0.heap.size<=j:=λj m=>(hO.lt j m).1;have HO:=Lib.hid H;clear H;by_cases u:i<P.orders.length
  ·have I:(i:Int)<P.orders.length:=by omega
   obtain⟨bo,oo,rfl,CC,_,z⟩:=Ints.at W i u;have hc:=F.cell z (by simp;exact CC);have ad:=hP.ord7 i u;obtain⟨x,hx⟩:∃x,x=gt P.orders i:=⟨_,rfl⟩;rw[<-hx] at hc z ad;have HX:=Lib.hid hx;clear hx z;have ae:max 1 x=x:=by omega
   go_wp2_with fail
   refine Calls.mono (CA B wr a x G.out (by omega) (by omega)) ?_;rintro e3 w3 ⟨v3,rfl,hg3,y,rfl,hy0,hy1,J⟩;have n:=grown_trans F hg3;have af:Own w0.heap.size w3 _ l:=hO.kept hg3 (.inr (λe=>by have:=HO.out a e;omega));have A:l.length<=1000000:=by have:=j0.out.1;omega
   have K:=Lib.hid (And.intro J A);clear J hc A hO ae;go_wp2_with (first|(at_builtin;refine wp_app_int rfl _ _ rfl w0.heap.size v4 l y rfl w3 af rfl rfl K.out.2 n.size ?_;intro v5 w5 ag L)|fail)
   have ah:=K.out.1.own L (λj m=>by have:=HO.out j m;omega);have M:w0.grownBy w5 (some a):=grown_own n L (λj m u=>by have:=HO.out j m;omega);have A:(l++[y]).length=l.length+1:=by simp
   go_roundw
   case rel=>exact⟨i+1,l++[y],v5,rfl,by go_num,by omega,Lib.hid ⟨by have:=j0.out.1;omega,λj m=>by
    have hl:=j0.out.1;rcases Nat.lt_succ_iff_lt_or_eq.1 m with T|T
    ·have e:gt (l++[y]) j=gt l j:=gt_append_left _ _ _ (by omega)
     rw[e];exact j0.out.2 j T
    ·have e:gt (l++[y]) j=y:=by rw[T,<-hl];exact gt_concat _ _
     rw[e,T,<-HX.out];exact⟨hy0,hy1⟩⟩,M,ag,Lib.hid ah⟩
   case measure=>simp[intOf];omega
  ·have I:¬((i:Int)<P.orders.length):=by omega
   have ai:i=P.orders.length:=by omega
   subst ai;obtain⟨al,cl,rfl,_⟩:=(hO.ints (by have:=j0.out.1;omega)).shape;have N:w.grownBy wr (some a):=grown_trans (grown_of_ext (some a) q) F;have HF:=Lib.hid (And.intro N hO);clear N hO;go_wp2;go_ret;exact⟨_,rfl,HF.out.1,l,HF.out.2.weak (by omega),⟨j0.out.1,λj m=>j0.out.2 j (by have:=j0.out.1;omega)⟩,G.out⟩
theorem Grp.CD {P:Pr}(G:Grp P) {U:List (List Int)}{X:List Int}(b:∀x∈U,Vec P.orders x) (e:Vec P.orders X):∀z∈conjL P U X,Vec P.orders z:=λz a=>by
 unfold conjL at a;obtain⟨y,hy,rfl⟩:=List.mem_map.1 a;exact G.conjV (b y hy) e
theorem RowsO.xd {B:Nat}{w:World}{v:Value}{L:List (List Int)}(h:RowsO B w v L) (b:L.length<=1000000):∃a c,v=.slice a L.length c:=by
 obtain⟨a,c,hv,_,_⟩:=SlD.shape (h.toD (by omega));exact⟨a,c,hv⟩
theorem Ep (P:Pr) (p:rconsB P=true) (w:World) (pv D:Value) (U:List (List Int)) (I E:Nat->Prop) (q:PresV I w pv P) (j:Rows2 E w D U) (r:SubB P U) :
  Calls Tryz.prog 43 #[pv,D] w (Ret w λ_ v=>v=.tuple #[.int .i64 (prodU P U U.length),.int .i64 0]):=by
 have G:=grp_of_r p;have J:=G.v.n6;obtain⟨vo,vp,vc,rfl,h3⟩:=q;have k:=PresP.box h3 28;have l:Ext w (w.alloc (.cells #[vo,vp,vc] 28)):=World.grownBy_alloc _ _ _;have g:(w.alloc (.cells #[vo,vp,vc] 28)).heap.size=w.heap.size+1:=by simp
 have m:=Rows2.ext j l;obtain⟨K,n,rfl,_,_⟩:=Sl.shape j;have i:Ext (w.alloc (.cells #[vo,vp,vc] 28)) ((w.alloc (.cells #[vo,vp,vc] 28)).alloc (.cells #[.slice K U.length n] 25)):=World.grownBy_alloc _ _ _;have F:=rows3One m;have a:=areSubgroups_ok P _ _ _ [U] Any Any (k.ext i) F;rw[g] at a;clear F j;have H:U.length<=P.orders.length:=G.sub_len r;have y:=Lib.hid (And.intro p (And.intro r ((trivial:True))));clear p r;go_enter Tryz.func43,Tryz.ntmps43;go_wp2_with fail
 refine Calls.mono a ?_;rintro N L ⟨v1,rfl,dR,r1,rfl,hr1⟩;clear a;obtain rfl:r1=true:=hr1.2 (by have:=y.out;simp only[List.mem_cons,List.mem_nil_iff,or_false];exact⟨this.1,λu j=>by subst j;exact this.2.1⟩);clear hr1;have b:=grown_trans i dR;have O:=Lib.hid g;clear g;generalize z:(w.alloc (.cells #[vo,vp,vc] 28))=w0 at *;clear z i dR;have A:=k.ext b;have B:=Rows2.ext m b;have e:=G.seq_facts (G.subB y.out.2.1);rw[<-y.out.2.1.2] at e;have M:=Lib.hid e;clear e;go_wp2_with fail
 refine Calls.mono (sizeOf_ok P G.v L _ _ U Any E A B M.out.1 (by omega)) ?_;rintro Q R ⟨S,rfl,C,rfl⟩;go_wp2;go_ret2
 exact⟨_,rfl,grown_trans l (grown_trans b C),rfl⟩
theorem CE (P:Pr) (B:rconsB P=true) (w:World) (pv K L:Value) (U:List (List Int)) (X:List Int) (S M C:Nat->Prop) (D:PresV S w pv P) (p:Rows2 M w K U) (hx:Ints C w L X) (E:SubB P U) (N:Vec P.orders X) :
  Calls Tryz.prog 35 #[pv,K,L] w (Ret w λw' v=>∃a n c,v=.tuple #[.slice a n c,.int .i64 0]/\RowsO w.heap.size w' (.slice a n c) (cseq P (gU P (conjL P U X)))):=by
 have G:=grp_of_r B;have T:=G.v.n6;obtain⟨vo,vp,vc,rfl,h3⟩:=D;have q:=PresP.box h3 28;have g:Ext w (w.alloc (.cells #[vo,vp,vc] 28)):=World.grownBy_alloc _ _ _;have j:(w.alloc (.cells #[vo,vp,vc] 28)).heap.size=w.heap.size+1:=by simp
 have r:=Rows2.ext p g;have F:=Ints.ext hx g;obtain⟨V,y,rfl,_,_⟩:=Sl.shape p;obtain⟨Z,capx,rfl,_,_⟩:=hx.shape;have k:Ext (w.alloc (.cells #[vo,vp,vc] 28)) ((w.alloc (.cells #[vo,vp,vc] 28)).alloc (.cells #[.slice V U.length y] 25)):=World.grownBy_alloc _ _ _;have O:=rows3One r;have e:=areSubgroups_ok P _ _ _ [U] Any Any (q.ext k) O;rw[j] at e;clear O p hx;have Q:U.length<=P.orders.length:=G.sub_len E;have m:=Lib.hid (And.intro B (And.intro E ( And.intro N ((trivial:True)))));clear B E N;go_enter Tryz.func35,Tryz.ntmps35;go_wp2_with fail
 refine Calls.mono e ?_;rintro e1 R ⟨v1,rfl,dR,r1,rfl,hr1⟩;clear e;obtain rfl:r1=true:=hr1.2 (by have:=m.out;simp only[List.mem_cons,List.mem_nil_iff,or_false];exact⟨this.1,λu p=>by subst p;exact this.2.1⟩);clear hr1;have b:=grown_trans k dR;have HS:=Lib.hid j;clear j;generalize H:(w.alloc (.cells #[vo,vp,vc] 28))=w0 at *;clear H k dR;have z:=q.ext b;have I:=Rows2.ext r b;have A:=Ints.ext F b;have l:=isExponents_ok R _ _ P X Any C z A (λi W=>by have:=G.v.ord7 i W;omega);rw[expB_vec.2 m.out.2.2.1] at l;go_wp2_with fail
 refine Calls.mono l ?_;rintro _ _ ⟨rfl,rfl⟩;clear l;go_wp2_with fail
 refine Calls.mono (conjugateSubgroup_ok P G R _ _ _ U X Any M C z I m.out.2.1.1 (by omega) A m.out.2.2.1) ?_;rintro e4 w4 ⟨v4,rfl,J,jV⟩;have Y:(cseq P (gU P (conjL P U X))).length<=P.orders.length:=G.cseq_len (G.genP_sub (G.CD m.out.2.1.1 m.out.2.2.1))
 obtain ⟨ad,nd,Er,CF⟩:∃a n c,v4=.slice a n c:=by
  obtain⟨a,c,h⟩:=RowsO.xd jV (by show(cseq P (gU P (conjL P U X))).length<=_;omega);exact⟨a,_,c,h⟩
 subst CF;go_wp2;go_ret2
 exact⟨_,rfl,grown_trans g (grown_trans b J),_,_,_,rfl,jV.weak (by have:=b.size;have:=g.size;omega)⟩
end Go.Proofs.YtdcobapnlpeaaaaGreat
namespace Go.Proofs.YtdcobapnlpeaaaaGreat
open Go.RowKit
attribute [local go_sem ↓] Go.wp_at_zero Go.wp_at_succ
theorem CG:Tryz.prog.underlying 26=some (.slice 25):=by kernel_rfl
theorem Tryz.CH:(Tryz.prog.info? 25).map (λi=>(i.zero,i.size,i.bytes))=some (some (.slice none 0 0),1,24):=by kernel_rfl
theorem SlOA.jW {α:Type} [Inhabited α] (El:(Nat->Prop)->World->Value->α->Prop) (E B H:Nat) (A:Nat->Prop) (w:World) (hB:B<=w.heap.size) (hH:w.heap.size=H) (a:∀k,A k->k≠H):SlOA El E B A (w.alloc (.cells #[] E)) (.slice (some ⟨H,0,none⟩) 0 0) ([]:List α):=by
 subst hH;exact⟨[],λ_ _=>False,rfl,World.ownsRow_lit w #[] 0 hB (by decide) rfl,by simp,by simp,by simp,by simp,λk hk ha=>a k ha (own_blk hk)⟩
theorem xe (L:List (List (List Int))) (i:Nat) (a:i<L.length):(L.take (i+1)).flatten=(L.take i).flatten++gt L i:=by
 rw[take_succ_gt L i a,List.flatten_append];simp
theorem xg (L:List (List (List Int))) (h:∀u∈L,u.length<=6) (i:Nat) (b:i<=L.length):(L.take i).flatten.length<=6*i:=by
 induction i with
 | zero=>simp
 | succ i a=>
  rw[xe L i (by omega),List.length_append];have:=a (by omega);have:=h _ (gtMem (show i<L.length by omega));omega
theorem CI (w:World) (cv:Value) (bs:List Int) (S:Nat->Prop) (hb:Bytes S w cv bs) :
  Calls Tryz.prog 14 #[cv] w (Ret w λ_ v=>v=.bool true):=by
 obtain⟨ca,cc,rfl,_,_⟩:=Sl.shape hb;go_enter Tryz.func14,Tryz.ntmps14;go_wp2_with fail
 refine Calls.mono (y9 w _ bs S hb) ?_;rintro _ _ ⟨rfl,rfl⟩;by_cases au:4096<bs.length
 ·have hd:decide (4096<bs.length)=true:=by simp[au]
  rw[hd];go_wp2;go_ret;exact⟨_,rfl,grown_refl _ _,rfl⟩
 have bK:bs.length<=4096:=by omega
 have hd:decide (4096<bs.length)=false:=by simp[au]
 rw[hd];clear hd au;go_wp2_with fail
 refine Calls.mono (Aj w _ bs S hb) ?_;rintro e1 w1 ⟨v1,rfl,hg1,vo,vp,vc,P,rfl,Es,hP⟩;obtain⟨a1,n1,c1,hy1⟩:∃a n c,vo=.slice a n c:=by obtain⟨a,c,e,_⟩:=hP.o.shape;exact⟨_,_,_,e⟩
 obtain⟨a2,n2,c2,hy2⟩:∃a n c,vp=.slice a n c:=by obtain⟨a,c,e,_⟩:=Sl.shape hP.p;exact⟨_,_,_,e⟩
 obtain⟨a3,n3,c3,iF⟩:∃a n c,vc=.slice a n c:=by obtain⟨a,c,e,_⟩:=Sl.shape hP.c;exact⟨_,_,_,e⟩
 subst hy1 hy2 iF;have aw:Ext w1 (w1.alloc (.cells #[.slice a1 n1 c1,.slice a2 n2 c2,.slice a3 n3 c3] 28)):=World.grownBy_alloc _ _ _;have hX:=Box3.made w1 28 (.slice a1 n1 c1) (.slice a2 n2 c2) (.slice a3 n3 c3);have a4:=hP.ext aw;have l:=grown_trans hg1 aw;have a5:=Bytes.ext hb l;have ac:=Lib.hid (And.intro a4 (And.intro l a5));clear a4  l a5 aw hP  hg1 hb;obtain⟨pb,ax⟩:∃pb,pb=w1.heap.size:=⟨_,rfl⟩;rw[<-ax] at hX;have HP:=Lib.hid ax;clear ax;go_wp2_with fail
 rw[<-HP.out];generalize w1.alloc (.cells #[.slice a1 n1 c1,.slice a2 n2 c2,.slice a3 n3 c3] 28)=w2 at *;clear HP
 have al:∀w',Ext w2 w'->Box3 w' pb (.slice a1 n1 c1) (.slice a2 n2 c2) (.slice a3 n3 c3)/\PresV (From w.heap.size) w' (.agg #[.slice a1 n1 c1,.slice a2 n2 c2,.slice a3 n3 c3]) P/\Bytes S w' (.slice ca bs.length cc) bs:=
  λw' h=>⟨hX.ext h,⟨_,_,_,rfl,ac.out.1.ext h⟩,Bytes.ext ac.out.2.2 h⟩
 have D:=Lib.hid al;clear al hX;have l:=grown_refl w2 none;have bM:=BB P;obtain⟨A,iQ,iR,iT,_⟩:=id (D.out w2 l).1;go_wp2_with fail
 clear A iQ iR iT;refine Calls.mono (Cb P w2 _ _ (D.out w2 l).2.1) ?_;rintro e3 w3 ⟨v3,rfl,q,za,zn,zc,rfl,a7⟩;replace l:=grown_trans l q
 have a8:Rows3 Any w3 (.slice za zn zc) (dP P):=Rows3.sub (Rows3D.rows (SlO.toD a7 (by omega))) (λ_ _ _=>trivial);have a9:∀w',Ext w3 w'->Rows3 Any w' (.slice za zn zc) (dP P):=λw' h=>Rows3.ext a8 h;have HZ:=Lib.hid a9;clear a8 a9;have y:=grown_refl w3 none;clear a7;clear q;obtain⟨A,iQ,iR,iT,_⟩:=id (D.out w3 l).1;go_wp2_with fail
 clear A iQ iR iT;refine Calls.mono (Cp P w3 _ _ (D.out w3 l).2.1) ?_;rintro e4 w4 ⟨v4,rfl,q,ta,tn,tc,rfl,xh⟩;replace l:=grown_trans l q
 replace y:=grown_trans y q
 have a':Rows3 Any w4 (.slice ta tn tc) (dP P):=xh;have ba:∀w',Ext w4 w'->Rows3 Any w' (.slice ta tn tc) (dP P):=λw' h=>Rows3.ext a' h;have HT:=Lib.hid ba;clear a' ba;have ad:=grown_refl w4 none;clear xh bM;clear q;go_wp2_with fail
 refine Calls.mono (Cv _ _ (dP P) (dP P) w4 Any Any (HZ.out w4 y) (HT.out w4 ad)) ?_;rintro e5 w5 ⟨v5,rfl,q,rfl⟩;replace l:=grown_trans l q
 replace y:=grown_trans y q
 replace ad:=grown_trans ad q
 rw[show eqB (dP P) (dP P)=true from eqB_true.2 rfl];clear HT ad;clear q;by_cases hz:ew P []=0
 case neg=>
  have cE:(jH P != 0)=true:=by show(ew P [] != 0)=true;simpa using hz
  clear hz;generalize jH P=cc at *;go_wp2;go_ret;exact⟨_,rfl,grown_trans ac.out.2.1 l,rfl⟩
 have hr:=(ji hz).1;rw[show jH P=0 from hz];have G:=grp_of_r hr;have cF:=G.v.n6;obtain⟨r,az⟩:∃r,r=dP P:=⟨_,rfl⟩;rw[<-az] at HZ;have hB:=B1 G hz;have hI:=B3 G hz;have bb:=(ru P).1;have aA:∀u∈dP P,u.length<=6:=λu hu=>((ru P).2 u hu).1;have O:∀L:List (List Int),(∀x∈L,Vec P.orders x)->(∀i,i<(dP P).length->∀x∈gt (dP P) i,x∈L)->(cseq P (gU P L)).length=P.orders.length:=λL h1 h2=>B4 G hz h1 (λi hi=>h2 i (by rw[mP hz];exact hi));rw[<-az] at hB hI bb aA O;have B:=Lib.hid (And.intro hB (And.intro hI (And.intro aA O)));clear hB hI aA O az hz;obtain⟨N,hN⟩:∃N,N=r.length:=⟨_,rfl⟩
 obtain rfl:N=zn:=by
  obtain⟨a,c,e,_⟩:=Sl.shape (HZ.out _ y);cases e;exact hN
 have bT:N<=4:=by omega
 clear bb;have HN:=Lib.hid hN;clear hN;have an:=l;have bU:=y.size;have bV:=l.size;go_wp2_with fail
 refine Calls.mono (Cw w5 _ bs S 13 bK (D.out w5 l).2.2) ?_;rintro e6 w6 ⟨v6,rfl,q,db,rfl,bc,aB⟩;replace l:=grown_trans l q
 replace y:=grown_trans y q
 have bd:=PresV.off (D.out w5 an).2.1 q bc;have be:=aB.lt.2;have aC:=Lib.hid (And.intro aB bd);clear aB bd;clear q;obtain⟨A,iQ,iR,iT,_⟩:=id (D.out w6 l).1;go_wp2_with fail
 clear A iQ iR iT;refine Calls.mono (CB P G.v (db+1) w6 db _ (by omega) aC.out.1 aC.out.2) ?_;rintro e7 K ⟨v7,rfl,q,X,xk,aD,_⟩;replace l:=grown_own l q (λj hj E=>by have:=Option.some.inj hj;have:=l.size;omega)
 replace y:=grown_own y q (λj hj E=>by have:=Option.some.inj hj;have:=y.size;omega)
 have aE:=xk.ints (by rw[aD.1];omega);obtain⟨xa,xc,hxs,_,_⟩:=aE.shape;subst hxs;have bg:Ints Any K (.slice xa X.length xc) X:=Ints.sub aE (λ_ _ _=>trivial);have bh:∀w',Ext K w'->Ints Any w' (.slice xa X.length xc) X:=λw' h=>Ints.ext bg h;have HX:=Lib.hid (And.intro bh aD);clear bg bh xk aE aD;clear q;clear an bU bV bc be aC;obtain⟨C,bi⟩:∃C:World,C=K:=⟨_,rfl⟩
 have bj:Rows3 (λk=>k<C.heap.size) C (.slice za N zc) r:=by
  rw[bi];exact Rows3.sub (HZ.out K y) (λ_ _ h=>h)
 subst bi;have ah:=Lib.hid bj;clear bj;have bk:=grown_refl C none;have cH:X.length<=6:=by rw[HX.out.2.1];omega
 have bW:(C.alloc (.cells #[] 25)).heap.size=C.heap.size+1:=by simp
 go_wp2;go_loopw [10,11,12] (λmv gv iv wr=>∃(i:Nat) (m g:Value),m=mv/\g=gv/\iv=.int .i64 i/\i<=N/\Ext C wr/\SlOA (λF w u (x:List (List Int))=>RowsD F w u x) 25 C.heap.size (λk=>g.ownBlock=some k) wr m ((r.take i).map (λu=>dK P u X))/\GW C.heap.size wr g (r.take i).flatten) (λ_ _ iv _=>N-(intOf iv).toNat)
 case atStart=>
  refine⟨0,_,_,rfl,rfl,rfl,by omega,grown_trans (World.grownBy_alloc _ _ _) (World.grownBy_alloc _ _ _),?_,?_⟩
  ·exact SlOA.ext rdRows (SlOA.jW _ _ C.heap.size _ _ C (Nat.le_refl _) rfl (λk hk=>by have:=own_blk hk;omega)) (World.grownBy_alloc _ _ _)
  ·exact GW.jW (by omega) bW
 case round=>
  obtain⟨i,m,g,rfl,rfl,rfl,hi,hg,hM,hG⟩:=hrel;obtain⟨H,rfl⟩:∃H:World,H=wr:=⟨_,rfl⟩;have I:=grown_trans l hg;by_cases E:i<N
  ·have cw:(i:Int)<N:=by omega
   have M:i<r.length:=by rw[<-HN.out];exact E
   have Q:=B.out.1 _ (gtMem M);have R:(r.take (i+1)).map (λu=>dK P u X)=(r.take i).map (λu=>dK P u X)++[dK P (gt r i) X]:=by rw[take_succ_gt r i M,List.map_append];rfl
   have T:=xe r i M;have bY:=xg r B.out.2.2.1 i (by omega);have bZ:=B.out.2.2.1 _ (gtMem M);obtain⟨zb,zo,ua,V,hab,_,_,aG,hu⟩:=Rows3.at (Rows3.ext ah.out hg) i M;subst hab;obtain⟨U,bl⟩:∃U,U=gt r i:=⟨_,rfl⟩;rw[<-bl] at aG hu Q R T bZ;have SJ:=G.jB (G.subB Q) HX.out.2;have cK:(dK P U X).length<=P.orders.length:=by rw[G.lB Q HX.out.2];exact G.cseq_len SJ
   have HU:=Lib.hid (And.intro Q (And.intro R T));clear Q R T bl SJ M;have b2:∀w',Ext H w'->w'.cell? ⟨pb,0,none⟩=some (.slice a1 n1 c1):=λw' h=>(D.out w' (grown_trans I h)).1.2.1;have b3:∀w',Ext H w'->w'.cell? ⟨pb,1,none⟩=some (.slice a2 n2 c2):=λw' h=>(D.out w' (grown_trans I h)).1.2.2.1;have b4:∀w',Ext H w'->w'.cell? ⟨pb,2,none⟩=some (.slice a3 n3 c3):=λw' h=>(D.out w' (grown_trans I h)).1.2.2.2.1;have bm:∀w',Ext H w'->w'.cell? ⟨zb,zo+i,none⟩=some (.slice ua U.length V):=λw' h=>h.cell aG (by simp);have b5:=Lib.hid bm;clear aG;go_wp2
   go_region_held3 (λw'=>Ext H w') (first|exact grown_drew _ _|assumption)
    (first
     | (go_at_call 35;refine Calls.mono (Calls.rel2 (w0:=H) (by assumption) (CE P hr _ _ _ _ U X _ _ _ (D.out _ (grown_trans I (by assumption))).2.1 (Rows2.ext hu (by assumption)) (HX.out.1 _ (grown_trans bk (grown_trans hg (by assumption)))) HU.out.1 HX.out.2)) ?_;rintro e6 w6 ⟨v6,rfl,aH,_,hs6,ka,kn,kc,rfl,aj⟩))
   clear b2 b3 b4 bm;have aj:RowsO H.heap.size w6 (.slice ka kn kc) (dK P U X):=SlO.weak aj hs6;have bn:RowsD (From H.heap.size) w6 (.slice ka kn kc) (dK P U X):=aj.toD (by omega)
   obtain ⟨am,cm,hme⟩:∃a c,m=.slice a ((r.take i).map (λu=>dK P u X)).length c:=by
    obtain⟨a,c,e,_⟩:=SlD.shape (hM.o.toD (by rw[List.length_map,List.length_take];omega));exact⟨a,c,e⟩
   subst hme;have b9:=hG.lt;have b':((r.take i).map (λu=>dK P u X)).length<=4:=by rw[List.length_map,List.length_take];omega
   have ap:∀w',Ext C w'->w'.cell? ⟨zb,zo+i,none⟩=some (.slice ua U.length V):=λw' z=>by
    obtain⟨cL,Et,Eu,Cc,kD,_,_,Ev,_⟩:=Rows3.at (Rows3.ext ah.out z) i (by rw[<-HN.out];exact E);cases kD
    have h1:=b5.out H (grown_refl _ _);obtain⟨cM,Ew,Ey,Ez,CJ,_,_,xm,_⟩:=Rows3.at ah.out i (by rw[<-HN.out];exact E);cases CJ
    have h3:=hg.cell xm (by simp);rw[h1] at h3;have h4:=z.cell xm (by simp);rw[h4,<-h3]
   go_wp2_with (first
    | (at_builtin;(refine wp_app_oneA rdRows 26 25 (.slice none 0 0) 24 CG Tryz.CH rfl (by decide) rfl _ _ rfl C.heap.size _ H w6 _ _ _ (dK P U X) rfl hM (λk hk=>(b9 k hk).2) none aH (λk hk=>by cases hk) bn rfl rfl (by omega) hg.size ?_);intro v7 K bo bp;have z:Ext C K:=grown_own (grown_trans hg aH) bp (λj hj E=>by have:=(hM.avoids j hj).2.1;omega);have bq:=ap K z;have ak:GW C.heap.size K g (r.take i).flatten:=(hG.ext aH).kept bp (λk hk=>⟨(hM.avoids k hk).2.1,λe=>(hM.avoids k hk).1 e⟩);have br:Rows2 (λk=>k<C.heap.size) K (.slice ua U.length V) U:=Rows2.mono hu (λk hk E=>⟨hk,Nat.lt_of_lt_of_le hk z.size,by rw[z.block k hk (by simp),hg.block k hk (by simp)]⟩);obtain⟨ag,gn,cg,hge⟩:∃a n c,g=.slice a n c:=(by obtain⟨a,c,e,_⟩:=Sl.shape (ak.rows (by omega));exact⟨a,_,c,e⟩);subst hge;clear hu bn aj)
    | (at_builtin;(refine B6 rfl _ _ rfl C.heap.size _ (r.take i).flatten U rfl ak _ br rfl (by omega) z.size ?_);intro v8 w8 bt J aI;replace J:K.grownBy w8 (Value.slice ag gn cg).ownBlock:=J;replace aI:(v8.ownBlock=(Value.slice ag gn cg).ownBlock\/v8.ownBlock=some K.heap.size):=aI))
   have bu:SlOA (λF w u (x:List (List Int))=>RowsD F w u x) 25 C.heap.size (λk=>v8.ownBlock=some k) w8 v7 ((r.take i).map (λu=>dK P u X)++[dK P U X]):=by
    have h1:SlOA (λF w u (x:List (List Int))=>RowsD F w u x) 25 C.heap.size (λk=>(Value.slice ag gn cg).ownBlock=some k\/K.heap.size<=k) K v7 ((r.take i).map (λu=>dK P u X)++[dK P U X]):=bo.more (λk hk=>hk)
    have h2:SlOA (λF w u (x:List (List Int))=>RowsD F w u x) 25 C.heap.size (λk=>(Value.slice ag gn cg).ownBlock=some k\/K.heap.size<=k) w8 v7 ((r.take i).map (λu=>dK P u X)++[dK P U X]):=by
     cases bv:(Value.slice ag gn cg).ownBlock with
     | none=>rw[bv] at J h1;exact h1.ext rdRows J
     | some b=>rw[bv] at J h1;exact h1.kept rdRows J (.inl rfl)
    exact h2.less (λk hk=>by
     rcases aI with h|h
     ·exact .inl (by rw[<-h];exact hk)
     ·rw[h] at hk;exact .inr (by have:=Option.some.inj hk;omega))
   have bw:Ext C w8:=grown_own z J (λj hj E=>by have:=(ak.lt j hj).1;omega);rw[<-HU.out.2.1] at bu;rw[<-HU.out.2.2] at bt;clear hM hG bo ak br bq ap;go_roundw
   case rel=>exact⟨i+1,v7,v8,rfl,rfl,by go_num,by omega,bw,bu,bt⟩
   case measure=>simp[intOf];omega
  ·have cb:i=r.length:=by have:=HN.out;omega
   have ht:r.take r.length=r:=List.take_length;rw[cb,ht] at hM hG;have b':(r.map (λu=>dK P u X)).length<=4:=by rw[List.length_map,<-HN.out];exact bT
   have bY:r.flatten.length<=24:=by
    have:=xg r B.out.2.2.1 r.length (Nat.le_refl _);rw[ht] at this;have:=HN.out;omega
   have aJ:Rows3 Any H m (r.map (λu=>dK P u X)):=Rows3.sub (Rows3D.rows (hM.o.toD (by omega))) (λ_ _ _=>trivial);have aK:=hG.rows (by omega)
   obtain ⟨am,mn,cm,hme⟩:∃a n c,m=.slice a n c:=by
    obtain⟨a,c,e,_⟩:=Sl.shape aJ;exact⟨a,_,c,e⟩
   obtain ⟨ag,gn,cg,hge⟩:∃a n c,g=.slice a n c:=by
    obtain⟨a,c,e,_⟩:=Sl.shape aK;exact⟨a,_,c,e⟩
   subst hme hge
   have hV:∀x∈r.flatten,Vec P.orders x:=λx hx=>by
    obtain⟨u,hu,ce⟩:=List.mem_flatten.1 hx;exact(B.out.1 u hu).1 x ce
   have aL:∀u∈r.map (λu=>dK P u X),SubB P u:=λu hu=>by
    obtain⟨t,ht,rfl⟩:=List.mem_map.1 hu;exact G.jD (B.out.1 t ht) HX.out.2
   have bz:=ry ⟨hr,B.out.1⟩ B.out.2.1;have bA:=oV ⟨hr,B.out.1⟩;have bB:=ry ⟨hr,aL⟩ (B5 G B.out.1 B.out.2.1 HX.out.2);have bC:=oV ⟨hr,aL⟩;have aq:jZ P r.flatten:=⟨hr,hV⟩;have g1:=wK aq (show ¬ 24<r.flatten.length by omega);have bD:=B.out.2.2.2 r.flatten hV (λj hj x hx=>List.mem_flatten.2 ⟨_,gtMem hj,hx⟩);have HV:=Lib.hid (And.intro bz (And.intro bA (And.intro bB (And.intro bC (And.intro g1 bD)))));clear bz bA bB bC g1 bD aq hV aL hM hG ht;have HR:=Lib.hid (And.intro aJ aK);clear aJ aK;have bE:=Rows3.ext ah.out hg;obtain⟨A,iQ,iR,iT,_⟩:=id (D.out H I).1;go_wp2_with fail
   clear A iQ iR iT;refine Calls.mono (vq P H _ _ r _ _ (D.out H I).2.1 bE) ?_;rintro eA wA ⟨vA,rfl,aM,rfl⟩;rw[HV.out.1,HV.out.2.1];have W:=grown_trans I aM;obtain⟨A,iQ,iR,iT,_⟩:=id (D.out wA W).1;go_wp2_with fail
   clear A iQ iR iT;refine Calls.mono (vq P wA _ _ (r.map (λu=>dK P u X)) _ _ (D.out wA W).2.1 (Rows3.ext HR.out.1 aM)) ?_;rintro eB wB ⟨vB,rfl,bF,rfl⟩;rw[HV.out.2.2.1,HV.out.2.2.2.1];have Y:=grown_trans W bF;obtain⟨A,iQ,iR,iT,_⟩:=id (D.out wB Y).1;go_wp2_with fail
   clear A iQ iR iT;refine Calls.mono (Cu P wB _ _ r.flatten _ _ (D.out wB Y).2.1 (Rows2.ext HR.out.2 (grown_trans aM bF))) ?_;rintro eC wC ⟨vC,rfl,gN,ka,kn,kc,rfl,hK⟩;rw[HV.out.2.2.2.2.1.1];rw[HV.out.2.2.2.2.1.2] at hK;obtain⟨cO,EA,aN⟩:=RowsO.xd hK (by rw[HV.out.2.2.2.2.2];omega);rw[HV.out.2.2.2.2.2] at aN;rw[aN];clear hK aN;have Z:=grown_trans Y gN;obtain⟨m1,m2,m3,em,xq⟩:=(D.out wC Z).2.1;cases em
   obtain⟨oa,oc,eo,_⟩:=xq.o.shape;obtain rfl:n1=P.orders.length:=by cases eo;rfl
   clear eo xq;obtain⟨A,iQ,iR,iT,_⟩:=id (D.out wC Z).1;go_wp2;go_ret;exact⟨_,rfl,grown_trans ac.out.2.1 Z,by simp⟩
end Go.Proofs.YtdcobapnlpeaaaaGreat
namespace Go.Proofs.YtdcobapnlpeaaaaGreat
open Go.RowKit Go.ChangeShapes Go.WideShapes Go.Deep
section
variable {H:Type}{enc:TypeId × Value->H}{W:World}{sp:Nat->Bool}
theorem CK {α:Type} [Inhabited α] {El:World->Value->α->Prop}{t e:TypeId}(v:Tryz.prog.underlying t=some (.slice e)) (w:Tryz.prog.cellsOf e=1)
  (r:∀n c x,DataW.trod enc Tryz.prog W 0 sp true n e [c]=some x->∃y,El W c y) {q:Nat}{c:Value}{x:DataW H × List MemPlace}(h:DataW.trod enc Tryz.prog W 0 sp true q t [c]=some x) :
  ∃xs:List α,Sl El Any W c xs:=by
 rcases open_slice1 v w h with⟨k,_⟩|⟨a,len,cap,m,n,V,D,Pl,k,_,hl,hm,u,_,hx⟩
 ·cases k
  exact⟨[],none,0,rfl,⟨by simp,by simp,λ_=>rfl⟩,λi l=>by simp at l⟩
 ·cases k
  have z:len<=m:=by rw[u];split<;>omega
  obtain⟨Z,hZ⟩:=choose_lt (α:=α) (n:=len) (p:=λi y=>El W (V i) y) (λi l=>r n (V i) _ (hx i (by omega)).2);refine⟨(List.range len).map Z,some a,cap,by simp,⟨by simpa using hl,by simp;unfold maxLen at hm;omega,λh=>by cases h⟩,λi l => ?_⟩;simp only[List.length_map,List.length_range] at l;obtain⟨h1,h2⟩:=hx i (by omega);obtain⟨b,off,spot⟩:=a
  have A:spot=none:=by
   have B:=(hx 0 (by omega)).1;exact World.cell?_spot (by simpa [Addr.add] using B)
  subst A
  have g:W.cell? ⟨b,off+i,none⟩=some (V i):=by
   have e:(⟨b,off,none⟩:Addr).add i=⟨b,off+i,none⟩:=by
    unfold Addr.add;split
    ·rename_i h;subst h;rfl
    ·rfl
   rw[<-e];exact h1
  refine⟨b,off,V i,rfl,trivial,World.block_lt_of_cell? W _ g,g,?_⟩;have:gt ((List.range len).map Z) i=Z i:=by simp[gt,l]
  rw[this];exact hZ i l
end
end Go.Proofs.YtdcobapnlpeaaaaGreat
namespace Go.Proofs.YtdcobapnlpeaaaaGreat
open Go.RowKit Go.ChangeShapes Go.WideShapes Go.ChangeAt
theorem CL:ownKnob Tryz.prog.godebug=none:=by kernel_rfl
theorem CM:laidOutB Tryz.prog=true:=by kernel_rfl
theorem CN:Tryz.prog.underlying 5=some (.int .u8):=by kernel_rfl
theorem xu:Tryz.prog.underlying 22=some (.slice 5):=by kernel_rfl
theorem CO:Tryz.prog.cellsOf 5=1:=by kernel_rfl
theorem CP {H:Type}{enc:TypeId × Value->H}{W:World}{sp:Nat->Bool}{n:Nat}{c:Value}{x:DataW H × List MemPlace}(h:DataW.trod enc Tryz.prog W 0 sp true n 5 [c]=some x):∃y,ByteEl W c y:=by
 cases n with
 | zero=>simp[DataW.trod] at h
 | succ n=>
  unfold DataW.trod at h;rw[CN] at h;cases c<;>simp at h
  rename_i k z;obtain⟨⟨rfl,hz⟩,_⟩:=h
  have a:0<=z/\z<=255:=by
   have b:=hz;simp[Lit.wf,IntKind.min,IntKind.max,IntKind.signed,IntKind.bits] at b
   omega
  exact⟨z,rfl,a⟩
theorem CQ {H:Type}{enc:TypeId × Value->H}{W:World}{sp:Nat->Bool}{n:Nat}{c:Value}{x:DataW H × List MemPlace}(h:DataW.trod enc Tryz.prog W 0 sp true n 22 [c]=some x):∃l,Bytes Any W c l:=
 CK (El:=ByteEl) xu CO (λ_ _ _ h=>CP h) h
end Go.Proofs.YtdcobapnlpeaaaaGreat
namespace Go.Proofs.YtdcobapnlpeaaaaGreat.RowSyOf
open Go.RowKit Go.ChangeShapes Go.WideShapes Go.ChangeAt
theorem lifted (os:Os) (a:os.Started) (H:Type) (enc:TypeId × Value->H) :
  ReturnsInHanded {} Tryz.checked os 14 .any (Rows.fnSylowSystemsSpec.pre6 enc Tryz.prog Tryz.f14 Rows.fnSylowSystemsRow.domain false) (Rows.fnSylowSystemsSpec.post enc Tryz.prog Tryz.f14 false true false false):=by
 refine returnsInHanded_of_change (C:=Tryz.checked) (s:=Rows.fnSylowSystemsSpec) CL a (by kernel_rfl) Tryz.func14
  (ChangeSpec.witness6 (enc:=enc) (C:=Tryz.checked) (s:=Rows.fnSylowSystemsSpec) false ⟨#[],#[.slice none 0 0],[]⟩ 8 (by kernel_rfl) (by kernel_rfl) (by kernel_rfl) (by kernel_rfl) (by kernel_rfl)) ?_
 intro W base args A D k g r _ _;have i:=r;obtain⟨p,q,xw,hV,rfl,_,_⟩:=r;have u:DataW.TrodAll enc Tryz.prog W 0 (λ_=>true) true Tryz.f14.params.toList args.toList A p:=xw;rw[Tryz.params14] at u;obtain⟨v0,EB,d0,EC,m,q0,hargs,rfl,rfl,h0,r0⟩:=trodAll_cons u;obtain⟨rfl,rfl,rfl⟩:=trodAll_nil r0;obtain rfl:args = #[v0]:=by cases args;simp_all
 obtain⟨rfl,rfl⟩:=trodVars_none hV;have j:Value.okWide Tryz.prog W .any base 22 v0:=g 0 _ _ (by rw[Tryz.params14];rfl) rfl;obtain⟨w,y,c0,rfl⟩:=okWide_slice xu j;obtain⟨f0,xx⟩:=h0;obtain⟨l,hP⟩:=CQ (c := .slice w y c0) xx;have n:∀x∈m,x.block<W.heap.size:=λx hx=>by simpa using i.lt x (by simpa using hx)
 clear xw;simp only[List.append_nil] at i;refine(CI W (.slice w y c0) l Any hP).mono λe B ⟨v,he,hg,hv⟩ => ?_;subst he;subst hv;have z:Below W.heap.size W B:=hg.below;have b:=Below.trod CM (by kernel_rfl) (of_decide_eq_true (by kernel_rfl)) ⟨f0,xx⟩ z n;exact⟨_,rfl,[d0],[],m,[],m,[],i,trodAll_mk1 (shut_bool Tryz.underlying4 _),trodAll_mk1 b,rfl,z.frame _,λh=>by cases h⟩
theorem c0:Rows.fnSylowSystemsRow.wf (OpenSpec.ofChange Rows.fnSylowSystemsSpec)=true:=by kernel_rfl
theorem c1:laidOutB Tryz.pinned.checked.prog=true:=by kernel_rfl
theorem c2:mapsRowed Tryz.pinned.checked.prog=true:=by kernel_rfl
theorem c3:Tryz.f14.params.all (Tryz.pinned.checked.prog.readableRec ·)=true:=by kernel_rfl
theorem c4:namedTie Tryz.pinned.checked.prog Rows.fnSylowSystemsRow.named Rows.fnSylowSystemsSpec.vars=true:=by kernel_rfl
theorem c5:(Rows.fnSylowSystemsRow.stops == [])=true:=by kernel_rfl
theorem c6:(Tryz.pinned.checked.prog.stops == [])=true:=by kernel_rfl
theorem c7:(Rows.fnSylowSystemsRow.knobs == [])=true:=by kernel_rfl
theorem c8:(Tryz.pinned.checked.prog.stopKnobs == [])=true:=by kernel_rfl
theorem c9:(Rows.fnSylowSystemsRow.inPlace == Tryz.pinned.checked.prog.inPlace 14)=true:=by kernel_rfl
theorem c10:(Rows.fnSylowSystemsRow.unfollowed == Tryz.pinned.checked.prog.unfollowed 14)=true:=by kernel_rfl
theorem c11:(Rows.fnSylowSystemsRow.recurses == Tryz.pinned.checked.prog.recurses 14)=true:=by kernel_rfl
theorem c12:(Rows.fnSylowSystemsRow.named == Tryz.pinned.checked.prog.varsNamed 14)=true:=by kernel_rfl
theorem c13:(Rows.fnSylowSystemsRow.maps == (Tryz.f14.params.toList++Rows.fnSylowSystemsSpec.plain.varTypes Tryz.pinned.checked.prog).any (Tryz.pinned.checked.prog.mapsRec ·))=true:=by kernel_rfl
theorem c14:(Rows.fnSylowSystemsRow.ifaces == (Tryz.f14.params.toList++Rows.fnSylowSystemsSpec.plain.varTypes Tryz.pinned.checked.prog).any (Tryz.pinned.checked.prog.ifacesRec ·))=true:=by kernel_rfl
theorem c15:(Rows.fnSylowSystemsRow.mapsOut == Tryz.pinned.checked.prog.mapsAmong Tryz.f14.resultTypes.toList)=true:=by kernel_rfl
theorem c16:(Rows.fnSylowSystemsRow.loops == (Tryz.f14.params.toList++Rows.fnSylowSystemsSpec.plain.varTypes Tryz.pinned.checked.prog).any (Tryz.pinned.checked.prog.loopsFrom ·))=true:=by kernel_rfl
theorem c17:(Rows.fnSylowSystemsRow.wideKeys == (Tryz.f14.params.toList++Rows.fnSylowSystemsSpec.plain.varTypes Tryz.pinned.checked.prog++Tryz.f14.resultTypes.toList).any (Tryz.pinned.checked.prog.wideKeysFrom ·))=true:=by kernel_rfl
theorem c18:Rows.fnSylowSystemsSpec.vars.all (Tryz.pinned.checked.prog.varReadable ·)=true:=by kernel_rfl
theorem c19:Tryz.f14.resultTypes.all (λt=>Tryz.pinned.checked.prog.readableRec t && decide (t<Tryz.pinned.checked.prog.types.size))=true:=by kernel_rfl
theorem c20:(Rows.fnSylowSystemsRow.ifacesOut == Tryz.f14.resultTypes.toList.any (Tryz.pinned.checked.prog.ifacesRec ·))=true:=by kernel_rfl
theorem CR:(Rows.fnSylowSystemsRow.loopsOut == Tryz.f14.resultTypes.toList.any (Tryz.pinned.checked.prog.loopsFrom ·))=true:=by kernel_rfl
theorem CS:(Rows.fnSylowSystemsRow.plainKeys == Tryz.pinned.checked.prog.plainKeys)=true:=by kernel_rfl
theorem CT:Rows.fnSylowSystemsRow.shortTexts.isNone=true:=by kernel_rfl
theorem CU:Tryz.pinned.checked.prog.stopsHeard=true:=by kernel_rfl
theorem CV:Tryz.pinned.checked.prog.mayEnter=true:=by kernel_rfl
theorem CW:(Rows.fnSylowSystemsRow.lifted == Tryz.pinned.checked.prog.liftsFinal)=true:=by kernel_rfl
theorem CX:(Tryz.pinned.checked.prog.make == some Rows.fnSylowSystemsRow.make)=true:=by kernel_rfl
theorem CY:(Rows.fnSylowSystemsRow.kinds == (if Rows.fnSylowSystemsRow.domain.isEmpty then [] else Tryz.f14.params.toList.map λt=>match Tryz.pinned.checked.prog.underlying t with|some (.int k)=>some k|_=>none))=true:=by kernel_rfl
theorem CZ:(Rows.fnSylowSystemsRow.pinned == Rows.fnSylowSystemsRow.pinnedBy)=true:=by kernel_rfl
theorem C0:(Rows.fnSylowSystemsRow.veiled == (Tryz.f14.params.toList++Rows.fnSylowSystemsSpec.plain.varTypes Tryz.pinned.checked.prog++Tryz.f14.resultTypes.toList).any (Tryz.pinned.checked.prog.veiledRec ·))=true:=by kernel_rfl
theorem C1:Rows.fnSylowSystemsRow.veiledFits Tryz.pinned.checked.prog Tryz.f14.params.toList (Tryz.f14.params.toList++Rows.fnSylowSystemsSpec.plain.varTypes Tryz.pinned.checked.prog++Tryz.f14.resultTypes.toList)=true:=by kernel_rfl
set_option maxRecDepth 1000000 in
theorem facts:joinedFacts Tryz.pinned.checked.prog 14 Tryz.f14 Rows.fnSylowSystemsSpec Rows.fnSylowSystemsRow=true:=
 Bool.and_eq_true_iff.2 ⟨Bool.and_eq_true_iff.2 ⟨Bool.and_eq_true_iff.2 ⟨Bool.and_eq_true_iff.2 ⟨Bool.and_eq_true_iff.2 ⟨Bool.and_eq_true_iff.2 ⟨Bool.and_eq_true_iff.2 ⟨Bool.and_eq_true_iff.2 ⟨Bool.and_eq_true_iff.2 ⟨Bool.and_eq_true_iff.2 ⟨Bool.and_eq_true_iff.2 ⟨Bool.and_eq_true_iff.2 ⟨Bool.and_eq_true_iff.2 ⟨Bool.and_eq_true_iff.2 ⟨Bool.and_eq_true_iff.2 ⟨Bool.and_eq_true_iff.2 ⟨Bool.and_eq_true_iff.2 ⟨Bool.and_eq_true_iff.2 ⟨Bool.and_eq_true_iff.2 ⟨Bool.and_eq_true_iff.2 ⟨Bool.and_eq_true_iff.2 ⟨Bool.and_eq_true_iff.2 ⟨Bool.and_eq_true_iff.2 ⟨Bool.and_eq_true_iff.2 ⟨Bool.and_eq_true_iff.2 ⟨Bool.and_eq_true_iff.2 ⟨Bool.and_eq_true_iff.2 ⟨Bool.and_eq_true_iff.2 ⟨Bool.and_eq_true_iff.2 ⟨Bool.and_eq_true_iff.2 ⟨Bool.and_eq_true_iff.2 ⟨c0,c1⟩,c2⟩,c3⟩,c4⟩,c5⟩,c6⟩,c7⟩,c8⟩,c9⟩,c10⟩,c11⟩,c12⟩,c13⟩,c14⟩,c15⟩,c16⟩,c17⟩,c18⟩,c19⟩,c20⟩,CR⟩,CS⟩,CT⟩,CU⟩,CV⟩,CW⟩,CX⟩,CY⟩,CZ⟩,C0⟩,C1⟩
theorem proved:Rows.FnSylowSystemsSaid:=
 OpenClaim.holds_of_wide 14 Tryz.f14 rfl rfl rfl rfl rfl rfl rfl ⟨rfl,rfl,rfl,rfl,rfl⟩ rfl rfl rfl rfl rfl (by kernel_rfl) Tryz.func14 facts
  (of_decide_eq_true (by kernel_rfl)) (by unfold Func.isWrapper;first|(rw[if_pos (by decide +kernel)];kernel_rfl)|(rw[if_neg (by decide +kernel)];exact⟨rfl,rfl⟩))
  (λos a H enc _=>lifted os a H enc)
#print axioms proved
end Go.Proofs.YtdcobapnlpeaaaaGreat.RowSyOf
