/- Merged from templates. -/
import Derived.Test.YtoakmefajbbggaaGreatM4
import Derived.Deep.AppendLies
set_option maxRecDepth 100000
set_option maxHeartbeats 8000000
namespace Go.Proofs.YtoakmefajbbggaaGreat
open Go.RowKit
def jD (B:Nat) (bad:Nat->Prop) (w:World) (gb n:Nat) (b:List (List Int)):Prop:=
 ∃ a,a.length=n/\b.length=n/\fK B 24 w (.slice (some ⟨gb,0,none⟩) n n) a /\
  ∀i,i<n->(gt b i=[]/\gt a i=.slice none 0 0)\/(gt b i≠[]/\Ints (λk=>k≠gb/\¬bad k) w (gt a i) (gt b i))
theorem jD.lt {B gb n:Nat}{bad:Nat->Prop}{w:World}{b:List (List Int)}(h:jD B bad w gb n b):B<=gb/\gb<w.heap.size:=by
 obtain⟨a,_,_,hO,_⟩:=h;exact hO.lt gb rfl
theorem jD.len {B gb n:Nat}{bad:Nat->Prop}{w:World}{b:List (List Int)}(h:jD B bad w gb n b):b.length=n:=by
 obtain⟨a,_,h2,_⟩:=h;exact h2
theorem jD.kept {B gb n:Nat}{bad p9:Nat->Prop}{w w':World}{b:List (List Int)}(h:jD B bad w gb n b) (p:w.heap.size<=w'.heap.size) (m:∀k,k<w.heap.size->(k=gb\/¬bad k)->w'.heap[k]? = w.heap[k]?)
  (l:∀k,k<w.heap.size->p9 k->bad k):jD B p9 w' gb n b:=by
 obtain⟨q,h1,h2,h3,r⟩:=h;have j:=h3.lt gb rfl;refine⟨q,h1,h2,?_,λi u=>(r i u).imp id (λ⟨a,b⟩=>⟨a,Ints.mono b (λk hk j=>⟨⟨hk.1,λe=>hk.2 (l k j e)⟩,Nat.lt_of_lt_of_le j p,m k j (.inr hk.2)⟩)⟩)⟩
 exact ve h3 (λk hk=>by
  have:gb=k:=by simpa [Value.ownBlock] using hk
  subst this;exact⟨m _ j.2 (.inl rfl),j.1⟩)
theorem jD.ext {B gb n:Nat}{bad:Nat->Prop}{w w':World}{b:List (List Int)}(h:jD B bad w gb n b) (a:Ext w w'):jD B bad w' gb n b:=
 h.kept a.size (λk hk _=>a.block k hk (by simp)) (λ_ _ h=>h)
theorem jD.at {B gb n:Nat}{bad:Nat->Prop}{w:World}{b:List (List Int)}(h:jD B bad w gb n b) (i:Nat) (m:i<n) :
  w.frozen? ⟨gb,i,none⟩=false/\((gt b i=[]/\w.cell? ⟨gb,i,none⟩=some (.slice none 0 0))\/(gt b i≠[]/\∃a cap,w.cell? ⟨gb,i,none⟩=some (.slice (some a) (gt b i).length cap)/\Ints (λk=>k≠gb/\¬bad k) w (.slice (some a) (gt b i).length cap) (gt b i))):=by
 obtain⟨p,h1,h2,h3,q⟩:=h;have j:=h3.cell i (by omega);refine⟨?_,?_⟩
 ·have r:n=p.length:=h1.symm
  subst r;exact World.ownsRow.frozenAt h3 i
 ·rcases q i m with⟨a,e⟩|⟨a,e⟩
  ·exact .inl ⟨a,by rw[j,e]⟩
  ·obtain ⟨l,cap,u,_,_⟩:=e.shape
   rw[u] at j e;cases l with
   | none=>exact absurd e.BD.1 a
   | some l=>exact .inr ⟨a,l,cap,j,e⟩
theorem jD.put {B gb n:Nat}{bad:Nat->Prop}{w:World}{b:List (List Int)}{u:Value}{y:List Int}(h:jD B bad w gb n b) (j:Nat) (r:Ints (λk=>k≠gb/\¬bad k) w u y) (hy:y≠[]) :
  jD B bad (w.setCell ⟨gb,j,none⟩ u) gb n (b.set j y)/\w.grownBy (w.setCell ⟨gb,j,none⟩ u) (some gb):=by
 obtain⟨p,h1,z,h3,A⟩:=h;have C:n=p.length:=h1.symm;subst C;obtain⟨D,g2⟩:=World.ownsRow.stored h3 j u
 have l:∀k,(k≠gb/\¬bad k)->k<w.heap.size->(k≠gb/\¬bad k)/\k<(w.setCell ⟨gb,j,none⟩ u).heap.size/\(w.setCell ⟨gb,j,none⟩ u).heap[k]? = w.heap[k]? :=λk hk m=>
  ⟨hk,by simpa [World.setCell] using m,Below.heap_setCell _ _ _ _ (by simpa using hk.1)⟩
 refine⟨⟨p.set j u,by simp,by simp[z],?_,λi q => ?_⟩,g2⟩
 ·unfold fK;rw[List.length_set];exact D
 ·by_cases e:j=i
  ·subst e
   rw[iN _ _ _ (by omega),iN _ _ _ q];exact .inr ⟨hy,Ints.mono r l⟩
  ·rw [iy _ _ _ _ e,iy _ _ _ _ e]
   exact(A i q).imp id (λ⟨a,b⟩=>⟨a,Ints.mono b l⟩)
structure kW (B:Nat) (bad:Nat->Prop) (w:World) (sb gb:Nat) (pv:Value) (n:Nat) (b:List (List Int)):Prop where
 sB:B<=sb
 ne:sb≠gb
 slt:sb<w.heap.size
 c0:w.cell? ⟨sb,0,none⟩=some pv
 c1:w.cell? ⟨sb,1,none⟩=some (.slice (some ⟨gb,0,none⟩) n n)
 tab:jD B (λk=>k=sb\/bad k) w gb n b
theorem kW.kept {B sb gb n:Nat}{pv:Value}{bad p9:Nat->Prop}{w w':World}{b:List (List Int)}(h:kW B bad w sb gb pv n b) (j:w.heap.size<=w'.heap.size) (l:∀k,k<w.heap.size->(k=gb\/k=sb\/¬bad k)->w'.heap[k]? = w.heap[k]?)
  (a:∀k,k<w.heap.size->p9 k->bad k):kW B p9 w' sb gb pv n b:=by
 have e:=l sb h.slt (.inr (.inl rfl))
 exact ⟨h.sB,h.ne,Nat.lt_of_lt_of_le h.slt j,(World.cell?_of_block (w:=w) e).trans h.c0,(World.cell?_of_block (w:=w) e).trans h.c1,
  h.tab.kept j (λk hk i=>l k hk (i.elim .inl (λm => .inr (.inr (λp=>m (.inr p)))))) (λk hk i=>i.imp id (a k hk))⟩
theorem kW.ext {B sb gb n:Nat}{pv:Value}{bad:Nat->Prop}{w w':World}{b:List (List Int)}(h:kW B bad w sb gb pv n b) (a:Ext w w'):kW B bad w' sb gb pv n b:=
 h.kept a.size (λk hk _=>a.block k hk (by simp)) (λ_ _ h=>h)
theorem kW.put {B sb gb n:Nat}{pv:Value}{bad:Nat->Prop}{w:World}{b:List (List Int)}{u:Value}{y:List Int}(h:kW B bad w sb gb pv n b) (j:Nat) (a:Ints (λk=>k≠gb/\¬(k=sb\/bad k)) w u y) (hy:y≠[]) :
  kW B bad (w.setCell ⟨gb,j,none⟩ u) sb gb pv n (b.set j y)/\w.grownBy (w.setCell ⟨gb,j,none⟩ u) (some gb):=by
 obtain⟨h1,h2⟩:=h.tab.put j a hy;have e:(w.setCell ⟨gb,j,none⟩ u).heap[sb]? = w.heap[sb]? := Below.heap_setCell _ _ _ _ (by simpa using h.ne);exact⟨⟨h.sB,h.ne,by simpa [World.setCell] using h.slt,(World.cell?_of_block (w:=w) e).trans h.c0,(World.cell?_of_block (w:=w) e).trans h.c1,h1⟩,h2⟩
theorem Bk {j:Array Oper}{rest:List Oper}{o:Oper}{a:Act}{Q:Exit->Act->World->Prop}{w:World}(k:o.guard=none) (l c:Operand)
  (y:o.op=Op.makeSlice 25 l c) (base n H:Nat) (hH:w.heap.size=H) (L:Int) (z:a.eval l=.int .i64 L) (A:a.eval c=.int .i64 L) (u:L=n) (D:n<=2147483648) (b:base<=H)
  (h:∀w',(∀bad,jD base bad w' H n (List.replicate n []))->Ext w w'->H<w'.heap.size->wpList Tryz.prog j Q rest (a.put o.dst (.slice (some ⟨H,0,none⟩) n n)) w') :
  wpList Tryz.prog j Q (o :: rest) a w:=by
 subst hH;obtain⟨B,m,p,q,r⟩:=info_parts Tryz.qh;refine wpList_make_full w k l c 25 y base 24 B (.slice none 0 0) 1 qg m p q .i64 .i64 L L n z A u u (by rw[r];omega) (by unfold maxLen;omega) b ?_;intro w' h1 C;refine h w' ?_ C (h1.lt w.heap.size rfl).2
 have e:(madeCells (Value.cells (.slice none 0 0)) (n*1)).toList=List.replicate n (Value.slice none 0 0):=by
  rw[show Value.cells (.slice none 0 0) = #[.slice none 0 0] from rfl,toList_madeCells_one];simp
 rw[e] at h1;refine λbad=>⟨List.replicate n (.slice none 0 0),by simp,by simp,?_,λi m => .inl ?_⟩
 ·unfold fK;rw[List.length_replicate];exact h1
 ·simp[gt,m]
theorem B9 (P:Pr) (w:World) (p:Value) (l:Nat->Prop) (bad:Nat->Prop) (j:fB l w p P) (m:P.orders.length<=6) :
  Calls Tryz.prog 134 #[p] w (fq w λw' v=>∃sb gb,v=.pointer (some ⟨sb,0,none⟩)/\kW w.heap.size bad w' sb gb p P.orders.length (List.replicate P.orders.length [])):=by
 obtain⟨pb,po,rfl⟩:=j.shape;obtain⟨q,iA,oH,hoi⟩:=j.iO;go_enter Tryz.func134,Tryz.ntmps134;go_wp2_with (at_make;refine Bk rfl _ _ rfl w.heap.size P.orders.length w.heap.size rfl _ rfl rfl rfl (by omega) (Nat.le_refl _) ?_;intro b e i k)
 go_ret;have a:Ext b (b.alloc (.cells #[.pointer (some ⟨pb,po,none⟩),.slice (some ⟨w.heap.size,0,none⟩) P.orders.length P.orders.length] 194)):=World.grownBy_alloc _ _ _;refine⟨_,rfl,dy i a,b.heap.size,w.heap.size,rfl,by omega,by omega,by simp,?_,?_,(e _).ext a⟩
 ·rw[World.cell?_alloc_at _ _ _ _ rfl];rfl
 ·rw[World.cell?_alloc_at _ _ _ _ rfl];rfl
def Bl (P:Pr) (b:List (List Int)) (Φ : List Int->Prop):Prop:=
 ∀d y,d<P.orders.length->T P d y->gt y d≠0->gt b d≠[] -> Φ y -> Φ (fC P (pw P (gt b d) (gt P.orders d-gt y d).toNat) y)
theorem QI (P:Pr) (G:ez P) (w:World) (sb gb B:Nat) (p M:Value) (X:List Int) (b:List (List Int)) (Sp N bad:Nat->Prop) (hp:fB Sp w p P) (hs:kW B bad w sb gb p P.orders.length b)
  (y:∀d,d<P.orders.length->gt b d≠[]->T P d (gt b d)/\gt (gt b d) d=1) (hx:Ints N w M X) (hX:dL P.orders X) :
  Calls Tryz.prog 193 #[.pointer (some ⟨sb,0,none⟩),M] w (fq w λw' v=>∃Y,Ints (λk=>N k\/w.heap.size<=k) w' v Y/\dL P.orders Y/\(dep Y<P.orders.length->gt b (dep Y)=[])/\∀ Φ,Bl P b Φ -> Φ X -> Φ Y):=by
 have hP:=G.v;have aM:=hP.n6;have aN:X.length=P.orders.length:=hX.1;obtain⟨pb,po,rfl⟩:=hp.shape;obtain⟨ao,iA,oH,aq⟩:=hp.iO;have ar:=Lib.hid oH;clear oH;have HT:=Lib.hid y;clear y;go_enter Tryz.func193,Tryz.ntmps193;go_wp2_with fail
 refine Calls.mono (Bi M X w N hx) ?_;rintro e0 w0 ⟨rfl,rfl⟩;go_wp2;go_loopw [1,5] (λM dv wr=>∃Y,dv=.int .i64 (dep Y)/\dL P.orders Y/\Ext w wr/\Ints (λk=>N k\/w.heap.size<=k) wr M Y/\Hid (∀ Φ,Bl P b Φ -> Φ X -> Φ Y)) (λ_ dv _=>P.orders.length-(intOf dv).toNat)
 case atStart=>exact⟨X,rfl,hX,Ext.refl _,Ints.sub hx (λk hk _ => .inl hk),Lib.hid (λ_ _ h=>h)⟩
 case round=>
  obtain⟨Y,rfl,hY,z,O,C⟩:=hrel;have av:Y.length=P.orders.length:=hY.1;obtain⟨ay,nM,Q,_,_⟩:=O.shape;rw[av] at Q;subst Q;have D:=hs.ext z;have R:=D.c0;have S:=D.c1;have L:=Lib.hid hY;clear hY;by_cases a:dep Y<P.orders.length
  ·have U:(dep Y:Int)<P.orders.length:=by omega
   obtain⟨_,aw⟩:=D.tab.at (dep Y) a;rcases aw with⟨h0,e⟩|⟨q,ab,V,e,W⟩
   ·have H0:=Lib.hid h0;clear h0
    go_wp2;go_ret;exact⟨_,rfl,z,Y,O,L.out,λ_=>H0.out,C.out⟩
   ·have E:=sU (x:=Y) (by omega)
    have i:=HT.out (dep Y) a q;have ho:=hP.gh (dep Y) a;have F:=L.out.2 (dep Y) a;obtain⟨b1,off1,rfl,_,_,H⟩:=Ints.at O (dep Y) (by omega);obtain⟨b2,off2,hao,_,_,j⟩:=Ints.at (aq.ext z) (dep Y) a;subst hao;have aa:=z.cell ar.out (by simp);have aA:IntKind.i64.wrap (gt P.orders (dep Y)-gt Y (dep Y))=gt P.orders (dep Y)-gt Y (dep Y):=IntWalk.i64_in _ (by omega);obtain⟨d,hd⟩:∃d,d=dep Y:=⟨_,rfl⟩;rw[<-hd] at a U e W E i ho F H j aA q ⊢;have I:T P d Y:=by rw[hd];exact qF L.out
    have r:=G.IY a I i.1 i.2;have e1:oK P (gt b d) (gt P.orders d-gt Y d)=pw P (gt b d) (gt P.orders d-gt Y d).toNat:=G.wQ i.1.1 _;have J:=G.kf i.1.1 (gt P.orders d-gt Y d).toNat;have e2:=G.oI J L.out;have ad:=r.1.1;have ae:gt (fC P (pw P (gt b d) (gt P.orders d-gt Y d).toNat) Y) d=0:=r.1.2 d (by omega);have A:∀ Φ,Bl P b Φ -> Φ X -> Φ (fC P (pw P (gt b d) (gt P.orders d-gt Y d).toNat) Y):=fun Φ h1 h2=>h1 d Y a I E q (C.out Φ h1 h2);have l:=Lib.hid (And.intro e1 (And.intro e2 (And.intro ad (And.intro ae (And.intro A (And.intro J r))))));clear e1 e2 ad ae A J r I E;have HD:=Lib.hid hd;clear hd q;have af:(oK P (gt b d) (gt P.orders d-gt Y d)).length<=6:=by rw[l.out.1,l.out.2.2.2.2.2.1.1];omega
    have ag:dL P.orders (oK P (gt b d) (gt P.orders d-gt Y d)):=by rw[l.out.1];exact l.out.2.2.2.2.2.1
    have HL:=Lib.hid (And.intro af (And.intro ag (And.intro i (And.intro ho F))));clear af ag i ho F;have ai:=hp.ext z;have e1:∀w',Ext wr w'->w'.cell? ⟨sb,0,none⟩=some (.pointer (some ⟨pb,po,none⟩)):=λw' h=>h.cell R (by simp);have e2:∀w',Ext wr w'->w'.cell? ⟨sb,1,none⟩=some (.slice (some ⟨gb,0,none⟩) P.orders.length P.orders.length):=λw' h=>h.cell S (by simp);have e3:∀w',Ext wr w'->w'.cell? ⟨gb,d,none⟩=some (.slice (some ab) (gt b d).length V):=λw' h=>h.cell e (by simp);have e4:∀w',Ext wr w'->w'.cell? ⟨pb,po,none⟩=some (.slice (some ⟨b2,off2,none⟩) P.orders.length iA):=λw' h=>h.cell aa (by simp);have e5:∀w',Ext wr w'->w'.cell? ⟨b2,off2+d,none⟩=some (.int .i64 (gt P.orders d)):=λw' h=>h.cell j (by simp);have e6:∀w',Ext wr w'->w'.cell? ⟨b1,off1+d,none⟩=some (.int .i64 (gt Y d)):=λw' h=>h.cell H (by simp);have q1:(d:Int)<P.orders.length:=by omega
    have q2:(0:Int)<=d:=by omega
    go_wp2
    go_region_held3 (λw'=>Ext wr w') (first|exact fk _ _|assumption)
     (first
      | (go_at_call 196;refine Calls.mono (Calls.rel (w0:=wr) (by assumption) (yS P hP _ _ _ (gt b d) _ Any Any (fB.sub (fB.ext ai (by assumption)) (λ_ _ _=>trivial)) (Ints.sub (Ints.ext W (by assumption)) (λ_ _ _=>trivial)) HL.out.2.2.1.1.1 (by have:=HL.out.2.2.2.1;have:=HL.out.2.2.2.2;omega))) ?_;rintro eA wA ⟨vA,rfl,gK,iZ,mj⟩;have aj:=mj.ints (by have:=HL.out.1;omega))
      | (go_at_call 149;refine Calls.mono (Calls.rel (w0:=wr) (by assumption) (vQ P hP _ _ _ _ _ Y Any Any Any (fB.sub (fB.ext ai (by assumption)) (λ_ _ _=>trivial)) aj (Ints.sub (Ints.ext O (by assumption)) (λ_ _ _=>trivial)) HL.out.2.1 L.out)) ?_;rintro eB wB ⟨vB,rfl,hgB,jV,u⟩))
    rw[l.out.1,l.out.2.1] at u;have aB:w.heap.size<=wA.heap.size:=Nat.le_trans z.size jV;have m:Ints (λk=>N k\/w.heap.size<=k) wB vB (fC P (pw P (gt b d) (gt P.orders d-gt Y d).toNat) Y):=iD u (by rw[l.out.2.2.1.1];omega) (λk hk => .inr (Nat.le_trans aB (u.lt k hk).1));obtain⟨Z,hZ⟩:∃Z,Z=fC P (pw P (gt b d) (gt P.orders d-gt Y d).toNat) Y:=⟨_,rfl⟩;rw[<-hZ] at m;have HZ:=Lib.hid hZ;clear hZ u;have aD:Z.length=P.orders.length:=by rw[HZ.out];exact l.out.2.2.1.1
    obtain⟨az,rC,Q,_,_⟩:=m.shape;rw[aD] at Q;subst Q;obtain⟨b3,QJ,rfl,_,_,aE⟩:=Ints.at m d (by omega);have K:gt Z d=0:=by rw[HZ.out];exact l.out.2.2.2.1
    rw[K] at aE
    have al:dep Y<dep Z:=by
     have aF:T P (d+1) Z:=by rw[HZ.out];exact l.out.2.2.2.2.2.2.1
     have:=HD.out;rcases Nat.lt_or_ge (dep Y) (dep Z) with h|h
     ·exact h
     ·exact absurd (aF.2 (dep Z) (by omega)) (sU (by omega))
    have HF:=Lib.hid (And.intro K al);clear K al;clear e1 e2 e3 e4 e5 e6 H j aa e R S;go_wp2_with (go_at_call 194;refine Calls.mono (Bi _ Z wB _ m) ?_;rintro eD wD ⟨rfl,rfl⟩)
    go_roundw
    case rel=>exact⟨Z,rfl,by rw[HZ.out];exact l.out.2.2.1,dy z hgB,m,by rw[HZ.out];exact Lib.hid l.out.2.2.2.2.1⟩
    case measure=>have:=HF.out.2;have:=HD.out;simp[intOf];omega
  ·have hd:dep Y=P.orders.length:=by have:=xg Y;omega
   go_wp2;go_ret;exact⟨_,rfl,z,Y,O,L.out,λh=>absurd h a,C.out⟩
end Go.Proofs.YtoakmefajbbggaaGreat
namespace Go.Proofs.YtoakmefajbbggaaGreat
def jE (b:List (List Int)):Nat->Nat
 | 0=>0
 | k+1=>jE b k+(if gt b k=[] then 1 else 0)
theorem I6 (b:List (List Int)) (k:Nat):jE b k<=k:=by
 induction k with
 | zero=>exact Nat.le_refl _
 | succ k a=>simp only[jE];split<;>omega
theorem I7 {b:List (List Int)}{d:Nat}{z:List Int}(i:gt b d=[]) (j:z≠[]):∀k,k<=b.length->jE (b.set d z) k+(if d<k then 1 else 0)=jE b k:=by
 intro k;induction k with
 | zero=>intro _;simp[jE]
 | succ k a=>
  intro hk;have a:=a (by omega);simp only[jE];by_cases e:d=k
  ·subst e
   rw[iN _ _ _ (by omega),if_neg j,i];simp at a ⊢
   exact a
  ·rw [iy _ _ _ _ e]
   by_cases h1:d<k
   ·rw[if_pos h1] at a;rw[if_pos (show d<k+1 by omega)];omega
   ·rw[if_neg h1] at a;rw[if_neg (show ¬d<k+1 by omega)];omega
def oO (P:Pr) (x z:List Int):List Int:=fC P (gj P (fC P z x)) (fC P x z)
def lq (P:Pr) (b:List (List Int)) (z:List Int):Nat->List (List Int)
 | 0=>[]
 | k+1=>lq P b z k++(if gt b k=[] then [] else [oO P (gt b k) z])
theorem I8 (P:Pr) (b:List (List Int)) (z:List Int) (k:Nat):(lq P b z k).length<=k:=by
 induction k with
 | zero=>exact Nat.le_refl _
 | succ k a=>simp only[lq];split<;>simp<;>omega
theorem I9 {P:Pr}{b:List (List Int)}{z x:List Int}{k:Nat} : x∈lq P b z k↔∃e,e<k/\gt b e≠[]/\x=oO P (gt b e) z:=by
 induction k with
 | zero=>simp[lq]
 | succ k j=>
  simp only[lq,List.mem_append,j];constructor
  ·rintro (⟨e,h1,a,i⟩|h)
   ·exact⟨e,by omega,a,i⟩
   ·split at h
    ·simp at h
    ·rename_i hk
     simp at h
     exact⟨k,by omega,hk,h⟩
  ·rintro ⟨e,h1,a,i⟩
   rcases Nat.lt_succ_iff_lt_or_eq.1 h1 with h|h
   ·exact .inl ⟨e,h,a,i⟩
   ·subst h;right;rw[if_neg a];simp[i]
section
variable {P:Pr}(G:ez P)
include G
theorem ez.QK {Q:List Int->Prop}{b:List (List Int)}{q:List (List Int)}{R:List Int->Prop}{X Y:List Int}(A:kg P Q (gt b) (X :: q) R) (e : ∀ Φ,Bl P b Φ -> Φ X -> Φ Y):∃R',kg P Q (gt b) (Y :: q) R':=by
 refine e (λy=>∃R,kg P Q (gt b) (y :: q) R) ?_ ⟨R,A⟩;rintro d y i l p m ⟨R,A⟩;obtain⟨_,h1,h2⟩:=A.tab d i m;have a:=G.IY i l h1 h2;exact⟨_,IP A i l p m a.1 (λK S j k=>(a.2 K S j).1 k) (λK S j k=>(a.2 K S j).2 k)⟩
theorem ez.QL {Q:List Int->Prop}{b:List (List Int)}{q:List (List Int)}{R:List Int->Prop}{y:List Int}(A:kg P Q (gt b) (y :: q) R) {d:Nat}(l:d<P.orders.length) (m:T P d y) (u:gt b d=[]) (p:b.length=P.orders.length)
  (k:Int) (a:0<=k) (hk:(k*gt y d)%gt P.orders d=1) :
  ∃R',kg P Q (gt (b.set d (pw P y k.toNat))) (q++[y]++[pw P (pw P y k.toNat) (gt P.orders d).toNat]++lq P b (pw P y k.toNat) P.orders.length) R':=by
 obtain⟨w,hz1⟩:=G.IZ l m k a hk;refine⟨_,G.IU A l m u w hz1 (λK S h=>S.pw h _) (λe r => ?_) (λx hx => ?_) (λx hx => ?_) (λe r i => .inl ?_)⟩
 ·by_cases h:e=d
  ·subst h;rw[if_pos rfl,iN _ _ _ (by omega)]
  ·rw[if_neg h,iy _ _ _ _ (λj=>h j.symm)]
 ·simp only[List.mem_append,List.mem_singleton] at hx
  rcases hx with((h|h)|h)|h
  ·exact .inl h
  ·exact .inr (.inl h)
  ·exact .inr (.inr (.inr (.inl h)))
  ·obtain ⟨e,h1,j,h3⟩:=I9.1 h
   exact .inr (.inr (.inr (.inr ⟨e,h1,j,.inl h3⟩)))
 ·simp only[List.mem_append,List.mem_singleton]
  rcases hx with h|h|h
  ·exact .inl (.inl (.inl h))
  ·exact .inl (.inl (.inr h))
  ·exact .inl (.inr h)
 ·simp only[List.mem_append]
  exact .inr (I9.2 ⟨e,r,i,rfl⟩)
end
end Go.Proofs.YtoakmefajbbggaaGreat
namespace Go.Proofs.YtoakmefajbbggaaGreat
open Go.RowKit
def iY (P:Pr) (U:List (List Int)):Prop:=
 (∀z∈U,dL P.orders z/\dep z<P.orders.length/\gt z (dep z)=1)/\∀i j,i<j->j<U.length->dep (gt U i)<dep (gt U j)
structure nK (P:Pr) (U:List (List Int)) (X:List Int) (i:Nat) (y:List Int):Prop where
 vec:dL P.orders y
 mU:∀j,j<i->gt y (dep (gt U j))=0
 cos:∀K,Sub P K->(∀z∈U,K z)->K (fC P (gj P X) y)
 old:∀k,(∀z∈U,k<dep z)->gt y k=gt X k
section
variable {P:Pr}(G:ez P)
include G
theorem ez.QM {U:List (List Int)}{X:List Int}(a:dL P.orders X):nK P U X 0 X:=
 ⟨a,λj b=>by omega,λK S _=>by rw[G.inv_mul a];exact S.one,λ_ _=>rfl⟩
theorem ez.QN {U:List (List Int)}{X y:List Int}{i:Nat}(e:iY P U) (q:dL P.orders X) (a:i<U.length) (h:nK P U X i y) :
  nK P U X i (fC P y (gt U i))/\gt (fC P y (gt U i)) (dep (gt U i))=(gt y (dep (gt U i))+1)%gt P.orders (dep (gt U i)):=by
 obtain⟨h1,l,h3⟩:=e.1 _ (fT a);have b:=G.right (Nat.le_of_lt l) h.vec (qF h1);refine⟨⟨G.gz h.vec h1,λj m => ?_,λK S p => ?_,λk hk => ?_⟩,?_⟩
 ·rw[b.1 _ (e.2 j i m a)];exact h.mU j m
 ·rw[<-G.ass (G.invV q) h.vec h1];exact S.mul _ _ (h.cos K S p) (p _ (fT a))
 ·rw[b.1 k (hk _ (fT a))];exact h.old k hk
 ·rw[b.2 l,h3]
omit G in
theorem QO {U:List (List Int)}{X y:List Int}{i:Nat}(h:nK P U X i y) (a:gt y (dep (gt U i))=0):nK P U X (i+1) y:=
 ⟨h.vec,λj b=>by
  rcases Nat.lt_succ_iff_lt_or_eq.1 b with h1|h1
  ·exact h.mU j h1
  ·rw[h1];exact a,h.cos,h.old⟩
end
def xh (o e:Int):Nat:=if e=0 then 0 else (o-e).toNat
theorem QS {o e:Int}(b:0<=e) (h1:e<o) (a:e≠0):xh o ((e+1)%o)<xh o e:=by
 unfold xh;rw[if_neg a];by_cases h:e+1=o
 ·rw[h,Int.emod_self,if_pos rfl];omega
 ·rw[Int.emod_eq_of_lt (by omega) (by omega),if_neg (by omega)];omega
theorem Da (P:Pr) (G:ez P) (w:World) (p uv xv:Value) (U:List (List Int)) (X:List Int) (Sp Su Sx:Nat->Prop) (hp:fB Sp w p P) (hu:dK Su w uv U) (hU:iY P U) (hl:U.length<=100) (hx:Ints Sx w xv X) (hX:dL P.orders X) :
  Calls Tryz.prog 148 #[p,uv,xv] w (fq w λw' v=>∃Y,Own w.heap.size w' v Y/\nK P U X U.length Y):=by
 have hP:=G.v;have aH:=hP.n6;have aI:X.length<=6:=by rw[hX.1];omega
 obtain⟨pb,po,rfl⟩:=hp.shape;obtain⟨au,jA,rfl,_,_⟩:=Sl.shape hu;have aj:∀z∈U,dep z<z.length:=λz hz=>by have:=hU.1 z hz;rw[this.1.1];exact this.2.1
 have F:=Lib.hid (And.intro hU hX);clear hU hX;go_enter Tryz.func148,Tryz.ntmps148;go_wp2_with fail
 refine Calls.mono (xz w xv X Sx hx (by omega)) ?_;rintro e0 w0 ⟨ov,rfl,H,m⟩;go_wp2_with fail
 refine Calls.mono (C5 _ U w0 Su (dK.ext hu H) aj (by omega)) ?_;rintro e1 w1 ⟨pv,rfl,hg1,A⟩;have I:=dy H hg1;have J:=m.gw hg1;have K:∀k,ov.ownBlock=some k->w.heap.size<=k/\k<w0.heap.size:=λk hk=>⟨(m.lt k hk).1,(m.lt k hk).2⟩
 have L:∃az M,pv=.slice az U.length M:=by
  rcases A.form with⟨h1,q⟩|⟨g,cp,h1,_⟩
  ·have h3:U.length=0:=by unfold ij at q;rw[List.map_eq_nil_iff] at q;rw[q];rfl
   exact⟨none,0,by rw[h1,h3]⟩
  ·exact⟨_,_,by rw[h1];unfold ij;rw[List.length_map]⟩
 obtain⟨ap,r,rfl⟩:=L;have B:=Lib.hid K;clear K;go_wp2;go_loopw [15] (λiv wr=>∃(i:Nat) (Y:List Int),iv=.int .i64 i/\i<=U.length/\Ext w wr/\Own w.heap.size wr ov Y/\fK w0.heap.size 3 wr (.slice ap U.length r) (ij U)/\Hid (nK P U X i Y)) (λiv _=>U.length-(intOf iv).toNat)
 case atStart=>exact⟨0,X,rfl,by omega,I,J,A,Lib.hid (G.QM F.out.2)⟩
 case round=>
  obtain⟨i,Y,rfl,hi,hg,hO,u,C⟩:=hrel;clear m J A;by_cases a:i<U.length
  ·have aD:(i:Int)<U.length:=by omega
   have N:gt (ij U) i=.int .i64 (dep (gt U i)):=by unfold ij;rw[jM _ _ _ a]
   have am:∃g,ap=some ⟨g,0,none⟩:=by
    rcases u.form with⟨h1,q⟩|⟨g,cp,h1,_⟩
    ·unfold ij at q;rw[List.map_eq_nil_iff] at q;rw[q] at a;simp at a
    ·simp only[Value.slice.injEq] at h1;exact⟨g,h1.1⟩
   obtain⟨gp,rfl⟩:=am;have O:=u.cell i (by unfold ij;rw[List.length_map];exact a);rw[N] at O;clear N;obtain⟨d,hd⟩:∃d,d=dep (gt U i):=⟨_,rfl⟩;rw[<-hd] at O;have D:d<P.orders.length:=by rw[hd];exact(F.out.1.1 _ (fT a)).2.1
   have ho:=hP.gh d D;have HD:=Lib.hid hd;clear hd;go_wp2;go_loopg [20] (xh (gt P.orders d) (gt Y d)) (λgk _ wr=>∃Y,gk=xh (gt P.orders d) (gt Y d)/\Ext w wr/\Own w.heap.size wr ov Y/\fK w0.heap.size 3 wr (.slice (some ⟨gp,0,none⟩) U.length r) (ij U)/\Hid (nK P U X i Y))
   case atStart=>exact⟨Y,rfl,hg,hO,u,C⟩
   case round=>
    clear hO u C hg;obtain⟨Y,DJ,hg,hO,u,C⟩:=hrel;have b:=C.out.vec;have Q:=b.2 d D;have R:=hO.ints (by rw[b.1];omega);obtain⟨ax,l6,T,_,_⟩:=R.shape;rw[b.1] at T;subst T;obtain⟨bx,ox,rfl,_,_,hcx⟩:=Ints.at R d (by rw[b.1];exact D);have aF:(d:Int)<P.orders.length:=by omega
    by_cases hy:gt Y d=0
    ·have ao:Hid (nK P U X (i+1) Y):=Lib.hid (QO C.out (by rw[<-HD.out];exact hy))
     have hb:(gt Y d != 0)=false:=by simp[hy]
     have HY:=Lib.hid b;clear b hy DJ;go_wp2;go_roundw
     case rel=>exact⟨i+1,Y,by go_num,by omega,hg,hO,u,ao⟩
     case measure=>simp[intOf];omega
    ·have hb:(gt Y d != 0)=true:=by simp[hy]
     obtain⟨y,l⟩:=G.QN F.out.1 F.out.2 a C.out;rw[<-HD.out] at l;have E:=QS Q.1 Q.2 hy;rw[<-l,<-DJ] at E;have V:=(F.out.1.1 _ (fT a)).1;have W:tv P Y (gt U i)=fC P Y (gt U i):=G.oI b V;obtain⟨bu,ou,a2,jx,QT,Vz,VA,Ja,aq⟩:=dK.at hu i a;subst QT;have aG:=hg.cell Ja (by simp);have HS:=Lib.hid (And.intro y (And.intro E W));clear y E W l DJ hy Ja;have Z:=Lib.hid b;have aa:∀(S:Nat->Prop) k,S k->k<w.heap.size->mB (Value.slice (some ⟨bx,ox,none⟩) P.orders.length l6).ownBlock k/\k<wr.heap.size/\wr.heap[k]? = w.heap[k]? :=λS k _ a=>⟨λe=>by have:=(B.out k e).1;omega,Nat.lt_of_lt_of_le a hg.size,hg.block k a (by simp)⟩;go_wp2_with fail
     refine Calls.mono (A4 P hP w.heap.size wr _ _ _ Y (gt U i) (hp.mono (aa Sp)) hO Z.out (Ints.mono aq (aa Su)) V) ?_;rintro eM wM ⟨vM,rfl,tL,rfl,ab⟩;rw[HS.out.2.2] at ab;have ac:Ext w wM:=fu hg tL (λj hj a=>by have:=(B.out j hj).1;omega)
     have av:=u.kept tL (.inr (λe=>by
      have h1:=(B.out gp (by rw[<-e];rfl)).2;have q:=(u.lt gp rfl).1;omega))
     go_wp2;go_roundg (xh (gt P.orders d) (gt (fC P Y (gt U i)) d))
     case measure=>exact HS.out.2.1
     case rel=>exact⟨_,rfl,ac,ab,av,Lib.hid HS.out.1⟩
  ·have aw:i=U.length:=by omega
   subst aw;go_wp2;go_ret;exact⟨_,rfl,hg,Y,hO,C.out⟩
end Go.Proofs.YtoakmefajbbggaaGreat
namespace Go.Proofs.YtoakmefajbbggaaGreat
def sq (r:Nat->List Int) (k m:Nat):List (List Int):=(List.range' m k).filterMap (λd=>if r d=[] then none else some (r d))
theorem QU (r:Nat->List Int) (m:Nat):sq r 0 m=[]:=rfl
theorem ug (r:Nat->List Int) (k m:Nat):sq r (k+1) m=(if r m=[] then [] else [r m])++sq r k (m+1):=by
 unfold sq;rw[List.range'_succ,List.filterMap_cons];by_cases h:r m=[]<;>simp[h]
theorem zk (r:Nat->List Int) (n:Nat):lD n r=sq r n 0:=by unfold lD sq;rw[List.range_eq_range']
theorem Jb {r a:Nat->List Int}(k m:Nat) (h:∀d,m<=d->d<m+k->r d=a d):sq r k m=sq a k m:=by
 induction k generalizing m with
 | zero=>rfl
 | succ k b=>rw[ug,ug,h m (by omega) (by omega),b (m+1) (λd h1 e=>h d (by omega) (by omega))]
theorem qR {r:Nat->List Int}{k m:Nat}{z:List Int} : z∈sq r k m↔∃e,m<=e/\e<m+k/\r e≠[]/\z=r e:=by
 induction k generalizing m with
 | zero=>
  rw[QU];constructor
  ·intro h;cases h
  ·rintro⟨e,h1,h2,_⟩;omega
 | succ k i=>
  rw[ug,List.mem_append,i];constructor
  ·rintro (h|⟨e,h1,h2,a⟩)
   ·split at h
    ·cases h
    ·rename_i j
     simp at h
     exact⟨m,by omega,by omega,j,h⟩
   ·exact⟨e,by omega,by omega,a⟩
  ·rintro ⟨e,h1,h2,a,b⟩
   rcases Nat.lt_or_ge m e with h|h
   ·exact .inr ⟨e,by omega,by omega,a,b⟩
   ·have:e=m:=by omega
    subst this;left;rw[if_neg a];simp[b]
theorem Bn (r:Nat->List Int) (k m:Nat):(sq r k m).length<=k:=by
 induction k generalizing m with
 | zero=>exact Nat.le_refl _
 | succ k a=>rw[ug,List.length_append];have:=a (m+1);split<;>simp<;>omega
structure kN (P:Pr) (H:List Int->Prop) (b r:Nat->List Int) (m:Nat):Prop where
 nil:∀e,m<=e->e<P.orders.length->(r e=[]↔b e=[])
 mem:∀e,m<=e->e<P.orders.length->r e≠[]->H (r e)/\T P e (r e)/\gt (r e) e=1
 red:∀e e',m<=e->e<e'->e'<P.orders.length->r e≠[]->r e'≠[]->gt (r e) e'=0
section
variable {P:Pr}(G:ez P)
include G
omit G in
theorem kN.dep {H:List Int->Prop}{b r:Nat->List Int}{m e:Nat}(h:kN P H b r m) (h1:m<=e) (a:e<P.orders.length) (i:r e≠[]):dep (r e)=e:=by
 obtain⟨_,hT,j⟩:=h.mem e h1 a i;exact DD a hT (by rw[j];decide)
omit G in
theorem kN.sorted {H:List Int->Prop}{b r:Nat->List Int}{i:Nat}(h:kN P H b r i):∀k m,i<=m->m+k=P.orders.length->(sq r k m).Pairwise (λx y=>Go.Proofs.YtoakmefajbbggaaGreat.dep x<Go.Proofs.YtoakmefajbbggaaGreat.dep y):=by
 intro k;induction k with
 | zero=>intro m _ _;exact List.Pairwise.nil
 | succ k j=>
  intro m l u;rw[ug];by_cases a:r m=[]
  ·rw[if_pos a,List.nil_append];exact j (m+1) (by omega) (by omega)
  ·rw [if_neg a,List.singleton_append]
   refine List.Pairwise.cons (λz p => ?_) (j (m+1) (by omega) (by omega));obtain⟨e,h1,h2,q,rfl⟩:=qR.1 p;rw[h.dep l (by omega) a,h.dep (by omega) (by omega) q];omega
omit G in
theorem kN.Jc {H:List Int->Prop}{b r:Nat->List Int}{k m:Nat}(h:kN P H b r m) (q:m+k=P.orders.length):iY P (sq r k m):=by
 refine⟨λz u => ?_,λi j a l => ?_⟩
 ·obtain ⟨e,h1,h2,p,rfl⟩:=qR.1 u
  obtain⟨_,a2,a3⟩:=h.mem e h1 (by omega) p;rw[h.dep h1 (by omega) p];exact⟨a2.1,by omega,a3⟩
 ·rw [gM _ i (by omega),gM _ j l]
  exact List.pairwise_iff_getElem.1 (h.sorted k m (Nat.le_refl _) q) i j (by omega) l a
theorem ez.Jd {H:List Int->Prop}{b r:Nat->List Int}{d k:Nat}{y:List Int}(I:Ind P H b) (h:kN P H b r (d+1)) (hk:d+1+k=P.orders.length) (K:b d≠[]) (hy:nK P (sq r k (d+1)) (b d) (sq r k (d+1)).length y) :
  kN P H b (λe=>if e=d then y else r e) d/\sq (λe=>if e=d then y else r e) (k+1) d=y :: sq r k (d+1):=by
 have L:d<P.orders.length:=by omega
 obtain⟨M,A,m3⟩:=I.mem d L K;have l:y≠[]:=λe=>by have:=hy.vec.1;rw[e] at this;simp at this;omega
 have m:∀j,j<=d->gt y j=gt (b d) j:=λj q=>hy.old j (λz u=>by
  obtain⟨e,h1,a,i,rfl⟩:=qR.1 u;rw[h.dep h1 (by omega) i];omega)
 have B:H y:=by
  have h1:=hy.cos H I.sub (λz u=>by
   obtain⟨e,h1,a,i,rfl⟩:=qR.1 u;exact(h.mem e h1 (by omega) i).1)
  have a:=I.sub.mul _ _ M h1;rwa [<-G.ass A.1 (G.invV A.1) hy.vec,G.j7 A.1,G.fS.el _ hy.vec] at a
 have C:T P d y:=⟨hy.vec,λj q=>by rw[m j (by omega)];exact A.2 j q⟩;have D:gt y d=1:=by rw[m d (Nat.le_refl _)];exact m3
 have E:∀e,d<e->e<P.orders.length->r e≠[]->gt y e=0:=λe h1 a i=>by
  have u:r e∈sq r k (d+1):=qR.2 ⟨e,by omega,by omega,i,rfl⟩;obtain⟨j,q,rI⟩:=List.getElem_of_mem u;have w:=hy.mU j q;rw[gM _ j q,rI,h.dep (by omega) a i] at w;exact w
 refine⟨⟨λe h1 a => ?_,λe h1 a i => ?_,λe e' h1 a i w F => ?_⟩,?_⟩
 ·by_cases p:e=d
  ·subst p;simp[l,K]
  ·rw[if_neg p];exact h.nil e (by omega) a
 ·by_cases p:e=d
  ·subst p;simp only[if_true] ; exact⟨B,C,D⟩
  ·simp only[if_neg p] at i ⊢;exact h.mem e (by omega) a i
 ·have J:e'≠d:=by omega
  simp only[if_neg J] at F;by_cases p:e=d
  ·subst p;simp only[if_true];exact E e' a i F
  ·simp only[if_neg p] at w ⊢;exact h.red e e' (by omega) a i w F
 ·rw [ug,if_pos rfl,if_neg l,List.singleton_append]
  congr 1
  exact Jb k (d+1) (λe h1 a=>by rw[if_neg (by omega)])
omit G in
theorem Je {H:List Int->Prop}{b r:Nat->List Int}{d k:Nat}(h:kN P H b r (d+1)) (q:b d=[]) :
  kN P H b (λe=>if e=d then [] else r e) d/\sq (λe=>if e=d then [] else r e) (k+1) d=sq r k (d+1):=by
 refine⟨⟨λe h1 i => ?_,λe h1 i j => ?_,λe e' h1 i j l p => ?_⟩,?_⟩
 ·by_cases a:e=d
  ·subst a;simp[q]
  ·rw[if_neg a];exact h.nil e (by omega) i
 ·by_cases a:e=d
  ·subst a;simp at j
  ·simp only[if_neg a] at j ⊢;exact h.mem e (by omega) i j
 ·have m:e'≠d:=by omega
  simp only[if_neg m] at p;by_cases a:e=d
  ·subst a;simp at l
  ·simp only[if_neg a] at l ⊢;exact h.red e e' (by omega) i j l p
 ·rw [ug,if_pos rfl,if_pos rfl,List.nil_append]
  exact Jb k (d+1) (λe h1 i=>by rw[if_neg (by omega)])
theorem ez.DK {H:List Int->Prop}{b r:Nat->List Int}(I:Ind P H b) (h:kN P H b r 0):sq r P.orders.length 0=fD P H:=by
 have k:Red P H r:=⟨⟨I.sub,λd a i=>h.mem d (by omega) a i,λx hx d a l m i=>I.piv x hx d a l m ((h.nil d (by omega) a).1 i)⟩,λd e j p h1 q=>h.red d e (by omega) j p h1 q⟩;rw[G.IX k,zk]
end
theorem Jf (o:List Int) (N:Nat) (m:Int) (k:Nat):(gQ o N m k).1.length=N:=by
 induction k with
 | zero=>simp[gQ]
 | succ k a=>simp only[gQ];rw[List.length_set,a]
theorem QV (o:List Int) (N:Nat) (m:Int) (j k:Nat) (hk:j<k) (a:k<=N):gt (gQ o N m k).1 (N-1-j)=(gQ o N m j).2%gt o (N-1-j):=by
 induction k with
 | zero=>omega
 | succ k b=>
  simp only[gQ];by_cases e:j=k
  ·subst e;rw[iN _ _ _ (by rw[Jf];omega)]
  ·rw[iy _ _ _ _ (by omega)];exact b (by omega) (by omega)
theorem QW {P:Pr}(hP:Valid P) (m:Int) (h1:m<eW P) (k:Nat) (hk:k<=P.orders.length):(gQ P.orders P.orders.length m k).2<gI P.orders (P.orders.length-k):=by
 induction k with
 | zero=>exact h1
 | succ k b=>
  have a:=b (by omega);have i:=hP.gh (P.orders.length-1-k) (by omega);simp only[gQ];have e:P.orders.length-k=(P.orders.length-(k+1))+1:=by omega
  rw[e] at a;simp only[gI] at a;rw[show P.orders.length-(k+1)=P.orders.length-1-k by omega] at a ⊢;exact Int.ediv_lt_of_lt_mul (by omega) a
theorem tK {P:Pr}(hP:Valid P) (m:Int) (i:0<=m) (h1:m<eW P):num P (fF P m)=m:=by
 have j:(gQ P.orders P.orders.length m P.orders.length).2=0:=by
  have a:=QW hP m h1 P.orders.length (Nat.le_refl _);have q:=(zi hP m i P.orders.length (Nat.le_refl _)).2.1;rw[Nat.sub_self] at a;simp only[gI] at a;omega
 have key:∀k,k<=P.orders.length->iq P.orders (fF P m) k=(gQ P.orders P.orders.length m (P.orders.length-k)).2:=by
  intro k;induction k with
  | zero=>intro _;simp only[iq,Nat.sub_zero];exact j.symm
  | succ k l=>
   intro hk;simp only[iq];rw[l (by omega)];have e:P.orders.length-k=(P.orders.length-(k+1))+1:=by omega
   have p:gt (fF P m) k=(gQ P.orders P.orders.length m (P.orders.length-(k+1))).2%gt P.orders k:=by
    have:=QV P.orders P.orders.length m (P.orders.length-(k+1)) P.orders.length (by omega) (Nat.le_refl _);rw[show P.orders.length-1-(P.orders.length-(k+1))=k by omega] at this;exact this
   rw[p,e];simp only[gQ];rw[show P.orders.length-1-(P.orders.length-(k+1))=k by omega];have:=Int.emod_add_mul_ediv (gQ P.orders P.orders.length m (P.orders.length-(k+1))).2 (gt P.orders k);rw[Int.mul_comm] at this;omega
 have b:=key P.orders.length (Nat.le_refl _);rw[Nat.sub_self] at b;exact b
theorem QX {P:Pr}(hP:Valid P) {x y:List Int}(hx:dL P.orders x) (hy:dL P.orders y) (h:num P x=num P y):x=y:=by
 have key:∀k,k<=P.orders.length->iq P.orders x (P.orders.length-k)=iq P.orders y (P.orders.length-k)/\∀j,P.orders.length-k<=j->j<P.orders.length->gt x j=gt y j:=by
  intro k;induction k with
  | zero=>intro _;exact⟨h,λj a b=>by omega⟩
  | succ k p=>
   intro hk;obtain⟨h1,h2⟩:=p (by omega);have e:P.orders.length-k=(P.orders.length-(k+1))+1:=by omega
   rw[e] at h1;simp only[iq] at h1;have z:=hP.gh (P.orders.length-(k+1)) (by omega);have i:=hx.2 (P.orders.length-(k+1)) (by omega);have l:=hy.2 (P.orders.length-(k+1)) (by omega)
   have q:gt x (P.orders.length-(k+1))=gt y (P.orders.length-(k+1)):=by
    have m:(iq P.orders x (P.orders.length-(k+1))*gt P.orders (P.orders.length-(k+1))+gt x (P.orders.length-(k+1)))%gt P.orders (P.orders.length-(k+1))=(iq P.orders y (P.orders.length-(k+1))*gt P.orders (P.orders.length-(k+1))+gt y (P.orders.length-(k+1)))%gt P.orders (P.orders.length-(k+1)):=by rw[h1]
    rw[Int.add_comm,Int.add_mul_emod_self_right,Int.add_comm _ (gt y _),Int.add_mul_emod_self_right,Int.emod_eq_of_lt i.1 i.2,Int.emod_eq_of_lt l.1 l.2] at m;exact m
   refine⟨?_,λj a b => ?_⟩
   ·have r:iq P.orders x (P.orders.length-(k+1))*gt P.orders (P.orders.length-(k+1))=iq P.orders y (P.orders.length-(k+1))*gt P.orders (P.orders.length-(k+1)):=by omega
    exact Int.eq_of_mul_eq_mul_right (by omega) r
   ·by_cases u:j=P.orders.length-(k+1)
    ·rw[u];exact q
    ·exact h2 j (by omega) b
 have w:=(key P.orders.length (Nat.le_refl _)).2;exact mg (by rw[hx.1,hy.1]) (λk hk=>w k (by omega) (by rw[<-hx.1];exact hk))
theorem uX {P:Pr}(hP:Valid P) {x:List Int}(hx:dL P.orders x):fF P (num P x)=x:=by
 have a:=oB hP hx;exact QX hP (rz hP _ a.1) hx (tK hP _ a.1 a.2)
end Go.Proofs.YtoakmefajbbggaaGreat
namespace Go.Proofs.YtoakmefajbbggaaGreat
open Go.RowKit
def j5 (a b:Int):Int:=if a<b then -1 else if b<a then 1 else 0
theorem Jg (a:Int) (w:World):Calls Tryz.prog 249 #[.int .i64 a] w λe w'=>e=.returned (.bool false)/\w'=w:=by
 go_enter Tryz.func249,Tryz.ntmps249;go_wp2;exact bodyPost_ret (v := .bool false) (by simp[results,Tryz.results249,go_sem]) rfl ⟨rfl,rfl⟩
theorem Jh (a b:Int) (w:World):Calls Tryz.prog 201 #[.int .i64 a,.int .i64 b] w λe w'=>e=.returned (.int .i64 (j5 a b))/\w'=w:=by
 go_enter Tryz.func201,Tryz.ntmps201;go_wp2_with fail
 refine Calls.mono (Jg a w) ?_;rintro k l ⟨rfl,rfl⟩;go_wp2_with fail
 refine Calls.mono (Jg b _) ?_;rintro k l ⟨rfl,rfl⟩;by_cases h1:a<b
 ·go_wp2
  exact bodyPost_ret (v := .int .i64 (-1)) (by simp[results,Tryz.results201,go_sem]) rfl ⟨by simp[j5,h1],rfl⟩
 ·by_cases j:b<a
  ·have i:b<=a:=by omega
   go_wp2;exact bodyPost_ret (v := .int .i64 1) (by simp[results,Tryz.results201,go_sem]) rfl ⟨by simp[j5,h1,j],rfl⟩
  ·have i:b=a:=by omega
   subst i;clear h1 j;go_wp2;exact bodyPost_ret (v := .int .i64 0) (by simp[results,Tryz.results201,go_sem]) rfl ⟨by simp[j5],rfl⟩
def gm:List Int->List Int->Int
 | [],[]=>0
 | [],_ :: _ => -1
 | _ :: _,[]=>1
 | x :: xs,y :: ys=>if j5 x y=0 then gm xs ys else j5 x y
theorem sW {l:List Int}{k:Nat}(h:k<l.length):l.drop k=gt l k :: l.drop (k+1):=by
 rw[List.drop_eq_getElem_cons h];simp[gt,h]
theorem QY (a b:Value) (X Y:List Int) (w:World) (A B:Nat->Prop) (ha:Ints A w a X) (y:Ints B w b Y) :
  Calls Tryz.prog 202 #[a,b] w λe w'=>e=.returned (.int .i64 (gm X Y))/\w'=w:=by
 obtain⟨C,vr,rfl,hla,_⟩:=ha.shape;obtain⟨D,ql,rfl,hlb,_⟩:=y.shape;go_enter Tryz.func202,Tryz.ntmps202;go_wp2;go_loopw [11] (λv wr=>∃k:Nat,v=.int .i64 k/\k<=X.length/\k<=Y.length/\wr=w/\gm X Y=gm (X.drop k) (Y.drop k)) (λv _=>X.length-(intOf v).toNat)
 case atStart=>exact⟨0,rfl,by omega,by omega,rfl,by simp⟩
 case round=>
  obtain⟨k,rfl,hk,DL,rfl,i⟩:=hrel;by_cases p:k<X.length
  ·obtain ⟨E,oa,rfl,_,_,hca⟩:=Ints.at ha k p
   by_cases l:k<Y.length
   ·obtain ⟨F,ob,rfl,_,_,hcb⟩:=Ints.at y k l
    rw[sW p,sW l] at i;simp only[gm] at i;have m:=Lib.hid i;clear i;go_wp2_with fail
    refine Calls.mono (Jh (gt X k) (gt Y k) _) ?_;rintro G H ⟨rfl,rfl⟩;by_cases z:j5 (gt X k) (gt Y k)=0
    ·have j:=m.out
     rw[if_pos z] at j;have q:=Lib.hid j;clear j m;go_wp2;go_roundw
     case rel=>exact⟨k+1,by go_num,by omega,by omega,trivial,q.out⟩
     case measure=>simp[intOf];omega
    ·have j:=m.out
     rw[if_neg z] at j;have q:=Lib.hid j;clear j m;go_wp2;exact bodyPost_ret (v := .int .i64 (j5 (gt X k) (gt Y k))) (by simp[results,Tryz.results202,go_sem]) rfl ⟨by rw[q.out],rfl⟩
   ·have r:k=Y.length:=by omega
    subst r;rw[sW p,List.drop_length] at i;simp only[gm] at i;have m:=Lib.hid i;clear i;go_wp2;exact bodyPost_ret (v := .int .i64 1) (by simp[results,Tryz.results202,go_sem]) rfl ⟨by rw[m.out],rfl⟩
  ·have r:k=X.length:=by omega
   subst r;rw[List.drop_length] at i;by_cases l:X.length<Y.length
   ·rw [sW l] at i
    simp only[gm] at i;have m:=Lib.hid i;clear i;go_wp2;exact bodyPost_ret (v := .int .i64 (-1)) (by simp[results,Tryz.results202,go_sem]) rfl ⟨by rw[m.out],rfl⟩
   ·have u:Y.length<=X.length:=by omega
    rw[List.drop_of_length_le u] at i;simp only[gm] at i;have m:=Lib.hid i;clear i;go_wp2;exact bodyPost_ret (v := .int .i64 0) (by simp[results,Tryz.results202,go_sem]) rfl ⟨by rw[m.out],rfl⟩
theorem nk (a b:Int):(j5 a b = -1/\a<b)\/(j5 a b=0/\a=b)\/(j5 a b=1/\b<a):=by
 unfold j5;by_cases h:a<b
 ·simp[h]
 ·by_cases e:b<a
  ·simp[h,e]
  ·simp[h,e];omega
theorem uh:∀(x y:List Int),gm x y=0↔x=y
 | [],[]=>by simp[gm]
 | [],_ :: _=>by simp[gm]
 | _ :: _,[]=>by simp[gm]
 | x :: xs,y :: ys=>by
  simp only[gm];rcases nk x y with⟨h,a⟩|⟨h,a⟩|⟨h,a⟩
  ·simp[h];omega
  ·rw[if_pos h,uh xs ys];simp[a]
  ·simp[h];omega
theorem rJ:∀(x y:List Int),gm y x = - gm x y
 | [],[]=>by simp[gm]
 | [],_ :: _=>by simp[gm]
 | _ :: _,[]=>by simp[gm]
 | x :: xs,y :: ys=>by
  simp only[gm];have a:=rJ xs ys;rcases nk x y with⟨h,h2⟩|⟨h,h2⟩|⟨h,h2⟩<;>rcases nk y x with⟨k,k2⟩|⟨k,k2⟩|⟨k,k2⟩<;>simp[h,k,a]<;>omega
theorem Bo:∀(x y z:List Int),gm x y<=0->gm y z<=0->gm x z<=0
 | [],[],[]=>by simp[gm]
 | [],[],_ :: _=>by simp[gm]
 | [],_ :: _,[]=>by simp[gm]
 | [],_ :: _,_ :: _=>by simp[gm]
 | _ :: _,[],[]=>by simp[gm]
 | _ :: _,[],_ :: _=>by simp[gm]
 | _ :: _,_ :: _,[]=>by simp[gm]
 | x :: xs,y :: ys,z :: zs=>by
  simp only[gm];have a:=Bo xs ys zs;rcases nk x y with⟨h,h2⟩|⟨h,h2⟩|⟨h,h2⟩<;>rcases nk y z with⟨k,k2⟩|⟨k,k2⟩|⟨k,k2⟩<;>rcases nk x z with⟨l,l2⟩|⟨l,l2⟩|⟨l,l2⟩<;>simp[h,k,l]<;>first|omega|(intros;omega)|exact a|skip
theorem QZ (x y:List Int):gm x y<=0\/gm y x<=0:=by have:=rJ x y;omega
theorem Q0 {x y:List Int}(h:gm x y<=0) (k:gm y x<=0):x=y:=by
 have:=rJ x y;exact(uh x y).1 (by omega)
def zl (L:List (List Int)):Prop:=L.Pairwise (λx y=>gm x y<=0)
def uj (L:List (List Int)):List (List Int):=L.mergeSort (λx y=>decide (gm x y<=0))
theorem Ji (L:List (List Int)):(uj L).Perm L:=List.mergeSort_perm _ _
theorem Q1 (L:List (List Int)):zl (uj L):=by
 have h:=List.pairwise_mergeSort (le:=λx y=>decide (gm x y<=0)) (λa b c h k=>by simp at *;exact Bo a b c h k) (λa b=>by simp;exact QZ a b) L;exact h.imp (λh=>by simpa using h)
theorem Q3:∀(L M:List (List Int)),zl L->zl M->L.Perm M->L=M:=by
 intro L;induction L with
 | nil=>intro M _ _ h;exact(List.nil_perm.1 h).symm▸rfl
 | cons x L m=>
  intro M j l a;cases M with
  | nil=>exact absurd a.symm (by simp)
  | cons y M=>
   have b:x∈y :: M:=a.subset (by simp);have e:y∈x :: L:=a.symm.subset (by simp)
   have i:x=y:=by
    rcases List.mem_cons.1 b with h|h
    ·exact h
    ·rcases List.mem_cons.1 e with k|k
     ·exact k.symm
     ·exact Q0 ((List.pairwise_cons.1 j).1 y k) ((List.pairwise_cons.1 l).1 x h)
   subst i;rw[m M (List.pairwise_cons.1 j).2 (List.pairwise_cons.1 l).2 (List.perm_cons x |>.1 a)]
theorem iW {α:Type} [Inhabited α] {l:List α}{i:Nat}(h:i<l.length):gt l i∈l:=by
 simp only[gt,List.getD_eq_getElem?_getD,List.getElem?_eq_getElem h,Option.getD_some];exact List.getElem_mem h
theorem oW {α:Type} [Inhabited α] {l:List α}{x:α}(h:x∈l):∃i,i<l.length/\gt l i=x:=by
 obtain⟨i,hi,rfl⟩:=List.getElem_of_mem h;exact⟨i,hi,by simp[gt,hi]⟩
end Go.Proofs.YtoakmefajbbggaaGreat
namespace Go.Proofs.YtoakmefajbbggaaGreat
theorem Jj:∀(a b:List Int) (u v:Int),a.length=b.length->gm (a++[u]) (b++[v])=if gm a b=0 then gm [u] [v] else gm a b
 | [],[],u,v,_=>by simp[gm]
 | [],_ :: _,_,_,h=>by simp at h
 | _ :: _,[],_,_,h=>by simp at h
 | x :: a,y :: b,u,v,h=>by
  have e:=Jj a b u v (by simpa using h);generalize gm [u] [v]=c at e ⊢;simp only[List.cons_append,gm];rcases nk x y with⟨h1,_⟩|⟨h1,_⟩|⟨h1,_⟩<;>simp[h1,e]
theorem Q4 (u v:Int):(gm [u] [v]<0↔u<v)/\(gm [u] [v]=0↔u=v):=by
 simp only[gm];rcases nk u v with⟨h1,h2⟩|⟨h1,h2⟩|⟨h1,h2⟩<;>simp[h1]<;>omega
theorem DM {P:Pr}(hP:Valid P) {x y:List Int}(hx:dL P.orders x) (hy:dL P.orders y):gm x y<0↔num P x<num P y:=by
 have key:∀k,k<=P.orders.length->(gm (x.take k) (y.take k)<0↔iq P.orders x k<iq P.orders y k)/\(gm (x.take k) (y.take k)=0↔iq P.orders x k=iq P.orders y k):=by
  intro k;induction k with
  | zero=>intro _;simp[iq,gm]
  | succ k j=>
   intro hk;obtain⟨h1,h2⟩:=j (by omega);have p:=hP.gh k (by omega);have l:=hx.2 k (by omega);have m:=hy.2 k (by omega);rw[je x k (by rw[hx.1];omega),je y k (by rw[hy.1];omega),Jj _ _ _ _ (by simp[hx.1,hy.1])];simp only[iq];obtain⟨c1,c2⟩:=Q4 (gt x k) (gt y k);rcases Int.lt_trichotomy (iq P.orders x k) (iq P.orders y k) with h|h|h
   ·have a:gm (x.take k) (y.take k)<0:=h1.2 h
    rw[if_neg (by omega)];have i:(iq P.orders x k+1)*gt P.orders k<=iq P.orders y k*gt P.orders k:=Int.mul_le_mul_of_nonneg_right (by omega) (by omega);rw[Int.add_mul,Int.one_mul] at i;exact⟨⟨λ_=>by omega,λ_=>a⟩,⟨λh=>by omega,λh=>by omega⟩⟩
   ·have a:gm (x.take k) (y.take k)=0:=h2.2 h
    rw[if_pos a,h];exact⟨by rw[c1];omega,by rw[c2];omega⟩
   ·have a:¬gm (x.take k) (y.take k)<0:=λe=>by have:=h1.1 e;omega
    have b:¬gm (x.take k) (y.take k)=0:=λe=>by have:=h2.1 e;omega
    rw[if_neg b];have i:(iq P.orders y k+1)*gt P.orders k<=iq P.orders x k*gt P.orders k:=Int.mul_le_mul_of_nonneg_right (by omega) (by omega);rw[Int.add_mul,Int.one_mul] at i;exact⟨⟨λh=>absurd h a,λh=>by omega⟩,⟨λh=>absurd h b,λh=>by omega⟩⟩
 have h:=(key P.orders.length (Nat.le_refl _)).1;rw[List.take_of_length_le (by rw[hx.1];omega),List.take_of_length_le (by rw[hy.1];omega)] at h;exact h
theorem Q5 {P:Pr}(hP:Valid P) {L M:List (List Int)}(l:∀x∈L,dL P.orders x) (j:L.Pairwise (λx y=>num P x<num P y)) (p:M.Pairwise (λx y=>num P x<num P y)) (h:∀x,x∈L↔x∈M):L=M:=by
 have nd:∀ {K:List (List Int)},K.Pairwise (λx y=>num P x<num P y)->K.Nodup:=λq=>q.imp (λh e=>by rw[e] at h;omega);have r:L.Perm M:=(List.perm_ext_iff_of_nodup (nd j) (nd p)).2 h;have k:∀x∈M,dL P.orders x:=λx hx=>l x ((h x).2 hx)
 have u:zl L:=by
  refine List.Pairwise.imp_of_mem ?_ j;intro a b ha m i;have:=(DM hP (l a ha) (l b m)).2 i;omega
 have w:zl M:=by
  refine List.Pairwise.imp_of_mem ?_ p;intro a b ha m i;have:=(DM hP (k a ha) (k b m)).2 i;omega
 exact Q3 L M u w r
open Classical in
noncomputable def jQ (P:Pr) (H:List Int->Prop):List (List Int):=(List.range (eW P).toNat).filterMap (λt:Nat=>if H (fF P (t:Int)) then some (fF P (t:Int)) else none)
theorem nL {P:Pr}(hP:Valid P) {H:List Int->Prop}(hH:∀x,H x->dL P.orders x) (x:List Int):x∈jQ P H↔H x:=by
 unfold jQ;rw[List.mem_filterMap];constructor
 ·rintro ⟨t,_,h⟩
  split at h
  ·cases h;assumption
  ·cases h
 ·intro h
  have a:=oB hP (hH x h);refine⟨(num P x).toNat,List.mem_range.2 (by omega),?_⟩
  have e:fF P (((num P x).toNat:Nat):Int)=x:=by
   rw[show(((num P x).toNat:Nat):Int)=num P x by omega];exact uX hP (hH x h)
  rw[e,if_pos h]
theorem DN {P:Pr}(hP:Valid P) (H:List Int->Prop):(jQ P H).Pairwise (λx y=>num P x<num P y):=by
 unfold jQ;rw[List.pairwise_filterMap];refine List.Pairwise.imp_of_mem ?_ (List.pairwise_lt_range (n:=(eW P).toNat));intro a b ha e i x hx y hy;have j:=List.mem_range.1 ha;have k:=List.mem_range.1 e;split at hx
 ·split at hy
  ·cases hx;cases hy
   rw[tK hP _ (by omega) (by omega),tK hP _ (by omega) (by omega)];omega
  ·cases hy
 ·cases hx
theorem Q6 {P:Pr}(hP:Valid P) {H:List Int->Prop}(hH:∀x,H x->dL P.orders x) {L:List (List Int)}(q:L.Nodup) (r:∀x,x∈L↔H x):uj L=jQ P H:=by
 have p:=Ji L;have i:∀x,x∈uj L↔H x:=λx=>p.mem_iff.trans (r x);have j:(uj L).Nodup:=p.nodup_iff.2 q;refine Q5 hP (λx hx=>hH x ((i x).1 hx)) ?_ (DN hP H) (λx=>(i x).trans (nL hP hH x).symm);have u:=Q1 L
 have w:(uj L).Pairwise (λx y=>gm x y<=0/\x≠y):=by
  have:=List.pairwise_and_iff.2 ⟨u,j⟩;exact this
 refine List.Pairwise.imp_of_mem ?_ w;intro a b ha z k;have l:=hH a ((i a).1 ha);have m:=hH b ((i b).1 z);refine(DM hP l m).1 ?_;have A:gm a b≠0:=λe=>k.2 ((uh a b).1 e);omega
def rK (P:Pr) (u:List Int) (o:Nat) (x:List Int):List (List Int):=(List.range o).map (λt=>fC P x (pw P u t))
def lF (P:Pr) (U:List (List Int)):Nat->List (List Int)
 | 0=>[zeros P.orders.length]
 | k+1=>(lF P U k).flatMap (rK P (gt U k) (gt P.orders (dep (gt U k))).toNat)
section
variable {P:Pr}(G:ez P)
include G
omit G in
theorem zm {H:List Int->Prop}{U:List (List Int)}(S:Sub P H) (a:∀z∈U,H z):∀k,k<=U.length->∀x∈lF P U k,H x:=by
 intro k;induction k with
 | zero=>intro _ x hx;simp[lF] at hx;rw[hx];exact S.one
 | succ k b=>
  intro hk x hx;simp only[lF,List.mem_flatMap,rK,List.mem_map] at hx;obtain⟨y,hy,t,_,rfl⟩:=hx;exact S.mul _ _ (b (by omega) y hy) (S.pw (a _ (fT (by omega))) t)
theorem ez.Q8 {U:List (List Int)}(w:iY P U):∀k m,k<=U.length->(∀j,j<k->dep (gt U j)<m)->m<=P.orders.length->(lF P U k).Pairwise (λx y=>∃j,j<m/\gt x j≠gt y j):=by
 intro k;induction k with
 | zero=>intro m _ _ _;simp[lF]
 | succ k F=>
  intro m hk A L;have q:k<U.length:=by omega
  obtain⟨H,r,h1⟩:=w.1 _ (fT q);have B:=A k (by omega);have D:=qF H;have C:=F (dep (gt U k)) (by omega) (λj A=>w.2 j k A q) (by omega);have e:∀x∈lF P U k,dL P.orders x:=zm G.ze (λz I=>(w.1 z I).1) k (by omega);have J:=G.v.ord (dep (gt U k)) r
  have i:∀x,dL P.orders x->∀t:Nat,t<(gt P.orders (dep (gt U k))).toNat->gt (fC P x (pw P (gt U k) t)) (dep (gt U k))=(gt x (dep (gt U k))+t)%gt P.orders (dep (gt U k))/\∀j,j<dep (gt U k)->gt (fC P x (pw P (gt U k) t)) j=gt x j:=λx hx t l=>by
   have E:=G.right (Nat.le_of_lt r) hx (G.l8 (Nat.le_of_lt r) D t);refine⟨?_,E.1⟩;rw[E.2 r,G.p7 r D,h1,Int.mul_one,Int.emod_eq_of_lt (show(0:Int)<=t by omega) (by omega)]
  simp only[lF];rw[List.pairwise_flatMap];refine⟨λx hx => ?_,?_⟩
  ·unfold rK
   rw[List.pairwise_map];refine List.Pairwise.imp_of_mem ?_ List.pairwise_lt_range;intro s t p l K;have p:=List.mem_range.1 p;have l:=List.mem_range.1 l;refine⟨dep (gt U k),B,?_⟩;rw[(i x (e x hx) s p).1,(i x (e x hx) t l).1];rcases J with h|h|h|h<;>rw[h] at p l ⊢ <;> omega
  ·refine List.Pairwise.imp_of_mem ?_ C
   rintro x y hx hy ⟨j,u,hne⟩ a ha b hb;simp only[rK,List.mem_map,List.mem_range] at ha hb;obtain⟨s,p,rfl⟩:=ha;obtain⟨t,l,rfl⟩:=hb;exact⟨j,by omega,by rw[(i x (e x hx) s p).2 j u,(i y (e y hy) t l).2 j u];exact hne⟩
theorem ez.Q9 {U:List (List Int)}(a:iY P U):(lF P U U.length).Nodup:=
 (G.Q8 a U.length P.orders.length (Nat.le_refl _) (λj b=>(a.1 _ (fT b)).2.1) (Nat.le_refl _)).imp (λ⟨j,_,h⟩ e=>h (by rw[e]))
def xk (P:Pr) (U:List (List Int)) (k:Nat):Nat:=if k<U.length then dep (gt U k) else P.orders.length
theorem ez.Jk {H:List Int->Prop}{U:List (List Int)}(p:iY P U) (q:∀x,H x->dL P.orders x) (a:∀x,H x->∀d,d<P.orders.length->T P d x->gt x d≠0->∃j,j<U.length/\dep (gt U j)=d) (k m:Nat) (hk:k<=U.length) (r:∀j,j<k->dep (gt U j)<m) {z:List Int}(i:H z) (u:∀j,j<m->gt z j=0):T P (xk P U k) z:=by
 by_cases l:z=zeros P.orders.length
 ·rw[l];exact T.zeros G.v _
 ·obtain ⟨d,hd,Jl,b⟩:=uP (q z i) l
  obtain⟨j,hj,sA⟩:=a z i d hd Jl b
  have w:m<=d:=by
   rcases Nat.lt_or_ge d m with h|h
   ·exact absurd (u d h) b
   ·exact h
  have y:k<=j:=by
   rcases Nat.lt_or_ge j k with h|h
   ·have:=r j h;omega
   ·exact h
  have e:xk P U k<=d:=by
   unfold xk;rw[if_pos (by omega)];rcases Nat.lt_or_ge k j with h|h
   ·have:=p.2 k j h hj;omega
   ·have:k=j:=by omega
    rw[this];omega
  exact Jl.down e
theorem ez.Ra {H:List Int->Prop}{U:List (List Int)}(S:Sub P H) (q:iY P U) (m:∀z∈U,H z) (i:∀x,H x->∀d,d<P.orders.length->T P d x->gt x d≠0->∃j,j<U.length/\dep (gt U j)=d) {h:List Int}(u:H h) :
  ∀k,k<=U.length->∃x z,x∈lF P U k/\H z/\T P (xk P U k) z/\h=fC P x z:=by
 intro k;induction k with
 | zero=>exact λ_=>⟨zeros P.orders.length,h,by simp[lF],u,G.Jk q S.vec i 0 0 (by omega) (λj w=>by omega) u (λj w=>by omega),(G.fS.el _ (S.vec h u)).symm⟩
 | succ k I=>
  intro hk;have b:k<U.length:=by omega
  obtain⟨x,z,hx,D,e,rfl⟩:=I (by omega);unfold xk at e;rw[if_pos b] at e;obtain⟨E,r,h1⟩:=q.1 _ (fT b);have F:=qF E;have J:=e.1.2 _ r;have y:=S.vec x (zm S m k (by omega) x hx);have a:=G.kf E (gt z (dep (gt U k))).toNat;have A:=G.l8 (Nat.le_of_lt r) F (gt z (dep (gt U k))).toNat
  have B:gt (pw P (gt U k) (gt z (dep (gt U k))).toNat) (dep (gt U k))=gt z (dep (gt U k)):=by
   rw[G.p7 r F,h1,Int.mul_one,Int.emod_eq_of_lt (by omega) (by omega)];omega
  have C:=G.diff r A e B;have p:H (fC P (gj P (pw P (gt U k) (gt z (dep (gt U k))).toNat)) z):=S.mul _ _ (S.inv _ (S.pw (m _ (fT b)) _)) D;have l:=S.vec z D;refine⟨fC P x (pw P (gt U k) (gt z (dep (gt U k))).toNat),_,?_,p,?_,?_⟩
  ·simp only[lF,List.mem_flatMap,rK,List.mem_map,List.mem_range]
   exact⟨x,hx,_,by omega,rfl⟩
  ·exact G.Jk q S.vec i (k+1) (dep (gt U k)+1) hk (λj w=>by
    rcases Nat.lt_succ_iff_lt_or_eq.1 w with h|h
    ·have:=q.2 j k h b;omega
    ·rw[h];omega) p C.2
  ·rw[G.ass y a (G.gz (G.invV a) l),<-G.ass a (G.invV a) l,G.j7 a,G.fS.el _ l]
theorem ez.DO {H:List Int->Prop}{U:List (List Int)}(S:Sub P H) (l:iY P U) (b:∀z∈U,H z) (e:∀x,H x->∀d,d<P.orders.length->T P d x->gt x d≠0->∃j,j<U.length/\dep (gt U j)=d) (h:List Int):h∈lF P U U.length↔H h:=by
 refine⟨zm S b _ (Nat.le_refl _) h,λm => ?_⟩;obtain⟨x,z,hx,hz,a,p⟩:=G.Ra S l b e m U.length (Nat.le_refl _);unfold xk at a;rw[if_neg (by omega)] at a;have i:z=zeros P.orders.length:=dL.ext a.1 (lV G.v) (λk hk=>by rw[a.2 k (by have:=a.1.1;omega)];exact(jw _ _).symm);rw[p,i,G.fS.er _ (S.vec x (zm S b _ (Nat.le_refl _) x hx))];exact hx
theorem ez.iV {H:List Int->Prop}(S:Sub P H):iY P (fD P H)/\(∀z∈fD P H,H z)/\∀x,H x->∀d,d<P.orders.length->T P d x->gt x d≠0->∃j,j<(fD P H).length/\dep (gt (fD P H) j)=d:=by
 obtain⟨r,a,q⟩:=G.DF S;have k:kN P H r r 0:=⟨λe _ _=>Iff.rfl,λe _ h1 b=>a.mem e h1 b,λe e' _ h1 b i u=>a.red e e' h1 b i u⟩;rw[q,zk];refine⟨k.Jc (by omega),λz w => ?_,λx hx d l y A => ?_⟩
 ·obtain ⟨e,_,b,i,rfl⟩:=qR.1 w
  exact(a.mem e (by omega) i).1
 ·have m:=a.piv x hx d l y A
  have B:r d∈sq r P.orders.length 0:=qR.2 ⟨d,by omega,by omega,m,rfl⟩;obtain⟨j,p,rI⟩:=List.getElem_of_mem B;exact⟨j,p,by rw[gM _ j p,rI];exact k.dep (by omega) l m⟩
theorem ez.Rb {H:List Int->Prop}(S:Sub P H):uj (lF P (fD P H) (fD P H).length)=jQ P H:=by
 obtain⟨h1,a,b⟩:=G.iV S;exact Q6 G.v S.vec (G.Q9 h1) (G.DO S h1 a b)
end
end Go.Proofs.YtoakmefajbbggaaGreat
namespace Go.Proofs.YtoakmefajbbggaaGreat
open Go.RowKit
def gT {α:Type} [Inhabited α] (El:(Nat->Prop)->World->Value->α->Prop) (E B:Nat) (A:Nat->Prop) (w:World) (v:Value) (xs:List α):Prop:=
 ∃ (a:List Value) (G:Nat->Nat->Prop),a.length=xs.length/\fK B E w v a/\(∀i k,i<xs.length->G i k->B<=k/\v.ownBlock≠some k/\k<w.heap.size) /\
  (∀i j k,i<xs.length->j<xs.length->G i k->G j k->i=j)/\(∀i,i<xs.length->El (G i) w (gt a i) (gt xs i))/\(∀i k,i<xs.length->G i k->¬A k)/\∀k,v.ownBlock=some k->¬A k
theorem gT.o {α:Type} [Inhabited α] {El:(Nat->Prop)->World->Value->α->Prop}{E B:Nat}{A:Nat->Prop}{w:World}{v:Value}{xs:List α}(h:gT El E B A w v xs):gN El E B w v xs:=by
 obtain⟨a,G,h1,h2,h3,h4,h5,_⟩:=h;exact⟨a,G,h1,h2,h3,h4,h5⟩
theorem gT.ext {α:Type} [Inhabited α] {El:(Nat->Prop)->World->Value->α->Prop}(l:j8 El) {E B:Nat}{A:Nat->Prop}{w w':World}{v:Value}{xs:List α}(h:gT El E B A w v xs) (j:Ext w w'):gT El E B A w' v xs:=by
 obtain⟨p,G,hvl,hO,hG,hd,q,hr⟩:=h;refine⟨p,G,hvl,hO.kept j (by cases r:v.ownBlock<;>simp),λi k m hk => ?_,hd,λi m=>l.mono (q i m) (λk hk e=>⟨hk,Nat.lt_of_lt_of_le e j.size,j.block k e (by simp)⟩),hr⟩;obtain⟨a,b,c⟩:=hG i k m hk;exact⟨a,b,Nat.lt_of_lt_of_le c j.size⟩
theorem gT.more {α:Type} [Inhabited α] {El:(Nat->Prop)->World->Value->α->Prop}{E B:Nat}{A A':Nat->Prop}{w:World}{v:Value}{xs:List α}(h:gT El E B A w v xs) (a:∀k,A' k->A k\/w.heap.size<=k):gT El E B A' w v xs:=by
 obtain⟨l,G,h1,b,e,h4,h5,h6,h7⟩:=h;refine⟨l,G,h1,b,e,h4,h5,λi k j hk ha => ?_,λk hk ha => ?_⟩
 ·rcases a k ha with h|h
  ·exact h6 i k j hk h
  ·have:=(e i k j hk).2.2;omega
 ·rcases a k ha with h|h
  ·exact h7 k hk h
  ·have:=(b.lt k hk).2;omega
theorem gT.less {α:Type} [Inhabited α] {El:(Nat->Prop)->World->Value->α->Prop}{E B:Nat}{A A':Nat->Prop}{w:World}{v:Value}{xs:List α}(h:gT El E B A w v xs) (a:∀k,A' k->A k):gT El E B A' w v xs:=
 h.more λk hk => .inl (a k hk)
theorem gT.uI {α:Type} [Inhabited α] {El:(Nat->Prop)->World->Value->α->Prop}{E B:Nat}{A:Nat->Prop}{w:World}{v:Value}{xs:List α}(h:gT El E B A w v xs) (k:Nat) (hk:v.ownBlock=some k):¬A k/\B<=k/\k<w.heap.size:=by
 obtain⟨a,G,h1,h2,h3,h4,h5,h6,h7⟩:=h;exact⟨h7 k hk,h2.lt k hk⟩
theorem gT.kept {α:Type} [Inhabited α] {El:(Nat->Prop)->World->Value->α->Prop}(q:j8 El) {E B m:Nat}{A:Nat->Prop}{w w':World}{v:Value}{xs:List α}(h:gT El E B A w v xs) (l:w.grownBy w' (some m)) (r:A m):gT El E B A w' v xs:=by
 obtain⟨u,G,hvl,hO,hG,hd,y,hr,hr2⟩:=h;refine⟨u,G,hvl,hO.kept l ?_,λi k p hk => ?_,hd,λi p=>q.mono (y i p) (λk hk j=>⟨hk,Nat.lt_of_lt_of_le j l.size,l.block k j (λe=>hr i k p hk (by cases e;exact r))⟩),hr,hr2⟩
 ·cases hv:v.ownBlock with
  | none=>exact .inl rfl
  | some b=>exact .inr (λe=>hr2 b hv (by cases e;exact r))
 ·obtain ⟨a,b,c⟩:=hG i k p hk
  exact⟨a,b,Nat.lt_of_lt_of_le c l.size⟩
theorem Fa {α:Type} [Inhabited α] {El:(Nat->Prop)->World->Value->α->Prop}(F:j8 El) (T E:Nat) (z:Value) (bytes:Nat) (hT:Tryz.prog.underlying T=some (.slice E))
  (hE:(Tryz.prog.info? E).map (λi=>(i.zero,i.size,i.bytes))=some (some z,1,bytes)) (X:z.cells.size=1) (Y:bytes<=64)
  {K:Array Oper}{rest:List Oper}{o:Oper}{a:Act}{Q:Exit->Act->World->Prop}{w:World}(Z:o.guard=none) (s x:Operand)
  (ho:o.op=Op.call { callee:=Callee.builtin Builtin.append,args := #[s,x],argTypes := #[T,T] }) (B:Nat) (A:Nat->Prop) (D p:World) (v u:Value) (xs:List α) (y:α) (hs:a.eval s=v) (L:gT El E B A D v xs) (hA:∀k,A k->k<D.heap.size)
  (r:Option Nat) (H:D.grownBy p r) (M:∀k,r=some k->A k) (hu:El (From D.heap.size) p u y) (hw:w=p.alloc (.cells #[u] E)) (hx:a.eval x=.slice (some ⟨p.heap.size,0,none⟩) 1 1) (aj:xs.length<=1000000) (aa:B<=D.heap.size)
  (h:∀N w',gT El E B A w' N (xs++[y])->p.grownBy w' v.ownBlock->wpList Tryz.prog K Q rest (a.put o.dst N) w') :
  wpList Tryz.prog K Q (o :: rest) a w:=by
 subst hw;obtain⟨vs,G,I,hO,hG,hd,ac,hr,hr2⟩:=L;have O:Ext p (p.alloc (.cells #[u] E)):=World.grownBy_alloc _ _ _
 have ad:v.ownBlock=none\/v.ownBlock≠r:=by
  cases hv:v.ownBlock with
  | none=>exact .inl rfl
  | some b=>exact .inr (λe=>hr2 b hv (M b e.symm))
 have ae:fK B E (p.alloc (.cells #[u] E)) v vs:=hO.kept (dy H (fH _ O)) ad;refine nX T E z bytes hT hE X Y Z s x ho B v vs hs ae (some ⟨p.heap.size,0,none⟩) 1 1 [u] hx rfl (by simp) ?_ ?_ (by omega) (by have:=H.size;simp;omega) ?_
 ·intro j hj
  have:j=0:=by omega
  subst this;exact⟨p.heap.size,0,rfl,by rw[World.cell?_alloc_at _ _ _ _ rfl];rfl⟩
 ·intro u' R
  simp at R;subst R;exact F.one hu
 ·intro N w' h1 h2 _ af
  have S:∀k,v.ownBlock=some k->B<=k/\k<D.heap.size:=hO.lt;have q:p.grownBy w' v.ownBlock:=dy (fH _ O) h2;have U:D.heap.size<=w'.heap.size:=Nat.le_trans H.size q.size
  have C:∀k,N.ownBlock=some k->v.ownBlock=some k\/p.heap.size<k:=by
   intro k hk;rcases af with h|h
   ·exact .inl (by rw[<-h];exact hk)
   ·rw [h] at hk
    have:(p.alloc (.cells #[u] E)).heap.size=k:=by simpa using hk
    simp at this
    exact .inr (by omega)
  refine h N w' ⟨vs++[u],λi k=>if i<xs.length then G i k/\k<D.heap.size else D.heap.size<=k/\k<p.heap.size,by simp[I],h1,?_,?_,?_,?_,?_⟩ q
  ·intro i k V hk
   split at hk
   ·rename_i m
    obtain⟨a1,a2,a3⟩:=hG i k m hk.1;refine⟨a1,λJ => ?_,Nat.lt_of_lt_of_le a3 U⟩;rcases C k J with h|h
    ·exact a2 h
    ·have:=H.size;omega
   ·refine ⟨by omega,λJ => ?_,Nat.lt_of_lt_of_le hk.2 q.size⟩
    rcases C k J with h|h
    ·have:=S k h;omega
    ·omega
  ·intro i j k V hj hk W
   simp only[List.length_append,List.length_singleton] at V hj;split at hk<;>split at W
   ·exact hd i j k (by assumption) (by assumption) hk.1 W.1
   ·omega
   ·omega
   ·omega
  ·intro i V
   simp only[List.length_append,List.length_singleton] at V;by_cases m:i<xs.length
   ·rw [iX _ _ _ (by omega),iX _ _ _ m]
    simp only[if_pos m];exact F.mono (ac i m) (λk hk l=>⟨⟨hk,l⟩,Nat.lt_of_lt_of_le l U,(q.block k (Nat.lt_of_lt_of_le l H.size) (λe=>(hG i k m hk).2.1 e.symm)).trans (H.block k l (λe=>hr i k m hk (M k e.symm)))⟩)
   ·have ag:i=xs.length:=by omega
    subst ag;rw[kr,<-I,kr];simp only[I,Nat.lt_irrefl,if_false]
    exact F.mono hu (λk hk l=>⟨⟨hk,l⟩,Nat.lt_of_lt_of_le l q.size,q.block k l (λe=>by
     have hk:D.heap.size<=k:=hk;have:=S k e.symm;omega)⟩)
  ·intro i k V hk ha
   split at hk
   ·exact hr i k (by assumption) hk.1 ha
   ·have:=hA k ha;omega
  ·intro k hk ha
   rcases C k hk with h|h
   ·exact hr2 k h ha
   ·have:=hA k ha;have:=H.size;omega
theorem Rc {j:Array Oper}{rest:List Oper}{o:Oper}{a:Act}{Q:Exit->Act->World->Prop}{w:World}(p:o.guard=none) (s x:Operand)
  (C:o.op=Op.call { callee:=Callee.builtin Builtin.append,args := #[s,x],argTypes := #[25,25] }) (B:Nat) (A:Nat->Prop) (e i:World) (v u:Value) (xs:List (List Int)) (y:List Int) (D:a.eval s=v)
  (l:gT gf 24 B A e v xs) (E:∀k,A k->k<e.heap.size)
  (r:Option Nat) (F:e.grownBy i r) (q:∀k,r=some k->A k) (G:gf (From e.heap.size) i u y) (H:w=i.alloc (.cells #[u] 24)) (hx:a.eval x=.slice (some ⟨i.heap.size,0,none⟩) 1 1) (m:xs.length<=1000000) (b:B<=e.heap.size)
  (h:∀z w',gT gf 24 B A w' z (xs++[y])->i.grownBy w' v.ownBlock->wpList Tryz.prog j Q rest (a.put o.dst z) w') :
  wpList Tryz.prog j Q (o :: rest) a w:=
 Fa gX 25 24 (.slice none 0 0) 24 qg Tryz.qh rfl (by decide) p s x C B A e i v u xs y D l E r F q G H hx m b h
theorem vg (T E:Nat) (z:Value) (bytes:Nat) (C:Tryz.prog.underlying T=some (.slice E)) (D:(Tryz.prog.info? E).map (λi=>(i.zero,i.size,i.bytes))=some (some z,1,bytes))
  (q:z.cells.size=1) (r:bytes<=64) {y:Array Oper}{o:Oper}{a:Act}{K:Act->World->Prop}{Q:Exit->Act->World->Prop}{F:Prop}{w:World}(A:o.guard=none) (s x:Operand)
  (G:o.op=Op.call { callee:=Callee.builtin Builtin.append,args := #[s,x],argTypes := #[T,T] }) (base:Nat) (v:Value) (xs:List Value) (I:a.eval s=v) (e:fK base E w v xs)
  (H:Nat) (u:Value) (hx:a.eval x=.slice (some ⟨H,0,none⟩) 1 1) (J:w.cell? ⟨H,0,none⟩=some u) (h1:u.oneCell'=true) (B:xs.length<=2000000) (b:base<=w.heap.size)
  (h:∀m w',fK base E w' m (xs++[u])->w.grownBy w' v.ownBlock->(m.ownBlock=v.ownBlock\/m.ownBlock=some w.heap.size)->K (a.put o.dst m) w') :
  if Region.wanted o (yielded y a.tmps)=true then Oper.wp Tryz.prog o a w K Q else F:=by
 obtain⟨L,hi,hz0,hz1,hz2⟩:=info_parts D;refine step_append_lies w A s x T G base E L z 1 bytes C hi hz0 hz1 hz2 q (by decide) v xs.length xs I e ⟨H,0,none⟩ 1 1 [u] hx rfl ?_ ?_ (by omega) (by unfold maxLen;omega) (by have:=Nat.mul_le_mul (show xs.length+1<=2000001 by omega) r;omega) b w.heap.size rfl ?_
 ·intro j M p
  match j,p with
  | 0,p=>
   simp at p;subst p
   simpa [Addr.add] using J
 ·intro M k
  simp at k;subst k;exact h1
 ·intro g cap w' N O l _
  refine h _ w' ?_ O ?_
  ·unfold fK;rw[List.length_append];exact N
  ·rcases l with l|l
   ·left;rw[l];rfl
   ·right;rw[<-l];rfl
theorem GM {P:Program}(w:World) {y:Array Oper}{o:Oper}{a:Act}{K:Act->World->Prop}{Q:Exit->Act->World->Prop}{N:Prop}
  (O:o.guard=none) (s x:Operand) (t:TypeId) (A:o.op=Op.call { callee:=Callee.builtin Builtin.append,args := #[s,x],argTypes := #[t,t] })
  (e:TypeId) (i:TypeInfo) (z:Value) (size bytes:Nat) (h1:P.underlying t=some (.slice e)) (H:P.info? e=some i) (R:i.zero=some z) (I:i.size=size) (S:i.bytes=bytes) (T:z.cells.size=size) (U:0<size)
  (b off n cap:Nat) (k:List Value) (J:a.eval s=.slice (some ⟨b,off,none⟩) n cap) (F:k.length=n*size) (holds:∀j u,k[j]? = some u->w.cell? ⟨b,off+j,none⟩=some u)
  (C:Addr) (m c:Nat) (news:List Value) (hx:a.eval x=.slice (some C) m c) (L:news.length=m*size) (M:∀j u,news[j]? = some u->w.cell? (C.add j)=some u) (G:∀u∈news,u.oneCell'=true)
  (l:n+m<=cap->∀j,j<news.length->(w.cell? ⟨b,off+n*size+j,none⟩).isSome=true/\w.frozen? ⟨b,off+n*size+j,none⟩=false)
  (b1:n+m<=maxLen) (b2:(n+m)*bytes<=140737488355328)
  (q:n+m<=cap->K (a.put o.dst (.slice (some ⟨b,off,none⟩) (n+m) cap)) (w.setCells b (off+n*size) news))
  (r:cap<n+m->∀D w',w'.ownsRow w.heap.size e size D (n+m) (k++news)->w.grownBy w' none->K (a.put o.dst D) w') :
  if Region.wanted o (yielded y a.tmps)=true then Oper.wp P o a w K Q else N:=by
 have V:Region.wanted o (yielded y a.tmps)=true:=by simp[Region.wanted,O]
 rw[if_pos V];by_cases E:n+m<=cap
 ·subst I
  have p:=run_append_room_cells (P:=P) w t o.type e i h1 H b off n cap C m c news L M G E (λj B=>(l E j B).1) (λj B=>(l E j B).2);unfold Oper.wp;simp[execOp,A,resolve,invoke,builtin,J,hx,p,Result.andThen]
  exact q E
 ·obtain ⟨D,w',p,W,X⟩:=run_append_arg_grows (P:=P) w t o.type e i z size bytes h1 H R I S T U ⟨b,off,none⟩ n cap k F (λj u B=>by rw[Addr.add_lit];exact holds j u B) C m c news L M (by omega) b1 b2
  unfold Oper.wp;simp[execOp,A,resolve,invoke,builtin,J,hx,p,Result.andThen]
  exact r (by omega) D w' W X
theorem Re (T E:Nat) (z:Value) (bytes:Nat) (U:Tryz.prog.underlying T=some (.slice E)) (V:(Tryz.prog.info? E).map (λi=>(i.zero,i.size,i.bytes))=some (some z,1,bytes))
  (A:z.cells.size=1) (B:bytes<=64) {J:Array Oper}{o:Oper}{a:Act}{K:Act->World->Prop}{Q:Exit->Act->World->Prop}{Ex:Prop}{w:World}(C:o.guard=none) (s x:Operand)
  (W:o.op=Op.call { callee:=Callee.builtin Builtin.append,args := #[s,x],argTypes := #[T,T] }) (base:Nat) (v:Value) (xs:List Value) (X:a.eval s=v) (D:iH base E w v xs)
  (H:Nat) (u:Value) (hx:a.eval x=.slice (some ⟨H,0,none⟩) 1 1) (Y:w.cell? ⟨H,0,none⟩=some u) (h1:u.oneCell'=true) (Z:xs.length<=1000000) (q:base<=w.heap.size)
  (h:∀p w',iH base E w' p (xs++[u])->w.grownBy w' v.ownBlock->(p.ownBlock=v.ownBlock\/∀k,p.ownBlock=some k->w.heap.size<=k)->K (a.put o.dst p) w') :
  if Region.wanted o (yielded J a.tmps)=true then Oper.wp Tryz.prog o a w K Q else Ex:=by
 rcases D with⟨rfl,rfl⟩|⟨g,off,cap,cur,rfl,hb,G,hnc,hcm,hsz,hc⟩
 ·refine vg T E z bytes U V A B C s x W base (.slice none 0 0) [] X (World.ownsRow_nil _ _ _ _) H u hx Y h1 (by simp) q ?_
  intro p w' I L k4;exact h p w' (iH.of I) L (k4.imp id (λe k hk=>by rw[e] at hk;cases hk;exact Nat.le_refl _))
 ·obtain ⟨i0,M,hz0,hz1,hz2⟩:=info_parts V
  have af:g<w.heap.size:=(Array.getElem?_eq_some_iff.1 G).1
  have b:∀i,i<cur.size->w.cell? ⟨g,i,none⟩=cur[i]? :=λi _=>by
   simp only[World.cell?,G,Option.isSome_none,Bool.false_eq_true,if_false]
  refine GM w C s x T W E i0 z 1 bytes U M hz0 hz1 hz2 A (by decide) g off xs.length cap xs X (by omega) ?_ ⟨H,0,none⟩ 1 1 [u] hx rfl ?_ ?_ ?_ (by unfold maxLen;omega) (by have:=Nat.mul_le_mul (show xs.length+1<=1000001 by omega) B;omega) ?_ ?_
  ·intro j u' m
   have N:j<xs.length:=by
    rcases Nat.lt_or_ge j xs.length with h|h
    ·exact h
    ·rw[List.getElem?_eq_none h] at m;cases m
   rw[b _ (by omega),hc j N];simp[gt,m]
  ·intro j u' m
   match j,m with
   | 0,m=>
    simp at m;subst m
    simpa [Addr.add] using Y
  ·intro u' F
   simp at F;subst F;exact h1
  ·intro l j m
   have:j=0:=by simpa using m
   subst this;refine⟨?_,?_⟩
   ·rw[b _ (by omega),Array.getElem?_eq_getElem (by omega)];rfl
   ·simp[World.frozen?,G]
  ·intro l
   have e:w.setCells g (off+xs.length*1) [u]=w.setCell ⟨g,off+xs.length,none⟩ u:=by
    simp[World.setCells]
   rw[e];refine h _ _ (.inr ⟨g,off,cap,cur.setIfInBounds (off+xs.length) u,by simp,hb,?_,by simpa using l,hcm,by simpa using hsz,λi M => ?_⟩) ?_ (.inl rfl)
   ·simp only[World.setCell,Array.getElem?_modify,if_true,G,Option.map_some]
    simp
   ·simp only[List.length_append,List.length_singleton] at M
    by_cases ei:i=xs.length
    ·subst ei
     rw[kr,Array.getElem?_setIfInBounds_self];simp;omega
    ·rw [iX _ _ _ (by omega),Array.getElem?_setIfInBounds_ne (by omega)]
     exact hc i (by omega)
   ·exact⟨rfl,rfl,rfl,by simp[World.setCell],λk hk O=>Below.heap_setCell _ _ _ _ (by intro e2;exact O (by rw[e2];rfl))⟩
  ·intro R p w' I L
   have k3:fK base E w' p (xs++[u]):=by
    unfold fK;rw[List.length_append];obtain⟨S,y⟩:=I;refine⟨S,?_⟩;rcases y with h|⟨g',cap',cur',hv,hg',r⟩
    ·exact .inl h
    ·exact .inr ⟨g',cap',cur',hv,by omega,r⟩
   refine h p w' (iH.of k3) (fH _ L) (.inr (λk hk => ?_));obtain⟨_,y⟩:=I;rcases y with h|⟨g',cap',cur',rfl,hg',r⟩
   ·rw[h.1] at hk;simp[Value.ownBlock] at hk
   ·simp [Value.ownBlock] at hk
    omega
theorem Aq {A:Array Oper}{o:Oper}{a:Act}{K:Act->World->Prop}{Q:Exit->Act->World->Prop}{M:Prop}{w:World}(C:o.guard=none) (s x:Operand)
  (N:o.op=Op.call { callee:=Callee.builtin Builtin.append,args := #[s,x],argTypes := #[25,25] }) (bad:Nat->Prop) (B:Nat) (v u:Value) (xs:List (List Int)) (y:List Int) (O:a.eval s=v) (w0:World) (p:gL bad B w0 v xs)
  (R:w=w0.alloc (.cells #[u] 24)) (H:Ints (λk=>¬bad k/\v.ownBlock≠some k) w0 u y) (hx:a.eval x=.slice (some ⟨w0.heap.size,0,none⟩) 1 1) (I:xs.length<=1000000) (D:B<=w0.heap.size)
  (h:∀j w',gL bad B w' j (xs++[y])->w0.grownBy w' v.ownBlock->(j.ownBlock=v.ownBlock\/∀k,j.ownBlock=some k->w0.heap.size<=k)->K (a.put o.dst j) w') :
  if Region.wanted o (yielded A a.tmps)=true then Oper.wp Tryz.prog o a w K Q else M:=by
 subst R;obtain⟨E,J,hq,S⟩:=p;have l:Ext w0 (w0.alloc (.cells #[u] 24)):=World.grownBy_alloc _ _ _;have b:=hq.lt;have F:iH B 24 (w0.alloc (.cells #[u] 24)) v E:=hq.kept (λk hk=>l.block k (b k hk).2 (by simp));have q:u.oneCell'=true:=vW.one H;refine Re 25 24 (.slice none 0 0) 24 qg Tryz.qh rfl (by decide) C s x N B v E O F w0.heap.size u hx (by rw[World.cell?_alloc_at _ _ _ _ rfl];rfl) q (by omega) (by have:=l.size;omega) ?_;intro j w' h1 T L;have m:w0.grownBy w' v.ownBlock:=dy (fH _ l) T
 have r:∀k,k<w0.heap.size->j.ownBlock=some k->v.ownBlock=some k:=λk hk e=>by
  rcases L with h|h
  ·rw[<-h];exact e
  ·have:=h k e;simp at this;omega
 refine h j w' ⟨E++[u],by simp[J],h1,λi U => ?_⟩ m (L.imp id (λh k hk=>by have:=h k hk;simp at this;omega));simp only[List.length_append,List.length_singleton] at U
 have z:∀k,(¬bad k/\v.ownBlock≠some k)->k<w0.heap.size->(¬bad k/\j.ownBlock≠some k)/\k<w'.heap.size/\w'.heap[k]? = w0.heap[k]? :=λk hk b=>
  ⟨⟨hk.1,λe=>hk.2 (r k b e)⟩,Nat.lt_of_lt_of_le b m.size,m.block k b (λe=>hk.2 e.symm)⟩
 by_cases b:i<xs.length
 ·rw [iX _ _ _ (by omega),iX _ _ _ b]
  exact Ints.mono (S i b) z
 ·have G:i=xs.length:=by omega
  subst G;rw[kr,<-J,kr];exact Ints.mono H z
theorem Rf (w:World) (a:Option Addr) (n cap:Nat) (k:Int) (b:0<=k) (h1:k<=n) :
  (Instr.slice 25 (.slice a n cap) (some (.int .i64 k)) none none).run Tryz.prog w=.ok (nB (.slice a n cap) k.toNat n) w:=by
 rw[run_slice_l w 25 a n cap (by kernel_rfl) .i64 k b h1];have:(sizeOf (Tryz.prog.elem 25)).run Tryz.prog w=.ok 1 w:=by kernel_rfl
 rw[this];simp[Result.andThen,sliced,nB]
theorem Sl.vals {α:Type} [Inhabited α] {El:World->Value->α->Prop}{S:Nat->Prop}{w:World}{a:Option Addr}{n cap:Nat}{xs:List α}(h:Sl El S w (.slice a n cap) xs) :
  ∃k:List Value,k.length=xs.length/\∀i,i<xs.length->(∃b off,a=some ⟨b,off,none⟩/\w.cell? ⟨b,off+i,none⟩=some (gt k i))/\El w (gt k i) (gt xs i):=by
 have h1:∀i,∃u,i<xs.length->(∃b off,a=some ⟨b,off,none⟩/\w.cell? ⟨b,off+i,none⟩=some u)/\El w u (gt xs i):=λi=>by
  by_cases j:i<xs.length
  ·obtain ⟨b,off,u,h1,_,_,h4,h5⟩:=h.at i j
   exact⟨u,λ_=>⟨⟨b,off,h1,h4⟩,h5⟩⟩
  ·exact⟨undef,λh=>absurd h j⟩
 obtain⟨f,hf⟩:=Classical.axiomOfChoice h1;refine⟨(List.range xs.length).map f,by simp,λi j => ?_⟩;have e:gt ((List.range xs.length).map f) i=f i:=by simp[gt,j]
 rw[e];exact hf i j
theorem Rg (w:World) (v:Value) (xs:List (List Int)) (S bad:Nat->Prop) (E:dK S w v xs) (J:∀k,S k->k<w.heap.size->¬bad k) (K:xs.length<=1000000) :
  Calls Tryz.prog 180 #[v] w (fq w λw' r=>gL bad w.heap.size w' r xs):=by
 obtain⟨a,cap,rfl,_,_⟩:=Sl.shape E;have Q:=λn=>Lib.run_eql_slice_nil (P:=Tryz.prog) w 25 24 a n cap 0 0 (by kernel_rfl);cases a with
 | none=>
  obtain⟨rfl,rfl⟩:=Sl.BD E;clear E K;go_enter Tryz.func180,Tryz.ntmps180;go_wp2_with fail
  go_ret;exact⟨_,rfl,Ext.refl _,gL.nil _ _ _⟩
 | some a=>
  obtain⟨z,A,m⟩:=Sl.vals E
  have l:∀w',Ext w w'->∀j,j<xs.length->∃b off,some a=some ⟨b,off,none⟩/\w'.cell? ⟨b,off+j,none⟩=some (gt z j):=λw' q j B=>by
   obtain⟨⟨b,off,h1,h2⟩,_⟩:=m j B;exact⟨b,off,h1,q.cell h2 (by simp)⟩
  have h1:∀u,u∈z->u.oneCell'=true:=λu L=>by
   obtain⟨j,B,rfl⟩:=List.getElem_of_mem L;rw[<-gM z j B];exact vW.one (m j (by omega)).2
  have C:∀(y:World) (D:Value),fK w.heap.size 24 y D z->Ext w y->gL bad w.heap.size y D xs:=λy D I q=>by
   refine⟨z,A,iH.of I,λi M=>Ints.mono (m i M).2 (λk hk p=>⟨⟨J k hk p,λe => ?_⟩,Nat.lt_of_lt_of_le p q.size,q.block k p (by simp)⟩)⟩;have:=(I.lt k e).1;omega
  have F:=Lib.hid (And.intro l (And.intro h1 C));clear l h1 C m;go_enter Tryz.func180,Tryz.ntmps180;go_wp2_with (at_builtin;refine nX 25 24 (.slice none 0 0) 24 qg Tryz.qh rfl (by decide) rfl _ _ rfl w.heap.size _ [] rfl (World.ownsRow_lit w #[] 0 (Nat.le_refl _) (by decide) rfl) (some a) xs.length cap z rfl A (by simp) (F.out.1 _ (World.grownBy_alloc _ _ _)) F.out.2.1 (by simp;omega) (by simp) ?_;intro D y G H N O)
  go_ret;have q:Ext w y:=fu (World.grownBy_alloc _ _ _) H (λj B p=>by have:=ku B;omega);exact⟨_,rfl,q,F.out.2.2 y D (by simpa using G) q⟩
theorem fK.weak {B B' E:Nat}{w:World}{v:Value}{a:List Value}(h:fK B E w v a) (b:B'<=B):fK B' E w v a:=by
 obtain⟨h1,e⟩:=h;refine⟨h1,?_⟩;rcases e with h|⟨g,cap,cur,hv,hg,r⟩
 ·exact .inl h
 ·exact .inr ⟨g,cap,cur,hv,Nat.le_trans b hg,r⟩
theorem Rh {H:Array Oper}{rest:List Oper}{o:Oper}{a:Act}{Q:Exit->Act->World->Prop}{w:World}(T:o.guard=none) (s x:Operand)
  (ho:o.op=Op.call { callee:=Callee.builtin Builtin.append,args := #[s,x],argTypes := #[25,25] }) (B:Nat) (E l:World) (v u:Value) (xs:List (List Int)) (y:List Int) (I:iL B E v xs) (hB:B<=E.heap.size)
  (U:Ext E l) (hu:gf (From E.heap.size) l u y) (hw:w=l.alloc (.cells #[u] 24)) (hs:a.eval s=.slice (some ⟨l.heap.size,0,none⟩) 1 1) (hx:a.eval x=v) (Z:xs.length<=1000000)
  (h:∀J w',iL B w' J (y :: xs)->Ext E w'->wpList Tryz.prog H Q rest (a.put o.dst J) w') :
  wpList Tryz.prog H Q (o :: rest) a w:=by
 subst hw;obtain⟨p,F,V,hO,hG,hd,K⟩:=I;have G:Ext l (l.alloc (.cells #[u] 24)):=World.grownBy_alloc _ _ _;have L:=dy U G;have M:fK B 24 (l.alloc (.cells #[u] 24)) v p:=hO.kept L (by cases hv:v.ownBlock<;>simp);have N:fK l.heap.size 24 (l.alloc (.cells #[u] 24)) (.slice (some ⟨l.heap.size,0,none⟩) 1 1) [u]:=World.ownsRow_lit l #[u] 1 (Nat.le_refl _) (by decide) rfl;have ah:=U.size
 have r:∃O c,v=.slice O p.length c/\(O=none->c=0)/\∀j,j<p.length->∃b off,O=some ⟨b,off,none⟩/\(l.alloc (.cells #[u] 24)).cell? ⟨b,off+j,none⟩=some (gt p j):=by
  rcases M.form with⟨rfl,h2⟩|⟨g,cp,rfl,_⟩
  ·exact⟨none,0,by rw[h2];rfl,λ_=>rfl,λj q=>by rw[h2] at q;simp at q⟩
  ·exact⟨_,_,rfl,λh=>by simp at h,λj q=>⟨g,0,rfl,by rw[Nat.zero_add];exact M.cell j q⟩⟩
 obtain⟨O,c,hv,W,z⟩:=r;refine nX 25 24 (.slice none 0 0) 24 qg Tryz.qh rfl (by decide) T s x ho l.heap.size _ [u] hs N O p.length c p (hx.trans hv) rfl W z ?_ (by simp;omega) G.size ?_
 ·intro u' X
  obtain⟨j,q,rfl⟩:=List.getElem_of_mem X;rw[<-gM p j q];exact gX.one (K j (by omega))
 ·intro J w' k1 k2 _ _
  have A:Ext l w':=fu G k2 (λj q aj=>by have:=ku q;omega);have C:=dy U A;have D:∀k,J.ownBlock=some k->l.heap.size<=k:=λk hk=>(k1.lt k hk).1;refine h J w' ⟨[u]++p,λi k=>if i=0 then E.heap.size<=k/\k<l.heap.size else F (i-1) k/\k<E.heap.size,by simp[V],?_,?_,?_,?_⟩ C
  ·exact fK.weak k1 (by omega)
  ·intro i k R hk
   split at hk
   ·exact⟨by omega,λe=>by have:=D k e;omega,Nat.lt_of_lt_of_le hk.2 A.size⟩
   ·rename_i Y
    simp only[List.length_cons] at R;obtain⟨a1,a2,a3⟩:=hG (i-1) k (by omega) hk.1;exact⟨a1,λe=>by have:=D k e;omega,Nat.lt_of_lt_of_le a3 C.size⟩
  ·intro i j k R q hk S
   simp only[List.length_cons] at R q;split at hk<;>split at S
   ·omega
   ·omega
   ·omega
   ·have:=hd (i-1) (j-1) k (by omega) (by omega) hk.1 S.1;omega
  ·intro i R
   simp only[List.length_cons] at R;by_cases Y:i=0
   ·subst Y
    simp only[if_true];exact gX.mono hu (λk hk m=>⟨⟨hk,m⟩,Nat.lt_of_lt_of_le m A.size,A.block k m (by simp)⟩)
   ·simp only[if_neg Y]
    have e1:gt ([u]++p) i=gt p (i-1):=by
     obtain⟨j,rfl⟩:∃j,i=j+1:=⟨i-1,by omega⟩;simp[gt]
    have e2:gt (y :: xs) i=gt xs (i-1):=by
     obtain⟨j,rfl⟩:∃j,i=j+1:=⟨i-1,by omega⟩;simp[gt]
    rw[e1,e2];exact gX.mono (K (i-1) (by omega)) (λk hk m=>⟨⟨hk,m⟩,Nat.lt_of_lt_of_le m C.size,C.block k m (by simp)⟩)
theorem Cb (P:Pr) (G:ez P) (w:World) (sb gb B:Nat) (p:Value) (b:List (List Int)) (H:List Int->Prop) (Sp bad:Nat->Prop) (hp:fB Sp w p P) (T:kW B bad w sb gb p P.orders.length b) (hI:Ind P H (gt b)) :
  Calls Tryz.prog 137 #[.pointer (some ⟨sb,0,none⟩)] w (fq w λw' v=>iL w.heap.size w' v (fD P H)):=by
 have hP:=G.v;have al:=hP.n6;obtain⟨pb,po,rfl⟩:=hp.shape;have q:=T.c0;have u:=T.c1;have R:=Lib.hid hI;clear hI;have U:IntKind.i64.wrap ((P.orders.length:Int)-1)=(P.orders.length:Int)-1:=IntWalk.i64_in _ (by omega);go_enter Tryz.func137,Tryz.ntmps137;go_wp2;clear U;go_loopw [3,4] (λov V wr=>∃(m:Nat) (r:Nat->List Int) (v4:Value),v4=ov/\V=.int .i64 ((m:Int)-1)/\m<=P.orders.length/\Ext w wr/\iL w.heap.size wr v4 (sq r (P.orders.length-m) m)/\Hid (kN P H (gt b) r m)) (λ_ V _=>(intOf V+1).toNat)
 case atStart=>exact⟨P.orders.length,λ_=>[],_,rfl,rfl,Nat.le_refl _,Ext.refl _,by rw[Nat.sub_self];exact gN.nil _ _ _ _,Lib.hid ⟨λe h1 h2=>by omega,λe h1 h2=>by omega,λe e' h1 h2 h3=>by omega⟩⟩
 case round=>
  obtain⟨m,r,v4,rfl,rfl,hm,C,hO,D⟩:=hrel;clear q u;by_cases E:m=0
  ·subst E
   have F:=Bn r P.orders.length 0;rw[G.DK R.out D.out] at F;rw[Nat.sub_zero,G.DK R.out D.out] at hO;have I:((0:Nat):Int)-1 = -1:=rfl;rw[I];obtain⟨az,rC,rfl,_⟩:=jm.shape (hO.iB (by omega));go_wp2;go_ret;exact⟨_,rfl,C,hO⟩
  ·obtain ⟨d,rfl⟩:∃d,m=d+1:=⟨m-1,by omega⟩
   obtain⟨k,hk⟩:∃k,k=P.orders.length-(d+1):=⟨_,rfl⟩;rw[<-hk] at hO;have J:d+1+k=P.orders.length:=by omega
   have K:P.orders.length-d=k+1:=by omega
   rw[show(((d+1:Nat)):Int)-1=d by omega];have ao:(d:Int)<P.orders.length:=by omega
   have ap:(0:Int)<=d:=by omega
   have aq:IntKind.i64.wrap ((d:Int)-1)=(d:Int)-1:=IntWalk.i64_in _ (by omega);have y:=T.ext C;have q:=y.c0;have u:=y.c1;have F:=Bn r k (d+1);have ar:k<=6:=by omega
   have S:=Lib.hid (And.intro J K);clear J K hk E;obtain⟨_,W⟩:=y.tab.at d (by omega);rcases W with⟨h0,hcell⟩|⟨z,ab,L,hcell,X⟩
   ·obtain ⟨a,i⟩:=Je (k:=k) D.out h0
    have l:=Lib.hid (And.intro a i);clear a i h0;go_wp2;go_roundw
    case rel=>exact⟨d,_,v4,rfl,rfl,by omega,C,by rw[S.out.2,l.out.2];exact hO,Lib.hid l.out.1⟩
    case measure=>simp[intOf]
   ·have M:=hO.iB (by omega)
    obtain⟨az,rC,lJ,_,_⟩:=jm.shape M;subst lJ;have hU:=gY.rows M;have N:=D.out.Jc S.out.1;have O:=(R.out.mem d (by omega) z).2.1.1;have Z:=hp.ext C;have HX:=Lib.hid (And.intro N (And.intro O z));clear N O z;have e1:∀w',Ext wr w'->w'.cell? ⟨sb,0,none⟩=some (.pointer (some ⟨pb,po,none⟩)):=λw' h=>h.cell q (by simp);have e2:∀w',Ext wr w'->w'.cell? ⟨sb,1,none⟩=some (.slice (some ⟨gb,0,none⟩) P.orders.length P.orders.length):=λw' h=>h.cell u (by simp);have e3:∀w',Ext wr w'->w'.cell? ⟨gb,d,none⟩=some (.slice (some ab) (gt b d).length L):=λw' h=>h.cell hcell (by simp);go_wp2
    go_region_held3 (λw'=>Ext wr w') (first|exact fk _ _|assumption)
     (first
      | (go_at_call 148;refine Calls.mono (Calls.rel (w0:=wr) (by assumption) (Da P G _ _ _ _ (sq r k (d+1)) (gt b d) Any Any Any (fB.sub (fB.ext Z (by assumption)) (λ_ _ _=>trivial)) (dK.sub (dK.ext hU (by assumption)) (λ_ _ _=>trivial)) HX.out.1 (by omega) (Ints.sub (Ints.ext X (by assumption)) (λ_ _ _=>trivial)) HX.out.2.1)) ?_;rintro eY wY ⟨yv,rfl,ac,Ri,Y,Rj,A⟩))
    have aC:Y.length<=6:=by rw[A.vec.1];omega
    obtain⟨a,i⟩:=G.Jd R.out D.out S.out.1 HX.out.2.2 A;have l:=Lib.hid (And.intro a i);clear a i;have Q:gf (From wr.heap.size) wY yv Y:=gf.of Rj (by omega) (λj h1 _=>Nat.le_trans Ri h1);obtain⟨ay,nM,oF,_,_⟩:=Q.ints.shape;subst oF;clear e1 e2 e3 hcell q u A;go_wp2_with (first|(at_builtin;refine Rh rfl _ _ rfl w.heap.size wr wY _ _ (sq r k (d+1)) Y hO C.size ac Q rfl rfl rfl (by omega) ?_;intro v5 w5 ad ae)|fail)
    go_roundw
    case rel=>exact⟨d,_,v5,rfl,rfl,by omega,dy C ae,by rw[S.out.2,l.out.2];exact ad,Lib.hid l.out.1⟩
    case measure=>simp[intOf]
theorem Rk (a m:Int) (w:World) (b:m=2\/m=3\/m=5\/m=7) (h1:1<=a) (i:a<m) :
  Calls Tryz.prog 195 #[.int .i64 a,.int .i64 m] w (fq w λ_ v=>∃k:Int,v=.tuple #[.int .i64 k,.bool true]/\0<=k/\k<m/\(k*a)%m=1):=
 (QD a m w b h1 i).mono (by rintro e w' ⟨⟨k,rfl,h⟩,rfl⟩;exact⟨_,rfl,Ext.refl _,k,rfl,h⟩)
theorem xl {bad:Nat->Prop}{i j:World}{v1 l:Value}(a:i.grownBy j v1.ownBlock) (m:l.ownBlock=v1.ownBlock\/∀k,l.ownBlock=some k->i.heap.size<=k) :
  ∀k,(¬bad k/\v1.ownBlock≠some k)->k<i.heap.size->(¬bad k/\l.ownBlock≠some k)/\k<j.heap.size/\j.heap[k]? = i.heap[k]? :=λk hk b=>
 ⟨⟨hk.1,λe=>by
  rcases m with h|h
  ·exact hk.2 (by rw[<-h];exact e)
  ·have:=h k e;omega⟩,Nat.lt_of_lt_of_le b a.size,a.block k b (λe=>hk.2 e.symm)⟩
theorem DR {B sb gb n W:Nat}{pv:Value}{i p:World}{v1 j:Value}{b:List (List Int)}(h:kW B (λk=>v1.ownBlock=some k) i sb gb pv n b) (q:∀k,v1.ownBlock=some k->W<=k) (r:gb<W) (u:sb<W)
  (a:i.grownBy p v1.ownBlock) (l:j.ownBlock=v1.ownBlock\/∀k,j.ownBlock=some k->i.heap.size<=k):kW B (λk=>j.ownBlock=some k) p sb gb pv n b:=by
 refine h.kept a.size (λk hk m=>a.block k hk (λe => ?_)) (λk hk e => ?_)
 ·rcases m with rfl|rfl|m
  ·have:=q _ e.symm;omega
  ·have:=q _ e.symm;omega
  ·exact m e.symm
 ·rcases l with h|h
  ·rw[<-h];exact e
  ·have:=h k e;omega
def Rl (P:Pr) (H:List Int->Prop) (L b a:List (List Int)) (g:Bool):Prop:=
 Ind P (gi P (λx=>H x\/x∈L)) (gt a)/\(g=false->a=b)/\(g=true->jE a P.orders.length<jE b P.orders.length)
def Bp (P:Pr) (H:List Int->Prop) (L b a q:List (List Int)) (g:Bool):Prop:=
 (∃R,kg P (λx=>H x\/x∈L) (gt a) q R)/\(g=false->a=b)/\(g=true->jE a P.orders.length<jE b P.orders.length)/\jE a P.orders.length<=jE b P.orders.length
theorem Ca (P:Pr) (G:ez P) (w:World) (sb gb B:Nat) (p lv:Value) (L b:List (List Int)) (H:List Int->Prop) (hp:fB (λk=>k≠gb) w p P) (F:kW B (λ_=>False) w sb gb p P.orders.length b) (hI:Ind P H (gt b))
  (hL:∀x∈L,dL P.orders x) (hl:dK (λk=>¬(k=gb\/k=sb)) w lv L) (cx:L.length<=10000) :
  Calls Tryz.prog 135 #[.pointer (some ⟨sb,0,none⟩),lv] w λe w'=>∃a g,e=.returned (.bool g)/\w.grownBy w' (some gb)/\kW B (λ_=>False) w' sb gb p P.orders.length a/\Rl P H L b a g:=by
 have hP:=G.v;have cG:=hP.n6;obtain⟨pb,po,rfl⟩:=hp.shape;obtain⟨ao,ad,aU,hoi⟩:=hp.iO;obtain⟨_,_,_,cc,bv,_⟩:=hp.at;have Q:=F.tab.lt;have bw:∀w',w.grownBy w' (some gb)->fB (λk=>k≠gb) w' (.pointer (some ⟨pb,po,none⟩)) P:=λw' h=>hp.mono (iQ h (λk hk _=>⟨hk,λe=>hk (Option.some.inj e).symm⟩));have aV:∀w',w.grownBy w' (some gb)->w'.cell? ⟨sb,0,none⟩=some (.pointer (some ⟨pb,po,none⟩)):=λw' h=>(World.cell?_of_block (h.block sb F.slt (by simpa using F.ne))).trans F.c0;have aW:∀w',w.grownBy w' (some gb)->w'.cell? ⟨sb,1,none⟩=some (.slice (some ⟨gb,0,none⟩) P.orders.length P.orders.length):=λw' h=>(World.cell?_of_block (h.block sb F.slt (by simpa using F.ne))).trans F.c1;have aX:∀w',w.grownBy w' (some gb)->w'.cell? ⟨pb,po,none⟩=some (.slice ao P.orders.length ad):=λw' h=>(World.cell?_of_block (h.block pb bv (by simpa using cc))).trans aU;have I:=Lib.hid (And.intro bw (And.intro aV (And.intro aW aX)));clear bw aV aW aX aU;have HI:=Lib.hid (And.intro hI hL);clear hI hL;go_enter Tryz.func135,Tryz.ntmps135;go_wp2_with fail
 refine Calls.mono (Rg w lv L _ (λk=>k=gb\/k=sb) hl (λk hk _=>hk) (by omega)) ?_;rintro e0 w0 ⟨cI,rfl,hg0,bz⟩;go_wp2
 go_loopg [5,6] (jE b P.orders.length*(P.orders.length+3)+L.length) (λgk gv qv wr=>∃(a q:List (List Int)) (g:Bool),gk<=20000/\gk=jE a P.orders.length*(P.orders.length+3)+q.length/\gv=.bool g/\w.grownBy wr (some gb) /\
  kW B (λk=>qv.ownBlock=some k) wr sb gb (.pointer (some ⟨pb,po,none⟩)) P.orders.length a/\gL (λk=>k=gb\/k=sb) w.heap.size wr qv q/\Hid (Bp P H L b a q g))
 case atStart=>
  have bb:jE b P.orders.length*(P.orders.length+3)+L.length<=20000:=by
   have h3:jE b P.orders.length*(P.orders.length+3)<=6*9:=Nat.mul_le_mul (by have:=I6 b P.orders.length;omega) (by omega);omega
  exact⟨b,L,false,bb,rfl,rfl,fH _ hg0,F.kept hg0.size (λk hk _=>hg0.block k hk (by simp)) (λk hk h=>by have:=(bz.lt k h).1;omega),bz,Lib.hid ⟨⟨_,G.IM HI.out.1 HI.out.2⟩,λ_=>rfl,by simp,Nat.le_refl _⟩⟩
 case round=>
  obtain⟨a,q,g,Rm,bc,rfl,hg,aw,hq,zo⟩:=hrel;cases q with
  | nil=>
   obtain⟨aq,mI,rfl,_⟩:=hq.shape;go_wp2;go_ret;exact⟨a,g,rfl,hg,aw.kept (Nat.le_refl _) (λ_ _ _=>rfl) (λ_ _ h=>h.elim),by obtain⟨⟨R,hA⟩,h2,h3,_⟩:=zo.out;exact⟨G.IV hA,h2,h3⟩⟩
  | cons y q=>
   obtain⟨aq,mI,rfl,_⟩:=hq.shape;obtain⟨gq,off,u,rfl,hgB,Rn,l,ae⟩:=gL.head hq 0 (by simp);obtain⟨m,hm⟩:∃m,m=(y :: q).length:=⟨_,rfl⟩;rw[<-hm] at hq bc ⊢;have bA:m=q.length+1:=by rw[hm];rfl
   have ae:Ints (λk=>¬(k=gb\/k=sb)/\k≠gq) wr u y:=ae;obtain⟨ay,nM,rfl,_,_⟩:=ae.shape;have cL:m<=20000:=by omega
   have cd:=I.out.2.1 wr hg;have bB:=I.out.2.2.1 wr hg;rw[Nat.add_zero] at l;have cM:(0:Int)<m:=by omega
   have HM:=Lib.hid (And.intro bc (And.intro hm bA));clear bc hm bA;have bC:dL P.orders y:=by obtain⟨⟨R,hA⟩,_⟩:=zo.out;exact hA.vec _ (hA.sS _ List.mem_cons_self)
   have aY:∀d,d<P.orders.length->gt a d≠[]->T P d (gt a d)/\gt (gt a d) d=1:=by obtain⟨⟨R,hA⟩,_⟩:=zo.out;exact λd X h=>(hA.tab d X h).2
   have HT:=Lib.hid (And.intro bC aY);clear bC aY;go_wp2_with fail
   refine Calls.mono (QI P G wr sb gb B _ _ y a _ _ _ (I.out.1 wr hg) aw HT.out.2 ae HT.out.1) ?_;rintro e1 S ⟨xv,rfl,bd,Y,Jm,be,bD,Jn⟩;have C:=dy hg (fH (some gb) bd)
   have U:Hid (Bp P H L b a (Y :: q) g):=by
    obtain⟨⟨R,hA⟩,h2⟩:=zo.out;exact Lib.hid ⟨G.QK hA Jn,h2⟩
   clear Jn zo cd bB l;have D:gL (λk=>k=gb\/k=sb) w.heap.size S (nB (.slice (some ⟨gq,off,none⟩) m mI) 1 m) q:=(hq.ext bd).tail;have bf:=Rf S (some ⟨gq,off,none⟩) m mI 1 (by omega) (by omega)
   have r:∀k,(nB (.slice (some ⟨gq,off,none⟩) m mI) 1 m).ownBlock=some k->k=gq:=λk hk=>by
    have h3:=iH.I5 k hk;simp[Value.ownBlock] at h3;exact h3.symm
   rw[show(1:Int).toNat=1 from rfl] at bf;generalize nB (.slice (some ⟨gq,off,none⟩) m mI) 1 m=bE at D bf r;have af:kW B (λk=>bE.ownBlock=some k) S sb gb (.pointer (some ⟨pb,po,none⟩)) P.orders.length a:=(aw.ext bd).kept (Nat.le_refl _) (λ_ _ _=>rfl) (λk _ h=>by rw[r k h];rfl)
   have A:Ints (λk=>¬(k=gb\/k=sb)/\bE.ownBlock≠some k) S xv Y:=Ints.sub Jm (λk hk _=>by
    have h1:=F.slt;have h2:=hg.size;rcases hk with hk|hk
    ·exact⟨hk.1,λe=>hk.2 (r k e)⟩
    ·exact⟨by omega,λe=>by have:=r k e;omega⟩)
   obtain⟨a1,bF,rfl,_⟩:=D.shape;obtain⟨ax,l6,hv,_,_⟩:=A.shape;rw[be.1] at hv;subst hv;clear aw hq ae Jm r;have HY:=Lib.hid (And.intro be bD);clear be bD;by_cases aB:dep Y=P.orders.length
   ·have bH:Hid (Bp P H L b a q g):=by
     obtain⟨⟨R,hA⟩,h2⟩:=U.out;exact Lib.hid ⟨⟨R,IQ hA ((IW hP HY.out.1).1 aB)⟩,h2⟩
    clear U;go_wp2_with (go_at_call 194;refine Calls.mono (Bi _ Y S _ A) ?_;rintro eD wD ⟨rfl,rfl⟩)
    go_roundg (gk-1)
    case measure=>have:=HM.out;omega
    case rel=>exact⟨a,q,g,by omega,by have:=HM.out;omega,rfl,C,af,D,bH⟩
   ·have X:dep Y<P.orders.length:=by have:=xg Y;have:=HY.out.1.1;omega
    have aD:=qF HY.out.1;have bI:=sU (x:=Y) (by rw[HY.out.1.1];exact X);have bg:=HY.out.2 X;obtain⟨d,aE⟩:∃d,d=dep Y:=⟨_,rfl⟩;rw[<-aE] at X aD bI bg aB;have ho:=hP.gh d X;have bJ:=hP.ord d X;have cf:=aD.1.2 d X;have bK:1<=gt Y d:=by omega
    obtain⟨bx,ox,rfl,_,_,hcx⟩:=Ints.at A d (by rw[HY.out.1.1];exact X);obtain⟨b2,off2,rfl,ag,bL,ah⟩:=Ints.at hoi d X;have c1:∀w',w.grownBy w' (some gb)->w'.cell? ⟨b2,off2+d,none⟩=some (.int .i64 (gt P.orders d)):=λw' h=>(World.cell?_of_block (h.block b2 bL (by simpa using ag))).trans ah;have HD:=Lib.hid (And.intro aE (And.intro aD (And.intro bg (And.intro c1 (And.intro bJ aB)))));clear aD bI bg c1 bJ ah aB;have e1:∀w',Ext S w'->w'.cell? ⟨sb,0,none⟩=some (.pointer (some ⟨pb,po,none⟩)):=λw' h=>I.out.2.1 w' (dy C (fH _ h));have e2:∀w',Ext S w'->w'.cell? ⟨pb,po,none⟩=some (.slice (some ⟨b2,off2,none⟩) P.orders.length ad):=λw' h=>I.out.2.2.2 w' (dy C (fH _ h));have e3:∀w',Ext S w'->w'.cell? ⟨b2,off2+d,none⟩=some (.int .i64 (gt P.orders d)):=λw' h=>HD.out.2.2.2.1 w' (dy C (fH _ h));have e4:∀w',Ext S w'->w'.cell? ⟨bx,ox+d,none⟩=some (.int .i64 (gt Y d)):=λw' h=>h.cell hcx (by simp);have q1:(d:Int)<P.orders.length:=by omega
    have q2:(0:Int)<=d:=by omega
    have q3:((d:Int) == (P.orders.length:Int))=false:=by simp;omega
    have bM:Calls Tryz.prog 194 #[.slice (some ⟨bx,ox,none⟩) P.orders.length l6] S (λe w'=>e=.returned (.int .i64 d)/\S=w'):=by rw[aE];exact Bi _ Y S _ A
    clear aE;go_wp2_with (go_at_call 194;refine Calls.mono bM ?_;rintro eD wD ⟨rfl,rfl⟩)
    go_region_held3 (λw'=>Ext S w') (first|exact fk _ _|assumption)
     (first
      | (go_at_call 195;refine Calls.mono (Calls.rel (w0:=S) (by assumption) (Rk (gt Y d) (gt P.orders d) _ HD.out.2.2.2.2.1 bK cf.2)) ?_;rintro eI wI ⟨vI,rfl,aF,Ro,kk,rfl,bb,hk1,hkm⟩;have HK:=Lib.hid hkm;clear hkm))
    clear e1 e2 e3 e4 bM bf;have aZ:=dy C (fH (some gb) aF);have bi:=D.ext aF;have a0:=af.ext aF;have ai:=A.ext aF;have a2:∀k,(Value.slice a1 q.length bF).ownBlock=some k->w.heap.size<=k:=λk hk=>(bi.lt k hk).1;have cT:q.length<=20000:=by have:=HM.out.2.2;omega
    clear D af A hcx;go_wp2_with (first|(at_builtin;refine zj rfl _ _ rfl (λk=>k=gb\/k=sb) w.heap.size _ _ q Y rfl wI bi rfl ai rfl (by omega) aZ.size ?_;intro v2 w2 bj aG ag;have V:=fu aZ aG (λj J bN=>by have:=a2 j J;omega);have cz:=I.out.2.1 w2 V)|fail)
    have a3:=DR a0 a2 Q.2 F.slt aG ag;have a4:=Ints.mono ai (xl aG ag);clear bi a0 ai;refine Calls.mono (yS P hP w2 _ _ Y kk _ _ (I.out.1 w2 V) a4 HY.out.1 (by omega)) ?_;rintro eZ wZ ⟨zv,rfl,bk,aj⟩;have eZ:oK P Y kk=pw P Y kk.toNat:=G.wQ HY.out.1 kk;rw[eZ] at aj;clear eZ;obtain⟨Z,hZ⟩:∃Z,Z=pw P Y kk.toNat:=⟨_,rfl⟩;rw[<-hZ] at aj;have aH:dL P.orders Z:=by rw[hZ];exact G.kf HY.out.1 _
    have HZ:=Lib.hid hZ;clear hZ;have W:=dy V (fH (some gb) bk);have aI:=bj.ext bk;have a5:=a3.ext bk
    have aJ:Ints (λk=>¬(k=gb\/k=sb)/\v2.ownBlock≠some k) wZ zv Z:=iD aj (by rw[aH.1];omega) (λk hk=>by
     have h1:=(aj.lt k hk).1;have h2:=F.slt;have h3:=V.size;exact⟨by omega,λe=>by have:=(bj.lt k e).2;omega⟩)
    have ak:∀k,v2.ownBlock=some k->w.heap.size<=k:=λk hk=>(aI.lt k hk).1;clear bj a3 a4 aG ag;obtain⟨az,al,hv,_,_⟩:=aJ.shape;rw[aH.1] at hv;subst hv;have K:=Lib.hid aH;clear aH;have bO:dL P.orders (pw P Z (gt P.orders d).toNat):=G.kf K.out _;have bP:(pw P Z (gt P.orders d).toNat).length<=6:=by rw[bO.1];omega
    have bQ:oK P Z (gt P.orders d)=pw P Z (gt P.orders d).toNat:=G.wQ K.out _;have bR:=Lib.hid (And.intro bP bQ);clear bP bQ bO;have e1:∀w',w.grownBy w' (some gb)->w'.cell? ⟨sb,0,none⟩=some (.pointer (some ⟨pb,po,none⟩)):=I.out.2.1;have e2:∀w',w.grownBy w' (some gb)->w'.cell? ⟨pb,po,none⟩=some (.slice (some ⟨b2,off2,none⟩) P.orders.length ad):=I.out.2.2.2;have e3:∀w',w.grownBy w' (some gb)->w'.cell? ⟨b2,off2+d,none⟩=some (.int .i64 (gt P.orders d)):=HD.out.2.2.2.1;go_wp2
    go_region_held3 (λw'=>w.grownBy w' (some gb)) (first|exact dy W (fk _ _)|assumption|exact dy am (World.grownBy_alloc _ _ _))
     (first
      | (go_at_call 196;refine Calls.mono (Calls.jF (w0:=wZ) (fk _ _) (yS P hP _ _ _ Z (gt P.orders d) _ _ ((I.out.1 wZ W).ext (fk _ _)) (aJ.ext (fk _ _)) K.out (by omega))) ?_;rintro eT wT ⟨vT,rfl,aK,VB,Rp,aL⟩;have am:=dy W (fH (some gb) aK);rw[bR.out.2] at aL;have bl:Ints (λk=>¬(k=gb\/k=sb)/\v2.ownBlock≠some k) wT vT (pw P Z (gt P.orders d).toNat):=iD aL (by have:=bR.out.1;omega) (λk hk=>by
        have h1:=(aL.lt k hk).1;have h2:=F.slt;have h3:=W.size;exact⟨by omega,λe=>by have:=(aI.lt k e).2;omega⟩);obtain⟨aT,Rq,DT,_,_⟩:=bl.shape;subst DT)
      | (refine Aq rfl _ _ rfl (λk=>k=gb\/k=sb) w.heap.size v2 _ (q++[Y]) _ rfl wT (aI.ext aK) rfl bl rfl (by simp;omega) am.size ?_;intro v3 w3 bm aM bn;have an:=fu am aM (λj J bN=>by have:=ak j J;omega)))
    clear e1 e2 e3;have a6:=DR (a5.ext aK) ak Q.2 F.slt aM bn;have a7:=Ints.mono (aJ.ext aK) (xl aM bn);have bS:=I.out.2.2.1 w3 an;have bT:=I.out.2.1 w3 an;obtain⟨T1,bo⟩:∃T1,T1=pw P Z (gt P.orders d).toNat:=⟨_,rfl⟩;rw[<-bo] at bm;have cn:=Lib.hid bo;clear bo;clear aI a5 aJ bl aL aj aM bn;go_wp2;clear bS bT
    go_loopw [6,84] (λqv iv aO=>∃(k:Nat) (v4:Value),v4=qv/\iv=.int .i64 k/\k<=P.orders.length/\w.grownBy aO (some gb)/\kW B (λj=>v4.ownBlock=some j) aO sb gb (.pointer (some ⟨pb,po,none⟩)) P.orders.length a /\
     gL (λk=>k=gb\/k=sb) w.heap.size aO v4 (q++[Y]++[T1]++lq P a Z k)/\Ints (λj=>¬(j=gb\/j=sb)/\v4.ownBlock≠some j) aO (.slice az P.orders.length al) Z) (λ_ iv _=>P.orders.length-(intOf iv).toNat)
    case atStart=>exact⟨0,_,rfl,rfl,by omega,an,a6,by simpa [lq] using bm,a7⟩
    case round=>
     obtain⟨k,v4,rfl,rfl,hk,M,i,aa,E⟩:=hrel;clear a6 bm a7;have N:∀j,v4.ownBlock=some j->w.heap.size<=j:=λj J=>(aa.lt j J).1;by_cases bU:k<P.orders.length
     ·obtain ⟨_,aP⟩:=i.tab.at k bU
      rcases aP with⟨h0,l⟩|⟨bp,ab,ql,l,cq⟩
      ·have ap:lq P a Z (k+1)=lq P a Z k:=by simp only[lq];rw[if_pos h0,List.append_nil]
       have HC:=Lib.hid ap;clear ap h0;go_wp2;go_roundw
       case rel=>exact⟨k+1,v4,rfl,by go_num,by omega,M,i,by rw[HC.out];exact aa,E⟩
       case measure=>simp[intOf];omega
      ·have ap:lq P a Z (k+1)=lq P a Z k++[oO P (gt a k) Z]:=by simp only[lq];rw[if_neg bp]
       have aQ:=(HT.out.2 k bU bp).1.1;have bW:dL P.orders (oO P (gt a k) Z):=G.gz (G.invV (G.gz K.out aQ)) (G.gz aQ K.out);have HC:=Lib.hid (And.intro ap (And.intro aQ bW));clear ap aQ bW bp;have cr:=I.out.2.1 wr M;go_wp2_with fail
       refine Calls.mono (QA P G wr _ _ _ (gt a k) Z _ _ _ (I.out.1 wr M) cq E HC.out.2.1 K.out) ?_;rintro eC wC ⟨vC,rfl,aR,ar⟩;have ar:Own wr.heap.size wC vC (oO P (gt a k) Z):=ar
       have bX:Ints (λj=>¬(j=gb\/j=sb)/\v4.ownBlock≠some j) wC vC (oO P (gt a k) Z):=iD ar (by rw[HC.out.2.2.1];omega) (λj J=>by
        have h1:=(ar.lt j J).1;have h2:=F.slt;have h3:=M.size;exact⟨by omega,λe=>by have:=(aa.lt j e).2;omega⟩)
       have a8:=dy M (fH (some gb) aR);obtain⟨aC,Ap,p8,_,_⟩:=bX.shape;subst p8;have cX:=I8 P a Z k;clear ar l cr;go_wp2_with (first|(at_builtin;refine zj rfl _ _ rfl (λk=>k=gb\/k=sb) w.heap.size v4 _ (q++[Y]++[T1]++lq P a Z k) (oO P (gt a k) Z) rfl wC (aa.ext aR) rfl bX rfl (by simp;omega) a8.size ?_;intro v5 w5 bq O bY;have bZ:=fu a8 O (λj J bN=>by have:=N j J;omega))|fail)
       go_roundw
       case rel=>exact⟨k+1,v5,rfl,by go_num,by omega,bZ,DR (i.ext aR) N Q.2 F.slt O bY,by rw[HC.out.1,<-List.append_assoc];exact bq,Ints.mono (E.ext aR) (xl O bY)⟩
       case measure=>simp[intOf];omega
     ·have ct:k=P.orders.length:=by omega
      subst ct;have a9:Z≠[]:=λh=>by have:=K.out.1;rw[h] at this;simp at this;omega
      obtain⟨cu,O⟩:=i.put d (u := .slice az P.orders.length al) (y:=Z) (Ints.sub E (λj J _=>⟨λe=>J.1 (.inl e),λh=>h.elim (λe=>J.1 (.inr e)) J.2⟩)) a9;obtain⟨cZ,aP⟩:=i.tab.at d X;have c3:wr.cell? ⟨gb,d,none⟩=some (.slice none 0 0):=aP.elim (λh=>h.2) (λh=>absurd HD.out.2.2.1 h.1)
      have bq:gL (λk=>k=gb\/k=sb) w.heap.size (wr.setCell ⟨gb,d,none⟩ (.slice az P.orders.length al)) v4 (q++[Y]++[T1]++lq P a Z P.orders.length):=aa.kept O.size (λj J hc=>O.block j J (λe=>by
       have e:=Option.some.inj e;subst e;rcases hc with hc|hc
       ·have:=N _ hc;have:=Q.2;omega
       ·exact hc (.inl rfl))) (λ_ _ h=>h)
      have bB:=I.out.2.2.1 wr M;have aS:=I7 (b:=a) (z:=Z) HD.out.2.2.1 a9 P.orders.length (by rw[i.tab.len];exact Nat.le_refl _);rw[if_pos X] at aS;have b1:(q++[Y]++[T1]++lq P a Z P.orders.length).length<=q.length+2+P.orders.length:=by have:=I8 P a Z P.orders.length;simp;omega
      have a':jE a P.orders.length*(P.orders.length+3)=jE (a.set d Z) P.orders.length*(P.orders.length+3)+(P.orders.length+3):=by rw[<-aS,Nat.add_mul,Nat.one_mul]
      have b3:Hid (Bp P H L b (a.set d Z) (q++[Y]++[T1]++lq P a Z P.orders.length) true):=by
       obtain⟨⟨R,hA⟩,h2,h3,h4⟩:=U.out;have b4:=G.QL hA X HD.out.2.1 HD.out.2.2.1 i.tab.len kk bb HK.out;rw[<-HZ.out,<-cn.out] at b4;exact Lib.hid ⟨b4,by simp,λ_=>by omega,by omega⟩
      have ba:jE (a.set d Z) P.orders.length*(P.orders.length+3)+(q++[Y]++[T1]++lq P a Z P.orders.length).length<gk:=by have:=HM.out;omega
      have HX:=Lib.hid (And.intro b1 (And.intro ba (And.intro a' aS)));clear b1 a' aS ba U aP aa i E;have c4:(d:Int)<P.orders.length:=by omega
      go_wp2;go_roundg (jE (a.set d Z) P.orders.length*(P.orders.length+3)+(q++[Y]++[T1]++lq P a Z P.orders.length).length)
      case measure=>exact HX.out.2.1
      case rel=>exact⟨a.set d Z,_,true,by have:=HX.out.2.1;omega,rfl,rfl,dy M O,cu,bq,b3⟩
end Go.Proofs.YtoakmefajbbggaaGreat
