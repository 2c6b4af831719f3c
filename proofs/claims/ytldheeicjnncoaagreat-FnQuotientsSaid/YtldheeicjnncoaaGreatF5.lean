/- Merged from templates. -/
import Derived.Test.YtldheeicjnncoaaGreatF4
import Derived.Deep.AppendLies
set_option maxRecDepth 100000
set_option maxHeartbeats 8000000
namespace Go.Proofs.YtldheeicjnncoaaGreat
open Go.RowKit
def TabAt (B:Nat) (bad:Nat->Prop) (w:World) (gb n:Nat) (b:List (List Int)):Prop:=
 ∃ a,a.length=n/\b.length=n/\OwnV B 24 w (.slice (some ⟨gb,0,none⟩) n n) a /\
  ∀i,i<n->(gt b i=[]/\gt a i=.slice none 0 0)\/(gt b i≠[]/\Ints (λk=>k≠gb/\¬bad k) w (gt a i) (gt b i))
theorem TabAt.lt {B gb n:Nat}{bad:Nat->Prop}{w:World}{b:List (List Int)}(h:TabAt B bad w gb n b):B<=gb/\gb<w.heap.size:=by
 obtain⟨a,_,_,hO,_⟩:=h;exact hO.lt gb rfl
theorem TabAt.len {B gb n:Nat}{bad:Nat->Prop}{w:World}{b:List (List Int)}(h:TabAt B bad w gb n b):b.length=n:=by
 obtain⟨a,_,h2,_⟩:=h;exact h2
theorem TabAt.kept {B gb n:Nat}{bad bad':Nat->Prop}{w w':World}{b:List (List Int)}(h:TabAt B bad w gb n b) (p:w.heap.size<=w'.heap.size) (m:∀k,k<w.heap.size->(k=gb\/¬bad k)->w'.heap[k]? = w.heap[k]?)
  (l:∀k,k<w.heap.size->bad' k->bad k):TabAt B bad' w' gb n b:=by
 obtain⟨q,h1,h2,h3,r⟩:=h;have j:=h3.lt gb rfl;refine⟨q,h1,h2,?_,λi hi=>(r i hi).imp id (λ⟨a,b⟩=>⟨a,Ints.mono b (λk hk j=>⟨⟨hk.1,λe=>hk.2 (l k j e)⟩,Nat.lt_of_lt_of_le j p,m k j (.inr hk.2)⟩)⟩)⟩
 exact ownsRow_move h3 (λk hk=>by
  have:gb=k:=by simpa [Value.ownBlock] using hk
  subst this;exact⟨m _ j.2 (.inl rfl),j.1⟩)
theorem TabAt.ext {B gb n:Nat}{bad:Nat->Prop}{w w':World}{b:List (List Int)}(h:TabAt B bad w gb n b) (a:Ext w w'):TabAt B bad w' gb n b:=
 h.kept a.size (λk hk _=>a.block k hk (by simp)) (λ_ _ h=>h)
theorem TabAt.at {B gb n:Nat}{bad:Nat->Prop}{w:World}{b:List (List Int)}(h:TabAt B bad w gb n b) (i:Nat) (hi:i<n) :
  w.frozen? ⟨gb,i,none⟩=false/\((gt b i=[]/\w.cell? ⟨gb,i,none⟩=some (.slice none 0 0))\/(gt b i≠[]/\∃a cap,w.cell? ⟨gb,i,none⟩=some (.slice (some a) (gt b i).length cap)/\Ints (λk=>k≠gb/\¬bad k) w (.slice (some a) (gt b i).length cap) (gt b i))):=by
 obtain⟨m,h1,h2,h3,p⟩:=h;have j:=h3.cell i (by omega);refine⟨?_,?_⟩
 ·have hn:n=m.length:=h1.symm
  subst hn;exact World.ownsRow.frozenAt h3 i
 ·rcases p i hi with⟨a,e⟩|⟨a,e⟩
  ·exact .inl ⟨a,by rw[j,e]⟩
  ·obtain ⟨l,cap,q,_,_⟩:=e.shape
   rw[q] at j e;cases l with
   | none=>exact absurd e.nil_of_none.1 a
   | some l=>exact .inr ⟨a,l,cap,j,e⟩
theorem TabAt.put {B gb n:Nat}{bad:Nat->Prop}{w:World}{b:List (List Int)}{u:Value}{y:List Int}(h:TabAt B bad w gb n b) (j:Nat) (q:Ints (λk=>k≠gb/\¬bad k) w u y) (hy:y≠[]) :
  TabAt B bad (w.setCell ⟨gb,j,none⟩ u) gb n (b.set j y)/\w.grownBy (w.setCell ⟨gb,j,none⟩ u) (some gb):=by
 obtain⟨p,h1,r,h3,z⟩:=h;have hn:n=p.length:=h1.symm;subst hn;obtain⟨A,g2⟩:=World.ownsRow.stored h3 j u
 have l:∀k,(k≠gb/\¬bad k)->k<w.heap.size->(k≠gb/\¬bad k)/\k<(w.setCell ⟨gb,j,none⟩ u).heap.size/\(w.setCell ⟨gb,j,none⟩ u).heap[k]? = w.heap[k]? :=λk hk m=>
  ⟨hk,by simpa [World.setCell] using m,Below.heap_setCell _ _ _ _ (by simpa using hk.1)⟩
 refine⟨⟨p.set j u,by simp,by simp[r],?_,λi hi => ?_⟩,g2⟩
 ·unfold OwnV;rw[List.length_set];exact A
 ·by_cases e:j=i
  ·subst e
   rw[gt_set_eq _ _ _ (by omega),gt_set_eq _ _ _ hi];exact .inr ⟨hy,Ints.mono q l⟩
  ·rw [gt_set_ne _ _ _ _ e,gt_set_ne _ _ _ _ e]
   exact(z i hi).imp id (λ⟨a,b⟩=>⟨a,Ints.mono b l⟩)
structure SeqAt (B:Nat) (bad:Nat->Prop) (w:World) (sb gb:Nat) (pv:Value) (n:Nat) (b:List (List Int)):Prop where
 sB:B<=sb
 ne:sb≠gb
 slt:sb<w.heap.size
 c0:w.cell? ⟨sb,0,none⟩=some pv
 c1:w.cell? ⟨sb,1,none⟩=some (.slice (some ⟨gb,0,none⟩) n n)
 tab:TabAt B (λk=>k=sb\/bad k) w gb n b
theorem SeqAt.kept {B sb gb n:Nat}{pv:Value}{bad bad':Nat->Prop}{w w':World}{b:List (List Int)}(h:SeqAt B bad w sb gb pv n b) (j:w.heap.size<=w'.heap.size) (l:∀k,k<w.heap.size->(k=gb\/k=sb\/¬bad k)->w'.heap[k]? = w.heap[k]?)
  (a:∀k,k<w.heap.size->bad' k->bad k):SeqAt B bad' w' sb gb pv n b:=by
 have e:=l sb h.slt (.inr (.inl rfl))
 exact ⟨h.sB,h.ne,Nat.lt_of_lt_of_le h.slt j,(World.cell?_of_block (w:=w) e).trans h.c0,(World.cell?_of_block (w:=w) e).trans h.c1,
  h.tab.kept j (λk hk i=>l k hk (i.elim .inl (λm => .inr (.inr (λp=>m (.inr p)))))) (λk hk i=>i.imp id (a k hk))⟩
theorem SeqAt.ext {B sb gb n:Nat}{pv:Value}{bad:Nat->Prop}{w w':World}{b:List (List Int)}(h:SeqAt B bad w sb gb pv n b) (a:Ext w w'):SeqAt B bad w' sb gb pv n b:=
 h.kept a.size (λk hk _=>a.block k hk (by simp)) (λ_ _ h=>h)
theorem SeqAt.put {B sb gb n:Nat}{pv:Value}{bad:Nat->Prop}{w:World}{b:List (List Int)}{u:Value}{y:List Int}(h:SeqAt B bad w sb gb pv n b) (j:Nat) (a:Ints (λk=>k≠gb/\¬(k=sb\/bad k)) w u y) (hy:y≠[]) :
  SeqAt B bad (w.setCell ⟨gb,j,none⟩ u) sb gb pv n (b.set j y)/\w.grownBy (w.setCell ⟨gb,j,none⟩ u) (some gb):=by
 obtain⟨h1,h2⟩:=h.tab.put j a hy;have e:(w.setCell ⟨gb,j,none⟩ u).heap[sb]? = w.heap[sb]? := Below.heap_setCell _ _ _ _ (by simpa using h.ne);exact⟨⟨h.sB,h.ne,by simpa [World.setCell] using h.slt,(World.cell?_of_block (w:=w) e).trans h.c0,(World.cell?_of_block (w:=w) e).trans h.c1,h1⟩,h2⟩
theorem wp_make_tab {ops:Array Oper}{rest:List Oper}{o:Oper}{a:Act}{Q:Exit->Act->World->Prop}{w:World}(j:o.guard=none) (l c:Operand)
  (r:o.op=Op.makeSlice 25 l c) (base n H:Nat) (hH:w.heap.size=H) (L:Int) (u:a.eval l=.int .i64 L) (y:a.eval c=.int .i64 L) (q:L=n) (hn:n<=2147483648) (b:base<=H)
  (h:∀w',(∀bad,TabAt base bad w' H n (List.replicate n []))->Ext w w'->H<w'.heap.size->wpList Tryz.prog ops Q rest (a.put o.dst (.slice (some ⟨H,0,none⟩) n n)) w') :
  wpList Tryz.prog ops Q (o :: rest) a w:=by
 subst hH;obtain⟨z,hi,k,m,p⟩:=info_parts Tryz.infoRow;refine wpList_make_full w j l c 25 r base 24 z (.slice none 0 0) 1 und_rows hi k m .i64 .i64 L L n u y q q (by rw[p];omega) (by unfold maxLen;omega) b ?_;intro w' h1 A;refine h w' ?_ A (h1.lt w.heap.size rfl).2
 have e:(madeCells (Value.cells (.slice none 0 0)) (n*1)).toList=List.replicate n (Value.slice none 0 0):=by
  rw[show Value.cells (.slice none 0 0) = #[.slice none 0 0] from rfl,toList_madeCells_one];simp
 rw[e] at h1;refine λbad=>⟨List.replicate n (.slice none 0 0),by simp,by simp,?_,λi hi => .inl ?_⟩
 ·unfold OwnV;rw[List.length_replicate];exact h1
 ·simp[gt,hi]
theorem newSequence_ok (P:Pr) (w:World) (p:Value) (l:Nat->Prop) (bad:Nat->Prop) (j:PresP l w p P) (hn:P.orders.length<=6) :
  Calls Tryz.prog 200 #[p] w (Ret w λw' v=>∃sb gb,v=.pointer (some ⟨sb,0,none⟩)/\SeqAt w.heap.size bad w' sb gb p P.orders.length (List.replicate P.orders.length [])):=by
 obtain⟨pb,po,rfl⟩:=j.shape;obtain⟨m,capo,gy,hoi⟩:=j.ordAt;go_enter Tryz.func200,Tryz.ntmps200;go_wp2_with (at_make;refine wp_make_tab rfl _ _ rfl w.heap.size P.orders.length w.heap.size rfl _ rfl rfl rfl (by omega) (Nat.le_refl _) ?_;intro b e i k)
 go_ret;have a:Ext b (b.alloc (.cells #[.pointer (some ⟨pb,po,none⟩),.slice (some ⟨w.heap.size,0,none⟩) P.orders.length P.orders.length] 228)):=World.grownBy_alloc _ _ _;refine⟨_,rfl,grown_trans i a,b.heap.size,w.heap.size,rfl,by omega,by omega,by simp,?_,?_,(e _).ext a⟩
 ·rw[World.cell?_alloc_at _ _ _ _ rfl];rfl
 ·rw[World.cell?_alloc_at _ _ _ _ rfl];rfl
def SiftΦ (P:Pr) (b:List (List Int)) (a : List Int->Prop):Prop:=
 ∀d y,d<P.orders.length->T P d y->gt y d≠0->gt b d≠[] -> a y -> a (rMul P (pw P (gt b d) (gt P.orders d-gt y d).toNat) y)
theorem sift_ok (P:Pr) (G:Grp P) (w:World) (sb gb B:Nat) (p M:Value) (X:List Int) (b:List (List Int)) (Sp N bad:Nat->Prop) (hp:PresP Sp w p P) (hs:SeqAt B bad w sb gb p P.orders.length b)
  (z:∀d,d<P.orders.length->gt b d≠[]->T P d (gt b d)/\gt (gt b d) d=1) (hx:Ints N w M X) (hX:Vec P.orders X) :
  Calls Tryz.prog 285 #[.pointer (some ⟨sb,0,none⟩),M] w (Ret w λw' v=>∃Y,Ints (λk=>N k\/w.heap.size<=k) w' v Y/\Vec P.orders Y/\(dep Y<P.orders.length->gt b (dep Y)=[])/\∀ l,SiftΦ P b l -> l X -> l Y):=by
 have hP:=G.v;have aL:=hP.n6;have aM:X.length=P.orders.length:=hX.1;obtain⟨pb,po,rfl⟩:=hp.shape;obtain⟨ao,capo,gy,ap⟩:=hp.ordAt;have aq:=Lib.hid gy;clear gy;have HT:=Lib.hid z;clear z;go_enter Tryz.func285,Tryz.ntmps285;go_wp2_with fail
 refine Calls.mono (depthOf_ok M X w N hx) ?_;rintro e0 w0 ⟨rfl,rfl⟩;go_wp2;go_loopw [1,5] (λM dv wr=>∃Y,dv=.int .i64 (dep Y)/\Vec P.orders Y/\Ext w wr/\Ints (λk=>N k\/w.heap.size<=k) wr M Y/\Hid (∀ l,SiftΦ P b l -> l X -> l Y)) (λ_ dv _=>P.orders.length-(intOf dv).toNat)
 case atStart=>exact⟨X,rfl,hX,Ext.refl _,Ints.sub hx (λk hk _ => .inl hk),Lib.hid (λ_ _ h=>h)⟩
 case round=>
  obtain⟨Y,rfl,hY,A,hI,D⟩:=hrel;have au:Y.length=P.orders.length:=hY.1;obtain⟨ay,capy,O,_,_⟩:=hI.shape;rw[au] at O;subst O;have E:=hs.ext A;have Q:=E.c0;have R:=E.c1;have L:=Lib.hid hY;clear hY;by_cases a:dep Y<P.orders.length
  ·have S:(dep Y:Int)<P.orders.length:=by omega
   obtain⟨_,av⟩:=E.tab.at (dep Y) a;rcases av with⟨h0,e⟩|⟨r,ab,U,e,V⟩
   ·have H0:=Lib.hid h0;clear h0
    go_wp2;go_ret;exact⟨_,rfl,A,Y,hI,L.out,λ_=>H0.out,D.out⟩
   ·have hy0:=dep_ne (x:=Y) (by omega)
    have i:=HT.out (dep Y) a r;have ho:=hP.ord7 (dep Y) a;have F:=L.out.2 (dep Y) a;obtain⟨b1,off1,rfl,_,_,H⟩:=Ints.at hI (dep Y) (by omega);obtain⟨b2,off2,hao,_,_,j⟩:=Ints.at (ap.ext A) (dep Y) a;subst hao;have W:=A.cell aq.out (by simp);have ax:IntKind.i64.wrap (gt P.orders (dep Y)-gt Y (dep Y))=gt P.orders (dep Y)-gt Y (dep Y):=IntWalk.i64_in _ (by omega);obtain⟨d,hd⟩:∃d,d=dep Y:=⟨_,rfl⟩;rw[<-hd] at a S e V hy0 i ho F H j ax r ⊢;have I:T P d Y:=by rw[hd];exact dep_T L.out
    have u:=G.left_clear a I i.1 i.2;have e1:iPow P (gt b d) (gt P.orders d-gt Y d)=pw P (gt b d) (gt P.orders d-gt Y d).toNat:=G.iPow_eq i.1.1 _;have J:=G.pw_vec i.1.1 (gt P.orders d-gt Y d).toNat;have e2:=G.tv_eq J L.out;have ac:=u.1.1;have ad:gt (rMul P (pw P (gt b d) (gt P.orders d-gt Y d).toNat) Y) d=0:=u.1.2 d (by omega);have C:∀ l,SiftΦ P b l -> l X -> l (rMul P (pw P (gt b d) (gt P.orders d-gt Y d).toNat) Y):=λl h1 h2=>h1 d Y a I hy0 r (D.out l h1 h2);have m:=Lib.hid (And.intro e1 (And.intro e2 (And.intro ac (And.intro ad (And.intro C (And.intro J u))))));clear e1 e2 ac ad C J u I hy0;have HD:=Lib.hid hd;clear hd r;have ae:(iPow P (gt b d) (gt P.orders d-gt Y d)).length<=6:=by rw[m.out.1,m.out.2.2.2.2.2.1.1];omega
    have af:Vec P.orders (iPow P (gt b d) (gt P.orders d-gt Y d)):=by rw[m.out.1];exact m.out.2.2.2.2.2.1
    have HL:=Lib.hid (And.intro ae (And.intro af (And.intro i (And.intro ho F))));clear ae af i ho F;have ah:=hp.ext A;have e1:∀w',Ext wr w'->w'.cell? ⟨sb,0,none⟩=some (.pointer (some ⟨pb,po,none⟩)):=λw' h=>h.cell Q (by simp);have e2:∀w',Ext wr w'->w'.cell? ⟨sb,1,none⟩=some (.slice (some ⟨gb,0,none⟩) P.orders.length P.orders.length):=λw' h=>h.cell R (by simp);have e3:∀w',Ext wr w'->w'.cell? ⟨gb,d,none⟩=some (.slice (some ab) (gt b d).length U):=λw' h=>h.cell e (by simp);have e4:∀w',Ext wr w'->w'.cell? ⟨pb,po,none⟩=some (.slice (some ⟨b2,off2,none⟩) P.orders.length capo):=λw' h=>h.cell W (by simp);have e5:∀w',Ext wr w'->w'.cell? ⟨b2,off2+d,none⟩=some (.int .i64 (gt P.orders d)):=λw' h=>h.cell j (by simp);have e6:∀w',Ext wr w'->w'.cell? ⟨b1,off1+d,none⟩=some (.int .i64 (gt Y d)):=λw' h=>h.cell H (by simp);have q1:(d:Int)<P.orders.length:=by omega
    have q2:(0:Int)<=d:=by omega
    go_wp2
    go_region_held3 (λw'=>Ext wr w') (first|exact grown_drew _ _|assumption)
     (first
      | (go_at_call 192;refine Calls.mono (Calls.rel (w0:=wr) (by assumption) (power_ok P hP _ _ _ (gt b d) _ Any Any (PresP.sub (PresP.ext ah (by assumption)) (λ_ _ _=>trivial)) (Ints.sub (Ints.ext V (by assumption)) (λ_ _ _=>trivial)) HL.out.2.2.1.1.1 (by have:=HL.out.2.2.2.1;have:=HL.out.2.2.2.2;omega))) ?_;rintro eA wA ⟨vA,rfl,eu,hsA,fE⟩;have ai:=fE.ints (by have:=HL.out.1;omega))
      | (go_at_call 253;refine Calls.mono (Calls.rel (w0:=wr) (by assumption) (multiply_ok P hP _ _ _ _ _ Y Any Any Any (PresP.sub (PresP.ext ah (by assumption)) (λ_ _ _=>trivial)) ai (Ints.sub (Ints.ext hI (by assumption)) (λ_ _ _=>trivial)) HL.out.2.1 L.out)) ?_;rintro eB wB ⟨vB,rfl,hgB,hsB,y⟩))
    rw[m.out.1,m.out.2.1] at y;have aA:w.heap.size<=wA.heap.size:=Nat.le_trans A.size hsB;have q:Ints (λk=>N k\/w.heap.size<=k) wB vB (rMul P (pw P (gt b d) (gt P.orders d-gt Y d).toNat) Y):=ints_of_own y (by rw[m.out.2.2.1.1];omega) (λk hk => .inr (Nat.le_trans aA (y.lt k hk).1));obtain⟨Z,hZ⟩:∃Z,Z=rMul P (pw P (gt b d) (gt P.orders d-gt Y d).toNat) Y:=⟨_,rfl⟩;rw[<-hZ] at q;have HZ:=Lib.hid hZ;clear hZ y;have aC:Z.length=P.orders.length:=by rw[HZ.out];exact m.out.2.2.1.1
    obtain⟨az,capz,O,_,_⟩:=q.shape;rw[aC] at O;subst O;obtain⟨b3,kO,rfl,_,_,aD⟩:=Ints.at q d (by omega);have K:gt Z d=0:=by rw[HZ.out];exact m.out.2.2.2.1
    rw[K] at aD
    have ak:dep Y<dep Z:=by
     have aE:T P (d+1) Z:=by rw[HZ.out];exact m.out.2.2.2.2.2.2.1
     have:=HD.out;rcases Nat.lt_or_ge (dep Y) (dep Z) with h|h
     ·exact h
     ·exact absurd (aE.2 (dep Z) (by omega)) (dep_ne (by omega))
    have HF:=Lib.hid (And.intro K ak);clear K ak;clear e1 e2 e3 e4 e5 e6 H j W e Q R;go_wp2_with (go_at_call 286;refine Calls.mono (depthOf_ok _ Z wB _ q) ?_;rintro eD wD ⟨rfl,rfl⟩)
    go_roundw
    case rel=>exact⟨Z,rfl,by rw[HZ.out];exact m.out.2.2.1,grown_trans A hgB,q,by rw[HZ.out];exact Lib.hid m.out.2.2.2.2.1⟩
    case measure=>have:=HF.out.2;have:=HD.out;simp[intOf];omega
  ·have hd:dep Y=P.orders.length:=by have:=dep_le Y;omega
   go_wp2;go_ret;exact⟨_,rfl,A,Y,hI,L.out,λh=>absurd h a,D.out⟩
end Go.Proofs.YtldheeicjnncoaaGreat
namespace Go.Proofs.YtldheeicjnncoaaGreat
def miss (b:List (List Int)):Nat->Nat
 | 0=>0
 | k+1=>miss b k+(if gt b k=[] then 1 else 0)
theorem miss_le (b:List (List Int)) (k:Nat):miss b k<=k:=by
 induction k with
 | zero=>exact Nat.le_refl _
 | succ k a=>simp only[miss];split<;>omega
theorem miss_set {b:List (List Int)}{d:Nat}{z:List Int}(i:gt b d=[]) (j:z≠[]):∀k,k<=b.length->miss (b.set d z) k+(if d<k then 1 else 0)=miss b k:=by
 intro k;induction k with
 | zero=>intro _;simp[miss]
 | succ k a=>
  intro hk;have a:=a (by omega);simp only[miss];by_cases e:d=k
  ·subst e
   rw[gt_set_eq _ _ _ (by omega),if_neg j,i];simp at a ⊢
   exact a
  ·rw [gt_set_ne _ _ _ _ e]
   by_cases h1:d<k
   ·rw[if_pos h1] at a;rw[if_pos (show d<k+1 by omega)];omega
   ·rw[if_neg h1] at a;rw[if_neg (show ¬d<k+1 by omega)];omega
def comR (P:Pr) (x z:List Int):List Int:=rMul P (rInv P (rMul P z x)) (rMul P x z)
def coms (P:Pr) (b:List (List Int)) (z:List Int):Nat->List (List Int)
 | 0=>[]
 | k+1=>coms P b z k++(if gt b k=[] then [] else [comR P (gt b k) z])
theorem coms_len (P:Pr) (b:List (List Int)) (z:List Int) (k:Nat):(coms P b z k).length<=k:=by
 induction k with
 | zero=>exact Nat.le_refl _
 | succ k a=>simp only[coms];split<;>simp<;>omega
theorem mem_coms {P:Pr}{b:List (List Int)}{z x:List Int}{k:Nat} : x∈coms P b z k↔∃e,e<k/\gt b e≠[]/\x=comR P (gt b e) z:=by
 induction k with
 | zero=>simp[coms]
 | succ k j=>
  simp only[coms,List.mem_append,j];constructor
  ·rintro (⟨e,h1,a,i⟩|h)
   ·exact⟨e,by omega,a,i⟩
   ·split at h
    ·simp at h
    ·rename_i hk
     simp at h
     exact⟨k,by omega,hk,h⟩
  ·rintro ⟨e,h1,a,i⟩
   rcases Nat.lt_succ_iff_lt_or_eq.1 h1 with h|h
   ·exact .inl ⟨e,h,a,i⟩
   ·subst h;right;rw[if_neg a];simp[i]
section
variable {P:Pr}(G:Grp P)
include G
theorem Grp.sift_add {Q:List Int->Prop}{b:List (List Int)}{q:List (List Int)}{R:List Int->Prop}{X Y:List Int}(A:AddInv P Q (gt b) (X :: q) R) (e : ∀ i,SiftΦ P b i -> i X -> i Y):∃R',AddInv P Q (gt b) (Y :: q) R':=by
 refine e (λy=>∃R,AddInv P Q (gt b) (y :: q) R) ?_ ⟨R,A⟩;rintro d y j m r p ⟨R,A⟩;obtain⟨_,h1,h2⟩:=A.tab d j p;have a:=G.left_clear j m h1 h2;exact⟨_,addInv_sift A j m r p a.1 (λK S k l=>(a.2 K S k).1 l) (λK S k l=>(a.2 K S k).2 l)⟩
theorem Grp.add_step {Q:List Int->Prop}{b:List (List Int)}{q:List (List Int)}{R:List Int->Prop}{y:List Int}(A:AddInv P Q (gt b) (y :: q) R) {d:Nat}(l:d<P.orders.length) (m:T P d y) (u:gt b d=[]) (p:b.length=P.orders.length)
  (k:Int) (a:0<=k) (hk:(k*gt y d)%gt P.orders d=1) :
  ∃R',AddInv P Q (gt (b.set d (pw P y k.toNat))) (q++[y]++[pw P (pw P y k.toNat) (gt P.orders d).toNat]++coms P b (pw P y k.toNat) P.orders.length) R':=by
 obtain⟨w,hz1⟩:=G.lead_one l m k a hk;refine⟨_,G.addInv_insert A l m u w hz1 (λK S h=>S.pw h _) (λe r => ?_) (λx hx => ?_) (λx hx => ?_) (λe r i => .inl ?_)⟩
 ·by_cases h:e=d
  ·subst h;rw[if_pos rfl,gt_set_eq _ _ _ (by omega)]
  ·rw[if_neg h,gt_set_ne _ _ _ _ (λj=>h j.symm)]
 ·simp only[List.mem_append,List.mem_singleton] at hx
  rcases hx with((h|h)|h)|h
  ·exact .inl h
  ·exact .inr (.inl h)
  ·exact .inr (.inr (.inr (.inl h)))
  ·obtain ⟨e,h1,j,h3⟩:=mem_coms.1 h
   exact .inr (.inr (.inr (.inr ⟨e,h1,j,.inl h3⟩)))
 ·simp only[List.mem_append,List.mem_singleton]
  rcases hx with h|h|h
  ·exact .inl (.inl (.inl h))
  ·exact .inl (.inl (.inr h))
  ·exact .inl (.inr h)
 ·simp only[List.mem_append]
  exact .inr (mem_coms.2 ⟨e,r,i,rfl⟩)
theorem Grp.ind_same {H k:List Int->Prop}{b:Nat->List Int}(I:Ind P H b) (l:Ind P k b) (m:∀x,H x->k x) (x:List Int) (hx:k x):H x:=by
 have a:=l.sub.vec x hx;have i:=G.invV a;obtain⟨y,hy⟩:=G.rep_ex I a;obtain⟨e,h1,u⟩:=hy;have w:rMul P x (rMul P (rInv P x) y)=y:=by rw[<-G.ass a i e,G.mul_inv a,G.grp.el _ e]
 have p:k y:=by rw[<-w];exact l.sub.mul _ _ hx (m _ h1)
 by_cases q:y=zeros P.orders.length
 ·rw [q,G.grp.er _ i] at h1
  have:=I.sub.inv _ h1;rwa [G.inv_inv a] at this
 ·obtain ⟨d,r,z,j⟩:=depth_ex e q
  exact absurd (u d r (l.piv y p d r z j)) j
end
end Go.Proofs.YtldheeicjnncoaaGreat
namespace Go.Proofs.YtldheeicjnncoaaGreat
open Go.RowKit
def SeqOk (P:Pr) (U:List (List Int)):Prop:=
 (∀z∈U,Vec P.orders z/\dep z<P.orders.length/\gt z (dep z)=1)/\∀i j,i<j->j<U.length->dep (gt U i)<dep (gt U j)
structure RepTo (P:Pr) (U:List (List Int)) (X:List Int) (i:Nat) (y:List Int):Prop where
 vec:Vec P.orders y
 zer:∀j,j<i->gt y (dep (gt U j))=0
 cos:∀K,Sub P K->(∀z∈U,K z)->K (rMul P (rInv P X) y)
 old:∀k,(∀z∈U,k<dep z)->gt y k=gt X k
section
variable {P:Pr}(G:Grp P)
include G
theorem Grp.repTo_zero {U:List (List Int)}{X:List Int}(a:Vec P.orders X):RepTo P U X 0 X:=
 ⟨a,λj b=>by omega,λK S _=>by rw[G.inv_mul a];exact S.one,λ_ _=>rfl⟩
theorem Grp.repTo_step {U:List (List Int)}{X y:List Int}{i:Nat}(hU:SeqOk P U) (l:Vec P.orders X) (hi:i<U.length) (h:RepTo P U X i y) :
  RepTo P U X i (rMul P y (gt U i))/\gt (rMul P y (gt U i)) (dep (gt U i))=(gt y (dep (gt U i))+1)%gt P.orders (dep (gt U i)):=by
 obtain⟨h1,a,h3⟩:=hU.1 _ (gtMem hi);have hr:=G.right (Nat.le_of_lt a) h.vec (dep_T h1);refine⟨⟨G.mulV h.vec h1,λj b => ?_,λK S e => ?_,λk hk => ?_⟩,?_⟩
 ·rw[hr.1 _ (hU.2 j i b hi)];exact h.zer j b
 ·rw[<-G.ass (G.invV l) h.vec h1];exact S.mul _ _ (h.cos K S e) (e _ (gtMem hi))
 ·rw[hr.1 k (hk _ (gtMem hi))];exact h.old k hk
 ·rw[hr.2 a,h3]
omit G in
theorem repTo_next {U:List (List Int)}{X y:List Int}{i:Nat}(h:RepTo P U X i y) (a:gt y (dep (gt U i))=0):RepTo P U X (i+1) y:=
 ⟨h.vec,λj b=>by
  rcases Nat.lt_succ_iff_lt_or_eq.1 b with h1|h1
  ·exact h.zer j h1
  ·rw[h1];exact a,h.cos,h.old⟩
end
def lft (o e:Int):Nat:=if e=0 then 0 else (o-e).toNat
theorem lft_step {o e:Int}(b:0<=e) (h1:e<o) (a:e≠0):lft o ((e+1)%o)<lft o e:=by
 unfold lft;rw[if_neg a];by_cases h:e+1=o
 ·rw[h,Int.emod_self,if_pos rfl];omega
 ·rw[Int.emod_eq_of_lt (by omega) (by omega),if_neg (by omega)];omega
theorem representative_ok (P:Pr) (G:Grp P) (w:World) (p uv xv:Value) (U:List (List Int)) (X:List Int) (Sp Su Sx:Nat->Prop) (hp:PresP Sp w p P) (hu:Rows2 Su w uv U) (hU:SeqOk P U) (hl:U.length<=100) (hx:Ints Sx w xv X) (hX:Vec P.orders X) :
  Calls Tryz.prog 224 #[p,uv,xv] w (Ret w λw' v=>∃Y,Own w.heap.size w' v Y/\RepTo P U X U.length Y):=by
 have hP:=G.v;have aG:=hP.n6;have aH:X.length<=6:=by rw[hX.1];omega
 obtain⟨pb,po,rfl⟩:=hp.shape;obtain⟨au,capu,rfl,_,_⟩:=Sl.shape hu;have ai:∀z∈U,dep z<z.length:=λz hz=>by have:=hU.1 z hz;rw[this.1.1];exact this.2.1
 have E:=Lib.hid (And.intro hU hX);clear hU hX;go_enter Tryz.func224,Tryz.ntmps224;go_wp2_with fail
 refine Calls.mono (clone_ok w xv X Sx hx (by omega)) ?_;rintro e0 w0 ⟨ov,rfl,F,m⟩;go_wp2_with fail
 refine Calls.mono (pivots_ok _ U w0 Su (Rows2.ext hu F) ai (by omega)) ?_;rintro e1 w1 ⟨pv,rfl,hg1,y⟩;have H:=grown_trans F hg1;have I:=m.ext0 hg1;have J:∀k,ov.ownBlock=some k->w.heap.size<=k/\k<w0.heap.size:=λk hk=>⟨(m.lt k hk).1,(m.lt k hk).2⟩
 have K:∃az L,pv=.slice az U.length L:=by
  rcases y.form with⟨h1,q⟩|⟨g,cp,h1,_⟩
  ·have h3:U.length=0:=by unfold depV at q;rw[List.map_eq_nil_iff] at q;rw[q];rfl
   exact⟨none,0,by rw[h1,h3]⟩
  ·exact⟨_,_,by rw[h1];unfold depV;rw[List.length_map]⟩
 obtain⟨ap,r,rfl⟩:=K;have A:=Lib.hid J;clear J;go_wp2;go_loopw [15] (λiv wr=>∃(i:Nat) (Y:List Int),iv=.int .i64 i/\i<=U.length/\Ext w wr/\Own w.heap.size wr ov Y/\OwnV w0.heap.size 3 wr (.slice ap U.length r) (depV U)/\Hid (RepTo P U X i Y)) (λiv _=>U.length-(intOf iv).toNat)
 case atStart=>exact⟨0,X,rfl,by omega,H,I,y,Lib.hid (G.repTo_zero E.out.2)⟩
 case round=>
  obtain⟨i,Y,rfl,hi,hg,hO,hV,B⟩:=hrel;clear m I y;by_cases a:i<U.length
  ·have aC:(i:Int)<U.length:=by omega
   have M:gt (depV U) i=.int .i64 (dep (gt U i)):=by unfold depV;rw[gt_map _ _ _ a]
   have al:∃g,ap=some ⟨g,0,none⟩:=by
    rcases hV.form with⟨h1,q⟩|⟨g,cp,h1,_⟩
    ·unfold depV at q;rw[List.map_eq_nil_iff] at q;rw[q] at a;simp at a
    ·simp only[Value.slice.injEq] at h1;exact⟨g,h1.1⟩
   obtain⟨gp,rfl⟩:=al;have N:=hV.cell i (by unfold depV;rw[List.length_map];exact a);rw[M] at N;clear M;obtain⟨d,hd⟩:∃d,d=dep (gt U i):=⟨_,rfl⟩;rw[<-hd] at N;have C:d<P.orders.length:=by rw[hd];exact(E.out.1.1 _ (gtMem a)).2.1
   have ho:=hP.ord7 d C;have HD:=Lib.hid hd;clear hd;go_wp2;go_loopg [20] (lft (gt P.orders d) (gt Y d)) (λgk _ wr=>∃Y,gk=lft (gt P.orders d) (gt Y d)/\Ext w wr/\Own w.heap.size wr ov Y/\OwnV w0.heap.size 3 wr (.slice (some ⟨gp,0,none⟩) U.length r) (depV U)/\Hid (RepTo P U X i Y))
   case atStart=>exact⟨Y,rfl,hg,hO,hV,B⟩
   case round=>
    clear hO hV B hg;obtain⟨Y,hgk,hg,hO,hV,B⟩:=hrel;have b:=B.out.vec;have O:=b.2 d C;have Q:=hO.ints (by rw[b.1];omega);obtain⟨ax,capx,R,_,_⟩:=Q.shape;rw[b.1] at R;subst R;obtain⟨bx,ox,rfl,_,_,hcx⟩:=Ints.at Q d (by rw[b.1];exact C);have aE:(d:Int)<P.orders.length:=by omega
    by_cases hy:gt Y d=0
    ·have an:Hid (RepTo P U X (i+1) Y):=Lib.hid (repTo_next B.out (by rw[<-HD.out];exact hy))
     have hb:(gt Y d != 0)=false:=by simp[hy]
     have HY:=Lib.hid b;clear b hy hgk;go_wp2;go_roundw
     case rel=>exact⟨i+1,Y,by go_num,by omega,hg,hO,hV,an⟩
     case measure=>simp[intOf];omega
    ·have hb:(gt Y d != 0)=true:=by simp[hy]
     obtain⟨u,l⟩:=G.repTo_step E.out.1 E.out.2 a B.out;rw[<-HD.out] at l;have D:=lft_step O.1 O.2 hy;rw[<-l,<-hgk] at D;have V:=(E.out.1.1 _ (gtMem a)).1;have W:tv P Y (gt U i)=rMul P Y (gt U i):=G.tv_eq b V;obtain⟨bu,ou,a2,cap2,oQ,qT,qU,jR,ao⟩:=Rows2.at hu i a;subst oQ;have aF:=hg.cell jR (by simp);have HS:=Lib.hid (And.intro u (And.intro D W));clear u D W l hgk hy jR;have Z:=Lib.hid b;have aa:∀(S:Nat->Prop) k,S k->k<w.heap.size->Off (Value.slice (some ⟨bx,ox,none⟩) P.orders.length capx).ownBlock k/\k<wr.heap.size/\wr.heap[k]? = w.heap[k]? :=λS k _ a=>⟨λe=>by have:=(A.out k e).1;omega,Nat.lt_of_lt_of_le a hg.size,hg.block k a (by simp)⟩;go_wp2_with fail
     refine Calls.mono (timesVector_ok P hP w.heap.size wr _ _ _ Y (gt U i) (hp.mono (aa Sp)) hO Z.out (Ints.mono ao (aa Su)) V) ?_;rintro eM wM ⟨vM,rfl,kf,rfl,ab⟩;rw[HS.out.2.2] at ab;have ac:Ext w wM:=grown_own hg kf (λj hj a=>by have:=(A.out j hj).1;omega)
     have ar:=hV.kept kf (.inr (λe=>by
      have h1:=(A.out gp (by rw[<-e];rfl)).2;have q:=(hV.lt gp rfl).1;omega))
     go_wp2;go_roundg (lft (gt P.orders d) (gt (rMul P Y (gt U i)) d))
     case measure=>exact HS.out.2.1
     case rel=>exact⟨_,rfl,ac,ab,ar,Lib.hid HS.out.1⟩
  ·have av:i=U.length:=by omega
   subst av;go_wp2;go_ret;exact⟨_,rfl,hg,Y,hO,B.out⟩
end Go.Proofs.YtldheeicjnncoaaGreat
namespace Go.Proofs.YtldheeicjnncoaaGreat
def sq (r:Nat->List Int) (k m:Nat):List (List Int):=(List.range' m k).filterMap (λd=>if r d=[] then none else some (r d))
theorem sq_zero (r:Nat->List Int) (m:Nat):sq r 0 m=[]:=rfl
theorem sq_succ (r:Nat->List Int) (k m:Nat):sq r (k+1) m=(if r m=[] then [] else [r m])++sq r k (m+1):=by
 unfold sq;rw[List.range'_succ,List.filterMap_cons];by_cases h:r m=[]<;>simp[h]
theorem sq_all (r:Nat->List Int) (n:Nat):seqOf n r=sq r n 0:=by unfold seqOf sq;rw[List.range_eq_range']
theorem sq_congr {r a:Nat->List Int}(k m:Nat) (h:∀d,m<=d->d<m+k->r d=a d):sq r k m=sq a k m:=by
 induction k generalizing m with
 | zero=>rfl
 | succ k b=>rw[sq_succ,sq_succ,h m (by omega) (by omega),b (m+1) (λd h1 e=>h d (by omega) (by omega))]
theorem mem_sq {r:Nat->List Int}{k m:Nat}{z:List Int} : z∈sq r k m↔∃e,m<=e/\e<m+k/\r e≠[]/\z=r e:=by
 induction k generalizing m with
 | zero=>
  rw[sq_zero];constructor
  ·intro h;cases h
  ·rintro⟨e,h1,h2,_⟩;omega
 | succ k i=>
  rw[sq_succ,List.mem_append,i];constructor
  ·rintro (h|⟨e,h1,h2,a⟩)
   ·split at h
    ·cases h
    ·rename_i j
     simp at h
     exact⟨m,by omega,by omega,j,h⟩
   ·exact⟨e,by omega,by omega,a⟩
  ·rintro ⟨e,h1,h2,a,b⟩
   rcases Nat.lt_or_ge m e with h|h
   ·exact .inr ⟨e,by omega,by omega,a,b⟩
   ·have:e=m:=by omega
    subst this;left;rw[if_neg a];simp[b]
theorem sq_len (r:Nat->List Int) (k m:Nat):(sq r k m).length<=k:=by
 induction k generalizing m with
 | zero=>exact Nat.le_refl _
 | succ k a=>rw[sq_succ,List.length_append];have:=a (m+1);split<;>simp<;>omega
structure CanInv (P:Pr) (H:List Int->Prop) (b r:Nat->List Int) (m:Nat):Prop where
 nil:∀e,m<=e->e<P.orders.length->(r e=[]↔b e=[])
 mem:∀e,m<=e->e<P.orders.length->r e≠[]->H (r e)/\T P e (r e)/\gt (r e) e=1
 red:∀e e',m<=e->e<e'->e'<P.orders.length->r e≠[]->r e'≠[]->gt (r e) e'=0
section
variable {P:Pr}(G:Grp P)
include G
omit G in
theorem CanInv.dep {H:List Int->Prop}{b r:Nat->List Int}{m e:Nat}(h:CanInv P H b r m) (h1:m<=e) (a:e<P.orders.length) (i:r e≠[]):dep (r e)=e:=by
 obtain⟨_,hT,j⟩:=h.mem e h1 a i;exact dep_lead a hT (by rw[j];decide)
omit G in
theorem CanInv.sorted {H:List Int->Prop}{b r:Nat->List Int}{a:Nat}(h:CanInv P H b r a):∀k m,a<=m->m+k=P.orders.length->(sq r k m).Pairwise (λx y=>Go.Proofs.YtldheeicjnncoaaGreat.dep x<Go.Proofs.YtldheeicjnncoaaGreat.dep y):=by
 intro k;induction k with
 | zero=>intro m _ _;exact List.Pairwise.nil
 | succ k i=>
  intro m j q;rw[sq_succ];by_cases hr:r m=[]
  ·rw[if_pos hr,List.nil_append];exact i (m+1) (by omega) (by omega)
  ·rw [if_neg hr,List.singleton_append]
   refine List.Pairwise.cons (λz l => ?_) (i (m+1) (by omega) (by omega));obtain⟨e,h1,h2,p,rfl⟩:=mem_sq.1 l;rw[h.dep j (by omega) hr,h.dep (by omega) (by omega) p];omega
omit G in
theorem CanInv.seqOk {H:List Int->Prop}{b r:Nat->List Int}{k m:Nat}(h:CanInv P H b r m) (q:m+k=P.orders.length):SeqOk P (sq r k m):=by
 refine⟨λz u => ?_,λi j a l => ?_⟩
 ·obtain ⟨e,h1,h2,p,rfl⟩:=mem_sq.1 u
  obtain⟨_,a2,a3⟩:=h.mem e h1 (by omega) p;rw[h.dep h1 (by omega) p];exact⟨a2.1,by omega,a3⟩
 ·rw [gt_eq _ i (by omega),gt_eq _ j l]
  exact List.pairwise_iff_getElem.1 (h.sorted k m (Nat.le_refl _) q) i j (by omega) l a
theorem Grp.can_step {H:List Int->Prop}{b r:Nat->List Int}{d k:Nat}{y:List Int}(I:Ind P H b) (h:CanInv P H b r (d+1)) (hk:d+1+k=P.orders.length) (J:b d≠[]) (hy:RepTo P (sq r k (d+1)) (b d) (sq r k (d+1)).length y) :
  CanInv P H b (λe=>if e=d then y else r e) d/\sq (λe=>if e=d then y else r e) (k+1) d=y :: sq r k (d+1):=by
 have K:d<P.orders.length:=by omega
 obtain⟨L,A,m3⟩:=I.mem d K J;have l:y≠[]:=λe=>by have:=hy.vec.1;rw[e] at this;simp at this;omega
 have m:∀j,j<=d->gt y j=gt (b d) j:=λj q=>hy.old j (λz u=>by
  obtain⟨e,h1,a,i,rfl⟩:=mem_sq.1 u;rw[h.dep h1 (by omega) i];omega)
 have B:H y:=by
  have h1:=hy.cos H I.sub (λz u=>by
   obtain⟨e,h1,a,i,rfl⟩:=mem_sq.1 u;exact(h.mem e h1 (by omega) i).1)
  have a:=I.sub.mul _ _ L h1;rwa [<-G.ass A.1 (G.invV A.1) hy.vec,G.mul_inv A.1,G.grp.el _ hy.vec] at a
 have C:T P d y:=⟨hy.vec,λj q=>by rw[m j (by omega)];exact A.2 j q⟩;have hy1:gt y d=1:=by rw[m d (Nat.le_refl _)];exact m3
 have D:∀e,d<e->e<P.orders.length->r e≠[]->gt y e=0:=λe h1 a i=>by
  have u:r e∈sq r k (d+1):=mem_sq.2 ⟨e,by omega,by omega,i,rfl⟩;obtain⟨j,q,hje⟩:=List.getElem_of_mem u;have w:=hy.zer j q;rw[gt_eq _ j q,hje,h.dep (by omega) a i] at w;exact w
 refine⟨⟨λe h1 a => ?_,λe h1 a i => ?_,λe e' h1 a i w E => ?_⟩,?_⟩
 ·by_cases p:e=d
  ·subst p;simp[l,J]
  ·rw[if_neg p];exact h.nil e (by omega) a
 ·by_cases p:e=d
  ·subst p;simp only[if_true] ; exact⟨B,C,hy1⟩
  ·simp only[if_neg p] at i ⊢;exact h.mem e (by omega) a i
 ·have F:e'≠d:=by omega
  simp only[if_neg F] at E;by_cases p:e=d
  ·subst p;simp only[if_true];exact D e' a i E
  ·simp only[if_neg p] at w ⊢;exact h.red e e' (by omega) a i w E
 ·rw [sq_succ,if_pos rfl,if_neg l,List.singleton_append]
  congr 1
  exact sq_congr k (d+1) (λe h1 a=>by rw[if_neg (by omega)])
omit G in
theorem can_skip {H:List Int->Prop}{b r:Nat->List Int}{d k:Nat}(h:CanInv P H b r (d+1)) (q:b d=[]) :
  CanInv P H b (λe=>if e=d then [] else r e) d/\sq (λe=>if e=d then [] else r e) (k+1) d=sq r k (d+1):=by
 refine⟨⟨λe h1 i => ?_,λe h1 i j => ?_,λe e' h1 i j l p => ?_⟩,?_⟩
 ·by_cases a:e=d
  ·subst a;simp[q]
  ·rw[if_neg a];exact h.nil e (by omega) i
 ·by_cases a:e=d
  ·subst a;simp at j
  ·simp only[if_neg a] at j ⊢;exact h.mem e (by omega) i j
 ·have m:e'≠d:=by omega
  simp only[if_neg m] at p;by_cases a:e=d
  ·subst a;simp at l
  ·simp only[if_neg a] at l ⊢;exact h.red e e' (by omega) i j l p
 ·rw [sq_succ,if_pos rfl,if_pos rfl,List.nil_append]
  exact sq_congr k (d+1) (λe h1 i=>by rw[if_neg (by omega)])
theorem Grp.can_end {H:List Int->Prop}{b r:Nat->List Int}(I:Ind P H b) (h:CanInv P H b r 0):sq r P.orders.length 0=cseq P H:=by
 have j:Red P H r:=⟨⟨I.sub,λd a hr=>h.mem d (by omega) a hr,λx hx d a k l hr=>I.piv x hx d a k l ((h.nil d (by omega) a).1 hr)⟩,λd e i m h1 p=>h.red d e (by omega) i m h1 p⟩;rw[G.cseq_red j,sq_all]
end
theorem elTo_len (o:List Int) (N:Nat) (m:Int) (k:Nat):(elTo o N m k).1.length=N:=by
 induction k with
 | zero=>simp[elTo]
 | succ k a=>simp only[elTo];rw[List.length_set,a]
theorem elTo_keep (o:List Int) (N:Nat) (m:Int) (j k:Nat) (hk:j<k) (a:k<=N):gt (elTo o N m k).1 (N-1-j)=(elTo o N m j).2%gt o (N-1-j):=by
 induction k with
 | zero=>omega
 | succ k b=>
  simp only[elTo];by_cases e:j=k
  ·subst e;rw[gt_set_eq _ _ _ (by rw[elTo_len];omega)]
  ·rw[gt_set_ne _ _ _ _ (by omega)];exact b (by omega) (by omega)
theorem elTo_lt {P:Pr}(hP:Valid P) (m:Int) (h1:m<ordP P) (k:Nat) (hk:k<=P.orders.length):(elTo P.orders P.orders.length m k).2<prodTo P.orders (P.orders.length-k):=by
 induction k with
 | zero=>exact h1
 | succ k b=>
  have a:=b (by omega);have i:=hP.ord7 (P.orders.length-1-k) (by omega);simp only[elTo];have e:P.orders.length-k=(P.orders.length-(k+1))+1:=by omega
  rw[e] at a;simp only[prodTo] at a;rw[show P.orders.length-(k+1)=P.orders.length-1-k by omega] at a ⊢;exact Int.ediv_lt_of_lt_mul (by omega) a
theorem num_elAt {P:Pr}(hP:Valid P) (m:Int) (i:0<=m) (h1:m<ordP P):num P (elAt P m)=m:=by
 have j:(elTo P.orders P.orders.length m P.orders.length).2=0:=by
  have a:=elTo_lt hP m h1 P.orders.length (Nat.le_refl _);have q:=(elTo_inv hP m i P.orders.length (Nat.le_refl _)).2.1;rw[Nat.sub_self] at a;simp only[prodTo] at a;omega
 have key:∀k,k<=P.orders.length->numTo P.orders (elAt P m) k=(elTo P.orders P.orders.length m (P.orders.length-k)).2:=by
  intro k;induction k with
  | zero=>intro _;simp only[numTo,Nat.sub_zero];exact j.symm
  | succ k l=>
   intro hk;simp only[numTo];rw[l (by omega)];have e:P.orders.length-k=(P.orders.length-(k+1))+1:=by omega
   have p:gt (elAt P m) k=(elTo P.orders P.orders.length m (P.orders.length-(k+1))).2%gt P.orders k:=by
    have:=elTo_keep P.orders P.orders.length m (P.orders.length-(k+1)) P.orders.length (by omega) (Nat.le_refl _);rw[show P.orders.length-1-(P.orders.length-(k+1))=k by omega] at this;exact this
   rw[p,e];simp only[elTo];rw[show P.orders.length-1-(P.orders.length-(k+1))=k by omega];have:=Int.emod_add_mul_ediv (elTo P.orders P.orders.length m (P.orders.length-(k+1))).2 (gt P.orders k);rw[Int.mul_comm] at this;omega
 have b:=key P.orders.length (Nat.le_refl _);rw[Nat.sub_self] at b;exact b
theorem num_inj {P:Pr}(hP:Valid P) {x y:List Int}(hx:Vec P.orders x) (hy:Vec P.orders y) (h:num P x=num P y):x=y:=by
 have key:∀k,k<=P.orders.length->numTo P.orders x (P.orders.length-k)=numTo P.orders y (P.orders.length-k)/\∀j,P.orders.length-k<=j->j<P.orders.length->gt x j=gt y j:=by
  intro k;induction k with
  | zero=>intro _;exact⟨h,λj a b=>by omega⟩
  | succ k p=>
   intro hk;obtain⟨h1,h2⟩:=p (by omega);have e:P.orders.length-k=(P.orders.length-(k+1))+1:=by omega
   rw[e] at h1;simp only[numTo] at h1;have z:=hP.ord7 (P.orders.length-(k+1)) (by omega);have i:=hx.2 (P.orders.length-(k+1)) (by omega);have l:=hy.2 (P.orders.length-(k+1)) (by omega)
   have q:gt x (P.orders.length-(k+1))=gt y (P.orders.length-(k+1)):=by
    have m:(numTo P.orders x (P.orders.length-(k+1))*gt P.orders (P.orders.length-(k+1))+gt x (P.orders.length-(k+1)))%gt P.orders (P.orders.length-(k+1))=(numTo P.orders y (P.orders.length-(k+1))*gt P.orders (P.orders.length-(k+1))+gt y (P.orders.length-(k+1)))%gt P.orders (P.orders.length-(k+1)):=by rw[h1]
    rw[Int.add_comm,Int.add_mul_emod_self_right,Int.add_comm _ (gt y _),Int.add_mul_emod_self_right,Int.emod_eq_of_lt i.1 i.2,Int.emod_eq_of_lt l.1 l.2] at m;exact m
   refine⟨?_,λj a b => ?_⟩
   ·have r:numTo P.orders x (P.orders.length-(k+1))*gt P.orders (P.orders.length-(k+1))=numTo P.orders y (P.orders.length-(k+1))*gt P.orders (P.orders.length-(k+1)):=by omega
    exact Int.eq_of_mul_eq_mul_right (by omega) r
   ·by_cases u:j=P.orders.length-(k+1)
    ·rw[u];exact q
    ·exact h2 j (by omega) b
 have w:=(key P.orders.length (Nat.le_refl _)).2;exact ext_gt (by rw[hx.1,hy.1]) (λk hk=>w k (by omega) (by rw[<-hx.1];exact hk))
theorem elAt_num {P:Pr}(hP:Valid P) {x:List Int}(hx:Vec P.orders x):elAt P (num P x)=x:=by
 have a:=num_bd hP hx;exact num_inj hP (elAt_vec hP _ a.1) hx (num_elAt hP _ a.1 a.2)
end Go.Proofs.YtldheeicjnncoaaGreat
namespace Go.Proofs.YtldheeicjnncoaaGreat
open Go.RowKit
def cmpI (a b:Int):Int:=if a<b then -1 else if b<a then 1 else 0
def cmpL:List Int->List Int->Int
 | [],[]=>0
 | [],_ :: _ => -1
 | _ :: _,[]=>1
 | x :: xs,y :: ys=>if cmpI x y=0 then cmpL xs ys else cmpI x y
theorem cmpI_cases (a b:Int):(cmpI a b = -1/\a<b)\/(cmpI a b=0/\a=b)\/(cmpI a b=1/\b<a):=by
 unfold cmpI;by_cases h:a<b
 ·simp[h]
 ·by_cases e:b<a
  ·simp[h,e]
  ·simp[h,e];omega
theorem cmpL_zero:∀(x y:List Int),cmpL x y=0↔x=y
 | [],[]=>by simp[cmpL]
 | [],_ :: _=>by simp[cmpL]
 | _ :: _,[]=>by simp[cmpL]
 | x :: xs,y :: ys=>by
  simp only[cmpL];rcases cmpI_cases x y with⟨h,a⟩|⟨h,a⟩|⟨h,a⟩
  ·simp[h];omega
  ·rw[if_pos h,cmpL_zero xs ys];simp[a]
  ·simp[h];omega
theorem cmpL_swap:∀(x y:List Int),cmpL y x = - cmpL x y
 | [],[]=>by simp[cmpL]
 | [],_ :: _=>by simp[cmpL]
 | _ :: _,[]=>by simp[cmpL]
 | x :: xs,y :: ys=>by
  simp only[cmpL];have a:=cmpL_swap xs ys;rcases cmpI_cases x y with⟨h,h2⟩|⟨h,h2⟩|⟨h,h2⟩<;>rcases cmpI_cases y x with⟨k,k2⟩|⟨k,k2⟩|⟨k,k2⟩<;>simp[h,k,a]<;>omega
theorem cmpL_le_trans:∀(x y z:List Int),cmpL x y<=0->cmpL y z<=0->cmpL x z<=0
 | [],[],[]=>by simp[cmpL]
 | [],[],_ :: _=>by simp[cmpL]
 | [],_ :: _,[]=>by simp[cmpL]
 | [],_ :: _,_ :: _=>by simp[cmpL]
 | _ :: _,[],[]=>by simp[cmpL]
 | _ :: _,[],_ :: _=>by simp[cmpL]
 | _ :: _,_ :: _,[]=>by simp[cmpL]
 | x :: xs,y :: ys,z :: zs=>by
  simp only[cmpL];have a:=cmpL_le_trans xs ys zs;rcases cmpI_cases x y with⟨h,h2⟩|⟨h,h2⟩|⟨h,h2⟩<;>rcases cmpI_cases y z with⟨k,k2⟩|⟨k,k2⟩|⟨k,k2⟩<;>rcases cmpI_cases x z with⟨l,l2⟩|⟨l,l2⟩|⟨l,l2⟩<;>simp[h,k,l]<;>first|omega|(intros;omega)|exact a|skip
theorem cmpL_total (x y:List Int):cmpL x y<=0\/cmpL y x<=0:=by have:=cmpL_swap x y;omega
theorem cmpL_antisymm {x y:List Int}(h:cmpL x y<=0) (k:cmpL y x<=0):x=y:=by
 have:=cmpL_swap x y;exact(cmpL_zero x y).1 (by omega)
def SortedL (L:List (List Int)):Prop:=L.Pairwise (λx y=>cmpL x y<=0)
def sortL (L:List (List Int)):List (List Int):=L.mergeSort (λx y=>decide (cmpL x y<=0))
theorem sortL_perm (L:List (List Int)):(sortL L).Perm L:=List.mergeSort_perm _ _
theorem sortL_sorted (L:List (List Int)):SortedL (sortL L):=by
 have h:=List.pairwise_mergeSort (le:=λx y=>decide (cmpL x y<=0)) (λa b c h k=>by simp at *;exact cmpL_le_trans a b c h k) (λa b=>by simp;exact cmpL_total a b) L;exact h.imp (λh=>by simpa using h)
theorem sorted_unique:∀(L M:List (List Int)),SortedL L->SortedL M->L.Perm M->L=M:=by
 intro L;induction L with
 | nil=>intro M _ _ h;exact(List.nil_perm.1 h).symm▸rfl
 | cons x L m=>
  intro M j l a;cases M with
  | nil=>exact absurd a.symm (by simp)
  | cons y M=>
   have b:x∈y :: M:=a.subset (by simp);have e:y∈x :: L:=a.symm.subset (by simp)
   have i:x=y:=by
    rcases List.mem_cons.1 b with h|h
    ·exact h
    ·rcases List.mem_cons.1 e with k|k
     ·exact k.symm
     ·exact cmpL_antisymm ((List.pairwise_cons.1 j).1 y k) ((List.pairwise_cons.1 l).1 x h)
   subst i;rw[m M (List.pairwise_cons.1 j).2 (List.pairwise_cons.1 l).2 (List.perm_cons x |>.1 a)]
theorem gt_mem {α:Type} [Inhabited α] {l:List α}{i:Nat}(h:i<l.length):gt l i∈l:=by
 simp only[gt,List.getD_eq_getElem?_getD,List.getElem?_eq_getElem h,Option.getD_some];exact List.getElem_mem h
theorem mem_gt {α:Type} [Inhabited α] {l:List α}{x:α}(h:x∈l):∃i,i<l.length/\gt l i=x:=by
 obtain⟨i,hi,rfl⟩:=List.getElem_of_mem h;exact⟨i,hi,by simp[gt,hi]⟩
end Go.Proofs.YtldheeicjnncoaaGreat
namespace Go.Proofs.YtldheeicjnncoaaGreat
theorem cmpL_append:∀(a b:List Int) (u v:Int),a.length=b.length->cmpL (a++[u]) (b++[v])=if cmpL a b=0 then cmpL [u] [v] else cmpL a b
 | [],[],u,v,_=>by simp[cmpL]
 | [],_ :: _,_,_,h=>by simp at h
 | _ :: _,[],_,_,h=>by simp at h
 | x :: a,y :: b,u,v,h=>by
  have e:=cmpL_append a b u v (by simpa using h);generalize cmpL [u] [v]=c at e ⊢;simp only[List.cons_append,cmpL];rcases cmpI_cases x y with⟨h1,_⟩|⟨h1,_⟩|⟨h1,_⟩<;>simp[h1,e]
theorem cmpL_one (u v:Int):(cmpL [u] [v]<0↔u<v)/\(cmpL [u] [v]=0↔u=v):=by
 simp only[cmpL];rcases cmpI_cases u v with⟨h1,h2⟩|⟨h1,h2⟩|⟨h1,h2⟩<;>simp[h1]<;>omega
theorem cmpL_num {P:Pr}(hP:Valid P) {x y:List Int}(hx:Vec P.orders x) (hy:Vec P.orders y):cmpL x y<0↔num P x<num P y:=by
 have key:∀k,k<=P.orders.length->(cmpL (x.take k) (y.take k)<0↔numTo P.orders x k<numTo P.orders y k)/\(cmpL (x.take k) (y.take k)=0↔numTo P.orders x k=numTo P.orders y k):=by
  intro k;induction k with
  | zero=>intro _;simp[numTo,cmpL]
  | succ k j=>
   intro hk;obtain⟨h1,h2⟩:=j (by omega);have p:=hP.ord7 k (by omega);have l:=hx.2 k (by omega);have m:=hy.2 k (by omega);rw[take_succ_gt x k (by rw[hx.1];omega),take_succ_gt y k (by rw[hy.1];omega),cmpL_append _ _ _ _ (by simp[hx.1,hy.1])];simp only[numTo];obtain⟨c1,c2⟩:=cmpL_one (gt x k) (gt y k);rcases Int.lt_trichotomy (numTo P.orders x k) (numTo P.orders y k) with h|h|h
   ·have a:cmpL (x.take k) (y.take k)<0:=h1.2 h
    rw[if_neg (by omega)];have i:(numTo P.orders x k+1)*gt P.orders k<=numTo P.orders y k*gt P.orders k:=Int.mul_le_mul_of_nonneg_right (by omega) (by omega);rw[Int.add_mul,Int.one_mul] at i;exact⟨⟨λ_=>by omega,λ_=>a⟩,⟨λh=>by omega,λh=>by omega⟩⟩
   ·have a:cmpL (x.take k) (y.take k)=0:=h2.2 h
    rw[if_pos a,h];exact⟨by rw[c1];omega,by rw[c2];omega⟩
   ·have a:¬cmpL (x.take k) (y.take k)<0:=λe=>by have:=h1.1 e;omega
    have b:¬cmpL (x.take k) (y.take k)=0:=λe=>by have:=h2.1 e;omega
    rw[if_neg b];have i:(numTo P.orders y k+1)*gt P.orders k<=numTo P.orders x k*gt P.orders k:=Int.mul_le_mul_of_nonneg_right (by omega) (by omega);rw[Int.add_mul,Int.one_mul] at i;exact⟨⟨λh=>absurd h a,λh=>by omega⟩,⟨λh=>absurd h b,λh=>by omega⟩⟩
 have h:=(key P.orders.length (Nat.le_refl _)).1;rw[List.take_of_length_le (by rw[hx.1];omega),List.take_of_length_le (by rw[hy.1];omega)] at h;exact h
theorem asc_unique {P:Pr}(hP:Valid P) {L M:List (List Int)}(l:∀x∈L,Vec P.orders x) (j:L.Pairwise (λx y=>num P x<num P y)) (p:M.Pairwise (λx y=>num P x<num P y)) (h:∀x,x∈L↔x∈M):L=M:=by
 have nd:∀ {K:List (List Int)},K.Pairwise (λx y=>num P x<num P y)->K.Nodup:=λq=>q.imp (λh e=>by rw[e] at h;omega);have r:L.Perm M:=(List.perm_ext_iff_of_nodup (nd j) (nd p)).2 h;have k:∀x∈M,Vec P.orders x:=λx hx=>l x ((h x).2 hx)
 have u:SortedL L:=by
  refine List.Pairwise.imp_of_mem ?_ j;intro a b ha m i;have:=(cmpL_num hP (l a ha) (l b m)).2 i;omega
 have w:SortedL M:=by
  refine List.Pairwise.imp_of_mem ?_ p;intro a b ha m i;have:=(cmpL_num hP (k a ha) (k b m)).2 i;omega
 exact sorted_unique L M u w r
open Classical in
noncomputable def elemsIn (P:Pr) (H:List Int->Prop):List (List Int):=(List.range (ordP P).toNat).filterMap (λt:Nat=>if H (elAt P (t:Int)) then some (elAt P (t:Int)) else none)
theorem elemsIn_mem {P:Pr}(hP:Valid P) {H:List Int->Prop}(hH:∀x,H x->Vec P.orders x) (x:List Int):x∈elemsIn P H↔H x:=by
 unfold elemsIn;rw[List.mem_filterMap];constructor
 ·rintro ⟨t,_,h⟩
  split at h
  ·cases h;assumption
  ·cases h
 ·intro h
  have a:=num_bd hP (hH x h);refine⟨(num P x).toNat,List.mem_range.2 (by omega),?_⟩
  have e:elAt P (((num P x).toNat:Nat):Int)=x:=by
   rw[show(((num P x).toNat:Nat):Int)=num P x by omega];exact elAt_num hP (hH x h)
  rw[e,if_pos h]
theorem elemsIn_asc {P:Pr}(hP:Valid P) (H:List Int->Prop):(elemsIn P H).Pairwise (λx y=>num P x<num P y):=by
 unfold elemsIn;rw[List.pairwise_filterMap];refine List.Pairwise.imp_of_mem ?_ (List.pairwise_lt_range (n:=(ordP P).toNat));intro a b ha e i x hx y hy;have j:=List.mem_range.1 ha;have k:=List.mem_range.1 e;split at hx
 ·split at hy
  ·cases hx;cases hy
   rw[num_elAt hP _ (by omega) (by omega),num_elAt hP _ (by omega) (by omega)];omega
  ·cases hy
 ·cases hx
theorem sort_elemsIn {P:Pr}(hP:Valid P) {H:List Int->Prop}(hH:∀x,H x->Vec P.orders x) {L:List (List Int)}(hn:L.Nodup) (q:∀x,x∈L↔H x):sortL L=elemsIn P H:=by
 have p:=sortL_perm L;have i:∀x,x∈sortL L↔H x:=λx=>p.mem_iff.trans (q x);have j:(sortL L).Nodup:=p.nodup_iff.2 hn;refine asc_unique hP (λx hx=>hH x ((i x).1 hx)) ?_ (elemsIn_asc hP H) (λx=>(i x).trans (elemsIn_mem hP hH x).symm);have r:=sortL_sorted L
 have u:(sortL L).Pairwise (λx y=>cmpL x y<=0/\x≠y):=by
  have:=List.pairwise_and_iff.2 ⟨r,j⟩;exact this
 refine List.Pairwise.imp_of_mem ?_ u;intro a b ha w k;have l:=hH a ((i a).1 ha);have m:=hH b ((i b).1 w);refine(cmpL_num hP l m).1 ?_;have z:cmpL a b≠0:=λe=>k.2 ((cmpL_zero a b).1 e);omega
def stepE (P:Pr) (u:List Int) (o:Nat) (x:List Int):List (List Int):=(List.range o).map (λt=>rMul P x (pw P u t))
def elsP (P:Pr) (U:List (List Int)):Nat->List (List Int)
 | 0=>[zeros P.orders.length]
 | k+1=>(elsP P U k).flatMap (stepE P (gt U k) (gt P.orders (dep (gt U k))).toNat)
section
variable {P:Pr}(G:Grp P)
include G
omit G in
theorem elsP_sub {H:List Int->Prop}{U:List (List Int)}(S:Sub P H) (hU:∀z∈U,H z):∀k,k<=U.length->∀x∈elsP P U k,H x:=by
 intro k;induction k with
 | zero=>intro _ x hx;simp[elsP] at hx;rw[hx];exact S.one
 | succ k a=>
  intro hk x hx;simp only[elsP,List.mem_flatMap,stepE,List.mem_map] at hx;obtain⟨y,hy,t,_,rfl⟩:=hx;exact S.mul _ _ (a (by omega) y hy) (S.pw (hU _ (gtMem (by omega))) t)
theorem Grp.elsP_diff {U:List (List Int)}(hU:SeqOk P U):∀k m,k<=U.length->(∀j,j<k->dep (gt U j)<m)->m<=P.orders.length->(elsP P U k).Pairwise (λx y=>∃j,j<m/\gt x j≠gt y j):=by
 intro k;induction k with
 | zero=>intro m _ _ _;simp[elsP]
 | succ k D=>
  intro m hk w I;have q:k<U.length:=by omega
  obtain⟨hV,r,h1⟩:=hU.1 _ (gtMem q);have A:=w k (by omega);have C:=dep_T hV;have B:=D (dep (gt U k)) (by omega) (λj w=>hU.2 j k w q) (by omega);have e:∀x∈elsP P U k,Vec P.orders x:=elsP_sub G.sub_all (λz E=>(hU.1 z E).1) k (by omega);have F:=G.v.ord (dep (gt U k)) r
  have i:∀x,Vec P.orders x->∀t:Nat,t<(gt P.orders (dep (gt U k))).toNat->gt (rMul P x (pw P (gt U k) t)) (dep (gt U k))=(gt x (dep (gt U k))+t)%gt P.orders (dep (gt U k))/\∀j,j<dep (gt U k)->gt (rMul P x (pw P (gt U k) t)) j=gt x j:=λx hx t l=>by
   have hr:=G.right (Nat.le_of_lt r) hx (G.pw_T (Nat.le_of_lt r) C t);refine⟨?_,hr.1⟩;rw[hr.2 r,G.pw_at r C,h1,Int.mul_one,Int.emod_eq_of_lt (show(0:Int)<=t by omega) (by omega)]
  simp only[elsP];rw[List.pairwise_flatMap];refine⟨λx hx => ?_,?_⟩
  ·unfold stepE
   rw[List.pairwise_map];refine List.Pairwise.imp_of_mem ?_ List.pairwise_lt_range;intro s t p l H;have p:=List.mem_range.1 p;have l:=List.mem_range.1 l;refine⟨dep (gt U k),A,?_⟩;rw[(i x (e x hx) s p).1,(i x (e x hx) t l).1];rcases F with h|h|h|h<;>rw[h] at p l ⊢ <;> omega
  ·refine List.Pairwise.imp_of_mem ?_ B
   rintro x y hx hy ⟨j,u,hne⟩ a ha b hb;simp only[stepE,List.mem_map,List.mem_range] at ha hb;obtain⟨s,p,rfl⟩:=ha;obtain⟨t,l,rfl⟩:=hb;exact⟨j,by omega,by rw[(i x (e x hx) s p).2 j u,(i y (e y hy) t l).2 j u];exact hne⟩
theorem Grp.elsP_nodup {U:List (List Int)}(hU:SeqOk P U):(elsP P U U.length).Nodup:=
 (G.elsP_diff hU U.length P.orders.length (Nat.le_refl _) (λj a=>(hU.1 _ (gtMem a)).2.1) (Nat.le_refl _)).imp (λ⟨j,_,h⟩ e=>h (by rw[e]))
def nextD (P:Pr) (U:List (List Int)) (k:Nat):Nat:=if k<U.length then dep (gt U k) else P.orders.length
theorem Grp.next_T {H:List Int->Prop}{U:List (List Int)}(hU:SeqOk P U) (p:∀x,H x->Vec P.orders x) (a:∀x,H x->∀d,d<P.orders.length->T P d x->gt x d≠0->∃j,j<U.length/\dep (gt U j)=d) (k m:Nat) (hk:k<=U.length) (q:∀j,j<k->dep (gt U j)<m) {z:List Int}(i:H z) (r:∀j,j<m->gt z j=0):T P (nextD P U k) z:=by
 by_cases l:z=zeros P.orders.length
 ·rw[l];exact T.zeros G.v _
 ·obtain ⟨d,hd,mG,b⟩:=depth_ex (p z i) l
  obtain⟨j,hj,hjd⟩:=a z i d hd mG b
  have u:m<=d:=by
   rcases Nat.lt_or_ge d m with h|h
   ·exact absurd (r d h) b
   ·exact h
  have w:k<=j:=by
   rcases Nat.lt_or_ge j k with h|h
   ·have:=q j h;omega
   ·exact h
  have e:nextD P U k<=d:=by
   unfold nextD;rw[if_pos (by omega)];rcases Nat.lt_or_ge k j with h|h
   ·have:=hU.2 k j h hj;omega
   ·have:k=j:=by omega
    rw[this];omega
  exact mG.down e
theorem Grp.elsP_all {H:List Int->Prop}{U:List (List Int)}(S:Sub P H) (hU:SeqOk P U) (m:∀z∈U,H z) (i:∀x,H x->∀d,d<P.orders.length->T P d x->gt x d≠0->∃j,j<U.length/\dep (gt U j)=d) {h:List Int}(r:H h) :
  ∀k,k<=U.length->∃x z,x∈elsP P U k/\H z/\T P (nextD P U k) z/\h=rMul P x z:=by
 intro k;induction k with
 | zero=>exact λ_=>⟨zeros P.orders.length,h,by simp[elsP],r,G.next_T hU S.vec i 0 0 (by omega) (λj u=>by omega) r (λj u=>by omega),(G.grp.el _ (S.vec h r)).symm⟩
 | succ k E=>
  intro hk;have b:k<U.length:=by omega
  obtain⟨x,z,hx,C,e,rfl⟩:=E (by omega);unfold nextD at e;rw[if_pos b] at e;obtain⟨hV,q,h1⟩:=hU.1 _ (gtMem b);have D:=dep_T hV;have F:=e.1.2 _ q;have w:=S.vec x (elsP_sub S m k (by omega) x hx);have a:=G.pw_vec hV (gt z (dep (gt U k))).toNat;have y:=G.pw_T (Nat.le_of_lt q) D (gt z (dep (gt U k))).toNat
  have A:gt (pw P (gt U k) (gt z (dep (gt U k))).toNat) (dep (gt U k))=gt z (dep (gt U k)):=by
   rw[G.pw_at q D,h1,Int.mul_one,Int.emod_eq_of_lt (by omega) (by omega)];omega
  have B:=G.diff q y e A;have p:H (rMul P (rInv P (pw P (gt U k) (gt z (dep (gt U k))).toNat)) z):=S.mul _ _ (S.inv _ (S.pw (m _ (gtMem b)) _)) C;have l:=S.vec z C;refine⟨rMul P x (pw P (gt U k) (gt z (dep (gt U k))).toNat),_,?_,p,?_,?_⟩
  ·simp only[elsP,List.mem_flatMap,stepE,List.mem_map,List.mem_range]
   exact⟨x,hx,_,by omega,rfl⟩
  ·exact G.next_T hU S.vec i (k+1) (dep (gt U k)+1) hk (λj u=>by
    rcases Nat.lt_succ_iff_lt_or_eq.1 u with h|h
    ·have:=hU.2 j k h b;omega
    ·rw[h];omega) p B.2
  ·rw[G.ass w a (G.mulV (G.invV a) l),<-G.ass a (G.invV a) l,G.mul_inv a,G.grp.el _ l]
theorem Grp.elsP_mem {H:List Int->Prop}{U:List (List Int)}(S:Sub P H) (hU:SeqOk P U) (b:∀z∈U,H z) (e:∀x,H x->∀d,d<P.orders.length->T P d x->gt x d≠0->∃j,j<U.length/\dep (gt U j)=d) (h:List Int):h∈elsP P U U.length↔H h:=by
 refine⟨elsP_sub S b _ (Nat.le_refl _) h,λl => ?_⟩;obtain⟨x,z,hx,hz,a,m⟩:=G.elsP_all S hU b e l U.length (Nat.le_refl _);unfold nextD at a;rw[if_neg (by omega)] at a;have i:z=zeros P.orders.length:=Vec.ext a.1 (zeros_vec G.v) (λk hk=>by rw[a.2 k (by have:=a.1.1;omega)];exact(gt_replicate _ _).symm);rw[m,i,G.grp.er _ (S.vec x (elsP_sub S b _ (Nat.le_refl _) x hx))];exact hx
theorem Grp.seq_facts {H:List Int->Prop}(S:Sub P H):SeqOk P (cseq P H)/\(∀z∈cseq P H,H z)/\∀x,H x->∀d,d<P.orders.length->T P d x->gt x d≠0->∃j,j<(cseq P H).length/\dep (gt (cseq P H) j)=d:=by
 obtain⟨r,a,p⟩:=G.cseq_spec S;have k:CanInv P H r r 0:=⟨λe _ _=>Iff.rfl,λe _ h1 b=>a.mem e h1 b,λe e' _ h1 b i q=>a.red e e' h1 b i q⟩;rw[p,sq_all];refine⟨k.seqOk (by omega),λz u => ?_,λx hx d l w y => ?_⟩
 ·obtain ⟨e,_,b,i,rfl⟩:=mem_sq.1 u
  exact(a.mem e (by omega) i).1
 ·have hr:=a.piv x hx d l w y
  have A:r d∈sq r P.orders.length 0:=mem_sq.2 ⟨d,by omega,by omega,hr,rfl⟩;obtain⟨j,m,hje⟩:=List.getElem_of_mem A;exact⟨j,m,by rw[gt_eq _ j m,hje];exact k.dep (by omega) l hr⟩
theorem Grp.els_sorted {H:List Int->Prop}(S:Sub P H):sortL (elsP P (cseq P H) (cseq P H).length)=elemsIn P H:=by
 obtain⟨h1,a,b⟩:=G.seq_facts S;exact sort_elemsIn G.v S.vec (G.elsP_nodup h1) (G.elsP_mem S h1 a b)
end
end Go.Proofs.YtldheeicjnncoaaGreat
namespace Go.Proofs.YtldheeicjnncoaaGreat
open Go.RowKit
theorem step_app (T E:Nat) (z:Value) (bytes:Nat) (A:Tryz.prog.underlying T=some (.slice E)) (hE:(Tryz.prog.info? E).map (λi=>(i.zero,i.size,i.bytes))=some (some z,1,bytes))
  (p:z.cells.size=1) (q:bytes<=64) {ops:Array Oper}{o:Oper}{a:Act}{K:Act->World->Prop}{Q:Exit->Act->World->Prop}{B:Prop}{w:World}(r:o.guard=none) (s x:Operand)
  (C:o.op=Op.call { callee:=Callee.builtin Builtin.append,args := #[s,x],argTypes := #[T,T] }) (base:Nat) (v:Value) (xs:List Value) (D:a.eval s=v) (e:OwnV base E w v xs)
  (H:Nat) (u:Value) (hx:a.eval x=.slice (some ⟨H,0,none⟩) 1 1) (F:w.cell? ⟨H,0,none⟩=some u) (h1:u.oneCell'=true) (y:xs.length<=2000000) (b:base<=w.heap.size)
  (h:∀v' w',OwnV base E w' v' (xs++[u])->w.grownBy w' v.ownBlock->(v'.ownBlock=v.ownBlock\/v'.ownBlock=some w.heap.size)->K (a.put o.dst v') w') :
  if Region.wanted o (yielded ops a.tmps)=true then Oper.wp Tryz.prog o a w K Q else B:=by
 obtain⟨G,hi,hz0,hz1,hz2⟩:=info_parts hE;refine step_append_lies w r s x T C base E G z 1 bytes A hi hz0 hz1 hz2 p (by decide) v xs.length xs D e ⟨H,0,none⟩ 1 1 [u] hx rfl ?_ ?_ (by omega) (by unfold maxLen;omega) (by have:=Nat.mul_le_mul (show xs.length+1<=2000001 by omega) q;omega) b w.heap.size rfl ?_
 ·intro j I m
  match j,m with
  | 0,m=>
   simp at m;subst m
   simpa [Addr.add] using F
 ·intro I k
  simp at k;subst k;exact h1
 ·intro g cap w' J L l _
  refine h _ w' ?_ L ?_
  ·unfold OwnV;rw[List.length_append];exact J
  ·rcases l with l|l
   ·left;rw[l];rfl
   ·right;rw[<-l];rfl
theorem step_app_one {α:Type} [Inhabited α] {El:(Nat->Prop)->World->Value->α->Prop}(C:RdOk El) (T E:Nat) (z:Value) (bytes:Nat) (hT:Tryz.prog.underlying T=some (.slice E))
  (hE:(Tryz.prog.info? E).map (λi=>(i.zero,i.size,i.bytes))=some (some z,1,bytes)) (N:z.cells.size=1) (O:bytes<=64)
  {ops:Array Oper}{o:Oper}{a:Act}{K:Act->World->Prop}{Q:Exit->Act->World->Prop}{Ex:Prop}{w:World}(R:o.guard=none) (s x:Operand)
  (ho:o.op=Op.call { callee:=Callee.builtin Builtin.append,args := #[s,x],argTypes := #[T,T] }) (B:Nat) (q l:World) (v u:Value) (xs:List α) (y:α) (hs:a.eval s=v) (H:SlO El E B q v xs)
  (M:Ext q l) (Z:El (From q.heap.size) l u y) (hw:w=l.alloc (.cells #[u] E)) (hx:a.eval x=.slice (some ⟨l.heap.size,0,none⟩) 1 1) (aa:xs.length<=1000000) (S:B<=q.heap.size)
  (h:∀v' w',SlO El E B w' v' (xs++[y])->q.grownBy w' v.ownBlock->l.grownBy w' v.ownBlock->K (a.put o.dst v') w') :
  if Region.wanted o (yielded ops a.tmps)=true then Oper.wp Tryz.prog o a w K Q else Ex:=by
 subst hw;obtain⟨U,G,D,hO,hG,hd,V⟩:=H;have I:Ext l (l.alloc (.cells #[u] E)):=World.grownBy_alloc _ _ _;have W:OwnV B E (l.alloc (.cells #[u] E)) v U:=hO.kept (grown_trans M I) (by cases hv:v.ownBlock<;>simp);refine step_app T E z bytes hT hE N O R s x ho B v U hs W l.heap.size u hx (by rw[World.cell?_alloc_at _ _ _ _ rfl];rfl) (C.one Z) (by omega) (by have:=M.size;simp;omega) ?_;intro v' w' h1 h2 X;have J:∀k,v.ownBlock=some k->B<=k/\k<q.heap.size:=hO.lt;have p:l.grownBy w' v.ownBlock:=grown_trans (grown_of_ext _ I) h2;have r:q.grownBy w' v.ownBlock:=grown_trans (grown_of_ext _ M) p
 have A:∀k,v'.ownBlock=some k->v.ownBlock=some k\/l.heap.size<k+1:=by
  intro k hk;rcases X with h|h
  ·exact .inl (by rw[<-h];exact hk)
  ·rw [h] at hk
   have:(l.alloc (.cells #[u] E)).heap.size=k:=by simpa using hk
   simp at this
   exact .inr (by omega)
 have ac:=M.size;refine h v' w' ⟨U++[u],λi k=>if i<xs.length then G i k/\k<q.heap.size else q.heap.size<=k/\k<l.heap.size,by simp[D],h1,?_,?_,?_⟩ r p
 ·intro i k hi hk
  split at hk
  ·rename_i m
   obtain⟨a1,a2,a3⟩:=hG i k m hk.1;refine⟨a1,λF => ?_,Nat.lt_of_lt_of_le a3 r.size⟩;rcases A k F with h|h
   ·exact a2 h
   ·omega
  ·refine ⟨by omega,λF => ?_,Nat.lt_of_lt_of_le hk.2 p.size⟩
   rcases A k F with h|h
   ·have:=J k h;omega
   ·omega
 ·intro i j k hi hj hk L
  simp only[List.length_append,List.length_singleton] at hi hj;split at hk<;>split at L
  ·exact hd i j k (by assumption) (by assumption) hk.1 L.1
  ·omega
  ·omega
  ·omega
 ·intro i hi
  simp only[List.length_append,List.length_singleton] at hi;by_cases m:i<xs.length
  ·rw [gt_append_left _ _ _ (by omega),gt_append_left _ _ _ m]
   simp only[if_pos m];exact C.mono (V i m) (λk hk b=>⟨⟨hk,b⟩,Nat.lt_of_lt_of_le b r.size,r.block k b (λe=>(hG i k m hk).2.1 e.symm)⟩)
  ·have Y:i=xs.length:=by omega
   subst Y;rw[gt_concat,<-D,gt_concat];simp only[D,Nat.lt_irrefl,if_false]
   exact C.mono Z (λk hk b=>⟨⟨hk,b⟩,Nat.lt_of_lt_of_le b p.size,p.block k b (λe=>by
    have hk:q.heap.size<=k:=hk;have:=J k e.symm;omega)⟩)
theorem step_app_row {ops:Array Oper}{o:Oper}{a:Act}{K:Act->World->Prop}{Q:Exit->Act->World->Prop}{m:Prop}{w:World}(l:o.guard=none) (s x:Operand)
  (p:o.op=Op.call { callee:=Callee.builtin Builtin.append,args := #[s,x],argTypes := #[25,25] }) (B:Nat) (e i:World) (v u:Value) (xs:List (List Int)) (y:List Int) (q:a.eval s=v) (j:RowsO B e v xs)
  (r:Ext e i) (z:OwnIn (From e.heap.size) i u y) (A:w=i.alloc (.cells #[u] 24)) (hx:a.eval x=.slice (some ⟨i.heap.size,0,none⟩) 1 1) (k:xs.length<=1000000) (b:B<=e.heap.size)
  (h:∀v' w',RowsO B w' v' (xs++[y])->e.grownBy w' v.ownBlock->i.grownBy w' v.ownBlock->K (a.put o.dst v') w') :
  if Region.wanted o (yielded ops a.tmps)=true then Oper.wp Tryz.prog o a w K Q else m:=
 step_app_one rdOwn 25 24 (.slice none 0 0) 24 und_rows Tryz.infoRow rfl (by decide) l s x p B e i v u xs y q j r z A hx k b h
theorem step_append_at {P:Program}(w:World) {ops:Array Oper}{o:Oper}{a:Act}{K:Act->World->Prop}{Q:Exit->Act->World->Prop}{I:Prop}
  (J:o.guard=none) (s x:Operand) (t:TypeId) (y:o.op=Op.call { callee:=Callee.builtin Builtin.append,args := #[s,x],argTypes := #[t,t] })
  (e:TypeId) (i:TypeInfo) (z:Value) (size bytes:Nat) (h1:P.underlying t=some (.slice e)) (E:P.info? e=some i) (L:i.zero=some z) (F:i.size=size) (M:i.bytes=bytes) (N:z.cells.size=size) (O:0<size)
  (b off n cap:Nat) (k:List Value) (G:a.eval s=.slice (some ⟨b,off,none⟩) n cap) (C:k.length=n*size) (holds:∀j u,k[j]? = some u->w.cell? ⟨b,off+j,none⟩=some u)
  (B:Addr) (m c:Nat) (news:List Value) (hx:a.eval x=.slice (some B) m c) (hn:news.length=m*size) (H:∀j u,news[j]? = some u->w.cell? (B.add j)=some u) (D:∀u∈news,u.oneCell'=true)
  (l:n+m<=cap->∀j,j<news.length->(w.cell? ⟨b,off+n*size+j,none⟩).isSome=true/\w.frozen? ⟨b,off+n*size+j,none⟩=false)
  (b1:n+m<=maxLen) (b2:(n+m)*bytes<=140737488355328)
  (q:n+m<=cap->K (a.put o.dst (.slice (some ⟨b,off,none⟩) (n+m) cap)) (w.setCells b (off+n*size) news))
  (r:cap<n+m->∀v' w',w'.ownsRow w.heap.size e size v' (n+m) (k++news)->w.grownBy w' none->K (a.put o.dst v') w') :
  if Region.wanted o (yielded ops a.tmps)=true then Oper.wp P o a w K Q else I:=by
 have R:Region.wanted o (yielded ops a.tmps)=true:=by simp[Region.wanted,J]
 rw[if_pos R];by_cases hr:n+m<=cap
 ·subst F
  have p:=run_append_room_cells (P:=P) w t o.type e i h1 E b off n cap B m c news hn H D hr (λj A=>(l hr j A).1) (λj A=>(l hr j A).2);unfold Oper.wp;simp[execOp,y,resolve,invoke,builtin,G,hx,p,Result.andThen]
  exact q hr
 ·obtain ⟨v',w',p,S,U⟩:=run_append_arg_grows (P:=P) w t o.type e i z size bytes h1 E L F M N O ⟨b,off,none⟩ n cap k C (λj u A=>by rw[Addr.add_lit];exact holds j u A) B m c news hn H (by omega) b1 b2
  unfold Oper.wp;simp[execOp,y,resolve,invoke,builtin,G,hx,p,Result.andThen]
  exact r (by omega) v' w' S U
theorem step_q_app (T E:Nat) (z:Value) (bytes:Nat) (O:Tryz.prog.underlying T=some (.slice E)) (hE:(Tryz.prog.info? E).map (λi=>(i.zero,i.size,i.bytes))=some (some z,1,bytes))
  (y:z.cells.size=1) (A:bytes<=64) {ops:Array Oper}{o:Oper}{a:Act}{K:Act->World->Prop}{Q:Exit->Act->World->Prop}{Y:Prop}{w:World}(B:o.guard=none) (s x:Operand)
  (R:o.op=Op.call { callee:=Callee.builtin Builtin.append,args := #[s,x],argTypes := #[T,T] }) (base:Nat) (v:Value) (xs:List Value) (S:a.eval s=v) (C:QOwn base E w v xs)
  (H:Nat) (u:Value) (hx:a.eval x=.slice (some ⟨H,0,none⟩) 1 1) (U:w.cell? ⟨H,0,none⟩=some u) (h1:u.oneCell'=true) (V:xs.length<=1000000) (p:base<=w.heap.size)
  (h:∀v' w',QOwn base E w' v' (xs++[u])->w.grownBy w' v.ownBlock->(v'.ownBlock=v.ownBlock\/∀k,v'.ownBlock=some k->w.heap.size<=k)->K (a.put o.dst v') w') :
  if Region.wanted o (yielded ops a.tmps)=true then Oper.wp Tryz.prog o a w K Q else Y:=by
 rcases C with⟨rfl,rfl⟩|⟨g,off,cap,cur,rfl,hb,F,hnc,hcm,hsz,hc⟩
 ·refine step_app T E z bytes O hE y A B s x R base (.slice none 0 0) [] S (World.ownsRow_nil _ _ _ _) H u hx U h1 (by simp) p ?_
  intro v' w' G I Z;exact h v' w' (QOwn.of G) I (Z.imp id (λe k hk=>by rw[e] at hk;cases hk;exact Nat.le_refl _))
 ·obtain ⟨i0,hi,hz0,hz1,hz2⟩:=info_parts hE
  have ab:g<w.heap.size:=(Array.getElem?_eq_some_iff.1 F).1
  have b:∀i,i<cur.size->w.cell? ⟨g,i,none⟩=cur[i]? :=λi _=>by
   simp only[World.cell?,F,Option.isSome_none,Bool.false_eq_true,if_false]
  refine step_append_at w B s x T R E i0 z 1 bytes O hi hz0 hz1 hz2 y (by decide) g off xs.length cap xs S (by omega) ?_ ⟨H,0,none⟩ 1 1 [u] hx rfl ?_ ?_ ?_ (by unfold maxLen;omega) (by have:=Nat.mul_le_mul (show xs.length+1<=1000001 by omega) A;omega) ?_ ?_
  ·intro j W m
   have J:j<xs.length:=by
    rcases Nat.lt_or_ge j xs.length with h|h
    ·exact h
    ·rw[List.getElem?_eq_none h] at m;cases m
   rw[b _ (by omega),hc j J];simp[gt,m]
  ·intro j W m
   match j,m with
   | 0,m=>
    simp at m;subst m
    simpa [Addr.add] using U
  ·intro W D
   simp at D;subst D;exact h1
  ·intro l j m
   have:j=0:=by simpa using m
   subst this;refine⟨?_,?_⟩
   ·rw[b _ (by omega),Array.getElem?_eq_getElem (by omega)];rfl
   ·simp[World.frozen?,F]
  ·intro l
   have e:w.setCells g (off+xs.length*1) [u]=w.setCell ⟨g,off+xs.length,none⟩ u:=by
    simp[World.setCells]
   rw[e];refine h _ _ (.inr ⟨g,off,cap,cur.setIfInBounds (off+xs.length) u,by simp,hb,?_,by simpa using l,hcm,by simpa using hsz,λi hi => ?_⟩) ?_ (.inl rfl)
   ·simp only[World.setCell,Array.getElem?_modify,if_true,F,Option.map_some]
    simp
   ·simp only[List.length_append,List.length_singleton] at hi
    by_cases ei:i=xs.length
    ·subst ei
     rw[gt_concat,Array.getElem?_setIfInBounds_self];simp;omega
    ·rw [gt_append_left _ _ _ (by omega),Array.getElem?_setIfInBounds_ne (by omega)]
     exact hc i (by omega)
   ·exact⟨rfl,rfl,rfl,by simp[World.setCell],λk hk L=>Below.heap_setCell _ _ _ _ (by intro e2;exact L (by rw[e2];rfl))⟩
  ·intro M v' w' G I
   have k3:OwnV base E w' v' (xs++[u]):=by
    unfold OwnV;rw[List.length_append];obtain⟨N,q⟩:=G;refine⟨N,?_⟩;rcases q with h|⟨X,cap',cur',hv,hg',r⟩
    ·exact .inl h
    ·exact .inr ⟨X,cap',cur',hv,by omega,r⟩
   refine h v' w' (QOwn.of k3) (grown_of_ext _ I) (.inr (λk hk => ?_));obtain⟨_,q⟩:=G;rcases q with h|⟨X,cap',cur',rfl,hg',r⟩
   ·rw[h.1] at hk;simp[Value.ownBlock] at hk
   ·simp [Value.ownBlock] at hk
    omega
theorem step_shq_app {ops:Array Oper}{o:Oper}{a:Act}{K:Act->World->Prop}{Q:Exit->Act->World->Prop}{J:Prop}{w:World}(z:o.guard=none) (s x:Operand)
  (L:o.op=Op.call { callee:=Callee.builtin Builtin.append,args := #[s,x],argTypes := #[25,25] }) (bad:Nat->Prop) (B:Nat) (v u:Value) (xs:List (List Int)) (y:List Int) (M:a.eval s=v) (w0:World) (m:ShQ bad B w0 v xs)
  (N:w=w0.alloc (.cells #[u] 24)) (F:Ints (λk=>¬bad k/\v.ownBlock≠some k) w0 u y) (hx:a.eval x=.slice (some ⟨w0.heap.size,0,none⟩) 1 1) (G:xs.length<=1000000) (A:B<=w0.heap.size)
  (h:∀v' w',ShQ bad B w' v' (xs++[y])->w0.grownBy w' v.ownBlock->(v'.ownBlock=v.ownBlock\/∀k,v'.ownBlock=some k->w0.heap.size<=k)->K (a.put o.dst v') w') :
  if Region.wanted o (yielded ops a.tmps)=true then Oper.wp Tryz.prog o a w K Q else J:=by
 subst N;obtain⟨C,H,hq,hr⟩:=m;have j:Ext w0 (w0.alloc (.cells #[u] 24)):=World.grownBy_alloc _ _ _;have b:=hq.lt;have D:QOwn B 24 (w0.alloc (.cells #[u] 24)) v C:=hq.kept (λk hk=>j.block k (b k hk).2 (by simp));have p:u.oneCell'=true:=rdInts.one F;refine step_q_app 25 24 (.slice none 0 0) 24 und_rows Tryz.infoRow rfl (by decide) z s x L B v C M D w0.heap.size u hx (by rw[World.cell?_alloc_at _ _ _ _ rfl];rfl) p (by omega) (by have:=j.size;omega) ?_;intro v' w' h1 O I;have l:w0.grownBy w' v.ownBlock:=grown_trans (grown_of_ext _ j) O
 have q:∀k,k<w0.heap.size->v'.ownBlock=some k->v.ownBlock=some k:=λk hk e=>by
  rcases I with h|h
  ·rw[<-h];exact e
  ·have:=h k e;simp at this;omega
 refine h v' w' ⟨C++[u],by simp[H],h1,λi hi => ?_⟩ l (I.imp id (λh k hk=>by have:=h k hk;simp at this;omega));simp only[List.length_append,List.length_singleton] at hi
 have r:∀k,(¬bad k/\v.ownBlock≠some k)->k<w0.heap.size->(¬bad k/\v'.ownBlock≠some k)/\k<w'.heap.size/\w'.heap[k]? = w0.heap[k]? :=λk hk b=>
  ⟨⟨hk.1,λe=>hk.2 (q k b e)⟩,Nat.lt_of_lt_of_le b l.size,l.block k b (λe=>hk.2 e.symm)⟩
 by_cases b:i<xs.length
 ·rw [gt_append_left _ _ _ (by omega),gt_append_left _ _ _ b]
  exact Ints.mono (hr i b) r
 ·have E:i=xs.length:=by omega
  subst E;rw[gt_concat,<-H,gt_concat];exact Ints.mono F r
theorem run_tail_rows (w:World) (a:Option Addr) (n cap:Nat) (k:Int) (b:0<=k) (h1:k<=n) :
  (Instr.slice 25 (.slice a n cap) (some (.int .i64 k)) none none).run Tryz.prog w=.ok (subSl (.slice a n cap) k.toNat n) w:=by
 rw[run_slice_l w 25 a n cap (by kernel_rfl) .i64 k b h1];have:(sizeOf (Tryz.prog.elem 25)).run Tryz.prog w=.ok 1 w:=by kernel_rfl
 rw[this];simp[Result.andThen,sliced,subSl]
theorem Sl.vals {α:Type} [Inhabited α] {El:World->Value->α->Prop}{S:Nat->Prop}{w:World}{a:Option Addr}{n cap:Nat}{xs:List α}(h:Sl El S w (.slice a n cap) xs) :
  ∃j:List Value,j.length=xs.length/\∀i,i<xs.length->(∃b off,a=some ⟨b,off,none⟩/\w.cell? ⟨b,off+i,none⟩=some (gt j i))/\El w (gt j i) (gt xs i):=by
 have h1:∀i,∃u,i<xs.length->(∃b off,a=some ⟨b,off,none⟩/\w.cell? ⟨b,off+i,none⟩=some u)/\El w u (gt xs i):=λi=>by
  by_cases hi:i<xs.length
  ·obtain ⟨b,off,u,h1,_,_,h4,h5⟩:=h.at i hi
   exact⟨u,λ_=>⟨⟨b,off,h1,h4⟩,h5⟩⟩
  ·exact⟨undef,λh=>absurd h hi⟩
 obtain⟨f,hf⟩:=Classical.axiomOfChoice h1;refine⟨(List.range xs.length).map f,by simp,λi hi => ?_⟩;have e:gt ((List.range xs.length).map f) i=f i:=by simp[gt,hi]
 rw[e];exact hf i hi
theorem cloneRows_ok (w:World) (v:Value) (xs:List (List Int)) (S bad:Nat->Prop) (D:Rows2 S w v xs) (I:∀k,S k->k<w.heap.size->¬bad k) (J:xs.length<=1000000) :
  Calls Tryz.prog 157 #[v] w (Ret w λw' r=>ShQ bad w.heap.size w' r xs):=by
 obtain⟨a,cap,rfl,_,_⟩:=Sl.shape D;have N:=λn=>Lib.run_eql_slice_nil (P:=Tryz.prog) w 25 24 a n cap 0 0 (by kernel_rfl);cases a with
 | none=>
  obtain⟨rfl,rfl⟩:=Sl.nil_of_none D;clear D J;go_enter Tryz.func157,Tryz.ntmps157;go_wp2_with fail
  go_ret;exact⟨_,rfl,Ext.refl _,ShQ.nil _ _ _⟩
 | some a=>
  obtain⟨z,A,m⟩:=Sl.vals D
  have l:∀w',Ext w w'->∀j,j<xs.length->∃b off,some a=some ⟨b,off,none⟩/\w'.cell? ⟨b,off+j,none⟩=some (gt z j):=λw' q j B=>by
   obtain⟨⟨b,off,h1,h2⟩,_⟩:=m j B;exact⟨b,off,h1,q.cell h2 (by simp)⟩
  have h1:∀u,u∈z->u.oneCell'=true:=λu K=>by
   obtain⟨j,B,rfl⟩:=List.getElem_of_mem K;rw[<-gt_eq z j B];exact rdInts.one (m j (by omega)).2
  have C:∀(y:World) (v':Value),OwnV w.heap.size 24 y v' z->Ext w y->ShQ bad w.heap.size y v' xs:=λy v' H q=>by
   refine⟨z,A,QOwn.of H,λi hi=>Ints.mono (m i hi).2 (λk hk p=>⟨⟨I k hk p,λe => ?_⟩,Nat.lt_of_lt_of_le p q.size,q.block k p (by simp)⟩)⟩;have:=(H.lt k e).1;omega
  have E:=Lib.hid (And.intro l (And.intro h1 C));clear l h1 C m;go_enter Tryz.func157,Tryz.ntmps157;go_wp2_with (at_builtin;refine wp_app 25 24 (.slice none 0 0) 24 und_rows Tryz.infoRow rfl (by decide) rfl _ _ rfl w.heap.size _ [] rfl (World.ownsRow_lit w #[] 0 (Nat.le_refl _) (by decide) rfl) (some a) xs.length cap z rfl A (by simp) (E.out.1 _ (World.grownBy_alloc _ _ _)) E.out.2.1 (by simp;omega) (by simp) ?_;intro v' y F G L M)
  go_ret;have q:Ext w y:=grown_own (World.grownBy_alloc _ _ _) G (λj B p=>by have:=own_blk B;omega);exact⟨_,rfl,q,E.out.2.2 y v' (by simpa using F) q⟩
theorem OwnV.weak {B B' E:Nat}{w:World}{v:Value}{a:List Value}(h:OwnV B E w v a) (b:B'<=B):OwnV B' E w v a:=by
 obtain⟨h1,e⟩:=h;refine⟨h1,?_⟩;rcases e with h|⟨g,cap,cur,hv,hg,r⟩
 ·exact .inl h
 ·exact .inr ⟨g,cap,cur,hv,Nat.le_trans b hg,r⟩
theorem wp_prep_row {ops:Array Oper}{rest:List Oper}{o:Oper}{a:Act}{Q:Exit->Act->World->Prop}{w:World}(O:o.guard=none) (s x:Operand)
  (ho:o.op=Op.call { callee:=Callee.builtin Builtin.append,args := #[s,x],argTypes := #[25,25] }) (B:Nat) (E l:World) (v u:Value) (xs:List (List Int)) (y:List Int) (H:RowsO B E v xs) (hB:B<=E.heap.size)
  (R:Ext E l) (hu:OwnIn (From E.heap.size) l u y) (hw:w=l.alloc (.cells #[u] 24)) (hs:a.eval s=.slice (some ⟨l.heap.size,0,none⟩) 1 1) (hx:a.eval x=v) (X:xs.length<=1000000)
  (h:∀v' w',RowsO B w' v' (y :: xs)->Ext E w'->wpList Tryz.prog ops Q rest (a.put o.dst v') w') :
  wpList Tryz.prog ops Q (o :: rest) a w:=by
 subst hw;obtain⟨p,F,S,hO,hG,hd,I⟩:=H;have G:Ext l (l.alloc (.cells #[u] 24)):=World.grownBy_alloc _ _ _;have J:=grown_trans R G;have K:OwnV B 24 (l.alloc (.cells #[u] 24)) v p:=hO.kept J (by cases Y:v.ownBlock<;>simp);have L:OwnV l.heap.size 24 (l.alloc (.cells #[u] 24)) (.slice (some ⟨l.heap.size,0,none⟩) 1 1) [u]:=World.ownsRow_lit l #[u] 1 (Nat.le_refl _) (by decide) rfl;have af:=R.size
 have r:∃M c,v=.slice M p.length c/\(M=none->c=0)/\∀j,j<p.length->∃b off,M=some ⟨b,off,none⟩/\(l.alloc (.cells #[u] 24)).cell? ⟨b,off+j,none⟩=some (gt p j):=by
  rcases K.form with⟨rfl,Z⟩|⟨g,cp,rfl,_⟩
  ·exact⟨none,0,by rw[Z];rfl,λ_=>rfl,λj q=>by rw[Z] at q;simp at q⟩
  ·exact⟨_,_,rfl,λh=>by simp at h,λj q=>⟨g,0,rfl,by rw[Nat.zero_add];exact K.cell j q⟩⟩
 obtain⟨M,c,Y,U,z⟩:=r;refine wp_app 25 24 (.slice none 0 0) 24 und_rows Tryz.infoRow rfl (by decide) O s x ho l.heap.size _ [u] hs L M p.length c p (hx.trans Y) rfl U z ?_ (by simp;omega) G.size ?_
 ·intro u' V
  obtain⟨j,q,rfl⟩:=List.getElem_of_mem V;rw[<-gt_eq p j q];exact rdOwn.one (I j (by omega))
 ·intro v' w' k1 k2 _ _
  have A:Ext l w':=grown_own G k2 (λj q ah=>by have:=own_blk q;omega);have C:=grown_trans R A;have D:∀k,v'.ownBlock=some k->l.heap.size<=k:=λk hk=>(k1.lt k hk).1;refine h v' w' ⟨[u]++p,λi k=>if i=0 then E.heap.size<=k/\k<l.heap.size else F (i-1) k/\k<E.heap.size,by simp[S],?_,?_,?_,?_⟩ C
  ·exact OwnV.weak k1 (by omega)
  ·intro i k hi hk
   split at hk
   ·exact⟨by omega,λe=>by have:=D k e;omega,Nat.lt_of_lt_of_le hk.2 A.size⟩
   ·rename_i W
    simp only[List.length_cons] at hi;obtain⟨a1,a2,a3⟩:=hG (i-1) k (by omega) hk.1;exact⟨a1,λe=>by have:=D k e;omega,Nat.lt_of_lt_of_le a3 C.size⟩
  ·intro i j k hi q hk N
   simp only[List.length_cons] at hi q;split at hk<;>split at N
   ·omega
   ·omega
   ·omega
   ·have:=hd (i-1) (j-1) k (by omega) (by omega) hk.1 N.1;omega
  ·intro i hi
   simp only[List.length_cons] at hi;by_cases W:i=0
   ·subst W
    simp only[if_true];exact rdOwn.mono hu (λk hk m=>⟨⟨hk,m⟩,Nat.lt_of_lt_of_le m A.size,A.block k m (by simp)⟩)
   ·simp only[if_neg W]
    have e1:gt ([u]++p) i=gt p (i-1):=by
     obtain⟨j,rfl⟩:∃j,i=j+1:=⟨i-1,by omega⟩;simp[gt]
    have e2:gt (y :: xs) i=gt xs (i-1):=by
     obtain⟨j,rfl⟩:∃j,i=j+1:=⟨i-1,by omega⟩;simp[gt]
    rw[e1,e2];exact rdOwn.mono (I (i-1) (by omega)) (λk hk m=>⟨⟨hk,m⟩,Nat.lt_of_lt_of_le m C.size,C.block k m (by simp)⟩)
theorem canonical_ok (P:Pr) (G:Grp P) (w:World) (sb gb B:Nat) (p:Value) (b:List (List Int)) (H:List Int->Prop) (Sp bad:Nat->Prop) (hp:PresP Sp w p P) (U:SeqAt B bad w sb gb p P.orders.length b) (hI:Ind P H (gt b)) :
  Calls Tryz.prog 203 #[.pointer (some ⟨sb,0,none⟩)] w (Ret w λw' v=>RowsO w.heap.size w' v (cseq P H)):=by
 have hP:=G.v;have al:=hP.n6;obtain⟨pb,po,rfl⟩:=hp.shape;have q:=U.c0;have u:=U.c1;have R:=Lib.hid hI;clear hI;have V:IntKind.i64.wrap ((P.orders.length:Int)-1)=(P.orders.length:Int)-1:=IntWalk.i64_in _ (by omega);go_enter Tryz.func203,Tryz.ntmps203;go_wp2;clear V;go_loopw [3,4] (λov W wr=>∃(m:Nat) (r:Nat->List Int) (v4:Value),v4=ov/\W=.int .i64 ((m:Int)-1)/\m<=P.orders.length/\Ext w wr/\RowsO w.heap.size wr v4 (sq r (P.orders.length-m) m)/\Hid (CanInv P H (gt b) r m)) (λ_ W _=>(intOf W+1).toNat)
 case atStart=>exact⟨P.orders.length,λ_=>[],_,rfl,rfl,Nat.le_refl _,Ext.refl _,by rw[Nat.sub_self];exact SlO.nil _ _ _ _,Lib.hid ⟨λe h1 h2=>by omega,λe h1 h2=>by omega,λe e' h1 h2 h3=>by omega⟩⟩
 case round=>
  obtain⟨m,r,v4,rfl,rfl,hm,C,hO,D⟩:=hrel;clear q u;by_cases E:m=0
  ·subst E
   have F:=sq_len r P.orders.length 0;rw[G.can_end R.out D.out] at F;rw[Nat.sub_zero,G.can_end R.out D.out] at hO;have I:((0:Nat):Int)-1 = -1:=rfl;rw[I];obtain⟨az,capz,rfl,_⟩:=SlD.shape (hO.toD (by omega));go_wp2;go_ret;exact⟨_,rfl,C,hO⟩
  ·obtain ⟨d,rfl⟩:∃d,m=d+1:=⟨m-1,by omega⟩
   obtain⟨k,hk⟩:∃k,k=P.orders.length-(d+1):=⟨_,rfl⟩;rw[<-hk] at hO;have J:d+1+k=P.orders.length:=by omega
   have K:P.orders.length-d=k+1:=by omega
   rw[show(((d+1:Nat)):Int)-1=d by omega];have ao:(d:Int)<P.orders.length:=by omega
   have ap:(0:Int)<=d:=by omega
   have aq:IntKind.i64.wrap ((d:Int)-1)=(d:Int)-1:=IntWalk.i64_in _ (by omega);have y:=U.ext C;have q:=y.c0;have u:=y.c1;have F:=sq_len r k (d+1);have ar:k<=6:=by omega
   have S:=Lib.hid (And.intro J K);clear J K hk E;obtain⟨_,X⟩:=y.tab.at d (by omega);rcases X with⟨h0,hcell⟩|⟨z,ab,L,hcell,Z⟩
   ·obtain ⟨a,i⟩:=can_skip (k:=k) D.out h0
    have l:=Lib.hid (And.intro a i);clear a i h0;go_wp2;go_roundw
    case rel=>exact⟨d,_,v4,rfl,rfl,by omega,C,by rw[S.out.2,l.out.2];exact hO,Lib.hid l.out.1⟩
    case measure=>simp[intOf]
   ·have M:=hO.toD (by omega)
    obtain⟨az,capz,fR,_,_⟩:=SlD.shape M;subst fR;have hU:=RowsD.rows M;have N:=D.out.seqOk S.out.1;have O:=(R.out.mem d (by omega) z).2.1.1;have aa:=hp.ext C;have HX:=Lib.hid (And.intro N (And.intro O z));clear N O z;have e1:∀w',Ext wr w'->w'.cell? ⟨sb,0,none⟩=some (.pointer (some ⟨pb,po,none⟩)):=λw' h=>h.cell q (by simp);have e2:∀w',Ext wr w'->w'.cell? ⟨sb,1,none⟩=some (.slice (some ⟨gb,0,none⟩) P.orders.length P.orders.length):=λw' h=>h.cell u (by simp);have e3:∀w',Ext wr w'->w'.cell? ⟨gb,d,none⟩=some (.slice (some ab) (gt b d).length L):=λw' h=>h.cell hcell (by simp);go_wp2
    go_region_held3 (λw'=>Ext wr w') (first|exact grown_drew _ _|assumption)
     (first
      | (go_at_call 224;refine Calls.mono (Calls.rel (w0:=wr) (by assumption) (representative_ok P G _ _ _ _ (sq r k (d+1)) (gt b d) Any Any Any (PresP.sub (PresP.ext aa (by assumption)) (λ_ _ _=>trivial)) (Rows2.sub (Rows2.ext hU (by assumption)) (λ_ _ _=>trivial)) HX.out.1 (by omega) (Ints.sub (Ints.ext Z (by assumption)) (λ_ _ _=>trivial)) HX.out.2.1)) ?_;rintro eY wY ⟨yv,rfl,ad,oT,Y,oU,A⟩))
    have aB:Y.length<=6:=by rw[A.vec.1];omega
    obtain⟨a,i⟩:=G.can_step R.out D.out S.out.1 HX.out.2.2 A;have l:=Lib.hid (And.intro a i);clear a i;have Q:OwnIn (From wr.heap.size) wY yv Y:=OwnIn.of oU (by omega) (λj h1 _=>Nat.le_trans oT h1);obtain⟨ay,capy,gz,_,_⟩:=Q.ints.shape;subst gz;clear e1 e2 e3 hcell q u A;go_wp2_with (first|(at_builtin;refine wp_prep_row rfl _ _ rfl w.heap.size wr wY _ _ (sq r k (d+1)) Y hO C.size ad Q rfl rfl rfl (by omega) ?_;intro v5 w5 ae af)|fail)
    go_roundw
    case rel=>exact⟨d,_,v5,rfl,rfl,by omega,grown_trans C af,by rw[S.out.2,l.out.2];exact ae,Lib.hid l.out.1⟩
    case measure=>simp[intOf]
theorem inverseMod_ret (a m:Int) (w:World) (b:m=2\/m=3\/m=5\/m=7) (h1:1<=a) (i:a<m) :
  Calls Tryz.prog 126 #[.int .i64 a,.int .i64 m] w (Ret w λ_ v=>∃k:Int,v=.tuple #[.int .i64 k,.bool true]/\0<=k/\k<m/\(k*a)%m=1):=
 (inverseMod_ok a m w b h1 i).mono (by rintro e w' ⟨⟨k,rfl,h⟩,rfl⟩;exact⟨_,rfl,Ext.refl _,k,rfl,h⟩)
theorem q_kept {bad:Nat->Prop}{i j:World}{v1 v2:Value}(a:i.grownBy j v1.ownBlock) (l:v2.ownBlock=v1.ownBlock\/∀k,v2.ownBlock=some k->i.heap.size<=k) :
  ∀k,(¬bad k/\v1.ownBlock≠some k)->k<i.heap.size->(¬bad k/\v2.ownBlock≠some k)/\k<j.heap.size/\j.heap[k]? = i.heap[k]? :=λk hk b=>
 ⟨⟨hk.1,λe=>by
  rcases l with h|h
  ·exact hk.2 (by rw[<-h];exact e)
  ·have:=h k e;omega⟩,Nat.lt_of_lt_of_le b a.size,a.block k b (λe=>hk.2 e.symm)⟩
theorem seq_kept {B sb gb n W:Nat}{pv:Value}{i m:World}{v1 v2:Value}{b:List (List Int)}(h:SeqAt B (λk=>v1.ownBlock=some k) i sb gb pv n b) (p:∀k,v1.ownBlock=some k->W<=k) (q:gb<W) (r:sb<W)
  (a:i.grownBy m v1.ownBlock) (j:v2.ownBlock=v1.ownBlock\/∀k,v2.ownBlock=some k->i.heap.size<=k):SeqAt B (λk=>v2.ownBlock=some k) m sb gb pv n b:=by
 refine h.kept a.size (λk hk l=>a.block k hk (λe => ?_)) (λk hk e => ?_)
 ·rcases l with rfl|rfl|l
  ·have:=p _ e.symm;omega
  ·have:=p _ e.symm;omega
  ·exact l e.symm
 ·rcases j with h|h
  ·rw[<-h];exact e
  ·have:=h k e;omega
def AddPost (P:Pr) (H:List Int->Prop) (L b a:List (List Int)) (g:Bool):Prop:=
 Ind P (genP P (λx=>H x\/x∈L)) (gt a)/\(g=false->a=b)/\(g=true->miss a P.orders.length<miss b P.orders.length)
def AddSt (P:Pr) (H:List Int->Prop) (L b a q:List (List Int)) (g:Bool):Prop:=
 (∃R,AddInv P (λx=>H x\/x∈L) (gt a) q R)/\(g=false->a=b)/\(g=true->miss a P.orders.length<miss b P.orders.length)/\miss a P.orders.length<=miss b P.orders.length
theorem add_ok (P:Pr) (G:Grp P) (w:World) (sb gb B:Nat) (p lv:Value) (L b:List (List Int)) (H:List Int->Prop) (hp:PresP (λk=>k≠gb) w p P) (F:SeqAt B (λ_=>False) w sb gb p P.orders.length b) (hI:Ind P H (gt b))
  (hL:∀x∈L,Vec P.orders x) (hl:Rows2 (λk=>¬(k=gb\/k=sb)) w lv L) (cA:L.length<=10000) :
  Calls Tryz.prog 201 #[.pointer (some ⟨sb,0,none⟩),lv] w λe w'=>∃a g,e=.returned (.bool g)/\w.grownBy w' (some gb)/\SeqAt B (λ_=>False) w' sb gb p P.orders.length a/\AddPost P H L b a g:=by
 have hP:=G.v;have cJ:=hP.n6;obtain⟨pb,po,rfl⟩:=hp.shape;obtain⟨ao,ad,aV,hoi⟩:=hp.ordAt;obtain⟨_,_,_,cf,bz,_⟩:=hp.at;have Q:=F.tab.lt;have bA:∀w',w.grownBy w' (some gb)->PresP (λk=>k≠gb) w' (.pointer (some ⟨pb,po,none⟩)) P:=λw' h=>hp.mono (frame_of h (λk hk _=>⟨hk,λe=>hk (Option.some.inj e).symm⟩));have aW:∀w',w.grownBy w' (some gb)->w'.cell? ⟨sb,0,none⟩=some (.pointer (some ⟨pb,po,none⟩)):=λw' h=>(World.cell?_of_block (h.block sb F.slt (by simpa using F.ne))).trans F.c0;have aX:∀w',w.grownBy w' (some gb)->w'.cell? ⟨sb,1,none⟩=some (.slice (some ⟨gb,0,none⟩) P.orders.length P.orders.length):=λw' h=>(World.cell?_of_block (h.block sb F.slt (by simpa using F.ne))).trans F.c1;have aY:∀w',w.grownBy w' (some gb)->w'.cell? ⟨pb,po,none⟩=some (.slice ao P.orders.length ad):=λw' h=>(World.cell?_of_block (h.block pb bz (by simpa using cf))).trans aV;have I:=Lib.hid (And.intro bA (And.intro aW (And.intro aX aY)));clear bA aW aX aY aV;have HI:=Lib.hid (And.intro hI hL);clear hI hL;go_enter Tryz.func201,Tryz.ntmps201;go_wp2_with fail
 refine Calls.mono (cloneRows_ok w lv L _ (λk=>k=gb\/k=sb) hl (λk hk _=>hk) (by omega)) ?_;rintro e0 w0 ⟨cL,rfl,hg0,bB⟩;go_wp2
 go_loopg [5,6] (miss b P.orders.length*(P.orders.length+3)+L.length) (λgk gv qv wr=>∃(a q:List (List Int)) (g:Bool),gk<=20000/\gk=miss a P.orders.length*(P.orders.length+3)+q.length/\gv=.bool g/\w.grownBy wr (some gb) /\
  SeqAt B (λk=>qv.ownBlock=some k) wr sb gb (.pointer (some ⟨pb,po,none⟩)) P.orders.length a/\ShQ (λk=>k=gb\/k=sb) w.heap.size wr qv q/\Hid (AddSt P H L b a q g))
 case atStart=>
  have bc:miss b P.orders.length*(P.orders.length+3)+L.length<=20000:=by
   have h3:miss b P.orders.length*(P.orders.length+3)<=6*9:=Nat.mul_le_mul (by have:=miss_le b P.orders.length;omega) (by omega);omega
  exact⟨b,L,false,bc,rfl,rfl,grown_of_ext _ hg0,F.kept hg0.size (λk hk _=>hg0.block k hk (by simp)) (λk hk h=>by have:=(bB.lt k h).1;omega),bB,Lib.hid ⟨⟨_,G.addInv_start HI.out.1 HI.out.2⟩,λ_=>rfl,by simp,Nat.le_refl _⟩⟩
 case round=>
  obtain⟨a,q,g,hgkb,bd,rfl,hg,aw,hq,jS⟩:=hrel;cases q with
  | nil=>
   obtain⟨aq,capq,rfl,_⟩:=hq.shape;go_wp2;go_ret;exact⟨a,g,rfl,hg,aw.kept (Nat.le_refl _) (λ_ _ _=>rfl) (λ_ _ h=>h.elim),by obtain⟨⟨R,hA⟩,h2,h3,_⟩:=jS.out;exact⟨G.addInv_end hA,h2,h3⟩⟩
  | cons y q=>
   obtain⟨aq,capq,rfl,_⟩:=hq.shape;obtain⟨gq,off,u,rfl,hgB,hglt,l,ae⟩:=ShQ.head hq 0 (by simp);obtain⟨m,hm⟩:∃m,m=(y :: q).length:=⟨_,rfl⟩;rw[<-hm] at hq bd ⊢;have bC:m=q.length+1:=by rw[hm];rfl
   have ae:Ints (λk=>¬(k=gb\/k=sb)/\k≠gq) wr u y:=ae;obtain⟨ay,capy,rfl,_,_⟩:=ae.shape;have cO:m<=20000:=by omega
   have cg:=I.out.2.1 wr hg;have bD:=I.out.2.2.1 wr hg;rw[Nat.add_zero] at l;have cP:(0:Int)<m:=by omega
   have HM:=Lib.hid (And.intro bd (And.intro hm bC));clear bd hm bC;have bE:Vec P.orders y:=by obtain⟨⟨R,hA⟩,_⟩:=jS.out;exact hA.vec _ (hA.que _ List.mem_cons_self)
   have aZ:∀d,d<P.orders.length->gt a d≠[]->T P d (gt a d)/\gt (gt a d) d=1:=by obtain⟨⟨R,hA⟩,_⟩:=jS.out;exact λd X h=>(hA.tab d X h).2
   have HT:=Lib.hid (And.intro bE aZ);clear bE aZ;go_wp2_with fail
   refine Calls.mono (sift_ok P G wr sb gb B _ _ y a _ _ _ (I.out.1 wr hg) aw HT.out.2 ae HT.out.1) ?_;rintro e1 S ⟨xv,rfl,be,Y,mH,bf,bF,hΦ⟩;have C:=grown_trans hg (grown_of_ext (some gb) be)
   have U:Hid (AddSt P H L b a (Y :: q) g):=by
    obtain⟨⟨R,hA⟩,h2⟩:=jS.out;exact Lib.hid ⟨G.sift_add hA hΦ,h2⟩
   clear hΦ jS cg bD l;have D:ShQ (λk=>k=gb\/k=sb) w.heap.size S (subSl (.slice (some ⟨gq,off,none⟩) m capq) 1 m) q:=(hq.ext be).tail;have bg:=run_tail_rows S (some ⟨gq,off,none⟩) m capq 1 (by omega) (by omega)
   have r:∀k,(subSl (.slice (some ⟨gq,off,none⟩) m capq) 1 m).ownBlock=some k->k=gq:=λk hk=>by
    have h3:=QOwn.own_tail k hk;simp[Value.ownBlock] at h3;exact h3.symm
   rw[show(1:Int).toNat=1 from rfl] at bg;generalize subSl (.slice (some ⟨gq,off,none⟩) m capq) 1 m=bG at D bg r;have af:SeqAt B (λk=>bG.ownBlock=some k) S sb gb (.pointer (some ⟨pb,po,none⟩)) P.orders.length a:=(aw.ext be).kept (Nat.le_refl _) (λ_ _ _=>rfl) (λk _ h=>by rw[r k h];rfl)
   have A:Ints (λk=>¬(k=gb\/k=sb)/\bG.ownBlock≠some k) S xv Y:=Ints.sub mH (λk hk _=>by
    have h1:=F.slt;have h2:=hg.size;rcases hk with hk|hk
    ·exact⟨hk.1,λe=>hk.2 (r k e)⟩
    ·exact⟨by omega,λe=>by have:=r k e;omega⟩)
   obtain⟨a1,bH,rfl,_⟩:=D.shape;obtain⟨ax,capx,hv,_,_⟩:=A.shape;rw[bf.1] at hv;subst hv;clear aw hq ae mH r;have HY:=Lib.hid (And.intro bf bF);clear bf bF;by_cases aB:dep Y=P.orders.length
   ·have bJ:Hid (AddSt P H L b a q g):=by
     obtain⟨⟨R,hA⟩,h2⟩:=U.out;exact Lib.hid ⟨⟨R,addInv_drop hA ((dep_top hP HY.out.1).1 aB)⟩,h2⟩
    clear U;go_wp2_with (go_at_call 286;refine Calls.mono (depthOf_ok _ Y S _ A) ?_;rintro eD wD ⟨rfl,rfl⟩)
    go_roundg (gk-1)
    case measure=>have:=HM.out;omega
    case rel=>exact⟨a,q,g,by omega,by have:=HM.out;omega,rfl,C,af,D,bJ⟩
   ·have X:dep Y<P.orders.length:=by have:=dep_le Y;have:=HY.out.1.1;omega
    have aD:=dep_T HY.out.1;have hy0:=dep_ne (x:=Y) (by rw[HY.out.1.1];exact X);have bh:=HY.out.2 X;obtain⟨d,aE⟩:∃d,d=dep Y:=⟨_,rfl⟩;rw[<-aE] at X aD hy0 bh aB;have ho:=hP.ord7 d X;have bK:=hP.ord d X;have ci:=aD.1.2 d X;have bL:1<=gt Y d:=by omega
    obtain⟨bx,ox,rfl,_,_,hcx⟩:=Ints.at A d (by rw[HY.out.1.1];exact X);obtain⟨b2,off2,rfl,ag,bM,ah⟩:=Ints.at hoi d X;have c1:∀w',w.grownBy w' (some gb)->w'.cell? ⟨b2,off2+d,none⟩=some (.int .i64 (gt P.orders d)):=λw' h=>(World.cell?_of_block (h.block b2 bM (by simpa using ag))).trans ah;have HD:=Lib.hid (And.intro aE (And.intro aD (And.intro bh (And.intro c1 (And.intro bK aB)))));clear aD hy0 bh c1 bK ah aB;have e1:∀w',Ext S w'->w'.cell? ⟨sb,0,none⟩=some (.pointer (some ⟨pb,po,none⟩)):=λw' h=>I.out.2.1 w' (grown_trans C (grown_of_ext _ h));have e2:∀w',Ext S w'->w'.cell? ⟨pb,po,none⟩=some (.slice (some ⟨b2,off2,none⟩) P.orders.length ad):=λw' h=>I.out.2.2.2 w' (grown_trans C (grown_of_ext _ h));have e3:∀w',Ext S w'->w'.cell? ⟨b2,off2+d,none⟩=some (.int .i64 (gt P.orders d)):=λw' h=>HD.out.2.2.2.1 w' (grown_trans C (grown_of_ext _ h));have e4:∀w',Ext S w'->w'.cell? ⟨bx,ox+d,none⟩=some (.int .i64 (gt Y d)):=λw' h=>h.cell hcx (by simp);have q1:(d:Int)<P.orders.length:=by omega
    have q2:(0:Int)<=d:=by omega
    have q3:((d:Int) == (P.orders.length:Int))=false:=by simp;omega
    have bN:Calls Tryz.prog 286 #[.slice (some ⟨bx,ox,none⟩) P.orders.length capx] S (λe w'=>e=.returned (.int .i64 d)/\S=w'):=by rw[aE];exact depthOf_ok _ Y S _ A
    clear aE;go_wp2_with (go_at_call 286;refine Calls.mono bN ?_;rintro eD wD ⟨rfl,rfl⟩)
    go_region_held3 (λw'=>Ext S w') (first|exact grown_drew _ _|assumption)
     (first
      | (go_at_call 126;refine Calls.mono (Calls.rel (w0:=S) (by assumption) (inverseMod_ret (gt Y d) (gt P.orders d) _ HD.out.2.2.2.2.1 bL ci.2)) ?_;rintro eI wI ⟨vI,rfl,aF,mI,kk,rfl,bc,hk1,hkm⟩;have HK:=Lib.hid hkm;clear hkm))
    clear e1 e2 e3 e4 bN bg;have a0:=grown_trans C (grown_of_ext (some gb) aF);have bj:=D.ext aF;have a2:=af.ext aF;have ai:=A.ext aF;have a3:∀k,(Value.slice a1 q.length bH).ownBlock=some k->w.heap.size<=k:=λk hk=>(bj.lt k hk).1;have cW:q.length<=20000:=by have:=HM.out.2.2;omega
    clear D af A hcx;go_wp2_with (first|(at_builtin;refine wp_shq_app rfl _ _ rfl (λk=>k=gb\/k=sb) w.heap.size _ _ q Y rfl wI bj rfl ai rfl (by omega) a0.size ?_;intro v2 w2 bk aG ag;have V:=grown_own a0 aG (λj J bO=>by have:=a3 j J;omega);have cC:=I.out.2.1 w2 V)|fail)
    have a4:=seq_kept a2 a3 Q.2 F.slt aG ag;have a5:=Ints.mono ai (q_kept aG ag);clear bj a2 ai;refine Calls.mono (power_ok P hP w2 _ _ Y kk _ _ (I.out.1 w2 V) a5 HY.out.1 (by omega)) ?_;rintro eZ wZ ⟨zv,rfl,bl,aj⟩;have eZ:iPow P Y kk=pw P Y kk.toNat:=G.iPow_eq HY.out.1 kk;rw[eZ] at aj;clear eZ;obtain⟨Z,hZ⟩:∃Z,Z=pw P Y kk.toNat:=⟨_,rfl⟩;rw[<-hZ] at aj;have aH:Vec P.orders Z:=by rw[hZ];exact G.pw_vec HY.out.1 _
    have HZ:=Lib.hid hZ;clear hZ;have W:=grown_trans V (grown_of_ext (some gb) bl);have aI:=bk.ext bl;have a6:=a4.ext bl
    have aJ:Ints (λk=>¬(k=gb\/k=sb)/\v2.ownBlock≠some k) wZ zv Z:=ints_of_own aj (by rw[aH.1];omega) (λk hk=>by
     have h1:=(aj.lt k hk).1;have h2:=F.slt;have h3:=V.size;exact⟨by omega,λe=>by have:=(bk.lt k e).2;omega⟩)
    have ak:∀k,v2.ownBlock=some k->w.heap.size<=k:=λk hk=>(aI.lt k hk).1;clear bk a4 a5 aG ag;obtain⟨az,al,hv,_,_⟩:=aJ.shape;rw[aH.1] at hv;subst hv;have K:=Lib.hid aH;clear aH;have bQ:Vec P.orders (pw P Z (gt P.orders d).toNat):=G.pw_vec K.out _;have bR:(pw P Z (gt P.orders d).toNat).length<=6:=by rw[bQ.1];omega
    have bS:iPow P Z (gt P.orders d)=pw P Z (gt P.orders d).toNat:=G.iPow_eq K.out _;have bT:=Lib.hid (And.intro bR bS);clear bR bS bQ;have e1:∀w',w.grownBy w' (some gb)->w'.cell? ⟨sb,0,none⟩=some (.pointer (some ⟨pb,po,none⟩)):=I.out.2.1;have e2:∀w',w.grownBy w' (some gb)->w'.cell? ⟨pb,po,none⟩=some (.slice (some ⟨b2,off2,none⟩) P.orders.length ad):=I.out.2.2.2;have e3:∀w',w.grownBy w' (some gb)->w'.cell? ⟨b2,off2+d,none⟩=some (.int .i64 (gt P.orders d)):=HD.out.2.2.2.1;go_wp2
    go_region_held3 (λw'=>w.grownBy w' (some gb)) (first|exact grown_trans W (grown_drew _ _)|assumption|exact grown_trans am (World.grownBy_alloc _ _ _))
     (first
      | (go_at_call 192;refine Calls.mono (Calls.rel2 (w0:=wZ) (grown_drew _ _) (power_ok P hP _ _ _ Z (gt P.orders d) _ _ ((I.out.1 wZ W).ext (grown_drew _ _)) (aJ.ext (grown_drew _ _)) K.out (by omega))) ?_;rintro eT wT ⟨vT,rfl,aK,qV,hsT,aL⟩;have am:=grown_trans W (grown_of_ext (some gb) aK);rw[bT.out.2] at aL;have bm:Ints (λk=>¬(k=gb\/k=sb)/\v2.ownBlock≠some k) wT vT (pw P Z (gt P.orders d).toNat):=ints_of_own aL (by have:=bT.out.1;omega) (λk hk=>by
        have h1:=(aL.lt k hk).1;have h2:=F.slt;have h3:=W.size;exact⟨by omega,λe=>by have:=(aI.lt k e).2;omega⟩);obtain⟨aT,capT,kP,_,_⟩:=bm.shape;subst kP)
      | (refine step_shq_app rfl _ _ rfl (λk=>k=gb\/k=sb) w.heap.size v2 _ (q++[Y]) _ rfl wT (aI.ext aK) rfl bm rfl (by simp;omega) am.size ?_;intro v3 w3 bn aM bo;have an:=grown_own am aM (λj J bO=>by have:=ak j J;omega)))
    clear e1 e2 e3;have a7:=seq_kept (a6.ext aK) ak Q.2 F.slt aM bo;have a8:=Ints.mono (aJ.ext aK) (q_kept aM bo);have bU:=I.out.2.2.1 w3 an;have bV:=I.out.2.1 w3 an;obtain⟨T1,bp⟩:∃T1,T1=pw P Z (gt P.orders d).toNat:=⟨_,rfl⟩;rw[<-bp] at bn;have cs:=Lib.hid bp;clear bp;clear aI a6 aJ bm aL aj aM bo;go_wp2;clear bU bV
    go_loopw [6,84] (λqv iv aO=>∃(k:Nat) (v4:Value),v4=qv/\iv=.int .i64 k/\k<=P.orders.length/\w.grownBy aO (some gb)/\SeqAt B (λj=>v4.ownBlock=some j) aO sb gb (.pointer (some ⟨pb,po,none⟩)) P.orders.length a /\
     ShQ (λk=>k=gb\/k=sb) w.heap.size aO v4 (q++[Y]++[T1]++coms P a Z k)/\Ints (λj=>¬(j=gb\/j=sb)/\v4.ownBlock≠some j) aO (.slice az P.orders.length al) Z) (λ_ iv _=>P.orders.length-(intOf iv).toNat)
    case atStart=>exact⟨0,_,rfl,rfl,by omega,an,a7,by simpa [coms] using bn,a8⟩
    case round=>
     obtain⟨k,v4,rfl,rfl,hk,M,i,aa,E⟩:=hrel;clear a7 bn a8;have N:∀j,v4.ownBlock=some j->w.heap.size<=j:=λj J=>(aa.lt j J).1;by_cases bW:k<P.orders.length
     ·obtain ⟨_,aQ⟩:=i.tab.at k bW
      rcases aQ with⟨h0,l⟩|⟨bq,ab,capb,l,cu⟩
      ·have ap:coms P a Z (k+1)=coms P a Z k:=by simp only[coms];rw[if_pos h0,List.append_nil]
       have HC:=Lib.hid ap;clear ap h0;go_wp2;go_roundw
       case rel=>exact⟨k+1,v4,rfl,by go_num,by omega,M,i,by rw[HC.out];exact aa,E⟩
       case measure=>simp[intOf];omega
      ·have ap:coms P a Z (k+1)=coms P a Z k++[comR P (gt a k) Z]:=by simp only[coms];rw[if_neg bq]
       have aR:=(HT.out.2 k bW bq).1.1;have bY:Vec P.orders (comR P (gt a k) Z):=G.mulV (G.invV (G.mulV K.out aR)) (G.mulV aR K.out);have HC:=Lib.hid (And.intro ap (And.intro aR bY));clear ap aR bY bq;have cv:=I.out.2.1 wr M;go_wp2_with fail
       refine Calls.mono (commutator_ok P G wr _ _ _ (gt a k) Z _ _ _ (I.out.1 wr M) cu E HC.out.2.1 K.out) ?_;rintro eC wC ⟨vC,rfl,aS,ar⟩;have ar:Own wr.heap.size wC vC (comR P (gt a k) Z):=ar
       have bZ:Ints (λj=>¬(j=gb\/j=sb)/\v4.ownBlock≠some j) wC vC (comR P (gt a k) Z):=ints_of_own ar (by rw[HC.out.2.2.1];omega) (λj J=>by
        have h1:=(ar.lt j J).1;have h2:=F.slt;have h3:=M.size;exact⟨by omega,λe=>by have:=(aa.lt j e).2;omega⟩)
       have a9:=grown_trans M (grown_of_ext (some gb) aS);obtain⟨aC,capC,iu,_,_⟩:=bZ.shape;subst iu;have c3:=coms_len P a Z k;clear ar l cv;go_wp2_with (first|(at_builtin;refine wp_shq_app rfl _ _ rfl (λk=>k=gb\/k=sb) w.heap.size v4 _ (q++[Y]++[T1]++coms P a Z k) (comR P (gt a k) Z) rfl wC (aa.ext aS) rfl bZ rfl (by simp;omega) a9.size ?_;intro v5 w5 br O b0;have b1:=grown_own a9 O (λj J bO=>by have:=N j J;omega))|fail)
       go_roundw
       case rel=>exact⟨k+1,v5,rfl,by go_num,by omega,b1,seq_kept (i.ext aS) N Q.2 F.slt O b0,by rw[HC.out.1,<-List.append_assoc];exact br,Ints.mono (E.ext aS) (q_kept O b0)⟩
       case measure=>simp[intOf];omega
     ·have cx:k=P.orders.length:=by omega
      subst cx;have a':Z≠[]:=λh=>by have:=K.out.1;rw[h] at this;simp at this;omega
      obtain⟨cy,O⟩:=i.put d (u := .slice az P.orders.length al) (y:=Z) (Ints.sub E (λj J _=>⟨λe=>J.1 (.inl e),λh=>h.elim (λe=>J.1 (.inr e)) J.2⟩)) a';obtain⟨c4,aQ⟩:=i.tab.at d X;have c5:wr.cell? ⟨gb,d,none⟩=some (.slice none 0 0):=aQ.elim (λh=>h.2) (λh=>absurd HD.out.2.2.1 h.1)
      have br:ShQ (λk=>k=gb\/k=sb) w.heap.size (wr.setCell ⟨gb,d,none⟩ (.slice az P.orders.length al)) v4 (q++[Y]++[T1]++coms P a Z P.orders.length):=aa.kept O.size (λj J hc=>O.block j J (λe=>by
       have e:=Option.some.inj e;subst e;rcases hc with hc|hc
       ·have:=N _ hc;have:=Q.2;omega
       ·exact hc (.inl rfl))) (λ_ _ h=>h)
      have bD:=I.out.2.2.1 wr M;have aU:=miss_set (b:=a) (z:=Z) HD.out.2.2.1 a' P.orders.length (by rw[i.tab.len];exact Nat.le_refl _);rw[if_pos X] at aU;have b4:(q++[Y]++[T1]++coms P a Z P.orders.length).length<=q.length+2+P.orders.length:=by have:=coms_len P a Z P.orders.length;simp;omega
      have ba:miss a P.orders.length*(P.orders.length+3)=miss (a.set d Z) P.orders.length*(P.orders.length+3)+(P.orders.length+3):=by rw[<-aU,Nat.add_mul,Nat.one_mul]
      have b5:Hid (AddSt P H L b (a.set d Z) (q++[Y]++[T1]++coms P a Z P.orders.length) true):=by
       obtain⟨⟨R,hA⟩,h2,h3,h4⟩:=U.out;have b6:=G.add_step hA X HD.out.2.1 HD.out.2.2.1 i.tab.len kk bc HK.out;rw[<-HZ.out,<-cs.out] at b6;exact Lib.hid ⟨b6,by simp,λ_=>by omega,by omega⟩
      have bb:miss (a.set d Z) P.orders.length*(P.orders.length+3)+(q++[Y]++[T1]++coms P a Z P.orders.length).length<gk:=by have:=HM.out;omega
      have HX:=Lib.hid (And.intro b4 (And.intro bb (And.intro ba aU)));clear b4 ba aU bb U aQ aa i E;have c6:(d:Int)<P.orders.length:=by omega
      go_wp2;go_roundg (miss (a.set d Z) P.orders.length*(P.orders.length+3)+(q++[Y]++[T1]++coms P a Z P.orders.length).length)
      case measure=>exact HX.out.2.1
      case rel=>exact⟨a.set d Z,_,true,by have:=HX.out.2.1;omega,rfl,rfl,grown_trans M O,cy,br,b5⟩
end Go.Proofs.YtldheeicjnncoaaGreat
