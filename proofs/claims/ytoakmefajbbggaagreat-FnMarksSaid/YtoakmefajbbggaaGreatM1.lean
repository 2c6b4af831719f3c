/- Merged from templates. -/
import Derived.Test.YtoakmefajbbggaaGreatRows
import Derived.WalkKit
import Derived.WalkSpells
import Derived.WalkLawsBesides
import Derived.Lib.Hide
import Derived.Laws.AppendOwnNone
import Derived.Maps.AppendAt
import Derived.Deep.QuietTactic
import Derived.BigQuiet
import Derived.Deep.DeepCutAuto
import Derived.StillTailTactics
import Derived.Deep.RegionHeld3
namespace Go.Proofs.YtoakmefajbbggaaGreat
open Go.RowKit
def gt {α:Type} [Inhabited α] (xs:List α) (i:Nat):α:=xs.getD i default
theorem gM {α:Type} [Inhabited α] (xs:List α) (i:Nat) (h:i<xs.length):gt xs i=xs[i]:=by
 simp[gt,h]
theorem iX {α:Type} [Inhabited α] (xs a:List α) (i:Nat) (h:i<xs.length):gt (xs++a) i=gt xs i:=by
 simp[gt,List.getElem?_append_left h]
theorem kr {α:Type} [Inhabited α] (xs:List α) (x:α):gt (xs++[x]) xs.length=x:=by
 simp[gt]
theorem iN {α:Type} [Inhabited α] (xs:List α) (i:Nat) (x:α) (h:i<xs.length):gt (xs.set i x) i=x:=by
 simp[gt,h]
theorem iy {α:Type} [Inhabited α] (xs:List α) (i j:Nat) (x:α) (h:i≠j):gt (xs.set i x) j=gt xs j:=by
 simp[gt,List.getElem?_set_ne h]
theorem je {α:Type} [Inhabited α] (xs:List α) (k:Nat) (h:k<xs.length):xs.take (k+1)=xs.take k++[gt xs k]:=by
 rw[gM xs k h,List.take_succ_eq_append_getElem h]
theorem jM {α a:Type} [Inhabited α] [Inhabited a] (f:α->a) (xs:List α) (i:Nat) (h:i<xs.length):gt (xs.map f) i=f (gt xs i):=by
 simp[gt,h]
theorem mg {α:Type} [Inhabited α] {xs a:List α}(h:xs.length=a.length) (b:∀i,i<xs.length->gt xs i=gt a i):xs=a:=by
 apply List.ext_getElem h;intro i h1 e;rw[<-gM xs i h1,<-gM a i e];exact b i h1
def Sl {α:Type} [Inhabited α] (El:World->Value->α->Prop) (S:Nat->Prop) (w:World) (v:Value) (xs:List α):Prop:=
 ∃ a cap,v=.slice a xs.length cap/\(xs.length<=cap/\xs.length<=9223372036854775807/\(a=none->cap=0)) /\
  ∀i,i<xs.length->∃b off u,a=some ⟨b,off,none⟩/\S b/\b<w.heap.size/\w.cell? ⟨b,off+i,none⟩=some u/\El w u (gt xs i)
def rO (_:World) (u:Value) (x:Int):Prop:=u=.int .i64 x
abbrev Ints (S:Nat->Prop) (w:World) (v:Value) (l:List Int):Prop:=Sl rO S w v l
abbrev dK (S:Nat->Prop) (w:World) (v:Value) (l:List (List Int)):Prop:=Sl (λw u x=>Ints S w u x) S w v l
abbrev fU (S:Nat->Prop) (w:World) (v:Value) (l:List (List (List Int))):Prop:=Sl (λw u x=>dK S w u x) S w v l
abbrev Ext (w w':World):Prop:=w.grownBy w' none
theorem Ext.refl (w:World):Ext w w:=⟨rfl,rfl,rfl,Nat.le_refl _,λ_ _ _=>rfl⟩
theorem gZ (w:World) (r:Option Nat):w.grownBy w r:=⟨rfl,rfl,rfl,Nat.le_refl _,λ_ _ _=>rfl⟩
theorem fk (w:World) (r:Option Nat):w.grownBy w.drew r:=⟨rfl,rfl,rfl,Nat.le_refl _,λ_ _ _=>rfl⟩
theorem iI (w:World) (n:Nat) (r:Option Nat):w.grownBy (w.drewN n) r:=⟨rfl,rfl,rfl,Nat.le_refl _,λ_ _ _=>rfl⟩
theorem dy {a b c:World}{r:Option Nat}(h:a.grownBy b r) (k:b.grownBy c r):a.grownBy c r:=
 ⟨k.os.trans h.os,k.tape.trans h.tape,k.output.trans h.output,Nat.le_trans h.size k.size,
  λi j e=>(k.block i (Nat.lt_of_lt_of_le j h.size) e).trans (h.block i j e)⟩
theorem fH {a b:World}(r:Option Nat) (h:Ext a b):a.grownBy b r:=
 ⟨h.os,h.tape,h.output,h.size,λi e _=>h.block i e (by simp)⟩
theorem fu {a b c:World}{r:Option Nat}{q:Option Nat}(h:a.grownBy b r) (k:b.grownBy c q) (p:∀j,q=some j->j<a.heap.size->r=some j):a.grownBy c r:=
 ⟨k.os.trans h.os,k.tape.trans h.tape,k.output.trans h.output,Nat.le_trans h.size k.size,
  λi m l=>(k.block i (Nat.lt_of_lt_of_le m h.size) (λe=>l (p i e.symm m).symm)).trans (h.block i m l)⟩
theorem Ext.below {a b:World}(h:Ext a b):Below a.heap.size a b:=
 ⟨h.os,h.tape,h.output,h.size,λk hk=>h.block k hk (by simp)⟩
theorem Sl.shape {α:Type} [Inhabited α] {El:World->Value->α->Prop}{S:Nat->Prop}{w:World}{v:Value}{xs:List α}(h:Sl El S w v xs) :
  ∃a cap,v=.slice a xs.length cap/\xs.length<=cap/\xs.length<=9223372036854775807:=by
 obtain⟨a,cap,hv,hl,_⟩:=h;exact⟨a,cap,hv,hl.1,hl.2.1⟩
theorem Sl.at {α:Type} [Inhabited α] {El:World->Value->α->Prop}{S:Nat->Prop}{w:World}{a:Option Addr}{n cap:Nat}{xs:List α}(h:Sl El S w (.slice a n cap) xs) (i:Nat) (e:i<xs.length) :
  ∃b off u,a=some ⟨b,off,none⟩/\S b/\b<w.heap.size/\w.cell? ⟨b,off+i,none⟩=some u/\El w u (gt xs i):=by
 obtain⟨a',cap',hv,_,hc⟩:=h;cases hv
 exact hc i e
theorem Ints.at {S:Nat->Prop}{w:World}{a:Option Addr}{n cap:Nat}{xs:List Int}(h:Sl rO S w (.slice a n cap) xs) (i:Nat) (j:i<xs.length) :
  ∃b off,a=some ⟨b,off,none⟩/\S b/\b<w.heap.size/\w.cell? ⟨b,off+i,none⟩=some (.int .i64 (gt xs i)):=by
 obtain⟨b,off,u,h1,h2,h3,k,e⟩:=h.at i j;have e:u=.int .i64 (gt xs i):=e;exact⟨b,off,h1,h2,h3,by rw[k,e]⟩
theorem Sl.BD {α:Type} [Inhabited α] {El:World->Value->α->Prop}{S:Nat->Prop}{w:World}{n cap:Nat}{xs:List α}(h:Sl El S w (.slice none n cap) xs):xs=[]/\cap=0:=by
 obtain⟨a',cap',hv,hl,hc⟩:=h;cases hv
 refine⟨?_,hl.2.2 rfl⟩;cases xs with
 | nil=>rfl
 | cons x l=>obtain⟨b,off,u,h,_⟩:=hc 0 (by simp);cases h
theorem Sl.mono {α:Type} [Inhabited α] {El e:World->Value->α->Prop}{S S':Nat->Prop}{w w':World}{v:Value}{xs:List α}(h:Sl El S w v xs)
  (l:∀k,S k->k<w.heap.size->S' k/\k<w'.heap.size/\w'.heap[k]? = w.heap[k]?) (m:∀u x,El w u x->e w' u x):Sl e S' w' v xs:=by
 obtain⟨a,cap,hv,hl,hc⟩:=h;refine⟨a,cap,hv,hl,λi p => ?_⟩;obtain⟨b,off,u,ha,hS,hlt,hu,hx⟩:=hc i p;obtain⟨j,hlt',hk⟩:=l b hS hlt;exact⟨b,off,u,ha,j,hlt',(World.cell?_of_block (w:=w) hk).trans hu,m _ _ hx⟩
theorem Ints.mono {S S':Nat->Prop}{w w':World}{v:Value}{xs:List Int}(h:Ints S w v xs)
  (a:∀k,S k->k<w.heap.size->S' k/\k<w'.heap.size/\w'.heap[k]? = w.heap[k]?):Ints S' w' v xs:=Sl.mono h a (λ_ _ h=>h)
theorem dK.mono {S S':Nat->Prop}{w w':World}{v:Value}{xs:List (List Int)}(h:dK S w v xs)
  (a:∀k,S k->k<w.heap.size->S' k/\k<w'.heap.size/\w'.heap[k]? = w.heap[k]?):dK S' w' v xs:=Sl.mono h a (λ_ _ h=>Ints.mono h a)
theorem fU.mono {S S':Nat->Prop}{w w':World}{v:Value}{xs:List (List (List Int))}(h:fU S w v xs)
  (a:∀k,S k->k<w.heap.size->S' k/\k<w'.heap.size/\w'.heap[k]? = w.heap[k]?):fU S' w' v xs:=Sl.mono h a (λ_ _ h=>dK.mono h a)
theorem iQ {S S':Nat->Prop}{w w':World}{r:Option Nat}(b:w.grownBy w' r) (i:∀k,S k->k<w.heap.size->S' k/\r≠some k) :
  ∀k,S k->k<w.heap.size->S' k/\k<w'.heap.size/\w'.heap[k]? = w.heap[k]? :=
 λk hk a=>⟨(i k hk a).1,Nat.lt_of_lt_of_le a b.size,b.block k a (λe=>(i k hk a).2 e.symm)⟩
theorem uw {S:Nat->Prop}{w w':World}(a:Ext w w'):∀k,S k->k<w.heap.size->S k/\k<w'.heap.size/\w'.heap[k]? = w.heap[k]? :=
 iQ a (λ_ h _=>⟨h,by simp⟩)
theorem Ints.ext {S:Nat->Prop}{w w':World}{v:Value}{xs:List Int}(h:Ints S w v xs) (a:Ext w w'):Ints S w' v xs:=h.mono (uw a)
theorem dK.ext {S:Nat->Prop}{w w':World}{v:Value}{xs:List (List Int)}(h:dK S w v xs) (a:Ext w w'):dK S w' v xs:=dK.mono h (uw a)
theorem fU.ext {S:Nat->Prop}{w w':World}{v:Value}{xs:List (List (List Int))}(h:fU S w v xs) (a:Ext w w'):fU S w' v xs:=fU.mono h (uw a)
theorem Ints.sub {S S':Nat->Prop}{w:World}{v:Value}{xs:List Int}(h:Ints S w v xs) (b:∀k,S k->k<w.heap.size->S' k):Ints S' w v xs:=
 h.mono (λk hk a=>⟨b k hk a,a,rfl⟩)
theorem dK.sub {S S':Nat->Prop}{w:World}{v:Value}{xs:List (List Int)}(h:dK S w v xs) (b:∀k,S k->k<w.heap.size->S' k):dK S' w v xs:=
 dK.mono h (λk hk a=>⟨b k hk a,a,rfl⟩)
theorem fU.sub {S S':Nat->Prop}{w:World}{v:Value}{xs:List (List (List Int))}(h:fU S w v xs) (b:∀k,S k->k<w.heap.size->S' k):fU S' w v xs:=
 fU.mono h (λk hk a=>⟨b k hk a,a,rfl⟩)
structure Pr where
 orders:List Int
 eH:List (List Int)
 conj:List (List (List Int))
 deriving Inhabited
structure fA (S:Nat->Prop) (w:World) (vo vp vc:Value) (P:Pr):Prop where
 o:Ints S w vo P.orders
 p:dK S w vp P.eH
 c:fU S w vc P.conj
theorem fA.mono {S S':Nat->Prop}{w w':World}{vo vp vc:Value}{P:Pr}(h:fA S w vo vp vc P)
  (a:∀k,S k->k<w.heap.size->S' k/\k<w'.heap.size/\w'.heap[k]? = w.heap[k]?):fA S' w' vo vp vc P:=
 ⟨Ints.mono h.o a,dK.mono h.p a,fU.mono h.c a⟩
theorem fA.ext {S:Nat->Prop}{w w':World}{vo vp vc:Value}{P:Pr}(h:fA S w vo vp vc P) (a:Ext w w'):fA S w' vo vp vc P:=h.mono (uw a)
def fB (S:Nat->Prop) (w:World) (v:Value) (P:Pr):Prop:=
 ∃ b off vo vp vc,v=.pointer (some ⟨b,off,none⟩)/\S b/\b<w.heap.size/\w.cell? ⟨b,off,none⟩=some vo/\w.cell? ⟨b,off+1,none⟩=some vp/\w.cell? ⟨b,off+2,none⟩=some vc /\
  fA S w vo vp vc P
theorem fB.mono {S S':Nat->Prop}{w w':World}{v:Value}{P:Pr}(h:fB S w v P)
  (e:∀k,S k->k<w.heap.size->S' k/\k<w'.heap.size/\w'.heap[k]? = w.heap[k]?):fB S' w' v P:=by
 obtain⟨b,off,vo,vp,vc,hv,hS,hlt,h0,h1,h2,h3⟩:=h;obtain⟨a,hlt',hk⟩:=e b hS hlt;exact⟨b,off,vo,vp,vc,hv,a,hlt',(World.cell?_of_block (w:=w) hk).trans h0,(World.cell?_of_block (w:=w) hk).trans h1,(World.cell?_of_block (w:=w) hk).trans h2,h3.mono e⟩
theorem fB.ext {S:Nat->Prop}{w w':World}{v:Value}{P:Pr}(h:fB S w v P) (a:Ext w w'):fB S w' v P:=h.mono (uw a)
theorem fB.sub {S S':Nat->Prop}{w:World}{v:Value}{P:Pr}(h:fB S w v P) (b:∀k,S k->k<w.heap.size->S' k):fB S' w v P:=
 h.mono (λk hk a=>⟨b k hk a,a,rfl⟩)
theorem fB.shape {S:Nat->Prop}{w:World}{v:Value}{P:Pr}(h:fB S w v P):∃b off,v=.pointer (some ⟨b,off,none⟩):=by
 obtain⟨b,off,_,_,_,hv,_⟩:=h;exact⟨b,off,hv⟩
theorem fB.at {S:Nat->Prop}{w:World}{b off:Nat}{P:Pr}(h:fB S w (.pointer (some ⟨b,off,none⟩)) P) :
  ∃vo vp vc,S b/\b<w.heap.size/\w.cell? ⟨b,off,none⟩=some vo/\w.cell? ⟨b,off+1,none⟩=some vp/\w.cell? ⟨b,off+2,none⟩=some vc/\fA S w vo vp vc P:=by
 obtain⟨a,off',vo,vp,vc,hv,h⟩:=h;cases hv
 exact⟨vo,vp,vc,h⟩
theorem fB.iO {S:Nat->Prop}{w:World}{b off:Nat}{P:Pr}(h:fB S w (.pointer (some ⟨b,off,none⟩)) P) :
  ∃a cap,w.cell? ⟨b,off,none⟩=some (.slice a P.orders.length cap)/\Ints S w (.slice a P.orders.length cap) P.orders:=by
 obtain⟨vo,vp,vc,_,_,h0,_,_,hq⟩:=h.at;obtain⟨a,cap,rfl,_,_⟩:=hq.o.shape;exact⟨a,cap,h0,hq.o⟩
theorem fB.rP {S:Nat->Prop}{w:World}{b off:Nat}{P:Pr}(h:fB S w (.pointer (some ⟨b,off,none⟩)) P) :
  ∃a cap,w.cell? ⟨b,off+1,none⟩=some (.slice a P.eH.length cap)/\dK S w (.slice a P.eH.length cap) P.eH:=by
 obtain⟨vo,vp,vc,_,_,_,h0,_,hq⟩:=h.at;obtain⟨a,cap,rfl,_,_⟩:=Sl.shape hq.p;exact⟨a,cap,h0,hq.p⟩
theorem fB.qW {S:Nat->Prop}{w:World}{b off:Nat}{P:Pr}(h:fB S w (.pointer (some ⟨b,off,none⟩)) P) :
  ∃a cap,w.cell? ⟨b,off+2,none⟩=some (.slice a P.conj.length cap)/\fU S w (.slice a P.conj.length cap) P.conj:=by
 obtain⟨vo,vp,vc,_,_,_,_,h0,hq⟩:=h.at;obtain⟨a,cap,rfl,_,_⟩:=Sl.shape hq.c;exact⟨a,cap,h0,hq.c⟩
theorem dK.at {S:Nat->Prop}{w:World}{a:Option Addr}{n cap:Nat}{xs:List (List Int)}(h:Sl (λw u x=>Ints S w u x) S w (.slice a n cap) xs) (i:Nat) (j:i<xs.length) :
  ∃b off a' e,a=some ⟨b,off,none⟩/\S b/\b<w.heap.size/\w.cell? ⟨b,off+i,none⟩=some (.slice a' (gt xs i).length e)/\Ints S w (.slice a' (gt xs i).length e) (gt xs i):=by
 obtain⟨b,off,u,h1,h2,h3,h4,h5⟩:=Sl.at h i j;obtain⟨a',e,rfl,_,_⟩:=Sl.shape h5;exact⟨b,off,a',e,h1,h2,h3,h4,h5⟩
theorem fU.at {S:Nat->Prop}{w:World}{a:Option Addr}{n cap:Nat}{xs:List (List (List Int))}(h:Sl (λw u x=>dK S w u x) S w (.slice a n cap) xs) (i:Nat) (j:i<xs.length) :
  ∃b off a' e,a=some ⟨b,off,none⟩/\S b/\b<w.heap.size/\w.cell? ⟨b,off+i,none⟩=some (.slice a' (gt xs i).length e)/\dK S w (.slice a' (gt xs i).length e) (gt xs i):=by
 obtain⟨b,off,u,h1,h2,h3,h4,h5⟩:=Sl.at h i j;obtain⟨a',e,rfl,_,_⟩:=Sl.shape h5;exact⟨b,off,a',e,h1,h2,h3,h4,h5⟩
def gy (S:Nat->Prop) (w:World) (v:Value) (P:Pr):Prop:=∃vo vp vc,v=.agg #[vo,vp,vc]/\fA S w vo vp vc P
def fq (w:World) (φ : World->Value->Prop) (e:Ending) (w':World):Prop:=∃v,e=.returned v/\Ext w w'/\φ w' v
def mA (w:World) (r:Option Nat) (φ : World->Value->Prop) (e:Ending) (w':World):Prop:=∃v,e=.returned v/\w.grownBy w' r/\φ w' v
theorem Calls.rel {f:FuncId}{args:Array Value}{w w0:World}{φ : World->Value->Prop}(a:Ext w0 w) (h:Calls Tryz.prog f args w (fq w φ)) :
  Calls Tryz.prog f args w λe w'=>∃v,e=.returned v/\Ext w0 w'/\w0.heap.size<=w.heap.size/\φ w' v:=
 h.mono λ_ _ ⟨v,he,hg,hv⟩=>⟨v,he,dy a hg,a.size,hv⟩
def Any:Nat->Prop:=λ_=>True
def From (B:Nat):Nat->Prop:=λk=>B<=k
def mB (r:Option Nat):Nat->Prop:=λk=>r≠some k
abbrev Own (base:Nat) (w:World) (v:Value) (l:List Int):Prop:=w.ownsRow base 2 1 v l.length (l.map (Value.int .i64))
theorem Tryz.pV:(Tryz.prog.info? 2).map (λi=>(i.zero,i.size,i.bytes))=some (some (.int .i64 0),1,8):=by kernel_rfl
theorem iD {base:Nat}{S:Nat->Prop}{w:World}{v:Value}{l:List Int}(h:Own base w v l) (j:l.length<=9223372036854775807) (p:∀k,v.ownBlock=some k->S k):Ints S w v l:=by
 have a:=h.lt;obtain⟨_,h⟩:=h;rcases h with⟨b,hn⟩|⟨g,cap,e,b,hg,hb,hnc,hcm,hsz,hx⟩
 ·exact⟨none,0,by rw[b,hn],⟨by omega,j,λ_=>rfl⟩,λi m=>by omega⟩
 ·subst b
  refine⟨_,cap,rfl,⟨hnc,j,λh=>by cases h⟩,λi m=>⟨g,0,.int .i64 (gt l i),rfl,p g rfl,(a g rfl).2,?_,rfl⟩⟩;have h1:(e.toList.take (l.length*1))[i]? = (l.map (Value.int .i64))[i]? :=by rw[hx]
  simp only[World.cell?,hb,Nat.zero_add,Option.isSome_none,Bool.false_eq_true,if_false];rw[List.getElem?_take_of_lt (by omega)] at h1;rw[<-Array.getElem?_toList,h1];simp[gt,m]
theorem ku {b off n cap j:Nat}{sp:Option Nat}(h:(Value.slice (some ⟨b,off,sp⟩) n cap).ownBlock=some j):j=b:=by
 have:some b=some j:=h;cases this;rfl
abbrev fK (base E:Nat) (w:World) (v:Value) (xs:List Value):Prop:=w.ownsRow base E 1 v xs.length xs
theorem Own.v {base:Nat}{w:World}{v:Value}{l:List Int}(h:Own base w v l):fK base 2 w v (l.map (Value.int .i64)):=by
 unfold fK;rw[List.length_map];exact h
theorem Own.of {base:Nat}{w:World}{v:Value}{l:List Int}(h:fK base 2 w v (l.map (Value.int .i64))):Own base w v l:=by
 unfold fK at h;rw[List.length_map] at h;exact h
theorem nX (T E:Nat) (z:Value) (bytes:Nat) (I:Tryz.prog.underlying T=some (.slice E)) (N:(Tryz.prog.info? E).map (λi=>(i.zero,i.size,i.bytes))=some (some z,1,bytes))
  (C:z.cells.size=1) (D:bytes<=64) {q:Array Oper}{rest:List Oper}{o:Oper}{a:Act}{Q:Exit->Act->World->Prop}{w:World}(r:o.guard=none) (s x:Operand)
  (J:o.op=Op.call { callee:=Callee.builtin Builtin.append,args := #[s,x],argTypes := #[T,T] }) (base:Nat) (v:Value) (xs:List Value) (K:a.eval s=v) (e:fK base E w v xs)
  (B:Option Addr) (m c:Nat) (news:List Value) (hx:a.eval x=.slice B m c) (L:news.length=m) (F:B=none->c=0)
  (k:∀j,j<m->∃b off,B=some ⟨b,off,none⟩/\w.cell? ⟨b,off+j,none⟩=some (gt news j)) (h1:∀u,u∈news->u.oneCell'=true) (y:xs.length+m<=2147483648) (l:base<=w.heap.size)
  (h:∀p w',fK base E w' p (xs++news)->w.grownBy w' v.ownBlock->(p=.slice none 0 0↔v=.slice none 0 0/\m=0)->p.ownBlock=v.ownBlock\/p.ownBlock=some w.heap.size->wpList Tryz.prog q Q rest (a.put o.dst p) w') :
  wpList Tryz.prog q Q (o :: rest) a w:=by
 obtain⟨M,hi,hz0,hz1,hz2⟩:=info_parts N;cases B with
 | none=>
  have A:=F rfl
  have O:m=0:=by
   rcases Nat.eq_zero_or_pos m with h|h
   ·exact h
   ·obtain⟨b,off,hh,_⟩:=k 0 h;cases hh
  subst O;subst A;have R:news=[]:=List.eq_nil_of_length_eq_zero L;subst R;exact wpList_append_own_none r s x T J base E M 1 I hi v xs.length xs K e hx (h v w (by simpa using e) (gZ _ _) (by simp) (.inl rfl))
 | some S=>
  refine wpList_append_own_at w r s x T J base E M z 1 bytes I hi hz0 hz1 hz2 C (by decide) v xs.length xs K e S m c news hx (by omega) ?_ h1 ?_ ?_ l ?_
  ·intro j u G
   have U:j<m:=by
    rcases Nat.lt_or_ge j m with h|h
    ·exact h
    ·rw[List.getElem?_eq_none (by omega)] at G;cases G
   obtain⟨b,off,hh,A⟩:=k j U;cases hh
   have:gt news j=u:=by
    simp only[gt,List.getD_eq_getElem?_getD,G];rfl
   rw[this] at A;unfold Addr.add;split
   ·rename_i H;subst H;exact A
   ·exact A
  ·unfold maxLen;omega
  ·have:=Nat.mul_le_mul y D
   omega
  ·intro p w' V W X Y
   exact h p w' (by unfold fK;rw[List.length_append,L];exact V) W X Y
end Go.Proofs.YtoakmefajbbggaaGreat
namespace Go.Proofs.YtoakmefajbbggaaGreat
def iter {α:Type} : Nat->(α->α)->α->α
 | 0,_,x=>x
 | n+1,f,x=>f (iter n f x)
def dL (o e:List Int):Prop:=e.length=o.length/\∀i,i<o.length->0<=gt e i/\gt e i<gt o i
def nY (i:Nat) (e:List Int):Prop:=∀k,k<=i->gt e k=0
def gI (l:List Int):Nat->Int
 | 0=>1
 | k+1=>gI l k*gt l k
structure Valid (P:Pr):Prop where
 mO:gI P.orders P.orders.length<=729
 n6:P.orders.length<=6
 pl:P.eH.length=P.orders.length
 cl:P.conj.length=P.orders.length
 ord:∀i,i<P.orders.length->gt P.orders i=2\/gt P.orders i=3\/gt P.orders i=5\/gt P.orders i=7
 pv:∀i,i<P.orders.length->dL P.orders (gt P.eH i)/\nY i (gt P.eH i)
 cv:∀i,i<P.orders.length->(gt P.conj i).length=P.orders.length-1-i/\∀k,k<P.orders.length-1-i->dL P.orders (gt (gt P.conj i) k)/\nY i (gt (gt P.conj i) k)
theorem Valid.gh {P:Pr}(h:Valid P) (i:Nat) (a:i<P.orders.length):2<=gt P.orders i/\gt P.orders i<=7:=by
 rcases h.ord i a with h|h|h|h<;>omega
def nA (g:List Int->Nat->List Int) (f:List Int) (e:List Int):Nat->List Int
 | 0=>e
 | k+1=>iter (gt f k).toNat (λe=>g e k) (nA g f e k)
def j6 (g:List Int->Nat->List Int) (e f:List Int):List Int:=nA g f e f.length
def mC (g:List Int->Nat->List Int) (a:List (List Int)) (rest:List Int) (e:List Int):Nat->List Int
 | 0=>e
 | k+1=>iter (gt rest k).toNat (λe=>j6 g e (gt a k)) (mC g a rest e k)
def iJ (e:List Int) (j:Nat) (k:Nat):List Int:=e.take (j+1)++List.replicate k 0++e.drop (j+1+k)
def gR (P:Pr):Nat->List Int->Nat->List Int
 | 0,e,_=>e
 | f+1,e,j=>
  let rest:=e.drop (j+1)
  let a:=(iJ e j rest.length).set j (gt e j+1)
  let b:=if gt e j+1=gt P.orders j then j6 (gR P f) (a.set j 0) (gt P.eH j) else a
  mC (gR P f) (gt P.conj j) rest b rest.length
theorem dL.set {o e:List Int}(h:dL o e) (j:Nat) (x:Int) (hx:0<=x/\(j<o.length->x<gt o j)):dL o (e.set j x):=by
 refine⟨by simpa using h.1,λi a => ?_⟩;by_cases b:j=i
 ·subst b
  rw[iN e j x (by rw[h.1];exact a)];exact⟨hx.1,hx.2 a⟩
 ·rw[iy e j i x b];exact h.2 i a
theorem jw (k i:Nat):gt (List.replicate k (0:Int)) i=0:=by
 simp only[gt,List.getD_eq_getElem?_getD,List.getElem?_replicate];split<;>rfl
theorem td (e:List Int) (j k i:Nat) (h:j+1+k<=e.length):gt (iJ e j k) i=if j<i/\i<=j+k then 0 else gt e i:=by
 unfold iJ;simp only[gt,List.getD_eq_getElem?_getD,List.getElem?_append,List.length_append,List.length_take,List.length_replicate,List.getElem?_drop,List.getElem?_replicate,List.getElem?_take];have l:min (j+1) e.length=j+1:=by omega
 rw[l];by_cases a:i<j+1
 ·rw[if_pos (by omega),if_pos a,if_pos a,if_neg (by omega)]
 ·by_cases b:i<j+1+k
  ·rw[if_pos b,if_neg a,if_pos (by omega),if_pos (by omega)];rfl
  ·rw [if_neg b,if_neg (by omega)]
   congr 2;omega
theorem qX (e:List Int) (j k:Nat) (h:j+1+k<=e.length):(iJ e j k).length=e.length:=by
 unfold iJ;simp;omega
theorem Kj (e:List Int) (j:Nat):iJ e j 0=e:=by simp[iJ]
theorem Kk (e:List Int) (j k:Nat) (h:j+1+k<e.length):iJ e j (k+1)=(iJ e j k).set (j+1+k) 0:=by
 apply mg
 ·rw[qX _ _ _ (by omega),List.length_set,qX _ _ _ (by omega)]
 ·intro i b
  rw[qX _ _ _ (by omega)] at b;rw[td _ _ _ _ (by omega)];by_cases a:j+1+k=i
  ·subst a;rw[iN _ _ _ (by rw[qX _ _ _ (by omega)];omega),if_pos (by omega)]
  ·rw [iy _ _ _ _ a,td _ _ _ _ (by omega)]
   by_cases c:j<i/\i<=j+k
   ·rw[if_pos c,if_pos (by omega)]
   ·rw[if_neg c,if_neg (by omega)]
theorem dL.iJ {o e:List Int}(h:dL o e) (j k:Nat) (hk:j+1+k<=e.length):dL o (iJ e j k):=by
 refine⟨by rw[qX _ _ _ hk];exact h.1,λi a => ?_⟩;have:=h.2 i a;rw[td _ _ _ _ hk];split<;>omega
theorem jN {α:Type}(Q:α->Prop) (f:α->α) (a:∀x,Q x->Q (f x)) (n:Nat) (x:α) (h:Q x):Q (iter n f x):=by
 induction n with
 | zero=>exact h
 | succ n b=>exact a _ b
theorem Ec {o:List Int}{g:List Int->Nat->List Int}{f e:List Int}(i:∀e j,dL o e->j<o.length->gt f j≠0->dL o (g e j)) (l:dL o e) (k:Nat) (hk:k<=o.length):dL o (nA g f e k):=by
 induction k with
 | zero=>exact l
 | succ k a=>
  unfold nA;by_cases b:gt f k=0
  ·rw[b];exact a (by omega)
  ·exact jN (dL o) _ (λx hx=>i x k hx (by omega) b) _ _ (a (by omega))
theorem ux {o:List Int}{g:List Int->Nat->List Int}{f e:List Int}(a:dL o f) (b:∀e j,dL o e->j<o.length->gt f j≠0->dL o (g e j)) (i:dL o e):dL o (j6 g e f):=
 Ec b i _ (by rw[a.1];omega)
theorem qY {P:Pr}(hP:Valid P) (f:Nat):∀(e:List Int) (j:Nat),dL P.orders e->j<P.orders.length->P.orders.length<=f+j->dL P.orders (gR P f e j):=by
 induction f with
 | zero=>intro e j _ a u;omega
 | succ f w=>
  intro e j b a u;have D:=b.1;have y:=(hP.cv j a).1
  have q:∀c,dL P.orders c->nY j c->∀x,dL P.orders x->dL P.orders (j6 (gR P f) x c):=λc z m x hx=>
   ux z (λe i b A B=>w e i b A (by
    have:¬i<=j:=λh=>B (m i h);omega)) hx
  have m:=b.iJ j (e.drop (j+1)).length (by simp;omega);have hx:=b.2 j a;unfold gR;simp only
  have r:dL P.orders (if gt e j+1=gt P.orders j then j6 (gR P f) (((Go.Proofs.YtoakmefajbbggaaGreat.iJ e j (e.drop (j+1)).length).set j (gt e j+1)).set j 0) (gt P.eH j) else (Go.Proofs.YtoakmefajbbggaaGreat.iJ e j (e.drop (j+1)).length).set j (gt e j+1)):=by
   split
   ·refine q _ (hP.pv j a).1 (hP.pv j a).2 _ ?_
    rw[List.set_set];exact m.set j 0 ⟨by omega,λ_=>by have:=hP.gh j a;omega⟩
   ·exact m.set j _ ⟨by omega,λ_=>by omega⟩
  generalize (if gt e j+1=gt P.orders j then j6 (gR P f) (((Go.Proofs.YtoakmefajbbggaaGreat.iJ e j (e.drop (j+1)).length).set j (gt e j+1)).set j 0) (gt P.eH j) else (Go.Proofs.YtoakmefajbbggaaGreat.iJ e j (e.drop (j+1)).length).set j (gt e j+1))=C at r
  have:∀k,k<=(e.drop (j+1)).length->dL P.orders (mC (gR P f) (gt P.conj j) (e.drop (j+1)) C k):=by
   intro k;induction k with
   | zero=>intro _;exact r
   | succ k p=>
    intro hk;unfold mC;have l:k<P.orders.length-1-j:=by simp at hk;omega
    exact jN (dL P.orders) _ (λx hx=>q _ ((hP.cv j a).2 k l).1 ((hP.cv j a).2 k l).2 x hx) _ _ (p (by omega))
  exact this _ (Nat.le_refl _)
end Go.Proofs.YtoakmefajbbggaaGreat
namespace Go.Proofs.YtoakmefajbbggaaGreat
open Go.RowKit
def nB (v:Value) (l h:Nat):Value:=match v with | .slice a _ cap => .slice (if cap=l then a else a.map (·.add l)) (h-l) (cap-l)|v=>v
theorem Kl {S:Nat->Prop}{w:World}{v:Value}{xs:List Int}(h:Ints S w v xs) (i j:Nat) (m:i<=j) (p:j<=xs.length):Ints S w (nB v i j) ((xs.take j).drop i):=by
 obtain⟨a,cap,rfl,hl,hc⟩:=h;have l:((xs.take j).drop i).length=j-i:=by simp;omega
 refine⟨(if cap=i then a else a.map (·.add i)),cap-i,by rw[l];rfl,⟨by omega,by omega,?_⟩,λk hk => ?_⟩
 ·intro ha
  split at ha
  ·omega
  ·have:a=none:=by simpa using ha
   have:=hl.2.2 this;omega
 obtain⟨b,off,u,rfl,hS,hlt,hu,hx⟩:=hc (i+k) (by omega);by_cases e:cap=i
 ·omega
 ·rw [if_neg e]
  refine⟨b,off+i,u,by simp[Addr.add],hS,hlt,by rw[Nat.add_assoc];exact hu,?_⟩
  have:gt ((xs.take j).drop i) k=gt xs (i+k):=by
   simp only[gt,List.getD_eq_getElem?_getD,List.getElem?_drop,List.getElem?_take];rw[if_pos (by omega)]
  rw[this];exact hx
theorem qz:Tryz.prog.underlying 24=some (.slice 2):=by kernel_rfl
theorem rQ {i:Array Oper}{rest:List Oper}{o:Oper}{a:Act}{Q:Exit->Act->World->Prop}{w:World}(y:o.guard=none) (s x:Operand)
  (C:o.op=Op.call { callee:=Callee.builtin Builtin.append,args := #[s,x],argTypes := #[24,24] }) (base:Nat) (v:Value) (l:List Int) (D:a.eval s=v) (k:Own base w v l)
  (u:Value) (m:List Int) (hx:a.eval x=u) (S:Nat->Prop) (r:Ints S w u m) (p:l.length+m.length<=2147483648) (e:base<=w.heap.size)
  (h:∀q w',Own base w' q (l++m)->w.grownBy w' v.ownBlock->(q=.slice none 0 0↔v=.slice none 0 0/\m.length=0)->wpList Tryz.prog i Q rest (a.put o.dst q) w') :
  wpList Tryz.prog i Q (o :: rest) a w:=by
 obtain⟨E,cap,rfl,⟨_,_,F⟩,hc⟩:=r;refine nX 24 2 (.int .i64 0) 8 qz Tryz.pV rfl (by decide) y s x C base v (l.map (Value.int .i64)) D k.v E m.length cap (m.map (Value.int .i64)) hx (by simp) F ?_ ?_ (by simpa using p) e ?_
 ·intro j B
  obtain⟨b,off,u,h1,_,_,z,A⟩:=hc j B;exact⟨b,off,h1,by rw[z,A];simp[gt,B]⟩
 ·intro u r
  simp at r
  obtain⟨x,_,rfl⟩:=r;rfl
 ·intro q w' h1 z A _
  exact h q w' (Own.of (by rw[List.map_append];exact h1)) z A
theorem lU {i:Array Oper}{rest:List Oper}{o:Oper}{a:Act}{Q:Exit->Act->World->Prop}{w:World}(j:o.guard=none) (l c:Operand)
  (r:o.op=Op.makeSlice 24 l c) (base n H:Nat) (hH:w.heap.size=H) (L:Int) (u:a.eval l=.int .i64 L) (y:a.eval c=.int .i64 L) (q:L=n) (C:n<=2147483648) (b:base<=H)
  (h:∀w',Own base w' (.slice (some ⟨H,0,none⟩) n n) (List.replicate n 0)->Ext w w'->H<w'.heap.size->wpList Tryz.prog i Q rest (a.put o.dst (.slice (some ⟨H,0,none⟩) n n)) w') :
  wpList Tryz.prog i Q (o :: rest) a w:=by
 subst hH;obtain⟨z,A,k,m,p⟩:=info_parts Tryz.pV;refine wpList_make_full w j l c 24 r base 2 z (.int .i64 0) 1 qz A k m .i64 .i64 L L n u y q q (by rw[p];omega) (by unfold maxLen;omega) b ?_;intro w' h1 B;refine h w' ?_ B (h1.lt w.heap.size rfl).2
 have e:(madeCells (Value.cells (.int .i64 0)) (n*1)).toList=(List.replicate n (0:Int)).map (Value.int .i64):=by
  rw[show Value.cells (.int .i64 0) = #[.int .i64 0] from rfl,toList_madeCells_one];simp
 rw[e] at h1;show World.ownsRow _ _ _ _ _ _ _
 rw[List.length_replicate];exact h1
theorem Km (w:World) (a:Option Addr) (n cap:Nat) (k:Int) (b:0<=k) (h1:k<=n) :
  (Instr.slice 24 (.slice a n cap) (some (.int .i64 k)) none none).run Tryz.prog w=.ok (nB (.slice a n cap) k.toNat n) w:=by
 rw[run_slice_l w 24 a n cap (by kernel_rfl) .i64 k b h1];have:(sizeOf (Tryz.prog.elem 24)).run Tryz.prog w=.ok 1 w:=by kernel_rfl
 rw[this];simp[Result.andThen,sliced,nB]
theorem Own.form {base:Nat}{w:World}{v:Value}{l:List Int}(h:Own base w v l) (e:0<l.length):∃g cap,v=.slice (some ⟨g,0,none⟩) l.length cap/\base<=g/\g<w.heap.size:=by
 have a:=h.lt;obtain⟨_,h|⟨g,cap,cur,b,hg,_⟩⟩:=h
 ·omega
 ·exact⟨g,cap,b,hg,(a g (by rw[b];rfl)).2⟩
theorem Own.cell {base g cap n:Nat}{w:World}{l:List Int}(h:Own base w (.slice (some ⟨g,0,none⟩) n cap) l) (j:Nat) (a:j<l.length):w.cell? ⟨g,j,none⟩=some (.int .i64 (gt l j)):=by
 have b:n=l.length:=by
  obtain⟨_,⟨h,_⟩|⟨_,_,_,h,_⟩⟩:=h<;>cases h;rfl
 subst b;have:=World.ownsRow.cellAt h j (by omega);rw[this];simp[gt,a]
theorem Own.frozen {base g cap n:Nat}{w:World}{l:List Int}(h:Own base w (.slice (some ⟨g,0,none⟩) n cap) l) (j:Nat):w.frozen? ⟨g,j,none⟩=false:=by
 have a:n=l.length:=by
  obtain⟨_,⟨h,_⟩|⟨_,_,_,h,_⟩⟩:=h<;>cases h;rfl
 subst a;exact World.ownsRow.frozenAt h j
theorem Own.store {base g cap n:Nat}{w:World}{l:List Int}(h:Own base w (.slice (some ⟨g,0,none⟩) n cap) l) (j:Nat) (x:Int) :
  Own base (w.setCell ⟨g,j,none⟩ (.int .i64 x)) (.slice (some ⟨g,0,none⟩) n cap) (l.set j x)/\w.grownBy (w.setCell ⟨g,j,none⟩ (.int .i64 x)) (some g):=by
 have a:n=l.length:=by
  obtain⟨_,⟨h,_⟩|⟨_,_,_,h,_⟩⟩:=h<;>cases h;rfl
 subst a;obtain⟨h1,h2⟩:=World.ownsRow.stored h j (.int .i64 x);refine⟨?_,h2⟩;show World.ownsRow _ _ _ _ _ _ _
 rw[List.length_set,List.map_set];exact h1
theorem Own.ext {base:Nat}{w w':World}{v:Value}{l:List Int}{r:Option Nat}(h:Own base w v l) (b:w.grownBy w' r) (a:v.ownBlock=none\/v.ownBlock≠r):Own base w' v l:=h.kept b a
set_option maxHeartbeats 400000 in
theorem xz (w:World) (v:Value) (l:List Int) (S:Nat->Prop) (b:Ints S w v l) (k:l.length<=1048576) :
  Calls Tryz.prog 166 #[v] w (fq w λw' r=>Own w.heap.size w' r l):=by
 obtain⟨a,cap,rfl,_,_⟩:=b.shape;have u:=λn=>Lib.run_eql_slice_nil (P:=Tryz.prog) w 24 2 a n cap 0 0 (by kernel_rfl);cases a with
 | none=>
  obtain⟨rfl,rfl⟩:=b.BD;clear b k;go_enter Tryz.func166,Tryz.ntmps166;go_wp2_with fail
  go_ret;exact⟨_,rfl,Ext.refl _,World.ownsRow_nil _ _ _ _⟩
 | some a=>
  go_enter Tryz.func166,Tryz.ntmps166;go_wp2_with (at_builtin;refine rQ rfl _ _ rfl w.heap.size _ [] rfl (World.ownsRow_lit w #[] 0 (Nat.le_refl _) (by decide) rfl) _ l rfl S (b.ext (World.grownBy_alloc _ _ _)) (by simp;omega) (by simp) ?_;intro y z e i m)
  go_ret;exact⟨_,rfl,fu (World.grownBy_alloc _ _ _) i (λj p q=>by have:=ku p;omega),e⟩
theorem fB.box {w:World}{vo vp vc:Value}{P:Pr}{S:Nat->Prop}(h:fA S w vo vp vc P) (T:Nat) :
  fB Any (w.alloc (.cells #[vo,vp,vc] T)) (.pointer (some ⟨w.heap.size,0,none⟩)) P:=by
 have a:=h.ext (World.grownBy_alloc w (.cells #[vo,vp,vc] T) none);refine⟨_,_,vo,vp,vc,rfl,trivial,by simp,?_,?_,?_,a.mono (λk _ hk=>⟨trivial,hk,rfl⟩)⟩
 ·rw[World.cell?_alloc_at _ _ _ _ rfl];rfl
 ·rw[World.cell?_alloc_at _ _ _ _ rfl];rfl
 ·rw[World.cell?_alloc_at _ _ _ _ rfl];rfl
theorem Own.gw {base:Nat}{w w':World}{v:Value}{l:List Int}(h:Own base w v l) (a:Ext w w'):Own base w' v l:=
 h.ext a (by cases b:v.ownBlock<;>simp)
theorem Own.weak {base base':Nat}{w:World}{v:Value}{l:List Int}(h:Own base w v l) (a:base'<=base):Own base' w v l:=by
 obtain⟨h1,b⟩:=h;refine⟨h1,?_⟩;rcases b with h|⟨g,cap,cur,hv,hg,r⟩
 ·exact .inl h
 ·exact .inr ⟨g,cap,cur,hv,Nat.le_trans a hg,r⟩
theorem Own.ints {base:Nat}{w:World}{v:Value}{l:List Int}(h:Own base w v l) (a:l.length<=9223372036854775807):Ints Any w v l:=iD h a (λ_ _=>trivial)
theorem Calls.jF {f:FuncId}{args:Array Value}{w w0:World}{φ : World->Value->Prop}(a:Ext w0 w) (h:Calls Tryz.prog f args w (fq w φ)) :
  Calls Tryz.prog f args w λe w'=>∃v,e=.returned v/\Ext w0 w'/\Ext w w'/\w0.heap.size<=w.heap.size/\φ w' v:=
 h.mono λ_ _ ⟨v,he,hg,hv⟩=>⟨v,he,dy a hg,hg,a.size,hv⟩
def kJ (a lo b:Int):Bool:=decide (lo<=a) && decide (a<=b)
theorem Ed {a lo b:Int} : kJ a lo b=true↔lo<=a/\a<=b:=by simp[kJ]
def th (n:Nat) (p:Nat->Bool):Bool:=(List.range n).all p
theorem rR {n:Nat}{p:Nat->Bool} : th n p=true↔∀i,i<n->p i=true:=by simp[th]
theorem zy {n:Nat}{p:Nat->Bool}{i:Nat}(h:i<n) (a:p i=false):th n p=false:=by
 cases b:th n p with
 | false=>rfl
 | true=>rw[rR] at b;rw[b i h] at a;cases a
theorem kP {a b:Bool}(h:a=b):Ending.returned (.bool a)=.returned (.bool b):=by rw[h]
theorem jt {w w':World}{a b:Bool}(e:Ext w w') (h:b=a):fq w (λ_ v=>v=.bool a) (.returned (.bool b)) w':=⟨_,rfl,e,by rw[h]⟩
set_option maxHeartbeats 400000 in
theorem Ee (a b c:Int) (w:World):Calls Tryz.prog 55 #[.int .i64 a,.int .i64 b,.int .i64 c] w λe w'=>e=.returned (.bool (kJ a b c))/\w=w':=by
 by_cases h:b<=a
 ·by_cases i:a<=c
  ·go_enter Tryz.func55,Tryz.ntmps55
   go_wp2;go_ret;exact⟨by simp[kJ,h,i],rfl⟩
  ·go_enter Tryz.func55,Tryz.ntmps55
   go_wp2;go_ret;exact⟨by simp[kJ,i],rfl⟩
 ·go_enter Tryz.func55,Tryz.ntmps55
  go_wp2;go_ret;exact⟨kP (by simp[kJ];omega),rfl⟩
set_option maxHeartbeats 400000 in
theorem tj (a b c:Int) (w:World):Calls Tryz.prog 59 #[.int .i64 a,.int .i64 b,.int .i64 c] w λe w'=>e=.returned (.bool (kJ a b c))/\w=w':=by
 by_cases h:b<=a
 ·by_cases i:a<=c
  ·go_enter Tryz.func59,Tryz.ntmps59
   go_wp2;go_ret;exact⟨by simp[kJ,h,i],rfl⟩
  ·go_enter Tryz.func59,Tryz.ntmps59
   go_wp2;go_ret;exact⟨by simp[kJ,i],rfl⟩
 ·go_enter Tryz.func59,Tryz.ntmps59
  go_wp2;go_ret;exact⟨kP (by simp[kJ];omega),rfl⟩
def mP (l:List Int):Bool:=th l.length (λi=>gt l i == 0)
set_option maxHeartbeats 400000 in
theorem BF (v:Value) (l:List Int) (w:World) (S:Nat->Prop) (h:Ints S w v l) :
  Calls Tryz.prog 187 #[v] w λe w'=>e=.returned (.bool (mP l))/\w=w':=by
 obtain⟨a,cap,rfl,_,_⟩:=h.shape;go_enter Tryz.func187,Tryz.ntmps187;go_wp2;go_loop [7] (λi=>∃k:Nat,i=.int .i64 k/\k<=l.length/\∀i,i<k->(gt l i == 0)=true) (λi=>l.length-(intOf i).toNat)
 case atStart=>exact⟨0,rfl,by omega,λi p=>by omega⟩
 case round=>
  obtain⟨k,rfl,hk,hz⟩:=hrel;have q:=Lib.hid hz;clear hz;by_cases j:k<l.length
  ·obtain ⟨b,off,rfl,_,_,hc⟩:=Ints.at h k j
   by_cases hx:gt l k=0
   ·have r:(gt l k != 0)=false:=by simp[hx]
    have m:=Lib.hid hx;clear hx;go_wp2;go_round
    case rel=>exact⟨k+1,by go_num,by omega,λi p=>by
     rcases Nat.lt_or_ge i k with h1|h1
     ·exact q.out i h1
     ·have:i=k:=by omega
      rw[this,m.out];rfl⟩
    case measure=>simp[intOf];omega
   ·have r:(gt l k != 0)=true:=by simp[hx]
    go_wp2;go_ret;exact⟨kP (by rw[mP,zy j (by simpa using hx)]),rfl⟩
  ·go_wp2
   go_ret;exact⟨kP (by rw[mP,rR.2 (λi p=>q.out i (by omega))]),rfl⟩
def jk {α:Type} [DecidableEq α] (a b:α):Bool:=decide (a=b)
theorem kC {α:Type} [DecidableEq α] {a b:α} : jk a b=true↔a=b:=by simp[jk]
theorem lu {α:Type} [DecidableEq α] {a b:α} : jk a b=false↔¬a=b:=by simp[jk]
theorem uy {α:Type} [DecidableEq α] [Inhabited α] {a b:List α}{k:Nat}(hx:¬gt a k=gt b k):jk a b=false:=lu.2 (λe=>hx (by rw[e]))
set_option maxHeartbeats 400000 in
theorem rS (v1 u:Value) (e j:List Int) (w:World) (B C:Nat->Prop) (h1:Ints B w v1 e) (y:Ints C w u j) :
  Calls Tryz.prog 147 #[v1,u] w (fq w λ_ v=>v=.bool (jk e j)):=by
 obtain⟨a,cap,rfl,_,_⟩:=h1.shape;obtain⟨a2,jx,rfl,_,_⟩:=y.shape;by_cases m:e.length=j.length
 ·have D:((e.length:Int) != (j.length:Int))=false:=by simp[m]
  have E:e.length<=j.length/\j.length<=e.length:=by omega
  have q:=Lib.hid m;clear m;go_enter Tryz.func147,Tryz.ntmps147;go_wp2;go_loopw [13] (λi wr=>∃k:Nat,i=.int .i64 k/\k<=e.length/\Ext w wr/\∀i,i<k->gt e i=gt j i) (λi _=>e.length-(intOf i).toNat)
  case atStart=>exact⟨0,rfl,by omega,Ext.refl _,λi z=>by omega⟩
  case round=>
   obtain⟨k,rfl,hk,p,hz⟩:=hrel;have A:=Lib.hid hz;clear hz;by_cases r:k<e.length
   ·obtain ⟨b,off,rfl,_,_,hc⟩:=Ints.at (h1.ext p) k r
    obtain⟨b2,off2,rfl,_,_,hc2⟩:=Ints.at (y.ext p) k (by omega);by_cases hx:gt e k=gt j k
    ·have F:(gt e k != gt j k)=false:=by simp[hx]
     have l:=Lib.hid hx;clear hx;go_wp2;go_quiet (fail)
     go_wp2;go_roundw
     case rel=>exact⟨k+1,by go_num,by omega,dy p (iI _ _ _),λi z=>by
      rcases Nat.lt_or_ge i k with h1|h1
      ·exact A.out i h1
      ·have:i=k:=by omega
       rw[this,l.out]⟩
     case measure=>simp[intOf];omega
    ·have F:(gt e k != gt j k)=true:=by simp[hx]
     have l:=Lib.hid hx;clear hx;go_wp2;go_quiet (fail)
     go_wp2;go_ret;exact jt (dy p (iI _ _ _)) (by rw[uy (hx:=l.out)])
   ·go_wp2
    go_ret;exact jt p (by rw[kC.2 (mg q.out (λi z=>A.out i (by omega)))])
 ·have D:((e.length:Int) != (j.length:Int))=true:=by simp;omega
  have q:=Lib.hid m;clear m;go_enter Tryz.func147,Tryz.ntmps147;go_wp2;go_ret;exact jt (Ext.refl _) (by rw[lu.2 (λh=>q.out (by rw[h]))])
set_option maxHeartbeats 400000 in
theorem qA (v1 u:Value) (e j:List Int) (w:World) (B C:Nat->Prop) (h1:Ints B w v1 e) (y:Ints C w u j) :
  Calls Tryz.prog 275 #[v1,u] w (fq w λ_ v=>v=.bool (jk e j)):=by
 obtain⟨a,cap,rfl,_,_⟩:=h1.shape;obtain⟨a2,jx,rfl,_,_⟩:=y.shape;by_cases m:e.length=j.length
 ·have D:((e.length:Int) != (j.length:Int))=false:=by simp[m]
  have E:e.length<=j.length/\j.length<=e.length:=by omega
  have q:=Lib.hid m;clear m;go_enter Tryz.func275,Tryz.ntmps275;go_wp2;go_loopw [5] (λi wr=>∃k:Nat,i=.int .i64 k/\k<=e.length/\Ext w wr/\∀i,i<k->gt e i=gt j i) (λi _=>e.length-(intOf i).toNat)
  case atStart=>exact⟨0,rfl,by omega,Ext.refl _,λi z=>by omega⟩
  case round=>
   obtain⟨k,rfl,hk,p,hz⟩:=hrel;have A:=Lib.hid hz;clear hz;by_cases r:k<e.length
   ·obtain ⟨b,off,rfl,_,_,hc⟩:=Ints.at (h1.ext p) k r
    obtain⟨b2,off2,rfl,_,_,hc2⟩:=Ints.at (y.ext p) k (by omega);by_cases hx:gt e k=gt j k
    ·have F:(gt e k != gt j k)=false:=by simp[hx]
     have l:=Lib.hid hx;clear hx;go_wp2;go_quiet (fail)
     go_wp2;go_roundw
     case rel=>exact⟨k+1,by go_num,by omega,dy p (iI _ _ _),λi z=>by
      rcases Nat.lt_or_ge i k with h1|h1
      ·exact A.out i h1
      ·have:i=k:=by omega
       rw[this,l.out]⟩
     case measure=>simp[intOf];omega
    ·have F:(gt e k != gt j k)=true:=by simp[hx]
     have l:=Lib.hid hx;clear hx;go_wp2;go_quiet (fail)
     go_wp2;go_ret;exact jt (dy p (iI _ _ _)) (by rw[uy (hx:=l.out)])
   ·go_wp2
    go_ret;exact jt p (by rw[kC.2 (mg q.out (λi z=>A.out i (by omega)))])
 ·have D:((e.length:Int) != (j.length:Int))=true:=by simp;omega
  have q:=Lib.hid m;clear m;go_enter Tryz.func275,Tryz.ntmps275;go_wp2;go_ret;exact jt (Ext.refl _) (by rw[lu.2 (λh=>q.out (by rw[h]))])
def kQ (n:Int):Bool:=decide (n=2\/n=3\/n=5\/n=7)
set_option maxHeartbeats 400000 in
theorem BG (n:Int) (w:World):Calls Tryz.prog 110 #[.int .i64 n] w λe w'=>e=.returned (.bool (kQ n))/\w=w':=by
 by_cases a:n=2
 ·subst a;go_enter Tryz.func110,Tryz.ntmps110;go_wp2;go_ret;exact⟨kP (by decide),rfl⟩
 by_cases b:n=3
 ·subst b;go_enter Tryz.func110,Tryz.ntmps110;go_wp2;go_ret;exact⟨kP (by decide),rfl⟩
 by_cases i:n=5
 ·subst i;go_enter Tryz.func110,Tryz.ntmps110;go_wp2;go_ret;exact⟨kP (by decide),rfl⟩
 by_cases j:n=7
 ·subst j;go_enter Tryz.func110,Tryz.ntmps110;go_wp2;go_ret;exact⟨kP (by decide),rfl⟩
 have m:(n == 2)=false:=by simp[a]
 have p:(n == 3)=false:=by simp[b]
 have q:(n == 5)=false:=by simp[i]
 have r:(n == 7)=false:=by simp[j]
 have k:kQ n=false:=by simp[kQ,a,b,i,j]
 have l:=Lib.hid k;clear a b i j k;go_enter Tryz.func110,Tryz.ntmps110;go_wp2;go_ret;exact⟨kP l.out.symm,rfl⟩
set_option maxHeartbeats 400000 in
theorem xA (n:Int) (w:World):Calls Tryz.prog 117 #[.int .i64 n] w λe w'=>e=.returned (.bool (kQ n))/\w=w':=by
 by_cases a:n=2
 ·subst a;go_enter Tryz.func117,Tryz.ntmps117;go_wp2;go_ret;exact⟨kP (by decide),rfl⟩
 by_cases b:n=3
 ·subst b;go_enter Tryz.func117,Tryz.ntmps117;go_wp2;go_ret;exact⟨kP (by decide),rfl⟩
 by_cases i:n=5
 ·subst i;go_enter Tryz.func117,Tryz.ntmps117;go_wp2;go_ret;exact⟨kP (by decide),rfl⟩
 by_cases j:n=7
 ·subst j;go_enter Tryz.func117,Tryz.ntmps117;go_wp2;go_ret;exact⟨kP (by decide),rfl⟩
 have m:(n == 2)=false:=by simp[a]
 have p:(n == 3)=false:=by simp[b]
 have q:(n == 5)=false:=by simp[i]
 have r:(n == 7)=false:=by simp[j]
 have k:kQ n=false:=by simp[kQ,a,b,i,j]
 have l:=Lib.hid k;clear a b i j k;go_enter Tryz.func117,Tryz.ntmps117;go_wp2;go_ret;exact⟨kP l.out.symm,rfl⟩
def fQ (n k:Nat):List Int:=(List.replicate n 0).set k 1
set_option maxHeartbeats 400000 in
theorem Ef (n k:Nat) (w:World) (hk:k<n) (p:n<=1000):Calls Tryz.prog 267 #[.int .i64 n,.int .i64 k] w (fq w λw' v=>Own w.heap.size w' v (fQ n k)):=by
 go_enter Tryz.func267,Tryz.ntmps267;go_wp2_with (at_make;refine lU rfl _ _ rfl w.heap.size n w.heap.size rfl _ rfl rfl rfl (by omega) (Nat.le_refl _) ?_;intro q a b _;have e:=a.cell k (by simpa using hk);have i:=a.frozen k)
 go_ret;obtain⟨h1,h2⟩:=a.store k 1;exact⟨_,rfl,fu b h2 (λj l m=>by cases l;omega),h1⟩
set_option maxHeartbeats 400000 in
theorem uz (n k:Nat) (w:World) (hk:k<n) (p:n<=1000):Calls Tryz.prog 167 #[.int .i64 n,.int .i64 k] w (fq w λw' v=>Own w.heap.size w' v (fQ n k)):=by
 go_enter Tryz.func167,Tryz.ntmps167;go_wp2_with (at_make;refine lU rfl _ _ rfl w.heap.size n w.heap.size rfl _ rfl rfl rfl (by omega) (Nat.le_refl _) ?_;intro q a b _;have e:=a.cell k (by simpa using hk);have i:=a.frozen k)
 go_ret;obtain⟨h1,h2⟩:=a.store k 1;exact⟨_,rfl,fu b h2 (λj l m=>by cases l;omega),h1⟩
set_option maxHeartbeats 400000 in
theorem mD (w:World) (v:Value) (l:List Int) (S:Nat->Prop) (i:Ints S w v l) (q:l.length<=1048576) :
  Calls Tryz.prog 120 #[v] w (fq w λw' r=>Own w.heap.size w' r l):=by
 obtain⟨a,cap,rfl,_,_⟩:=i.shape;go_enter Tryz.func120,Tryz.ntmps120;go_wp2_with (at_builtin;refine rQ rfl _ _ rfl w.heap.size _ [] rfl (World.ownsRow_lit w #[] 0 (Nat.le_refl _) (by decide) rfl) _ l rfl S (i.ext (World.grownBy_alloc _ _ _)) (by simp;omega) (by simp) ?_;intro u y b e k)
 go_ret;exact⟨_,rfl,fu (World.grownBy_alloc _ _ _) e (λj m p=>by have:=ku m;omega),b⟩
def nD (o e:List Int):Bool:=decide (e.length=o.length) && th e.length (λi=>kJ (gt e i) 0 (gt o i-1))
set_option maxHeartbeats 400000 in
theorem BH (w:World) (p v:Value) (P:Pr) (e:List Int) (S S':Nat->Prop) (r:fB S w p P) (u:Ints S' w v e) (y:∀i,i<P.orders.length->0<=gt P.orders i/\gt P.orders i<=7) :
  Calls Tryz.prog 125 #[p,v] w λm w'=>m=.returned (.bool (nD P.orders e))/\w=w':=by
 obtain⟨pb,po,rfl⟩:=r.shape;obtain⟨a,cap,rfl,_,_⟩:=u.shape;obtain⟨H,iA,gJ,hoi⟩:=r.iO;have z:=Lib.hid y;clear y;by_cases j:e.length=P.orders.length
 ·have C:((e.length:Int) != (P.orders.length:Int))=false:=by simp[j]
  have D:e.length<=P.orders.length/\P.orders.length<=e.length:=by omega
  have q:=Lib.hid j;clear j;go_enter Tryz.func125,Tryz.ntmps125;go_wp2;go_loop [17] (λi=>∃k:Nat,i=.int .i64 k/\k<=e.length/\∀i,i<k->kJ (gt e i) 0 (gt P.orders i-1)=true) (λi=>e.length-(intOf i).toNat)
  case atStart=>exact⟨0,rfl,by omega,λi A=>by omega⟩
  case round=>
   obtain⟨k,rfl,hk,hz⟩:=hrel;have B:=Lib.hid hz;clear hz;by_cases l:k<e.length
   ·obtain ⟨b,off,rfl,_,_,hc⟩:=Ints.at u k l
    obtain⟨b2,off2,rfl,_,_,hc2⟩:=Ints.at hoi k (by omega);have E:=(z.out k (by omega)).1;have F:=(z.out k (by omega)).2;cases hx:kJ (gt e k) 0 (gt P.orders k-1) with
    | true=>
     go_wp2_with (go_at_call 55;refine(Ee _ _ _ _).mono ?_;rintro m G ⟨rfl,rfl⟩)
     go_round
     case rel=>exact⟨k+1,by go_num,by omega,λi A=>by
      rcases Nat.lt_or_ge i k with h1|h1
      ·exact B.out i h1
      ·have:i=k:=by omega
       rw[this,hx]⟩
     case measure=>simp[intOf];omega
    | false=>
     go_wp2_with (go_at_call 55;refine(Ee _ _ _ _).mono ?_;rintro m G ⟨rfl,rfl⟩)
     go_ret;exact⟨kP (by rw[nD,zy l hx,Bool.and_false]),rfl⟩
   ·go_wp2
    go_ret;exact⟨kP (by rw[nD,rR.2 (λi A=>B.out i (by omega)),Bool.and_true,decide_eq_true q.out]),rfl⟩
 ·have C:((e.length:Int) != (P.orders.length:Int))=true:=by simp;omega
  have q:=Lib.hid j;clear j;go_enter Tryz.func125,Tryz.ntmps125;go_wp2;go_ret;exact⟨kP (by rw[nD,decide_eq_false q.out,Bool.false_and]),rfl⟩
def Dr (w w':World):Prop:=∃n,w'=w.drewN n
theorem Dr.refl (w:World):Dr w w:=⟨0,rfl⟩
theorem Dr.step {w w':World}(h:Dr w w') (n:Nat):Dr w (w'.drewN n):=by
 obtain⟨m,rfl⟩:=h;exact⟨m+n,by rw[World.drewN_drewN]⟩
theorem Dr.ext {w w':World}(h:Dr w w'):Ext w w':=by
 obtain⟨n,rfl⟩:=h;exact iI _ _ _
def Rd (w:World) (v:Value) (e:Ending) (w':World):Prop:=e=.returned v/\Dr w w'
theorem zz {w w':World}{a b:Bool}(e:Dr w w') (h:b=a):Rd w (.bool a) (.returned (.bool b)) w':=⟨by rw[h],e⟩
theorem xB {f:FuncId}{args:Array Value}{w:World}{n:Nat}{v:Value}(h:Calls Tryz.prog f args (w.drewN n) (Rd (w.drewN n) v)) :
  Calls Tryz.prog f args (w.drewN n) λe a=>e=.returned v/\∃m,a=w.drewN m:=
 Calls.quiet_of (h.mono λ_ _ h=>h)
theorem zA {f:FuncId}{args:Array Value}{w:World}{n:Nat}{v:Value}(h:Calls Tryz.prog f args (w.drewN n) λe w'=>e=.returned v/\w.drewN n=w') :
  Calls Tryz.prog f args (w.drewN n) λe a=>e=.returned v/\∃m,a=w.drewN m:=
 Calls.quiet_of_same (h.mono λ_ _ h=>⟨h.1,h.2.symm⟩)
def nE (o e:List Int) (z:Int):Bool:=decide (e.length=o.length) && th e.length (λi=>kJ (gt e i) 0 (gt o i-1) && !(decide ((i:Int)<=z) && (gt e i != 0)))
set_option maxHeartbeats 1000000 in
theorem uA (w:World) (vo v:Value) (o e:List Int) (z:Int) (S S':Nat->Prop) (u:Ints S w vo o) (E:Ints S' w v e) (F:∀i,i<o.length->0<=gt o i/\gt o i<=7) :
  Calls Tryz.prog 119 #[vo,v,.int .i64 z] w (Rd w (.bool (nE o e z))):=by
 obtain⟨O,iA,rfl,_,_⟩:=u.shape;obtain⟨a,cap,rfl,_,_⟩:=E.shape;have G:=Lib.hid F;clear F;by_cases y:e.length=o.length
 ·have J : ((e.length:Int) != (o.length:Int))=false:=by simp[y]
  have A:e.length<=o.length/\o.length<=e.length:=by omega
  have B:=Lib.hid y;clear y;go_enter Tryz.func119,Tryz.ntmps119;go_wp2;go_loopw [7] (λi wr=>∃k:Nat,i=.int .i64 k/\k<=e.length/\Dr w wr/\∀i,i<k->(kJ (gt e i) 0 (gt o i-1) && !(decide ((i:Int)<=z) && (gt e i != 0)))=true) (λi _=>e.length-(intOf i).toNat)
  case atStart=>exact⟨0,rfl,by omega,Dr.refl _,λi C=>by omega⟩
  case round=>
   obtain⟨k,rfl,hk,j,hz⟩:=hrel;have D:=Lib.hid hz;clear hz;by_cases p:k<e.length
   ·obtain ⟨b,off,rfl,_,_,hc⟩:=Ints.at (E.ext j.ext) k p
    obtain⟨b2,off2,rfl,_,_,hc2⟩:=Ints.at (u.ext j.ext) k (by omega);have K:=(G.out k (by omega)).1;have L:=(G.out k (by omega)).2;have M:(k:Int)<e.length:=by omega
    have N:(k:Int)<o.length:=by omega
    clear A;cases hx:kJ (gt e k) 0 (gt o k-1) with
    | true =>
     by_cases m:(k:Int)<=z
     ·have q:decide ((k:Int)<=z)=true:=by simpa using m
      by_cases r:gt e k=0
      ·have H:(gt e k != 0)=false:=by simp[r]
       have I:=Lib.hid r;clear r;have l:IntKind.i64.wrap (gt o k-1)=gt o k-1:=IntWalk.i64_in _ (by omega);go_wp2;go_quiet ((go_at_call 59;exact zA (tj _ _ _ _)))
       clear l;go_wp2;go_roundw
       case rel=>exact⟨k+1,by go_num,by omega,j.step _,λi C=>by
        rcases Nat.lt_or_ge i k with h1|h1
        ·exact D.out i h1
        ·have:i=k:=by omega
         rw[this,hx,I.out];simp⟩
       case measure=>simp[intOf];omega
      ·have H:(gt e k != 0)=true:=by simp[r]
       have I:=Lib.hid r;clear r;have l:IntKind.i64.wrap (gt o k-1)=gt o k-1:=IntWalk.i64_in _ (by omega);go_wp2;go_quiet ((go_at_call 59;exact zA (tj _ _ _ _)))
       clear l;go_wp2;go_ret;exact zz (j.step _) (by rw[nE,zy p (by rw[hx,q,H];rfl),Bool.and_false])
     ·have q:decide ((k:Int)<=z)=false:=by simpa using m
      have Q:=Lib.hid m;clear m;have l:IntKind.i64.wrap (gt o k-1)=gt o k-1:=IntWalk.i64_in _ (by omega);go_wp2;go_quiet ((go_at_call 59;exact zA (tj _ _ _ _)))
      clear l;go_wp2;go_roundw
      case rel=>exact⟨k+1,by go_num,by omega,j.step _,λi C=>by
       rcases Nat.lt_or_ge i k with h1|h1
       ·exact D.out i h1
       ·have:i=k:=by omega
        rw[this,hx,q];simp⟩
      case measure=>simp[intOf];omega
    | false=>
     have l:IntKind.i64.wrap (gt o k-1)=gt o k-1:=IntWalk.i64_in _ (by omega);go_wp2;go_quiet ((go_at_call 59;exact zA (tj _ _ _ _)))
     clear l;go_wp2;go_ret;exact zz (j.step _) (by rw[nE,zy p (by rw[hx];rfl),Bool.and_false])
   ·go_wp2
    go_ret;exact zz j (by rw[nE,rR.2 (λi C=>D.out i (by omega)),Bool.and_true,decide_eq_true B.out])
 ·have J:((e.length:Int) != (o.length:Int))=true:=by simp;omega
  have B:=Lib.hid y;clear y;go_enter Tryz.func119,Tryz.ntmps119;go_wp2;go_ret;exact zz (Dr.refl _) (by rw[nE,decide_eq_false B.out,Bool.false_and])
def zeros (n:Nat):List Int:=List.replicate n 0
def jR (at_:List Int->List Int->List Int) (a:List (List Int)) (i:Nat) (x out:List Int):Nat->List Int
 | 0=>out
 | k+1=>iter (gt x (i+1+k)).toNat (λout=>at_ out (gt a k)) (jR at_ a i x out k)
def fE (P:Pr):Nat->Nat->List Int->List Int->List Int
 | 0,_,_,_=>zeros P.orders.length
 | f+1,i,A,B=>
  let left:=iter (gt B i).toNat (λl=>jR (fE P f (i+1)) (gt P.conj i) i l (zeros P.orders.length) f) (A.set i 0)
  let rest:=fE P f (i+1) left (B.set i 0)
  let c:=gt A i+gt B i
  if gt P.orders i<=c then (fE P f (i+1) (gt P.eH i) rest).set i (c-gt P.orders i) else rest.set i c
def gF (P:Pr) (f i:Nat) (x:List Int):List Int:=jR (fE P f (i+1)) (gt P.conj i) i x (zeros P.orders.length) f
theorem lV {P:Pr}(hP:Valid P):dL P.orders (zeros P.orders.length):=by
 refine⟨by simp[zeros],λi a => ?_⟩;have:=hP.gh i a;unfold zeros;rw[jw];omega
def Eg (P:Pr) (f:Nat):Prop:=∀i A B,i+f=P.orders.length->dL P.orders A->dL P.orders B->dL P.orders (fE P f i A B)
theorem tq {P:Pr}(hP:Valid P) (f i:Nat) (j:i+(f+1)=P.orders.length) (a:Eg P f) (x out:List Int) (b:dL P.orders out) (k:Nat) (hk:k<=f) :
  dL P.orders (jR (fE P f (i+1)) (gt P.conj i) i x out k):=by
 induction k with
 | zero=>exact b
 | succ k e=>
  unfold jR;exact jN (dL P.orders) _ (λy hy=>a _ _ _ (by omega) hy ((hP.cv i (by omega)).2 k (by omega)).1) _ _ (e (by omega))
theorem jy {P:Pr}(hP:Valid P) (f:Nat):Eg P f:=by
 induction f with
 | zero=>intro i A B _ _ _;exact lV hP
 | succ f a=>
  intro i A B j b hB;have q:=hP.gh i (by omega);have k:=b.2 i (by omega);have m:=hB.2 i (by omega)
  have p:dL P.orders (iter (gt B i).toNat (λl=>jR (fE P f (i+1)) (gt P.conj i) i l (zeros P.orders.length) f) (A.set i 0)):=
   jN (dL P.orders) _ (λy hy=>tq hP f i j a _ _ (lV hP) f (Nat.le_refl _)) _ _ (b.set i 0 ⟨by omega,λ_=>by omega⟩)
  have e:=a (i+1) _ _ (by omega) p (hB.set i 0 ⟨by omega,λ_=>by omega⟩);simp only[fE];split
  ·exact(a (i+1) _ _ (by omega) (hP.pv i (by omega)).1 e).set i _ ⟨by omega,λ_=>by omega⟩
  ·exact e.set i _ ⟨by omega,λ_=>by omega⟩
def xC (P:Pr) (f:Nat):Prop:=
 ∀ (w:World) (pv a b:Value) (i:Nat) (A B:List Int) (e j k:Nat->Prop),i+f=P.orders.length->gy e w pv P->Ints j w a A->Ints k w b B->dL P.orders A->dL P.orders B ->
  Calls Tryz.prog 192 #[pv,.int .i64 i,a,b] w (fq w λw' v=>Own w.heap.size w' v (fE P f i A B))
set_option maxHeartbeats 2000000 in
theorem uB (P:Pr) (hP:Valid P) (f:Nat) (ih:xC P f) (w:World) (pv x:Value) (i:Nat) (X:List Int) (Sp Y:Nat->Prop) (hi:i+(f+1)=P.orders.length) (hp:gy Sp w pv P)
  (hx:Ints Y w x X) (G:dL P.orders X) :
  Calls Tryz.prog 237 #[pv,.int .i64 i,x] w (fq w λw' v=>Own w.heap.size w' v (gF P f i X)):=by
 obtain⟨vo,vp,vc,rfl,h3⟩:=hp;obtain⟨ax,r,rfl,_,_⟩:=hx.shape;have ai:=hP.n6;have hB:=fB.box h3 28;obtain⟨ao,iA,gJ,hoi⟩:=hB.iO;go_enter Tryz.func237,Tryz.ntmps237;go_wp2_with (at_make;refine lU rfl _ _ rfl (w.heap.size+1) P.orders.length (w.heap.size+1) (by simp) _ rfl rfl rfl (by omega) (by simp) ?_;intro q u z _)
 have a:Ext (w.alloc (.cells #[vo,vp,vc] 28)) q:=z;have H:fB Any q (.pointer (some ⟨w.heap.size,0,none⟩)) P:=hB.ext a;have I:Ints Y q (.slice ax X.length r) X:=(hx.ext (World.grownBy_alloc _ _ _)).ext a;have J:Ext w q:=dy (World.grownBy_alloc _ _ _) a;have K:i<P.conj.length:=by rw[hP.cl];omega
 have aj:f<=(gt P.conj i).length:=by rw[(hP.cv i (by omega)).1];omega
 clear gJ hoi z a hx hB;go_loopw [8,9] (λv j wr=>∃k:Nat,j=.int .i64 ((i:Int)+1+k)/\k<=f/\Ext q wr/\Own (w.heap.size+1) wr v (jR (fE P f (i+1)) (gt P.conj i) i X (zeros P.orders.length) k)) (λ_ j _=>P.orders.length-(intOf j).toNat)
 case atStart=>exact⟨0,by simp,by omega,Ext.refl _,u⟩
 case round=>
  clear u;obtain⟨k,rfl,hk,b,hO⟩:=hrel;by_cases ak:k<f
  ·have A:=G.2 (i+1+k) (by omega)
   have L:=hP.gh (i+1+k) (by omega);have al:0<=gt X (i+1+k):=A.1;have am:gt X (i+1+k)<=7:=by omega
   clear A L;have B:=tq hP f i hi (jy hP f) X _ (lV hP) k hk;have HV:=Lib.hid B;clear B;have M:(i:Int)+1+k<P.orders.length:=by omega
   go_wp2;go_loopw [8,10] (λv N wr=>∃m:Nat,N=.int .i64 m/\m<=(gt X (i+1+k)).toNat/\Ext q wr/\Own (w.heap.size+1) wr v (iter m (λout=>fE P f (i+1) out (gt (gt P.conj i) k)) (jR (fE P f (i+1)) (gt P.conj i) i X (zeros P.orders.length) k))) (λ_ N _=>(gt X (i+1+k)).toNat-(intOf N).toNat)
   case atStart=>exact⟨0,rfl,by omega,b,hO⟩
   case round=>
    clear b hO;obtain⟨m,rfl,hm,b,hO⟩:=hrel;have O:=I.ext b;obtain⟨bx,ox,rfl,_,_,hcx⟩:=Ints.at O (i+1+k) (by rw[G.1];omega);have ap:X.length<=P.orders.length/\P.orders.length<=X.length:=by rw[G.1];omega
    have aq:((i:Int)+1+k).toNat=i+1+k:=by omega
    by_cases Z:(m:Int)<gt X (i+1+k)
    ·obtain ⟨Q,qZ,rT,_,_,hc0,C,D,kR⟩:=(H.ext b).at
     obtain⟨ac,ji,rfl,_,_⟩:=Sl.shape kR.c;obtain⟨bc,oc,uC,e,rfl,_,_,hcc,hrc⟩:=fU.at kR.c i K;obtain⟨bd,od,R,l,rfl,_,_,hcd,hid⟩:=dK.at hrc k (by omega)
     have p:dL P.orders (iter m (λout=>fE P f (i+1) out (gt (gt P.conj i) k)) (jR (fE P f (i+1)) (gt P.conj i) i X (zeros P.orders.length) k)):=
      jN (dL P.orders) _ (λy hy=>jy hP f _ _ _ (by omega) hy ((hP.cv i (by omega)).2 k (by omega)).1) _ _ HV.out
     have E:=((hP.cv i (by omega)).2 k (by omega)).1;have S:=hO.ints (by rw[p.1];omega);have T:=Lib.hid p;clear p;have U:=Lib.hid E;clear E;have e1:∀w',Ext wr w'->w'.cell? ⟨w.heap.size,0,none⟩=some Q:=λw' h=>h.cell hc0 (by simp);have e2:∀w',Ext wr w'->w'.cell? ⟨w.heap.size,1,none⟩=some qZ:=λw' h=>h.cell (by simpa using C) (by simp);have e3:∀w',Ext wr w'->w'.cell? ⟨w.heap.size,2,none⟩=some (.slice (some ⟨bc,oc,none⟩) P.conj.length ji):=λw' h=>h.cell (by simpa using D) (by simp);have e4:∀w',Ext wr w'->w'.cell? ⟨bc,oc+i,none⟩=some (.slice (some ⟨bd,od,none⟩) (gt P.conj i).length e):=λw' h=>h.cell hcc (by simp);have e5:∀w',Ext wr w'->w'.cell? ⟨bd,od+k,none⟩=some (.slice R (gt (gt P.conj i) k).length l):=λw' h=>h.cell hcd (by simp);have s1:IntKind.i64.wrap ((i:Int)+1+k-i)=(k:Int)+1:=by rw[show(i:Int)+1+k-i=(k:Int)+1 by omega];exact IntWalk.i64_in _ (by omega)
     have s2:IntKind.i64.wrap (k:Int)=(k:Int):=IntWalk.i64_in _ (by omega);have s3:IntKind.i64.wrap ((i:Int)+1)=(i:Int)+1:=IntWalk.i64_in _ (by omega);have b1:(0:Int)<=k:=by omega
     have b2:(k:Int)<(gt P.conj i).length:=by omega
     have b3:(i:Int)<P.conj.length:=by omega
     go_wp2;clear hc0 C D hcc hcd
     go_region_held3 (λw'=>Ext wr w') (first|exact fk _ _|exact F)
      (first|(go_at_call 192;refine Calls.mono (Calls.rel (w0:=wr) (by assumption) (ih _ _ _ _ (i+1) _ (gt (gt P.conj i) k) Any Any Any (by omega) ⟨_,_,_,rfl,fA.ext kR (by assumption)⟩ (Ints.ext S (by assumption)) (Ints.ext hid (by assumption)) T.out U.out)) ?_;rintro e6 w6 ⟨v6,rfl,F,Uc,rU⟩))
     clear e1 e2 e3 e4 e5 s1 s2 s3;go_wp2;go_roundw
     case rel=>exact⟨m+1,by go_num,by omega,dy b F,rU.weak (by have:=b.size;omega)⟩
     case measure=>simp[intOf];omega
    ·have V:m=(gt X (i+1+k)).toNat:=by omega
     subst V;go_wp2;go_roundw
     case rel=>exact⟨k+1,by go_num,by omega,b,hO⟩
     case measure=>simp[intOf];omega
  ·have W:k=f:=by omega
   subst W;go_wp2;go_ret;exact⟨_,rfl,dy J b,hO.weak (by omega)⟩
theorem Kn (w:World) (a:Option Addr) (n cap:Nat) (k:Int) (b:0<=k) (h1:k<=cap) :
  (Instr.slice 24 (.slice a n cap) none (some (.int .i64 k)) none).run Tryz.prog w=.ok (.slice a k.toNat cap) w:=by
 rw[run_slice_h w 24 a n cap (by kernel_rfl) .i64 k b h1];have:(sizeOf (Tryz.prog.elem 24)).run Tryz.prog w=.ok 1 w:=by kernel_rfl
 rw[this];simp only[Result.andThen,sliced,Nat.sub_zero,Nat.zero_mul];have e:(a.map λx=>x.add 0)=a:=by cases a<;>simp[Addr.add]
 split
 ·rfl
 ·rw[e]
theorem Ko {S:Nat->Prop}{w:World}{a:Option Addr}{n cap:Nat}{xs:List Int}(h:Ints S w (.slice a n cap) xs) (k:Nat) (hk:k<=xs.length):Ints S w (.slice a k cap) (xs.take k):=by
 obtain⟨a',cap',hv,hl,hc⟩:=h;cases hv
 have e:(xs.take k).length=k:=by simp;omega
 refine⟨a,cap,by rw[e],⟨by omega,by omega,hl.2.2⟩,λi j => ?_⟩;obtain⟨b,off,u,h1,h2,h3,h4,h5⟩:=hc i (by omega);refine⟨b,off,u,h1,h2,h3,h4,?_⟩;have:gt (xs.take k) i=gt xs i:=by simp only[gt,List.getD_eq_getElem?_getD,List.getElem?_take];rw[if_pos (by omega)]
 rw[this];exact h5
def mQ (o:List Int) (i:Nat) (e:List Int):Bool:=nD o e && mP (e.take (i+1))
theorem uD {o e:List Int} : nD o e=true↔dL o e:=by
 unfold nD dL;rw[Bool.and_eq_true,decide_eq_true_eq,rR];constructor
 ·rintro ⟨h1,a⟩
  exact⟨h1,λi b=>by have:=Ed.1 (a i (by omega));omega⟩
 ·rintro ⟨h1,a⟩
  exact⟨h1,λi b=>by have:=a i (by omega);exact Ed.2 (by omega)⟩
theorem xD {l:List Int} : mP l=true↔∀i,i<l.length->gt l i=0:=by
 unfold mP;rw[rR];simp
theorem zB {l:List Int}{k i:Nat}(h:i<k):gt (l.take k) i=gt l i:=by
 simp only[gt,List.getD_eq_getElem?_getD,List.getElem?_take];rw[if_pos h]
theorem Eh {l:List Int}{i:Nat}(h:l.length<=i):gt l i=0:=by
 simp only[gt,List.getD_eq_getElem?_getD];rw[List.getElem?_eq_none h];rfl
theorem q7 {o e:List Int}{i:Nat} : mQ o i e=true↔dL o e/\nY i e:=by
 unfold mQ;rw[Bool.and_eq_true,uD,xD];constructor
 ·rintro ⟨h1,h2⟩
  refine⟨h1,λk hk => ?_⟩;by_cases a:k<e.length
  ·have:=h2 k (by simp;omega)
   rwa [zB (by omega)] at this
  ·exact Eh (by omega)
 ·rintro ⟨h1,h2⟩
  refine⟨h1,λk hk => ?_⟩;simp at hk
  rw[zB (by omega)];exact h2 k (by omega)
theorem zC {o e:List Int}{i:Nat} : nE o e i=true↔dL o e/\nY i e:=by
 rw[<-q7];unfold nE mQ nD;rw[Bool.and_eq_true,Bool.and_eq_true,Bool.and_eq_true,rR,rR,xD];constructor
 ·rintro ⟨h1,b⟩
  refine⟨⟨h1,λk hk=>((Bool.and_eq_true _ _).mp (b k hk)).1⟩,λk hk => ?_⟩;rw[List.length_take] at hk;rw[zB (by omega)];have:=((Bool.and_eq_true _ _).mp (b k (by omega))).2;simp at this
  rcases this with h|h
  ·omega
  ·exact h
 ·rintro ⟨⟨h1,b⟩,h3⟩
  refine⟨h1,λk hk => ?_⟩;rw[Bool.and_eq_true];refine⟨b k hk,?_⟩;simp;rcases Nat.lt_or_ge i k with a|a
  ·exact .inl a
  ·have:=h3 k (by rw[List.length_take];omega)
   rw[zB (by omega)] at this;exact .inr this
set_option maxHeartbeats 400000 in
theorem xE (w:World) (p v:Value) (P:Pr) (e:List Int) (i:Nat) (S S':Nat->Prop) (m:fB S w p P) (j:Ints S' w v e) (q:∀i,i<P.orders.length->0<=gt P.orders i/\gt P.orders i<=7)
  (A:i<P.orders.length) (B:P.orders.length<=6) :
  Calls Tryz.prog 114 #[p,.int .i64 i,v] w λk w'=>k=.returned (.bool (mQ P.orders i e))/\w=w':=by
 obtain⟨a,cap,rfl,hcap,_⟩:=j.shape;cases hx:nD P.orders e with
 | false=>
  have l:=Lib.hid hx;clear hx;go_enter Tryz.func114,Tryz.ntmps114;have u:=l.out;go_wp2_with (go_at_call 125;refine(BH _ _ _ P e S S' m j q).mono ?_;rintro k r ⟨rfl,rfl⟩)
  go_ret;exact⟨kP (by rw[mQ,l.out,Bool.false_and]),rfl⟩
 | true=>
  have b:=uD.1 hx;have y:P.orders.length<=e.length:=by rw[b.1];omega
  have C:=λw=>Kn w a e.length cap ((i:Int)+1) (by omega) (by omega);have z:=Ko j (i+1) (by omega);have l:=Lib.hid hx;clear b;go_enter Tryz.func114,Tryz.ntmps114
  go_wp2_with (first
   | (go_at_call 125;refine(BH _ _ _ P e S S' m j q).mono ?_;rintro k r ⟨rfl,rfl⟩)
   | (go_at_call 187;refine(BF _ _ _ S' z).mono ?_;rintro k r ⟨rfl,rfl⟩))
  go_ret;exact⟨kP (by rw[mQ,l.out,Bool.true_and]),rfl⟩
theorem rV {n:Int} : kQ n=true↔n=2\/n=3\/n=5\/n=7:=by simp[kQ]
theorem uE {l:List Int}(k:Nat) (h:∀i,i<k->1<=gt l i):1<=gI l k:=by
 induction k with
 | zero=>simp[gI]
 | succ k a=>
  have h1:=a (λi e=>h i (by omega));have b:=h k (by omega);have:=Int.mul_le_mul h1 b (by omega) (by omega);simp only[gI];omega
theorem BI {l:List Int}(k n:Nat) (a:k<=n) (h:∀i,i<n->1<=gt l i):gI l k<=gI l n:=by
 induction n with
 | zero=>have:k=0:=(by omega);rw[this];exact Int.le_refl _
 | succ n b=>
  rcases Nat.lt_or_ge n k with h1|h1
  ·have:k=n+1:=by omega
   rw[this];exact Int.le_refl _
  ·have m:=b h1 (λi e=>h i (by omega))
   have j:=h n (by omega);have p:=uE (l:=l) n (λi e=>h i (by omega));have q:gI l n*1<=gI l n*gt l n:=Int.mul_le_mul_of_nonneg_left j (by omega);simp only[gI];omega
open Classical in
noncomputable def jX (P:Pr):Bool:=decide (Valid P)
theorem BJ {P:Pr}(h:Valid P):jX P=true:=by simp[jX,h]
theorem mE {P:Pr}(h:¬Valid P):jX P=false:=by simp[jX,h]
theorem BK {P:Pr}(h:jX P=true):Valid P:=by simpa [jX] using h
theorem Valid.pos {P:Pr}(h:Valid P) (i:Nat) (a:i<P.orders.length):1<=gt P.orders i:=by have:=h.gh i a;omega
theorem Valid.pre {P:Pr}(h:Valid P) (k:Nat) (hk:k<=P.orders.length):gI P.orders k<=729:=
 Int.le_trans (BI k _ hk (λi a=>h.pos i a)) h.mO
set_option maxHeartbeats 2000000 in
theorem Kp (w:World) (pv:Value) (P:Pr) (S:Nat->Prop) (hp:gy S w pv P) :
  Calls Tryz.prog 53 #[pv] w (fq w λ_ v=>v=.bool (jX P)):=by
 obtain⟨vo,vp,vc,rfl,h3⟩:=hp;have e:=fB.box h3 28;have l:Ext w (w.alloc (.cells #[vo,vp,vc] 28)):=World.grownBy_alloc _ _ _;go_enter Tryz.func53,Tryz.ntmps53;obtain⟨ao,iA,gJ,hoi⟩:=e.iO;obtain⟨ap,kS,oU,hpi⟩:=e.rP;obtain⟨ac,ji,hcc,mF⟩:=e.qW;by_cases E:P.orders.length<=6;rotate_left
 ·have M:decide ((6:Int)<(P.orders.length:Int))=true:=by simp;omega
  go_wp2;go_ret;exact jt l (mE (λh=>E h.n6)).symm
 have X:decide ((6:Int)<(P.orders.length:Int))=false:=by simp;omega
 by_cases p:P.eH.length=P.orders.length;rotate_left
 ·have M:((P.eH.length:Int) != (P.orders.length:Int))=true:=by simp;omega
  have V:=Lib.hid p;clear p;go_wp2;go_ret;exact jt l (mE (λh=>V.out h.pl)).symm
 have Y:((P.eH.length:Int) != (P.orders.length:Int))=false:=by simp[p]
 by_cases r:P.conj.length=P.orders.length;rotate_left
 ·have M:((P.conj.length:Int) != (P.orders.length:Int))=true:=by simp;omega
  have V:=Lib.hid p;clear p;have Z:=Lib.hid r;clear r;go_wp2;go_ret;exact jt l (mE (λh=>Z.out h.cl)).symm
 have aa:((P.conj.length:Int) != (P.orders.length:Int))=false:=by simp[r]
 have al:P.eH.length<=P.orders.length/\P.orders.length<=P.eH.length:=by omega
 have am:P.conj.length<=P.orders.length/\P.orders.length<=P.conj.length:=by omega
 have V:=Lib.hid p;clear p;have Z:=Lib.hid r;clear r;go_wp2;clear X Y aa;generalize ab:w.alloc (.cells #[vo,vp,vc] 28)=w0 at *;clear ab;go_loop [4,32] (λpr i=>∃k:Nat,i=.int .i64 k/\pr=.int .i64 (gI P.orders k)/\k<=P.orders.length/\gI P.orders k<=729/\∀i,i<k->kQ (gt P.orders i)=true) (λ_ i=>P.orders.length-(intOf i).toNat)
 case atStart=>exact⟨0,rfl,rfl,by omega,by simp[gI],λi m=>by omega⟩
 case round =>
  obtain⟨k,rfl,rfl,hk,hle,B⟩:=hrel;have ad:1<=gI P.orders k:=uE k (λi m=>by have:=rV.1 (B i m);omega);have HZ:=Lib.hid B;clear B;by_cases a:k<P.orders.length
  ·obtain ⟨b,off,rfl,_,_,hc⟩:=Ints.at hoi k a
   cases hx:kQ (gt P.orders k) with
   | false=>
    have N:=Lib.hid hx;go_wp2_with (go_at_call 110;refine(BG _ _).mono ?_;rintro F G ⟨rfl,rfl⟩)
    go_ret;exact jt l (mE (λh=>by have:=rV.2 (h.ord k a);rw[N.out] at this;cases this)).symm
   | true=>
    have af:=rV.1 hx;have H:2<=gt P.orders k/\gt P.orders k<=7:=by omega
    have an:2<=gt P.orders k:=H.1;have aq:gt P.orders k<=7:=H.2;have aw:0<=gI P.orders k*gt P.orders k:=Int.mul_nonneg (by omega) (by omega)
    have ax:gI P.orders k*gt P.orders k<=5103:=by
     have h1:gI P.orders k*gt P.orders k<=729*gt P.orders k:=Int.mul_le_mul_of_nonneg_right hle (by omega);omega
    have u:gI P.orders (k+1)=gI P.orders k*gt P.orders k:=rfl;have I:=Lib.hid u;clear u af H;by_cases O:gI P.orders k*gt P.orders k<=729
    ·go_wp2_with (go_at_call 110;refine(BG _ _).mono ?_;rintro F G ⟨rfl,rfl⟩)
     go_round
     case rel=>exact⟨k+1,by go_num,by rw[I.out],by omega,by rw[I.out];exact O,λi m=>by
      rcases Nat.lt_or_ge i k with h1|h1
      ·exact HZ.out i h1
      ·have:i=k:=by omega
       rw[this];exact hx⟩
     case measure=>simp[intOf];omega
    ·go_wp2_with (go_at_call 110;refine(BG _ _).mono ?_;rintro F G ⟨rfl,rfl⟩)
     go_ret;exact jt l (mE (λh=>by have:=h.pre (k+1) a;rw[I.out] at this;omega)).symm
  ·have J : k=P.orders.length:=by omega
   subst J;have D:∀i,i<P.orders.length->0<=gt P.orders i/\gt P.orders i<=7:=λi m=>by have:=rV.1 (HZ.out i m);omega
   have Q:=Lib.hid D;clear D;have ag:=Lib.hid hle;clear hle ad;go_wp2;clear hcc oU gJ;go_loop [50] (λi=>∃k:Nat,i=.int .i64 k/\k<=P.orders.length/\∀i,i<k->mQ P.orders i (gt P.eH i)=true/\(gt P.conj i).length=P.orders.length-1-i/\∀j,j<P.orders.length-1-i->mQ P.orders i (gt (gt P.conj i) j)=true) (λi=>P.orders.length-(intOf i).toNat)
   case atStart=>exact⟨0,rfl,by omega,λi m=>by omega⟩
   case round =>
    obtain⟨k,rfl,hk,B⟩:=hrel;have C:=Lib.hid B;clear B;by_cases a:k<P.orders.length
    ·obtain ⟨ap,kS,oU,hpi⟩:=e.rP
     obtain⟨ac,ji,hcc,mF⟩:=e.qW;obtain⟨b1,o1,a2,jx,rfl,_,_,hc2,K⟩:=dK.at hpi k (by omega);obtain⟨b3,o3,a4,Kq,rfl,_,_,rW,hi4⟩:=fU.at mF k (by omega);have y:mQ P.orders k (gt P.eH k)=false->jX P=false:=λhx=>mE (λh=>by have:=q7.2 (h.pv k a);rw[hx] at this;cases this);have z:¬(gt P.conj k).length=P.orders.length-1-k->jX P=false:=λhx=>mE (λh=>hx (h.cv k a).1);have A:∀j,j<P.orders.length-1-k->mQ P.orders k (gt (gt P.conj k) j)=false->jX P=false:=λj W hx=>mE (λh=>by have:=q7.2 ((h.cv k a).2 j W);rw[hx] at this;cases this);have ah:=Lib.hid y;have ai:=Lib.hid z;have aj:=Lib.hid A;clear y z A;cases hx:mQ P.orders k (gt P.eH k) with
     | false=>
      have N:=Lib.hid hx;go_wp2_with (go_at_call 114;refine(xE _ _ _ P _ k Any Any e K Q.out a E).mono ?_;rintro F G ⟨rfl,rfl⟩)
      go_ret;exact jt l (ah.out N.out).symm
     | true =>
      have N:=Lib.hid hx;by_cases q:(gt P.conj k).length=P.orders.length-1-k
      ·have M:(((gt P.conj k).length:Int) != (P.orders.length:Int)-1-k)=false:=by simp;omega
       have ay:(gt P.conj k).length<=P.orders.length-1-k/\P.orders.length-1-k<=(gt P.conj k).length:=by omega
       have L:=Lib.hid q;clear q;go_wp2_with (go_at_call 114;refine(xE _ _ _ P _ k Any Any e K Q.out a E).mono ?_;rintro F G ⟨rfl,rfl⟩)
       clear M hx oU hc2;go_loop [80] (λi=>∃j:Nat,i=.int .i64 j/\j<=(gt P.conj k).length/\∀i,i<j->mQ P.orders k (gt (gt P.conj k) i)=true) (λi=>(gt P.conj k).length-(intOf i).toNat)
       case atStart=>exact⟨0,rfl,by omega,λi m=>by omega⟩
       case round=>
        obtain⟨j,rfl,W,B⟩:=hrel;have R:=Lib.hid B;clear B;by_cases T:j<(gt P.conj k).length
        ·obtain ⟨b5,o5,a6,Ud,rfl,_,_,Ei,U⟩:=dK.at hi4 j T
         cases hy:mQ P.orders k (gt (gt P.conj k) j) with
         | false=>
          have HY:=Lib.hid hy;go_wp2_with (go_at_call 114;refine(xE _ _ _ P _ k Any Any e U Q.out a E).mono ?_;rintro F G ⟨rfl,rfl⟩)
          go_ret;exact jt l (aj.out j (by omega) HY.out).symm
         | true=>
          have HY:=Lib.hid hy;go_wp2_with (go_at_call 114;refine(xE _ _ _ P _ k Any Any e U Q.out a E).mono ?_;rintro F G ⟨rfl,rfl⟩)
          go_round
          case rel=>exact⟨j+1,by go_num,by omega,λi m=>by
           rcases Nat.lt_or_ge i j with h1|h1
           ·exact R.out i h1
           ·have:i=j:=by omega
            rw[this];exact HY.out⟩
          case measure=>simp[intOf];omega
        ·have az:j=(gt P.conj k).length:=by omega
         go_wp2;go_round
         case rel=>exact⟨k+1,by go_num,by omega,λi m=>by
          rcases Nat.lt_or_ge i k with h1|h1
          ·exact C.out i h1
          ·have:i=k:=by omega
           rw[this];exact⟨N.out,L.out,λi m=>R.out i (by omega)⟩⟩
         case measure=>simp[intOf];omega
      ·have M:(((gt P.conj k).length:Int) != (P.orders.length:Int)-1-k)=true:=by simp;omega
       have L:=Lib.hid q;clear q;go_wp2_with (go_at_call 114;refine(xE _ _ _ P _ k Any Any e K Q.out a E).mono ?_;rintro F G ⟨rfl,rfl⟩)
       go_ret;exact jt l (ai.out L.out).symm
    ·have J:k=P.orders.length:=by omega
     subst J;go_wp2;go_ret;refine jt l (BJ ?_).symm
     exact ⟨ag.out,E,V.out,Z.out,λi m=>rV.1 (HZ.out i m),λi m=>q7.1 (C.out i m).1,
      λi m=>⟨(C.out i m).2.1,λj W=>q7.1 ((C.out i m).2.2 j W)⟩⟩
def jl (l:List Int):Nat->Int
 | 0=>1
 | k+1=>if jl l k<=729 then jl l k*gt l k else jl l k
theorem zD {l:List Int}(n:Nat) (h:∀i,i<n->1<=gt l i):(jl l n<=729↔gI l n<=729)/\(jl l n<=729->jl l n=gI l n):=by
 induction n with
 | zero=>simp[jl,gI]
 | succ n b=>
  obtain⟨h1,e⟩:=b (λi m=>h i (by omega));simp only[jl];split
  ·rename_i a
   rw[e a];exact⟨Iff.rfl,λ_=>rfl⟩
  ·rename_i a
   have j:=BI (l:=l) n (n+1) (by omega) h;have k:¬gI l n<=729:=λh=>a (h1.2 h);exact⟨⟨λh=>absurd h a,λh=>absurd (Int.le_trans j h) k⟩,λh=>absurd h a⟩
theorem Kr {l:List Int}(n:Nat) (h:∀i,i<n->1<=gt l i/\gt l i<=7):1<=jl l n/\jl l n<=5103:=by
 induction n with
 | zero=>simp[jl]
 | succ n a=>
  have h1:=a (λi e=>h i (by omega));have b:=h n (by omega);simp only[jl];split
  ·have j:jl l n*gt l n<=729*gt l n:=Int.mul_le_mul_of_nonneg_right (by omega) (by omega)
   have k:=Int.mul_le_mul h1.1 b.1 (by omega) (by omega);omega
  ·omega
set_option maxHeartbeats 400000 in
theorem uF (w:World) (v:Value) (l:List Int) (S:Nat->Prop) (u:Ints S w v l) (y:∀i,i<l.length->1<=gt l i/\gt l i<=7) :
  Calls Tryz.prog 118 #[v] w λe w'=>e=.returned (.int .i64 (jl l l.length))/\w=w':=by
 obtain⟨a,cap,rfl,_,_⟩:=u.shape;have z:=Lib.hid y;clear y;go_enter Tryz.func118,Tryz.ntmps118;go_wp2;go_loop [3,4] (λB i=>∃k:Nat,i=.int .i64 k/\B=.int .i64 (jl l k)/\k<=l.length) (λ_ i=>l.length-(intOf i).toNat)
 case atStart=>exact⟨0,rfl,rfl,by omega⟩
 case round=>
  obtain⟨k,rfl,rfl,hk⟩:=hrel;by_cases p:k<l.length
  ·obtain ⟨b,off,rfl,_,_,hc⟩:=Ints.at u k p
   have h1:=z.out k p;have A:=Kr (l:=l) k (λi F=>z.out i (by omega));have C:1<=jl l k:=A.1;have j:jl l (k+1)=if jl l k<=729 then jl l k*gt l k else jl l k:=rfl
   have q:=Lib.hid j;clear j A;by_cases m:jl l k<=729
   ·have D:0<=jl l k*gt l k:=Int.mul_nonneg (by omega) (by omega)
    have E:jl l k*gt l k<=5103:=by
     have h1:jl l k*gt l k<=729*gt l k:=Int.mul_le_mul_of_nonneg_right m (by omega);omega
    go_wp2;go_round
    case rel=>exact⟨k+1,by go_num,by rw[q.out,if_pos m],by omega⟩
    case measure=>simp[intOf];omega
   ·go_wp2
    go_round
    case rel=>exact⟨k+1,by go_num,by rw[q.out,if_neg m],by omega⟩
    case measure=>simp[intOf];omega
  ·have r:k=l.length:=by omega
   subst r;go_wp2;go_ret;exact⟨rfl,rfl⟩
def eW (P:Pr):Int:=gI P.orders P.orders.length
theorem Valid.kT {P:Pr}(h:Valid P):1<=eW P:=uE _ (λi a=>h.pos i a)
set_option maxHeartbeats 400000 in
theorem BL (w:World) (p:Value) (P:Pr) (S:Nat->Prop) (hP:Valid P) (m:fB S w p P) :
  Calls Tryz.prog 87 #[p] w λe w'=>e=.returned (.int .i64 (eW P))/\w=w':=by
 obtain⟨pb,po,rfl⟩:=m.shape;obtain⟨A,iA,gJ,hoi⟩:=m.iO;have r:=hP.n6;go_enter Tryz.func87,Tryz.ntmps87;go_wp2;go_loop [3,11] (λu i=>∃k:Nat,i=.int .i64 k/\u=.int .i64 (gI P.orders k)/\k<=P.orders.length) (λ_ i=>P.orders.length-(intOf i).toNat)
 case atStart=>exact⟨0,rfl,rfl,by omega⟩
 case round=>
  obtain⟨k,rfl,rfl,hk⟩:=hrel;by_cases a:k<P.orders.length
  ·obtain ⟨b,off,rfl,_,_,hc⟩:=Ints.at hoi k a
   have h1:=hP.pre (k+1) a;have q:=uE (l:=P.orders) (k+1) (λi B=>hP.pos i (by omega));have y:0<=gI P.orders k*gt P.orders k:=by simp only[gI] at q;omega
   have z:gI P.orders k*gt P.orders k<=729:=h1;clear q h1;go_wp2;go_round
   case rel=>exact⟨k+1,by go_num,rfl,by omega⟩
   case measure=>simp[intOf];omega
  ·have j:k=P.orders.length:=by omega
   subst j;go_wp2;go_ret;exact⟨rfl,rfl⟩
set_option maxHeartbeats 400000 in
theorem rX (w:World) (pv:Value) (P:Pr) (S:Nat->Prop) (hP:Valid P) (m:gy S w pv P) :
  Calls Tryz.prog 91 #[pv] w (fq w λ_ v=>v=.int .i64 (eW P)):=by
 obtain⟨vo,vp,vc,rfl,h3⟩:=m;have hB:=fB.box h3 28;obtain⟨y,iA,gJ,hoi⟩:=hB.iO;have p:=hP.n6;go_enter Tryz.func91,Tryz.ntmps91;go_wp2;go_loop [3,4] (λq i=>∃k:Nat,i=.int .i64 k/\q=.int .i64 (gI P.orders k)/\k<=P.orders.length) (λ_ i=>P.orders.length-(intOf i).toNat)
 case atStart=>exact⟨0,rfl,rfl,by omega⟩
 case round=>
  obtain⟨k,rfl,rfl,hk⟩:=hrel;by_cases a:k<P.orders.length
  ·obtain ⟨b,off,rfl,_,_,hc⟩:=Ints.at hoi k a
   have h1:=hP.pre (k+1) a;have j:=uE (l:=P.orders) (k+1) (λi z=>hP.pos i (by omega));have r:0<=gI P.orders k*gt P.orders k:=by simp only[gI] at j;omega
   have u:gI P.orders k*gt P.orders k<=729:=h1;clear j h1;go_wp2;go_round
   case rel=>exact⟨k+1,by go_num,rfl,by omega⟩
   case measure=>simp[intOf];omega
  ·have e:k=P.orders.length:=by omega
   subst e;go_wp2;go_ret;exact⟨_,rfl,World.grownBy_alloc _ _ _,rfl⟩
end Go.Proofs.YtoakmefajbbggaaGreat
namespace Go.Proofs.YtoakmefajbbggaaGreat
theorem Ej {P:Pr}(hP:Valid P) (f j:Nat) (z:P.orders.length<=f+1+j)
  (p:∀(e:List Int) (i:Nat),dL P.orders e->i<P.orders.length->P.orders.length<=f+i->∀k,k<i->gt (gR P f e i) k=gt e k)
  (c:List Int) (q:dL P.orders c) (r:nY j c) (e:List Int) (u:dL P.orders e):∀k,k<=j->gt (j6 (gR P f) e c) k=gt e k:=by
 have a:∀m,m<=P.orders.length->dL P.orders (nA (gR P f) c e m)/\∀k,k<=j->gt (nA (gR P f) c e m) k=gt e k:=by
  intro m;induction m with
  | zero=>intro _;exact⟨u,λk _=>rfl⟩
  | succ m b=>
   intro A;obtain⟨h1,h2⟩:=b (by omega);unfold nA;by_cases l:gt c m=0
   ·rw[l];exact⟨h1,h2⟩
   ·have w:¬m<=j:=λh=>l (r m h)
    refine jN (λy=>dL P.orders y/\∀k,k<=j->gt y k=gt e k) _ (λy hy=>⟨qY hP f y m hy.1 (by omega) (by omega),λk hk => ?_⟩) _ _ ⟨h1,h2⟩;rw[p y m hy.1 (by omega) (by omega) k (by omega)];exact hy.2 k hk
 intro k hk;exact(a c.length (by rw[q.1];omega)).2 k hk
theorem BM {P:Pr}(hP:Valid P) (f:Nat):∀(e:List Int) (j:Nat),dL P.orders e->j<P.orders.length->P.orders.length<=f+j ->
  (∀k,k<j->gt (gR P f e j) k=gt e k)/\gt (gR P f e j) j=if gt e j+1=gt P.orders j then 0 else gt e j+1:=by
 induction f with
 | zero=>intro e j _ q L;omega
 | succ f M=>
  intro e j B q L;have C:∀(e:List Int) (i:Nat),dL P.orders e->i<P.orders.length->P.orders.length<=f+i->∀k,k<i->gt (gR P f e i) k=gt e k:=λe i a b c k hk=>(M e i a b c).1 k hk;have T:=B.1;have w:j+1+(e.drop (j+1)).length<=e.length:=by simp;omega
  have H:=B.iJ j (e.drop (j+1)).length w;have hx:=B.2 j q;have U:=hP.gh j q;have N:=qX e j (e.drop (j+1)).length w;obtain⟨p,D⟩:∃p,p=(if gt e j+1=gt P.orders j then j6 (gR P f) (((iJ e j (e.drop (j+1)).length).set j (gt e j+1)).set j 0) (gt P.eH j) else (iJ e j (e.drop (j+1)).length).set j (gt e j+1)):=⟨_,rfl⟩
  have E:∀c,dL P.orders c->nY j c->∀x,dL P.orders x->dL P.orders (j6 (gR P f) x c):=λc r H x hx=>
   ux r (λe i B O Q=>qY hP f e i B O (by
    have:¬i<=j:=λh=>Q (H i h);omega)) hx
  have l:∀k,k<j->gt (iJ e j (e.drop (j+1)).length) k=gt e k:=λk hk=>by rw[td _ _ _ _ w,if_neg (by omega)]
  have I:dL P.orders p/\(∀k,k<j->gt p k=gt e k)/\gt p j=if gt e j+1=gt P.orders j then 0 else gt e j+1:=by
   rw[D];split
   ·rename_i r
    rw[List.set_set];have F:dL P.orders ((iJ e j (e.drop (j+1)).length).set j 0):=H.set j 0 ⟨by omega,λ_=>by omega⟩;have hk:=Ej hP f j (by omega) C _ (hP.pv j q).1 (hP.pv j q).2 _ F;refine⟨E _ (hP.pv j q).1 (hP.pv j q).2 _ F,λk z => ?_,?_⟩
    ·rw[hk k (by omega),iy _ _ _ _ (by omega)];exact l k z
    ·rw[hk j (Nat.le_refl _),iN _ _ _ (by omega)]
   ·rename_i r
    refine⟨H.set j _ ⟨by omega,λ_=>by omega⟩,λk z => ?_,?_⟩
    ·rw[iy _ _ _ _ (by omega)];exact l k z
    ·rw[iN _ _ _ (by omega)]
  have A:∀m,m<=(e.drop (j+1)).length->dL P.orders (mC (gR P f) (gt P.conj j) (e.drop (j+1)) p m)/\∀k,k<=j->gt (mC (gR P f) (gt P.conj j) (e.drop (j+1)) p m) k=gt p k:=by
   intro m;induction m with
   | zero=>intro _;exact⟨I.1,λk _=>rfl⟩
   | succ m J=>
    intro R;obtain⟨S,h4⟩:=J (by omega);have K:m<P.orders.length-1-j:=by simp at R;omega
    have r:=(hP.cv j q).2 m K;unfold mC;refine jN (λy=>dL P.orders y/\∀k,k<=j->gt y k=gt p k) _ (λy hy=>⟨E _ r.1 r.2 _ hy.1,λk hk => ?_⟩) _ _ ⟨S,h4⟩;rw[Ej hP f j (by omega) C _ r.1 r.2 _ hy.1 k hk];exact hy.2 k hk
  have u:=A _ (Nat.le_refl _);have G:gR P (f+1) e j=mC (gR P f) (gt P.conj j) (e.drop (j+1)) p (e.drop (j+1)).length:=by rw[D];rfl
  rw[G];exact⟨λk hk=>by rw[u.2 k (by omega)];exact I.2.1 k hk,by rw[u.2 j (Nat.le_refl _)];exact I.2.2⟩
def tg (P:Pr) (e:List Int) (j:Nat):List Int:=gR P P.orders.length e j
def tv (P:Pr) (e f:List Int):List Int:=j6 (tg P) e f
theorem rY {P:Pr}(hP:Valid P) (e:List Int) (j:Nat) (a:dL P.orders e) (b:j<P.orders.length):dL P.orders (tg P e j):=qY hP _ e j a b (by omega)
theorem rZ {P:Pr}(hP:Valid P) (e f:List Int) (a:dL P.orders e) (b:dL P.orders f):dL P.orders (tv P e f):=ux b (λe j a i _=>rY hP e j a i) a
theorem BN {α:Type}(f:α->α) (n k:Nat) (x:α):iter (n+k) f x=iter n f (iter k f x):=by
 induction n with
 | zero=>rw[Nat.zero_add];rfl
 | succ n a=>rw[Nat.succ_add];show f (iter (n+k) f x)=f (iter n f (iter k f x));rw[a]
theorem zF {α a:Type}(R:α->a->Prop) (f:α->α) (g:a->a) (h:∀x y,R x y->R (f x) (g y)) (n:Nat) (x:α) (y:a) (b:R x y):R (iter n f x) (iter n g y):=by
 induction n with
 | zero=>exact b
 | succ n e=>exact h _ _ e
theorem Ek {α:Type}(Q:α->Prop) (f g:α->α) (a:∀x,Q x->Q (f x)) (h:∀x,Q x->f x=g x) (n:Nat) (x:α) (hx:Q x):iter n f x=iter n g x:=by
 induction n with
 | zero=>rfl
 | succ n b=>
  show f (iter n f x)=g (iter n g x)
  rw[<-b];exact h _ (jN Q f a n x hx)
structure MonOn {α:Type}(S:α->Prop) (m:α->α->α) (e:α):Prop where
 cl:∀x y,S x->S y->S (m x y)
 one:S e
 ass:∀x y z,S x->S y->S z->m (m x y) z=m x (m y z)
 el:∀x,S x->m e x=x
 er:∀x,S x->m x e=x
def acc {α:Type}(g:α->Nat->α) (x:List Int) (i:Nat) (out:α):Nat->α
 | 0=>out
 | k+1=>iter (gt x (i+k)).toNat (λy=>g y (i+k)) (acc g x i out k)
theorem BO {α:Type}(g:α->Nat->α) (x:List Int) (i:Nat) (out:α) (k:Nat):acc g x i out (k+1)=acc g x (i+1) (iter (gt x i).toNat (λy=>g y i) out) k:=by
 induction k with
 | zero=>rfl
 | succ k a=>
  rw[acc,a];show _=iter (gt x (i+1+k)).toNat (λy=>g y (i+1+k)) _
  rw[show i+(k+1)=i+1+k by omega]
theorem zG {α:Type}(Q:α->Prop) (g:α->Nat->α) (x:List Int) (i:Nat) (out:α) (k:Nat) (l:Q out) (h:∀y j,Q y->i<=j->j<i+k->gt x j≠0->Q (g y j)):Q (acc g x i out k):=by
 induction k with
 | zero=>exact l
 | succ k m=>
  have h1:=m (λy j hy a b c=>h y j hy a (by omega) c);by_cases e:gt x (i+k)=0
  ·rw[acc,e];exact h1
  ·exact jN Q _ (λy hy=>h y (i+k) hy (by omega) (by omega) e) _ _ h1
theorem tr {α l:Type}(R:α->l->Prop) (g:α->Nat->α) (m:l->Nat->l) (x:List Int) (i:Nat) (out:α) (e:l) (k:Nat) (q:R out e) (h:∀y z j,R y z->i<=j->j<i+k->gt x j≠0->R (g y j) (m z j)) :
  R (acc g x i out k) (acc m x i e k):=by
 induction k with
 | zero=>exact q
 | succ k r=>
  have h1:=r (λy z j hy a b c=>h y z j hy a (by omega) c);by_cases p:gt x (i+k)=0
  ·rw[acc,acc,p];exact h1
  ·exact zF R _ _ (λy z hy=>h y z (i+k) hy (by omega) (by omega) p) _ _ _ h1
theorem BP {α:Type}(g:α->Nat->α) (x x':List Int) (i:Nat) (out:α) (k:Nat) (h:∀j,i<=j->j<i+k->gt x j=gt x' j):acc g x i out k=acc g x' i out k:=by
 induction k with
 | zero=>rfl
 | succ k e=>rw[acc,acc,e (λj a b=>h j a (by omega)),h (i+k) (by omega) (by omega)]
theorem q8 {α:Type}(g:α->Nat->α) (x:List Int) (i:Nat) (out:α) (k:Nat) (h:∀j,i<=j->j<i+k->gt x j=0):acc g x i out k=out:=by
 induction k with
 | zero=>rfl
 | succ k e=>rw[acc,e (λj a b=>h j a (by omega)),h (i+k) (by omega) (by omega)];rfl
theorem xF {α:Type}(g:α->Nat->α) (x:List Int) (i:Nat) (out:α) (a b:Nat):acc g x i out (a+b)=acc g x (i+a) (acc g x i out a) b:=by
 induction b with
 | zero=>rfl
 | succ b e=>
  show acc g x i out ((a+b)+1)=_
  rw[acc,acc,e,show i+(a+b)=i+a+b by omega]
theorem uG (at_:List Int->List Int->List Int) (a:List (List Int)) (i:Nat) (x out:List Int) (k:Nat) :
  jR at_ a i x out k=acc (λy j=>at_ y (gt a (j-i-1))) x (i+1) out k:=by
 induction k with
 | zero=>rfl
 | succ k b=>rw[jR,acc,b];simp only[show i+1+k-i-1=k by omega]
theorem BQ (g:List Int->Nat->List Int) (f e:List Int) (k:Nat):nA g f e k=acc g f 0 e k:=by
 induction k with
 | zero=>rfl
 | succ k a=>rw[nA,acc,a,Nat.zero_add]
theorem Ks (g:List Int->Nat->List Int) (a:List (List Int)) (e:List Int) (j:Nat) (out:List Int) (k:Nat) :
  mC g a (e.drop (j+1)) out k=acc (λy l=>j6 g y (gt a (l-j-1))) e (j+1) out k:=by
 induction k with
 | zero=>rfl
 | succ k b=>
  rw[mC,acc,b];have:gt (e.drop (j+1)) k=gt e (j+1+k):=by simp[gt]
  simp only[this,show j+1+k-j-1=k by omega]
section
variable {α:Type}{S:α->Prop}{m:α->α->α}{e:α}
theorem MonOn.pW (M:MonOn S m e) {h y:α}(a:S h) (hy:S y) (k:Nat):S (iter k (λy=>m y h) y):=jN S _ (λy hy=>M.cl y h hy a) k y hy
theorem MonOn.zH (M:MonOn S m e) {h y:α}(a:S h) (hy:S y) (k:Nat):iter k (λy=>m y h) y=m y (iter k (λy=>m y h) e):=by
 induction k with
 | zero=>exact(M.er y hy).symm
 | succ k b=>
  show m (iter k (λy=>m y h) y) h=m y (m (iter k (λy=>m y h) e) h)
  rw[b,M.ass y _ h hy (M.pW a M.one k) a]
theorem MonOn.pow_add (M:MonOn S m e) {h:α}(i:S h) (a b:Nat):iter (a+b) (λy=>m y h) e=m (iter a (λy=>m y h) e) (iter b (λy=>m y h) e):=by
 rw[Nat.add_comm,BN,M.zH i (M.pW i M.one a)]
def fR (m:α->α->α) (h:Nat->α) (x:List Int) (i:Nat) (out:α) (k:Nat):α:=acc (λy j=>m y (h j)) x i out k
theorem r6 (M:MonOn S m e) {h:Nat->α}{x:List Int}{i:Nat}{out:α}{k:Nat}(l:S out) (p:∀j,i<=j->j<i+k->S (h j)):S (fR m h x i out k):=
 zG S _ x i out k l (λy j hy a b _=>M.cl y _ hy (p j a b))
theorem zI (M:MonOn S m e) {h:Nat->α}{x:List Int}{i:Nat}{out:α}{k:Nat}(p:S out) (q:∀j,i<=j->j<i+k->S (h j)):fR m h x i out k=m out (fR m h x i e k):=by
 induction k with
 | zero=>exact(M.er out p).symm
 | succ k r=>
  have l:∀j,i<=j->j<i+k->S (h j):=λj a b=>q j a (by omega);have h1:=r l;unfold fR at h1 ⊢;rw[acc,acc,h1];have c1:S (fR m h x i e k):=r6 M M.one l;have hk:=q (i+k) (by omega) (by omega);unfold fR at c1;rw[M.zH hk (M.cl _ _ p c1),M.zH hk c1,M.ass _ _ _ p c1 (M.pW hk M.one _)]
theorem Em (M:MonOn S m e) {h:Nat->α}{x:List Int}{i:Nat}{k:Nat}(l:∀j,i<=j->j<i+(k+1)->S (h j)) :
  fR m h x i e (k+1)=m (iter (gt x i).toNat (λy=>m y (h i)) e) (fR m h x (i+1) e k):=by
 have h1:fR m h x i e (k+1)=fR m h x (i+1) (iter (gt x i).toNat (λy=>m y (h i)) e) k:=BO _ x i e k;rw[h1];exact zI M (M.pW (l i (by omega) (by omega)) M.one _) (λj a b=>l j (by omega) (by omega))
structure Holds (P:Pr) (S:α->Prop) (m:α->α->α) (e:α) (h:Nat->α) (i:Nat):Prop where
 mem:∀j,i<=j->j<P.orders.length->S (h j)
 pw:∀j,i<=j->j<P.orders.length->iter (gt P.orders j).toNat (λy=>m y (h j)) e=fR m h (gt P.eH j) (j+1) e (P.orders.length-(j+1))
 cj:∀j k,i<=j->j<k->k<P.orders.length->m (h k) (h j)=m (h j) (fR m h (gt (gt P.conj j) (k-j-1)) (j+1) e (P.orders.length-(j+1)))
theorem Holds.up {P:Pr}{h:Nat->α}{i l:Nat}(H:Holds P S m e h i) (p:i<=l):Holds P S m e h l:=
 ⟨λj a b=>H.mem j (by omega) b,λj a b=>H.pw j (by omega) b,λj k a b c=>H.cj j k (by omega) b c⟩
theorem Kt {P:Pr}(hP:Valid P) (M:MonOn S m e) {h:Nat->α}{i f:Nat}(I:i+(f+1)=P.orders.length) (H:Holds P S m e h i)
  (D:∀A B,dL P.orders A->dL P.orders B->fR m h (fE P f (i+1) A B) (i+1) e f=m (fR m h A (i+1) e f) (fR m h B (i+1) e f)) (x:List Int) :
  m (fR m h x (i+1) e f) (h i)=m (h i) (fR m h (gF P f i x) (i+1) e f):=by
 have l:∀j,i<=j->j<P.orders.length->S (h j):=H.mem;have q:∀y,S (fR m h y (i+1) e f):=λy=>r6 M M.one (λj a b=>l j (by omega) (by omega));unfold gF;rw[uG];have k:=l i (by omega) (by omega)
 have E:(λ(y:α) (z:List Int)=>S y/\dL P.orders z/\m y (h i)=m (h i) (fR m h z (i+1) e f)) (fR m h x (i+1) e f)
   (acc (λy j=>fE P f (i+1) y (gt (gt P.conj i) (j-i-1))) x (i+1) (zeros P.orders.length) f):=by
  unfold fR;refine tr (λ(y:α) (z:List Int)=>S y/\dL P.orders z/\m y (h i)=m (h i) (fR m h z (i+1) e f)) _ _ x (i+1) _ _ f ⟨M.one,lV hP,?_⟩ ?_
  ·have F:fR m h (zeros P.orders.length) (i+1) e f=e:=q8 _ _ _ _ _ (λj _ _=>jw _ _)
   rw[F,M.el _ k,M.er _ k]
  ·rintro y z j ⟨h1,r,h3⟩ a b _
   have u:=(hP.cv i (by omega)).2 (j-i-1) (by omega);have w:=l j (by omega) (by omega);refine⟨M.cl _ _ h1 w,jy hP f _ _ _ (by omega) r u.1,?_⟩;have C:=D z _ r u.1;have p:=H.cj i j (by omega) (by omega) (by omega);have G:P.orders.length-(i+1)=f:=by omega
   rw[G] at p;have c1:=q z;have c2:=q (gt (gt P.conj i) (j-i-1));unfold fR at h3 C p c1 c2 ⊢;rw[C,M.ass _ _ _ h1 w k,p,<-M.ass _ _ _ h1 k c2,h3,M.ass _ _ _ k c1 c2]
 exact E.2.2
theorem Ku {P:Pr}(hP:Valid P) (M:MonOn S m e) {h:Nat->α}(f:Nat):∀(i:Nat),i+f=P.orders.length->Holds P S m e h i->∀A B,dL P.orders A->dL P.orders B ->
  fR m h (fE P f i A B) i e f=m (fR m h A i e f) (fR m h B i e f):=by
 induction f with
 | zero=>intro i _ _ A B _ _;exact(M.el e M.one).symm
 | succ f Q=>
  intro i J H A B K hB;have D:=Q (i+1) (by omega) (H.up (by omega));have E:∀j,i<=j->j<P.orders.length->S (h j):=H.mem;have p:∀y,S (fR m h y (i+1) e f):=λy=>r6 M M.one (λj a b=>E j (by omega) (by omega));have r:=E i (by omega) (by omega);have w:∀k,S (iter k (λy=>m y (h i)) e):=λk=>M.pW r M.one k;have F:=Kt hP M J H D
  have q:∀(y:List Int) (c:Int),fR m h (y.set i c) (i+1) e f=fR m h y (i+1) e f:=λy c=>
   BP _ _ _ _ _ _ (λj a _=>iy _ _ _ _ (by omega))
  have z:∀y,fR m h y i e (f+1)=m (iter (gt y i).toNat (λy=>m y (h i)) e) (fR m h y (i+1) e f):=λy=>Em M (λj a b=>E j a (by omega));have X:=hP.gh i (by omega);have R:=K.2 i (by omega);have T:=hB.2 i (by omega);-- the left factor drawn through
  have C:∀b:Nat,dL P.orders (iter b (λl=>jR (fE P f (i+1)) (gt P.conj i) i l (zeros P.orders.length) f) (A.set i 0)) /\
    m (fR m h A (i+1) e f) (iter b (λy=>m y (h i)) e)=m (iter b (λy=>m y (h i)) e) (fR m h (iter b (λl=>jR (fE P f (i+1)) (gt P.conj i) i l (zeros P.orders.length) f) (A.set i 0)) (i+1) e f):=by
   intro b;induction b with
   | zero=>
    refine⟨K.set i 0 ⟨by omega,λ_=>by omega⟩,?_⟩;show m _ e=m e (fR m h (A.set i 0) (i+1) e f)
    rw[q,M.er _ (p A),M.el _ (p A)]
   | succ b G=>
    obtain⟨v1,e1⟩:=G
    have U:dL P.orders (jR (fE P f (i+1)) (gt P.conj i) i (iter b (λl=>jR (fE P f (i+1)) (gt P.conj i) i l (zeros P.orders.length) f) (A.set i 0)) (zeros P.orders.length) f):=
     tq hP f i J (jy hP f) _ _ (lV hP) f (Nat.le_refl _)
    refine⟨U,?_⟩;have V:=F (iter b (λl=>jR (fE P f (i+1)) (gt P.conj i) i l (zeros P.orders.length) f) (A.set i 0));show m _ (m (iter b (λy=>m y (h i)) e) (h i))=m (m (iter b (λy=>m y (h i)) e) (h i)) (fR m h (gF P f i _) (i+1) e f)
    rw[<-M.ass _ _ _ (p A) (w b) r,e1,M.ass _ _ _ (w b) (p _) r,V,<-M.ass _ _ _ (w b) r (p _)]
  obtain⟨L,el⟩:=C (gt B i).toNat;have N:dL P.orders (B.set i 0):=hB.set i 0 ⟨by omega,λ_=>by omega⟩;have er:=D _ _ L N;rw[q B 0] at er;have I:=jy hP f (i+1) _ _ (by omega) L N;rw[z A,z B];-- both sides to one form
  have key:m (m (iter (gt A i).toNat (λy=>m y (h i)) e) (fR m h A (i+1) e f)) (m (iter (gt B i).toNat (λy=>m y (h i)) e) (fR m h B (i+1) e f)) =
    m (iter ((gt A i).toNat+(gt B i).toNat) (λy=>m y (h i)) e) (fR m h (fE P f (i+1) (iter (gt B i).toNat (λl=>jR (fE P f (i+1)) (gt P.conj i) i l (zeros P.orders.length) f) (A.set i 0)) (B.set i 0)) (i+1) e f):=by
   rw[er,M.pow_add r,M.ass _ _ _ (w _) (p _) (M.cl _ _ (w _) (p _)),<-M.ass _ _ _ (p A) (w _) (p _),el,M.ass _ _ _ (w _) (p _) (p _),<-M.ass _ _ _ (w _) (w _) (M.cl _ _ (p _) (p _))]
  rw[key,z];simp only[fE];by_cases O:gt P.orders i<=gt A i+gt B i
  ·rw [if_pos O]
   have vp:=(hP.pv i (by omega)).1;have W:=jy hP f (i+1) _ _ (by omega) vp I;rw[q,iN _ _ _ (by rw[W.1];omega),D _ _ vp I];have u:(gt A i).toNat+(gt B i).toNat=(gt A i+gt B i-gt P.orders i).toNat+(gt P.orders i).toNat:=by omega
   rw[u,M.pow_add r,H.pw i (by omega) (by omega),show P.orders.length-(i+1)=f by omega,M.ass _ _ _ (w _) (p _) (p _)]
  ·rw [if_neg O,q,iN _ _ _ (by rw[I.1];omega)]
   have u:(gt A i).toNat+(gt B i).toNat=(gt A i+gt B i).toNat:=by omega
   rw[u]
theorem En (M:MonOn S m e) {h:Nat->α}{y:List Int}{i j n:Nat}(k:i<=j) (q:j<n) (p:∀l,i<=l->l<n->S (h l)) :
  fR m h y i e (n-i)=m (m (fR m h y i e (j-i)) (iter (gt y j).toNat (λy=>m y (h j)) e)) (fR m h y (j+1) e (n-(j+1))):=by
 have h1:fR m h y i e (n-i)=fR m h y (j+1) (iter (gt y j).toNat (λy=>m y (h j)) (fR m h y i e (j-i))) (n-(j+1)):=by
  unfold fR;rw[show n-i=(j-i)+((n-(j+1))+1) by omega,xF,BO,show i+(j-i)=j by omega]
 have c1:S (fR m h y i e (j-i)):=r6 M M.one (λl a b=>p l a (by omega));rw[h1,zI M (M.pW (p j k q) c1 _) (λl a b=>p l (by omega) (by omega)),M.zH (p j k q) c1]
theorem Kv {P:Pr}(hP:Valid P) (M:MonOn S m e) {h:Nat->α}{i:Nat}(H:Holds P S m e h i) (f:Nat):∀(E:List Int) (j:Nat),dL P.orders E->i<=j->j<P.orders.length->P.orders.length<=f+j ->
  fR m h (gR P f E j) i e (P.orders.length-i)=m (fR m h E i e (P.orders.length-i)) (h j):=by
 have w:∀j,i<=j->j<P.orders.length->S (h j):=H.mem;have X:∀y,S (fR m h y i e (P.orders.length-i)):=λy=>r6 M M.one (λj a b=>w j a (by omega));induction f with
 | zero=>intro E j _ _ q hf;omega
 | succ f ih=>
  intro E j T r q hf;have A:=w j r q;have hT:∀y,S (fR m h y (j+1) e (P.orders.length-(j+1))):=λy=>r6 M M.one (λl a b=>w l (by omega) (by omega));have p:∀y,S (fR m h y i e (j-i)):=λy=>r6 M M.one (λl a b=>w l a (by omega));have U:∀k,S (iter k (λy=>m y (h j)) e):=λk=>M.pW A M.one k
  have I:∀c,dL P.orders c->nY j c->∀x,dL P.orders x->dL P.orders (j6 (gR P f) x c):=λc u F x hx=>
   ux u (λe i he hi h0=>qY hP f e i he hi (by
    have:¬i<=j:=λh=>h0 (F i h);omega)) hx
  have J:∀c,dL P.orders c->nY j c->∀x,dL P.orders x ->
    fR m h (j6 (gR P f) x c) i e (P.orders.length-i)=m (fR m h x i e (P.orders.length-i)) (fR m h c (j+1) e (P.orders.length-(j+1))):=by
   intro c u F x hx;unfold j6
   rw [BQ,u.1,show P.orders.length=(j+1)+(P.orders.length-(j+1)) by omega,xF,q8 (gR P f) c 0 x (j+1) (λl _ b=>F l (by omega)),show 0+(j+1)=j+1 by omega,
    show(j+1)+(P.orders.length-(j+1))=P.orders.length by omega]
   have V:=tr (λ(y:α) (z:List Int)=>S y/\dL P.orders z/\fR m h z i e (P.orders.length-i)=y) (λy l=>m y (h l)) (gR P f) c (j+1) (fR m h x i e (P.orders.length-i)) x (P.orders.length-(j+1))
    ⟨X x,hx,rfl⟩ (by
     rintro y z l ⟨h1,K,G⟩ a b _;refine⟨M.cl _ _ h1 (w l (by omega) (by omega)),qY hP f z l K (by omega) (by omega),?_⟩;rw[ih z l K (by omega) (by omega) (by omega),G])
   rw[V.2.2];exact zI M (X x) (λl a b=>w l (by omega) (by omega))
  have hl:=T.1;have B:j+1+(E.drop (j+1)).length<=E.length:=by simp;omega
  have F:=T.iJ j (E.drop (j+1)).length B;have hx:=T.2 j q;have ho:=hP.gh j q;have ag:=qX E j (E.drop (j+1)).length B
  have L:∀c:Int,fR m h ((iJ E j (E.drop (j+1)).length).set j c) i e (P.orders.length-i)=m (fR m h E i e (j-i)) (iter c.toNat (λy=>m y (h j)) e):=by
   intro c;rw[En M r q w,iN _ _ _ (by omega)]
   have e1:fR m h ((iJ E j (E.drop (j+1)).length).set j c) i e (j-i)=fR m h E i e (j-i):=
    BP _ _ _ _ _ _ (λl a b=>by rw[iy _ _ _ _ (by omega),td _ _ _ _ B,if_neg (by omega)])
   have C:fR m h ((iJ E j (E.drop (j+1)).length).set j c) (j+1) e (P.orders.length-(j+1))=e:=
    q8 _ _ _ _ _ (λl a b=>by
     rw[iy _ _ _ _ (by omega),td _ _ _ _ B,if_pos ⟨by omega,by simp;omega⟩])
   rw[e1,C,M.er _ (M.cl _ _ (p E) (U _))]
  obtain⟨C,N⟩:∃C,C=(if gt E j+1=gt P.orders j then j6 (gR P f) (((iJ E j (E.drop (j+1)).length).set j (gt E j+1)).set j 0) (gt P.eH j) else (iJ E j (E.drop (j+1)).length).set j (gt E j+1)):=⟨_,rfl⟩
  have K:dL P.orders C/\fR m h C i e (P.orders.length-i)=m (m (fR m h E i e (j-i)) (iter (gt E j).toNat (λy=>m y (h j)) e)) (h j):=by
   have Y:m (fR m h E i e (j-i)) (iter (gt E j+1).toNat (λy=>m y (h j)) e)=m (m (fR m h E i e (j-i)) (iter (gt E j).toNat (λy=>m y (h j)) e)) (h j):=by
    rw[show(gt E j+1).toNat=(gt E j).toNat+1 by omega];exact(M.ass _ _ _ (p E) (U _) A).symm
   rw[N];split
   ·rename_i u
    rw[List.set_set];have O:dL P.orders ((iJ E j (E.drop (j+1)).length).set j 0):=F.set j 0 ⟨by omega,λ_=>by omega⟩;refine⟨I _ (hP.pv j q).1 (hP.pv j q).2 _ O,?_⟩;rw[J _ (hP.pv j q).1 (hP.pv j q).2 _ O,L,<-H.pw j r q,<-Y,u];show m (m _ e) _=_
    rw[M.er _ (p E)]
   ·rename_i u
    exact⟨F.set j _ ⟨by omega,λ_=>by omega⟩,by rw[L,Y]⟩
  have Q:gR P (f+1) E j=mC (gR P f) (gt P.conj j) (E.drop (j+1)) C (E.drop (j+1)).length:=by rw[N];rfl
  have W:(E.drop (j+1)).length=P.orders.length-(j+1):=by simp;omega
  rw[Q,Ks,W];have R:S (m (fR m h E i e (j-i)) (iter (gt E j).toNat (λy=>m y (h j)) e)):=M.cl _ _ (p E) (U _)
  have V:=tr (λ(y:α) (z:List Int)=>S y/\dL P.orders z/\fR m h z i e (P.orders.length-i)=m (m (m (fR m h E i e (j-i)) (iter (gt E j).toNat (λy=>m y (h j)) e)) y) (h j))
   (λy l=>m y (h l)) (λy l=>j6 (gR P f) y (gt (gt P.conj j) (l-j-1))) E (j+1) e C (P.orders.length-(j+1))
   ⟨M.one,K.1,by rw[K.2,M.er _ R]⟩ (by
    rintro y z l ⟨G,Z,h5⟩ a b _;have u:=(hP.cv j q).2 (l-j-1) (by omega);have D:=w l (by omega) (by omega);refine⟨M.cl _ _ G D,I _ u.1 u.2 _ Z,?_⟩;rw[J _ u.1 u.2 _ Z,h5,M.ass _ _ _ (M.cl _ _ R G) A (hT _),<-H.cj j l r (by omega) (by omega),<-M.ass _ _ _ (M.cl _ _ R G) D A,M.ass _ _ _ R G D])
  rw[V.2.2,En M r q w (y:=E)];rfl
theorem Eo {P:Pr}(hP:Valid P) (M:MonOn S m e) {h:Nat->α}{i:Nat}(H:Holds P S m e h i) (E:List Int) (j:Nat) (b:dL P.orders E) (a:i<=j) (k:j<P.orders.length) :
  fR m h (tg P E j) i e (P.orders.length-i)=m (fR m h E i e (P.orders.length-i)) (h j):=Kv hP M H _ E j b a k (by omega)
theorem Kw {P:Pr}(hP:Valid P) (M:MonOn S m e) {h:Nat->α}{i:Nat}(B:i<=P.orders.length) (H:Holds P S m e h i) (E F:List Int) (u:dL P.orders E) (hF:dL P.orders F) (w:∀k,k<i->gt F k=0) :
  fR m h (tv P E F) i e (P.orders.length-i)=m (fR m h E i e (P.orders.length-i)) (fR m h F i e (P.orders.length-i)):=by
 have p:∀j,i<=j->j<P.orders.length->S (h j):=H.mem;have q:∀y,S (fR m h y i e (P.orders.length-i)):=λy=>r6 M M.one (λj a b=>p j a (by omega));unfold tv j6
 rw [BQ,hF.1,show P.orders.length=i+(P.orders.length-i) by omega,xF,q8 (tg P) F 0 E i (λl _ b=>w l (by omega)),show 0+i=i by omega,
  show i+(P.orders.length-i)=P.orders.length by omega]
 have A:=tr (λ(y:α) (z:List Int)=>S y/\dL P.orders z/\fR m h z i e (P.orders.length-i)=y) (λy l=>m y (h l)) (tg P) F i (fR m h E i e (P.orders.length-i)) E (P.orders.length-i)
  ⟨q E,u,rfl⟩ (by
   rintro y z l ⟨h1,r,h3⟩ a b _;refine⟨M.cl _ _ h1 (p l (by omega) (by omega)),rY hP z l r (by omega),?_⟩;rw[Eo hP M H z l r (by omega) (by omega),h3])
 rw[A.2.2];exact zI M (q E) (λl a b=>p l (by omega) (by omega))
end
end Go.Proofs.YtoakmefajbbggaaGreat
