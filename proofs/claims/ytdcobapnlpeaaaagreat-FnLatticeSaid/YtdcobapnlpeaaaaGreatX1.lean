/- Merged from templates. -/
import Derived.Test.YtdcobapnlpeaaaaGreatRows
import Derived.WalkKit
import Derived.WalkSpells
import Derived.WalkLawsBesides
import Derived.Lib.Hide
import Derived.Laws.AppendOwnNone
import Derived.Maps.AppendAt
import Derived.Deep.QuietTactic
import Derived.BigQuiet
import Derived.Deep.DeepCutAuto
import Derived.Deep.RegionHeld3
namespace Go.Proofs.YtdcobapnlpeaaaaGreat
open Go.RowKit
def gt {α:Type} [Inhabited α] (xs:List α) (i:Nat):α:=xs.getD i default
theorem gt_eq {α:Type} [Inhabited α] (xs:List α) (i:Nat) (h:i<xs.length):gt xs i=xs[i]:=by
 simp[gt,h]
theorem gt_append_left {α:Type} [Inhabited α] (xs a:List α) (i:Nat) (h:i<xs.length):gt (xs++a) i=gt xs i:=by
 simp[gt,List.getElem?_append_left h]
theorem gt_concat {α:Type} [Inhabited α] (xs:List α) (x:α):gt (xs++[x]) xs.length=x:=by
 simp[gt]
theorem gt_set_eq {α:Type} [Inhabited α] (xs:List α) (i:Nat) (x:α) (h:i<xs.length):gt (xs.set i x) i=x:=by
 simp[gt,h]
theorem gt_set_ne {α:Type} [Inhabited α] (xs:List α) (i j:Nat) (x:α) (h:i≠j):gt (xs.set i x) j=gt xs j:=by
 simp[gt,List.getElem?_set_ne h]
theorem take_succ_gt {α:Type} [Inhabited α] (xs:List α) (k:Nat) (h:k<xs.length):xs.take (k+1)=xs.take k++[gt xs k]:=by
 rw[gt_eq xs k h,List.take_succ_eq_append_getElem h]
theorem gt_map {α a:Type} [Inhabited α] [Inhabited a] (f:α->a) (xs:List α) (i:Nat) (h:i<xs.length):gt (xs.map f) i=f (gt xs i):=by
 simp[gt,h]
theorem ext_gt {α:Type} [Inhabited α] {xs a:List α}(h:xs.length=a.length) (b:∀i,i<xs.length->gt xs i=gt a i):xs=a:=by
 apply List.ext_getElem h;intro i h1 e;rw[<-gt_eq xs i h1,<-gt_eq a i e];exact b i h1
def Sl {α:Type} [Inhabited α] (El:World->Value->α->Prop) (S:Nat->Prop) (w:World) (v:Value) (xs:List α):Prop:=
 ∃ a cap,v=.slice a xs.length cap/\(xs.length<=cap/\xs.length<=9223372036854775807/\(a=none->cap=0)) /\
  ∀i,i<xs.length->∃b off u,a=some ⟨b,off,none⟩/\S b/\b<w.heap.size/\w.cell? ⟨b,off+i,none⟩=some u/\El w u (gt xs i)
def IntEl (_:World) (u:Value) (x:Int):Prop:=u=.int .i64 x
abbrev Ints (S:Nat->Prop) (w:World) (v:Value) (l:List Int):Prop:=Sl IntEl S w v l
abbrev Rows2 (S:Nat->Prop) (w:World) (v:Value) (l:List (List Int)):Prop:=Sl (λw u x=>Ints S w u x) S w v l
abbrev Rows3 (S:Nat->Prop) (w:World) (v:Value) (l:List (List (List Int))):Prop:=Sl (λw u x=>Rows2 S w u x) S w v l
abbrev Ext (w w':World):Prop:=w.grownBy w' none
theorem Ext.refl (w:World):Ext w w:=⟨rfl,rfl,rfl,Nat.le_refl _,λ_ _ _=>rfl⟩
theorem grown_refl (w:World) (r:Option Nat):w.grownBy w r:=⟨rfl,rfl,rfl,Nat.le_refl _,λ_ _ _=>rfl⟩
theorem grown_drew (w:World) (r:Option Nat):w.grownBy w.drew r:=⟨rfl,rfl,rfl,Nat.le_refl _,λ_ _ _=>rfl⟩
theorem grown_drewN (w:World) (n:Nat) (r:Option Nat):w.grownBy (w.drewN n) r:=⟨rfl,rfl,rfl,Nat.le_refl _,λ_ _ _=>rfl⟩
theorem grown_trans {a b c:World}{r:Option Nat}(h:a.grownBy b r) (k:b.grownBy c r):a.grownBy c r:=
 ⟨k.os.trans h.os,k.tape.trans h.tape,k.output.trans h.output,Nat.le_trans h.size k.size,
  λi g e=>(k.block i (Nat.lt_of_lt_of_le g h.size) e).trans (h.block i g e)⟩
theorem grown_of_ext {a b:World}(r:Option Nat) (h:Ext a b):a.grownBy b r:=
 ⟨h.os,h.tape,h.output,h.size,λi e _=>h.block i e (by simp)⟩
theorem grown_own {a b c:World}{r:Option Nat}{q:Option Nat}(h:a.grownBy b r) (k:b.grownBy c q) (m:∀j,q=some j->j<a.heap.size->r=some j):a.grownBy c r:=
 ⟨k.os.trans h.os,k.tape.trans h.tape,k.output.trans h.output,Nat.le_trans h.size k.size,
  λi l g=>(k.block i (Nat.lt_of_lt_of_le l h.size) (λe=>g (m i e.symm l).symm)).trans (h.block i l g)⟩
theorem Ext.below {a b:World}(h:Ext a b):Below a.heap.size a b:=
 ⟨h.os,h.tape,h.output,h.size,λk hk=>h.block k hk (by simp)⟩
theorem Sl.shape {α:Type} [Inhabited α] {El:World->Value->α->Prop}{S:Nat->Prop}{w:World}{v:Value}{xs:List α}(h:Sl El S w v xs) :
  ∃a cap,v=.slice a xs.length cap/\xs.length<=cap/\xs.length<=9223372036854775807:=by
 obtain⟨a,cap,hv,hl,_⟩:=h;exact⟨a,cap,hv,hl.1,hl.2.1⟩
theorem Sl.at {α:Type} [Inhabited α] {El:World->Value->α->Prop}{S:Nat->Prop}{w:World}{a:Option Addr}{n cap:Nat}{xs:List α}(h:Sl El S w (.slice a n cap) xs) (i:Nat) (e:i<xs.length) :
  ∃b off u,a=some ⟨b,off,none⟩/\S b/\b<w.heap.size/\w.cell? ⟨b,off+i,none⟩=some u/\El w u (gt xs i):=by
 obtain⟨a',cap',hv,_,hc⟩:=h;cases hv
 exact hc i e
theorem Ints.at {S:Nat->Prop}{w:World}{a:Option Addr}{n cap:Nat}{xs:List Int}(h:Sl IntEl S w (.slice a n cap) xs) (i:Nat) (g:i<xs.length) :
  ∃b off,a=some ⟨b,off,none⟩/\S b/\b<w.heap.size/\w.cell? ⟨b,off+i,none⟩=some (.int .i64 (gt xs i)):=by
 obtain⟨b,off,u,h1,h2,h3,j,e⟩:=h.at i g;have e:u=.int .i64 (gt xs i):=e;exact⟨b,off,h1,h2,h3,by rw[j,e]⟩
theorem Sl.nil_of_none {α:Type} [Inhabited α] {El:World->Value->α->Prop}{S:Nat->Prop}{w:World}{n cap:Nat}{xs:List α}(h:Sl El S w (.slice none n cap) xs):xs=[]/\cap=0:=by
 obtain⟨a',cap',hv,hl,hc⟩:=h;cases hv
 refine⟨?_,hl.2.2 rfl⟩;cases xs with
 | nil=>rfl
 | cons x l=>obtain⟨b,off,u,h,_⟩:=hc 0 (by simp);cases h
theorem Sl.mono {α:Type} [Inhabited α] {El e:World->Value->α->Prop}{S S':Nat->Prop}{w w':World}{v:Value}{xs:List α}(h:Sl El S w v xs)
  (j:∀k,S k->k<w.heap.size->S' k/\k<w'.heap.size/\w'.heap[k]? = w.heap[k]?) (l:∀u x,El w u x->e w' u x):Sl e S' w' v xs:=by
 obtain⟨a,cap,hv,hl,hc⟩:=h;refine⟨a,cap,hv,hl,λi m => ?_⟩;obtain⟨b,off,u,ha,hS,hlt,hu,hx⟩:=hc i m;obtain⟨g,hlt',hk⟩:=j b hS hlt;exact⟨b,off,u,ha,g,hlt',(World.cell?_of_block (w:=w) hk).trans hu,l _ _ hx⟩
theorem Ints.mono {S S':Nat->Prop}{w w':World}{v:Value}{xs:List Int}(h:Ints S w v xs)
  (a:∀k,S k->k<w.heap.size->S' k/\k<w'.heap.size/\w'.heap[k]? = w.heap[k]?):Ints S' w' v xs:=Sl.mono h a (λ_ _ h=>h)
theorem Rows2.mono {S S':Nat->Prop}{w w':World}{v:Value}{xs:List (List Int)}(h:Rows2 S w v xs)
  (a:∀k,S k->k<w.heap.size->S' k/\k<w'.heap.size/\w'.heap[k]? = w.heap[k]?):Rows2 S' w' v xs:=Sl.mono h a (λ_ _ h=>Ints.mono h a)
theorem Rows3.mono {S S':Nat->Prop}{w w':World}{v:Value}{xs:List (List (List Int))}(h:Rows3 S w v xs)
  (a:∀k,S k->k<w.heap.size->S' k/\k<w'.heap.size/\w'.heap[k]? = w.heap[k]?):Rows3 S' w' v xs:=Sl.mono h a (λ_ _ h=>Rows2.mono h a)
theorem frame_of {S S':Nat->Prop}{w w':World}{r:Option Nat}(b:w.grownBy w' r) (g:∀k,S k->k<w.heap.size->S' k/\r≠some k) :
  ∀k,S k->k<w.heap.size->S' k/\k<w'.heap.size/\w'.heap[k]? = w.heap[k]? :=
 λk hk a=>⟨(g k hk a).1,Nat.lt_of_lt_of_le a b.size,b.block k a (λe=>(g k hk a).2 e.symm)⟩
theorem frame_ext {S:Nat->Prop}{w w':World}(a:Ext w w'):∀k,S k->k<w.heap.size->S k/\k<w'.heap.size/\w'.heap[k]? = w.heap[k]? :=
 frame_of a (λ_ h _=>⟨h,by simp⟩)
theorem Ints.ext {S:Nat->Prop}{w w':World}{v:Value}{xs:List Int}(h:Ints S w v xs) (a:Ext w w'):Ints S w' v xs:=h.mono (frame_ext a)
theorem Rows2.ext {S:Nat->Prop}{w w':World}{v:Value}{xs:List (List Int)}(h:Rows2 S w v xs) (a:Ext w w'):Rows2 S w' v xs:=Rows2.mono h (frame_ext a)
theorem Rows3.ext {S:Nat->Prop}{w w':World}{v:Value}{xs:List (List (List Int))}(h:Rows3 S w v xs) (a:Ext w w'):Rows3 S w' v xs:=Rows3.mono h (frame_ext a)
theorem Ints.sub {S S':Nat->Prop}{w:World}{v:Value}{xs:List Int}(h:Ints S w v xs) (b:∀k,S k->k<w.heap.size->S' k):Ints S' w v xs:=
 h.mono (λk hk a=>⟨b k hk a,a,rfl⟩)
theorem Rows2.sub {S S':Nat->Prop}{w:World}{v:Value}{xs:List (List Int)}(h:Rows2 S w v xs) (b:∀k,S k->k<w.heap.size->S' k):Rows2 S' w v xs:=
 Rows2.mono h (λk hk a=>⟨b k hk a,a,rfl⟩)
theorem Rows3.sub {S S':Nat->Prop}{w:World}{v:Value}{xs:List (List (List Int))}(h:Rows3 S w v xs) (b:∀k,S k->k<w.heap.size->S' k):Rows3 S' w v xs:=
 Rows3.mono h (λk hk a=>⟨b k hk a,a,rfl⟩)
structure Pr where
 orders:List Int
 powers:List (List Int)
 conj:List (List (List Int))
 deriving Inhabited
structure Pres3 (S:Nat->Prop) (w:World) (vo vp vc:Value) (P:Pr):Prop where
 o:Ints S w vo P.orders
 p:Rows2 S w vp P.powers
 c:Rows3 S w vc P.conj
theorem Pres3.mono {S S':Nat->Prop}{w w':World}{vo vp vc:Value}{P:Pr}(h:Pres3 S w vo vp vc P)
  (a:∀k,S k->k<w.heap.size->S' k/\k<w'.heap.size/\w'.heap[k]? = w.heap[k]?):Pres3 S' w' vo vp vc P:=
 ⟨Ints.mono h.o a,Rows2.mono h.p a,Rows3.mono h.c a⟩
theorem Pres3.ext {S:Nat->Prop}{w w':World}{vo vp vc:Value}{P:Pr}(h:Pres3 S w vo vp vc P) (a:Ext w w'):Pres3 S w' vo vp vc P:=h.mono (frame_ext a)
def PresP (S:Nat->Prop) (w:World) (v:Value) (P:Pr):Prop:=
 ∃ b off vo vp vc,v=.pointer (some ⟨b,off,none⟩)/\S b/\b<w.heap.size/\w.cell? ⟨b,off,none⟩=some vo/\w.cell? ⟨b,off+1,none⟩=some vp/\w.cell? ⟨b,off+2,none⟩=some vc /\
  Pres3 S w vo vp vc P
theorem PresP.mono {S S':Nat->Prop}{w w':World}{v:Value}{P:Pr}(h:PresP S w v P)
  (e:∀k,S k->k<w.heap.size->S' k/\k<w'.heap.size/\w'.heap[k]? = w.heap[k]?):PresP S' w' v P:=by
 obtain⟨b,off,vo,vp,vc,hv,hS,hlt,h0,h1,h2,h3⟩:=h;obtain⟨a,hlt',hk⟩:=e b hS hlt;exact⟨b,off,vo,vp,vc,hv,a,hlt',(World.cell?_of_block (w:=w) hk).trans h0,(World.cell?_of_block (w:=w) hk).trans h1,(World.cell?_of_block (w:=w) hk).trans h2,h3.mono e⟩
theorem PresP.ext {S:Nat->Prop}{w w':World}{v:Value}{P:Pr}(h:PresP S w v P) (a:Ext w w'):PresP S w' v P:=h.mono (frame_ext a)
theorem PresP.sub {S S':Nat->Prop}{w:World}{v:Value}{P:Pr}(h:PresP S w v P) (b:∀k,S k->k<w.heap.size->S' k):PresP S' w v P:=
 h.mono (λk hk a=>⟨b k hk a,a,rfl⟩)
theorem PresP.shape {S:Nat->Prop}{w:World}{v:Value}{P:Pr}(h:PresP S w v P):∃b off,v=.pointer (some ⟨b,off,none⟩):=by
 obtain⟨b,off,_,_,_,hv,_⟩:=h;exact⟨b,off,hv⟩
theorem PresP.at {S:Nat->Prop}{w:World}{b off:Nat}{P:Pr}(h:PresP S w (.pointer (some ⟨b,off,none⟩)) P) :
  ∃vo vp vc,S b/\b<w.heap.size/\w.cell? ⟨b,off,none⟩=some vo/\w.cell? ⟨b,off+1,none⟩=some vp/\w.cell? ⟨b,off+2,none⟩=some vc/\Pres3 S w vo vp vc P:=by
 obtain⟨a,off',vo,vp,vc,hv,h⟩:=h;cases hv
 exact⟨vo,vp,vc,h⟩
theorem PresP.ordAt {S:Nat->Prop}{w:World}{b off:Nat}{P:Pr}(h:PresP S w (.pointer (some ⟨b,off,none⟩)) P) :
  ∃a cap,w.cell? ⟨b,off,none⟩=some (.slice a P.orders.length cap)/\Ints S w (.slice a P.orders.length cap) P.orders:=by
 obtain⟨vo,vp,vc,_,_,h0,_,_,hq⟩:=h.at;obtain⟨a,cap,rfl,_,_⟩:=hq.o.shape;exact⟨a,cap,h0,hq.o⟩
theorem PresP.powAt {S:Nat->Prop}{w:World}{b off:Nat}{P:Pr}(h:PresP S w (.pointer (some ⟨b,off,none⟩)) P) :
  ∃a cap,w.cell? ⟨b,off+1,none⟩=some (.slice a P.powers.length cap)/\Rows2 S w (.slice a P.powers.length cap) P.powers:=by
 obtain⟨vo,vp,vc,_,_,_,h0,_,hq⟩:=h.at;obtain⟨a,cap,rfl,_,_⟩:=Sl.shape hq.p;exact⟨a,cap,h0,hq.p⟩
theorem PresP.conjAt {S:Nat->Prop}{w:World}{b off:Nat}{P:Pr}(h:PresP S w (.pointer (some ⟨b,off,none⟩)) P) :
  ∃a cap,w.cell? ⟨b,off+2,none⟩=some (.slice a P.conj.length cap)/\Rows3 S w (.slice a P.conj.length cap) P.conj:=by
 obtain⟨vo,vp,vc,_,_,_,_,h0,hq⟩:=h.at;obtain⟨a,cap,rfl,_,_⟩:=Sl.shape hq.c;exact⟨a,cap,h0,hq.c⟩
theorem Rows2.at {S:Nat->Prop}{w:World}{a:Option Addr}{n cap:Nat}{xs:List (List Int)}(h:Sl (λw u x=>Ints S w u x) S w (.slice a n cap) xs) (i:Nat) (g:i<xs.length) :
  ∃b off a' e,a=some ⟨b,off,none⟩/\S b/\b<w.heap.size/\w.cell? ⟨b,off+i,none⟩=some (.slice a' (gt xs i).length e)/\Ints S w (.slice a' (gt xs i).length e) (gt xs i):=by
 obtain⟨b,off,u,h1,h2,h3,h4,h5⟩:=Sl.at h i g;obtain⟨a',e,rfl,_,_⟩:=Sl.shape h5;exact⟨b,off,a',e,h1,h2,h3,h4,h5⟩
theorem Rows3.at {S:Nat->Prop}{w:World}{a:Option Addr}{n cap:Nat}{xs:List (List (List Int))}(h:Sl (λw u x=>Rows2 S w u x) S w (.slice a n cap) xs) (i:Nat) (g:i<xs.length) :
  ∃b off a' e,a=some ⟨b,off,none⟩/\S b/\b<w.heap.size/\w.cell? ⟨b,off+i,none⟩=some (.slice a' (gt xs i).length e)/\Rows2 S w (.slice a' (gt xs i).length e) (gt xs i):=by
 obtain⟨b,off,u,h1,h2,h3,h4,h5⟩:=Sl.at h i g;obtain⟨a',e,rfl,_,_⟩:=Sl.shape h5;exact⟨b,off,a',e,h1,h2,h3,h4,h5⟩
def PresV (S:Nat->Prop) (w:World) (v:Value) (P:Pr):Prop:=∃vo vp vc,v=.agg #[vo,vp,vc]/\Pres3 S w vo vp vc P
def Ret (w:World) (φ : World->Value->Prop) (e:Ending) (w':World):Prop:=∃v,e=.returned v/\Ext w w'/\φ w' v
def Mut (w:World) (r:Option Nat) (φ : World->Value->Prop) (e:Ending) (w':World):Prop:=∃v,e=.returned v/\w.grownBy w' r/\φ w' v
theorem Calls.rel {f:FuncId}{args:Array Value}{w w0:World}{φ : World->Value->Prop}(a:Ext w0 w) (h:Calls Tryz.prog f args w (Ret w φ)) :
  Calls Tryz.prog f args w λe w'=>∃v,e=.returned v/\Ext w0 w'/\w0.heap.size<=w.heap.size/\φ w' v:=
 h.mono λ_ _ ⟨v,he,hg,hv⟩=>⟨v,he,grown_trans a hg,a.size,hv⟩
def Any:Nat->Prop:=λ_=>True
def From (B:Nat):Nat->Prop:=λk=>B<=k
def Off (r:Option Nat):Nat->Prop:=λk=>r≠some k
abbrev Own (base:Nat) (w:World) (v:Value) (l:List Int):Prop:=w.ownsRow base 2 1 v l.length (l.map (Value.int .i64))
theorem Tryz.infoInt:(Tryz.prog.info? 2).map (λi=>(i.zero,i.size,i.bytes))=some (some (.int .i64 0),1,8):=by kernel_rfl
theorem ints_of_own {base:Nat}{S:Nat->Prop}{w:World}{v:Value}{l:List Int}(h:Own base w v l) (j:l.length<=9223372036854775807) (n:∀k,v.ownBlock=some k->S k):Ints S w v l:=by
 have a:=h.lt;obtain⟨_,h⟩:=h;rcases h with⟨b,hn⟩|⟨g,cap,e,b,hg,hb,hnc,hcm,hsz,hx⟩
 ·exact⟨none,0,by rw[b,hn],⟨by omega,j,λ_=>rfl⟩,λi m=>by omega⟩
 ·subst b
  refine⟨_,cap,rfl,⟨hnc,j,λh=>by cases h⟩,λi m=>⟨g,0,.int .i64 (gt l i),rfl,n g rfl,(a g rfl).2,?_,rfl⟩⟩;have h1:(e.toList.take (l.length*1))[i]? = (l.map (Value.int .i64))[i]? :=by rw[hx]
  simp only[World.cell?,hb,Nat.zero_add,Option.isSome_none,Bool.false_eq_true,if_false];rw[List.getElem?_take_of_lt (by omega)] at h1;rw[<-Array.getElem?_toList,h1];simp[gt,m]
theorem own_blk {b off n cap j:Nat}{sp:Option Nat}(h:(Value.slice (some ⟨b,off,sp⟩) n cap).ownBlock=some j):j=b:=by
 have:some b=some j:=h;cases this;rfl
abbrev OwnV (base E:Nat) (w:World) (v:Value) (xs:List Value):Prop:=w.ownsRow base E 1 v xs.length xs
theorem Own.v {base:Nat}{w:World}{v:Value}{l:List Int}(h:Own base w v l):OwnV base 2 w v (l.map (Value.int .i64)):=by
 unfold OwnV;rw[List.length_map];exact h
theorem Own.of {base:Nat}{w:World}{v:Value}{l:List Int}(h:OwnV base 2 w v (l.map (Value.int .i64))):Own base w v l:=by
 unfold OwnV at h;rw[List.length_map] at h;exact h
theorem wp_app (T E:Nat) (z:Value) (bytes:Nat) (H:Tryz.prog.underlying T=some (.slice E)) (M:(Tryz.prog.info? E).map (λi=>(i.zero,i.size,i.bytes))=some (some z,1,bytes))
  (B:z.cells.size=1) (C:bytes<=64) {p:Array Oper}{rest:List Oper}{o:Oper}{a:Act}{Q:Exit->Act->World->Prop}{w:World}(q:o.guard=none) (s x:Operand)
  (I:o.op=Op.call { callee:=Callee.builtin Builtin.append,args := #[s,x],argTypes := #[T,T] }) (base:Nat) (v:Value) (xs:List Value) (J:a.eval s=v) (g:OwnV base E w v xs)
  (A:Option Addr) (m c:Nat) (e:List Value) (hx:a.eval x=.slice A m c) (K:e.length=m) (D:A=none->c=0)
  (k:∀j,j<m->∃b off,A=some ⟨b,off,none⟩/\w.cell? ⟨b,off+j,none⟩=some (gt e j)) (h1:∀u,u∈e->u.oneCell'=true) (r:xs.length+m<=2147483648) (l:base<=w.heap.size)
  (h:∀n w',OwnV base E w' n (xs++e)->w.grownBy w' v.ownBlock->(n=.slice none 0 0↔v=.slice none 0 0/\m=0)->n.ownBlock=v.ownBlock\/n.ownBlock=some w.heap.size->wpList Tryz.prog p Q rest (a.put o.dst n) w') :
  wpList Tryz.prog p Q (o :: rest) a w:=by
 obtain⟨L,hi,hz0,hz1,hz2⟩:=info_parts M;cases A with
 | none=>
  have y:=D rfl
  have N:m=0:=by
   rcases Nat.eq_zero_or_pos m with h|h
   ·exact h
   ·obtain⟨b,off,hh,_⟩:=k 0 h;cases hh
  subst N;subst y;have O:e=[]:=List.eq_nil_of_length_eq_zero K;subst O;exact wpList_append_own_none q s x T I base E L 1 H hi v xs.length xs J g hx (h v w (by simpa using g) (grown_refl _ _) (by simp) (.inl rfl))
 | some P=>
  refine wpList_append_own_at w q s x T I base E L z 1 bytes H hi hz0 hz1 hz2 B (by decide) v xs.length xs J g P m c e hx (by omega) ?_ h1 ?_ ?_ l ?_
  ·intro j u F
   have R:j<m:=by
    rcases Nat.lt_or_ge j m with h|h
    ·exact h
    ·rw[List.getElem?_eq_none (by omega)] at F;cases F
   obtain⟨b,off,hh,y⟩:=k j R;cases hh
   have:gt e j=u:=by
    simp only[gt,List.getD_eq_getElem?_getD,F];rfl
   rw[this] at y;unfold Addr.add;split
   ·rename_i G;subst G;exact y
   ·exact y
  ·unfold maxLen;omega
  ·have:=Nat.mul_le_mul r C
   omega
  ·intro n w' S U V W
   exact h n w' (by unfold OwnV;rw[List.length_append,K];exact S) U V W
theorem tk {P:Program}{b:Array Oper}{Q:Exit->Act->World->Prop}{j:Region.Mode}{S:World->Prop}{g:Oper}{v:Value}{e:Nat}{l m:Array Bool}{a a':Act}{w:World}(i:Nat)
  (h:wpAnyH P j b Q S e m a' w)
  (n:b[i]? = some g:=by rfl) (p:Region.noSelect b=true:=by kernel_rfl) (q:Region.free j b l i=true:=by kernel_rfl) (r:(Region.ready j b l).contains i=true:=by kernel_rfl)
  (u:Region.wanted g (yielded b a.tmps)=true:=by rfl)
  (hy:∀w,S w->(execOp a.eval g).run P w=.ok (.value v) w:=by (intro w k;(try dsimp only at k);go_simp;try with_reducible rfl))
  (y:l.setIfInBounds i true=m:=by (first|(simp only[List.setIfInBounds_toArray,List.set_cons_zero,List.set_cons_succ];rfl)|rfl))
  (ha:a.put g.dst v=a':=by (first|(simp only[Act.put,List.getElem_toArray,List.getElem_cons_succ,List.getElem_cons_zero,List.setIfInBounds_toArray,List.set_cons_zero,List.set_cons_succ];rfl)|rfl))
  (z:∀c a w,Q (.panic c) (a.put g.dst v) w->Q (.panic c) a w:=by (intro _ _ _ h;exact h)) (A:S w:=by assumption):wpAnyH P j b Q S (e+1) l a w:=by
 subst y ha;exact wpAnyH_take n p q r z (Or.inl ⟨u,hy⟩) A h
theorem jU {P:Program}{b:Array Oper}{Q:Exit->Act->World->Prop}{g:Region.Mode}{S:World->Prop}{j:Oper}{e:Nat}{l k:Array Bool}{a a':Act}{w:World}(i:Nat)
  (h:wpAnyH P g b Q S e k a' w)
  (m:b[i]? = some j:=by rfl) (n:Region.noSelect b=true:=by kernel_rfl) (p:Region.free g b l i=true:=by kernel_rfl) (q:(Region.ready g b l).contains i=true:=by kernel_rfl)
  (r:Region.wanted j (yielded b a.tmps)=false:=by rfl)
  (u:l.setIfInBounds i true=k:=by (first|(simp only[List.setIfInBounds_toArray,List.set_cons_zero,List.set_cons_succ];rfl)|rfl))
  (ha:a.put j.dst undef=a':=by (first|(simp only[Act.put,List.getElem_toArray,List.getElem_cons_succ,List.getElem_cons_zero,List.setIfInBounds_toArray,List.set_cons_zero,List.set_cons_succ];rfl)|rfl))
  (v:∀c a w,Q (.panic c) (a.put j.dst undef) w->Q (.panic c) a w:=by (intro _ _ _ h;exact h)) (y:S w:=by assumption):wpAnyH P g b Q S (e+1) l a w:=by
 subst u ha;exact wpAnyH_take m n p q v (Or.inr ⟨r,rfl⟩) y h
theorem fD {P:Program}{b:Array Oper}{Q:Exit->Act->World->Prop}{g:Region.Mode}{S:World->Prop}{o:Oper}{e:Nat}{l j:Array Bool}{a:Act}{w:World}(i:Nat)
  (h:∀K':Act->World->Prop,Shut (∀a w,S w->(S w->wpAnyH P g b Q S e j a w)->K' a w)->if Region.wanted o (yielded b a.tmps)=true then Oper.wp P o a w K' Q else K' (a.put o.dst undef) w)
  (k:Region.ready g b l=[i]:=by kernel_rfl) (m:b[i]? = some o:=by rfl)
  (n:l.setIfInBounds i true=j:=by (first|(simp only[List.setIfInBounds_toArray,List.set_cons_zero,List.set_cons_succ];rfl)|rfl)):wpAnyH P g b Q S (e+1) l a w:=by
 subst n;exact wpAnyH_ready k (by simp) (AllReadyH.cons m h AllReadyH.nil)
theorem iW {P:Program}{b:Array Oper}{Q:Exit->Act->World->Prop}{g:Region.Mode}{S:World->Prop}{o o2:Oper}{e:Nat}{l n p:Array Bool}{a:Act}{w:World}(i j:Nat)
  (h:∀K':Act->World->Prop,Shut (∀a w,S w->(S w->wpAnyH P g b Q S e n a w)->K' a w)->if Region.wanted o (yielded b a.tmps)=true then Oper.wp P o a w K' Q else K' (a.put o.dst undef) w)
  (q:∀K':Act->World->Prop,Shut (∀a w,S w->(S w->wpAnyH P g b Q S e p a w)->K' a w)->if Region.wanted o2 (yielded b a.tmps)=true then Oper.wp P o2 a w K' Q else K' (a.put o2.dst undef) w)
  (r:Region.ready g b l=[i,j]:=by kernel_rfl) (u:b[i]? = some o:=by rfl) (k:b[j]? = some o2:=by rfl)
  (v:l.setIfInBounds i true=n:=by (first|(simp only[List.setIfInBounds_toArray,List.set_cons_zero,List.set_cons_succ];rfl)|rfl))
  (m:l.setIfInBounds j true=p:=by (first|(simp only[List.setIfInBounds_toArray,List.set_cons_zero,List.set_cons_succ];rfl)|rfl)):wpAnyH P g b Q S (e+1) l a w:=by
 subst v m;exact wpAnyH_ready r (by simp) (AllReadyH.cons u h (AllReadyH.cons k q AllReadyH.nil))
theorem ko {P:Program}{e:Array Oper}{Q:Exit->Act->World->Prop}{g:Region.Mode}{S:World->Prop}{b:Nat}{l:Array Bool}{a a':Act}{w:World}{K:Act->World->Prop}
  (i:Shut (∀a w,S w->(S w->wpAnyH P g e Q S b l a w)->K a w)) (j:S w) (h:S w->wpAnyH P g e Q S b l a' w)
  (ha:a=a':=by (first|(simp only[Act.put,List.getElem_toArray,List.getElem_cons_succ,List.getElem_cons_zero,List.setIfInBounds_toArray,List.set_cons_zero,List.set_cons_succ];rfl)|rfl)):K a w:=by
 subst ha;exact i.out _ _ j h
end Go.Proofs.YtdcobapnlpeaaaaGreat
namespace Go.Proofs.YtdcobapnlpeaaaaGreat
def iter {α:Type} : Nat->(α->α)->α->α
 | 0,_,x=>x
 | n+1,f,x=>f (iter n f x)
def Vec (o e:List Int):Prop:=e.length=o.length/\∀i,i<o.length->0<=gt e i/\gt e i<gt o i
def ZeroTo (i:Nat) (e:List Int):Prop:=∀k,k<=i->gt e k=0
def prodTo (l:List Int):Nat->Int
 | 0=>1
 | k+1=>prodTo l k*gt l k
structure Valid (P:Pr):Prop where
 le729:prodTo P.orders P.orders.length<=729
 n6:P.orders.length<=6
 pl:P.powers.length=P.orders.length
 cl:P.conj.length=P.orders.length
 ord:∀i,i<P.orders.length->gt P.orders i=2\/gt P.orders i=3\/gt P.orders i=5\/gt P.orders i=7
 pv:∀i,i<P.orders.length->Vec P.orders (gt P.powers i)/\ZeroTo i (gt P.powers i)
 cv:∀i,i<P.orders.length->(gt P.conj i).length=P.orders.length-1-i/\∀k,k<P.orders.length-1-i->Vec P.orders (gt (gt P.conj i) k)/\ZeroTo i (gt (gt P.conj i) k)
theorem Valid.ord7 {P:Pr}(h:Valid P) (i:Nat) (a:i<P.orders.length):2<=gt P.orders i/\gt P.orders i<=7:=by
 rcases h.ord i a with h|h|h|h<;>omega
def tvecTo (g:List Int->Nat->List Int) (f:List Int) (e:List Int):Nat->List Int
 | 0=>e
 | k+1=>iter (gt f k).toNat (λe=>g e k) (tvecTo g f e k)
def tvec (g:List Int->Nat->List Int) (e f:List Int):List Int:=tvecTo g f e f.length
def tconjTo (g:List Int->Nat->List Int) (a:List (List Int)) (rest:List Int) (e:List Int):Nat->List Int
 | 0=>e
 | k+1=>iter (gt rest k).toNat (λe=>tvec g e (gt a k)) (tconjTo g a rest e k)
def zeroed (e:List Int) (j:Nat) (k:Nat):List Int:=e.take (j+1)++List.replicate k 0++e.drop (j+1+k)
def tgen (P:Pr):Nat->List Int->Nat->List Int
 | 0,e,_=>e
 | f+1,e,j=>
  let rest:=e.drop (j+1)
  let a:=(zeroed e j rest.length).set j (gt e j+1)
  let b:=if gt e j+1=gt P.orders j then tvec (tgen P f) (a.set j 0) (gt P.powers j) else a
  tconjTo (tgen P f) (gt P.conj j) rest b rest.length
theorem Vec.set {o e:List Int}(h:Vec o e) (j:Nat) (x:Int) (hx:0<=x/\(j<o.length->x<gt o j)):Vec o (e.set j x):=by
 refine⟨by simpa using h.1,λi a => ?_⟩;by_cases b:j=i
 ·subst b
  rw[gt_set_eq e j x (by rw[h.1];exact a)];exact⟨hx.1,hx.2 a⟩
 ·rw[gt_set_ne e j i x b];exact h.2 i a
theorem gt_replicate (k i:Nat):gt (List.replicate k (0:Int)) i=0:=by
 simp only[gt,List.getD_eq_getElem?_getD,List.getElem?_replicate];split<;>rfl
theorem gt_zeroed (e:List Int) (j k i:Nat) (h:j+1+k<=e.length):gt (zeroed e j k) i=if j<i/\i<=j+k then 0 else gt e i:=by
 unfold zeroed;simp only[gt,List.getD_eq_getElem?_getD,List.getElem?_append,List.length_append,List.length_take,List.length_replicate,List.getElem?_drop,List.getElem?_replicate,List.getElem?_take];have g:min (j+1) e.length=j+1:=by omega
 rw[g];by_cases a:i<j+1
 ·rw[if_pos (by omega),if_pos a,if_pos a,if_neg (by omega)]
 ·by_cases b:i<j+1+k
  ·rw[if_pos b,if_neg a,if_pos (by omega),if_pos (by omega)];rfl
  ·rw [if_neg b,if_neg (by omega)]
   congr 2;omega
theorem length_zeroed (e:List Int) (j k:Nat) (h:j+1+k<=e.length):(zeroed e j k).length=e.length:=by
 unfold zeroed;simp;omega
theorem zeroed_zero (e:List Int) (j:Nat):zeroed e j 0=e:=by simp[zeroed]
theorem zeroed_succ (e:List Int) (j k:Nat) (h:j+1+k<e.length):zeroed e j (k+1)=(zeroed e j k).set (j+1+k) 0:=by
 apply ext_gt
 ·rw[length_zeroed _ _ _ (by omega),List.length_set,length_zeroed _ _ _ (by omega)]
 ·intro i b
  rw[length_zeroed _ _ _ (by omega)] at b;rw[gt_zeroed _ _ _ _ (by omega)];by_cases a:j+1+k=i
  ·subst a;rw[gt_set_eq _ _ _ (by rw[length_zeroed _ _ _ (by omega)];omega),if_pos (by omega)]
  ·rw [gt_set_ne _ _ _ _ a,gt_zeroed _ _ _ _ (by omega)]
   by_cases c:j<i/\i<=j+k
   ·rw[if_pos c,if_pos (by omega)]
   ·rw[if_neg c,if_neg (by omega)]
theorem Vec.zeroed {o e:List Int}(h:Vec o e) (j k:Nat) (hk:j+1+k<=e.length):Vec o (zeroed e j k):=by
 refine⟨by rw[length_zeroed _ _ _ hk];exact h.1,λi a => ?_⟩;have:=h.2 i a;rw[gt_zeroed _ _ _ _ hk];split<;>omega
theorem iter_inv {α:Type}(Q:α->Prop) (f:α->α) (a:∀x,Q x->Q (f x)) (n:Nat) (x:α) (h:Q x):Q (iter n f x):=by
 induction n with
 | zero=>exact h
 | succ n b=>exact a _ b
theorem tvecTo_vec {o:List Int}{g:List Int->Nat->List Int}{f e:List Int}(i:∀e j,Vec o e->j<o.length->gt f j≠0->Vec o (g e j)) (l:Vec o e) (k:Nat) (hk:k<=o.length):Vec o (tvecTo g f e k):=by
 induction k with
 | zero=>exact l
 | succ k a=>
  unfold tvecTo;by_cases b:gt f k=0
  ·rw[b];exact a (by omega)
  ·exact iter_inv (Vec o) _ (λx hx=>i x k hx (by omega) b) _ _ (a (by omega))
theorem tvec_vec {o:List Int}{g:List Int->Nat->List Int}{f e:List Int}(a:Vec o f) (b:∀e j,Vec o e->j<o.length->gt f j≠0->Vec o (g e j)) (i:Vec o e):Vec o (tvec g e f):=
 tvecTo_vec b i _ (by rw[a.1];omega)
theorem tgen_vec {P:Pr}(hP:Valid P) (f:Nat):∀(e:List Int) (j:Nat),Vec P.orders e->j<P.orders.length->P.orders.length<=f+j->Vec P.orders (tgen P f e j):=by
 induction f with
 | zero=>intro e j _ a q;omega
 | succ f r=>
  intro e j b a q;have A:=b.1;have u:=(hP.cv j a).1
  have n:∀c,Vec P.orders c->ZeroTo j c->∀x,Vec P.orders x->Vec P.orders (tvec (tgen P f) x c):=λc v l x hx=>
   tvec_vec v (λe i b w y=>r e i b w (by
    have:¬i<=j:=λh=>y (l i h);omega)) hx
  have l:=b.zeroed j (e.drop (j+1)).length (by simp;omega);have hx:=b.2 j a;unfold tgen;simp only
  have p:Vec P.orders (if gt e j+1=gt P.orders j then tvec (tgen P f) (((Go.Proofs.YtdcobapnlpeaaaaGreat.zeroed e j (e.drop (j+1)).length).set j (gt e j+1)).set j 0) (gt P.powers j) else (Go.Proofs.YtdcobapnlpeaaaaGreat.zeroed e j (e.drop (j+1)).length).set j (gt e j+1)):=by
   split
   ·refine n _ (hP.pv j a).1 (hP.pv j a).2 _ ?_
    rw[List.set_set];exact l.set j 0 ⟨by omega,λ_=>by have:=hP.ord7 j a;omega⟩
   ·exact l.set j _ ⟨by omega,λ_=>by omega⟩
  generalize (if gt e j+1=gt P.orders j then tvec (tgen P f) (((Go.Proofs.YtdcobapnlpeaaaaGreat.zeroed e j (e.drop (j+1)).length).set j (gt e j+1)).set j 0) (gt P.powers j) else (Go.Proofs.YtdcobapnlpeaaaaGreat.zeroed e j (e.drop (j+1)).length).set j (gt e j+1))=z at p
  have:∀k,k<=(e.drop (j+1)).length->Vec P.orders (tconjTo (tgen P f) (gt P.conj j) (e.drop (j+1)) z k):=by
   intro k;induction k with
   | zero=>intro _;exact p
   | succ k m=>
    intro hk;unfold tconjTo;have g:k<P.orders.length-1-j:=by simp at hk;omega
    exact iter_inv (Vec P.orders) _ (λx hx=>n _ ((hP.cv j a).2 k g).1 ((hP.cv j a).2 k g).2 x hx) _ _ (m (by omega))
  exact this _ (Nat.le_refl _)
end Go.Proofs.YtdcobapnlpeaaaaGreat
namespace Go.Proofs.YtdcobapnlpeaaaaGreat
open Go.RowKit
def subSl (v:Value) (l h:Nat):Value:=match v with | .slice a _ cap => .slice (if cap=l then a else a.map (·.add l)) (h-l) (cap-l)|v=>v
theorem subSl_ints {S:Nat->Prop}{w:World}{v:Value}{xs:List Int}(h:Ints S w v xs) (i j:Nat) (l:i<=j) (m:j<=xs.length):Ints S w (subSl v i j) ((xs.take j).drop i):=by
 obtain⟨a,cap,rfl,hl,hc⟩:=h;have g:((xs.take j).drop i).length=j-i:=by simp;omega
 refine⟨(if cap=i then a else a.map (·.add i)),cap-i,by rw[g];rfl,⟨by omega,by omega,?_⟩,λk hk => ?_⟩
 ·intro ha
  split at ha
  ·omega
  ·have:a=none:=by simpa using ha
   have:=hl.2.2 this;omega
 obtain⟨b,off,u,rfl,hS,hlt,hu,hx⟩:=hc (i+k) (by omega);by_cases e:cap=i
 ·omega
 ·rw [if_neg e]
  refine⟨b,off+i,u,by simp[Addr.add],hS,hlt,by rw[Nat.add_assoc];exact hu,?_⟩
  have:gt ((xs.take j).drop i) k=gt xs (i+k):=by
   simp only[gt,List.getD_eq_getElem?_getD,List.getElem?_drop,List.getElem?_take];rw[if_pos (by omega)]
  rw[this];exact hx
theorem und_ints:Tryz.prog.underlying 24=some (.slice 2):=by kernel_rfl
theorem wp_app_ints {g:Array Oper}{rest:List Oper}{o:Oper}{a:Act}{Q:Exit->Act->World->Prop}{w:World}(q:o.guard=none) (s x:Operand)
  (A:o.op=Op.call { callee:=Callee.builtin Builtin.append,args := #[s,x],argTypes := #[24,24] }) (base:Nat) (v:Value) (l:List Int) (B:a.eval s=v) (i:Own base w v l)
  (u:Value) (m:List Int) (hx:a.eval x=u) (S:Nat->Prop) (p:Ints S w u m) (k:l.length+m.length<=2147483648) (e:base<=w.heap.size)
  (h:∀n w',Own base w' n (l++m)->w.grownBy w' v.ownBlock->(n=.slice none 0 0↔v=.slice none 0 0/\m.length=0)->wpList Tryz.prog g Q rest (a.put o.dst n) w') :
  wpList Tryz.prog g Q (o :: rest) a w:=by
 obtain⟨C,cap,rfl,⟨_,_,D⟩,hc⟩:=p;refine wp_app 24 2 (.int .i64 0) 8 und_ints Tryz.infoInt rfl (by decide) q s x A base v (l.map (Value.int .i64)) B i.v C m.length cap (m.map (Value.int .i64)) hx (by simp) D ?_ ?_ (by simpa using k) e ?_
 ·intro j z
  obtain⟨b,off,u,h1,_,_,r,y⟩:=hc j z;exact⟨b,off,h1,by rw[r,y];simp[gt,z]⟩
 ·intro u p
  simp at p
  obtain⟨x,_,rfl⟩:=p;rfl
 ·intro n w' h1 r y _
  exact h n w' (Own.of (by rw[List.map_append];exact h1)) r y
theorem wp_make_ints {g:Array Oper}{rest:List Oper}{o:Oper}{a:Act}{Q:Exit->Act->World->Prop}{w:World}(i:o.guard=none) (l c:Operand)
  (q:o.op=Op.makeSlice 24 l c) (base n H:Nat) (hH:w.heap.size=H) (L:Int) (r:a.eval l=.int .i64 L) (u:a.eval c=.int .i64 L) (p:L=n) (A:n<=2147483648) (b:base<=H)
  (h:∀w',Own base w' (.slice (some ⟨H,0,none⟩) n n) (List.replicate n 0)->Ext w w'->H<w'.heap.size->wpList Tryz.prog g Q rest (a.put o.dst (.slice (some ⟨H,0,none⟩) n n)) w') :
  wpList Tryz.prog g Q (o :: rest) a w:=by
 subst hH;obtain⟨v,y,j,k,m⟩:=info_parts Tryz.infoInt;refine wpList_make_full w i l c 24 q base 2 v (.int .i64 0) 1 und_ints y j k .i64 .i64 L L n r u p p (by rw[m];omega) (by unfold maxLen;omega) b ?_;intro w' h1 z;refine h w' ?_ z (h1.lt w.heap.size rfl).2
 have e:(madeCells (Value.cells (.int .i64 0)) (n*1)).toList=(List.replicate n (0:Int)).map (Value.int .i64):=by
  rw[show Value.cells (.int .i64 0) = #[.int .i64 0] from rfl,toList_madeCells_one];simp
 rw[e] at h1;show World.ownsRow _ _ _ _ _ _ _
 rw[List.length_replicate];exact h1
theorem run_tail (w:World) (a:Option Addr) (n cap:Nat) (k:Int) (b:0<=k) (h1:k<=n) :
  (Instr.slice 24 (.slice a n cap) (some (.int .i64 k)) none none).run Tryz.prog w=.ok (subSl (.slice a n cap) k.toNat n) w:=by
 rw[run_slice_l w 24 a n cap (by kernel_rfl) .i64 k b h1];have:(sizeOf (Tryz.prog.elem 24)).run Tryz.prog w=.ok 1 w:=by kernel_rfl
 rw[this];simp[Result.andThen,sliced,subSl]
theorem Own.form {base:Nat}{w:World}{v:Value}{l:List Int}(h:Own base w v l) (e:0<l.length):∃g cap,v=.slice (some ⟨g,0,none⟩) l.length cap/\base<=g/\g<w.heap.size:=by
 have a:=h.lt;obtain⟨_,h|⟨g,cap,cur,b,hg,_⟩⟩:=h
 ·omega
 ·exact⟨g,cap,b,hg,(a g (by rw[b];rfl)).2⟩
theorem Own.cell {base g cap n:Nat}{w:World}{l:List Int}(h:Own base w (.slice (some ⟨g,0,none⟩) n cap) l) (j:Nat) (a:j<l.length):w.cell? ⟨g,j,none⟩=some (.int .i64 (gt l j)):=by
 have b:n=l.length:=by
  obtain⟨_,⟨h,_⟩|⟨_,_,_,h,_⟩⟩:=h<;>cases h;rfl
 subst b;have:=World.ownsRow.cellAt h j (by omega);rw[this];simp[gt,a]
theorem Own.frozen {base g cap n:Nat}{w:World}{l:List Int}(h:Own base w (.slice (some ⟨g,0,none⟩) n cap) l) (j:Nat):w.frozen? ⟨g,j,none⟩=false:=by
 have a:n=l.length:=by
  obtain⟨_,⟨h,_⟩|⟨_,_,_,h,_⟩⟩:=h<;>cases h;rfl
 subst a;exact World.ownsRow.frozenAt h j
theorem Own.store {base g cap n:Nat}{w:World}{l:List Int}(h:Own base w (.slice (some ⟨g,0,none⟩) n cap) l) (j:Nat) (x:Int) :
  Own base (w.setCell ⟨g,j,none⟩ (.int .i64 x)) (.slice (some ⟨g,0,none⟩) n cap) (l.set j x)/\w.grownBy (w.setCell ⟨g,j,none⟩ (.int .i64 x)) (some g):=by
 have a:n=l.length:=by
  obtain⟨_,⟨h,_⟩|⟨_,_,_,h,_⟩⟩:=h<;>cases h;rfl
 subst a;obtain⟨h1,h2⟩:=World.ownsRow.stored h j (.int .i64 x);refine⟨?_,h2⟩;show World.ownsRow _ _ _ _ _ _ _
 rw[List.length_set,List.map_set];exact h1
theorem Own.ext {base:Nat}{w w':World}{v:Value}{l:List Int}{r:Option Nat}(h:Own base w v l) (b:w.grownBy w' r) (a:v.ownBlock=none\/v.ownBlock≠r):Own base w' v l:=h.kept b a
set_option maxHeartbeats 400000 in
theorem clone_ok (w:World) (v:Value) (l:List Int) (S:Nat->Prop) (b:Ints S w v l) (i:l.length<=1048576) :
  Calls Tryz.prog 222 #[v] w (Ret w λw' r=>Own w.heap.size w' r l):=by
 obtain⟨a,cap,rfl,_,_⟩:=b.shape;have q:=λn=>Lib.run_eql_slice_nil (P:=Tryz.prog) w 24 2 a n cap 0 0 (by kernel_rfl);cases a with
 | none=>
  obtain⟨rfl,rfl⟩:=b.nil_of_none;clear b i;go_enter Tryz.func222,Tryz.ntmps222;go_wp2_with fail
  go_ret;exact⟨_,rfl,Ext.refl _,World.ownsRow_nil _ _ _ _⟩
 | some a=>
  go_enter Tryz.func222,Tryz.ntmps222;go_wp2_with (at_builtin;refine wp_app_ints rfl _ _ rfl w.heap.size _ [] rfl (World.ownsRow_lit w #[] 0 (Nat.le_refl _) (by decide) rfl) _ l rfl S (b.ext (World.grownBy_alloc _ _ _)) (by simp;omega) (by simp) ?_;intro u y e g k)
  go_ret;exact⟨_,rfl,grown_own (World.grownBy_alloc _ _ _) g (λj m p=>by have:=own_blk m;omega),e⟩
theorem PresP.box {w:World}{vo vp vc:Value}{P:Pr}{S:Nat->Prop}(h:Pres3 S w vo vp vc P) (T:Nat) :
  PresP Any (w.alloc (.cells #[vo,vp,vc] T)) (.pointer (some ⟨w.heap.size,0,none⟩)) P:=by
 have a:=h.ext (World.grownBy_alloc w (.cells #[vo,vp,vc] T) none);refine⟨_,_,vo,vp,vc,rfl,trivial,by simp,?_,?_,?_,a.mono (λk _ hk=>⟨trivial,hk,rfl⟩)⟩
 ·rw[World.cell?_alloc_at _ _ _ _ rfl];rfl
 ·rw[World.cell?_alloc_at _ _ _ _ rfl];rfl
 ·rw[World.cell?_alloc_at _ _ _ _ rfl];rfl
theorem Own.ext0 {base:Nat}{w w':World}{v:Value}{l:List Int}(h:Own base w v l) (a:Ext w w'):Own base w' v l:=
 h.ext a (by cases b:v.ownBlock<;>simp)
theorem Own.weak {base base':Nat}{w:World}{v:Value}{l:List Int}(h:Own base w v l) (a:base'<=base):Own base' w v l:=by
 obtain⟨h1,b⟩:=h;refine⟨h1,?_⟩;rcases b with h|⟨g,cap,cur,hv,hg,r⟩
 ·exact .inl h
 ·exact .inr ⟨g,cap,cur,hv,Nat.le_trans a hg,r⟩
theorem Own.ints {base:Nat}{w:World}{v:Value}{l:List Int}(h:Own base w v l) (a:l.length<=9223372036854775807):Ints Any w v l:=ints_of_own h a (λ_ _=>trivial)
theorem Calls.rel2 {f:FuncId}{args:Array Value}{w w0:World}{φ : World->Value->Prop}(a:Ext w0 w) (h:Calls Tryz.prog f args w (Ret w φ)) :
  Calls Tryz.prog f args w λe w'=>∃v,e=.returned v/\Ext w0 w'/\Ext w w'/\w0.heap.size<=w.heap.size/\φ w' v:=
 h.mono λ_ _ ⟨v,he,hg,hv⟩=>⟨v,he,grown_trans a hg,hg,a.size,hv⟩
def inB (a lo b:Int):Bool:=decide (lo<=a) && decide (a<=b)
theorem inB_true {a lo b:Int} : inB a lo b=true↔lo<=a/\a<=b:=by simp[inB]
def allB (n:Nat) (p:Nat->Bool):Bool:=(List.range n).all p
theorem allB_true {n:Nat}{p:Nat->Bool} : allB n p=true↔∀i,i<n->p i=true:=by simp[allB]
theorem allB_false {n:Nat}{p:Nat->Bool}{i:Nat}(h:i<n) (a:p i=false):allB n p=false:=by
 cases b:allB n p with
 | false=>rfl
 | true=>rw[allB_true] at b;rw[b i h] at a;cases a
theorem ret_b {a b:Bool}(h:a=b):Ending.returned (.bool a)=.returned (.bool b):=by rw[h]
theorem ret_bool {w w':World}{a b:Bool}(e:Ext w w') (h:b=a):Ret w (λ_ v=>v=.bool a) (.returned (.bool b)) w':=⟨_,rfl,e,by rw[h]⟩
set_option maxHeartbeats 400000 in
theorem inside_ok (a b c:Int) (w:World):Calls Tryz.prog 126 #[.int .i64 a,.int .i64 b,.int .i64 c] w λe w'=>e=.returned (.bool (inB a b c))/\w=w':=by
 by_cases h:b<=a
 ·by_cases g:a<=c
  ·go_enter Tryz.func126,Tryz.ntmps126
   go_wp2;go_ret;exact⟨by simp[inB,h,g],rfl⟩
  ·go_enter Tryz.func126,Tryz.ntmps126
   go_wp2;go_ret;exact⟨by simp[inB,g],rfl⟩
 ·go_enter Tryz.func126,Tryz.ntmps126
  go_wp2;go_ret;exact⟨ret_b (by simp[inB];omega),rfl⟩
set_option maxHeartbeats 400000 in
theorem l01In_ok (a b c:Int) (w:World):Calls Tryz.prog 209 #[.int .i64 a,.int .i64 b,.int .i64 c] w λe w'=>e=.returned (.bool (inB a b c))/\w=w':=by
 by_cases h:b<=a
 ·by_cases g:a<=c
  ·go_enter Tryz.func209,Tryz.ntmps209
   go_wp2;go_ret;exact⟨by simp[inB,h,g],rfl⟩
  ·go_enter Tryz.func209,Tryz.ntmps209
   go_wp2;go_ret;exact⟨by simp[inB,g],rfl⟩
 ·go_enter Tryz.func209,Tryz.ntmps209
  go_wp2;go_ret;exact⟨ret_b (by simp[inB];omega),rfl⟩
def isZeroB (l:List Int):Bool:=allB l.length (λi=>gt l i == 0)
set_option maxHeartbeats 400000 in
theorem isZero_ok (v:Value) (l:List Int) (w:World) (S:Nat->Prop) (h:Ints S w v l) :
  Calls Tryz.prog 208 #[v] w λe w'=>e=.returned (.bool (isZeroB l))/\w=w':=by
 obtain⟨a,cap,rfl,_,_⟩:=h.shape;go_enter Tryz.func208,Tryz.ntmps208;go_wp2;go_loop [7] (λi=>∃k:Nat,i=.int .i64 k/\k<=l.length/\∀i,i<k->(gt l i == 0)=true) (λi=>l.length-(intOf i).toNat)
 case atStart=>exact⟨0,rfl,by omega,λi m=>by omega⟩
 case round=>
  obtain⟨k,rfl,hk,hz⟩:=hrel;have n:=Lib.hid hz;clear hz;by_cases g:k<l.length
  ·obtain ⟨b,off,rfl,_,_,hc⟩:=Ints.at h k g
   by_cases hx:gt l k=0
   ·have p:(gt l k != 0)=false:=by simp[hx]
    have j:=Lib.hid hx;clear hx;go_wp2;go_round
    case rel=>exact⟨k+1,by go_num,by omega,λi m=>by
     rcases Nat.lt_or_ge i k with h1|h1
     ·exact n.out i h1
     ·have:i=k:=by omega
      rw[this,j.out];rfl⟩
    case measure=>simp[intOf];omega
   ·have p:(gt l k != 0)=true:=by simp[hx]
    go_wp2;go_ret;exact⟨ret_b (by rw[isZeroB,allB_false g (by simpa using hx)]),rfl⟩
  ·go_wp2
   go_ret;exact⟨ret_b (by rw[isZeroB,allB_true.2 (λi m=>n.out i (by omega))]),rfl⟩
def eqB {α:Type} [DecidableEq α] (a b:α):Bool:=decide (a=b)
theorem eqB_true {α:Type} [DecidableEq α] {a b:α} : eqB a b=true↔a=b:=by simp[eqB]
theorem eqB_false {α:Type} [DecidableEq α] {a b:α} : eqB a b=false↔¬a=b:=by simp[eqB]
theorem eqB_false_at {α:Type} [DecidableEq α] [Inhabited α] {a b:List α}{k:Nat}(hx:¬gt a k=gt b k):eqB a b=false:=eqB_false.2 (λe=>hx (by rw[e]))
set_option maxHeartbeats 400000 in
theorem sEqual_ok (v1 q:Value) (e g:List Int) (w:World) (z A:Nat->Prop) (h1:Ints z w v1 e) (r:Ints A w q g) :
  Calls Tryz.prog 151 #[v1,q] w (Ret w λ_ v=>v=.bool (eqB e g)):=by
 obtain⟨a,cap,rfl,_,_⟩:=h1.shape;obtain⟨a2,cap2,rfl,_,_⟩:=r.shape;by_cases l:e.length=g.length
 ·have B:((e.length:Int) != (g.length:Int))=false:=by simp[l]
  have C:e.length<=g.length/\g.length<=e.length:=by omega
  have n:=Lib.hid l;clear l;go_enter Tryz.func151,Tryz.ntmps151;go_wp2;go_loopw [13] (λi wr=>∃k:Nat,i=.int .i64 k/\k<=e.length/\Ext w wr/\∀i,i<k->gt e i=gt g i) (λi _=>e.length-(intOf i).toNat)
  case atStart=>exact⟨0,rfl,by omega,Ext.refl _,λi u=>by omega⟩
  case round=>
   obtain⟨k,rfl,hk,m,hz⟩:=hrel;have y:=Lib.hid hz;clear hz;by_cases p:k<e.length
   ·obtain ⟨b,off,rfl,_,_,hc⟩:=Ints.at (h1.ext m) k p
    obtain⟨b2,off2,rfl,_,_,hc2⟩:=Ints.at (r.ext m) k (by omega);by_cases hx:gt e k=gt g k
    ·have D:(gt e k != gt g k)=false:=by simp[hx]
     have j:=Lib.hid hx;clear hx;go_wp2;go_quiet (fail)
     go_wp2;go_roundw
     case rel=>exact⟨k+1,by go_num,by omega,grown_trans m (grown_drewN _ _ _),λi u=>by
      rcases Nat.lt_or_ge i k with h1|h1
      ·exact y.out i h1
      ·have:i=k:=by omega
       rw[this,j.out]⟩
     case measure=>simp[intOf];omega
    ·have D:(gt e k != gt g k)=true:=by simp[hx]
     have j:=Lib.hid hx;clear hx;go_wp2;go_quiet (fail)
     go_wp2;go_ret;exact ret_bool (grown_trans m (grown_drewN _ _ _)) (by rw[eqB_false_at (hx:=j.out)])
   ·go_wp2
    go_ret;exact ret_bool m (by rw[eqB_true.2 (ext_gt n.out (λi u=>y.out i (by omega)))])
 ·have B:((e.length:Int) != (g.length:Int))=true:=by simp;omega
  have n:=Lib.hid l;clear l;go_enter Tryz.func151,Tryz.ntmps151;go_wp2;go_ret;exact ret_bool (Ext.refl _) (by rw[eqB_false.2 (λh=>n.out (by rw[h]))])
set_option maxHeartbeats 400000 in
theorem l01Same_ok (v1 q:Value) (e g:List Int) (w:World) (z A:Nat->Prop) (h1:Ints z w v1 e) (r:Ints A w q g) :
  Calls Tryz.prog 153 #[v1,q] w (Ret w λ_ v=>v=.bool (eqB e g)):=by
 obtain⟨a,cap,rfl,_,_⟩:=h1.shape;obtain⟨a2,cap2,rfl,_,_⟩:=r.shape;by_cases l:e.length=g.length
 ·have B:((e.length:Int) != (g.length:Int))=false:=by simp[l]
  have C:e.length<=g.length/\g.length<=e.length:=by omega
  have n:=Lib.hid l;clear l;go_enter Tryz.func153,Tryz.ntmps153;go_wp2;go_loopw [5] (λi wr=>∃k:Nat,i=.int .i64 k/\k<=e.length/\Ext w wr/\∀i,i<k->gt e i=gt g i) (λi _=>e.length-(intOf i).toNat)
  case atStart=>exact⟨0,rfl,by omega,Ext.refl _,λi u=>by omega⟩
  case round=>
   obtain⟨k,rfl,hk,m,hz⟩:=hrel;have y:=Lib.hid hz;clear hz;by_cases p:k<e.length
   ·obtain ⟨b,off,rfl,_,_,hc⟩:=Ints.at (h1.ext m) k p
    obtain⟨b2,off2,rfl,_,_,hc2⟩:=Ints.at (r.ext m) k (by omega);by_cases hx:gt e k=gt g k
    ·have D:(gt e k != gt g k)=false:=by simp[hx]
     have j:=Lib.hid hx;clear hx;go_wp2;go_quiet (fail)
     go_wp2;go_roundw
     case rel=>exact⟨k+1,by go_num,by omega,grown_trans m (grown_drewN _ _ _),λi u=>by
      rcases Nat.lt_or_ge i k with h1|h1
      ·exact y.out i h1
      ·have:i=k:=by omega
       rw[this,j.out]⟩
     case measure=>simp[intOf];omega
    ·have D:(gt e k != gt g k)=true:=by simp[hx]
     have j:=Lib.hid hx;clear hx;go_wp2;go_quiet (fail)
     go_wp2;go_ret;exact ret_bool (grown_trans m (grown_drewN _ _ _)) (by rw[eqB_false_at (hx:=j.out)])
   ·go_wp2
    go_ret;exact ret_bool m (by rw[eqB_true.2 (ext_gt n.out (λi u=>y.out i (by omega)))])
 ·have B:((e.length:Int) != (g.length:Int))=true:=by simp;omega
  have n:=Lib.hid l;clear l;go_enter Tryz.func153,Tryz.ntmps153;go_wp2;go_ret;exact ret_bool (Ext.refl _) (by rw[eqB_false.2 (λh=>n.out (by rw[h]))])
def primeB (n:Int):Bool:=decide (n=2\/n=3\/n=5\/n=7)
set_option maxHeartbeats 400000 in
theorem isGroupPrime_ok (n:Int) (w:World):Calls Tryz.prog 284 #[.int .i64 n] w λe w'=>e=.returned (.bool (primeB n))/\w=w':=by
 by_cases a:n=2
 ·subst a;go_enter Tryz.func284,Tryz.ntmps284;go_wp2;go_ret;exact⟨ret_b (by decide),rfl⟩
 by_cases b:n=3
 ·subst b;go_enter Tryz.func284,Tryz.ntmps284;go_wp2;go_ret;exact⟨ret_b (by decide),rfl⟩
 by_cases g:n=5
 ·subst g;go_enter Tryz.func284,Tryz.ntmps284;go_wp2;go_ret;exact⟨ret_b (by decide),rfl⟩
 by_cases i:n=7
 ·subst i;go_enter Tryz.func284,Tryz.ntmps284;go_wp2;go_ret;exact⟨ret_b (by decide),rfl⟩
 have l:(n == 2)=false:=by simp[a]
 have m:(n == 3)=false:=by simp[b]
 have p:(n == 5)=false:=by simp[g]
 have q:(n == 7)=false:=by simp[i]
 have j:primeB n=false:=by simp[primeB,a,b,g,i]
 have k:=Lib.hid j;clear a b g i j;go_enter Tryz.func284,Tryz.ntmps284;go_wp2;go_ret;exact⟨ret_b k.out.symm,rfl⟩
set_option maxHeartbeats 400000 in
theorem l01Prime_ok (n:Int) (w:World):Calls Tryz.prog 275 #[.int .i64 n] w λe w'=>e=.returned (.bool (primeB n))/\w=w':=by
 by_cases a:n=2
 ·subst a;go_enter Tryz.func275,Tryz.ntmps275;go_wp2;go_ret;exact⟨ret_b (by decide),rfl⟩
 by_cases b:n=3
 ·subst b;go_enter Tryz.func275,Tryz.ntmps275;go_wp2;go_ret;exact⟨ret_b (by decide),rfl⟩
 by_cases g:n=5
 ·subst g;go_enter Tryz.func275,Tryz.ntmps275;go_wp2;go_ret;exact⟨ret_b (by decide),rfl⟩
 by_cases i:n=7
 ·subst i;go_enter Tryz.func275,Tryz.ntmps275;go_wp2;go_ret;exact⟨ret_b (by decide),rfl⟩
 have l:(n == 2)=false:=by simp[a]
 have m:(n == 3)=false:=by simp[b]
 have p:(n == 5)=false:=by simp[g]
 have q:(n == 7)=false:=by simp[i]
 have j:primeB n=false:=by simp[primeB,a,b,g,i]
 have k:=Lib.hid j;clear a b g i j;go_enter Tryz.func275,Tryz.ntmps275;go_wp2;go_ret;exact⟨ret_b k.out.symm,rfl⟩
def unitV (n k:Nat):List Int:=(List.replicate n 0).set k 1
set_option maxHeartbeats 400000 in
theorem unitVector_ok (n k:Nat) (w:World) (hk:k<n) (m:n<=1000):Calls Tryz.prog 250 #[.int .i64 n,.int .i64 k] w (Ret w λw' v=>Own w.heap.size w' v (unitV n k)):=by
 go_enter Tryz.func250,Tryz.ntmps250;go_wp2_with (at_make;refine wp_make_ints rfl _ _ rfl w.heap.size n w.heap.size rfl _ rfl rfl rfl (by omega) (Nat.le_refl _) ?_;intro p a b _;have e:=a.cell k (by simpa using hk);have g:=a.frozen k)
 go_ret;obtain⟨h1,h2⟩:=a.store k 1;exact⟨_,rfl,grown_own b h2 (λj i l=>by cases i;omega),h1⟩
set_option maxHeartbeats 400000 in
theorem l07Unit_ok (n k:Nat) (w:World) (hk:k<n) (m:n<=1000):Calls Tryz.prog 308 #[.int .i64 n,.int .i64 k] w (Ret w λw' v=>Own w.heap.size w' v (unitV n k)):=by
 go_enter Tryz.func308,Tryz.ntmps308;go_wp2_with (at_make;refine wp_make_ints rfl _ _ rfl w.heap.size n w.heap.size rfl _ rfl rfl rfl (by omega) (Nat.le_refl _) ?_;intro p a b _;have e:=a.cell k (by simpa using hk);have g:=a.frozen k)
 go_ret;obtain⟨h1,h2⟩:=a.store k 1;exact⟨_,rfl,grown_own b h2 (λj i l=>by cases i;omega),h1⟩
set_option maxHeartbeats 400000 in
theorem l01Own_ok (w:World) (v:Value) (l:List Int) (S:Nat->Prop) (g:Ints S w v l) (n:l.length<=1048576) :
  Calls Tryz.prog 199 #[v] w (Ret w λw' r=>Own w.heap.size w' r l):=by
 obtain⟨a,cap,rfl,_,_⟩:=g.shape;go_enter Tryz.func199,Tryz.ntmps199;go_wp2_with (at_builtin;refine wp_app_ints rfl _ _ rfl w.heap.size _ [] rfl (World.ownsRow_lit w #[] 0 (Nat.le_refl _) (by decide) rfl) _ l rfl S (g.ext (World.grownBy_alloc _ _ _)) (by simp;omega) (by simp) ?_;intro p q b e i)
 go_ret;exact⟨_,rfl,grown_own (World.grownBy_alloc _ _ _) e (λj k m=>by have:=own_blk k;omega),b⟩
def expB (o e:List Int):Bool:=decide (e.length=o.length) && allB e.length (λi=>inB (gt e i) 0 (gt o i-1))
set_option maxHeartbeats 400000 in
theorem isExponents_ok (w:World) (p v:Value) (P:Pr) (e:List Int) (S S':Nat->Prop) (n:PresP S w p P) (q:Ints S' w v e) (r:∀i,i<P.orders.length->0<=gt P.orders i/\gt P.orders i<=7) :
  Calls Tryz.prog 116 #[p,v] w λl w'=>l=.returned (.bool (expB P.orders e))/\w=w':=by
 obtain⟨pb,po,rfl⟩:=n.shape;obtain⟨a,cap,rfl,_,_⟩:=q.shape;obtain⟨F,capo,fo,hoi⟩:=n.ordAt;have u:=Lib.hid r;clear r;by_cases g:e.length=P.orders.length
 ·have A:((e.length:Int) != (P.orders.length:Int))=false:=by simp[g]
  have B:e.length<=P.orders.length/\P.orders.length<=e.length:=by omega
  have m:=Lib.hid g;clear g;go_enter Tryz.func116,Tryz.ntmps116;go_wp2;go_loop [17] (λi=>∃k:Nat,i=.int .i64 k/\k<=e.length/\∀i,i<k->inB (gt e i) 0 (gt P.orders i-1)=true) (λi=>e.length-(intOf i).toNat)
  case atStart=>exact⟨0,rfl,by omega,λi y=>by omega⟩
  case round=>
   obtain⟨k,rfl,hk,hz⟩:=hrel;have z:=Lib.hid hz;clear hz;by_cases j:k<e.length
   ·obtain ⟨b,off,rfl,_,_,hc⟩:=Ints.at q k j
    obtain⟨b2,off2,rfl,_,_,hc2⟩:=Ints.at hoi k (by omega);have C:=(u.out k (by omega)).1;have D:=(u.out k (by omega)).2;cases hx:inB (gt e k) 0 (gt P.orders k-1) with
    | true=>
     go_wp2_with (go_at_call 126;refine(inside_ok _ _ _ _).mono ?_;rintro l E ⟨rfl,rfl⟩)
     go_round
     case rel=>exact⟨k+1,by go_num,by omega,λi y=>by
      rcases Nat.lt_or_ge i k with h1|h1
      ·exact z.out i h1
      ·have:i=k:=by omega
       rw[this,hx]⟩
     case measure=>simp[intOf];omega
    | false=>
     go_wp2_with (go_at_call 126;refine(inside_ok _ _ _ _).mono ?_;rintro l E ⟨rfl,rfl⟩)
     go_ret;exact⟨ret_b (by rw[expB,allB_false j hx,Bool.and_false]),rfl⟩
   ·go_wp2
    go_ret;exact⟨ret_b (by rw[expB,allB_true.2 (λi y=>z.out i (by omega)),Bool.and_true,decide_eq_true m.out]),rfl⟩
 ·have A:((e.length:Int) != (P.orders.length:Int))=true:=by simp;omega
  have m:=Lib.hid g;clear g;go_enter Tryz.func116,Tryz.ntmps116;go_wp2;go_ret;exact⟨ret_b (by rw[expB,decide_eq_false m.out,Bool.false_and]),rfl⟩
def Dr (w w':World):Prop:=∃n,w'=w.drewN n
theorem Dr.refl (w:World):Dr w w:=⟨0,rfl⟩
theorem Dr.step {w w':World}(h:Dr w w') (n:Nat):Dr w (w'.drewN n):=by
 obtain⟨m,rfl⟩:=h;exact⟨m+n,by rw[World.drewN_drewN]⟩
theorem Dr.ext {w w':World}(h:Dr w w'):Ext w w':=by
 obtain⟨n,rfl⟩:=h;exact grown_drewN _ _ _
def Rd (w:World) (v:Value) (e:Ending) (w':World):Prop:=e=.returned v/\Dr w w'
theorem rd_b {w w':World}{a b:Bool}(e:Dr w w') (h:b=a):Rd w (.bool a) (.returned (.bool b)) w':=⟨by rw[h],e⟩
theorem quiet_rd {f:FuncId}{args:Array Value}{w:World}{n:Nat}{v:Value}(h:Calls Tryz.prog f args (w.drewN n) (Rd (w.drewN n) v)) :
  Calls Tryz.prog f args (w.drewN n) λe a=>e=.returned v/\∃m,a=w.drewN m:=
 Calls.quiet_of (h.mono λ_ _ h=>h)
theorem quiet_eq {f:FuncId}{args:Array Value}{w:World}{n:Nat}{v:Value}(h:Calls Tryz.prog f args (w.drewN n) λe w'=>e=.returned v/\w.drewN n=w') :
  Calls Tryz.prog f args (w.drewN n) λe a=>e=.returned v/\∃m,a=w.drewN m:=
 Calls.quiet_of_same (h.mono λ_ _ h=>⟨h.1,h.2.symm⟩)
def expZB (o e:List Int) (z:Int):Bool:=decide (e.length=o.length) && allB e.length (λi=>inB (gt e i) 0 (gt o i-1) && !(decide ((i:Int)<=z) && (gt e i != 0)))
set_option maxHeartbeats 1000000 in
theorem l07Exponents_ok (w:World) (vo v:Value) (o e:List Int) (z:Int) (S S':Nat->Prop) (q:Ints S w vo o) (C:Ints S' w v e) (D:∀i,i<o.length->0<=gt o i/\gt o i<=7) :
  Calls Tryz.prog 224 #[vo,v,.int .i64 z] w (Rd w (.bool (expZB o e z))):=by
 obtain⟨M,capo,rfl,_,_⟩:=q.shape;obtain⟨a,cap,rfl,_,_⟩:=C.shape;have E:=Lib.hid D;clear D;by_cases r:e.length=o.length
 ·have H : ((e.length:Int) != (o.length:Int))=false:=by simp[r]
  have u:e.length<=o.length/\o.length<=e.length:=by omega
  have y:=Lib.hid r;clear r;go_enter Tryz.func224,Tryz.ntmps224;go_wp2;go_loopw [7] (λi wr=>∃k:Nat,i=.int .i64 k/\k<=e.length/\Dr w wr/\∀i,i<k->(inB (gt e i) 0 (gt o i-1) && !(decide ((i:Int)<=z) && (gt e i != 0)))=true) (λi _=>e.length-(intOf i).toNat)
  case atStart=>exact⟨0,rfl,by omega,Dr.refl _,λi A=>by omega⟩
  case round=>
   obtain⟨k,rfl,hk,g,hz⟩:=hrel;have B:=Lib.hid hz;clear hz;by_cases m:k<e.length
   ·obtain ⟨b,off,rfl,_,_,hc⟩:=Ints.at (C.ext g.ext) k m
    obtain⟨b2,off2,rfl,_,_,hc2⟩:=Ints.at (q.ext g.ext) k (by omega);have I:=(E.out k (by omega)).1;have J:=(E.out k (by omega)).2;have K:(k:Int)<e.length:=by omega
    have L:(k:Int)<o.length:=by omega
    clear u;cases hx:inB (gt e k) 0 (gt o k-1) with
    | true =>
     by_cases l:(k:Int)<=z
     ·have n:decide ((k:Int)<=z)=true:=by simpa using l
      by_cases p:gt e k=0
      ·have F:(gt e k != 0)=false:=by simp[p]
       have G:=Lib.hid p;clear p;have j:IntKind.i64.wrap (gt o k-1)=gt o k-1:=IntWalk.i64_in _ (by omega);go_wp2;go_quiet ((go_at_call 209;exact quiet_eq (l01In_ok _ _ _ _)))
       clear j;go_wp2;go_roundw
       case rel=>exact⟨k+1,by go_num,by omega,g.step _,λi A=>by
        rcases Nat.lt_or_ge i k with h1|h1
        ·exact B.out i h1
        ·have:i=k:=by omega
         rw[this,hx,G.out];simp⟩
       case measure=>simp[intOf];omega
      ·have F:(gt e k != 0)=true:=by simp[p]
       have G:=Lib.hid p;clear p;have j:IntKind.i64.wrap (gt o k-1)=gt o k-1:=IntWalk.i64_in _ (by omega);go_wp2;go_quiet ((go_at_call 209;exact quiet_eq (l01In_ok _ _ _ _)))
       clear j;go_wp2;go_ret;exact rd_b (g.step _) (by rw[expZB,allB_false m (by rw[hx,n,F];rfl),Bool.and_false])
     ·have n:decide ((k:Int)<=z)=false:=by simpa using l
      have N:=Lib.hid l;clear l;have j:IntKind.i64.wrap (gt o k-1)=gt o k-1:=IntWalk.i64_in _ (by omega);go_wp2;go_quiet ((go_at_call 209;exact quiet_eq (l01In_ok _ _ _ _)))
      clear j;go_wp2;go_roundw
      case rel=>exact⟨k+1,by go_num,by omega,g.step _,λi A=>by
       rcases Nat.lt_or_ge i k with h1|h1
       ·exact B.out i h1
       ·have:i=k:=by omega
        rw[this,hx,n];simp⟩
      case measure=>simp[intOf];omega
    | false=>
     have j:IntKind.i64.wrap (gt o k-1)=gt o k-1:=IntWalk.i64_in _ (by omega);go_wp2;go_quiet ((go_at_call 209;exact quiet_eq (l01In_ok _ _ _ _)))
     clear j;go_wp2;go_ret;exact rd_b (g.step _) (by rw[expZB,allB_false m (by rw[hx];rfl),Bool.and_false])
   ·go_wp2
    go_ret;exact rd_b g (by rw[expZB,allB_true.2 (λi A=>B.out i (by omega)),Bool.and_true,decide_eq_true y.out])
 ·have H:((e.length:Int) != (o.length:Int))=true:=by simp;omega
  have y:=Lib.hid r;clear r;go_enter Tryz.func224,Tryz.ntmps224;go_wp2;go_ret;exact rd_b (Dr.refl _) (by rw[expZB,decide_eq_false y.out,Bool.false_and])
structure RdOk {α:Type}(El:(Nat->Prop)->World->Value->α->Prop):Prop where
 mono:∀ {F F':Nat->Prop}{w w':World}{u:Value}{x:α},El F w u x->(∀k,F k->k<w.heap.size->F' k/\k<w'.heap.size/\w'.heap[k]? = w.heap[k]?)->El F' w' u x
 one:∀ {F:Nat->Prop}{w:World}{u:Value}{x:α},El F w u x->u.oneCell'=true
def SlD {α:Type} [Inhabited α] (El:(Nat->Prop)->World->Value->α->Prop) (F:Nat->Prop) (w:World) (v:Value) (xs:List α):Prop:=
 ∃ (G:Nat->Nat->Prop) (H:Nat->Prop),(∀k,H k->F k)/\(∀i k,i<xs.length->G i k->F k/\¬H k)/\(∀i j k,i<xs.length->j<xs.length->G i k->G j k->i=j) /\
  ∃ a cap,v=.slice a xs.length cap/\(xs.length<=cap/\xs.length<=9223372036854775807/\(a=none->cap=0)) /\
   ∀i,i<xs.length->∃b off u,a=some ⟨b,off,none⟩/\H b/\b<w.heap.size/\w.cell? ⟨b,off+i,none⟩=some u/\El (G i) w u (gt xs i)
def SlO {α:Type} [Inhabited α] (El:(Nat->Prop)->World->Value->α->Prop) (E B:Nat) (w:World) (v:Value) (xs:List α):Prop:=
 ∃ (a:List Value) (G:Nat->Nat->Prop),a.length=xs.length/\OwnV B E w v a/\(∀i k,i<xs.length->G i k->B<=k/\v.ownBlock≠some k/\k<w.heap.size) /\
  (∀i j k,i<xs.length->j<xs.length->G i k->G j k->i=j)/\∀i,i<xs.length->El (G i) w (gt a i) (gt xs i)
theorem SlO.nil {α:Type} [Inhabited α] (El:(Nat->Prop)->World->Value->α->Prop) (E B:Nat) (w:World):SlO El E B w (.slice none 0 0) ([]:List α):=
 ⟨[],λ_ _=>False,rfl,World.ownsRow_nil _ _ _ _,by simp,by simp,by simp⟩
theorem OwnV.form {B E:Nat}{w:World}{v:Value}{xs:List Value}(h:OwnV B E w v xs) :
  (v=.slice none 0 0/\xs=[])\/∃g cap,v=.slice (some ⟨g,0,none⟩) xs.length cap/\xs.length<=cap/\B<=g/\g<w.heap.size:=by
 have a:=h.lt;obtain⟨_,h|⟨g,cap,cur,b,hg,hb,hnc,_⟩⟩:=h
 ·exact .inl ⟨h.1,List.eq_nil_of_length_eq_zero h.2⟩
 ·exact .inr ⟨g,cap,b,hnc,hg,(a g (by rw[b];rfl)).2⟩
theorem OwnV.cell {B E g cap n:Nat}{w:World}{xs:List Value}(h:OwnV B E w (.slice (some ⟨g,0,none⟩) n cap) xs) (j:Nat) (a:j<xs.length):w.cell? ⟨g,j,none⟩=some (gt xs j):=by
 have b:n=xs.length:=by
  obtain⟨_,⟨h,_⟩|⟨_,_,_,h,_⟩⟩:=h<;>cases h;rfl
 subst b;have:=World.ownsRow.cellAt h j (by omega);rw[this];simp[gt,a]
theorem SlO.toD {α:Type} [Inhabited α] {El:(Nat->Prop)->World->Value->α->Prop}{E B:Nat}{w:World}{v:Value}{xs:List α}(h:SlO El E B w v xs) (j:xs.length<=9223372036854775807):SlD El (From B) w v xs:=by
 obtain⟨l,G,a,hO,e,hd,hE⟩:=h;refine⟨G,λk=>B<=k/\v.ownBlock=some k,λk hk=>hk.1,λi k b hk=>⟨(e i k b hk).1,λh=>(e i k b hk).2.1 h.2⟩,hd,?_⟩;rcases hO.form with⟨rfl,rfl⟩|⟨g,cap,rfl,hnc,jh,hgs⟩
 ·have:xs.length=0:=by simpa using a.symm
  exact⟨none,0,by rw[this],⟨by omega,by omega,λ_=>rfl⟩,λi b=>by omega⟩
 ·refine ⟨_,cap,by rw[a],⟨by omega,j,λh=>by cases h⟩,λi b=>⟨g,0,gt l i,rfl,⟨jh,rfl⟩,hgs,?_,hE i b⟩⟩
  rw[Nat.zero_add];exact hO.cell i (by omega)
theorem SlD.mono {α:Type} [Inhabited α] {El:(Nat->Prop)->World->Value->α->Prop}(m:RdOk El) {F F':Nat->Prop}{w w':World}{v:Value}{xs:List α}(h:SlD El F w v xs)
  (l:∀k,F k->k<w.heap.size->F' k/\k<w'.heap.size/\w'.heap[k]? = w.heap[k]?):SlD El F' w' v xs:=by
 obtain⟨G,H,h1,n,h3,a,cap,hv,hl,hc⟩:=h
 refine ⟨λi k=>G i k/\k<w.heap.size,λk=>H k/\k<w.heap.size,λk hk=>(l k (h1 k hk.1) hk.2).1,λi k e hk=>⟨(l k (n i k e hk.1).1 hk.2).1,λh=>(n i k e hk.1).2 h.1⟩,
  λi j k e y hk p=>h3 i j k e y hk.1 p.1,a,cap,hv,hl,λi e => ?_⟩
 obtain⟨b,off,u,e1,q,r,e4,e5⟩:=hc i e;obtain⟨f1,f2,f3⟩:=l b (h1 b q) r;exact⟨b,off,u,e1,⟨q,r⟩,f2,(World.cell?_of_block (w:=w) f3).trans e4,m.mono e5 (λk hk g=>⟨⟨hk,g⟩,(l k (n i k e hk).1 g).2⟩)⟩
theorem SlD.shape {α:Type} [Inhabited α] {El:(Nat->Prop)->World->Value->α->Prop}{F:Nat->Prop}{w:World}{v:Value}{xs:List α}(h:SlD El F w v xs) :
  ∃a cap,v=.slice a xs.length cap/\xs.length<=cap/\xs.length<=9223372036854775807:=by
 obtain⟨_,_,_,_,_,a,cap,hv,hl,_⟩:=h;exact⟨a,cap,hv,hl.1,hl.2.1⟩
theorem rdInts:RdOk (λF w u (x:List Int)=>Ints F w u x):=
 ⟨λh b=>Ints.mono h b,λh=>by obtain⟨a,cap,rfl,_⟩:=h;rfl⟩
def OwnIn (F:Nat->Prop) (w:World) (v:Value) (l:List Int):Prop:=Own 0 w v l/\(∀k,v.ownBlock=some k->F k)/\l.length<=9223372036854775807
theorem ownsRow_move {base base' E:Nat}{w w':World}{v:Value}{n:Nat}{xs:List Value}(h:w.ownsRow base E 1 v n xs) (a:∀k,v.ownBlock=some k->w'.heap[k]? = w.heap[k]? /\ base'<=k):w'.ownsRow base' E 1 v n xs:=by
 obtain⟨h1,b⟩:=h;refine⟨h1,?_⟩;rcases b with h|⟨g,cap,cur,rfl,hg,hc,r⟩
 ·exact .inl h
 ·exact .inr ⟨g,cap,cur,rfl,(a g rfl).2,by rw[(a g rfl).1];exact hc,r⟩
theorem rdOwn:RdOk OwnIn:=by
 refine⟨λ{F F' w w' u x} h b => ?_,λ{F w u x} h => ?_⟩
 ·obtain ⟨h1,e,h3⟩:=h
  have a:=h1.lt;exact⟨ownsRow_move h1 (λk hk=>⟨(b k (e k hk) (a k hk).2).2.2,Nat.zero_le _⟩),λk hk=>(b k (e k hk) (a k hk).2).1,h3⟩
 ·obtain ⟨⟨_,h|⟨g,cap,cur,i,_⟩⟩,_⟩:=h
  ·rw[h.1];rfl
  ·rw[i];rfl
theorem OwnIn.ints {F:Nat->Prop}{w:World}{v:Value}{l:List Int}(h:OwnIn F w v l):Ints F w v l:=ints_of_own h.1 h.2.2 h.2.1
theorem OwnIn.of {base:Nat}{F:Nat->Prop}{w:World}{v:Value}{l:List Int}(h:Own base w v l) (a:l.length<=9223372036854775807) (hF:∀k,base<=k->k<w.heap.size->F k):OwnIn F w v l:=
 ⟨h.weak (Nat.zero_le _),λk hk=>hF k (h.lt k hk).1 (h.lt k hk).2,a⟩
abbrev RowsD (F:Nat->Prop) (w:World) (v:Value) (xs:List (List Int)):Prop:=SlD OwnIn F w v xs
abbrev RowsO (B:Nat) (w:World) (v:Value) (xs:List (List Int)):Prop:=SlO OwnIn 24 B w v xs
theorem rdRows:RdOk (λF w u (x:List (List Int))=>RowsD F w u x):=
 ⟨λh b=>SlD.mono rdOwn h b,λh=>by obtain⟨_,_,_,_,_,a,cap,rfl,_⟩:=h;rfl⟩
abbrev Rows3D (F:Nat->Prop) (w:World) (v:Value) (xs:List (List (List Int))):Prop:=SlD (λF w u (x:List (List Int))=>RowsD F w u x) F w v xs
theorem RowsD.rows {F:Nat->Prop}{w:World}{v:Value}{xs:List (List Int)}(h:RowsD F w v xs):Rows2 F w v xs:=by
 obtain⟨G,H,h1,g,h3,a,cap,hv,hl,hc⟩:=h;refine⟨a,cap,hv,hl,λi e => ?_⟩;obtain⟨b,off,u,e1,e2,e3,e4,e5⟩:=hc i e;exact⟨b,off,u,e1,h1 b e2,e3,e4,Ints.sub e5.ints (λk hk _=>(g i k e hk).1)⟩
theorem Rows3D.rows {F:Nat->Prop}{w:World}{v:Value}{xs:List (List (List Int))}(h:Rows3D F w v xs):Rows3 F w v xs:=by
 obtain⟨G,H,h1,g,h3,a,cap,hv,hl,hc⟩:=h;refine⟨a,cap,hv,hl,λi e => ?_⟩;obtain⟨b,off,u,e1,e2,e3,e4,j⟩:=hc i e;exact⟨b,off,u,e1,h1 b e2,e3,e4,Rows2.sub (RowsD.rows j) (λk hk _=>(g i k e hk).1)⟩
theorem SlO.ext {α:Type} [Inhabited α] {El:(Nat->Prop)->World->Value->α->Prop}(j:RdOk El) {E B:Nat}{w w':World}{v:Value}{xs:List α}(h:SlO El E B w v xs) (g:Ext w w'):SlO El E B w' v xs:=by
 obtain⟨m,G,hvl,hO,hG,hd,n⟩:=h;refine⟨m,G,hvl,hO.kept g (by cases p:v.ownBlock<;>simp),λi k l hk => ?_,hd,λi l=>j.mono (n i l) (λk hk e=>⟨hk,Nat.lt_of_lt_of_le e g.size,g.block k e (by simp)⟩)⟩;obtain⟨a,b,c⟩:=hG i k l hk;exact⟨a,b,Nat.lt_of_lt_of_le c g.size⟩
theorem SlO.weak {α:Type} [Inhabited α] {El:(Nat->Prop)->World->Value->α->Prop}{E B B':Nat}{w:World}{v:Value}{xs:List α}(h:SlO El E B w v xs) (hB:B'<=B):SlO El E B' w v xs:=by
 obtain⟨e,G,hvl,hO,hG,hd,hE⟩:=h;refine⟨e,G,hvl,?_,λi k j hk => ?_,hd,hE⟩
 ·obtain ⟨h1,l⟩:=hO
  refine⟨h1,?_⟩;rcases l with h|⟨g,cap,cur,hv,hg,r⟩
  ·exact .inl h
  ·exact .inr ⟨g,cap,cur,hv,Nat.le_trans hB hg,r⟩
 ·obtain ⟨a,b,c⟩:=hG i k j hk
  exact⟨Nat.le_trans hB a,b,c⟩
theorem wp_app_one {α:Type} [Inhabited α] {El:(Nat->Prop)->World->Value->α->Prop}(r:RdOk El) (T E:Nat) (z:Value) (bytes:Nat) (hT:Tryz.prog.underlying T=some (.slice E))
  (hE:(Tryz.prog.info? E).map (λi=>(i.zero,i.size,i.bytes))=some (some z,1,bytes)) (O:z.cells.size=1) (P:bytes<=64)
  {D:Array Oper}{rest:List Oper}{o:Oper}{a:Act}{Q:Exit->Act->World->Prop}{w:World}(R:o.guard=none) (s x:Operand)
  (ho:o.op=Op.call { callee:=Callee.builtin Builtin.append,args := #[s,x],argTypes := #[T,T] }) (B:Nat) (n g:World) (v u:Value) (xs:List α) (y:α) (hs:a.eval s=v) (F:SlO El E B n v xs)
  (M:Ext n g) (Z:El (From n.heap.size) g u y) (hw:w=g.alloc (.cells #[u] E)) (hx:a.eval x=.slice (some ⟨g.heap.size,0,none⟩) 1 1) (aa:xs.length<=1000000) (S:B<=n.heap.size)
  (h:∀H w',SlO El E B w' H (xs++[y])->n.grownBy w' v.ownBlock->g.grownBy w' v.ownBlock->wpList Tryz.prog D Q rest (a.put o.dst H) w') :
  wpList Tryz.prog D Q (o :: rest) a w:=by
 subst hw;obtain⟨U,G,A,hO,hG,hd,V⟩:=F;have I:Ext g (g.alloc (.cells #[u] E)):=World.grownBy_alloc _ _ _;have W:OwnV B E (g.alloc (.cells #[u] E)) v U:=hO.kept (grown_trans M I) (by cases hv:v.ownBlock<;>simp);refine wp_app T E z bytes hT hE O P R s x ho B v U hs W (some ⟨g.heap.size,0,none⟩) 1 1 [u] hx rfl (by simp) ?_ ?_ (by omega) (by have:=M.size;simp;omega) ?_
 ·intro j hj
  have:j=0:=by omega
  subst this;exact⟨g.heap.size,0,rfl,by rw[World.cell?_alloc_at _ _ _ _ rfl];rfl⟩
 ·intro u' J
  simp at J;subst J;exact r.one Z
 ·intro H w' h1 h2 _ X
  have K:∀k,v.ownBlock=some k->B<=k/\k<n.heap.size:=hO.lt;have m:g.grownBy w' v.ownBlock:=grown_trans (grown_of_ext _ I) h2;have p:n.grownBy w' v.ownBlock:=grown_trans (grown_of_ext _ M) m
  have q:∀k,H.ownBlock=some k->v.ownBlock=some k\/g.heap.size<k:=by
   intro k hk;rcases X with h|h
   ·exact .inl (by rw[<-h];exact hk)
   ·rw [h] at hk
    have:(g.alloc (.cells #[u] E)).heap.size=k:=by simpa using hk
    simp at this
    exact .inr (by omega)
  refine h H w' ⟨U++[u],λi k=>if i<xs.length then G i k/\k<n.heap.size else n.heap.size<=k/\k<g.heap.size,by simp[A],h1,?_,?_,?_⟩ p m
  ·intro i k N hk
   split at hk
   ·rename_i l
    obtain⟨a1,a2,a3⟩:=hG i k l hk.1;refine⟨a1,λC => ?_,Nat.lt_of_lt_of_le a3 p.size⟩;rcases q k C with h|h
    ·exact a2 h
    ·have:=M.size;omega
   ·refine ⟨by omega,λC => ?_,Nat.lt_of_lt_of_le hk.2 m.size⟩
    rcases q k C with h|h
    ·have:=K k h;omega
    ·omega
  ·intro i j k N hj hk L
   simp only[List.length_append,List.length_singleton] at N hj;split at hk<;>split at L
   ·exact hd i j k (by assumption) (by assumption) hk.1 L.1
   ·omega
   ·omega
   ·omega
  ·intro i N
   simp only[List.length_append,List.length_singleton] at N;by_cases l:i<xs.length
   ·rw [gt_append_left _ _ _ (by omega),gt_append_left _ _ _ l]
    simp only[if_pos l];exact r.mono (V i l) (λk hk b=>⟨⟨hk,b⟩,Nat.lt_of_lt_of_le b p.size,p.block k b (λe=>(hG i k l hk).2.1 e.symm)⟩)
   ·have Y:i=xs.length:=by omega
    subst Y;rw[gt_concat,<-A,gt_concat];simp only[A,Nat.lt_irrefl,if_false]
    exact r.mono Z (λk hk b=>⟨⟨hk,b⟩,Nat.lt_of_lt_of_le b m.size,m.block k b (λe=>by
     have hk:n.heap.size<=k:=hk;have:=K k e.symm;omega)⟩)
def TgenOk (P:Pr) (a:Nat):Prop:=
 ∀ (base:Nat) (w:World) (p e:Value) (E:List Int) (j:Nat),PresP (Off e.ownBlock) w p P->Own base w e E->Vec P.orders E->j<P.orders.length->P.orders.length<=a+j ->
  Calls Tryz.prog 280 #[p,e,.int .i64 j] w (Mut w e.ownBlock λw' v=>v=.tuple #[]/\Own base w' e (tgen P a E j))
set_option maxHeartbeats 1000000 in
theorem timesVector_of (P:Pr) (hP:Valid P) (g:Nat) (K:TgenOk P g) (base:Nat) (w:World) (p e f:Value) (E F:List Int) (L:PresP (Off e.ownBlock) w p P) (M:Own base w e E)
  (N:Vec P.orders E) (O:Ints (Off e.ownBlock) w f F) (hF:Vec P.orders F) (H:∀j,j<P.orders.length->gt F j≠0->P.orders.length<=g+j) :
  Calls Tryz.prog 207 #[p,e,f] w (Mut w e.ownBlock λw' v=>v=.tuple #[]/\Own base w' e (tvec (tgen P g) E F)):=by
 have Q:F.length<=P.orders.length:=by rw[hF.1];omega
 obtain⟨a,cap,rfl,hl,qJ⟩:=O;go_enter Tryz.func207,Tryz.ntmps207;go_wp2;go_loopw [10] (λi wr=>∃k:Nat,i=.int .i64 k/\k<=F.length/\w.grownBy wr e.ownBlock/\Own base wr e (tvecTo (tgen P g) F E k)) (λi _=>F.length-(intOf i).toNat)
 case atStart=>exact⟨0,rfl,by omega,grown_refl _ _,M⟩
 case round=>
  obtain⟨k,rfl,hk,l,hO⟩:=hrel;by_cases y:k<F.length
  ·obtain ⟨b,off,u,rfl,hS,hb,hc,z⟩:=qJ k y
   have A:wr.cell? ⟨b,off+k,none⟩=some u:=l.cell hc (λh=>hS h.symm);have z:u=.int .i64 (gt F k):=z;subst z;have hx:=hF.2 k (by omega);have R:0<=gt F k:=hx.1;have B:=hP.ord7 k (by omega);have S:gt F k<=7:=by omega
   have C:Vec P.orders (tvecTo (tgen P g) F E k):=tvecTo_vec (λe j T I U=>tgen_vec hP g e j T I (H j I U)) N k (by omega);clear hx B qJ hc;go_wp2;go_loopw [16] (λi wr=>∃m:Nat,i=.int .i64 m/\m<=(gt F k).toNat/\w.grownBy wr e.ownBlock/\Own base wr e (iter m (λe=>tgen P g e k) (tvecTo (tgen P g) F E k))) (λi _=>(gt F k).toNat-(intOf i).toNat)
   case atStart=>exact⟨0,rfl,by omega,l,hO⟩
   case round=>
    clear l hO A;obtain⟨m,rfl,hm,l,hO⟩:=hrel;by_cases J:(m:Int)<gt F k
    ·have n:P.orders.length<=g+k:=H k (by omega) (by omega)
     have D:Vec P.orders (iter m (λe=>tgen P g e k) (tvecTo (tgen P g) F E k)):=iter_inv (Vec P.orders) _ (λx hx=>tgen_vec hP g x k hx (by omega) n) _ _ C;go_wp2_with (go_at_call 280;go_must (refine(K base _ p e _ k (L.mono (frame_of l λk h _=>⟨h,h⟩)) hO D (by omega) n).mono ?_);rintro V W ⟨v1,rfl,hg1,rfl,iP⟩)
     go_roundw
     case rel=>exact⟨m+1,by go_num,by omega,grown_trans l hg1,iP⟩
     case measure=>simp[intOf];omega
    ·have q:m=(gt F k).toNat:=by omega
     have G:Hid (Own base wr e (tvecTo (tgen P g) F E (k+1))):=by rw[q] at hO;exact hO
     clear hO q;go_wp2;go_roundw
     case rel=>exact⟨k+1,by go_num,by omega,l,G.out⟩
     case measure=>simp[intOf];omega
  ·have r:k=F.length:=by omega
   have G:Hid (Own base wr e (tvec (tgen P g) E F)):=by rw[r] at hO;exact hO
   clear hO r;go_wp2;go_end0
   exact⟨_,rfl,l,rfl,G.out⟩
set_option maxHeartbeats 1000000 in
theorem timesGenerator_of (P:Pr) (hP:Valid P) (a:Nat) (ih:TgenOk P a):TgenOk P (a+1):=by
 intro base w p e E j hp hE hv L hf;have a7:E.length<=P.orders.length/\P.orders.length<=E.length:=by rw[hv.1];omega
 have a8:=hP.n6;obtain⟨g,cap,rfl,hgb,hgs⟩:=hE.form (by omega);obtain⟨pb,po,rfl⟩:=hp.shape;have hs:=λw=>run_tail w (some ⟨g,0,none⟩) E.length cap ((j:Int)+1) (by omega) (by omega);go_enter Tryz.func280,Tryz.ntmps280
 have al:Ints Any w (subSl (.slice (some ⟨g,0,none⟩) E.length cap) (j+1) E.length) (E.drop (j+1)):=by
  have:=subSl_ints (ints_of_own hE (by omega) (S:=Any) (λ_ _=>trivial)) (j+1) E.length (by omega) (by omega);rwa [List.take_length] at this
 have a':=hv.2 j L;have ba:=hP.ord7 j L;go_wp2_with fail
 refine(clone_ok w _ (E.drop (j+1)) Any al (by simp;omega)).mono ?_;rintro e1 w1 ⟨r,rfl,T,hR⟩;clear al hs;have aQ:(E.drop (j+1)).length+j+1=E.length:=by simp;omega
 have am:∀k,k<(E.drop (j+1)).length->0<=gt (E.drop (j+1)) k/\gt (E.drop (j+1)) k<=7:=by
  intro k hk;have h1:=hv.2 (j+1+k) (by omega);have h2:=hP.ord7 (j+1+k) (by omega);have h3:gt (E.drop (j+1)) k=gt E (j+1+k):=by simp only[gt,List.getD_eq_getElem?_getD,List.getElem?_drop]
  rw[h3];omega
 have U:Ints (From w.heap.size) w1 r (E.drop (j+1)):=ints_of_own hR (by omega) (λk hk=>(hR.lt k hk).1);generalize an:E.drop (j+1)=R at *;obtain⟨ar,u,rfl,_,_⟩:=U.shape;have a4:R.length+j+1<=E.length/\E.length<=R.length+j+1:=by omega
 have HR:=Lib.hid an;clear an aQ;have aR:=Lib.hid am;clear am;go_wp2;go_loopw [17] (λi wr=>∃k:Nat,i=.int .i64 k/\k<=R.length/\w1.grownBy wr (some g)/\Own base wr (.slice (some ⟨g,0,none⟩) E.length cap) (zeroed E j k)) (λi _=>R.length-(intOf i).toNat)
 case atStart=>exact⟨0,rfl,by omega,grown_refl _ _,by rw[zeroed_zero];exact hE.ext T (.inr (by simp[Value.ownBlock]))⟩
 case round=>
  obtain⟨k,rfl,hk,v,hO⟩:=hrel;by_cases A:k<R.length
  ·have B:=length_zeroed E j k (by omega)
   have hc:=hO.cell (j+1+k) (by omega);have aq:=hO.frozen (j+1+k);have HL:=Lib.hid B;clear B;go_wp2;go_roundw
   case rel=>
    obtain⟨h1,h2⟩:=hO.store (j+1+k) 0;exact⟨k+1,by go_num,by omega,grown_trans v h2,by rw[zeroed_succ _ _ _ (by omega)];exact h1⟩
   case measure=>simp[intOf];omega
  ·have V:k=R.length:=by omega
   subst V;have B:=length_zeroed E j R.length (by omega);have au:gt (zeroed E j R.length) j=gt E j:=by rw[gt_zeroed _ _ _ _ (by omega),if_neg (by omega)]
   have hc:=hO.cell j (by omega);rw[au] at hc;have aq:=hO.frozen j;have HL:=Lib.hid B;clear B;have av:=hO.store j (gt E j+1);clear au;go_wp2;generalize hW:wr.setCell ⟨g,j,none⟩ (.int .i64 (gt E j+1))=z at av ⊢;obtain⟨q,W⟩:=av;clear hW hc aq;have C:w.grownBy z (some g):=grown_trans (grown_trans (grown_of_ext _ T) v) W;obtain⟨ao,capo,hc0,jG⟩:=(hp.mono (frame_of C λk h _=>⟨h,h⟩)).ordAt;obtain⟨bo,oo,rfl,_,_,fo⟩:=Ints.at jG j L;have M:((zeroed E j R.length).set j (gt E j+1)).length=E.length:=by rw[List.length_set];exact HL.out
   have G:=q.cell j (by omega);rw[gt_set_eq _ _ _ (by have:=HL.out;omega)] at G;have X:=q.frozen j;have H:Ints (Off (some g)) z (.slice ar R.length u) R:=(U.sub (S':=Off (some g)) (λk hk _=>by unfold Off;intro he;cases he;have:w.heap.size<=g:=hk;omega)).mono (frame_of (grown_trans v W) λk h _=>⟨h,h⟩);have ax:Vec P.orders (zeroed E j R.length):=hv.zeroed j R.length (by omega);have ay:=Lib.hid ax;clear ax;have bg:=Lib.hid M;clear M;clear v W hO hR U T hk A jG;have Y:=hP.cv j L;have aU:R.length<=(gt P.conj j).length:=by rw[Y.1];omega
   have aV:j<P.conj.length:=by rw[hP.cl];exact L
   have az:∀k,k<R.length->Vec P.orders (gt (gt P.conj j) k)/\(∀i,i<P.orders.length->gt (gt (gt P.conj j) k) i≠0->P.orders.length<=a+i):=by
    intro k hk;obtain⟨h1,h2⟩:=Y.2 k (by omega);refine⟨h1,λi Z h0 => ?_⟩;have:¬i<=j:=λh=>h0 (h2 i h);omega
   have aA:=Lib.hid az;clear az Y
   have N:∀n,n=(if gt E j+1=gt P.orders j then tvec (tgen P a) (((zeroed E j R.length).set j (gt E j+1)).set j 0) (gt P.powers j) else (zeroed E j R.length).set j (gt E j+1)) ->
     tgen P (a+1) E j=tconjTo (tgen P a) (gt P.conj j) R n R.length:=by
    intro n h2;have hr:R=E.drop (j+1):=HR.out.symm;rw[h2,hr];rfl
   have HF:=Lib.hid N;clear N;by_cases b:gt E j+1=gt P.orders j
   case' pos=>
    have hb:(gt E j+1 == gt P.orders j)=true:=by simp[b]
    obtain⟨n,l⟩:∃n,n=tvec (tgen P a) (((zeroed E j R.length).set j (gt E j+1)).set j 0) (gt P.powers j):=⟨_,rfl⟩;have aB:=Lib.hid (HF.out n (by rw[if_pos b];exact l));clear HF;have aC:Vec P.orders (((zeroed E j R.length).set j (gt E j+1)).set j 0):=by rw[List.set_set];exact ay.out.set j 0 ⟨by omega,λ_=>by omega⟩
    have I:=hP.pv j L
    have ab:∀i,i<P.orders.length->gt (gt P.powers j) i≠0->P.orders.length<=a+i:=by
     intro i Z h0;have:¬i<=j:=λh=>h0 (I.2 i h);omega
    have aD:Vec P.orders n:=by
     rw[l];exact tvec_vec I.1 (λe i he Z h0=>tgen_vec hP a e i he Z (ab i Z h0)) aC
    have aW:=Lib.hid l;clear l;have HC:=Lib.hid b;clear b;have aX:=Lib.hid ab;clear ab;have aY:=Lib.hid I.1;clear I;go_quiet (fail)
    rename_i nq _;have aE:Own base (z.drewN nq) (.slice (some ⟨g,0,none⟩) E.length cap) ((zeroed E j R.length).set j (gt E j+1)):=q;have O:w.grownBy (z.drewN nq) (some g):=grown_trans C (grown_drewN _ _ _);have aF:Ints (Off (some g)) (z.drewN nq) (.slice ar R.length u) R:=H.mono (frame_of (grown_drewN _ _ (some g)) λk h _=>⟨h,h⟩);have aG:(z.drewN nq).cell? ⟨g,j,none⟩=some (.int .i64 (gt E j+1)):=G;have aH:(z.drewN nq).frozen? ⟨g,j,none⟩=false:=X;clear fo G X hc0 q H C;generalize z.drewN nq=W3 at *;obtain⟨aI,ad⟩:=aE.store j 0;have D:w.grownBy (W3.setCell ⟨g,j,none⟩ (.int .i64 0)) (some g):=grown_trans O ad;have ae:PresP (Off (some g)) (W3.setCell ⟨g,j,none⟩ (.int .i64 0)) (.pointer (some ⟨pb,po,none⟩)) P:=hp.mono (frame_of D λk h _=>⟨h,h⟩);obtain⟨ap,capp,hpc,hpr⟩:=ae.powAt;obtain⟨bp,op,C7,C8,rfl,_,_,uM,qK⟩:=Rows2.at hpr j (by rw[hP.pl];exact L);have bk:j<P.powers.length:=by rw[hP.pl];exact L
    go_wp2_with fail
    refine Calls.mono (timesVector_of P hP a ih base _ _ _ _ _ (gt P.powers j) ?_ ?_ aC ?_ aY.out aX.out) ?_
    ·exact ae
    ·exact aI
    ·exact qK
    rintro e5 W5 ⟨v5,rfl,af,rfl,ag⟩;rw[<-aW.out] at ag;have F:w.grownBy W5 (some g):=grown_trans D af;have aJ:Ints (Off (some g)) W5 (.slice ar R.length u) R:=aF.mono (frame_of (grown_trans ad af) λk h _=>⟨h,h⟩);clear aG aH aE aF O ae hpc hpr uM qK aI ad D af;go_wp2
   case' neg=>
    have hb:(gt E j+1 == gt P.orders j)=false:=by simp[b]
    obtain⟨n,l⟩:∃n,n=(zeroed E j R.length).set j (gt E j+1):=⟨_,rfl⟩;have aB:=Lib.hid (HF.out n (by rw[if_neg b];exact l));clear HF;have aD:Vec P.orders n:=by rw[l];exact ay.out.set j _ ⟨by omega,λ_=>by omega⟩
    rw[<-l] at q;have HC:=Lib.hid b;clear b l;go_quiet (fail)
    rename_i nq _;have F:w.grownBy (z.drewN nq) (some g):=grown_trans C (grown_drewN _ _ _);have ag:Own base (z.drewN nq) (.slice (some ⟨g,0,none⟩) E.length cap) n:=q;have aJ:Ints (Off (some g)) (z.drewN nq) (.slice ar R.length u) R:=H.mono (frame_of (grown_drewN _ _ (some g)) λk h _=>⟨h,h⟩);go_wp2;clear fo G X hc0 q H C;generalize z.drewN nq=W5 at *
   all_goals
    go_loopw [60] (λi wr=>∃k:Nat,i=.int .i64 k/\k<=R.length/\W5.grownBy wr (some g)/\Own base wr (.slice (some ⟨g,0,none⟩) E.length cap) (tconjTo (tgen P a) (gt P.conj j) R n k)/\Vec P.orders (tconjTo (tgen P a) (gt P.conj j) R n k)) (λi _=>R.length-(intOf i).toNat)
    case atStart=>exact⟨0,rfl,by omega,grown_refl _ _,ag,aD⟩
    case round=>
     obtain⟨k,rfl,hk,v,hO,y⟩:=hrel;by_cases A:k<R.length
     ·have J:=Lib.hid (aA.out k A);clear aA
      have ah:=aR.out k A;have bl:0<=gt R k:=ah.1;have bm:gt R k<=7:=ah.2;obtain⟨br,or,rfl,hbr,_,lu⟩:=Ints.at aJ k A;have K:wr.cell? ⟨br,or+k,none⟩=some (.int .i64 (gt R k)):=v.cell lu (λh=>hbr h.symm);clear lu ah;go_wp2;go_loopw [66] (λi wr=>∃m:Nat,i=.int .i64 m/\m<=(gt R k).toNat/\W5.grownBy wr (some g)/\Own base wr (.slice (some ⟨g,0,none⟩) E.length cap) (iter m (λe=>tvec (tgen P a) e (gt (gt P.conj j) k)) (tconjTo (tgen P a) (gt P.conj j) R n k))/\Vec P.orders (iter m (λe=>tvec (tgen P a) e (gt (gt P.conj j) k)) (tconjTo (tgen P a) (gt P.conj j) R n k))) (λi _=>(gt R k).toNat-(intOf i).toNat)
      case atStart=>exact⟨0,rfl,by omega,v,hO,y⟩
      case round=>
       clear v hO K y;obtain⟨m,rfl,hm,v,hO,y⟩:=hrel;by_cases a6:(m:Int)<gt R k
       ·have ai:PresP (Off (some g)) wr (.pointer (some ⟨pb,po,none⟩)) P:=hp.mono (frame_of (grown_trans F v) λk h _=>⟨h,h⟩)
        obtain⟨ac,capc,hcc,K⟩:=ai.conjAt;obtain⟨bc,oc,kE,uN,rfl,_,_,qL,qM⟩:=Rows3.at K j aV;obtain⟨bd,od,uO,uP,rfl,_,_,uQ,Q⟩:=Rows2.at qM k (by omega);clear K qM;go_wp2_with fail
        refine Calls.mono (timesVector_of P hP a ih base wr _ _ _ _ (gt (gt P.conj j) k) ai hO y Q J.out.1 J.out.2) ?_;rintro e6 W6 ⟨v6,rfl,kF,rfl,nY⟩;have aZ:W5.grownBy W6 (some g):=grown_trans v kF;have a0:=tvec_vec J.out.1 (λe i he Z h0=>tgen_vec hP a e i he Z (J.out.2 i Z h0)) y;clear qL uQ hcc Q ai hO kF v;go_wp2;go_roundw
        case rel=>exact⟨m+1,by go_num,by omega,aZ,nY,a0⟩
        case measure=>simp[intOf];omega
       ·have a1:m=(gt R k).toNat:=by omega
        subst a1;go_wp2;go_roundw
        case rel=>exact⟨k+1,by go_num,by omega,v,hO,y⟩
        case measure=>simp[intOf];omega
     ·have V:k=R.length:=by omega
      subst V;go_wp2;go_end0
      exact⟨_,rfl,grown_trans F v,rfl,by rw[aB.out];exact hO⟩
end Go.Proofs.YtdcobapnlpeaaaaGreat
