/- Merged from templates. -/
import Derived.Test.YtldheeicjnncoaaGreatRows
import Derived.WalkKit
import Derived.WalkSpells
import Derived.WalkLawsBesides
import Derived.Lib.Hide
import Derived.Laws.AppendOwnNone
import Derived.Maps.AppendAt
import Derived.Deep.QuietTactic
import Derived.BigQuiet
import Derived.Deep.DeepCutAuto
import Derived.StillTailTactics
import Derived.Deep.RegionHeld3
namespace Go.Proofs.YtldheeicjnncoaaGreat
open Go.RowKit
def gt {α:Type} [Inhabited α] (xs:List α) (i:Nat):α:=xs.getD i default
theorem gt_eq {α:Type} [Inhabited α] (xs:List α) (i:Nat) (h:i<xs.length):gt xs i=xs[i]:=by
 simp[gt,h]
theorem gt_append_left {α:Type} [Inhabited α] (xs a:List α) (i:Nat) (h:i<xs.length):gt (xs++a) i=gt xs i:=by
 simp[gt,List.getElem?_append_left h]
theorem gt_concat {α:Type} [Inhabited α] (xs:List α) (x:α):gt (xs++[x]) xs.length=x:=by
 simp[gt]
theorem gt_set_eq {α:Type} [Inhabited α] (xs:List α) (i:Nat) (x:α) (h:i<xs.length):gt (xs.set i x) i=x:=by
 simp[gt,h]
theorem gt_set_ne {α:Type} [Inhabited α] (xs:List α) (i j:Nat) (x:α) (h:i≠j):gt (xs.set i x) j=gt xs j:=by
 simp[gt,List.getElem?_set_ne h]
theorem take_succ_gt {α:Type} [Inhabited α] (xs:List α) (k:Nat) (h:k<xs.length):xs.take (k+1)=xs.take k++[gt xs k]:=by
 rw[gt_eq xs k h,List.take_succ_eq_append_getElem h]
theorem gt_map {α a:Type} [Inhabited α] [Inhabited a] (f:α->a) (xs:List α) (i:Nat) (h:i<xs.length):gt (xs.map f) i=f (gt xs i):=by
 simp[gt,h]
theorem ext_gt {α:Type} [Inhabited α] {xs a:List α}(h:xs.length=a.length) (b:∀i,i<xs.length->gt xs i=gt a i):xs=a:=by
 apply List.ext_getElem h;intro i h1 e;rw[<-gt_eq xs i h1,<-gt_eq a i e];exact b i h1
def Sl {α:Type} [Inhabited α] (El:World->Value->α->Prop) (S:Nat->Prop) (w:World) (v:Value) (xs:List α):Prop:=
 ∃ a cap,v=.slice a xs.length cap/\(xs.length<=cap/\xs.length<=9223372036854775807/\(a=none->cap=0)) /\
  ∀i,i<xs.length->∃b off u,a=some ⟨b,off,none⟩/\S b/\b<w.heap.size/\w.cell? ⟨b,off+i,none⟩=some u/\El w u (gt xs i)
def IntEl (_:World) (u:Value) (x:Int):Prop:=u=.int .i64 x
abbrev Ints (S:Nat->Prop) (w:World) (v:Value) (l:List Int):Prop:=Sl IntEl S w v l
abbrev Rows2 (S:Nat->Prop) (w:World) (v:Value) (l:List (List Int)):Prop:=Sl (λw u x=>Ints S w u x) S w v l
abbrev Rows3 (S:Nat->Prop) (w:World) (v:Value) (l:List (List (List Int))):Prop:=Sl (λw u x=>Rows2 S w u x) S w v l
abbrev Ext (w w':World):Prop:=w.grownBy w' none
theorem Ext.refl (w:World):Ext w w:=⟨rfl,rfl,rfl,Nat.le_refl _,λ_ _ _=>rfl⟩
theorem grown_refl (w:World) (r:Option Nat):w.grownBy w r:=⟨rfl,rfl,rfl,Nat.le_refl _,λ_ _ _=>rfl⟩
theorem grown_drew (w:World) (r:Option Nat):w.grownBy w.drew r:=⟨rfl,rfl,rfl,Nat.le_refl _,λ_ _ _=>rfl⟩
theorem grown_drewN (w:World) (n:Nat) (r:Option Nat):w.grownBy (w.drewN n) r:=⟨rfl,rfl,rfl,Nat.le_refl _,λ_ _ _=>rfl⟩
theorem grown_trans {a b c:World}{r:Option Nat}(h:a.grownBy b r) (k:b.grownBy c r):a.grownBy c r:=
 ⟨k.os.trans h.os,k.tape.trans h.tape,k.output.trans h.output,Nat.le_trans h.size k.size,
  λi hi e=>(k.block i (Nat.lt_of_lt_of_le hi h.size) e).trans (h.block i hi e)⟩
theorem grown_of_ext {a b:World}(r:Option Nat) (h:Ext a b):a.grownBy b r:=
 ⟨h.os,h.tape,h.output,h.size,λi hi _=>h.block i hi (by simp)⟩
theorem grown_own {a b c:World}{r:Option Nat}{q:Option Nat}(h:a.grownBy b r) (k:b.grownBy c q) (m:∀j,q=some j->j<a.heap.size->r=some j):a.grownBy c r:=
 ⟨k.os.trans h.os,k.tape.trans h.tape,k.output.trans h.output,Nat.le_trans h.size k.size,
  λi hi l=>(k.block i (Nat.lt_of_lt_of_le hi h.size) (λe=>l (m i e.symm hi).symm)).trans (h.block i hi l)⟩
theorem Ext.below {a b:World}(h:Ext a b):Below a.heap.size a b:=
 ⟨h.os,h.tape,h.output,h.size,λk hk=>h.block k hk (by simp)⟩
theorem Sl.shape {α:Type} [Inhabited α] {El:World->Value->α->Prop}{S:Nat->Prop}{w:World}{v:Value}{xs:List α}(h:Sl El S w v xs) :
  ∃a cap,v=.slice a xs.length cap/\xs.length<=cap/\xs.length<=9223372036854775807:=by
 obtain⟨a,cap,hv,hl,_⟩:=h;exact⟨a,cap,hv,hl.1,hl.2.1⟩
theorem Sl.at {α:Type} [Inhabited α] {El:World->Value->α->Prop}{S:Nat->Prop}{w:World}{a:Option Addr}{n cap:Nat}{xs:List α}(h:Sl El S w (.slice a n cap) xs) (i:Nat) (hi:i<xs.length) :
  ∃b off u,a=some ⟨b,off,none⟩/\S b/\b<w.heap.size/\w.cell? ⟨b,off+i,none⟩=some u/\El w u (gt xs i):=by
 obtain⟨e,cap',hv,_,hc⟩:=h;cases hv
 exact hc i hi
theorem Ints.at {S:Nat->Prop}{w:World}{a:Option Addr}{n cap:Nat}{xs:List Int}(h:Sl IntEl S w (.slice a n cap) xs) (i:Nat) (hi:i<xs.length) :
  ∃b off,a=some ⟨b,off,none⟩/\S b/\b<w.heap.size/\w.cell? ⟨b,off+i,none⟩=some (.int .i64 (gt xs i)):=by
 obtain⟨b,off,u,h1,h2,h3,j,e⟩:=h.at i hi;have e:u=.int .i64 (gt xs i):=e;exact⟨b,off,h1,h2,h3,by rw[j,e]⟩
theorem Sl.nil_of_none {α:Type} [Inhabited α] {El:World->Value->α->Prop}{S:Nat->Prop}{w:World}{n cap:Nat}{xs:List α}(h:Sl El S w (.slice none n cap) xs):xs=[]/\cap=0:=by
 obtain⟨a,cap',hv,hl,hc⟩:=h;cases hv
 refine⟨?_,hl.2.2 rfl⟩;cases xs with
 | nil=>rfl
 | cons x l=>obtain⟨b,off,u,h,_⟩:=hc 0 (by simp);cases h
theorem Sl.mono {α:Type} [Inhabited α] {El e:World->Value->α->Prop}{S S':Nat->Prop}{w w':World}{v:Value}{xs:List α}(h:Sl El S w v xs)
  (l:∀k,S k->k<w.heap.size->S' k/\k<w'.heap.size/\w'.heap[k]? = w.heap[k]?) (m:∀u x,El w u x->e w' u x):Sl e S' w' v xs:=by
 obtain⟨a,cap,hv,hl,hc⟩:=h;refine⟨a,cap,hv,hl,λi hi => ?_⟩;obtain⟨b,off,u,ha,hS,hlt,hu,hx⟩:=hc i hi;obtain⟨j,hlt',hk⟩:=l b hS hlt;exact⟨b,off,u,ha,j,hlt',(World.cell?_of_block (w:=w) hk).trans hu,m _ _ hx⟩
theorem Ints.mono {S S':Nat->Prop}{w w':World}{v:Value}{xs:List Int}(h:Ints S w v xs)
  (a:∀k,S k->k<w.heap.size->S' k/\k<w'.heap.size/\w'.heap[k]? = w.heap[k]?):Ints S' w' v xs:=Sl.mono h a (λ_ _ h=>h)
theorem Rows2.mono {S S':Nat->Prop}{w w':World}{v:Value}{xs:List (List Int)}(h:Rows2 S w v xs)
  (a:∀k,S k->k<w.heap.size->S' k/\k<w'.heap.size/\w'.heap[k]? = w.heap[k]?):Rows2 S' w' v xs:=Sl.mono h a (λ_ _ h=>Ints.mono h a)
theorem Rows3.mono {S S':Nat->Prop}{w w':World}{v:Value}{xs:List (List (List Int))}(h:Rows3 S w v xs)
  (a:∀k,S k->k<w.heap.size->S' k/\k<w'.heap.size/\w'.heap[k]? = w.heap[k]?):Rows3 S' w' v xs:=Sl.mono h a (λ_ _ h=>Rows2.mono h a)
theorem frame_of {S S':Nat->Prop}{w w':World}{r:Option Nat}(b:w.grownBy w' r) (i:∀k,S k->k<w.heap.size->S' k/\r≠some k) :
  ∀k,S k->k<w.heap.size->S' k/\k<w'.heap.size/\w'.heap[k]? = w.heap[k]? :=
 λk hk a=>⟨(i k hk a).1,Nat.lt_of_lt_of_le a b.size,b.block k a (λe=>(i k hk a).2 e.symm)⟩
theorem frame_ext {S:Nat->Prop}{w w':World}(a:Ext w w'):∀k,S k->k<w.heap.size->S k/\k<w'.heap.size/\w'.heap[k]? = w.heap[k]? :=
 frame_of a (λ_ h _=>⟨h,by simp⟩)
theorem Ints.ext {S:Nat->Prop}{w w':World}{v:Value}{xs:List Int}(h:Ints S w v xs) (a:Ext w w'):Ints S w' v xs:=h.mono (frame_ext a)
theorem Rows2.ext {S:Nat->Prop}{w w':World}{v:Value}{xs:List (List Int)}(h:Rows2 S w v xs) (a:Ext w w'):Rows2 S w' v xs:=Rows2.mono h (frame_ext a)
theorem Rows3.ext {S:Nat->Prop}{w w':World}{v:Value}{xs:List (List (List Int))}(h:Rows3 S w v xs) (a:Ext w w'):Rows3 S w' v xs:=Rows3.mono h (frame_ext a)
theorem Ints.sub {S S':Nat->Prop}{w:World}{v:Value}{xs:List Int}(h:Ints S w v xs) (b:∀k,S k->k<w.heap.size->S' k):Ints S' w v xs:=
 h.mono (λk hk a=>⟨b k hk a,a,rfl⟩)
theorem Rows2.sub {S S':Nat->Prop}{w:World}{v:Value}{xs:List (List Int)}(h:Rows2 S w v xs) (b:∀k,S k->k<w.heap.size->S' k):Rows2 S' w v xs:=
 Rows2.mono h (λk hk a=>⟨b k hk a,a,rfl⟩)
theorem Rows3.sub {S S':Nat->Prop}{w:World}{v:Value}{xs:List (List (List Int))}(h:Rows3 S w v xs) (b:∀k,S k->k<w.heap.size->S' k):Rows3 S' w v xs:=
 Rows3.mono h (λk hk a=>⟨b k hk a,a,rfl⟩)
structure Pr where
 orders:List Int
 powers:List (List Int)
 conj:List (List (List Int))
 deriving Inhabited
structure Pres3 (S:Nat->Prop) (w:World) (vo vp vc:Value) (P:Pr):Prop where
 o:Ints S w vo P.orders
 p:Rows2 S w vp P.powers
 c:Rows3 S w vc P.conj
theorem Pres3.mono {S S':Nat->Prop}{w w':World}{vo vp vc:Value}{P:Pr}(h:Pres3 S w vo vp vc P)
  (a:∀k,S k->k<w.heap.size->S' k/\k<w'.heap.size/\w'.heap[k]? = w.heap[k]?):Pres3 S' w' vo vp vc P:=
 ⟨Ints.mono h.o a,Rows2.mono h.p a,Rows3.mono h.c a⟩
theorem Pres3.ext {S:Nat->Prop}{w w':World}{vo vp vc:Value}{P:Pr}(h:Pres3 S w vo vp vc P) (a:Ext w w'):Pres3 S w' vo vp vc P:=h.mono (frame_ext a)
def PresP (S:Nat->Prop) (w:World) (v:Value) (P:Pr):Prop:=
 ∃ b off vo vp vc,v=.pointer (some ⟨b,off,none⟩)/\S b/\b<w.heap.size/\w.cell? ⟨b,off,none⟩=some vo/\w.cell? ⟨b,off+1,none⟩=some vp/\w.cell? ⟨b,off+2,none⟩=some vc /\
  Pres3 S w vo vp vc P
theorem PresP.mono {S S':Nat->Prop}{w w':World}{v:Value}{P:Pr}(h:PresP S w v P)
  (e:∀k,S k->k<w.heap.size->S' k/\k<w'.heap.size/\w'.heap[k]? = w.heap[k]?):PresP S' w' v P:=by
 obtain⟨b,off,vo,vp,vc,hv,hS,hlt,h0,h1,h2,h3⟩:=h;obtain⟨a,hlt',hk⟩:=e b hS hlt;exact⟨b,off,vo,vp,vc,hv,a,hlt',(World.cell?_of_block (w:=w) hk).trans h0,(World.cell?_of_block (w:=w) hk).trans h1,(World.cell?_of_block (w:=w) hk).trans h2,h3.mono e⟩
theorem PresP.ext {S:Nat->Prop}{w w':World}{v:Value}{P:Pr}(h:PresP S w v P) (a:Ext w w'):PresP S w' v P:=h.mono (frame_ext a)
theorem PresP.sub {S S':Nat->Prop}{w:World}{v:Value}{P:Pr}(h:PresP S w v P) (b:∀k,S k->k<w.heap.size->S' k):PresP S' w v P:=
 h.mono (λk hk a=>⟨b k hk a,a,rfl⟩)
theorem PresP.shape {S:Nat->Prop}{w:World}{v:Value}{P:Pr}(h:PresP S w v P):∃b off,v=.pointer (some ⟨b,off,none⟩):=by
 obtain⟨b,off,_,_,_,hv,_⟩:=h;exact⟨b,off,hv⟩
theorem PresP.at {S:Nat->Prop}{w:World}{b off:Nat}{P:Pr}(h:PresP S w (.pointer (some ⟨b,off,none⟩)) P) :
  ∃vo vp vc,S b/\b<w.heap.size/\w.cell? ⟨b,off,none⟩=some vo/\w.cell? ⟨b,off+1,none⟩=some vp/\w.cell? ⟨b,off+2,none⟩=some vc/\Pres3 S w vo vp vc P:=by
 obtain⟨a,off',vo,vp,vc,hv,h⟩:=h;cases hv
 exact⟨vo,vp,vc,h⟩
theorem PresP.ordAt {S:Nat->Prop}{w:World}{b off:Nat}{P:Pr}(h:PresP S w (.pointer (some ⟨b,off,none⟩)) P) :
  ∃a cap,w.cell? ⟨b,off,none⟩=some (.slice a P.orders.length cap)/\Ints S w (.slice a P.orders.length cap) P.orders:=by
 obtain⟨vo,vp,vc,_,_,h0,_,_,hq⟩:=h.at;obtain⟨a,cap,rfl,_,_⟩:=hq.o.shape;exact⟨a,cap,h0,hq.o⟩
theorem PresP.powAt {S:Nat->Prop}{w:World}{b off:Nat}{P:Pr}(h:PresP S w (.pointer (some ⟨b,off,none⟩)) P) :
  ∃a cap,w.cell? ⟨b,off+1,none⟩=some (.slice a P.powers.length cap)/\Rows2 S w (.slice a P.powers.length cap) P.powers:=by
 obtain⟨vo,vp,vc,_,_,_,h0,_,hq⟩:=h.at;obtain⟨a,cap,rfl,_,_⟩:=Sl.shape hq.p;exact⟨a,cap,h0,hq.p⟩
theorem PresP.conjAt {S:Nat->Prop}{w:World}{b off:Nat}{P:Pr}(h:PresP S w (.pointer (some ⟨b,off,none⟩)) P) :
  ∃a cap,w.cell? ⟨b,off+2,none⟩=some (.slice a P.conj.length cap)/\Rows3 S w (.slice a P.conj.length cap) P.conj:=by
 obtain⟨vo,vp,vc,_,_,_,_,h0,hq⟩:=h.at;obtain⟨a,cap,rfl,_,_⟩:=Sl.shape hq.c;exact⟨a,cap,h0,hq.c⟩
theorem Rows2.at {S:Nat->Prop}{w:World}{a:Option Addr}{n cap:Nat}{xs:List (List Int)}(h:Sl (λw u x=>Ints S w u x) S w (.slice a n cap) xs) (i:Nat) (hi:i<xs.length) :
  ∃b off j e,a=some ⟨b,off,none⟩/\S b/\b<w.heap.size/\w.cell? ⟨b,off+i,none⟩=some (.slice j (gt xs i).length e)/\Ints S w (.slice j (gt xs i).length e) (gt xs i):=by
 obtain⟨b,off,u,h1,h2,h3,h4,h5⟩:=Sl.at h i hi;obtain⟨j,e,rfl,_,_⟩:=Sl.shape h5;exact⟨b,off,j,e,h1,h2,h3,h4,h5⟩
theorem Rows3.at {S:Nat->Prop}{w:World}{a:Option Addr}{n cap:Nat}{xs:List (List (List Int))}(h:Sl (λw u x=>Rows2 S w u x) S w (.slice a n cap) xs) (i:Nat) (hi:i<xs.length) :
  ∃b off j e,a=some ⟨b,off,none⟩/\S b/\b<w.heap.size/\w.cell? ⟨b,off+i,none⟩=some (.slice j (gt xs i).length e)/\Rows2 S w (.slice j (gt xs i).length e) (gt xs i):=by
 obtain⟨b,off,u,h1,h2,h3,h4,h5⟩:=Sl.at h i hi;obtain⟨j,e,rfl,_,_⟩:=Sl.shape h5;exact⟨b,off,j,e,h1,h2,h3,h4,h5⟩
def PresV (S:Nat->Prop) (w:World) (v:Value) (P:Pr):Prop:=∃vo vp vc,v=.agg #[vo,vp,vc]/\Pres3 S w vo vp vc P
def Ret (w:World) (φ : World->Value->Prop) (e:Ending) (w':World):Prop:=∃v,e=.returned v/\Ext w w'/\φ w' v
def Mut (w:World) (r:Option Nat) (φ : World->Value->Prop) (e:Ending) (w':World):Prop:=∃v,e=.returned v/\w.grownBy w' r/\φ w' v
theorem Calls.rel {f:FuncId}{args:Array Value}{w w0:World}{φ : World->Value->Prop}(a:Ext w0 w) (h:Calls Tryz.prog f args w (Ret w φ)) :
  Calls Tryz.prog f args w λe w'=>∃v,e=.returned v/\Ext w0 w'/\w0.heap.size<=w.heap.size/\φ w' v:=
 h.mono λ_ _ ⟨v,he,hg,hv⟩=>⟨v,he,grown_trans a hg,a.size,hv⟩
def Any:Nat->Prop:=λ_=>True
def From (B:Nat):Nat->Prop:=λk=>B<=k
def Off (r:Option Nat):Nat->Prop:=λk=>r≠some k
abbrev Own (base:Nat) (w:World) (v:Value) (l:List Int):Prop:=w.ownsRow base 2 1 v l.length (l.map (Value.int .i64))
theorem Tryz.infoInt:(Tryz.prog.info? 2).map (λi=>(i.zero,i.size,i.bytes))=some (some (.int .i64 0),1,8):=by kernel_rfl
theorem ints_of_own {base:Nat}{S:Nat->Prop}{w:World}{v:Value}{l:List Int}(h:Own base w v l) (j:l.length<=9223372036854775807) (m:∀k,v.ownBlock=some k->S k):Ints S w v l:=by
 have a:=h.lt;obtain⟨_,h⟩:=h;rcases h with⟨b,hn⟩|⟨g,cap,e,b,hg,hb,hnc,hcm,hsz,hx⟩
 ·exact⟨none,0,by rw[b,hn],⟨by omega,j,λ_=>rfl⟩,λi hi=>by omega⟩
 ·subst b
  refine⟨_,cap,rfl,⟨hnc,j,λh=>by cases h⟩,λi hi=>⟨g,0,.int .i64 (gt l i),rfl,m g rfl,(a g rfl).2,?_,rfl⟩⟩;have h1:(e.toList.take (l.length*1))[i]? = (l.map (Value.int .i64))[i]? :=by rw[hx]
  simp only[World.cell?,hb,Nat.zero_add,Option.isSome_none,Bool.false_eq_true,if_false];rw[List.getElem?_take_of_lt (by omega)] at h1;rw[<-Array.getElem?_toList,h1];simp[gt,hi]
theorem own_blk {b off n cap j:Nat}{sp:Option Nat}(h:(Value.slice (some ⟨b,off,sp⟩) n cap).ownBlock=some j):j=b:=by
 have:some b=some j:=h;cases this;rfl
abbrev OwnV (base E:Nat) (w:World) (v:Value) (xs:List Value):Prop:=w.ownsRow base E 1 v xs.length xs
theorem Own.v {base:Nat}{w:World}{v:Value}{l:List Int}(h:Own base w v l):OwnV base 2 w v (l.map (Value.int .i64)):=by
 unfold OwnV;rw[List.length_map];exact h
theorem Own.of {base:Nat}{w:World}{v:Value}{l:List Int}(h:OwnV base 2 w v (l.map (Value.int .i64))):Own base w v l:=by
 unfold OwnV at h;rw[List.length_map] at h;exact h
theorem wp_app (T E:Nat) (z:Value) (bytes:Nat) (G:Tryz.prog.underlying T=some (.slice E)) (hE:(Tryz.prog.info? E).map (λi=>(i.zero,i.size,i.bytes))=some (some z,1,bytes))
  (A:z.cells.size=1) (B:bytes<=64) {ops:Array Oper}{rest:List Oper}{o:Oper}{a:Act}{Q:Exit->Act->World->Prop}{w:World}(p:o.guard=none) (s x:Operand)
  (H:o.op=Op.call { callee:=Callee.builtin Builtin.append,args := #[s,x],argTypes := #[T,T] }) (base:Nat) (v:Value) (xs:List Value) (I:a.eval s=v) (e:OwnV base E w v xs)
  (y:Option Addr) (m c:Nat) (news:List Value) (hx:a.eval x=.slice y m c) (J:news.length=m) (C:y=none->c=0)
  (k:∀j,j<m->∃b off,y=some ⟨b,off,none⟩/\w.cell? ⟨b,off+j,none⟩=some (gt news j)) (h1:∀u,u∈news->u.oneCell'=true) (q:xs.length+m<=2147483648) (l:base<=w.heap.size)
  (h:∀v' w',OwnV base E w' v' (xs++news)->w.grownBy w' v.ownBlock->(v'=.slice none 0 0↔v=.slice none 0 0/\m=0)->v'.ownBlock=v.ownBlock\/v'.ownBlock=some w.heap.size->wpList Tryz.prog ops Q rest (a.put o.dst v') w') :
  wpList Tryz.prog ops Q (o :: rest) a w:=by
 obtain⟨K,hi,hz0,hz1,hz2⟩:=info_parts hE;cases y with
 | none=>
  have r:=C rfl
  have L:m=0:=by
   rcases Nat.eq_zero_or_pos m with h|h
   ·exact h
   ·obtain⟨b,off,hh,_⟩:=k 0 h;cases hh
  subst L;subst r;have hn:news=[]:=List.eq_nil_of_length_eq_zero J;subst hn;exact wpList_append_own_none p s x T H base E K 1 G hi v xs.length xs I e hx (h v w (by simpa using e) (grown_refl _ _) (by simp) (.inl rfl))
 | some M=>
  refine wpList_append_own_at w p s x T H base E K z 1 bytes G hi hz0 hz1 hz2 A (by decide) v xs.length xs I e M m c news hx (by omega) ?_ h1 ?_ ?_ l ?_
  ·intro j u D
   have N:j<m:=by
    rcases Nat.lt_or_ge j m with h|h
    ·exact h
    ·rw[List.getElem?_eq_none (by omega)] at D;cases D
   obtain⟨b,off,hh,r⟩:=k j N;cases hh
   have:gt news j=u:=by
    simp only[gt,List.getD_eq_getElem?_getD,D];rfl
   rw[this] at r;unfold Addr.add;split
   ·rename_i F;subst F;exact r
   ·exact r
  ·unfold maxLen;omega
  ·have:=Nat.mul_le_mul q B
   omega
  ·intro v' w' O R S U
   exact h v' w' (by unfold OwnV;rw[List.length_append,J];exact O) R S U
end Go.Proofs.YtldheeicjnncoaaGreat
namespace Go.Proofs.YtldheeicjnncoaaGreat
def iter {α:Type} : Nat->(α->α)->α->α
 | 0,_,x=>x
 | n+1,f,x=>f (iter n f x)
def Vec (o e:List Int):Prop:=e.length=o.length/\∀i,i<o.length->0<=gt e i/\gt e i<gt o i
def ZeroTo (i:Nat) (e:List Int):Prop:=∀k,k<=i->gt e k=0
def prodTo (l:List Int):Nat->Int
 | 0=>1
 | k+1=>prodTo l k*gt l k
structure Valid (P:Pr):Prop where
 le729:prodTo P.orders P.orders.length<=729
 n6:P.orders.length<=6
 pl:P.powers.length=P.orders.length
 cl:P.conj.length=P.orders.length
 ord:∀i,i<P.orders.length->gt P.orders i=2\/gt P.orders i=3\/gt P.orders i=5\/gt P.orders i=7
 pv:∀i,i<P.orders.length->Vec P.orders (gt P.powers i)/\ZeroTo i (gt P.powers i)
 cv:∀i,i<P.orders.length->(gt P.conj i).length=P.orders.length-1-i/\∀k,k<P.orders.length-1-i->Vec P.orders (gt (gt P.conj i) k)/\ZeroTo i (gt (gt P.conj i) k)
theorem Valid.ord7 {P:Pr}(h:Valid P) (i:Nat) (hi:i<P.orders.length):2<=gt P.orders i/\gt P.orders i<=7:=by
 rcases h.ord i hi with h|h|h|h<;>omega
def tvecTo (g:List Int->Nat->List Int) (f:List Int) (e:List Int):Nat->List Int
 | 0=>e
 | k+1=>iter (gt f k).toNat (λe=>g e k) (tvecTo g f e k)
def tvec (g:List Int->Nat->List Int) (e f:List Int):List Int:=tvecTo g f e f.length
def tconjTo (g:List Int->Nat->List Int) (a:List (List Int)) (rest:List Int) (e:List Int):Nat->List Int
 | 0=>e
 | k+1=>iter (gt rest k).toNat (λe=>tvec g e (gt a k)) (tconjTo g a rest e k)
def zeroed (e:List Int) (j:Nat) (k:Nat):List Int:=e.take (j+1)++List.replicate k 0++e.drop (j+1+k)
def tgen (P:Pr):Nat->List Int->Nat->List Int
 | 0,e,_=>e
 | f+1,e,j=>
  let rest:=e.drop (j+1)
  let a:=(zeroed e j rest.length).set j (gt e j+1)
  let b:=if gt e j+1=gt P.orders j then tvec (tgen P f) (a.set j 0) (gt P.powers j) else a
  tconjTo (tgen P f) (gt P.conj j) rest b rest.length
theorem Vec.set {o e:List Int}(h:Vec o e) (j:Nat) (x:Int) (hx:0<=x/\(j<o.length->x<gt o j)):Vec o (e.set j x):=by
 refine⟨by simpa using h.1,λi hi => ?_⟩;by_cases a:j=i
 ·subst a
  rw[gt_set_eq e j x (by rw[h.1];exact hi)];exact⟨hx.1,hx.2 hi⟩
 ·rw[gt_set_ne e j i x a];exact h.2 i hi
theorem gt_replicate (k i:Nat):gt (List.replicate k (0:Int)) i=0:=by
 simp only[gt,List.getD_eq_getElem?_getD,List.getElem?_replicate];split<;>rfl
theorem gt_zeroed (e:List Int) (j k i:Nat) (h:j+1+k<=e.length):gt (zeroed e j k) i=if j<i/\i<=j+k then 0 else gt e i:=by
 unfold zeroed;simp only[gt,List.getD_eq_getElem?_getD,List.getElem?_append,List.length_append,List.length_take,List.length_replicate,List.getElem?_drop,List.getElem?_replicate,List.getElem?_take];have l:min (j+1) e.length=j+1:=by omega
 rw[l];by_cases a:i<j+1
 ·rw[if_pos (by omega),if_pos a,if_pos a,if_neg (by omega)]
 ·by_cases b:i<j+1+k
  ·rw[if_pos b,if_neg a,if_pos (by omega),if_pos (by omega)];rfl
  ·rw [if_neg b,if_neg (by omega)]
   congr 2;omega
theorem length_zeroed (e:List Int) (j k:Nat) (h:j+1+k<=e.length):(zeroed e j k).length=e.length:=by
 unfold zeroed;simp;omega
theorem zeroed_zero (e:List Int) (j:Nat):zeroed e j 0=e:=by simp[zeroed]
theorem zeroed_succ (e:List Int) (j k:Nat) (h:j+1+k<e.length):zeroed e j (k+1)=(zeroed e j k).set (j+1+k) 0:=by
 apply ext_gt
 ·rw[length_zeroed _ _ _ (by omega),List.length_set,length_zeroed _ _ _ (by omega)]
 ·intro i hi
  rw[length_zeroed _ _ _ (by omega)] at hi;rw[gt_zeroed _ _ _ _ (by omega)];by_cases a:j+1+k=i
  ·subst a;rw[gt_set_eq _ _ _ (by rw[length_zeroed _ _ _ (by omega)];omega),if_pos (by omega)]
  ·rw [gt_set_ne _ _ _ _ a,gt_zeroed _ _ _ _ (by omega)]
   by_cases c:j<i/\i<=j+k
   ·rw[if_pos c,if_pos (by omega)]
   ·rw[if_neg c,if_neg (by omega)]
theorem Vec.zeroed {o e:List Int}(h:Vec o e) (j k:Nat) (hk:j+1+k<=e.length):Vec o (zeroed e j k):=by
 refine⟨by rw[length_zeroed _ _ _ hk];exact h.1,λi hi => ?_⟩;have:=h.2 i hi;rw[gt_zeroed _ _ _ _ hk];split<;>omega
theorem iter_inv {α:Type}(Q:α->Prop) (f:α->α) (a:∀x,Q x->Q (f x)) (n:Nat) (x:α) (h:Q x):Q (iter n f x):=by
 induction n with
 | zero=>exact h
 | succ n b=>exact a _ b
theorem tvecTo_vec {o:List Int}{g:List Int->Nat->List Int}{f e:List Int}(i:∀e j,Vec o e->j<o.length->gt f j≠0->Vec o (g e j)) (l:Vec o e) (k:Nat) (hk:k<=o.length):Vec o (tvecTo g f e k):=by
 induction k with
 | zero=>exact l
 | succ k a=>
  unfold tvecTo;by_cases b:gt f k=0
  ·rw[b];exact a (by omega)
  ·exact iter_inv (Vec o) _ (λx hx=>i x k hx (by omega) b) _ _ (a (by omega))
theorem tvec_vec {o:List Int}{g:List Int->Nat->List Int}{f e:List Int}(a:Vec o f) (b:∀e j,Vec o e->j<o.length->gt f j≠0->Vec o (g e j)) (i:Vec o e):Vec o (tvec g e f):=
 tvecTo_vec b i _ (by rw[a.1];omega)
theorem tgen_vec {P:Pr}(hP:Valid P) (f:Nat):∀(e:List Int) (j:Nat),Vec P.orders e->j<P.orders.length->P.orders.length<=f+j->Vec P.orders (tgen P f e j):=by
 induction f with
 | zero=>intro e j _ a u;omega
 | succ f w=>
  intro e j b a u;have C:=b.1;have y:=(hP.cv j a).1
  have q:∀c,Vec P.orders c->ZeroTo j c->∀x,Vec P.orders x->Vec P.orders (tvec (tgen P f) x c):=λc z m x hx=>
   tvec_vec z (λe i b hi A=>w e i b hi (by
    have:¬i<=j:=λh=>A (m i h);omega)) hx
  have m:=b.zeroed j (e.drop (j+1)).length (by simp;omega);have hx:=b.2 j a;unfold tgen;simp only
  have r:Vec P.orders (if gt e j+1=gt P.orders j then tvec (tgen P f) (((Go.Proofs.YtldheeicjnncoaaGreat.zeroed e j (e.drop (j+1)).length).set j (gt e j+1)).set j 0) (gt P.powers j) else (Go.Proofs.YtldheeicjnncoaaGreat.zeroed e j (e.drop (j+1)).length).set j (gt e j+1)):=by
   split
   ·refine q _ (hP.pv j a).1 (hP.pv j a).2 _ ?_
    rw[List.set_set];exact m.set j 0 ⟨by omega,λ_=>by have:=hP.ord7 j a;omega⟩
   ·exact m.set j _ ⟨by omega,λ_=>by omega⟩
  generalize (if gt e j+1=gt P.orders j then tvec (tgen P f) (((Go.Proofs.YtldheeicjnncoaaGreat.zeroed e j (e.drop (j+1)).length).set j (gt e j+1)).set j 0) (gt P.powers j) else (Go.Proofs.YtldheeicjnncoaaGreat.zeroed e j (e.drop (j+1)).length).set j (gt e j+1))=B at r
  have:∀k,k<=(e.drop (j+1)).length->Vec P.orders (tconjTo (tgen P f) (gt P.conj j) (e.drop (j+1)) B k):=by
   intro k;induction k with
   | zero=>intro _;exact r
   | succ k p=>
    intro hk;unfold tconjTo;have l:k<P.orders.length-1-j:=by simp at hk;omega
    exact iter_inv (Vec P.orders) _ (λx hx=>q _ ((hP.cv j a).2 k l).1 ((hP.cv j a).2 k l).2 x hx) _ _ (p (by omega))
  exact this _ (Nat.le_refl _)
end Go.Proofs.YtldheeicjnncoaaGreat
namespace Go.Proofs.YtldheeicjnncoaaGreat
open Go.RowKit
def subSl (v:Value) (l h:Nat):Value:=match v with | .slice a _ cap => .slice (if cap=l then a else a.map (·.add l)) (h-l) (cap-l)|v=>v
theorem subSl_ints {S:Nat->Prop}{w:World}{v:Value}{xs:List Int}(h:Ints S w v xs) (i j:Nat) (m:i<=j) (p:j<=xs.length):Ints S w (subSl v i j) ((xs.take j).drop i):=by
 obtain⟨a,cap,rfl,hl,hc⟩:=h;have l:((xs.take j).drop i).length=j-i:=by simp;omega
 refine⟨(if cap=i then a else a.map (·.add i)),cap-i,by rw[l];rfl,⟨by omega,by omega,?_⟩,λk hk => ?_⟩
 ·intro ha
  split at ha
  ·omega
  ·have:a=none:=by simpa using ha
   have:=hl.2.2 this;omega
 obtain⟨b,off,u,rfl,hS,hlt,hu,hx⟩:=hc (i+k) (by omega);by_cases e:cap=i
 ·omega
 ·rw [if_neg e]
  refine⟨b,off+i,u,by simp[Addr.add],hS,hlt,by rw[Nat.add_assoc];exact hu,?_⟩
  have:gt ((xs.take j).drop i) k=gt xs (i+k):=by
   simp only[gt,List.getD_eq_getElem?_getD,List.getElem?_drop,List.getElem?_take];rw[if_pos (by omega)]
  rw[this];exact hx
theorem und_ints:Tryz.prog.underlying 24=some (.slice 2):=by kernel_rfl
theorem wp_app_ints {ops:Array Oper}{rest:List Oper}{o:Oper}{a:Act}{Q:Exit->Act->World->Prop}{w:World}(q:o.guard=none) (s x:Operand)
  (A:o.op=Op.call { callee:=Callee.builtin Builtin.append,args := #[s,x],argTypes := #[24,24] }) (base:Nat) (v:Value) (l:List Int) (B:a.eval s=v) (i:Own base w v l)
  (u:Value) (m:List Int) (hx:a.eval x=u) (S:Nat->Prop) (p:Ints S w u m) (k:l.length+m.length<=2147483648) (e:base<=w.heap.size)
  (h:∀v' w',Own base w' v' (l++m)->w.grownBy w' v.ownBlock->(v'=.slice none 0 0↔v=.slice none 0 0/\m.length=0)->wpList Tryz.prog ops Q rest (a.put o.dst v') w') :
  wpList Tryz.prog ops Q (o :: rest) a w:=by
 obtain⟨C,cap,rfl,⟨_,_,hn⟩,hc⟩:=p;refine wp_app 24 2 (.int .i64 0) 8 und_ints Tryz.infoInt rfl (by decide) q s x A base v (l.map (Value.int .i64)) B i.v C m.length cap (m.map (Value.int .i64)) hx (by simp) hn ?_ ?_ (by simpa using k) e ?_
 ·intro j z
  obtain⟨b,off,u,h1,_,_,r,y⟩:=hc j z;exact⟨b,off,h1,by rw[r,y];simp[gt,z]⟩
 ·intro u p
  simp at p
  obtain⟨x,_,rfl⟩:=p;rfl
 ·intro v' w' h1 r y _
  exact h v' w' (Own.of (by rw[List.map_append];exact h1)) r y
theorem wp_make_ints {ops:Array Oper}{rest:List Oper}{o:Oper}{a:Act}{Q:Exit->Act->World->Prop}{w:World}(i:o.guard=none) (l c:Operand)
  (q:o.op=Op.makeSlice 24 l c) (base n H:Nat) (hH:w.heap.size=H) (L:Int) (r:a.eval l=.int .i64 L) (u:a.eval c=.int .i64 L) (p:L=n) (hn:n<=2147483648) (b:base<=H)
  (h:∀w',Own base w' (.slice (some ⟨H,0,none⟩) n n) (List.replicate n 0)->Ext w w'->H<w'.heap.size->wpList Tryz.prog ops Q rest (a.put o.dst (.slice (some ⟨H,0,none⟩) n n)) w') :
  wpList Tryz.prog ops Q (o :: rest) a w:=by
 subst hH;obtain⟨y,hi,j,k,m⟩:=info_parts Tryz.infoInt;refine wpList_make_full w i l c 24 q base 2 y (.int .i64 0) 1 und_ints hi j k .i64 .i64 L L n r u p p (by rw[m];omega) (by unfold maxLen;omega) b ?_;intro w' h1 z;refine h w' ?_ z (h1.lt w.heap.size rfl).2
 have e:(madeCells (Value.cells (.int .i64 0)) (n*1)).toList=(List.replicate n (0:Int)).map (Value.int .i64):=by
  rw[show Value.cells (.int .i64 0) = #[.int .i64 0] from rfl,toList_madeCells_one];simp
 rw[e] at h1;show World.ownsRow _ _ _ _ _ _ _
 rw[List.length_replicate];exact h1
theorem run_tail (w:World) (a:Option Addr) (n cap:Nat) (k:Int) (b:0<=k) (h1:k<=n) :
  (Instr.slice 24 (.slice a n cap) (some (.int .i64 k)) none none).run Tryz.prog w=.ok (subSl (.slice a n cap) k.toNat n) w:=by
 rw[run_slice_l w 24 a n cap (by kernel_rfl) .i64 k b h1];have:(sizeOf (Tryz.prog.elem 24)).run Tryz.prog w=.ok 1 w:=by kernel_rfl
 rw[this];simp[Result.andThen,sliced,subSl]
theorem Own.form {base:Nat}{w:World}{v:Value}{l:List Int}(h:Own base w v l) (e:0<l.length):∃g cap,v=.slice (some ⟨g,0,none⟩) l.length cap/\base<=g/\g<w.heap.size:=by
 have a:=h.lt;obtain⟨_,h|⟨g,cap,cur,b,hg,_⟩⟩:=h
 ·omega
 ·exact⟨g,cap,b,hg,(a g (by rw[b];rfl)).2⟩
theorem Own.cell {base g cap n:Nat}{w:World}{l:List Int}(h:Own base w (.slice (some ⟨g,0,none⟩) n cap) l) (j:Nat) (a:j<l.length):w.cell? ⟨g,j,none⟩=some (.int .i64 (gt l j)):=by
 have hn:n=l.length:=by
  obtain⟨_,⟨h,_⟩|⟨_,_,_,h,_⟩⟩:=h<;>cases h;rfl
 subst hn;have:=World.ownsRow.cellAt h j (by omega);rw[this];simp[gt,a]
theorem Own.frozen {base g cap n:Nat}{w:World}{l:List Int}(h:Own base w (.slice (some ⟨g,0,none⟩) n cap) l) (j:Nat):w.frozen? ⟨g,j,none⟩=false:=by
 have hn:n=l.length:=by
  obtain⟨_,⟨h,_⟩|⟨_,_,_,h,_⟩⟩:=h<;>cases h;rfl
 subst hn;exact World.ownsRow.frozenAt h j
theorem Own.store {base g cap n:Nat}{w:World}{l:List Int}(h:Own base w (.slice (some ⟨g,0,none⟩) n cap) l) (j:Nat) (x:Int) :
  Own base (w.setCell ⟨g,j,none⟩ (.int .i64 x)) (.slice (some ⟨g,0,none⟩) n cap) (l.set j x)/\w.grownBy (w.setCell ⟨g,j,none⟩ (.int .i64 x)) (some g):=by
 have hn:n=l.length:=by
  obtain⟨_,⟨h,_⟩|⟨_,_,_,h,_⟩⟩:=h<;>cases h;rfl
 subst hn;obtain⟨h1,h2⟩:=World.ownsRow.stored h j (.int .i64 x);refine⟨?_,h2⟩;show World.ownsRow _ _ _ _ _ _ _
 rw[List.length_set,List.map_set];exact h1
theorem Own.ext {base:Nat}{w w':World}{v:Value}{l:List Int}{r:Option Nat}(h:Own base w v l) (b:w.grownBy w' r) (a:v.ownBlock=none\/v.ownBlock≠r):Own base w' v l:=h.kept b a
set_option maxHeartbeats 400000 in
theorem clone_ok (w:World) (v:Value) (l:List Int) (S:Nat->Prop) (b:Ints S w v l) (k:l.length<=1048576) :
  Calls Tryz.prog 183 #[v] w (Ret w λw' r=>Own w.heap.size w' r l):=by
 obtain⟨a,cap,rfl,_,_⟩:=b.shape;have u:=λn=>Lib.run_eql_slice_nil (P:=Tryz.prog) w 24 2 a n cap 0 0 (by kernel_rfl);cases a with
 | none=>
  obtain⟨rfl,rfl⟩:=b.nil_of_none;clear b k;go_enter Tryz.func183,Tryz.ntmps183;go_wp2_with fail
  go_ret;exact⟨_,rfl,Ext.refl _,World.ownsRow_nil _ _ _ _⟩
 | some a=>
  go_enter Tryz.func183,Tryz.ntmps183;go_wp2_with (at_builtin;refine wp_app_ints rfl _ _ rfl w.heap.size _ [] rfl (World.ownsRow_lit w #[] 0 (Nat.le_refl _) (by decide) rfl) _ l rfl S (b.ext (World.grownBy_alloc _ _ _)) (by simp;omega) (by simp) ?_;intro v' y e i m)
  go_ret;exact⟨_,rfl,grown_own (World.grownBy_alloc _ _ _) i (λj p q=>by have:=own_blk p;omega),e⟩
theorem PresP.box {w:World}{vo vp vc:Value}{P:Pr}{S:Nat->Prop}(h:Pres3 S w vo vp vc P) (T:Nat) :
  PresP Any (w.alloc (.cells #[vo,vp,vc] T)) (.pointer (some ⟨w.heap.size,0,none⟩)) P:=by
 have a:=h.ext (World.grownBy_alloc w (.cells #[vo,vp,vc] T) none);refine⟨_,_,vo,vp,vc,rfl,trivial,by simp,?_,?_,?_,a.mono (λk _ hk=>⟨trivial,hk,rfl⟩)⟩
 ·rw[World.cell?_alloc_at _ _ _ _ rfl];rfl
 ·rw[World.cell?_alloc_at _ _ _ _ rfl];rfl
 ·rw[World.cell?_alloc_at _ _ _ _ rfl];rfl
theorem Own.ext0 {base:Nat}{w w':World}{v:Value}{l:List Int}(h:Own base w v l) (a:Ext w w'):Own base w' v l:=
 h.ext a (by cases b:v.ownBlock<;>simp)
theorem Own.weak {base base':Nat}{w:World}{v:Value}{l:List Int}(h:Own base w v l) (a:base'<=base):Own base' w v l:=by
 obtain⟨h1,b⟩:=h;refine⟨h1,?_⟩;rcases b with h|⟨g,cap,cur,hv,hg,r⟩
 ·exact .inl h
 ·exact .inr ⟨g,cap,cur,hv,Nat.le_trans a hg,r⟩
theorem Own.ints {base:Nat}{w:World}{v:Value}{l:List Int}(h:Own base w v l) (a:l.length<=9223372036854775807):Ints Any w v l:=ints_of_own h a (λ_ _=>trivial)
theorem Calls.rel2 {f:FuncId}{args:Array Value}{w w0:World}{φ : World->Value->Prop}(a:Ext w0 w) (h:Calls Tryz.prog f args w (Ret w φ)) :
  Calls Tryz.prog f args w λe w'=>∃v,e=.returned v/\Ext w0 w'/\Ext w w'/\w0.heap.size<=w.heap.size/\φ w' v:=
 h.mono λ_ _ ⟨v,he,hg,hv⟩=>⟨v,he,grown_trans a hg,hg,a.size,hv⟩
def inB (a b hi:Int):Bool:=decide (b<=a) && decide (a<=hi)
theorem inB_true {a b hi:Int} : inB a b hi=true↔b<=a/\a<=hi:=by simp[inB]
def allB (n:Nat) (p:Nat->Bool):Bool:=(List.range n).all p
theorem allB_true {n:Nat}{p:Nat->Bool} : allB n p=true↔∀i,i<n->p i=true:=by simp[allB]
theorem allB_false {n:Nat}{p:Nat->Bool}{i:Nat}(h:i<n) (a:p i=false):allB n p=false:=by
 cases b:allB n p with
 | false=>rfl
 | true=>rw[allB_true] at b;rw[b i h] at a;cases a
theorem ret_b {a b:Bool}(h:a=b):Ending.returned (.bool a)=.returned (.bool b):=by rw[h]
theorem ret_bool {w w':World}{a b:Bool}(e:Ext w w') (h:b=a):Ret w (λ_ v=>v=.bool a) (.returned (.bool b)) w':=⟨_,rfl,e,by rw[h]⟩
set_option maxHeartbeats 400000 in
theorem inside_ok (a b c:Int) (w:World):Calls Tryz.prog 87 #[.int .i64 a,.int .i64 b,.int .i64 c] w λe w'=>e=.returned (.bool (inB a b c))/\w=w':=by
 by_cases h:b<=a
 ·by_cases i:a<=c
  ·go_enter Tryz.func87,Tryz.ntmps87
   go_wp2;go_ret;exact⟨by simp[inB,h,i],rfl⟩
  ·go_enter Tryz.func87,Tryz.ntmps87
   go_wp2;go_ret;exact⟨by simp[inB,i],rfl⟩
 ·go_enter Tryz.func87,Tryz.ntmps87
  go_wp2;go_ret;exact⟨ret_b (by simp[inB];omega),rfl⟩
set_option maxHeartbeats 400000 in
theorem l01In_ok (a b c:Int) (w:World):Calls Tryz.prog 184 #[.int .i64 a,.int .i64 b,.int .i64 c] w λe w'=>e=.returned (.bool (inB a b c))/\w=w':=by
 by_cases h:b<=a
 ·by_cases i:a<=c
  ·go_enter Tryz.func184,Tryz.ntmps184
   go_wp2;go_ret;exact⟨by simp[inB,h,i],rfl⟩
  ·go_enter Tryz.func184,Tryz.ntmps184
   go_wp2;go_ret;exact⟨by simp[inB,i],rfl⟩
 ·go_enter Tryz.func184,Tryz.ntmps184
  go_wp2;go_ret;exact⟨ret_b (by simp[inB];omega),rfl⟩
def isZeroB (l:List Int):Bool:=allB l.length (λi=>gt l i == 0)
set_option maxHeartbeats 400000 in
theorem isZero_ok (v:Value) (l:List Int) (w:World) (S:Nat->Prop) (h:Ints S w v l) :
  Calls Tryz.prog 186 #[v] w λe w'=>e=.returned (.bool (isZeroB l))/\w=w':=by
 obtain⟨a,cap,rfl,_,_⟩:=h.shape;go_enter Tryz.func186,Tryz.ntmps186;go_wp2;go_loop [7] (λi=>∃k:Nat,i=.int .i64 k/\k<=l.length/\∀i,i<k->(gt l i == 0)=true) (λi=>l.length-(intOf i).toNat)
 case atStart=>exact⟨0,rfl,by omega,λi hi=>by omega⟩
 case round=>
  obtain⟨k,rfl,hk,hz⟩:=hrel;have p:=Lib.hid hz;clear hz;by_cases j:k<l.length
  ·obtain ⟨b,off,rfl,_,_,hc⟩:=Ints.at h k j
   by_cases hx:gt l k=0
   ·have q:(gt l k != 0)=false:=by simp[hx]
    have m:=Lib.hid hx;clear hx;go_wp2;go_round
    case rel=>exact⟨k+1,by go_num,by omega,λi hi=>by
     rcases Nat.lt_or_ge i k with h1|h1
     ·exact p.out i h1
     ·have:i=k:=by omega
      rw[this,m.out];rfl⟩
    case measure=>simp[intOf];omega
   ·have q:(gt l k != 0)=true:=by simp[hx]
    go_wp2;go_ret;exact⟨ret_b (by rw[isZeroB,allB_false j (by simpa using hx)]),rfl⟩
  ·go_wp2
   go_ret;exact⟨ret_b (by rw[isZeroB,allB_true.2 (λi hi=>p.out i (by omega))]),rfl⟩
def eqB {α:Type} [DecidableEq α] (a b:α):Bool:=decide (a=b)
theorem eqB_true {α:Type} [DecidableEq α] {a b:α} : eqB a b=true↔a=b:=by simp[eqB]
theorem eqB_false {α:Type} [DecidableEq α] {a b:α} : eqB a b=false↔¬a=b:=by simp[eqB]
theorem eqB_false_at {α:Type} [DecidableEq α] [Inhabited α] {a b:List α}{k:Nat}(hx:¬gt a k=gt b k):eqB a b=false:=eqB_false.2 (λe=>hx (by rw[e]))
set_option maxHeartbeats 400000 in
theorem sEqual_ok (v1 v2:Value) (e j:List Int) (w:World) (z A:Nat->Prop) (h1:Ints z w v1 e) (u:Ints A w v2 j) :
  Calls Tryz.prog 167 #[v1,v2] w (Ret w λ_ v=>v=.bool (eqB e j)):=by
 obtain⟨a,cap,rfl,_,_⟩:=h1.shape;obtain⟨a2,cap2,rfl,_,_⟩:=u.shape;by_cases m:e.length=j.length
 ·have B:((e.length:Int) != (j.length:Int))=false:=by simp[m]
  have C:e.length<=j.length/\j.length<=e.length:=by omega
  have q:=Lib.hid m;clear m;go_enter Tryz.func167,Tryz.ntmps167;go_wp2;go_loopw [13] (λi wr=>∃k:Nat,i=.int .i64 k/\k<=e.length/\Ext w wr/\∀i,i<k->gt e i=gt j i) (λi _=>e.length-(intOf i).toNat)
  case atStart=>exact⟨0,rfl,by omega,Ext.refl _,λi hi=>by omega⟩
  case round=>
   obtain⟨k,rfl,hk,p,hz⟩:=hrel;have y:=Lib.hid hz;clear hz;by_cases r:k<e.length
   ·obtain ⟨b,off,rfl,_,_,hc⟩:=Ints.at (h1.ext p) k r
    obtain⟨b2,off2,rfl,_,_,hc2⟩:=Ints.at (u.ext p) k (by omega);by_cases hx:gt e k=gt j k
    ·have D:(gt e k != gt j k)=false:=by simp[hx]
     have l:=Lib.hid hx;clear hx;go_wp2;go_quiet (fail)
     go_wp2;go_roundw
     case rel=>exact⟨k+1,by go_num,by omega,grown_trans p (grown_drewN _ _ _),λi hi=>by
      rcases Nat.lt_or_ge i k with h1|h1
      ·exact y.out i h1
      ·have:i=k:=by omega
       rw[this,l.out]⟩
     case measure=>simp[intOf];omega
    ·have D:(gt e k != gt j k)=true:=by simp[hx]
     have l:=Lib.hid hx;clear hx;go_wp2;go_quiet (fail)
     go_wp2;go_ret;exact ret_bool (grown_trans p (grown_drewN _ _ _)) (by rw[eqB_false_at (hx:=l.out)])
   ·go_wp2
    go_ret;exact ret_bool p (by rw[eqB_true.2 (ext_gt q.out (λi hi=>y.out i (by omega)))])
 ·have B:((e.length:Int) != (j.length:Int))=true:=by simp;omega
  have q:=Lib.hid m;clear m;go_enter Tryz.func167,Tryz.ntmps167;go_wp2;go_ret;exact ret_bool (Ext.refl _) (by rw[eqB_false.2 (λh=>q.out (by rw[h]))])
set_option maxHeartbeats 400000 in
theorem l01Same_ok (v1 v2:Value) (e j:List Int) (w:World) (z A:Nat->Prop) (h1:Ints z w v1 e) (u:Ints A w v2 j) :
  Calls Tryz.prog 250 #[v1,v2] w (Ret w λ_ v=>v=.bool (eqB e j)):=by
 obtain⟨a,cap,rfl,_,_⟩:=h1.shape;obtain⟨a2,cap2,rfl,_,_⟩:=u.shape;by_cases m:e.length=j.length
 ·have B:((e.length:Int) != (j.length:Int))=false:=by simp[m]
  have C:e.length<=j.length/\j.length<=e.length:=by omega
  have q:=Lib.hid m;clear m;go_enter Tryz.func250,Tryz.ntmps250;go_wp2;go_loopw [5] (λi wr=>∃k:Nat,i=.int .i64 k/\k<=e.length/\Ext w wr/\∀i,i<k->gt e i=gt j i) (λi _=>e.length-(intOf i).toNat)
  case atStart=>exact⟨0,rfl,by omega,Ext.refl _,λi hi=>by omega⟩
  case round=>
   obtain⟨k,rfl,hk,p,hz⟩:=hrel;have y:=Lib.hid hz;clear hz;by_cases r:k<e.length
   ·obtain ⟨b,off,rfl,_,_,hc⟩:=Ints.at (h1.ext p) k r
    obtain⟨b2,off2,rfl,_,_,hc2⟩:=Ints.at (u.ext p) k (by omega);by_cases hx:gt e k=gt j k
    ·have D:(gt e k != gt j k)=false:=by simp[hx]
     have l:=Lib.hid hx;clear hx;go_wp2;go_quiet (fail)
     go_wp2;go_roundw
     case rel=>exact⟨k+1,by go_num,by omega,grown_trans p (grown_drewN _ _ _),λi hi=>by
      rcases Nat.lt_or_ge i k with h1|h1
      ·exact y.out i h1
      ·have:i=k:=by omega
       rw[this,l.out]⟩
     case measure=>simp[intOf];omega
    ·have D:(gt e k != gt j k)=true:=by simp[hx]
     have l:=Lib.hid hx;clear hx;go_wp2;go_quiet (fail)
     go_wp2;go_ret;exact ret_bool (grown_trans p (grown_drewN _ _ _)) (by rw[eqB_false_at (hx:=l.out)])
   ·go_wp2
    go_ret;exact ret_bool p (by rw[eqB_true.2 (ext_gt q.out (λi hi=>y.out i (by omega)))])
 ·have B:((e.length:Int) != (j.length:Int))=true:=by simp;omega
  have q:=Lib.hid m;clear m;go_enter Tryz.func250,Tryz.ntmps250;go_wp2;go_ret;exact ret_bool (Ext.refl _) (by rw[eqB_false.2 (λh=>q.out (by rw[h]))])
def primeB (n:Int):Bool:=decide (n=2\/n=3\/n=5\/n=7)
set_option maxHeartbeats 400000 in
theorem isGroupPrime_ok (n:Int) (w:World):Calls Tryz.prog 107 #[.int .i64 n] w λe w'=>e=.returned (.bool (primeB n))/\w=w':=by
 by_cases a:n=2
 ·subst a;go_enter Tryz.func107,Tryz.ntmps107;go_wp2;go_ret;exact⟨ret_b (by decide),rfl⟩
 by_cases b:n=3
 ·subst b;go_enter Tryz.func107,Tryz.ntmps107;go_wp2;go_ret;exact⟨ret_b (by decide),rfl⟩
 by_cases i:n=5
 ·subst i;go_enter Tryz.func107,Tryz.ntmps107;go_wp2;go_ret;exact⟨ret_b (by decide),rfl⟩
 by_cases j:n=7
 ·subst j;go_enter Tryz.func107,Tryz.ntmps107;go_wp2;go_ret;exact⟨ret_b (by decide),rfl⟩
 have l:(n == 2)=false:=by simp[a]
 have m:(n == 3)=false:=by simp[b]
 have p:(n == 5)=false:=by simp[i]
 have q:(n == 7)=false:=by simp[j]
 have k:primeB n=false:=by simp[primeB,a,b,i,j]
 have HF:=Lib.hid k;clear a b i j k;go_enter Tryz.func107,Tryz.ntmps107;go_wp2;go_ret;exact⟨ret_b HF.out.symm,rfl⟩
set_option maxHeartbeats 400000 in
theorem l01Prime_ok (n:Int) (w:World):Calls Tryz.prog 265 #[.int .i64 n] w λe w'=>e=.returned (.bool (primeB n))/\w=w':=by
 by_cases a:n=2
 ·subst a;go_enter Tryz.func265,Tryz.ntmps265;go_wp2;go_ret;exact⟨ret_b (by decide),rfl⟩
 by_cases b:n=3
 ·subst b;go_enter Tryz.func265,Tryz.ntmps265;go_wp2;go_ret;exact⟨ret_b (by decide),rfl⟩
 by_cases i:n=5
 ·subst i;go_enter Tryz.func265,Tryz.ntmps265;go_wp2;go_ret;exact⟨ret_b (by decide),rfl⟩
 by_cases j:n=7
 ·subst j;go_enter Tryz.func265,Tryz.ntmps265;go_wp2;go_ret;exact⟨ret_b (by decide),rfl⟩
 have l:(n == 2)=false:=by simp[a]
 have m:(n == 3)=false:=by simp[b]
 have p:(n == 5)=false:=by simp[i]
 have q:(n == 7)=false:=by simp[j]
 have k:primeB n=false:=by simp[primeB,a,b,i,j]
 have HF:=Lib.hid k;clear a b i j k;go_enter Tryz.func265,Tryz.ntmps265;go_wp2;go_ret;exact⟨ret_b HF.out.symm,rfl⟩
def unitV (n k:Nat):List Int:=(List.replicate n 0).set k 1
set_option maxHeartbeats 400000 in
theorem unitVector_ok (n k:Nat) (w:World) (hk:k<n) (hn:n<=1000):Calls Tryz.prog 195 #[.int .i64 n,.int .i64 k] w (Ret w λw' v=>Own w.heap.size w' v (unitV n k)):=by
 go_enter Tryz.func195,Tryz.ntmps195;go_wp2_with (at_make;refine wp_make_ints rfl _ _ rfl w.heap.size n w.heap.size rfl _ rfl rfl rfl (by omega) (Nat.le_refl _) ?_;intro p a b _;have e:=a.cell k (by simpa using hk);have i:=a.frozen k)
 go_ret;obtain⟨h1,h2⟩:=a.store k 1;exact⟨_,rfl,grown_own b h2 (λj l m=>by cases l;omega),h1⟩
set_option maxHeartbeats 400000 in
theorem l07Unit_ok (n k:Nat) (w:World) (hk:k<n) (hn:n<=1000):Calls Tryz.prog 149 #[.int .i64 n,.int .i64 k] w (Ret w λw' v=>Own w.heap.size w' v (unitV n k)):=by
 go_enter Tryz.func149,Tryz.ntmps149;go_wp2_with (at_make;refine wp_make_ints rfl _ _ rfl w.heap.size n w.heap.size rfl _ rfl rfl rfl (by omega) (Nat.le_refl _) ?_;intro p a b _;have e:=a.cell k (by simpa using hk);have i:=a.frozen k)
 go_ret;obtain⟨h1,h2⟩:=a.store k 1;exact⟨_,rfl,grown_own b h2 (λj l m=>by cases l;omega),h1⟩
set_option maxHeartbeats 400000 in
theorem l01Own_ok (w:World) (v:Value) (l:List Int) (S:Nat->Prop) (i:Ints S w v l) (q:l.length<=1048576) :
  Calls Tryz.prog 86 #[v] w (Ret w λw' r=>Own w.heap.size w' r l):=by
 obtain⟨a,cap,rfl,_,_⟩:=i.shape;go_enter Tryz.func86,Tryz.ntmps86;go_wp2_with (at_builtin;refine wp_app_ints rfl _ _ rfl w.heap.size _ [] rfl (World.ownsRow_lit w #[] 0 (Nat.le_refl _) (by decide) rfl) _ l rfl S (i.ext (World.grownBy_alloc _ _ _)) (by simp;omega) (by simp) ?_;intro v' u b e k)
 go_ret;exact⟨_,rfl,grown_own (World.grownBy_alloc _ _ _) e (λj m p=>by have:=own_blk m;omega),b⟩
def expB (o e:List Int):Bool:=decide (e.length=o.length) && allB e.length (λi=>inB (gt e i) 0 (gt o i-1))
set_option maxHeartbeats 400000 in
theorem isExponents_ok (w:World) (p v:Value) (P:Pr) (e:List Int) (S S':Nat->Prop) (r:PresP S w p P) (u:Ints S' w v e) (y:∀i,i<P.orders.length->0<=gt P.orders i/\gt P.orders i<=7) :
  Calls Tryz.prog 128 #[p,v] w λm w'=>m=.returned (.bool (expB P.orders e))/\w=w':=by
 obtain⟨pb,po,rfl⟩:=r.shape;obtain⟨a,cap,rfl,_,_⟩:=u.shape;obtain⟨G,capo,dM,hoi⟩:=r.ordAt;have z:=Lib.hid y;clear y;by_cases j:e.length=P.orders.length
 ·have B:((e.length:Int) != (P.orders.length:Int))=false:=by simp[j]
  have C:e.length<=P.orders.length/\P.orders.length<=e.length:=by omega
  have q:=Lib.hid j;clear j;go_enter Tryz.func128,Tryz.ntmps128;go_wp2;go_loop [17] (λi=>∃k:Nat,i=.int .i64 k/\k<=e.length/\∀i,i<k->inB (gt e i) 0 (gt P.orders i-1)=true) (λi=>e.length-(intOf i).toNat)
  case atStart=>exact⟨0,rfl,by omega,λi hi=>by omega⟩
  case round=>
   obtain⟨k,rfl,hk,hz⟩:=hrel;have A:=Lib.hid hz;clear hz;by_cases l:k<e.length
   ·obtain ⟨b,off,rfl,_,_,hc⟩:=Ints.at u k l
    obtain⟨b2,off2,rfl,_,_,hc2⟩:=Ints.at hoi k (by omega);have D:=(z.out k (by omega)).1;have E:=(z.out k (by omega)).2;cases hx:inB (gt e k) 0 (gt P.orders k-1) with
    | true=>
     go_wp2_with (go_at_call 87;refine(inside_ok _ _ _ _).mono ?_;rintro m F ⟨rfl,rfl⟩)
     go_round
     case rel=>exact⟨k+1,by go_num,by omega,λi hi=>by
      rcases Nat.lt_or_ge i k with h1|h1
      ·exact A.out i h1
      ·have:i=k:=by omega
       rw[this,hx]⟩
     case measure=>simp[intOf];omega
    | false=>
     go_wp2_with (go_at_call 87;refine(inside_ok _ _ _ _).mono ?_;rintro m F ⟨rfl,rfl⟩)
     go_ret;exact⟨ret_b (by rw[expB,allB_false l hx,Bool.and_false]),rfl⟩
   ·go_wp2
    go_ret;exact⟨ret_b (by rw[expB,allB_true.2 (λi hi=>A.out i (by omega)),Bool.and_true,decide_eq_true q.out]),rfl⟩
 ·have B:((e.length:Int) != (P.orders.length:Int))=true:=by simp;omega
  have q:=Lib.hid j;clear j;go_enter Tryz.func128,Tryz.ntmps128;go_wp2;go_ret;exact⟨ret_b (by rw[expB,decide_eq_false q.out,Bool.false_and]),rfl⟩
def Dr (w w':World):Prop:=∃n,w'=w.drewN n
theorem Dr.refl (w:World):Dr w w:=⟨0,rfl⟩
theorem Dr.step {w w':World}(h:Dr w w') (n:Nat):Dr w (w'.drewN n):=by
 obtain⟨m,rfl⟩:=h;exact⟨m+n,by rw[World.drewN_drewN]⟩
theorem Dr.ext {w w':World}(h:Dr w w'):Ext w w':=by
 obtain⟨n,rfl⟩:=h;exact grown_drewN _ _ _
def Rd (w:World) (v:Value) (e:Ending) (w':World):Prop:=e=.returned v/\Dr w w'
theorem rd_b {w w':World}{a b:Bool}(e:Dr w w') (h:b=a):Rd w (.bool a) (.returned (.bool b)) w':=⟨by rw[h],e⟩
theorem quiet_rd {f:FuncId}{args:Array Value}{w:World}{n:Nat}{v:Value}(h:Calls Tryz.prog f args (w.drewN n) (Rd (w.drewN n) v)) :
  Calls Tryz.prog f args (w.drewN n) λe a=>e=.returned v/\∃m,a=w.drewN m:=
 Calls.quiet_of (h.mono λ_ _ h=>h)
theorem quiet_eq {f:FuncId}{args:Array Value}{w:World}{n:Nat}{v:Value}(h:Calls Tryz.prog f args (w.drewN n) λe w'=>e=.returned v/\w.drewN n=w') :
  Calls Tryz.prog f args (w.drewN n) λe a=>e=.returned v/\∃m,a=w.drewN m:=
 Calls.quiet_of_same (h.mono λ_ _ h=>⟨h.1,h.2.symm⟩)
def expZB (o e:List Int) (z:Int):Bool:=decide (e.length=o.length) && allB e.length (λi=>inB (gt e i) 0 (gt o i-1) && !(decide ((i:Int)<=z) && (gt e i != 0)))
set_option maxHeartbeats 1000000 in
theorem l07Exponents_ok (w:World) (vo v:Value) (o e:List Int) (z:Int) (S S':Nat->Prop) (u:Ints S w vo o) (D:Ints S' w v e) (E:∀i,i<o.length->0<=gt o i/\gt o i<=7) :
  Calls Tryz.prog 283 #[vo,v,.int .i64 z] w (Rd w (.bool (expZB o e z))):=by
 obtain⟨N,capo,rfl,_,_⟩:=u.shape;obtain⟨a,cap,rfl,_,_⟩:=D.shape;have F:=Lib.hid E;clear E;by_cases y:e.length=o.length
 ·have I : ((e.length:Int) != (o.length:Int))=false:=by simp[y]
  have A:e.length<=o.length/\o.length<=e.length:=by omega
  have B:=Lib.hid y;clear y;go_enter Tryz.func283,Tryz.ntmps283;go_wp2;go_loopw [7] (λi wr=>∃k:Nat,i=.int .i64 k/\k<=e.length/\Dr w wr/\∀i,i<k->(inB (gt e i) 0 (gt o i-1) && !(decide ((i:Int)<=z) && (gt e i != 0)))=true) (λi _=>e.length-(intOf i).toNat)
  case atStart=>exact⟨0,rfl,by omega,Dr.refl _,λi hi=>by omega⟩
  case round=>
   obtain⟨k,rfl,hk,j,hz⟩:=hrel;have C:=Lib.hid hz;clear hz;by_cases p:k<e.length
   ·obtain ⟨b,off,rfl,_,_,hc⟩:=Ints.at (D.ext j.ext) k p
    obtain⟨b2,off2,rfl,_,_,hc2⟩:=Ints.at (u.ext j.ext) k (by omega);have J:=(F.out k (by omega)).1;have K:=(F.out k (by omega)).2;have L:(k:Int)<e.length:=by omega
    have M:(k:Int)<o.length:=by omega
    clear A;cases hx:inB (gt e k) 0 (gt o k-1) with
    | true =>
     by_cases m:(k:Int)<=z
     ·have q:decide ((k:Int)<=z)=true:=by simpa using m
      by_cases r:gt e k=0
      ·have G:(gt e k != 0)=false:=by simp[r]
       have H:=Lib.hid r;clear r;have l:IntKind.i64.wrap (gt o k-1)=gt o k-1:=IntWalk.i64_in _ (by omega);go_wp2;go_quiet ((go_at_call 184;exact quiet_eq (l01In_ok _ _ _ _)))
       clear l;go_wp2;go_roundw
       case rel=>exact⟨k+1,by go_num,by omega,j.step _,λi hi=>by
        rcases Nat.lt_or_ge i k with h1|h1
        ·exact C.out i h1
        ·have:i=k:=by omega
         rw[this,hx,H.out];simp⟩
       case measure=>simp[intOf];omega
      ·have G:(gt e k != 0)=true:=by simp[r]
       have H:=Lib.hid r;clear r;have l:IntKind.i64.wrap (gt o k-1)=gt o k-1:=IntWalk.i64_in _ (by omega);go_wp2;go_quiet ((go_at_call 184;exact quiet_eq (l01In_ok _ _ _ _)))
       clear l;go_wp2;go_ret;exact rd_b (j.step _) (by rw[expZB,allB_false p (by rw[hx,q,G];rfl),Bool.and_false])
     ·have q:decide ((k:Int)<=z)=false:=by simpa using m
      have O:=Lib.hid m;clear m;have l:IntKind.i64.wrap (gt o k-1)=gt o k-1:=IntWalk.i64_in _ (by omega);go_wp2;go_quiet ((go_at_call 184;exact quiet_eq (l01In_ok _ _ _ _)))
      clear l;go_wp2;go_roundw
      case rel=>exact⟨k+1,by go_num,by omega,j.step _,λi hi=>by
       rcases Nat.lt_or_ge i k with h1|h1
       ·exact C.out i h1
       ·have:i=k:=by omega
        rw[this,hx,q];simp⟩
      case measure=>simp[intOf];omega
    | false=>
     have l:IntKind.i64.wrap (gt o k-1)=gt o k-1:=IntWalk.i64_in _ (by omega);go_wp2;go_quiet ((go_at_call 184;exact quiet_eq (l01In_ok _ _ _ _)))
     clear l;go_wp2;go_ret;exact rd_b (j.step _) (by rw[expZB,allB_false p (by rw[hx];rfl),Bool.and_false])
   ·go_wp2
    go_ret;exact rd_b j (by rw[expZB,allB_true.2 (λi hi=>C.out i (by omega)),Bool.and_true,decide_eq_true B.out])
 ·have I:((e.length:Int) != (o.length:Int))=true:=by simp;omega
  have B:=Lib.hid y;clear y;go_enter Tryz.func283,Tryz.ntmps283;go_wp2;go_ret;exact rd_b (Dr.refl _) (by rw[expZB,decide_eq_false B.out,Bool.false_and])
def zeros (n:Nat):List Int:=List.replicate n 0
def rImgTo (at_:List Int->List Int->List Int) (a:List (List Int)) (i:Nat) (x out:List Int):Nat->List Int
 | 0=>out
 | k+1=>iter (gt x (i+1+k)).toNat (λout=>at_ out (gt a k)) (rImgTo at_ a i x out k)
def rAt (P:Pr):Nat->Nat->List Int->List Int->List Int
 | 0,_,_,_=>zeros P.orders.length
 | f+1,i,A,B=>
  let left:=iter (gt B i).toNat (λl=>rImgTo (rAt P f (i+1)) (gt P.conj i) i l (zeros P.orders.length) f) (A.set i 0)
  let rest:=rAt P f (i+1) left (B.set i 0)
  let c:=gt A i+gt B i
  if gt P.orders i<=c then (rAt P f (i+1) (gt P.powers i) rest).set i (c-gt P.orders i) else rest.set i c
def rImage (P:Pr) (f i:Nat) (x:List Int):List Int:=rImgTo (rAt P f (i+1)) (gt P.conj i) i x (zeros P.orders.length) f
theorem zeros_vec {P:Pr}(hP:Valid P):Vec P.orders (zeros P.orders.length):=by
 refine⟨by simp[zeros],λi hi => ?_⟩;have:=hP.ord7 i hi;unfold zeros;rw[gt_replicate];omega
def AtVec (P:Pr) (f:Nat):Prop:=∀i A B,i+f=P.orders.length->Vec P.orders A->Vec P.orders B->Vec P.orders (rAt P f i A B)
theorem rImgTo_vec {P:Pr}(hP:Valid P) (f i:Nat) (hi:i+(f+1)=P.orders.length) (a:AtVec P f) (x out:List Int) (b:Vec P.orders out) (k:Nat) (hk:k<=f) :
  Vec P.orders (rImgTo (rAt P f (i+1)) (gt P.conj i) i x out k):=by
 induction k with
 | zero=>exact b
 | succ k e=>
  unfold rImgTo;exact iter_inv (Vec P.orders) _ (λy hy=>a _ _ _ (by omega) hy ((hP.cv i (by omega)).2 k (by omega)).1) _ _ (e (by omega))
theorem rAt_vec {P:Pr}(hP:Valid P) (f:Nat):AtVec P f:=by
 induction f with
 | zero=>intro i A B _ _ _;exact zeros_vec hP
 | succ f a=>
  intro i A B hi b hB;have m:=hP.ord7 i (by omega);have e:=b.2 i (by omega);have j:=hB.2 i (by omega)
  have k:Vec P.orders (iter (gt B i).toNat (λl=>rImgTo (rAt P f (i+1)) (gt P.conj i) i l (zeros P.orders.length) f) (A.set i 0)):=
   iter_inv (Vec P.orders) _ (λy hy=>rImgTo_vec hP f i hi a _ _ (zeros_vec hP) f (Nat.le_refl _)) _ _ (b.set i 0 ⟨by omega,λ_=>by omega⟩)
  have hr:=a (i+1) _ _ (by omega) k (hB.set i 0 ⟨by omega,λ_=>by omega⟩);simp only[rAt];split
  ·exact(a (i+1) _ _ (by omega) (hP.pv i (by omega)).1 hr).set i _ ⟨by omega,λ_=>by omega⟩
  ·exact hr.set i _ ⟨by omega,λ_=>by omega⟩
def AtOk (P:Pr) (f:Nat):Prop:=
 ∀ (w:World) (pv a b:Value) (i:Nat) (A B:List Int) (e j k:Nat->Prop),i+f=P.orders.length->PresV e w pv P->Ints j w a A->Ints k w b B->Vec P.orders A->Vec P.orders B ->
  Calls Tryz.prog 346 #[pv,.int .i64 i,a,b] w (Ret w λw' v=>Own w.heap.size w' v (rAt P f i A B))
set_option maxHeartbeats 2000000 in
theorem l08Image_of (P:Pr) (hP:Valid P) (f:Nat) (ih:AtOk P f) (w:World) (pv x:Value) (i:Nat) (X:List Int) (Sp Z:Nat->Prop) (hi:i+(f+1)=P.orders.length) (hp:PresV Sp w pv P)
  (hx:Ints Z w x X) (G:Vec P.orders X) :
  Calls Tryz.prog 376 #[pv,.int .i64 i,x] w (Ret w λw' v=>Own w.heap.size w' v (rImage P f i X)):=by
 obtain⟨vo,vp,vc,rfl,h3⟩:=hp;obtain⟨ax,r,rfl,_,_⟩:=hx.shape;have ai:=hP.n6;have hB:=PresP.box h3 28;obtain⟨ao,capo,dM,hoi⟩:=hB.ordAt;go_enter Tryz.func376,Tryz.ntmps376;go_wp2_with (at_make;refine wp_make_ints rfl _ _ rfl (w.heap.size+1) P.orders.length (w.heap.size+1) (by simp) _ rfl rfl rfl (by omega) (by simp) ?_;intro q u z _)
 have a:Ext (w.alloc (.cells #[vo,vp,vc] 28)) q:=z;have H:PresP Any q (.pointer (some ⟨w.heap.size,0,none⟩)) P:=hB.ext a;have I:Ints Z q (.slice ax X.length r) X:=(hx.ext (World.grownBy_alloc _ _ _)).ext a;have J:Ext w q:=grown_trans (World.grownBy_alloc _ _ _) a;have K:i<P.conj.length:=by rw[hP.cl];omega
 have aj:f<=(gt P.conj i).length:=by rw[(hP.cv i (by omega)).1];omega
 clear dM hoi z a hx hB;go_loopw [8,9] (λv j wr=>∃k:Nat,j=.int .i64 ((i:Int)+1+k)/\k<=f/\Ext q wr/\Own (w.heap.size+1) wr v (rImgTo (rAt P f (i+1)) (gt P.conj i) i X (zeros P.orders.length) k)) (λ_ j _=>P.orders.length-(intOf j).toNat)
 case atStart=>exact⟨0,by simp,by omega,Ext.refl _,u⟩
 case round=>
  clear u;obtain⟨k,rfl,hk,b,hO⟩:=hrel;by_cases ak:k<f
  ·have A:=G.2 (i+1+k) (by omega)
   have L:=hP.ord7 (i+1+k) (by omega);have al:0<=gt X (i+1+k):=A.1;have am:gt X (i+1+k)<=7:=by omega
   clear A L;have B:=rImgTo_vec hP f i hi (rAt_vec hP f) X _ (zeros_vec hP) k hk;have HV:=Lib.hid B;clear B;have M:(i:Int)+1+k<P.orders.length:=by omega
   go_wp2;go_loopw [8,10] (λv N wr=>∃m:Nat,N=.int .i64 m/\m<=(gt X (i+1+k)).toNat/\Ext q wr/\Own (w.heap.size+1) wr v (iter m (λout=>rAt P f (i+1) out (gt (gt P.conj i) k)) (rImgTo (rAt P f (i+1)) (gt P.conj i) i X (zeros P.orders.length) k))) (λ_ N _=>(gt X (i+1+k)).toNat-(intOf N).toNat)
   case atStart=>exact⟨0,rfl,by omega,b,hO⟩
   case round=>
    clear b hO;obtain⟨m,rfl,hm,b,hO⟩:=hrel;have O:=I.ext b;obtain⟨bx,ox,rfl,_,_,hcx⟩:=Ints.at O (i+1+k) (by rw[G.1];omega);have ap:X.length<=P.orders.length/\P.orders.length<=X.length:=by rw[G.1];omega
    have aq:((i:Int)+1+k).toNat=i+1+k:=by omega
    by_cases aa:(m:Int)<gt X (i+1+k)
    ·obtain ⟨Q,iA,iH,_,_,hc0,C,D,fQ⟩:=(H.ext b).at
     obtain⟨ac,capc,rfl,_,_⟩:=Sl.shape fQ.c;obtain⟨bc,oc,iQ,e,rfl,_,_,hcc,hrc⟩:=Rows3.at fQ.c i K;obtain⟨bd,od,R,l,rfl,_,_,hcd,hid⟩:=Rows2.at hrc k (by omega)
     have p:Vec P.orders (iter m (λout=>rAt P f (i+1) out (gt (gt P.conj i) k)) (rImgTo (rAt P f (i+1)) (gt P.conj i) i X (zeros P.orders.length) k)):=
      iter_inv (Vec P.orders) _ (λy hy=>rAt_vec hP f _ _ _ (by omega) hy ((hP.cv i (by omega)).2 k (by omega)).1) _ _ HV.out
     have E:=((hP.cv i (by omega)).2 k (by omega)).1;have S:=hO.ints (by rw[p.1];omega);have U:=Lib.hid p;clear p;have V:=Lib.hid E;clear E;have e1:∀w',Ext wr w'->w'.cell? ⟨w.heap.size,0,none⟩=some Q:=λw' h=>h.cell hc0 (by simp);have e2:∀w',Ext wr w'->w'.cell? ⟨w.heap.size,1,none⟩=some iA:=λw' h=>h.cell (by simpa using C) (by simp);have e3:∀w',Ext wr w'->w'.cell? ⟨w.heap.size,2,none⟩=some (.slice (some ⟨bc,oc,none⟩) P.conj.length capc):=λw' h=>h.cell (by simpa using D) (by simp);have e4:∀w',Ext wr w'->w'.cell? ⟨bc,oc+i,none⟩=some (.slice (some ⟨bd,od,none⟩) (gt P.conj i).length e):=λw' h=>h.cell hcc (by simp);have e5:∀w',Ext wr w'->w'.cell? ⟨bd,od+k,none⟩=some (.slice R (gt (gt P.conj i) k).length l):=λw' h=>h.cell hcd (by simp);have s1:IntKind.i64.wrap ((i:Int)+1+k-i)=(k:Int)+1:=by rw[show(i:Int)+1+k-i=(k:Int)+1 by omega];exact IntWalk.i64_in _ (by omega)
     have s2:IntKind.i64.wrap (k:Int)=(k:Int):=IntWalk.i64_in _ (by omega);have s3:IntKind.i64.wrap ((i:Int)+1)=(i:Int)+1:=IntWalk.i64_in _ (by omega);have b1:(0:Int)<=k:=by omega
     have b2:(k:Int)<(gt P.conj i).length:=by omega
     have b3:(i:Int)<P.conj.length:=by omega
     go_wp2;clear hc0 C D hcc hcd
     go_region_held3 (λw'=>Ext wr w') (first|exact grown_drew _ _|exact F)
      (first|(go_at_call 346;refine Calls.mono (Calls.rel (w0:=wr) (by assumption) (ih _ _ _ _ (i+1) _ (gt (gt P.conj i) k) Any Any Any (by omega) ⟨_,_,_,rfl,Pres3.ext fQ (by assumption)⟩ (Ints.ext S (by assumption)) (Ints.ext hid (by assumption)) U.out V.out)) ?_;rintro e6 w6 ⟨v6,rfl,F,hsz6,hO6⟩))
     clear e1 e2 e3 e4 e5 s1 s2 s3;go_wp2;go_roundw
     case rel=>exact⟨m+1,by go_num,by omega,grown_trans b F,hO6.weak (by have:=b.size;omega)⟩
     case measure=>simp[intOf];omega
    ·have W:m=(gt X (i+1+k)).toNat:=by omega
     subst W;go_wp2;go_roundw
     case rel=>exact⟨k+1,by go_num,by omega,b,hO⟩
     case measure=>simp[intOf];omega
  ·have Y:k=f:=by omega
   subst Y;go_wp2;go_ret;exact⟨_,rfl,grown_trans J b,hO.weak (by omega)⟩
theorem run_head (w:World) (a:Option Addr) (n cap:Nat) (k:Int) (b:0<=k) (h1:k<=cap) :
  (Instr.slice 24 (.slice a n cap) none (some (.int .i64 k)) none).run Tryz.prog w=.ok (.slice a k.toNat cap) w:=by
 rw[run_slice_h w 24 a n cap (by kernel_rfl) .i64 k b h1];have:(sizeOf (Tryz.prog.elem 24)).run Tryz.prog w=.ok 1 w:=by kernel_rfl
 rw[this];simp only[Result.andThen,sliced,Nat.sub_zero,Nat.zero_mul];have e:(a.map λx=>x.add 0)=a:=by cases a<;>simp[Addr.add]
 split
 ·rfl
 ·rw[e]
theorem head_ints {S:Nat->Prop}{w:World}{a:Option Addr}{n cap:Nat}{xs:List Int}(h:Ints S w (.slice a n cap) xs) (k:Nat) (hk:k<=xs.length):Ints S w (.slice a k cap) (xs.take k):=by
 obtain⟨j,cap',hv,hl,hc⟩:=h;cases hv
 have e:(xs.take k).length=k:=by simp;omega
 refine⟨a,cap,by rw[e],⟨by omega,by omega,hl.2.2⟩,λi hi => ?_⟩;obtain⟨b,off,u,h1,h2,h3,h4,h5⟩:=hc i (by omega);refine⟨b,off,u,h1,h2,h3,h4,?_⟩;have:gt (xs.take k) i=gt xs i:=by simp only[gt,List.getD_eq_getElem?_getD,List.getElem?_take];rw[if_pos (by omega)]
 rw[this];exact h5
def tailB (o:List Int) (i:Nat) (e:List Int):Bool:=expB o e && isZeroB (e.take (i+1))
theorem expB_vec {o e:List Int} : expB o e=true↔Vec o e:=by
 unfold expB Vec;rw[Bool.and_eq_true,decide_eq_true_eq,allB_true];constructor
 ·rintro ⟨h1,a⟩
  exact⟨h1,λi hi=>by have:=inB_true.1 (a i (by omega));omega⟩
 ·rintro ⟨h1,a⟩
  exact⟨h1,λi hi=>by have:=a i (by omega);exact inB_true.2 (by omega)⟩
theorem isZeroB_true {l:List Int} : isZeroB l=true↔∀i,i<l.length->gt l i=0:=by
 unfold isZeroB;rw[allB_true];simp
theorem gt_take {l:List Int}{k i:Nat}(h:i<k):gt (l.take k) i=gt l i:=by
 simp only[gt,List.getD_eq_getElem?_getD,List.getElem?_take];rw[if_pos h]
theorem gt_big {l:List Int}{i:Nat}(h:l.length<=i):gt l i=0:=by
 simp only[gt,List.getD_eq_getElem?_getD];rw[List.getElem?_eq_none h];rfl
theorem tailB_vec {o e:List Int}{i:Nat} : tailB o i e=true↔Vec o e/\ZeroTo i e:=by
 unfold tailB;rw[Bool.and_eq_true,expB_vec,isZeroB_true];constructor
 ·rintro ⟨h1,h2⟩
  refine⟨h1,λk hk => ?_⟩;by_cases a:k<e.length
  ·have:=h2 k (by simp;omega)
   rwa [gt_take (by omega)] at this
  ·exact gt_big (by omega)
 ·rintro ⟨h1,h2⟩
  refine⟨h1,λk hk => ?_⟩;simp at hk
  rw[gt_take (by omega)];exact h2 k (by omega)
theorem expZB_vec {o e:List Int}{i:Nat} : expZB o e i=true↔Vec o e/\ZeroTo i e:=by
 rw[<-tailB_vec];unfold expZB tailB expB;rw[Bool.and_eq_true,Bool.and_eq_true,Bool.and_eq_true,allB_true,allB_true,isZeroB_true];constructor
 ·rintro ⟨h1,b⟩
  refine⟨⟨h1,λk hk=>((Bool.and_eq_true _ _).mp (b k hk)).1⟩,λk hk => ?_⟩;rw[List.length_take] at hk;rw[gt_take (by omega)];have:=((Bool.and_eq_true _ _).mp (b k (by omega))).2;simp at this
  rcases this with h|h
  ·omega
  ·exact h
 ·rintro ⟨⟨h1,b⟩,h3⟩
  refine⟨h1,λk hk => ?_⟩;rw[Bool.and_eq_true];refine⟨b k hk,?_⟩;simp;rcases Nat.lt_or_ge i k with a|a
  ·exact .inl a
  ·have:=h3 k (by rw[List.length_take];omega)
   rw[gt_take (by omega)] at this;exact .inr this
set_option maxHeartbeats 400000 in
theorem tailVector_ok (w:World) (p v:Value) (P:Pr) (e:List Int) (i:Nat) (S S':Nat->Prop) (m:PresP S w p P) (j:Ints S' w v e) (q:∀i,i<P.orders.length->0<=gt P.orders i/\gt P.orders i<=7)
  (hi:i<P.orders.length) (hn:P.orders.length<=6) :
  Calls Tryz.prog 190 #[p,.int .i64 i,v] w λk w'=>k=.returned (.bool (tailB P.orders i e))/\w=w':=by
 obtain⟨a,cap,rfl,hcap,_⟩:=j.shape;cases hx:expB P.orders e with
 | false=>
  have l:=Lib.hid hx;clear hx;go_enter Tryz.func190,Tryz.ntmps190;have u:=l.out;go_wp2_with (go_at_call 128;refine(isExponents_ok _ _ _ P e S S' m j q).mono ?_;rintro k r ⟨rfl,rfl⟩)
  go_ret;exact⟨ret_b (by rw[tailB,l.out,Bool.false_and]),rfl⟩
 | true=>
  have b:=expB_vec.1 hx;have y:P.orders.length<=e.length:=by rw[b.1];omega
  have A:=λw=>run_head w a e.length cap ((i:Int)+1) (by omega) (by omega);have z:=head_ints j (i+1) (by omega);have l:=Lib.hid hx;clear b;go_enter Tryz.func190,Tryz.ntmps190
  go_wp2_with (first
   | (go_at_call 128;refine(isExponents_ok _ _ _ P e S S' m j q).mono ?_;rintro k r ⟨rfl,rfl⟩)
   | (go_at_call 186;refine(isZero_ok _ _ _ S' z).mono ?_;rintro k r ⟨rfl,rfl⟩))
  go_ret;exact⟨ret_b (by rw[tailB,l.out,Bool.true_and]),rfl⟩
theorem primeB_true {n:Int} : primeB n=true↔n=2\/n=3\/n=5\/n=7:=by simp[primeB]
theorem prodTo_pos {l:List Int}(k:Nat) (h:∀i,i<k->1<=gt l i):1<=prodTo l k:=by
 induction k with
 | zero=>simp[prodTo]
 | succ k a=>
  have h1:=a (λi hi=>h i (by omega));have b:=h k (by omega);have:=Int.mul_le_mul h1 b (by omega) (by omega);simp only[prodTo];omega
theorem prodTo_mono {l:List Int}(k n:Nat) (a:k<=n) (h:∀i,i<n->1<=gt l i):prodTo l k<=prodTo l n:=by
 induction n with
 | zero=>have:k=0:=(by omega);rw[this];exact Int.le_refl _
 | succ n b=>
  rcases Nat.lt_or_ge n k with h1|h1
  ·have:k=n+1:=by omega
   rw[this];exact Int.le_refl _
  ·have j:=b h1 (λi hi=>h i (by omega))
   have e:=h n (by omega);have m:=prodTo_pos (l:=l) n (λi hi=>h i (by omega));have p:prodTo l n*1<=prodTo l n*gt l n:=Int.mul_le_mul_of_nonneg_left e (by omega);simp only[prodTo];omega
open Classical in
noncomputable def validB (P:Pr):Bool:=decide (Valid P)
theorem validB_true {P:Pr}(h:Valid P):validB P=true:=by simp[validB,h]
theorem validB_false {P:Pr}(h:¬Valid P):validB P=false:=by simp[validB,h]
theorem valid_of {P:Pr}(h:validB P=true):Valid P:=by simpa [validB] using h
theorem Valid.pos {P:Pr}(h:Valid P) (i:Nat) (hi:i<P.orders.length):1<=gt P.orders i:=by have:=h.ord7 i hi;omega
theorem Valid.pre {P:Pr}(h:Valid P) (k:Nat) (hk:k<=P.orders.length):prodTo P.orders k<=729:=
 Int.le_trans (prodTo_mono k _ hk (λi hi=>h.pos i hi)) h.le729
set_option maxHeartbeats 2000000 in
theorem isPresentation_ok (w:World) (pv:Value) (P:Pr) (S:Nat->Prop) (hp:PresV S w pv P) :
  Calls Tryz.prog 91 #[pv] w (Ret w λ_ v=>v=.bool (validB P)):=by
 obtain⟨vo,vp,vc,rfl,h3⟩:=hp;have e:=PresP.box h3 28;have l:Ext w (w.alloc (.cells #[vo,vp,vc] 28)):=World.grownBy_alloc _ _ _;go_enter Tryz.func91,Tryz.ntmps91;obtain⟨ao,capo,dM,hoi⟩:=e.ordAt;obtain⟨ap,capp,hcp,hpi⟩:=e.powAt;obtain⟨ac,capc,hcc,fk⟩:=e.conjAt;by_cases D:P.orders.length<=6;rotate_left
 ·have L:decide ((6:Int)<(P.orders.length:Int))=true:=by simp;omega
  go_wp2;go_ret;exact ret_bool l (validB_false (λh=>D h.n6)).symm
 have X:decide ((6:Int)<(P.orders.length:Int))=false:=by simp;omega
 by_cases m:P.powers.length=P.orders.length;rotate_left
 ·have L:((P.powers.length:Int) != (P.orders.length:Int))=true:=by simp;omega
  have V:=Lib.hid m;clear m;go_wp2;go_ret;exact ret_bool l (validB_false (λh=>V.out h.pl)).symm
 have Y:((P.powers.length:Int) != (P.orders.length:Int))=false:=by simp[m]
 by_cases q:P.conj.length=P.orders.length;rotate_left
 ·have L:((P.conj.length:Int) != (P.orders.length:Int))=true:=by simp;omega
  have V:=Lib.hid m;clear m;have Z:=Lib.hid q;clear q;go_wp2;go_ret;exact ret_bool l (validB_false (λh=>Z.out h.cl)).symm
 have aa:((P.conj.length:Int) != (P.orders.length:Int))=false:=by simp[q]
 have al:P.powers.length<=P.orders.length/\P.orders.length<=P.powers.length:=by omega
 have am:P.conj.length<=P.orders.length/\P.orders.length<=P.conj.length:=by omega
 have V:=Lib.hid m;clear m;have Z:=Lib.hid q;clear q;go_wp2;clear X Y aa;generalize ab:w.alloc (.cells #[vo,vp,vc] 28)=w0 at *;clear ab;go_loop [4,32] (λpr i=>∃k:Nat,i=.int .i64 k/\pr=.int .i64 (prodTo P.orders k)/\k<=P.orders.length/\prodTo P.orders k<=729/\∀i,i<k->primeB (gt P.orders i)=true) (λ_ i=>P.orders.length-(intOf i).toNat)
 case atStart=>exact⟨0,rfl,rfl,by omega,by simp[prodTo],λi hi=>by omega⟩
 case round =>
  obtain⟨k,rfl,rfl,hk,hle,A⟩:=hrel;have ad:1<=prodTo P.orders k:=prodTo_pos k (λi hi=>by have:=primeB_true.1 (A i hi);omega);have HZ:=Lib.hid A;clear A;by_cases a:k<P.orders.length
  ·obtain ⟨b,off,rfl,_,_,hc⟩:=Ints.at hoi k a
   cases hx:primeB (gt P.orders k) with
   | false=>
    have M:=Lib.hid hx;go_wp2_with (go_at_call 107;refine(isGroupPrime_ok _ _).mono ?_;rintro E F ⟨rfl,rfl⟩)
    go_ret;exact ret_bool l (validB_false (λh=>by have:=primeB_true.2 (h.ord k a);rw[M.out] at this;cases this)).symm
   | true=>
    have af:=primeB_true.1 hx;have G:2<=gt P.orders k/\gt P.orders k<=7:=by omega
    have an:2<=gt P.orders k:=G.1;have aq:gt P.orders k<=7:=G.2;have aw:0<=prodTo P.orders k*gt P.orders k:=Int.mul_nonneg (by omega) (by omega)
    have ax:prodTo P.orders k*gt P.orders k<=5103:=by
     have h1:prodTo P.orders k*gt P.orders k<=729*gt P.orders k:=Int.mul_le_mul_of_nonneg_right hle (by omega);omega
    have r:prodTo P.orders (k+1)=prodTo P.orders k*gt P.orders k:=rfl;have H:=Lib.hid r;clear r af G;by_cases N:prodTo P.orders k*gt P.orders k<=729
    ·go_wp2_with (go_at_call 107;refine(isGroupPrime_ok _ _).mono ?_;rintro E F ⟨rfl,rfl⟩)
     go_round
     case rel=>exact⟨k+1,by go_num,by rw[H.out],by omega,by rw[H.out];exact N,λi hi=>by
      rcases Nat.lt_or_ge i k with h1|h1
      ·exact HZ.out i h1
      ·have:i=k:=by omega
       rw[this];exact hx⟩
     case measure=>simp[intOf];omega
    ·go_wp2_with (go_at_call 107;refine(isGroupPrime_ok _ _).mono ?_;rintro E F ⟨rfl,rfl⟩)
     go_ret;exact ret_bool l (validB_false (λh=>by have:=h.pre (k+1) a;rw[H.out] at this;omega)).symm
  ·have I : k=P.orders.length:=by omega
   subst I;have C:∀i,i<P.orders.length->0<=gt P.orders i/\gt P.orders i<=7:=λi hi=>by have:=primeB_true.1 (HZ.out i hi);omega
   have O:=Lib.hid C;clear C;have ag:=Lib.hid hle;clear hle ad;go_wp2;clear hcc hcp dM;go_loop [50] (λi=>∃k:Nat,i=.int .i64 k/\k<=P.orders.length/\∀i,i<k->tailB P.orders i (gt P.powers i)=true/\(gt P.conj i).length=P.orders.length-1-i/\∀j,j<P.orders.length-1-i->tailB P.orders i (gt (gt P.conj i) j)=true) (λi=>P.orders.length-(intOf i).toNat)
   case atStart=>exact⟨0,rfl,by omega,λi hi=>by omega⟩
   case round =>
    obtain⟨k,rfl,hk,A⟩:=hrel;have B:=Lib.hid A;clear A;by_cases a:k<P.orders.length
    ·obtain ⟨ap,capp,hcp,hpi⟩:=e.powAt
     obtain⟨ac,capc,hcc,fk⟩:=e.conjAt;obtain⟨b1,o1,a2,cap2,rfl,_,_,hc2,J⟩:=Rows2.at hpi k (by omega);obtain⟨b3,o3,a4,cap4,rfl,_,_,iB,hi4⟩:=Rows3.at fk k (by omega);have u:tailB P.orders k (gt P.powers k)=false->validB P=false:=λhx=>validB_false (λh=>by have:=tailB_vec.2 (h.pv k a);rw[hx] at this;cases this);have y:¬(gt P.conj k).length=P.orders.length-1-k->validB P=false:=λhx=>validB_false (λh=>hx (h.cv k a).1);have z:∀j,j<P.orders.length-1-k->tailB P.orders k (gt (gt P.conj k) j)=false->validB P=false:=λj W hx=>validB_false (λh=>by have:=tailB_vec.2 ((h.cv k a).2 j W);rw[hx] at this;cases this);have ah:=Lib.hid u;have ai:=Lib.hid y;have aj:=Lib.hid z;clear u y z;cases hx:tailB P.orders k (gt P.powers k) with
     | false=>
      have M:=Lib.hid hx;go_wp2_with (go_at_call 190;refine(tailVector_ok _ _ _ P _ k Any Any e J O.out a D).mono ?_;rintro E F ⟨rfl,rfl⟩)
      go_ret;exact ret_bool l (ah.out M.out).symm
     | true =>
      have M:=Lib.hid hx;by_cases p:(gt P.conj k).length=P.orders.length-1-k
      ·have L:(((gt P.conj k).length:Int) != (P.orders.length:Int)-1-k)=false:=by simp;omega
       have ay:(gt P.conj k).length<=P.orders.length-1-k/\P.orders.length-1-k<=(gt P.conj k).length:=by omega
       have K:=Lib.hid p;clear p;go_wp2_with (go_at_call 190;refine(tailVector_ok _ _ _ P _ k Any Any e J O.out a D).mono ?_;rintro E F ⟨rfl,rfl⟩)
       clear L hx hcp hc2;go_loop [80] (λi=>∃j:Nat,i=.int .i64 j/\j<=(gt P.conj k).length/\∀i,i<j->tailB P.orders k (gt (gt P.conj k) i)=true) (λi=>(gt P.conj k).length-(intOf i).toNat)
       case atStart=>exact⟨0,rfl,by omega,λi hi=>by omega⟩
       case round=>
        obtain⟨j,rfl,W,A⟩:=hrel;have Q:=Lib.hid A;clear A;by_cases R:j<(gt P.conj k).length
        ·obtain ⟨b5,o5,a6,qi,rfl,_,_,kS,U⟩:=Rows2.at hi4 j R
         cases hy:tailB P.orders k (gt (gt P.conj k) j) with
         | false=>
          have HY:=Lib.hid hy;go_wp2_with (go_at_call 190;refine(tailVector_ok _ _ _ P _ k Any Any e U O.out a D).mono ?_;rintro E F ⟨rfl,rfl⟩)
          go_ret;exact ret_bool l (aj.out j (by omega) HY.out).symm
         | true=>
          have HY:=Lib.hid hy;go_wp2_with (go_at_call 190;refine(tailVector_ok _ _ _ P _ k Any Any e U O.out a D).mono ?_;rintro E F ⟨rfl,rfl⟩)
          go_round
          case rel=>exact⟨j+1,by go_num,by omega,λi hi=>by
           rcases Nat.lt_or_ge i j with h1|h1
           ·exact Q.out i h1
           ·have:i=j:=by omega
            rw[this];exact HY.out⟩
          case measure=>simp[intOf];omega
        ·have az:j=(gt P.conj k).length:=by omega
         go_wp2;go_round
         case rel=>exact⟨k+1,by go_num,by omega,λi hi=>by
          rcases Nat.lt_or_ge i k with h1|h1
          ·exact B.out i h1
          ·have:i=k:=by omega
           rw[this];exact⟨M.out,K.out,λi hi=>Q.out i (by omega)⟩⟩
         case measure=>simp[intOf];omega
      ·have L:(((gt P.conj k).length:Int) != (P.orders.length:Int)-1-k)=true:=by simp;omega
       have K:=Lib.hid p;clear p;go_wp2_with (go_at_call 190;refine(tailVector_ok _ _ _ P _ k Any Any e J O.out a D).mono ?_;rintro E F ⟨rfl,rfl⟩)
       go_ret;exact ret_bool l (ai.out K.out).symm
    ·have I:k=P.orders.length:=by omega
     subst I;go_wp2;go_ret;refine ret_bool l (validB_true ?_).symm
     exact ⟨ag.out,D,V.out,Z.out,λi hi=>primeB_true.1 (HZ.out i hi),λi hi=>tailB_vec.1 (B.out i hi).1,
      λi hi=>⟨(B.out i hi).2.1,λj W=>tailB_vec.1 ((B.out i hi).2.2 j W)⟩⟩
def capTo (l:List Int):Nat->Int
 | 0=>1
 | k+1=>if capTo l k<=729 then capTo l k*gt l k else capTo l k
theorem capTo_le {l:List Int}(n:Nat) (h:∀i,i<n->1<=gt l i):(capTo l n<=729↔prodTo l n<=729)/\(capTo l n<=729->capTo l n=prodTo l n):=by
 induction n with
 | zero=>simp[capTo,prodTo]
 | succ n b=>
  obtain⟨h1,e⟩:=b (λi hi=>h i (by omega));simp only[capTo];split
  ·rename_i a
   rw[e a];exact⟨Iff.rfl,λ_=>rfl⟩
  ·rename_i a
   have j:=prodTo_mono (l:=l) n (n+1) (by omega) h;have k:¬prodTo l n<=729:=λh=>a (h1.2 h);exact⟨⟨λh=>absurd h a,λh=>absurd (Int.le_trans j h) k⟩,λh=>absurd h a⟩
theorem capTo_bd {l:List Int}(n:Nat) (h:∀i,i<n->1<=gt l i/\gt l i<=7):1<=capTo l n/\capTo l n<=5103:=by
 induction n with
 | zero=>simp[capTo]
 | succ n a=>
  have h1:=a (λi hi=>h i (by omega));have b:=h n (by omega);simp only[capTo];split
  ·have e:capTo l n*gt l n<=729*gt l n:=Int.mul_le_mul_of_nonneg_right (by omega) (by omega)
   have j:=Int.mul_le_mul h1.1 b.1 (by omega) (by omega);omega
  ·omega
set_option maxHeartbeats 400000 in
theorem l07Product_ok (w:World) (v:Value) (l:List Int) (S:Nat->Prop) (u:Ints S w v l) (y:∀i,i<l.length->1<=gt l i/\gt l i<=7) :
  Calls Tryz.prog 197 #[v] w λe w'=>e=.returned (.int .i64 (capTo l l.length))/\w=w':=by
 obtain⟨a,cap,rfl,_,_⟩:=u.shape;have z:=Lib.hid y;clear y;go_enter Tryz.func197,Tryz.ntmps197;go_wp2;go_loop [3,4] (λB i=>∃k:Nat,i=.int .i64 k/\B=.int .i64 (capTo l k)/\k<=l.length) (λ_ i=>l.length-(intOf i).toNat)
 case atStart=>exact⟨0,rfl,rfl,by omega⟩
 case round=>
  obtain⟨k,rfl,rfl,hk⟩:=hrel;by_cases p:k<l.length
  ·obtain ⟨b,off,rfl,_,_,hc⟩:=Ints.at u k p
   have h1:=z.out k p;have A:=capTo_bd (l:=l) k (λi hi=>z.out i (by omega));have C:1<=capTo l k:=A.1;have j:capTo l (k+1)=if capTo l k<=729 then capTo l k*gt l k else capTo l k:=rfl
   have q:=Lib.hid j;clear j A;by_cases m:capTo l k<=729
   ·have D:0<=capTo l k*gt l k:=Int.mul_nonneg (by omega) (by omega)
    have E:capTo l k*gt l k<=5103:=by
     have h1:capTo l k*gt l k<=729*gt l k:=Int.mul_le_mul_of_nonneg_right m (by omega);omega
    go_wp2;go_round
    case rel=>exact⟨k+1,by go_num,by rw[q.out,if_pos m],by omega⟩
    case measure=>simp[intOf];omega
   ·go_wp2
    go_round
    case rel=>exact⟨k+1,by go_num,by rw[q.out,if_neg m],by omega⟩
    case measure=>simp[intOf];omega
  ·have r:k=l.length:=by omega
   subst r;go_wp2;go_ret;exact⟨rfl,rfl⟩
def ordP (P:Pr):Int:=prodTo P.orders P.orders.length
theorem Valid.ordP_pos {P:Pr}(h:Valid P):1<=ordP P:=prodTo_pos _ (λi hi=>h.pos i hi)
set_option maxHeartbeats 400000 in
theorem orderOf_ok (w:World) (p:Value) (P:Pr) (S:Nat->Prop) (hP:Valid P) (m:PresP S w p P) :
  Calls Tryz.prog 131 #[p] w λe w'=>e=.returned (.int .i64 (ordP P))/\w=w':=by
 obtain⟨pb,po,rfl⟩:=m.shape;obtain⟨A,capo,dM,hoi⟩:=m.ordAt;have r:=hP.n6;go_enter Tryz.func131,Tryz.ntmps131;go_wp2;go_loop [3,11] (λu i=>∃k:Nat,i=.int .i64 k/\u=.int .i64 (prodTo P.orders k)/\k<=P.orders.length) (λ_ i=>P.orders.length-(intOf i).toNat)
 case atStart=>exact⟨0,rfl,rfl,by omega⟩
 case round=>
  obtain⟨k,rfl,rfl,hk⟩:=hrel;by_cases a:k<P.orders.length
  ·obtain ⟨b,off,rfl,_,_,hc⟩:=Ints.at hoi k a
   have h1:=hP.pre (k+1) a;have q:=prodTo_pos (l:=P.orders) (k+1) (λi hi=>hP.pos i (by omega));have y:0<=prodTo P.orders k*gt P.orders k:=by simp only[prodTo] at q;omega
   have z:prodTo P.orders k*gt P.orders k<=729:=h1;clear q h1;go_wp2;go_round
   case rel=>exact⟨k+1,by go_num,rfl,by omega⟩
   case measure=>simp[intOf];omega
  ·have j:k=P.orders.length:=by omega
   subst j;go_wp2;go_ret;exact⟨rfl,rfl⟩
end Go.Proofs.YtldheeicjnncoaaGreat
namespace Go.Proofs.YtldheeicjnncoaaGreat
theorem tvec_keep {P:Pr}(hP:Valid P) (f j:Nat) (z:P.orders.length<=f+1+j)
  (p:∀(e:List Int) (i:Nat),Vec P.orders e->i<P.orders.length->P.orders.length<=f+i->∀k,k<i->gt (tgen P f e i) k=gt e k)
  (c:List Int) (q:Vec P.orders c) (r:ZeroTo j c) (e:List Int) (u:Vec P.orders e):∀k,k<=j->gt (tvec (tgen P f) e c) k=gt e k:=by
 have a:∀m,m<=P.orders.length->Vec P.orders (tvecTo (tgen P f) c e m)/\∀k,k<=j->gt (tvecTo (tgen P f) c e m) k=gt e k:=by
  intro m;induction m with
  | zero=>intro _;exact⟨u,λk _=>rfl⟩
  | succ m b=>
   intro A;obtain⟨h1,h2⟩:=b (by omega);unfold tvecTo;by_cases l:gt c m=0
   ·rw[l];exact⟨h1,h2⟩
   ·have w:¬m<=j:=λh=>l (r m h)
    refine iter_inv (λy=>Vec P.orders y/\∀k,k<=j->gt y k=gt e k) _ (λy hy=>⟨tgen_vec hP f y m hy.1 (by omega) (by omega),λk hk => ?_⟩) _ _ ⟨h1,h2⟩;rw[p y m hy.1 (by omega) (by omega) k (by omega)];exact hy.2 k hk
 intro k hk;exact(a c.length (by rw[q.1];omega)).2 k hk
theorem tgen_entries {P:Pr}(hP:Valid P) (f:Nat):∀(e:List Int) (j:Nat),Vec P.orders e->j<P.orders.length->P.orders.length<=f+j ->
  (∀k,k<j->gt (tgen P f e j) k=gt e k)/\gt (tgen P f e j) j=if gt e j+1=gt P.orders j then 0 else gt e j+1:=by
 induction f with
 | zero=>intro e j _ q L;omega
 | succ f M=>
  intro e j B q L;have C:∀(e:List Int) (i:Nat),Vec P.orders e->i<P.orders.length->P.orders.length<=f+i->∀k,k<i->gt (tgen P f e i) k=gt e k:=λe i a b c k hk=>(M e i a b c).1 k hk;have S:=B.1;have w:j+1+(e.drop (j+1)).length<=e.length:=by simp;omega
  have H:=B.zeroed j (e.drop (j+1)).length w;have hx:=B.2 j q;have U:=hP.ord7 j q;have N:=length_zeroed e j (e.drop (j+1)).length w;obtain⟨p,D⟩:∃p,p=(if gt e j+1=gt P.orders j then tvec (tgen P f) (((zeroed e j (e.drop (j+1)).length).set j (gt e j+1)).set j 0) (gt P.powers j) else (zeroed e j (e.drop (j+1)).length).set j (gt e j+1)):=⟨_,rfl⟩
  have E:∀c,Vec P.orders c->ZeroTo j c->∀x,Vec P.orders x->Vec P.orders (tvec (tgen P f) x c):=λc r H x hx=>
   tvec_vec r (λe i B hi O=>tgen_vec hP f e i B hi (by
    have:¬i<=j:=λh=>O (H i h);omega)) hx
  have l:∀k,k<j->gt (zeroed e j (e.drop (j+1)).length) k=gt e k:=λk hk=>by rw[gt_zeroed _ _ _ _ w,if_neg (by omega)]
  have I:Vec P.orders p/\(∀k,k<j->gt p k=gt e k)/\gt p j=if gt e j+1=gt P.orders j then 0 else gt e j+1:=by
   rw[D];split
   ·rename_i r
    rw[List.set_set];have F:Vec P.orders ((zeroed e j (e.drop (j+1)).length).set j 0):=H.set j 0 ⟨by omega,λ_=>by omega⟩;have hk:=tvec_keep hP f j (by omega) C _ (hP.pv j q).1 (hP.pv j q).2 _ F;refine⟨E _ (hP.pv j q).1 (hP.pv j q).2 _ F,λk z => ?_,?_⟩
    ·rw[hk k (by omega),gt_set_ne _ _ _ _ (by omega)];exact l k z
    ·rw[hk j (Nat.le_refl _),gt_set_eq _ _ _ (by omega)]
   ·rename_i r
    refine⟨H.set j _ ⟨by omega,λ_=>by omega⟩,λk z => ?_,?_⟩
    ·rw[gt_set_ne _ _ _ _ (by omega)];exact l k z
    ·rw[gt_set_eq _ _ _ (by omega)]
  have A:∀m,m<=(e.drop (j+1)).length->Vec P.orders (tconjTo (tgen P f) (gt P.conj j) (e.drop (j+1)) p m)/\∀k,k<=j->gt (tconjTo (tgen P f) (gt P.conj j) (e.drop (j+1)) p m) k=gt p k:=by
   intro m;induction m with
   | zero=>intro _;exact⟨I.1,λk _=>rfl⟩
   | succ m J=>
    intro Q;obtain⟨R,h4⟩:=J (by omega);have K:m<P.orders.length-1-j:=by simp at Q;omega
    have r:=(hP.cv j q).2 m K;unfold tconjTo;refine iter_inv (λy=>Vec P.orders y/\∀k,k<=j->gt y k=gt p k) _ (λy hy=>⟨E _ r.1 r.2 _ hy.1,λk hk => ?_⟩) _ _ ⟨R,h4⟩;rw[tvec_keep hP f j (by omega) C _ r.1 r.2 _ hy.1 k hk];exact hy.2 k hk
  have u:=A _ (Nat.le_refl _);have G:tgen P (f+1) e j=tconjTo (tgen P f) (gt P.conj j) (e.drop (j+1)) p (e.drop (j+1)).length:=by rw[D];rfl
  rw[G];exact⟨λk hk=>by rw[u.2 k (by omega)];exact I.2.1 k hk,by rw[u.2 j (Nat.le_refl _)];exact I.2.2⟩
def tg (P:Pr) (e:List Int) (j:Nat):List Int:=tgen P P.orders.length e j
def tv (P:Pr) (e f:List Int):List Int:=tvec (tg P) e f
theorem tg_vec {P:Pr}(hP:Valid P) (e:List Int) (j:Nat) (a:Vec P.orders e) (b:j<P.orders.length):Vec P.orders (tg P e j):=tgen_vec hP _ e j a b (by omega)
theorem tv_vec {P:Pr}(hP:Valid P) (e f:List Int) (a:Vec P.orders e) (b:Vec P.orders f):Vec P.orders (tv P e f):=tvec_vec b (λe j a i _=>tg_vec hP e j a i) a
theorem iter_add {α:Type}(f:α->α) (n k:Nat) (x:α):iter (n+k) f x=iter n f (iter k f x):=by
 induction n with
 | zero=>rw[Nat.zero_add];rfl
 | succ n a=>rw[Nat.succ_add];show f (iter (n+k) f x)=f (iter n f (iter k f x));rw[a]
theorem iter_rel {α a:Type}(R:α->a->Prop) (f:α->α) (g:a->a) (h:∀x y,R x y->R (f x) (g y)) (n:Nat) (x:α) (y:a) (b:R x y):R (iter n f x) (iter n g y):=by
 induction n with
 | zero=>exact b
 | succ n e=>exact h _ _ e
theorem iter_congr {α:Type}(Q:α->Prop) (f g:α->α) (a:∀x,Q x->Q (f x)) (h:∀x,Q x->f x=g x) (n:Nat) (x:α) (hx:Q x):iter n f x=iter n g x:=by
 induction n with
 | zero=>rfl
 | succ n b=>
  show f (iter n f x)=g (iter n g x)
  rw[<-b];exact h _ (iter_inv Q f a n x hx)
structure MonOn {α:Type}(S:α->Prop) (m:α->α->α) (e:α):Prop where
 cl:∀x y,S x->S y->S (m x y)
 one:S e
 ass:∀x y z,S x->S y->S z->m (m x y) z=m x (m y z)
 el:∀x,S x->m e x=x
 er:∀x,S x->m x e=x
def acc {α:Type}(g:α->Nat->α) (x:List Int) (i:Nat) (out:α):Nat->α
 | 0=>out
 | k+1=>iter (gt x (i+k)).toNat (λy=>g y (i+k)) (acc g x i out k)
theorem acc_front {α:Type}(g:α->Nat->α) (x:List Int) (i:Nat) (out:α) (k:Nat):acc g x i out (k+1)=acc g x (i+1) (iter (gt x i).toNat (λy=>g y i) out) k:=by
 induction k with
 | zero=>rfl
 | succ k a=>
  rw[acc,a];show _=iter (gt x (i+1+k)).toNat (λy=>g y (i+1+k)) _
  rw[show i+(k+1)=i+1+k by omega]
theorem acc_inv {α:Type}(Q:α->Prop) (g:α->Nat->α) (x:List Int) (i:Nat) (out:α) (k:Nat) (l:Q out) (h:∀y j,Q y->i<=j->j<i+k->gt x j≠0->Q (g y j)):Q (acc g x i out k):=by
 induction k with
 | zero=>exact l
 | succ k m=>
  have h1:=m (λy j hy a b c=>h y j hy a (by omega) c);by_cases e:gt x (i+k)=0
  ·rw[acc,e];exact h1
  ·exact iter_inv Q _ (λy hy=>h y (i+k) hy (by omega) (by omega) e) _ _ h1
theorem acc_rel {α l:Type}(R:α->l->Prop) (g:α->Nat->α) (m:l->Nat->l) (x:List Int) (i:Nat) (out:α) (e:l) (k:Nat) (q:R out e) (h:∀y z j,R y z->i<=j->j<i+k->gt x j≠0->R (g y j) (m z j)) :
  R (acc g x i out k) (acc m x i e k):=by
 induction k with
 | zero=>exact q
 | succ k r=>
  have h1:=r (λy z j hy a b c=>h y z j hy a (by omega) c);by_cases p:gt x (i+k)=0
  ·rw[acc,acc,p];exact h1
  ·exact iter_rel R _ _ (λy z hy=>h y z (i+k) hy (by omega) (by omega) p) _ _ _ h1
theorem acc_congr {α:Type}(g:α->Nat->α) (x x':List Int) (i:Nat) (out:α) (k:Nat) (h:∀j,i<=j->j<i+k->gt x j=gt x' j):acc g x i out k=acc g x' i out k:=by
 induction k with
 | zero=>rfl
 | succ k e=>rw[acc,acc,e (λj a b=>h j a (by omega)),h (i+k) (by omega) (by omega)]
theorem acc_zero {α:Type}(g:α->Nat->α) (x:List Int) (i:Nat) (out:α) (k:Nat) (h:∀j,i<=j->j<i+k->gt x j=0):acc g x i out k=out:=by
 induction k with
 | zero=>rfl
 | succ k e=>rw[acc,e (λj a b=>h j a (by omega)),h (i+k) (by omega) (by omega)];rfl
theorem acc_split {α:Type}(g:α->Nat->α) (x:List Int) (i:Nat) (out:α) (a b:Nat):acc g x i out (a+b)=acc g x (i+a) (acc g x i out a) b:=by
 induction b with
 | zero=>rfl
 | succ b e=>
  show acc g x i out ((a+b)+1)=_
  rw[acc,acc,e,show i+(a+b)=i+a+b by omega]
theorem rImgTo_acc (at_:List Int->List Int->List Int) (a:List (List Int)) (i:Nat) (x out:List Int) (k:Nat) :
  rImgTo at_ a i x out k=acc (λy j=>at_ y (gt a (j-i-1))) x (i+1) out k:=by
 induction k with
 | zero=>rfl
 | succ k b=>rw[rImgTo,acc,b];simp only[show i+1+k-i-1=k by omega]
theorem tvecTo_acc (g:List Int->Nat->List Int) (f e:List Int) (k:Nat):tvecTo g f e k=acc g f 0 e k:=by
 induction k with
 | zero=>rfl
 | succ k a=>rw[tvecTo,acc,a,Nat.zero_add]
theorem tconjTo_acc (g:List Int->Nat->List Int) (a:List (List Int)) (e:List Int) (j:Nat) (out:List Int) (k:Nat) :
  tconjTo g a (e.drop (j+1)) out k=acc (λy l=>tvec g y (gt a (l-j-1))) e (j+1) out k:=by
 induction k with
 | zero=>rfl
 | succ k b=>
  rw[tconjTo,acc,b];have:gt (e.drop (j+1)) k=gt e (j+1+k):=by simp[gt]
  simp only[this,show j+1+k-j-1=k by omega]
section
variable {α:Type}{S:α->Prop}{m:α->α->α}{e:α}
theorem MonOn.pow_cl (M:MonOn S m e) {h y:α}(a:S h) (hy:S y) (k:Nat):S (iter k (λy=>m y h) y):=iter_inv S _ (λy hy=>M.cl y h hy a) k y hy
theorem MonOn.pow_out (M:MonOn S m e) {h y:α}(a:S h) (hy:S y) (k:Nat):iter k (λy=>m y h) y=m y (iter k (λy=>m y h) e):=by
 induction k with
 | zero=>exact(M.er y hy).symm
 | succ k b=>
  show m (iter k (λy=>m y h) y) h=m y (m (iter k (λy=>m y h) e) h)
  rw[b,M.ass y _ h hy (M.pow_cl a M.one k) a]
theorem MonOn.pow_add (M:MonOn S m e) {h:α}(i:S h) (a b:Nat):iter (a+b) (λy=>m y h) e=m (iter a (λy=>m y h) e) (iter b (λy=>m y h) e):=by
 rw[Nat.add_comm,iter_add,M.pow_out i (M.pow_cl i M.one a)]
def npr (m:α->α->α) (h:Nat->α) (x:List Int) (i:Nat) (out:α) (k:Nat):α:=acc (λy j=>m y (h j)) x i out k
theorem npr_cl (M:MonOn S m e) {h:Nat->α}{x:List Int}{i:Nat}{out:α}{k:Nat}(l:S out) (p:∀j,i<=j->j<i+k->S (h j)):S (npr m h x i out k):=
 acc_inv S _ x i out k l (λy j hy a b _=>M.cl y _ hy (p j a b))
theorem npr_out (M:MonOn S m e) {h:Nat->α}{x:List Int}{i:Nat}{out:α}{k:Nat}(p:S out) (q:∀j,i<=j->j<i+k->S (h j)):npr m h x i out k=m out (npr m h x i e k):=by
 induction k with
 | zero=>exact(M.er out p).symm
 | succ k r=>
  have l:∀j,i<=j->j<i+k->S (h j):=λj a b=>q j a (by omega);have h1:=r l;unfold npr at h1 ⊢;rw[acc,acc,h1];have c1:S (npr m h x i e k):=npr_cl M M.one l;have hk:=q (i+k) (by omega) (by omega);unfold npr at c1;rw[M.pow_out hk (M.cl _ _ p c1),M.pow_out hk c1,M.ass _ _ _ p c1 (M.pow_cl hk M.one _)]
theorem npr_front (M:MonOn S m e) {h:Nat->α}{x:List Int}{i:Nat}{k:Nat}(l:∀j,i<=j->j<i+(k+1)->S (h j)) :
  npr m h x i e (k+1)=m (iter (gt x i).toNat (λy=>m y (h i)) e) (npr m h x (i+1) e k):=by
 have h1:npr m h x i e (k+1)=npr m h x (i+1) (iter (gt x i).toNat (λy=>m y (h i)) e) k:=acc_front _ x i e k;rw[h1];exact npr_out M (M.pow_cl (l i (by omega) (by omega)) M.one _) (λj a b=>l j (by omega) (by omega))
structure Holds (P:Pr) (S:α->Prop) (m:α->α->α) (e:α) (h:Nat->α) (i:Nat):Prop where
 mem:∀j,i<=j->j<P.orders.length->S (h j)
 pw:∀j,i<=j->j<P.orders.length->iter (gt P.orders j).toNat (λy=>m y (h j)) e=npr m h (gt P.powers j) (j+1) e (P.orders.length-(j+1))
 cj:∀j k,i<=j->j<k->k<P.orders.length->m (h k) (h j)=m (h j) (npr m h (gt (gt P.conj j) (k-j-1)) (j+1) e (P.orders.length-(j+1)))
theorem Holds.up {P:Pr}{h:Nat->α}{i l:Nat}(H:Holds P S m e h i) (hi:i<=l):Holds P S m e h l:=
 ⟨λj a b=>H.mem j (by omega) b,λj a b=>H.pw j (by omega) b,λj k a b c=>H.cj j k (by omega) b c⟩
theorem vd_image {P:Pr}(hP:Valid P) (M:MonOn S m e) {h:Nat->α}{i f:Nat}(hi:i+(f+1)=P.orders.length) (H:Holds P S m e h i)
  (D:∀A B,Vec P.orders A->Vec P.orders B->npr m h (rAt P f (i+1) A B) (i+1) e f=m (npr m h A (i+1) e f) (npr m h B (i+1) e f)) (x:List Int) :
  m (npr m h x (i+1) e f) (h i)=m (h i) (npr m h (rImage P f i x) (i+1) e f):=by
 have l:∀j,i<=j->j<P.orders.length->S (h j):=H.mem;have q:∀y,S (npr m h y (i+1) e f):=λy=>npr_cl M M.one (λj a b=>l j (by omega) (by omega));unfold rImage;rw[rImgTo_acc];have k:=l i (by omega) (by omega)
 have E:(λ(y:α) (z:List Int)=>S y/\Vec P.orders z/\m y (h i)=m (h i) (npr m h z (i+1) e f)) (npr m h x (i+1) e f)
   (acc (λy j=>rAt P f (i+1) y (gt (gt P.conj i) (j-i-1))) x (i+1) (zeros P.orders.length) f):=by
  unfold npr;refine acc_rel (λ(y:α) (z:List Int)=>S y/\Vec P.orders z/\m y (h i)=m (h i) (npr m h z (i+1) e f)) _ _ x (i+1) _ _ f ⟨M.one,zeros_vec hP,?_⟩ ?_
  ·have F:npr m h (zeros P.orders.length) (i+1) e f=e:=acc_zero _ _ _ _ _ (λj _ _=>gt_replicate _ _)
   rw[F,M.el _ k,M.er _ k]
  ·rintro y z j ⟨h1,r,h3⟩ a b _
   have u:=(hP.cv i (by omega)).2 (j-i-1) (by omega);have w:=l j (by omega) (by omega);refine⟨M.cl _ _ h1 w,rAt_vec hP f _ _ _ (by omega) r u.1,?_⟩;have C:=D z _ r u.1;have p:=H.cj i j (by omega) (by omega) (by omega);have G:P.orders.length-(i+1)=f:=by omega
   rw[G] at p;have c1:=q z;have c2:=q (gt (gt P.conj i) (j-i-1));unfold npr at h3 C p c1 c2 ⊢;rw[C,M.ass _ _ _ h1 w k,p,<-M.ass _ _ _ h1 k c2,h3,M.ass _ _ _ k c1 c2]
 exact E.2.2
theorem vd_at {P:Pr}(hP:Valid P) (M:MonOn S m e) {h:Nat->α}(f:Nat):∀(i:Nat),i+f=P.orders.length->Holds P S m e h i->∀A B,Vec P.orders A->Vec P.orders B ->
  npr m h (rAt P f i A B) i e f=m (npr m h A i e f) (npr m h B i e f):=by
 induction f with
 | zero=>intro i _ _ A B _ _;exact(M.el e M.one).symm
 | succ f N=>
  intro i hi H A B I hB;have C:=N (i+1) (by omega) (H.up (by omega));have D:∀j,i<=j->j<P.orders.length->S (h j):=H.mem;have p:∀y,S (npr m h y (i+1) e f):=λy=>npr_cl M M.one (λj a b=>D j (by omega) (by omega));have r:=D i (by omega) (by omega);have hW:∀k,S (iter k (λy=>m y (h i)) e):=λk=>M.pow_cl r M.one k;have E:=vd_image hP M hi H C
  have q:∀(y:List Int) (c:Int),npr m h (y.set i c) (i+1) e f=npr m h y (i+1) e f:=λy c=>
   acc_congr _ _ _ _ _ _ (λj a _=>gt_set_ne _ _ _ _ (by omega))
  have w:∀y,npr m h y i e (f+1)=m (iter (gt y i).toNat (λy=>m y (h i)) e) (npr m h y (i+1) e f):=λy=>npr_front M (λj a b=>D j a (by omega));have U:=hP.ord7 i (by omega);have O:=I.2 i (by omega);have Q:=hB.2 i (by omega);-- the left factor drawn through
  have z:∀b:Nat,Vec P.orders (iter b (λl=>rImgTo (rAt P f (i+1)) (gt P.conj i) i l (zeros P.orders.length) f) (A.set i 0)) /\
    m (npr m h A (i+1) e f) (iter b (λy=>m y (h i)) e)=m (iter b (λy=>m y (h i)) e) (npr m h (iter b (λl=>rImgTo (rAt P f (i+1)) (gt P.conj i) i l (zeros P.orders.length) f) (A.set i 0)) (i+1) e f):=by
   intro b;induction b with
   | zero=>
    refine⟨I.set i 0 ⟨by omega,λ_=>by omega⟩,?_⟩;show m _ e=m e (npr m h (A.set i 0) (i+1) e f)
    rw[q,M.er _ (p A),M.el _ (p A)]
   | succ b F=>
    obtain⟨v1,e1⟩:=F
    have v2:Vec P.orders (rImgTo (rAt P f (i+1)) (gt P.conj i) i (iter b (λl=>rImgTo (rAt P f (i+1)) (gt P.conj i) i l (zeros P.orders.length) f) (A.set i 0)) (zeros P.orders.length) f):=
     rImgTo_vec hP f i hi (rAt_vec hP f) _ _ (zeros_vec hP) f (Nat.le_refl _)
    refine⟨v2,?_⟩;have R:=E (iter b (λl=>rImgTo (rAt P f (i+1)) (gt P.conj i) i l (zeros P.orders.length) f) (A.set i 0));show m _ (m (iter b (λy=>m y (h i)) e) (h i))=m (m (iter b (λy=>m y (h i)) e) (h i)) (npr m h (rImage P f i _) (i+1) e f)
    rw[<-M.ass _ _ _ (p A) (hW b) r,e1,M.ass _ _ _ (hW b) (p _) r,R,<-M.ass _ _ _ (hW b) r (p _)]
  obtain⟨J,el⟩:=z (gt B i).toNat;have K:Vec P.orders (B.set i 0):=hB.set i 0 ⟨by omega,λ_=>by omega⟩;have er:=C _ _ J K;rw[q B 0] at er;have G:=rAt_vec hP f (i+1) _ _ (by omega) J K;rw[w A,w B];-- both sides to one form
  have key:m (m (iter (gt A i).toNat (λy=>m y (h i)) e) (npr m h A (i+1) e f)) (m (iter (gt B i).toNat (λy=>m y (h i)) e) (npr m h B (i+1) e f)) =
    m (iter ((gt A i).toNat+(gt B i).toNat) (λy=>m y (h i)) e) (npr m h (rAt P f (i+1) (iter (gt B i).toNat (λl=>rImgTo (rAt P f (i+1)) (gt P.conj i) i l (zeros P.orders.length) f) (A.set i 0)) (B.set i 0)) (i+1) e f):=by
   rw[er,M.pow_add r,M.ass _ _ _ (hW _) (p _) (M.cl _ _ (hW _) (p _)),<-M.ass _ _ _ (p A) (hW _) (p _),el,M.ass _ _ _ (hW _) (p _) (p _),<-M.ass _ _ _ (hW _) (hW _) (M.cl _ _ (p _) (p _))]
  rw[key,w];simp only[rAt];by_cases L:gt P.orders i<=gt A i+gt B i
  ·rw [if_pos L]
   have vp:=(hP.pv i (by omega)).1;have v3:=rAt_vec hP f (i+1) _ _ (by omega) vp G;rw[q,gt_set_eq _ _ _ (by rw[v3.1];omega),C _ _ vp G];have u:(gt A i).toNat+(gt B i).toNat=(gt A i+gt B i-gt P.orders i).toNat+(gt P.orders i).toNat:=by omega
   rw[u,M.pow_add r,H.pw i (by omega) (by omega),show P.orders.length-(i+1)=f by omega,M.ass _ _ _ (hW _) (p _) (p _)]
  ·rw [if_neg L,q,gt_set_eq _ _ _ (by rw[G.1];omega)]
   have u:(gt A i).toNat+(gt B i).toNat=(gt A i+gt B i).toNat:=by omega
   rw[u]
theorem npr_three (M:MonOn S m e) {h:Nat->α}{y:List Int}{i j n:Nat}(k:i<=j) (q:j<n) (p:∀l,i<=l->l<n->S (h l)) :
  npr m h y i e (n-i)=m (m (npr m h y i e (j-i)) (iter (gt y j).toNat (λy=>m y (h j)) e)) (npr m h y (j+1) e (n-(j+1))):=by
 have h1:npr m h y i e (n-i)=npr m h y (j+1) (iter (gt y j).toNat (λy=>m y (h j)) (npr m h y i e (j-i))) (n-(j+1)):=by
  unfold npr;rw[show n-i=(j-i)+((n-(j+1))+1) by omega,acc_split,acc_front,show i+(j-i)=j by omega]
 have c1:S (npr m h y i e (j-i)):=npr_cl M M.one (λl a b=>p l a (by omega));rw[h1,npr_out M (M.pow_cl (p j k q) c1 _) (λl a b=>p l (by omega) (by omega)),M.pow_out (p j k q) c1]
theorem vd_gen {P:Pr}(hP:Valid P) (M:MonOn S m e) {h:Nat->α}{i:Nat}(H:Holds P S m e h i) (f:Nat):∀(E:List Int) (j:Nat),Vec P.orders E->i<=j->j<P.orders.length->P.orders.length<=f+j ->
  npr m h (tgen P f E j) i e (P.orders.length-i)=m (npr m h E i e (P.orders.length-i)) (h j):=by
 have w:∀j,i<=j->j<P.orders.length->S (h j):=H.mem;have W:∀y,S (npr m h y i e (P.orders.length-i)):=λy=>npr_cl M M.one (λj a b=>w j a (by omega));induction f with
 | zero=>intro E j _ _ q Z;omega
 | succ f ih=>
  intro E j hE r q Z;have A:=w j r q;have hT:∀y,S (npr m h y (j+1) e (P.orders.length-(j+1))):=λy=>npr_cl M M.one (λl a b=>w l (by omega) (by omega));have p:∀y,S (npr m h y i e (j-i)):=λy=>npr_cl M M.one (λl a b=>w l a (by omega));have hW:∀k,S (iter k (λy=>m y (h j)) e):=λk=>M.pow_cl A M.one k
  have I:∀c,Vec P.orders c->ZeroTo j c->∀x,Vec P.orders x->Vec P.orders (tvec (tgen P f) x c):=λc u F x hx=>
   tvec_vec u (λe i he hi h0=>tgen_vec hP f e i he hi (by
    have:¬i<=j:=λh=>h0 (F i h);omega)) hx
  have J:∀c,Vec P.orders c->ZeroTo j c->∀x,Vec P.orders x ->
    npr m h (tvec (tgen P f) x c) i e (P.orders.length-i)=m (npr m h x i e (P.orders.length-i)) (npr m h c (j+1) e (P.orders.length-(j+1))):=by
   intro c u F x hx;unfold tvec
   rw [tvecTo_acc,u.1,show P.orders.length=(j+1)+(P.orders.length-(j+1)) by omega,acc_split,acc_zero (tgen P f) c 0 x (j+1) (λl _ b=>F l (by omega)),show 0+(j+1)=j+1 by omega,
    show(j+1)+(P.orders.length-(j+1))=P.orders.length by omega]
   have U:=acc_rel (λ(y:α) (z:List Int)=>S y/\Vec P.orders z/\npr m h z i e (P.orders.length-i)=y) (λy l=>m y (h l)) (tgen P f) c (j+1) (npr m h x i e (P.orders.length-i)) x (P.orders.length-(j+1))
    ⟨W x,hx,rfl⟩ (by
     rintro y z l ⟨h1,K,G⟩ a b _;refine⟨M.cl _ _ h1 (w l (by omega) (by omega)),tgen_vec hP f z l K (by omega) (by omega),?_⟩;rw[ih z l K (by omega) (by omega) (by omega),G])
   rw[U.2.2];exact npr_out M (W x) (λl a b=>w l (by omega) (by omega))
  have hl:=hE.1;have B:j+1+(E.drop (j+1)).length<=E.length:=by simp;omega
  have F:=hE.zeroed j (E.drop (j+1)).length B;have hx:=hE.2 j q;have ho:=hP.ord7 j q;have ae:=length_zeroed E j (E.drop (j+1)).length B
  have L:∀c:Int,npr m h ((zeroed E j (E.drop (j+1)).length).set j c) i e (P.orders.length-i)=m (npr m h E i e (j-i)) (iter c.toNat (λy=>m y (h j)) e):=by
   intro c;rw[npr_three M r q w,gt_set_eq _ _ _ (by omega)]
   have e1:npr m h ((zeroed E j (E.drop (j+1)).length).set j c) i e (j-i)=npr m h E i e (j-i):=
    acc_congr _ _ _ _ _ _ (λl a b=>by rw[gt_set_ne _ _ _ _ (by omega),gt_zeroed _ _ _ _ B,if_neg (by omega)])
   have C:npr m h ((zeroed E j (E.drop (j+1)).length).set j c) (j+1) e (P.orders.length-(j+1))=e:=
    acc_zero _ _ _ _ _ (λl a b=>by
     rw[gt_set_ne _ _ _ _ (by omega),gt_zeroed _ _ _ _ B,if_pos ⟨by omega,by simp;omega⟩])
   rw[e1,C,M.er _ (M.cl _ _ (p E) (hW _))]
  obtain⟨C,N⟩:∃C,C=(if gt E j+1=gt P.orders j then tvec (tgen P f) (((zeroed E j (E.drop (j+1)).length).set j (gt E j+1)).set j 0) (gt P.powers j) else (zeroed E j (E.drop (j+1)).length).set j (gt E j+1)):=⟨_,rfl⟩
  have K:Vec P.orders C/\npr m h C i e (P.orders.length-i)=m (m (npr m h E i e (j-i)) (iter (gt E j).toNat (λy=>m y (h j)) e)) (h j):=by
   have X:m (npr m h E i e (j-i)) (iter (gt E j+1).toNat (λy=>m y (h j)) e)=m (m (npr m h E i e (j-i)) (iter (gt E j).toNat (λy=>m y (h j)) e)) (h j):=by
    rw[show(gt E j+1).toNat=(gt E j).toNat+1 by omega];exact(M.ass _ _ _ (p E) (hW _) A).symm
   rw[N];split
   ·rename_i u
    rw[List.set_set];have O:Vec P.orders ((zeroed E j (E.drop (j+1)).length).set j 0):=F.set j 0 ⟨by omega,λ_=>by omega⟩;refine⟨I _ (hP.pv j q).1 (hP.pv j q).2 _ O,?_⟩;rw[J _ (hP.pv j q).1 (hP.pv j q).2 _ O,L,<-H.pw j r q,<-X,u];show m (m _ e) _=_
    rw[M.er _ (p E)]
   ·rename_i u
    exact⟨F.set j _ ⟨by omega,λ_=>by omega⟩,by rw[L,X]⟩
  have Q:tgen P (f+1) E j=tconjTo (tgen P f) (gt P.conj j) (E.drop (j+1)) C (E.drop (j+1)).length:=by rw[N];rfl
  have V:(E.drop (j+1)).length=P.orders.length-(j+1):=by simp;omega
  rw[Q,tconjTo_acc,V];have R:S (m (npr m h E i e (j-i)) (iter (gt E j).toNat (λy=>m y (h j)) e)):=M.cl _ _ (p E) (hW _)
  have U:=acc_rel (λ(y:α) (z:List Int)=>S y/\Vec P.orders z/\npr m h z i e (P.orders.length-i)=m (m (m (npr m h E i e (j-i)) (iter (gt E j).toNat (λy=>m y (h j)) e)) y) (h j))
   (λy l=>m y (h l)) (λy l=>tvec (tgen P f) y (gt (gt P.conj j) (l-j-1))) E (j+1) e C (P.orders.length-(j+1))
   ⟨M.one,K.1,by rw[K.2,M.er _ R]⟩ (by
    rintro y z l ⟨G,Y,h5⟩ a b _;have u:=(hP.cv j q).2 (l-j-1) (by omega);have D:=w l (by omega) (by omega);refine⟨M.cl _ _ G D,I _ u.1 u.2 _ Y,?_⟩;rw[J _ u.1 u.2 _ Y,h5,M.ass _ _ _ (M.cl _ _ R G) A (hT _),<-H.cj j l r (by omega) (by omega),<-M.ass _ _ _ (M.cl _ _ R G) D A,M.ass _ _ _ R G D])
  rw[U.2.2,npr_three M r q w (y:=E)];rfl
theorem vd_tg {P:Pr}(hP:Valid P) (M:MonOn S m e) {h:Nat->α}{i:Nat}(H:Holds P S m e h i) (E:List Int) (j:Nat) (hE:Vec P.orders E) (a:i<=j) (b:j<P.orders.length) :
  npr m h (tg P E j) i e (P.orders.length-i)=m (npr m h E i e (P.orders.length-i)) (h j):=vd_gen hP M H _ E j hE a b (by omega)
theorem vd_tv {P:Pr}(hP:Valid P) (M:MonOn S m e) {h:Nat->α}{i:Nat}(hi:i<=P.orders.length) (H:Holds P S m e h i) (E F:List Int) (hE:Vec P.orders E) (hF:Vec P.orders F) (u:∀k,k<i->gt F k=0) :
  npr m h (tv P E F) i e (P.orders.length-i)=m (npr m h E i e (P.orders.length-i)) (npr m h F i e (P.orders.length-i)):=by
 have p:∀j,i<=j->j<P.orders.length->S (h j):=H.mem;have q:∀y,S (npr m h y i e (P.orders.length-i)):=λy=>npr_cl M M.one (λj a b=>p j a (by omega));unfold tv tvec
 rw [tvecTo_acc,hF.1,show P.orders.length=i+(P.orders.length-i) by omega,acc_split,acc_zero (tg P) F 0 E i (λl _ b=>u l (by omega)),show 0+i=i by omega,
  show i+(P.orders.length-i)=P.orders.length by omega]
 have w:=acc_rel (λ(y:α) (z:List Int)=>S y/\Vec P.orders z/\npr m h z i e (P.orders.length-i)=y) (λy l=>m y (h l)) (tg P) F i (npr m h E i e (P.orders.length-i)) E (P.orders.length-i)
  ⟨q E,hE,rfl⟩ (by
   rintro y z l ⟨h1,r,h3⟩ a b _;refine⟨M.cl _ _ h1 (p l (by omega) (by omega)),tg_vec hP z l r (by omega),?_⟩;rw[vd_tg hP M H z l r (by omega) (by omega),h3])
 rw[w.2.2];exact npr_out M (q E) (λl a b=>p l (by omega) (by omega))
end
end Go.Proofs.YtldheeicjnncoaaGreat
