/- Merged from templates. -/
import Derived.Test.YtdcobapnlpeaaaaGreatY2
import Derived.Deep.AppendLies
import Derived.Deep.RegionLaw
import Derived.Deep.DrawnRows
set_option maxRecDepth 100000
set_option maxHeartbeats 8000000
namespace Go.Proofs.YtdcobapnlpeaaaaGreat
open Go.RowKit
theorem step_app (T E:Nat) (z:Value) (bytes:Nat) (B:Tryz.prog.underlying T=some (.slice E)) (C:(Tryz.prog.info? E).map (λi=>(i.zero,i.size,i.bytes))=some (some z,1,bytes))
  (p:z.cells.size=1) (q:bytes<=64) {r:Array Oper}{o:Oper}{a:Act}{K:Act->World->Prop}{Q:Exit->Act->World->Prop}{D:Prop}{w:World}(y:o.guard=none) (s x:Operand)
  (F:o.op=Op.call { callee:=Callee.builtin Builtin.append,args := #[s,x],argTypes := #[T,T] }) (base:Nat) (v:Value) (xs:List Value) (G:a.eval s=v) (e:OwnV base E w v xs)
  (H:Nat) (u:Value) (hx:a.eval x=.slice (some ⟨H,0,none⟩) 1 1) (I:w.cell? ⟨H,0,none⟩=some u) (h1:u.oneCell'=true) (A:xs.length<=2000000) (b:base<=w.heap.size)
  (h:∀m w',OwnV base E w' m (xs++[u])->w.grownBy w' v.ownBlock->(m.ownBlock=v.ownBlock\/m.ownBlock=some w.heap.size)->K (a.put o.dst m) w') :
  if Region.wanted o (yielded r a.tmps)=true then Oper.wp Tryz.prog o a w K Q else D:=by
 obtain⟨J,hi,hz0,hz1,hz2⟩:=info_parts C;refine step_append_lies w y s x T F base E J z 1 bytes B hi hz0 hz1 hz2 p (by decide) v xs.length xs G e ⟨H,0,none⟩ 1 1 [u] hx rfl ?_ ?_ (by omega) (by unfold maxLen;omega) (by have:=Nat.mul_le_mul (show xs.length+1<=2000001 by omega) q;omega) b w.heap.size rfl ?_
 ·intro j L n
  match j,n with
  | 0,n=>
   simp at n;subst n
   simpa [Addr.add] using I
 ·intro L k
  simp at k;subst k;exact h1
 ·intro g cap w' M N l _
  refine h _ w' ?_ N ?_
  ·unfold OwnV;rw[List.length_append];exact M
  ·rcases l with l|l
   ·left;rw[l];rfl
   ·right;rw[<-l];rfl
theorem step_app_one {α:Type} [Inhabited α] {El:(Nat->Prop)->World->Value->α->Prop}(r:RdOk El) (T E:Nat) (z:Value) (bytes:Nat) (hT:Tryz.prog.underlying T=some (.slice E))
  (hE:(Tryz.prog.info? E).map (λi=>(i.zero,i.size,i.bytes))=some (some z,1,bytes)) (N:z.cells.size=1) (O:bytes<=64)
  {P:Array Oper}{o:Oper}{a:Act}{K:Act->World->Prop}{Q:Exit->Act->World->Prop}{Ex:Prop}{w:World}(R:o.guard=none) (s x:Operand)
  (ho:o.op=Op.call { callee:=Callee.builtin Builtin.append,args := #[s,x],argTypes := #[T,T] }) (B:Nat) (n g:World) (v u:Value) (xs:List α) (y:α) (hs:a.eval s=v) (D:SlO El E B n v xs)
  (L:Ext n g) (Z:El (From n.heap.size) g u y) (hw:w=g.alloc (.cells #[u] E)) (hx:a.eval x=.slice (some ⟨g.heap.size,0,none⟩) 1 1) (aa:xs.length<=1000000) (S:B<=n.heap.size)
  (h:∀F w',SlO El E B w' F (xs++[y])->n.grownBy w' v.ownBlock->g.grownBy w' v.ownBlock->K (a.put o.dst F) w') :
  if Region.wanted o (yielded P a.tmps)=true then Oper.wp Tryz.prog o a w K Q else Ex:=by
 subst hw;obtain⟨U,G,A,hO,hG,hd,V⟩:=D;have H:Ext g (g.alloc (.cells #[u] E)):=World.grownBy_alloc _ _ _;have W:OwnV B E (g.alloc (.cells #[u] E)) v U:=hO.kept (grown_trans L H) (by cases hv:v.ownBlock<;>simp);refine step_app T E z bytes hT hE N O R s x ho B v U hs W g.heap.size u hx (by rw[World.cell?_alloc_at _ _ _ _ rfl];rfl) (r.one Z) (by omega) (by have:=L.size;simp;omega) ?_;intro F w' h1 h2 X;have I:∀k,v.ownBlock=some k->B<=k/\k<n.heap.size:=hO.lt;have m:g.grownBy w' v.ownBlock:=grown_trans (grown_of_ext _ H) h2;have p:n.grownBy w' v.ownBlock:=grown_trans (grown_of_ext _ L) m
 have q:∀k,F.ownBlock=some k->v.ownBlock=some k\/g.heap.size<k+1:=by
  intro k hk;rcases X with h|h
  ·exact .inl (by rw[<-h];exact hk)
  ·rw [h] at hk
   have:(g.alloc (.cells #[u] E)).heap.size=k:=by simpa using hk
   simp at this
   exact .inr (by omega)
 have ac:=L.size;refine h F w' ⟨U++[u],λi k=>if i<xs.length then G i k/\k<n.heap.size else n.heap.size<=k/\k<g.heap.size,by simp[A],h1,?_,?_,?_⟩ p m
 ·intro i k M hk
  split at hk
  ·rename_i l
   obtain⟨a1,a2,a3⟩:=hG i k l hk.1;refine⟨a1,λC => ?_,Nat.lt_of_lt_of_le a3 p.size⟩;rcases q k C with h|h
   ·exact a2 h
   ·omega
  ·refine ⟨by omega,λC => ?_,Nat.lt_of_lt_of_le hk.2 m.size⟩
   rcases q k C with h|h
   ·have:=I k h;omega
   ·omega
 ·intro i j k M hj hk J
  simp only[List.length_append,List.length_singleton] at M hj;split at hk<;>split at J
  ·exact hd i j k (by assumption) (by assumption) hk.1 J.1
  ·omega
  ·omega
  ·omega
 ·intro i M
  simp only[List.length_append,List.length_singleton] at M;by_cases l:i<xs.length
  ·rw [gt_append_left _ _ _ (by omega),gt_append_left _ _ _ l]
   simp only[if_pos l];exact r.mono (V i l) (λk hk b=>⟨⟨hk,b⟩,Nat.lt_of_lt_of_le b p.size,p.block k b (λe=>(hG i k l hk).2.1 e.symm)⟩)
  ·have Y:i=xs.length:=by omega
   subst Y;rw[gt_concat,<-A,gt_concat];simp only[A,Nat.lt_irrefl,if_false]
   exact r.mono Z (λk hk b=>⟨⟨hk,b⟩,Nat.lt_of_lt_of_le b m.size,m.block k b (λe=>by
    have hk:n.heap.size<=k:=hk;have:=I k e.symm;omega)⟩)
theorem Box3.all {W:World}{b:Nat}{a e g:Value}(h:Box3 W b a e g) (x y z:Value):Box3 (((W.setCell ⟨b,0,none⟩ x).setCell ⟨b,1,none⟩ y).setCell ⟨b,2,none⟩ z) b x y z:=
 ((((h.put x).1.put y).2.1).put z).2.2
theorem grown_set1 (w:World) (b j:Nat) (v:Value):w.grownBy (w.setCell ⟨b,j,none⟩ v) (some b):=⟨rfl,rfl,rfl,by simp[World.setCell],λk _ hk=>Below.heap_setCell _ _ _ _ (by intro e;exact hk (by rw[e]))⟩
theorem grown_set3 (w:World) (b:Nat) (x y z:Value):w.grownBy (((w.setCell ⟨b,0,none⟩ x).setCell ⟨b,1,none⟩ y).setCell ⟨b,2,none⟩ z) (some b):=
 grown_trans (grown_set1 _ _ _ _) (grown_trans (grown_set1 _ _ _ _) (grown_set1 _ _ _ _))
def SlI {α:Type} [Inhabited α] (El:(Nat->Prop)->World->Value->α->Prop) (E:Nat) (F:Nat->Prop) (w:World) (v:Value) (xs:List α):Prop:=
 ∃ (a:List Value) (G:Nat->Nat->Prop),a.length=xs.length/\xs.length<=9223372036854775807/\OwnV 0 E w v a/\(∀k,v.ownBlock=some k->F k) /\
  (∀i k,i<xs.length->G i k->F k/\v.ownBlock≠some k/\k<w.heap.size) /\
  (∀i j k,i<xs.length->j<xs.length->G i k->G j k->i=j)/\∀i,i<xs.length->El (G i) w (gt a i) (gt xs i)
section
variable {α:Type} [Inhabited α] {El:(Nat->Prop)->World->Value->α->Prop}{E:Nat}
theorem SlI.of {B:Nat}{F:Nat->Prop}{w:World}{v:Value}{xs:List α}(h:SlO El E B w v xs) (e:xs.length<=9223372036854775807) (hF:∀k,B<=k->k<w.heap.size->F k):SlI El E F w v xs:=by
 obtain⟨g,G,hvl,hO,a,hd,hE⟩:=h;exact⟨g,G,hvl,e,ownsRow_move hO (λ_ _=>⟨rfl,Nat.zero_le _⟩),λk hk=>hF k (hO.lt k hk).1 (hO.lt k hk).2,λi k b hk=>⟨hF k (a i k b hk).1 (a i k b hk).2.2,(a i k b hk).2⟩,hd,hE⟩
theorem SlI.d {F:Nat->Prop}{w:World}{v:Value}{xs:List α}(h:SlI El E F w v xs):SlD El F w v xs:=by
 obtain⟨j,G,a,hl,hO,hF,e,hd,hE⟩:=h;refine⟨G,λk=>v.ownBlock=some k,λk hk=>hF k hk,λi k b hk=>⟨(e i k b hk).1,λh=>(e i k b hk).2.1 h⟩,hd,?_⟩;rcases hO.form with⟨rfl,rfl⟩|⟨g,cap,rfl,hnc,j6,hgs⟩
 ·have:xs.length=0:=by simpa using a.symm
  exact⟨none,0,by rw[this],⟨by omega,by omega,λ_=>rfl⟩,λi b=>by omega⟩
 ·refine ⟨_,cap,by rw[a],⟨by omega,hl,λh=>by cases h⟩,λi b=>⟨g,0,gt j i,rfl,rfl,hgs,?_,hE i b⟩⟩
  rw[Nat.zero_add];exact hO.cell i (by omega)
theorem rdI (l:RdOk El):RdOk (SlI El E):=by
 refine⟨λ{F F' w w' u x} h j => ?_,λ{F w u x} h => ?_⟩
 ·obtain ⟨m,G,hvl,hl,hO,hF,e,hd,n⟩:=h
  have a:=hO.lt
  exact ⟨m,G,hvl,hl,ownsRow_move hO (λk hk=>⟨(j k (hF k hk) (a k hk).2).2.2,Nat.zero_le _⟩),λk hk=>(j k (hF k hk) (a k hk).2).1,
   λi k b hk=>⟨(j k (e i k b hk).1 (e i k b hk).2.2).1,(e i k b hk).2.1,(j k (e i k b hk).1 (e i k b hk).2.2).2.1⟩,hd,
   λi b=>l.mono (n i b) (λk hk a=>⟨hk,(j k (e i k b hk).1 a).2⟩)⟩
 ·obtain ⟨m,G,_,_,⟨_,h|⟨g,cap,cur,p,_⟩⟩,_⟩:=h
  ·rw[h.1];rfl
  ·rw[p];rfl
theorem SlI.map {a:(Nat->Prop)->World->Value->α->Prop}(b:∀F w u x,El F w u x->a F w u x) {F:Nat->Prop}{w:World}{v:Value}{xs:List α}(h:SlI El E F w v xs):SlI a E F w v xs:=by
 obtain⟨e,G,hvl,hl,hO,h1,hG,hd,g⟩:=h;exact⟨e,G,hvl,hl,hO,h1,hG,hd,λi j=>b _ _ _ _ (g i j)⟩
theorem SlI.form {F:Nat->Prop}{w:World}{v:Value}{xs:List α}(h:SlI El E F w v xs):(v=.slice none 0 0/\xs=[])\/∃g cap,v=.slice (some ⟨g,0,none⟩) xs.length cap/\F g/\g<w.heap.size:=by
 obtain⟨b,G,a,hl,hO,h1,hG,hd,hE⟩:=h;rcases hO.form with⟨rfl,rfl⟩|⟨g,cap,rfl,hnc,j6,hgs⟩
 ·exact .inl ⟨rfl,List.eq_nil_of_length_eq_zero (by simpa using a.symm)⟩
 ·exact .inr ⟨g,cap,by rw[a],h1 g rfl,hgs⟩
theorem SlI.place {F:Nat->Prop}{g n cap:Nat}{w:World}{xs:List α}(h:SlI El E F w (.slice (some ⟨g,0,none⟩) n cap) xs) (k:Nat) (hk:k<xs.length):(∃z,w.cell? ⟨g,k,none⟩=some z)/\w.frozen? ⟨g,k,none⟩=false:=by
 obtain⟨a,G,hvl,hl,hO,h1,hG,hd,hE⟩:=h;refine⟨⟨_,hO.cell k (by omega)⟩,?_⟩
 have b:n=a.length:=by
  obtain⟨_,⟨h,_⟩|⟨_,_,_,h,_⟩⟩:=hO<;>cases h;rfl
 subst b;exact World.ownsRow.frozenAt hO k
theorem SlI.store (p:RdOk El) {F:Nat->Prop}{g n cap:Nat}{m a:World}{xs:List α}{u:Value}{y:α}(h:SlI El E F m (.slice (some ⟨g,0,none⟩) n cap) xs)
  (w:Ext m a) (C:El (From m.heap.size) a u y) (j:Nat) :
  SlI El E (λk=>F k\/m.heap.size<=k) (a.setCell ⟨g,j,none⟩ u) (.slice (some ⟨g,0,none⟩) n cap) (xs.set j y)/\a.grownBy (a.setCell ⟨g,j,none⟩ u) (some g):=by
 obtain⟨z,G,A,hl,hO,hF,B,hd,D⟩:=h;have H:=hO.lt g rfl;have q:OwnV 0 E a (.slice (some ⟨g,0,none⟩) n cap) z:=hO.kept w (by simp[Value.ownBlock])
 have I:n=z.length:=by
  obtain⟨_,⟨h,_⟩|⟨_,_,_,h,_⟩⟩:=q<;>cases h;rfl
 subst I;obtain⟨h1,h2⟩:=World.ownsRow.stored q j u;have J:(a.setCell ⟨g,j,none⟩ u).heap.size=a.heap.size:=by simp[World.setCell]
 have hblk:∀k,k≠g->(a.setCell ⟨g,j,none⟩ u).heap[k]? = a.heap[k]? :=λk hk=>Below.heap_setCell _ _ _ _ (by simpa using hk);refine⟨⟨z.set j u,λi k=>if i=j then m.heap.size<=k/\k<a.heap.size else G i k/\k<m.heap.size,by simp[A],by rw[List.length_set];exact hl,?_,λk hk => .inl (hF k hk),?_,?_,?_⟩,h2⟩
 ·unfold OwnV;rw[List.length_set];exact h1
 ·intro i k b hk
  rw[List.length_set] at b;simp only[Value.ownBlock];split at hk
  ·exact⟨.inr hk.1,by intro e;cases e;omega,by omega⟩
  ·obtain ⟨a1,a2,a3⟩:=B i k b hk.1
   exact⟨.inl a1,a2,by have:=w.size;omega⟩
 ·intro i K k b r hk v
  rw[List.length_set] at b r;split at hk<;>split at v
  ·omega
  ·omega
  ·omega
  ·exact hd i K k b r hk.1 v.1
 ·intro i b
  rw[List.length_set] at b;by_cases e:j=i
  ·subst e
   rw[gt_set_eq _ _ _ (by omega),gt_set_eq _ _ _ b];simp only[if_true];exact p.mono C (λk hk l=>⟨⟨hk,l⟩,by omega,hblk k (by have hk:m.heap.size<=k:=hk;omega)⟩)
  ·rw [gt_set_ne _ _ _ _ e,gt_set_ne _ _ _ _ e]
   simp only[if_neg (λh:i=j=>e h.symm)];refine p.mono (D i b) (λk hk l=>⟨⟨hk,l⟩,by have:=w.size;omega,?_⟩);rw[hblk k (λe=>(B i k b hk).2.1 (by rw[e];rfl))];exact w.block k l (by simp)
theorem SlI.turn (r:RdOk El) {F:Nat->Prop}{g n cap:Nat}{w:World}{xs:List α}(h:SlI El E F w (.slice (some ⟨g,0,none⟩) n cap) xs) (j:Nat) (p:j<xs.length) :
  ∃ (u:Value) (v:Nat->Prop),w.cell? ⟨g,j,none⟩=some u/\El v w u (gt xs j)/\(∀k,v k->F k/\k≠g/\k<w.heap.size) /\
   ∀w' y,Touch v w w'->El (λk=>v k\/w.heap.size<=k) w' u y->SlI El E (λk=>F k\/w.heap.size<=k) w' (.slice (some ⟨g,0,none⟩) n cap) (xs.set j y):=by
 obtain⟨C,G,hvl,hl,hO,hF,b,z,D⟩:=h;have H:=hO.lt g rfl;refine⟨gt C j,G j,hO.cell j (by omega),D j p,λk hk=>⟨(b j k p hk).1,λe=>(b j k p hk).2.1 (by rw[e];rfl),(b j k p hk).2.2⟩,λw' y A hy => ?_⟩;refine⟨C,λi k=>if i=j then (G j k\/w.heap.size<=k)/\k<w'.heap.size else G i k,by rw[List.length_set];exact hvl,by rw[List.length_set];exact hl,ownsRow_move hO (λk hk=>⟨A.block k (hO.lt k hk).2 (λe=>(b j k p e).2.1 hk),Nat.zero_le _⟩),λk hk => .inl (hF k hk),?_,?_,?_⟩
 ·intro i k a hk
  rw[List.length_set] at a;split at hk
  ·rcases hk with⟨hk|hk,hk2⟩
   ·exact⟨.inl (b j k p hk).1,(b j k p hk).2.1,hk2⟩
   ·exact⟨.inr hk,λe=>by have:=(hO.lt k e).2;omega,hk2⟩
  ·exact⟨.inl (b i k a hk).1,(b i k a hk).2.1,by have:=A.size;have:=(b i k a hk).2.2;omega⟩
 ·intro i B k a q hk l
  rw[List.length_set] at a q;split at hk<;>split at l
  ·omega
  ·rcases hk.1 with h1|h1
   ·exact(by have:=z j B k p q h1 l;omega)
   ·have:=(b B k q l).2.2;omega
  ·rcases l.1 with h1|h1
   ·exact(by have:=z i j k a p hk h1;omega)
   ·have:=(b i k a hk).2.2;omega
  ·exact z i B k a q hk l
 ·intro i a
  rw[List.length_set] at a;by_cases e:j=i
  ·subst e
   rw[gt_set_eq _ _ _ a];simp only[if_true];exact r.mono hy (λk hk m=>⟨⟨hk,m⟩,m,rfl⟩)
  ·rw [gt_set_ne _ _ _ _ e]
   simp only[if_neg (λh:i=j=>e h.symm)];exact r.mono (D i a) (λk hk m=>⟨hk,Nat.lt_of_lt_of_le m A.size,A.block k m (λI=>e (z j i k p a I hk))⟩)
end
/-! ### append to such slices -/
section
variable {α:Type} [Inhabited α] {El:(Nat->Prop)->World->Value->α->Prop}{E:Nat}
theorem SlI.grow (w:RdOk El) {F:Nat->Prop}{g n w':World}{v z u:Value}{xs:List α}{y:α}{A:List Value}{G:Nat->Nat->Prop}(S:xs.length<=1000000)
  (q:A.length=xs.length) (hO:OwnV 0 E g v A) (hF:∀k,v.ownBlock=some k->F k) (L:∀i k,i<xs.length->G i k->F k/\v.ownBlock≠some k/\k<g.heap.size)
  (O:∀i j k,i<xs.length->j<xs.length->G i k->G j k->i=j) (H:∀i,i<xs.length->El (G i) g (gt A i) (gt xs i))
  (M:Ext g n) (P:El (From g.heap.size) n u y) (h1:OwnV 0 E w' z (A++[u])) (Q:(n.alloc (.cells #[u] E)).grownBy w' v.ownBlock) (I:z.ownBlock=v.ownBlock\/z.ownBlock=some (n.heap.size+1)) :
  SlI El E (λk=>F k\/g.heap.size<=k) w' z (xs++[y])/\g.grownBy w' v.ownBlock/\n.grownBy w' v.ownBlock:=by
 have J:Ext n (n.alloc (.cells #[u] E)):=World.grownBy_alloc _ _ _;have B:∀k,v.ownBlock=some k->k<g.heap.size:=λk hk=>(hO.lt k hk).2;have l:n.grownBy w' v.ownBlock:=grown_trans (grown_of_ext _ J) Q;have p:g.grownBy w' v.ownBlock:=grown_trans (grown_of_ext _ M) l
 have m:∀k,z.ownBlock=some k->v.ownBlock=some k\/n.heap.size<k:=by
  intro k hk;rcases I with h|h
  ·exact .inl (by rw[<-h];exact hk)
  ·rw[h] at hk;cases hk;exact .inr (by omega)
 have N:=M.size;refine⟨⟨A++[u],λi k=>if i<xs.length then G i k/\k<g.heap.size else g.heap.size<=k/\k<n.heap.size,by simp[q],by simp;omega,h1,?_,?_,?_,?_⟩,p,l⟩
 ·intro k hk
  rcases m k hk with h|h
  ·exact .inl (hF k h)
  ·exact .inr (by omega)
 ·intro i k D hk
  split at hk
  ·rename_i b
   obtain⟨a1,a2,a3⟩:=L i k b hk.1;refine⟨.inl a1,λr => ?_,Nat.lt_of_lt_of_le a3 p.size⟩;rcases m k r with h|h
   ·exact a2 h
   ·omega
  ·refine ⟨.inr hk.1,λr => ?_,Nat.lt_of_lt_of_le hk.2 l.size⟩
   rcases m k r with h|h
   ·have:=B k h;omega
   ·omega
 ·intro i j k D R hk C
  simp only[List.length_append,List.length_singleton] at D R;split at hk<;>split at C
  ·exact O i j k (by assumption) (by assumption) hk.1 C.1
  ·omega
  ·omega
  ·omega
 ·intro i D
  simp only[List.length_append,List.length_singleton] at D;by_cases b:i<xs.length
  ·rw [gt_append_left _ _ _ (by omega),gt_append_left _ _ _ b]
   simp only[if_pos b];exact w.mono (H i b) (λk hk a=>⟨⟨hk,a⟩,Nat.lt_of_lt_of_le a p.size,p.block k a (λe=>(L i k b hk).2.1 e.symm)⟩)
  ·have K:i=xs.length:=by omega
   subst K;rw[gt_concat,<-q,gt_concat];simp only[q,Nat.lt_irrefl,if_false]
   exact w.mono P (λk hk a=>⟨⟨hk,a⟩,Nat.lt_of_lt_of_le a l.size,l.block k a (λe=>by
    have hk:g.heap.size<=k:=hk;have:=B k e.symm;omega)⟩)
theorem wp_app_I (e:RdOk El) (T:Nat) (z:Value) (bytes:Nat) (K:Tryz.prog.underlying T=some (.slice E))
  (L:(Tryz.prog.info? E).map (λi=>(i.zero,i.size,i.bytes))=some (some z,1,bytes)) (r:z.cells.size=1) (A:bytes<=64)
  {g:Array Oper}{rest:List Oper}{o:Oper}{a:Act}{Q:Exit->Act->World->Prop}{w:World}(B:o.guard=none) (s x:Operand)
  (M:o.op=Op.call { callee:=Callee.builtin Builtin.append,args := #[s,x],argTypes := #[T,T] }) (F:Nat->Prop) (l b:World) (v u:Value) (xs:List α) (y:α) (N:a.eval s=v) (m:SlI El E F l v xs)
  (H:Ext l b) (I:El (From l.heap.size) b u y) (O:w=b.alloc (.cells #[u] E)) (hx:a.eval x=.slice (some ⟨b.heap.size,0,none⟩) 1 1) (n:xs.length<=1000000)
  (h:∀q w',SlI El E (λk=>F k\/l.heap.size<=k) w' q (xs++[y])->l.grownBy w' v.ownBlock->b.grownBy w' v.ownBlock->wpList Tryz.prog g Q rest (a.put o.dst q) w') :
  wpList Tryz.prog g Q (o :: rest) a w:=by
 subst O;obtain⟨J,G,hvl,_,hO,hF,hG,hd,hEx⟩:=m;have C:Ext b (b.alloc (.cells #[u] E)):=World.grownBy_alloc _ _ _;have D:OwnV 0 E (b.alloc (.cells #[u] E)) v J:=hO.kept (grown_trans H C) (by cases V:v.ownBlock<;>simp);refine wp_app T E z bytes K L r A B s x M 0 v J N D (some ⟨b.heap.size,0,none⟩) 1 1 [u] hx rfl (by simp) ?_ ?_ (by omega) (by omega) ?_
 ·intro j W
  have:j=0:=by omega
  subst this;exact⟨_,_,rfl,by rw[World.cell?_alloc_at _ _ _ _ rfl];rfl⟩
 ·intro X p
  simp at p;subst p;exact e.one I
 ·intro q w' P R _ S
  obtain⟨U,r2,r3⟩:=SlI.grow e n hvl hO hF hG hd hEx H I P R (by rcases S with k|k;exact .inl k;exact .inr (by rw[k];simp));exact h q w' U r2 r3
theorem step_app_I (e:RdOk El) (T:Nat) (z:Value) (bytes:Nat) (I:Tryz.prog.underlying T=some (.slice E))
  (J:(Tryz.prog.info? E).map (λi=>(i.zero,i.size,i.bytes))=some (some z,1,bytes)) (n:z.cells.size=1) (p:bytes<=64)
  {q:Array Oper}{o:Oper}{a:Act}{K:Act->World->Prop}{Q:Exit->Act->World->Prop}{L:Prop}{w:World}(r:o.guard=none) (s x:Operand)
  (M:o.op=Op.call { callee:=Callee.builtin Builtin.append,args := #[s,x],argTypes := #[T,T] }) (F:Nat->Prop) (g b:World) (v u:Value) (xs:List α) (y:α) (N:a.eval s=v) (j:SlI El E F g v xs)
  (C:Ext g b) (D:El (From g.heap.size) b u y) (O:w=b.alloc (.cells #[u] E)) (hx:a.eval x=.slice (some ⟨b.heap.size,0,none⟩) 1 1) (l:xs.length<=1000000)
  (h:∀m w',SlI El E (λk=>F k\/g.heap.size<=k) w' m (xs++[y])->g.grownBy w' v.ownBlock->b.grownBy w' v.ownBlock->K (a.put o.dst m) w') :
  if Region.wanted o (yielded q a.tmps)=true then Oper.wp Tryz.prog o a w K Q else L:=by
 subst O;obtain⟨H,G,hvl,_,hO,hF,hG,hd,hEx⟩:=j;have A:Ext b (b.alloc (.cells #[u] E)):=World.grownBy_alloc _ _ _;have B:OwnV 0 E (b.alloc (.cells #[u] E)) v H:=hO.kept (grown_trans C A) (by cases V:v.ownBlock<;>simp);refine step_app T E z bytes I J n p r s x M 0 v H N B b.heap.size u hx (by rw[World.cell?_alloc_at _ _ _ _ rfl];rfl) (e.one D) (by omega) (by omega) ?_;intro m w' P R S;obtain⟨U,r2,r3⟩:=SlI.grow e l hvl hO hF hG hd hEx C D P R (by rcases S with k|k;exact .inl k;exact .inr (by rw[k];simp));exact h m w' U r2 r3
end
theorem run_mk_ints (n:Nat) (j:n<=2147483648) (w:World):(Instr.makeSlice 24 (.int .i64 (n:Int)) (.int .i64 (n:Int))).run Tryz.prog w=.ok (.slice (some ⟨w.heap.size,0,none⟩) n n) (w.alloc (.cells (madeCells #[.int .i64 0] n) 2)):=by
 obtain⟨g,i,a,hz1,b⟩:=info_parts Tryz.infoInt;have e:=run_make (P:=Tryz.prog) w 24 2 g (.int .i64 0) und_ints i a .i64 .i64 n n (by omega) (Int.le_refl _) (by rw[b];omega) (by omega);simp only[Int.toNat_natCast,hz1,Nat.mul_one] at e;exact e
theorem own_mk_ints (n:Nat) (a:n<=2147483648) (w:World):Own w.heap.size (w.alloc (.cells (madeCells #[.int .i64 0] n) 2)) (.slice (some ⟨w.heap.size,0,none⟩) n n) (List.replicate n 0):=by
 have h:=World.ownsRow_lit (base:=w.heap.size) (e:=2) (size:=1) w (madeCells #[.int .i64 0] n) n (Nat.le_refl _) (by unfold maxLen;omega) (by have:=size_madeCells #[Value.int .i64 0] n;simpa using this);rw[toList_madeCells_one] at h;show World.ownsRow _ _ _ _ _ _ _
 rw[List.length_replicate,List.map_replicate];exact h
abbrev RowsI (F:Nat->Prop) (w:World) (v:Value) (xs:List (List Int)):Prop:=SlI OwnIn 24 F w v xs
abbrev Rows3I (F:Nat->Prop) (w:World) (v:Value) (xs:List (List (List Int))):Prop:=SlI (SlI OwnIn 24) 25 F w v xs
theorem rdRowsI:RdOk (λF w u (x:List (List Int))=>RowsI F w u x):=rdI rdOwn
theorem rdRows3I:RdOk (λF w u (x:List (List (List Int)))=>Rows3I F w u x):=rdI (rdI rdOwn)
theorem RowsI.rows {F:Nat->Prop}{w:World}{v:Value}{xs:List (List Int)}(h:RowsI F w v xs):Rows2 F w v xs:=RowsD.rows (SlI.d h)
theorem Rows3I.rows {F:Nat->Prop}{w:World}{v:Value}{xs:List (List (List Int))}(h:Rows3I F w v xs):Rows3 F w v xs:=Rows3D.rows (SlI.d (SlI.map (λ_ _ _ _ h=>SlI.d h) h))
def PresX (F:Nat->Prop) (w:World) (vo vp vc:Value) (P:Pr):Prop:=
 ∃Fo Fp Fc:Nat->Prop,OwnIn Fo w vo P.orders/\RowsI Fp w vp P.powers/\Rows3I Fc w vc P.conj/\(∀k,Fo k->F k/\¬Fp k/\¬Fc k)/\(∀k,Fp k->F k/\¬Fc k)/\(∀k,Fc k->F k)
theorem PresX.p3 {F:Nat->Prop}{w:World}{vo vp vc:Value}{P:Pr}(h:PresX F w vo vp vc P):Pres3 F w vo vp vc P:=by
 obtain⟨Fo,Fp,Fc,h1,a,b,e,g,h6⟩:=h;exact⟨Ints.sub h1.ints (λk hk _=>(e k hk).1),Rows2.sub (RowsI.rows a) (λk hk _=>(g k hk).1),Rows3.sub (Rows3I.rows b) (λk hk _=>h6 k hk)⟩
theorem PresX.mono {F F':Nat->Prop}{w w':World}{vo vp vc:Value}{P:Pr}(h:PresX F w vo vp vc P) (b:∀k,F k->k<w.heap.size->F' k/\k<w'.heap.size/\w'.heap[k]? = w.heap[k]?):PresX F' w' vo vp vc P:=by
 obtain⟨Fo,Fp,Fc,h1,h2,h3,e,g,i⟩:=h
 refine ⟨λk=>Fo k/\k<w.heap.size,λk=>Fp k/\k<w.heap.size,λk=>Fc k/\k<w.heap.size,rdOwn.mono h1 (λk hk a=>⟨⟨hk,a⟩,(b k (e k hk).1 a).2⟩),
  rdRowsI.mono h2 (λk hk a=>⟨⟨hk,a⟩,(b k (g k hk).1 a).2⟩),rdRows3I.mono h3 (λk hk a=>⟨⟨hk,a⟩,(b k (i k hk) a).2⟩),λk hk => ?_,λk hk => ?_,λk hk => ?_⟩
 ·exact⟨(b k (e k hk.1).1 hk.2).1,λh=>(e k hk.1).2.1 h.1,λh=>(e k hk.1).2.2 h.1⟩
 ·exact⟨(b k (g k hk.1).1 hk.2).1,λh=>(g k hk.1).2 h.1⟩
 ·exact(b k (i k hk.1) hk.2).1
theorem PresX.shape {F:Nat->Prop}{w:World}{vo vp vc:Value}{P:Pr}(h:PresX F w vo vp vc P):∃a c a2 c2 b c3,vo=.slice a P.orders.length c/\vp=.slice a2 P.powers.length c2/\vc=.slice b P.conj.length c3:=by
 obtain⟨Fo,Fp,Fc,h1,e,g,_⟩:=h;obtain⟨a,c,rfl,_⟩:=h1.ints.shape;obtain⟨a2,c2,rfl,_⟩:=SlD.shape (SlI.d e);obtain⟨b,c3,rfl,_⟩:=SlD.shape (SlI.d g);exact⟨_,_,_,_,_,_,rfl,rfl,rfl⟩
theorem PresX.wide {F F':Nat->Prop}{w:World}{vo vp vc:Value}{P:Pr}(h:PresX F w vo vp vc P) (hF:∀k,F k->F' k):PresX F' w vo vp vc P:=by
 obtain⟨Fo,Fp,Fc,h1,h2,h3,a,b,e⟩:=h;exact⟨Fo,Fp,Fc,h1,h2,h3,λk hk=>⟨hF k (a k hk).1,(a k hk).2⟩,λk hk=>⟨hF k (b k hk).1,(b k hk).2⟩,λk hk=>hF k (e k hk)⟩
theorem PresX.put {F:Nat->Prop}{w w':World}{vo vp vc:Value}{j:Pr}{Fo Fp Fc Fo' Fp' Fc':Nat->Prop}(r:Option Nat) (_hT:w.grownBy w' r)
  (h1:OwnIn Fo' w' vo j.orders) (q:RowsI Fp' w' vp j.powers) (u:Rows3I Fc' w' vc j.conj)
  (n:∀k,Fo k->F k/\¬Fp k/\¬Fc k) (p:∀k,Fp k->F k/\¬Fc k) (v:∀k,Fc k->F k)
  (g:(∀k,Fo' k->Fo k/\k<w.heap.size)) (l:(∀k,Fp' k->Fp k/\k<w.heap.size\/w.heap.size<=k)) (m:(∀k,Fc' k->Fc k/\k<w.heap.size\/w.heap.size<=k)) (i:(∀k,Fp' k->k<w.heap.size)\/(∀k,Fc' k->k<w.heap.size)) :
  PresX (λk=>F k\/w.heap.size<=k) w' vo vp vc j:=by
 refine⟨Fo',Fp',Fc',h1,q,u,λk hk=>⟨.inl (n k (g k hk).1).1,λe => ?_,λe => ?_⟩,λk hk=>⟨?_,λe => ?_⟩,λk hk => ?_⟩
 ·rcases l k e with e|e
  ·exact(n k (g k hk).1).2.1 e.1
  ·have:=(g k hk).2;omega
 ·rcases m k e with e|e
  ·exact(n k (g k hk).1).2.2 e.1
  ·have:=(g k hk).2;omega
 ·rcases l k hk with e|e
  ·exact .inl (p k e.1).1
  ·exact .inr e
 ·rcases i with i|i
  ·have a:=i k hk
   rcases l k hk with b|b
   ·rcases m k e with c|c
    ·exact(p k b.1).2 c.1
    ·omega
   ·omega
  ·have a:=i k e
   rcases m k e with c|c
   ·rcases l k hk with b|b
    ·exact(p k b.1).2 c.1
    ·omega
   ·omega
 ·rcases m k hk with e|e
  ·exact .inl (v k e.1)
  ·exact .inr e
theorem PresX.openP {F:Nat->Prop}{b:World}{vo vp vc:Value}{P:Pr}(h:PresX F b vo vp vc P) (i:Nat) (q:i<P.powers.length) :
  ∃ g cap z,vp=.slice (some ⟨g,0,none⟩) P.powers.length cap/\F g/\g<b.heap.size/\b.cell? ⟨g,i,none⟩=some z/\(∀j,j<P.powers.length->b.frozen? ⟨g,j,none⟩=false) /\
   ∀m u y,Ext b m->OwnIn (From b.heap.size) m u y->PresX (λk=>F k\/b.heap.size<=k) (m.setCell ⟨g,i,none⟩ u) vo vp vc { P with powers:=P.powers.set i y } :=by
 obtain⟨Fo,Fp,Fc,h1,p,A,v,r,h6⟩:=h;rcases SlI.form p with⟨_,e⟩|⟨g,cap,rfl,l,hgl⟩
 ·rw[e] at q;simp at q
 obtain⟨⟨z,hz⟩,_⟩:=SlI.place p i q;refine⟨g,cap,z,rfl,(r g l).1,hgl,hz,λj B=>(SlI.place p j B).2,λm u y w C => ?_⟩;obtain⟨D,E⟩:=SlI.store rdOwn p w C i;have n:b.grownBy (m.setCell ⟨g,i,none⟩ u) (some g):=grown_trans (grown_of_ext _ w) E
 exact PresX.put (Fo':=λk=>Fo k/\k<b.heap.size) (Fp':=λk=>Fp k/\k<b.heap.size\/b.heap.size<=k) (Fc':=λk=>Fc k/\k<b.heap.size) (some g) n
  (rdOwn.mono h1 (λk hk a=>⟨⟨hk,a⟩,Nat.lt_of_lt_of_le a n.size,n.block k a (λe=>(v k hk).2.1 (by cases e;exact l))⟩))
  (rdRowsI.mono D (λk hk a=>⟨by
   rcases hk with hk|hk
   ·rcases Nat.lt_or_ge k b.heap.size with h|h
    ·exact .inl ⟨hk,h⟩
    ·exact .inr h
   ·exact .inr hk,a,rfl⟩))
  (rdRows3I.mono A (λk hk a=>⟨⟨hk,a⟩,Nat.lt_of_lt_of_le a n.size,n.block k a (λe=>(r g l).2 (by cases e;exact hk))⟩))
  v r h6 (λ_ h=>h) (λ_ h=>h) (λ_ h => .inl h) (.inr (λ_ h=>h.2))
theorem PresX.openC {F:Nat->Prop}{l:World}{vo vp vc:Value}{P:Pr}(h:PresX F l vo vp vc P) (i j:Nat) (B:i<P.conj.length) (C:j<(gt P.conj i).length) :
  ∃ g cap b m z,vc=.slice (some ⟨g,0,none⟩) P.conj.length cap/\F g/\g<l.heap.size/\l.cell? ⟨g,i,none⟩=some (.slice (some ⟨b,0,none⟩) (gt P.conj i).length m)/\F b/\b≠g/\b<l.heap.size /\
   l.cell? ⟨b,j,none⟩=some z/\l.frozen? ⟨b,j,none⟩=false /\
   ∀r u y,Ext l r->OwnIn (From l.heap.size) r u y->PresX (λk=>F k\/l.heap.size<=k) (r.setCell ⟨b,j,none⟩ u) vo vp vc { P with conj:=P.conj.set i ((gt P.conj i).set j y) } :=by
 obtain⟨Fo,Fp,Fc,h1,I,D,E,G,h6⟩:=h;rcases SlI.form D with⟨_,e⟩|⟨g,cap,rfl,hFg,hgl⟩
 ·rw[e] at B;simp at B
 obtain⟨v,Gj,hc,n,A,hturn⟩:=SlI.turn (rdI rdOwn) D i B;rcases SlI.form n with⟨_,e⟩|⟨b,m,rfl,p,hbl⟩
 ·rw[e] at C;simp at C
 obtain⟨⟨z,hz⟩,hpf⟩:=SlI.place n j C;have q:=(A b p).1;refine⟨g,cap,b,m,z,rfl,h6 g hFg,hgl,hc,h6 b q,(A b p).2.1,hbl,hz,hpf,λr u y H J => ?_⟩;obtain⟨K,L⟩:=SlI.store rdOwn n H J j;have w:l.grownBy (r.setCell ⟨b,j,none⟩ u) (some b):=grown_trans (grown_of_ext _ H) L;have M:=hturn (r.setCell ⟨b,j,none⟩ u) _ (Touch.of w (λk hk=>by cases hk;exact p)) K
 exact PresX.put (Fo':=λk=>Fo k/\k<l.heap.size) (Fp':=λk=>Fp k/\k<l.heap.size) (Fc':=λk=>Fc k/\k<l.heap.size\/l.heap.size<=k) (some b) w
  (rdOwn.mono h1 (λk hk a=>⟨⟨hk,a⟩,Nat.lt_of_lt_of_le a w.size,w.block k a (λe=>(E k hk).2.2 (by cases e;exact q))⟩))
  (rdRowsI.mono I (λk hk a=>⟨⟨hk,a⟩,Nat.lt_of_lt_of_le a w.size,w.block k a (λe=>(G k hk).2 (by cases e;exact q))⟩))
  (rdRows3I.mono M (λk hk a=>⟨by
   rcases hk with hk|hk
   ·rcases Nat.lt_or_ge k l.heap.size with h|h
    ·exact .inl ⟨hk,h⟩
    ·exact .inr h
   ·exact .inr hk,a,rfl⟩))
  E G h6 (λ_ h=>h) (λ_ h => .inl h) (λ_ h=>h) (.inl (λ_ h=>h.2))
theorem PresX.openPI {F:Nat->Prop}{l:World}{vo vp vc:Value}{P:Pr}(h:PresX F l vo vp vc P) (i j:Nat) (A:i<P.powers.length) (G:j<(gt P.powers i).length) :
  ∃ g cap b m,vp=.slice (some ⟨g,0,none⟩) P.powers.length cap/\F g/\g<l.heap.size/\l.cell? ⟨g,i,none⟩=some (.slice (some ⟨b,0,none⟩) (gt P.powers i).length m)/\F b/\b≠g/\b<l.heap.size /\
   l.cell? ⟨b,j,none⟩=some (.int .i64 (gt (gt P.powers i) j))/\(∀n,Ext l n->n.frozen? ⟨b,j,none⟩=false) /\
   ∀n x,Ext l n->PresX (λk=>F k\/l.heap.size<=k) (n.setCell ⟨b,j,none⟩ (.int .i64 x)) vo vp vc { P with powers:=P.powers.set i ((gt P.powers i).set j x) } :=by
 obtain⟨Fo,Fp,Fc,h1,C,H,D,w,h6⟩:=h;rcases SlI.form C with⟨_,e⟩|⟨g,cap,rfl,B,hgl⟩
 ·rw[e] at A;simp at A
 obtain⟨v,Gj,hc,hEl,u,hturn⟩:=SlI.turn rdOwn C i A;obtain⟨y,E,q3⟩:=hEl;obtain⟨b,m,rfl,_,hbl⟩:=y.form (by omega);have p:=E b rfl;have q:=(u b p).1;refine⟨g,cap,b,m,rfl,(w g B).1,hgl,hc,(w b q).1,(u b p).2.1,hbl,y.cell j G,λn z=>(y.ext0 z).frozen j,λn x z => ?_⟩;obtain⟨I,J⟩:=(y.ext0 z).store j x;have r:l.grownBy (n.setCell ⟨b,j,none⟩ (.int .i64 x)) (some b):=grown_trans (grown_of_ext _ z) J;have K:=hturn (n.setCell ⟨b,j,none⟩ (.int .i64 x)) _ (Touch.of r (λk hk=>by cases hk;exact p)) (⟨I,λk hk => .inl (E k hk),by rw[List.length_set];exact q3⟩:OwnIn (λk=>Gj k\/l.heap.size<=k) _ _ ((gt P.powers i).set j x))
 exact PresX.put (Fo':=λk=>Fo k/\k<l.heap.size) (Fp':=λk=>Fp k/\k<l.heap.size\/l.heap.size<=k) (Fc':=λk=>Fc k/\k<l.heap.size) (some b) r
  (rdOwn.mono h1 (λk hk a=>⟨⟨hk,a⟩,Nat.lt_of_lt_of_le a r.size,r.block k a (λe=>(D k hk).2.1 (by cases e;exact q))⟩))
  (rdRowsI.mono K (λk hk a=>⟨by
   rcases hk with hk|hk
   ·rcases Nat.lt_or_ge k l.heap.size with h|h
    ·exact .inl ⟨hk,h⟩
    ·exact .inr h
   ·exact .inr hk,a,rfl⟩))
  (rdRows3I.mono H (λk hk a=>⟨⟨hk,a⟩,Nat.lt_of_lt_of_le a r.size,r.block k a (λe=>(w b q).2 (by cases e;exact hk))⟩))
  D w h6 (λ_ h=>h) (λ_ h=>h) (λ_ h => .inl h) (.inr (λ_ h=>h.2))
theorem PresX.openCI {F:Nat->Prop}{l:World}{vo vp vc:Value}{P:Pr}(h:PresX F l vo vp vc P) (i k j:Nat) (D:i<P.conj.length) (hk:k<(gt P.conj i).length) (L:j<(gt (gt P.conj i) k).length) :
  ∃ g cap e m b n,vc=.slice (some ⟨g,0,none⟩) P.conj.length cap/\F g/\g<l.heap.size/\l.cell? ⟨g,i,none⟩=some (.slice (some ⟨e,0,none⟩) (gt P.conj i).length m)/\F e/\e<l.heap.size /\
   l.cell? ⟨e,k,none⟩=some (.slice (some ⟨b,0,none⟩) (gt (gt P.conj i) k).length n)/\F b/\b≠g/\b≠e/\b<l.heap.size/\l.cell? ⟨b,j,none⟩=some (.int .i64 (gt (gt (gt P.conj i) k) j))/\(∀p,Ext l p->p.frozen? ⟨b,j,none⟩=false) /\
   ∀p x,Ext l p->PresX (λk=>F k\/l.heap.size<=k) (p.setCell ⟨b,j,none⟩ (.int .i64 x)) vo vp vc { P with conj:=P.conj.set i ((gt P.conj i).set k ((gt (gt P.conj i) k).set j x)) } :=by
 obtain⟨Fo,Fp,Fc,h1,M,H,I,J,h6⟩:=h;rcases SlI.form H with⟨_,e⟩|⟨g,cap,rfl,hFg,hgl⟩
 ·rw[e] at D;simp at D
 obtain⟨v,Gj,hc,z,q,hturn⟩:=SlI.turn (rdI rdOwn) H i D;rcases SlI.form z with⟨_,e⟩|⟨e,m,rfl,E,hel⟩
 ·rw[e] at hk;simp at hk
 obtain⟨R,Hj,hc2,C6,A,C7⟩:=SlI.turn rdOwn z k hk;obtain⟨B,K,q3⟩:=C6;obtain⟨b,n,rfl,_,hbl⟩:=B.form (by omega);have r:=K b rfl;have u:=(A b r).1;have w:=(q b u).1;refine⟨g,cap,e,m,b,n,rfl,h6 g hFg,hgl,hc,h6 e (q e E).1,hel,hc2,h6 b w,(q b u).2.1,(A b r).2.1,hbl,B.cell j L,λp C=>(B.ext0 C).frozen j,λp x C => ?_⟩;obtain⟨N,O⟩:=(B.ext0 C).store j x;have y:l.grownBy (p.setCell ⟨b,j,none⟩ (.int .i64 x)) (some b):=grown_trans (grown_of_ext _ C) O;have G:=C7 (p.setCell ⟨b,j,none⟩ (.int .i64 x)) _ (Touch.of y (λk hk=>by cases hk;exact r)) (⟨N,λk hk => .inl (K k hk),by rw[List.length_set];exact q3⟩:OwnIn (λk=>Hj k\/l.heap.size<=k) _ _ ((gt (gt P.conj i) k).set j x));have Q:=hturn (p.setCell ⟨b,j,none⟩ (.int .i64 x)) _ (Touch.of y (λk hk=>by cases hk;exact u)) G
 exact PresX.put (Fo':=λk=>Fo k/\k<l.heap.size) (Fp':=λk=>Fp k/\k<l.heap.size) (Fc':=λk=>Fc k/\k<l.heap.size\/l.heap.size<=k) (some b) y
  (rdOwn.mono h1 (λk hk a=>⟨⟨hk,a⟩,Nat.lt_of_lt_of_le a y.size,y.block k a (λe=>(I k hk).2.2 (by cases e;exact w))⟩))
  (rdRowsI.mono M (λk hk a=>⟨⟨hk,a⟩,Nat.lt_of_lt_of_le a y.size,y.block k a (λe=>(J k hk).2 (by cases e;exact w))⟩))
  (rdRows3I.mono Q (λk hk a=>⟨by
   rcases hk with hk|hk
   ·rcases Nat.lt_or_ge k l.heap.size with h|h
    ·exact .inl ⟨hk,h⟩
    ·exact .inr h
   ·exact .inr hk,a,rfl⟩))
  I J h6 (λ_ h=>h) (λ_ h => .inl h) (λ_ h=>h) (.inl (λ_ h=>h.2))
structure Shp (N:Nat) (P:Pr):Prop where
 n:P.orders.length<=N
 p:P.powers.length=P.orders.length
 c:P.conj.length=P.orders.length
 cl:∀i,i<P.orders.length->(gt P.conj i).length=P.orders.length-1-i
 pv:∀v∈P.powers,v.length<=N
 cv:∀r∈P.conj,∀v∈r,v.length<=N
def setP (P:Pr) (i:Nat) (v:List Int):Pr := { P with powers:=P.powers.set i v }
def setC (P:Pr) (i j:Nat) (v:List Int):Pr := { P with conj:=P.conj.set i ((gt P.conj i).set j v) }
theorem mem_set_or {α:Type}{l:List α}{i:Nat}{a b:α}(h:b∈l.set i a):b=a\/b∈l:=by
 rcases List.mem_or_eq_of_mem_set h with h|h
 ·exact .inr h
 ·exact .inl h
theorem Shp.setP {N:Nat}{P:Pr}(h:Shp N P) (i:Nat) {v:List Int}(a:v.length<=N):Shp N (setP P i v):=
 ⟨h.n,by show(P.powers.set i v).length=_;rw[List.length_set];exact h.p,h.c,h.cl,λx hx=>by
  rcases mem_set_or hx with e|e
  ·rw[e];exact a
  ·exact h.pv x e,h.cv⟩
theorem Shp.setC {N:Nat}{P:Pr}(h:Shp N P) (i j:Nat) (g:i<P.orders.length) {v:List Int}(l:v.length<=N):Shp N (setC P i j v):=by
 have a:i<P.conj.length:=by rw[h.c];exact g
 refine⟨h.n,h.p,by show(P.conj.set i _).length=_;rw[List.length_set];exact h.c,λk hk => ?_,h.pv,λr m x hx => ?_⟩
 ·show (gt (P.conj.set i _) k).length=_
  by_cases e:i=k
  ·subst e
   rw[gt_set_eq _ _ _ a,List.length_set];exact h.cl i g
  ·rw[gt_set_ne _ _ _ _ e];exact h.cl k hk
 ·rcases mem_set_or m with e|e
  ·rw [e] at hx
   rcases mem_set_or hx with b|b
   ·rw[b];exact l
   ·exact h.cv _ (by rw[gt_eq _ i a];exact List.getElem_mem a) x b
  ·exact h.cv r e x hx
theorem Shp.mono {N M:Nat}{P:Pr}(h:Shp N P) (a:N<=M):Shp M P:=⟨Nat.le_trans h.n a,h.p,h.c,h.cl,λv b=>Nat.le_trans (h.pv v b) a,λr e v b=>Nat.le_trans (h.cv r e v b) a⟩
def trivC (n i:Nat):List (List Int):=(List.range (n-1-i)).map (λk=>unitV n (i+1+k))
def trivP (o:List Int):Pr:=⟨o,List.replicate o.length (zeros o.length),(List.range o.length).map (trivC o.length)⟩
theorem trivC_len (n i:Nat):(trivC n i).length=n-1-i:=by unfold trivC;simp
theorem unitV_len (n k:Nat):(unitV n k).length=n:=by unfold unitV;simp
theorem zeros_len (n:Nat):(zeros n).length=n:=by unfold zeros;simp
theorem trivP_shp (o:List Int) {N:Nat}(h:o.length<=N):Shp N (trivP o):=by
 refine⟨h,by simp[trivP],by simp[trivP],λi e => ?_,λv b => ?_,λr g v b => ?_⟩
 ·have a:i<o.length:=e
  show(gt ((List.range o.length).map (trivC o.length)) i).length=o.length-1-i
  rw[gt_map _ _ _ (by simpa using a),gt_eq _ _ (by simpa using a),List.getElem_range,trivC_len]
 ·have:=List.eq_of_mem_replicate b
  rw[this,zeros_len];exact h
 ·obtain ⟨i,_,rfl⟩:=List.mem_map.1 g
  obtain⟨k,_,rfl⟩:=List.mem_map.1 b;rw[unitV_len];exact h
end Go.Proofs.YtdcobapnlpeaaaaGreat
namespace Go.Proofs.YtdcobapnlpeaaaaGreat
open Go.RowKit
attribute [local go_sem ↓] Go.wp_at_zero Go.wp_at_succ
def PresR (B:Nat) (P:Pr) (w':World) (v:Value):Prop:=∃vo vp vc,v=.agg #[vo,vp,vc]/\PresX (From B) w' vo vp vc P
structure Part3 (F:Nat->Prop) (w:World) (vo vp vc:Value) (P:Pr) (Fo Fp Fc:Nat->Prop):Prop where
 o:OwnIn Fo w vo P.orders
 p:RowsI Fp w vp P.powers
 c:Rows3I Fc w vc P.conj
 do_:∀k,Fo k->F k/\¬Fp k/\¬Fc k
 dp:∀k,Fp k->F k/\¬Fc k
 dc:∀k,Fc k->F k
theorem PresX.part {F:Nat->Prop}{w:World}{vo vp vc:Value}{P:Pr}(h:PresX F w vo vp vc P):∃Fo Fp Fc,Part3 F w vo vp vc P Fo Fp Fc:=by
 obtain⟨Fo,Fp,Fc,h1,h2,h3,h4,h5,h6⟩:=h;exact⟨Fo,Fp,Fc,h1,h2,h3,h4,h5,h6⟩
theorem SlI.sl {α:Type} [Inhabited α] {El:(Nat->Prop)->World->Value->α->Prop}{E:Nat}{F:Nat->Prop}{w:World}{v:Value}{xs:List α}(h:SlI El E F w v xs):∃a n c,v=.slice a n c/\n=xs.length:=by
 rcases h.form with⟨rfl,rfl⟩|⟨g,cap,rfl,_⟩
 ·exact⟨_,_,_,rfl,rfl⟩
 ·exact⟨_,_,_,rfl,rfl⟩
theorem PresX.sh2 {F:Nat->Prop}{w:World}{vo vp vc:Value}{P:Pr}(h:PresX F w vo vp vc P):∃a2 b c2 a e c3,vp=.slice a2 b c2/\vc=.slice a e c3/\b=P.powers.length/\e=P.conj.length:=by
 obtain⟨_,_,a2,c2,a,c3,_,h2,h3⟩:=h.shape;exact⟨a2,_,c2,a,_,c3,h2,h3,rfl,rfl⟩
theorem Part3.newP {F:Nat->Prop}{w w':World}{vo vp vc g:Value}{P:Pr}{Fo Fp Fc:Nat->Prop}(h:Part3 F w vo vp vc P Fo Fp Fc) {L:List (List Int)}(j:RowsI (λk=>Fp k\/w.heap.size<=k) w' g L) (b:w.grownBy w' vp.ownBlock) :
  PresX (λk=>F k\/w.heap.size<=k) w' vo g vc { P with powers:=L } :=by
 have i:∀k,vp.ownBlock=some k->Fp k:=by
  obtain⟨_,_,_,_,_,h1,_⟩:=h.p;exact h1
 refine ⟨λk=>Fo k/\k<w.heap.size,λk=>Fp k/\k<w.heap.size\/w.heap.size<=k,λk=>Fc k/\k<w.heap.size,
  rdOwn.mono h.o (λk hk a=>⟨⟨hk,a⟩,Nat.lt_of_lt_of_le a b.size,b.block k a (λe=>(h.do_ k hk).2.1 (i k e.symm))⟩),
  rdRowsI.mono j (λk hk a=>⟨?_,a,rfl⟩),
  rdRows3I.mono h.c (λk hk a=>⟨⟨hk,a⟩,Nat.lt_of_lt_of_le a b.size,b.block k a (λe=>(h.dp k (i k e.symm)).2 hk)⟩),
  λk hk=>⟨.inl (h.do_ k hk.1).1,λe => ?_,λe=>(h.do_ k hk.1).2.2 e.1⟩,λk hk=>⟨?_,λe => ?_⟩,λk hk => .inl (h.dc k hk.1)⟩
 ·rcases hk with hk|hk
  ·rcases Nat.lt_or_ge k w.heap.size with h|h
   ·exact .inl ⟨hk,h⟩
   ·exact .inr h
  ·exact .inr hk
 ·rcases e with e|e
  ·exact(h.do_ k hk.1).2.1 e.1
  ·omega
 ·rcases hk with hk|hk
  ·exact .inl (h.dp k hk.1).1
  ·exact .inr hk
 ·rcases hk with hk|hk
  ·exact(h.dp k hk.1).2 e.1
  ·omega
theorem Part3.newC {F:Nat->Prop}{w w':World}{vo vp vc g:Value}{P:Pr}{Fo Fp Fc:Nat->Prop}(h:Part3 F w vo vp vc P Fo Fp Fc) {L:List (List (List Int))}(j:Rows3I (λk=>Fc k\/w.heap.size<=k) w' g L) (b:w.grownBy w' vc.ownBlock) :
  PresX (λk=>F k\/w.heap.size<=k) w' vo vp g { P with conj:=L } :=by
 have i:∀k,vc.ownBlock=some k->Fc k:=by
  obtain⟨_,_,_,_,_,h1,_⟩:=h.c;exact h1
 refine ⟨λk=>Fo k/\k<w.heap.size,λk=>Fp k/\k<w.heap.size,λk=>Fc k/\k<w.heap.size\/w.heap.size<=k,
  rdOwn.mono h.o (λk hk a=>⟨⟨hk,a⟩,Nat.lt_of_lt_of_le a b.size,b.block k a (λe=>(h.do_ k hk).2.2 (i k e.symm))⟩),
  rdRowsI.mono h.p (λk hk a=>⟨⟨hk,a⟩,Nat.lt_of_lt_of_le a b.size,b.block k a (λe=>(h.dp k hk).2 (i k e.symm))⟩),
  rdRows3I.mono j (λk hk a=>⟨?_,a,rfl⟩),
  λk hk=>⟨.inl (h.do_ k hk.1).1,λe=>(h.do_ k hk.1).2.1 e.1,λe => ?_⟩,λk hk=>⟨.inl (h.dp k hk.1).1,λe => ?_⟩,λk hk => ?_⟩
 ·rcases hk with hk|hk
  ·rcases Nat.lt_or_ge k w.heap.size with h|h
   ·exact .inl ⟨hk,h⟩
   ·exact .inr h
  ·exact .inr hk
 ·rcases e with e|e
  ·exact(h.do_ k hk.1).2.2 e.1
  ·omega
 ·rcases e with e|e
  ·exact(h.dp k hk.1).2 e.1
  ·omega
 ·rcases hk with hk|hk
  ·exact .inl (h.dc k hk.1)
  ·exact .inr hk
theorem presX_start {w:World}{vo:Value}{o:List Int}{B:Nat}(h:Own B w vo o) (a:o.length<=1000):PresX (From B) w vo (.slice none 0 0) (.slice none 0 0) ⟨o,[],[]⟩:=
 ⟨λk=>vo.ownBlock=some k,λ_=>False,λ_=>False,⟨h.weak (Nat.zero_le _),λ_ hk=>hk,by show o.length<=_;omega⟩,
  ⟨[],λ_ _=>False,rfl,by simp,World.ownsRow_nil _ _ _ _,by simp[Value.ownBlock],by simp,by simp,by simp⟩,⟨[],λ_ _=>False,rfl,by simp,World.ownsRow_nil _ _ _ _,by simp[Value.ownBlock],by simp,by simp,by simp⟩,
  λk hk=>⟨(h.lt k hk).1,λh=>h,λh=>h⟩,λ_ h=>h.elim,λ_ h=>h.elim⟩
theorem l07Trivial_ok (w:World) (ov:Value) (o:List Int) (S:Nat->Prop) (ho:Ints S w ov o) (hl:o.length<=100) :
  Calls Tryz.prog 292 #[ov] w (Ret w (PresR w.heap.size (trivP o))):=by
 obtain⟨ao,capo,rfl,_,_⟩:=ho.shape;have T:Ext w (w.alloc (.cells #[.slice none 0 0,.slice none 0 0,.slice none 0 0] 28)):=World.grownBy_alloc _ _ _;have U:=Box3.made w 28 (.slice none 0 0) (.slice none 0 0) (.slice none 0 0);have m:=l01Own_ok (w.alloc (.cells #[.slice none 0 0,.slice none 0 0,.slice none 0 0] 28)) _ o S (ho.ext T) (by omega);have aG:=Lib.hid U;clear U;go_enter Tryz.func292,Tryz.ntmps292;go_wp2_with fail
 have H:(w.alloc (.cells #[.slice none 0 0,.slice none 0 0,.slice none 0 0] 28)).heap.size=w.heap.size+1:=by simp
 rw[H] at m;generalize w.alloc (.cells #[.slice none 0 0,.slice none 0 0,.slice none 0 0] 28)=w0 at *;refine Calls.mono m ?_;rintro e1 a ⟨v1,rfl,hg1,I⟩;clear m;obtain⟨a1,c1,lU,_⟩:=(I.ints (by omega)).shape;subst lU;go_wp2_with fail
 have V:=Box3.made a 28 (.slice a1 o.length c1) (.slice none 0 0) (.slice none 0 0);have J:Ext a (a.alloc (.cells #[.slice a1 o.length c1,.slice none 0 0,.slice none 0 0] 28)):=World.grownBy_alloc _ _ _
 have W:PresX (λk=>w.heap.size+1<=k/\k≠a.heap.size) (a.alloc (.cells #[.slice a1 o.length c1,.slice none 0 0,.slice none 0 0] 28)) (.slice a1 o.length c1) (.slice none 0 0) (.slice none 0 0) ⟨o,[],[]⟩:=
  (presX_start I (by omega)).mono (λk hk b=>⟨⟨hk,by omega⟩,Nat.lt_of_lt_of_le b J.size,J.block k b (by simp)⟩)
 have X:=hg1.size;have P:=Lib.hid (And.intro H X);clear H X I;generalize a.alloc (.cells #[.slice a1 o.length c1,.slice none 0 0,.slice none 0 0] 28)=w2 at *
 go_loopw [5] (λiv wr=>∃(i:Nat) (vp vc:Value),iv=.int .i64 i/\i<=o.length/\Ext w0 wr/\Box3 wr a.heap.size (.slice a1 o.length c1) vp vc /\
  PresX (λk=>w.heap.size+1<=k/\k≠a.heap.size) wr (.slice a1 o.length c1) vp vc ⟨o,List.replicate i (zeros o.length),(List.range i).map (trivC o.length)⟩) (λiv _=>o.length-(intOf iv).toNat)
 case atStart=>exact⟨0,_,_,rfl,by omega,grown_trans hg1 J,V,W⟩
 case round=>
  clear V W;obtain⟨i,vp,vc,rfl,hi,hg,hB,hX⟩:=hrel;by_cases b:i<o.length
  ·have aY:(i:Int)<o.length:=by omega
   obtain⟨Fo,Fp,Fc,hP⟩:=hX.part;obtain⟨a2,Y,c2,Q,R,c3,rfl,rfl,y,z⟩:=hX.sh2
   have n:(Value.slice a2 Y c2).ownBlock≠some a.heap.size:=by
    obtain⟨_,_,_,_,_,K,_⟩:=hP.p;exact λe=>(hP.dp _ (K _ e)).1.2 rfl
   have HN:=Lib.hid (And.intro y (And.intro n z));clear y z n;obtain⟨h0,h1,h2,h3,h4⟩:=id hB;have aI:=run_mk_ints o.length (by omega);have Z:Ext wr (wr.alloc (.cells (madeCells #[.int .i64 0] o.length) 2)).drew:=grown_trans (World.grownBy_alloc _ _ _) (grown_drew _ _)
   have aa:OwnIn (From wr.heap.size) (wr.alloc (.cells (madeCells #[.int .i64 0] o.length) 2)).drew (.slice (some ⟨wr.heap.size,0,none⟩) o.length o.length) (zeros o.length):=by
    have:=(own_mk_ints o.length (by omega) wr).ext0 (grown_drew _ none);exact OwnIn.of this (by rw[zeros_len];omega) (λk hk _=>hk)
   have ab:(List.replicate i (zeros o.length)).length<=1000000:=by simp;omega
   have ac:(Value.slice (some ⟨wr.heap.size+1,0,none⟩) 1 1)=.slice (some ⟨(wr.alloc (.cells (madeCells #[.int .i64 0] o.length) 2)).drew.heap.size,0,none⟩) 1 1:=by simp
   have HM:=Lib.hid (And.intro Z (And.intro aa (And.intro ab ac)));clear Z aa ab ac;go_wp2_with fail
   go_region_law (refine step_app_I rdOwn 25 (.slice none 0 0) 24 und_rows Tryz.infoRow rfl (by decide) (by rfl) _ _ (by rfl) Fp wr (wr.alloc (.cells (madeCells #[.int .i64 0] o.length) 2)).drew _ _ (List.replicate i (zeros o.length)) (zeros o.length) (by rfl) hP.p HM.out.1 HM.out.2.1 (by rfl) (by exact HM.out.2.2.2) HM.out.2.2.1 ?_;intro v5 L q g ae;obtain⟨C,m5,D,rfl,af⟩:=SlI.sl q;have aJ:m5=i+1:=(by rw[af];simp);clear af;subst aJ;have M:=Box3.keep hB g.size (g.block _ hB.1 (λe=>HN.out.2.1 e.symm));obtain⟨f0,f1,f2,f3,f4⟩:=id M)
   all_goals
    have ag:=(M.put (.slice C (i+1) D)).2.1;have N:=grown_set L a.heap.size 1 (.slice C (i+1) D)
    have ah:PresX (λk=>w.heap.size+1<=k/\k≠a.heap.size) (L.setCell ⟨a.heap.size,1,none⟩ (.slice C (i+1) D)) (.slice a1 o.length c1) (.slice C (i+1) D) (.slice Q R c3) ⟨o,List.replicate (i+1) (zeros o.length),(List.range i).map (trivC o.length)⟩:=by
     have aK:=hP.newP q g;rw[show List.replicate (i+1) (zeros o.length)=List.replicate i (zeros o.length)++[zeros o.length] from List.replicate_succ']
     exact aK.mono (frame_of N (λk hk b=>by
      have aL:(w.heap.size+1<=k/\k≠a.heap.size)\/wr.heap.size<=k:=hk;refine⟨?_,λe => ?_⟩
      ·have:=P.out;have:=hB.1
       omega
      ·cases e;have:=hB.1;omega))
    have E:Ext w0 (L.setCell ⟨a.heap.size,1,none⟩ (.slice C (i+1) D)):=grown_own (grown_own hg g (λj u b=>by
     obtain⟨_,_,_,_,_,K,_⟩:=hP.p;have:=(hP.dp _ (K _ u)).1;have:=P.out;omega)) N (λj u b=>by cases u;have:=P.out;omega)
    have F:L.heap.size=(L.setCell ⟨a.heap.size,1,none⟩ (.slice C (i+1) D)).heap.size:=by simp
    have ai:=Lib.hid F;clear F;have A:=Lib.hid (And.intro ag (And.intro ah E));clear ag ah E N M q g ae hP hX hB hg h0 h1 h2 h3 h4 HM HN aI;go_wp2;clear f0 f1 f2 f3 f4;generalize L.setCell ⟨a.heap.size,1,none⟩ (.slice C (i+1) D)=l at *;rw[ai.out];clear ai;have aj:Ext l (l.alloc (.cells #[] 24)):=World.grownBy_alloc _ _ _;have ak:RowsO l.heap.size (l.alloc (.cells #[] 24)) (.slice (some ⟨l.heap.size,0,none⟩) 0 0) ((trivC o.length i).take 0):=⟨[],λ_ _=>False,rfl,World.ownsRow_lit l #[] 0 (Nat.le_refl _) (by decide) rfl,by simp,by simp,by simp⟩;have al:=trivC_len o.length i;have HC:=Lib.hid al;clear al;go_loopw [6,7] (λrv jv wr=>∃(j:Nat) (v4:Value),v4=rv/\jv=.int .i64 ((i+1+j:Nat):Int)/\i+1+j<=o.length/\Ext l wr/\RowsO l.heap.size wr v4 ((trivC o.length i).take j)) (λ_ jv _=>o.length-(intOf jv).toNat)
    case atStart=>exact⟨0,_,rfl,by go_num,by omega,aj,ak⟩
    case round=>
     clear ak aj;obtain⟨j,v4,rfl,rfl,u,B,hO⟩:=hrel;by_cases am:i+1+j<o.length
     ·have aO:((i+1+j:Nat):Int)<o.length:=by omega
      have r:(trivC o.length i).take (j+1)=(trivC o.length i).take j++[unitV o.length (i+1+j)]:=by
       rw[take_succ_gt _ j (by rw[HC.out];omega)];unfold trivC;rw[gt_map _ _ _ (by simp;omega),gt_eq _ _ (by simp;omega),List.getElem_range]
      have an:((trivC o.length i).take j).length<=1000000:=by rw[List.length_take];omega
      have HS:=Lib.hid (And.intro r an);clear r an;go_wp2_with fail
      refine Calls.mono (l07Unit_ok o.length (i+1+j) wr am (by omega)) ?_;rintro eC wC ⟨vC,rfl,aP,gz⟩;have ap:OwnIn (From wr.heap.size) wC vC (unitV o.length (i+1+j)):=OwnIn.of gz (by rw[unitV_len];omega) (λj h1 _=>h1);obtain⟨ay,capy,gK,_,_⟩:=ap.ints.shape;subst gK;go_wp2_with (first|(at_builtin;refine wp_app_row rfl _ _ rfl l.heap.size wr wC v4 _ ((trivC o.length i).take j) (unitV o.length (i+1+j)) rfl hO aP ap rfl rfl HS.out.2 B.size ?_;intro v5 L q g ae;have aq:=hO.extw B (Nat.le_refl _) g)|fail)
      go_roundw
      case rel=>exact⟨j+1,v5,rfl,by go_num,by omega,aq,by rw[HS.out.1];exact q⟩
      case measure=>simp[intOf];omega
     ·have aQ:j=o.length-1-i:=by omega
      subst aQ;rw[List.take_of_length_le (by rw[HC.out];exact Nat.le_refl _)] at hO;have ar:RowsI (From l.heap.size) wr v4 (trivC o.length i):=SlI.of hO (by rw[HC.out];omega) (λk h _=>h);have O:=A.out.1.ext B;obtain⟨Fo,Fp,Fc,hP⟩:=A.out.2.1.part;have G:((List.range i).map (trivC o.length)).length<=1000000:=by simp;omega
      obtain⟨a4,n4,c4,rfl,au⟩:=SlI.sl ar
      have n:(Value.slice Q R c3).ownBlock≠some a.heap.size:=by
       obtain⟨_,_,_,_,_,K,_⟩:=hP.c;exact λe=>(hP.dc _ (K _ e)).2 rfl
      have HR:=Lib.hid (And.intro G (And.intro au n));clear G au hO n;obtain⟨f0,f1,f2,f3,f4⟩:=id O;go_wp2_with (first|(at_builtin;refine wp_app_I (rdI rdOwn) 26 (.slice none 0 0) 24 und_rows3 Tryz.infoRows rfl (by decide) rfl _ _ rfl Fc l wr _ _ ((List.range i).map (trivC o.length)) (trivC o.length i) rfl hP.c B ar rfl rfl HR.out.1 ?_;intro v8 w8 av aw ax;obtain⟨g8,m8,k8,rfl,rM⟩:=SlI.sl av;clear rM;have aC:=Box3.keep O ax.size (ax.block _ O.1 (λe=>HR.out.2.2 e.symm));clear f0 f1 f2 f3 f4;obtain⟨f0,f1,f2,f3,f4⟩:=id aC)|fail)
      have aS:=(aC.put (.slice g8 m8 k8)).2.2;have aD:=grown_set w8 a.heap.size 2 (.slice g8 m8 k8)
      have aT:PresX (λk=>w.heap.size+1<=k/\k≠a.heap.size) (w8.setCell ⟨a.heap.size,2,none⟩ (.slice g8 m8 k8)) (.slice a1 o.length c1) (.slice C (i+1) D) (.slice g8 m8 k8) ⟨o,List.replicate (i+1) (zeros o.length),(List.range (i+1)).map (trivC o.length)⟩:=by
       have aU:=hP.newC av aw;rw[show(List.range (i+1)).map (trivC o.length)=(List.range i).map (trivC o.length)++[trivC o.length i] by rw[List.range_succ,List.map_append];rfl]
       exact aU.mono (frame_of aD (λk hk b=>by
        have aL:(w.heap.size+1<=k/\k≠a.heap.size)\/l.heap.size<=k:=hk;have h1:=A.out.1.1;refine⟨?_,λe => ?_⟩
        ·have:=P.out
         omega
        ·cases e;omega))
      have aE:Ext w0 (w8.setCell ⟨a.heap.size,2,none⟩ (.slice g8 m8 k8)):=grown_own (grown_own A.out.2.2 aw (λj u b=>by
       obtain⟨_,_,_,_,_,K,_⟩:=hP.c;have:=hP.dc _ (K _ u);have:=P.out;omega)) aD (λj u b=>by cases u;have:=P.out;omega)
      clear f0 f1 f2 f3 f4;go_roundw
      case rel=>exact⟨i+1,_,_,by go_num,by omega,aE,aS,aT⟩
      case measure=>simp[intOf];omega
    done
  ·have aV:i=o.length:=by omega
   subst aV;have hz:=aG.out.ext hg;obtain⟨a2,Y,c2,Q,R,c3,rfl,rfl,y,z⟩:=hX.sh2;clear y z;obtain⟨h0,h1,h2,h3,h4⟩:=id hB;obtain⟨k0,k1,k2,k3,k4⟩:=id hz;have hZ:=hz.all (.slice a1 o.length c1) (.slice a2 Y c2) (.slice Q R c3);have hT:=grown_set3 wr w.heap.size (.slice a1 o.length c1) (.slice a2 Y c2) (.slice Q R c3);obtain⟨_,z0,z1,z2,_⟩:=id hZ;have HT:=Lib.hid hT;clear hT hZ;go_wp2;refine bodyPost_ret (v := .agg #[.slice a1 o.length c1,.slice a2 Y c2,.slice Q R c3]) (by simp[results,Tryz.results292,go_sem,z0,z1,z2]) rfl ?_;exact⟨_,rfl,grown_own (grown_trans T hg) HT.out (λj u b=>by cases u;omega),_,_,_,rfl,hX.mono (frame_of HT.out (λk hk _=>⟨by show w.heap.size<=k;omega,λe=>by cases e;omega⟩))⟩
end Go.Proofs.YtdcobapnlpeaaaaGreat
namespace Go.Proofs.YtdcobapnlpeaaaaGreat
open Go.RowKit
/-! ### a row of bools of the call's own -/
abbrev BOwn (base:Nat) (w:World) (v:Value) (l:List Bool):Prop:=w.ownsRow base 4 1 v l.length (l.map Value.bool)
theorem und_bools:Tryz.prog.underlying 148=some (.slice 4):=by kernel_rfl
theorem Tryz.infoBool:(Tryz.prog.info? 4).map (λi=>(i.zero,i.size,i.bytes))=some (some (.bool false),1,1):=by kernel_rfl
theorem wp_make_bools {g:Array Oper}{rest:List Oper}{o:Oper}{a:Act}{Q:Exit->Act->World->Prop}{w:World}(i:o.guard=none) (l c:Operand)
  (q:o.op=Op.makeSlice 148 l c) (base n H:Nat) (hH:w.heap.size=H) (L:Int) (r:a.eval l=.int .i64 L) (u:a.eval c=.int .i64 L) (p:L=n) (A:n<=2147483648) (b:base<=H)
  (h:∀w',BOwn base w' (.slice (some ⟨H,0,none⟩) n n) (List.replicate n false)->Ext w w'->H<w'.heap.size->wpList Tryz.prog g Q rest (a.put o.dst (.slice (some ⟨H,0,none⟩) n n)) w') :
  wpList Tryz.prog g Q (o :: rest) a w:=by
 subst hH;obtain⟨v,y,j,k,m⟩:=info_parts Tryz.infoBool;refine wpList_make_full w i l c 148 q base 4 v (.bool false) 1 und_bools y j k .i64 .i64 L L n r u p p (by rw[m];omega) (by unfold maxLen;omega) b ?_;intro w' h1 z;refine h w' ?_ z (h1.lt w.heap.size rfl).2
 have e:(madeCells (Value.cells (.bool false)) (n*1)).toList=(List.replicate n false).map Value.bool:=by
  rw[show Value.cells (.bool false) = #[.bool false] from rfl,toList_madeCells_one];simp
 rw[e] at h1;show World.ownsRow _ _ _ _ _ _ _
 rw[List.length_replicate];exact h1
theorem BOwn.cell {base g cap n:Nat}{w:World}{l:List Bool}(h:BOwn base w (.slice (some ⟨g,0,none⟩) n cap) l) (j:Nat) (a:j<l.length):w.cell? ⟨g,j,none⟩=some (.bool (gt l j)):=by
 have b:n=l.length:=by
  obtain⟨_,⟨h,_⟩|⟨_,_,_,h,_⟩⟩:=h<;>cases h;rfl
 subst b;have:=World.ownsRow.cellAt h j (by omega);rw[this];simp[gt,a]
theorem BOwn.frozen {base g cap n:Nat}{w:World}{l:List Bool}(h:BOwn base w (.slice (some ⟨g,0,none⟩) n cap) l) (j:Nat):w.frozen? ⟨g,j,none⟩=false:=by
 have a:n=l.length:=by
  obtain⟨_,⟨h,_⟩|⟨_,_,_,h,_⟩⟩:=h<;>cases h;rfl
 subst a;exact World.ownsRow.frozenAt h j
theorem BOwn.store {base g cap n:Nat}{w:World}{l:List Bool}(h:BOwn base w (.slice (some ⟨g,0,none⟩) n cap) l) (j:Nat) (x:Bool) :
  BOwn base (w.setCell ⟨g,j,none⟩ (.bool x)) (.slice (some ⟨g,0,none⟩) n cap) (l.set j x)/\w.grownBy (w.setCell ⟨g,j,none⟩ (.bool x)) (some g):=by
 have a:n=l.length:=by
  obtain⟨_,⟨h,_⟩|⟨_,_,_,h,_⟩⟩:=h<;>cases h;rfl
 subst a;obtain⟨h1,h2⟩:=World.ownsRow.stored h j (.bool x);refine⟨?_,h2⟩;show World.ownsRow _ _ _ _ _ _ _
 rw[List.length_set,List.map_set];exact h1
theorem BOwn.ext0 {base:Nat}{w w':World}{v:Value}{l:List Bool}(h:BOwn base w v l) (a:Ext w w'):BOwn base w' v l:=
 h.kept a (by cases b:v.ownBlock<;>simp)
def Near (w:World) (g:Nat) (w':World):Prop:=∃a,Ext w a/\(w'=a\/∃j x,w'=a.setCell ⟨g,j,none⟩ x)
theorem Near.of {w w':World}{g:Nat}(h:Ext w w'):Near w g w':=⟨w',h,.inl rfl⟩
theorem Near.store {w w':World}{g j:Nat}{x:Value}(h:Ext w w'):Near w g (w'.setCell ⟨g,j,none⟩ x):=⟨w',h,.inr ⟨j,x,rfl⟩⟩
theorem Near.cell {w w':World}{g:Nat}(h:Near w g w') {a:Addr}{v:Value}(e:w.cell? a=some v) (b:a.block≠g):w'.cell? a=some v:=by
 obtain⟨i,h1,rfl|⟨j,x,rfl⟩⟩:=h
 ·exact h1.cell e (by simp)
 ·rw [World.cell?_setCell_far _ _ _ _ (by simpa using Ne.symm b)]
  exact h1.cell e (by simp)
def PX (N:Nat) (o:List Int) (F:Nat->Prop) (w:World) (vo vp vc:Value):Prop:=∃P,Shp N P/\P.orders=o/\PresX F w vo vp vc P
structure BX (N:Nat) (o:List Int) (B pb:Nat) (w:World) (vo vp vc:Value):Prop where
 hB:B<=pb
 box:Box3 w pb vo vp vc
 px:PX N o (λk=>B<=k/\k≠pb) w vo vp vc
theorem PX.ext {N:Nat}{o:List Int}{F:Nat->Prop}{w w':World}{vo vp vc:Value}(h:PX N o F w vo vp vc) (b:Ext w w'):PX N o F w' vo vp vc:=by
 obtain⟨P,h1,h2,h3⟩:=h;exact⟨P,h1,h2,h3.mono (λk hk a=>⟨hk,Nat.lt_of_lt_of_le a b.size,b.block k a (by simp)⟩)⟩
theorem BX.ext {N:Nat}{o:List Int}{B pb:Nat}{w w':World}{vo vp vc:Value}(h:BX N o B pb w vo vp vc) (a:Ext w w'):BX N o B pb w' vo vp vc:=⟨h.hB,h.box.ext a,h.px.ext a⟩
theorem BX.storeP {N:Nat}{o:List Int}{B pb:Nat}{w:World}{vo vp vc:Value}(h:BX N o B pb w vo vp vc) (i:Nat) (l:i<o.length) :
  ∃ g cap z,vp=.slice (some ⟨g,0,none⟩) o.length cap/\B<=g/\g≠pb/\g<w.heap.size/\(∀a,Ext w a->a.cell? ⟨g,i,none⟩=some z/\a.frozen? ⟨g,i,none⟩=false) /\
   ∀a u y,Ext w a->OwnIn (From w.heap.size) a u y->y.length<=N->BX N o B pb (a.setCell ⟨g,i,none⟩ u) vo vp vc:=by
 obtain⟨P,h1,h2,h3⟩:=h.px;obtain⟨g,cap,z,n,⟨q1,q2⟩,m,q4,q,r⟩:=h3.openP i (by rw[h1.p,h2];exact l);have j:=h.box.1;have hB:=h.hB;refine⟨g,cap,z,by rw[n,h1.p,h2],q1,q2,m,λa b=>⟨b.cell q4 (by simp),(World.frozen?_of_block (b.block g m (by simp))).trans (q i (by rw[h1.p,h2];exact l))⟩,λa u y b v hy=>⟨hB,Box3.keep h.box (grown_trans (grown_of_ext (some g) b) (grown_set1 a g i u)).size ((grown_trans (grown_of_ext (some g) b) (grown_set1 a g i u)).block _ j (λe=>q2 (by cases e;rfl))),setP P i y,h1.setP i hy,h2,?_⟩⟩;exact(r a u y b v).wide (λk hk=>by rcases hk with hk|hk;exact hk;exact⟨by omega,by omega⟩)
theorem BX.storeC {N:Nat}{o:List Int}{B pb:Nat}{w:World}{vo vp vc:Value}(h:BX N o B pb w vo vp vc) (i j:Nat) (C:i<o.length) (D:j<o.length-1-i) :
  ∃ g cap b l z,vc=.slice (some ⟨g,0,none⟩) o.length cap/\B<=g/\g≠pb/\g<w.heap.size/\w.cell? ⟨g,i,none⟩=some (.slice (some ⟨b,0,none⟩) (o.length-1-i) l)/\B<=b/\b≠pb/\b≠g/\b<w.heap.size /\
   (∀a,Ext w a->a.cell? ⟨b,j,none⟩=some z/\a.frozen? ⟨b,j,none⟩=false) /\
   ∀a u y,Ext w a->OwnIn (From w.heap.size) a u y->y.length<=N->BX N o B pb (a.setCell ⟨b,j,none⟩ u) vo vp vc:=by
 obtain⟨P,h1,p,h3⟩:=h.px;have m:i<P.orders.length:=by rw[p];exact C
 have r:(gt P.conj i).length=o.length-1-i:=by rw[h1.cl i m,p]
 obtain⟨g,cap,b,l,z,E,⟨q1,q2⟩,q3,v,⟨r1,r2⟩,r3,A,r5,F,G⟩:=h3.openC i j (by rw[h1.c];exact m) (by rw[r];exact D);have q:=h.box.1;have hB:=h.hB;rw[r] at v;refine⟨g,cap,b,l,z,by rw[E,h1.c,p],q1,q2,q3,v,r1,r2,r3,A,λa n=>⟨n.cell r5 (by simp),(World.frozen?_of_block (n.block b A (by simp))).trans F⟩,λa u y n H hy=>⟨hB,Box3.keep h.box (grown_trans (grown_of_ext (some b) n) (grown_set1 a b j u)).size ((grown_trans (grown_of_ext (some b) n) (grown_set1 a b j u)).block _ q (λe=>r2 (by cases e;rfl))),setC P i j y,h1.setC i j m hy,p,?_⟩⟩;exact(G a u y n H).wide (λk hk=>by rcases hk with hk|hk;exact hk;exact⟨by omega,by omega⟩)
def PresN (N B:Nat) (w':World) (v:Value):Prop:=∃P,Shp N P/\PresR B P w' v
theorem PresN.weak {N B B':Nat}{w':World}{v:Value}(h:PresN N B w' v) (hB:B'<=B):PresN N B' w' v:=by
 obtain⟨P,h1,a,b,c,e,h2⟩:=h;exact⟨P,h1,a,b,c,e,h2.wide (λk hk=>Nat.le_trans hB hk)⟩
theorem BX.ret {N:Nat}{o:List Int}{B pb:Nat}{w:World}{vo vp vc:Value}(h:BX N o B pb w vo vp vc) {w':World}{r:Nat}(a:w.grownBy w' (some r)) (b:r<B):PresN N B w' (.agg #[vo,vp,vc]):=by
 obtain⟨P,h1,h2,h3⟩:=h.px;exact⟨P,h1,_,_,_,rfl,h3.mono (frame_of a (λk hk _=>⟨hk.1,λe=>by cases e;have:B<=r:=hk.1;omega⟩))⟩
theorem BX.start {N:Nat}{o:List Int}{B:Nat}{w w':World}{vo vp vc:Value}(e:o.length<=N) (h:PresX (From B) w vo vp vc (trivP o)) (b:Ext w w') (g:Box3 w' w.heap.size vo vp vc) (hB:B<=w.heap.size):BX N o B w.heap.size w' vo vp vc:=
 ⟨hB,g,trivP o,trivP_shp o e,rfl,h.mono (λk hk a=>⟨⟨hk,by omega⟩,Nat.lt_of_lt_of_le a b.size,b.block k a (by simp)⟩)⟩
structure BXF (N:Nat) (o:List Int) (F:Nat->Prop) (pb:Nat) (w:World) (vo vp vc:Value):Prop where
 ne:¬F pb
 box:Box3 w pb vo vp vc
 px:PX N o F w vo vp vc
theorem BX.f {N:Nat}{o:List Int}{B pb:Nat}{w:World}{vo vp vc:Value}(h:BX N o B pb w vo vp vc):BXF N o (λk=>B<=k/\k≠pb) pb w vo vp vc:=⟨λh=>h.2 rfl,h.box,h.px⟩
theorem BXF.ext {N:Nat}{o:List Int}{F:Nat->Prop}{pb:Nat}{w w':World}{vo vp vc:Value}(h:BXF N o F pb w vo vp vc) (a:Ext w w'):BXF N o F pb w' vo vp vc:=⟨h.ne,h.box.ext a,h.px.ext a⟩
theorem BXF.turn {N:Nat}{o:List Int}{F F':Nat->Prop}{pb:Nat}{w:World}{vo vp vc:Value}(h:BXF N o F pb w vo vp vc) (hF:∀k,F k->k<w.heap.size->F' k) (b:¬F' pb):BXF N o F' pb w vo vp vc:=by
 obtain⟨P,h1,h2,h3⟩:=h.px;exact⟨b,h.box,P,h1,h2,h3.mono (λk hk a=>⟨hF k hk a,a,rfl⟩)⟩
theorem BXF.bx {N:Nat}{o:List Int}{F:Nat->Prop}{B pb:Nat}{w:World}{vo vp vc:Value}(h:BXF N o F pb w vo vp vc) (hB:B<=pb) (hF:∀k,F k->B<=k):BX N o B pb w vo vp vc:=by
 obtain⟨P,h1,h2,h3⟩:=h.px;exact⟨hB,h.box,P,h1,h2,h3.wide (λk hk=>⟨hF k hk,λe=>h.ne (e▸hk)⟩)⟩
theorem BXF.storeC {N:Nat}{o:List Int}{F:Nat->Prop}{pb:Nat}{w:World}{vo vp vc:Value}(h:BXF N o F pb w vo vp vc) (i j:Nat) (E:i<o.length) (G:j<o.length-1-i) (hF:∀k,w.heap.size<=k->F k) :
  ∃ g cap b l z,vc=.slice (some ⟨g,0,none⟩) o.length cap/\F g/\g≠pb/\g<w.heap.size/\w.cell? ⟨g,i,none⟩=some (.slice (some ⟨b,0,none⟩) (o.length-1-i) l)/\F b/\b≠pb/\b≠g/\b<w.heap.size /\
   (∀a,Ext w a->a.cell? ⟨b,j,none⟩=some z/\a.frozen? ⟨b,j,none⟩=false) /\
   ∀a u y,Ext w a->OwnIn (From w.heap.size) a u y->y.length<=N->BXF N o F pb (a.setCell ⟨b,j,none⟩ u) vo vp vc:=by
 obtain⟨P,h1,p,h3⟩:=h.px;have m:i<P.orders.length:=by rw[p];exact E
 have r:(gt P.conj i).length=o.length-1-i:=by rw[h1.cl i m,p]
 obtain⟨g,cap,b,l,z,H,v,q3,A,B,r3,C,r5,I,J⟩:=h3.openC i j (by rw[h1.c];exact m) (by rw[r];exact G);have q:=h.box.1;rw[r] at A;have K:g≠pb:=λe=>h.ne (e▸v);have D:b≠pb:=λe=>h.ne (e▸B);refine⟨g,cap,b,l,z,by rw[H,h1.c,p],v,K,q3,A,B,D,r3,C,λa n=>⟨n.cell r5 (by simp),(World.frozen?_of_block (n.block b C (by simp))).trans I⟩,λa u y n L hy=>⟨h.ne,Box3.keep h.box (grown_trans (grown_of_ext (some b) n) (grown_set1 a b j u)).size ((grown_trans (grown_of_ext (some b) n) (grown_set1 a b j u)).block _ q (λe=>D (by cases e;rfl))),setC P i j y,h1.setC i j m hy,p,?_⟩⟩;exact(J a u y n L).wide (λk hk=>by rcases hk with hk|hk;exact hk;exact hF k hk)
theorem trivX_shape {F:Nat->Prop}{w:World}{vo vp vc:Value}{o:List Int}(h:PresX F w vo vp vc (trivP o)):∃a c a2 c2 b c3,vo=.slice a o.length c/\vp=.slice a2 o.length c2/\vc=.slice b o.length c3:=by
 obtain⟨a,c,a2,c2,b,c3,e1,e,g⟩:=h.shape;exact⟨a,c,a2,c2,b,c3,e1,by rw[e];simp[trivP],by rw[g];simp[trivP]⟩
section
variable {α:Type} [Inhabited α] {El:(Nat->Prop)->World->Value->α->Prop}{E:Nat}
theorem SlI.p5 (l:RdOk El) {F U:Nat->Prop}{g n cap:Nat}{w:World}{xs:List α}{u:Value}{y:α}(h:SlI El E F w (.slice (some ⟨g,0,none⟩) n cap) xs)
  (A:El U w u y) (B:∀k,U k->¬F k) (j:Nat) :
  Sl (λw u x=>El (λk=>F k\/U k) w u x) (λk=>F k\/U k) (w.setCell ⟨g,j,none⟩ u) (.slice (some ⟨g,0,none⟩) n cap) (xs.set j y):=by
 obtain⟨m,G,hvl,hl,hO,hF,v,hd,C⟩:=h;have r:=(hO.lt g rfl).2;have p:=hF g rfl
 have D:n=m.length:=by
  obtain⟨_,⟨h,_⟩|⟨_,_,_,h,_⟩⟩:=hO<;>cases h;rfl
 subst D
 have z:m.length<=cap:=by
  rcases hO.form with⟨h,_⟩|⟨_,_,h,h2,_⟩
  ·cases h
  ·cases h;exact h2
 obtain⟨h1,h2⟩:=World.ownsRow.stored hO j u;have h1:OwnV 0 E (w.setCell ⟨g,j,none⟩ u) (.slice (some ⟨g,0,none⟩) m.length cap) (m.set j u):=by unfold OwnV;rw[List.length_set];exact h1
 have a:(w.setCell ⟨g,j,none⟩ u).heap.size=w.heap.size:=by simp[World.setCell]
 have hblk:∀k,k≠g->(w.setCell ⟨g,j,none⟩ u).heap[k]? = w.heap[k]? :=λk hk=>Below.heap_setCell _ _ _ _ (by simpa using hk);refine⟨_,cap,by rw[List.length_set,hvl],⟨by rw[List.length_set];omega,by rw[List.length_set];exact hl,λh=>by cases h⟩,λi q => ?_⟩;rw[List.length_set] at q;refine⟨g,0,gt (m.set j u) i,rfl,.inl p,by rw[a];exact r,by rw[Nat.zero_add];exact h1.cell i (by rw[List.length_set];omega),?_⟩;by_cases e:j=i
 ·subst e
  rw[gt_set_eq _ _ _ (by omega),gt_set_eq _ _ _ q];exact l.mono A (λk hk b=>⟨.inr hk,by rw[a];exact b,hblk k (λe=>B k hk (e▸p))⟩)
 ·rw [gt_set_ne _ _ _ _ e,gt_set_ne _ _ _ _ e]
  exact l.mono (C i q) (λk hk b=>⟨.inl (v i k q hk).1,by rw[a];exact b,hblk k (λe=>(v i k q hk).2.1 (by rw[e];rfl))⟩)
end
theorem PresX.p6 {F U:Nat->Prop}{w:World}{vo vp vc u:Value}{P:Pr}{y:List Int}(h:PresX F w vo vp vc P) (i:Nat) (m:i<P.powers.length) (v:Ints U w u y) (A:∀k,U k->¬F k) :
  ∃ g cap z,vp=.slice (some ⟨g,0,none⟩) P.powers.length cap/\F g/\g<w.heap.size/\w.cell? ⟨g,i,none⟩=some z/\w.frozen? ⟨g,i,none⟩=false /\
   Pres3 (λk=>F k\/U k) (w.setCell ⟨g,i,none⟩ u) vo vp vc (setP P i y):=by
 obtain⟨Fo,Fp,Fc,h1,n,B,r,l,C⟩:=h;rcases SlI.form n with⟨_,e⟩|⟨g,cap,rfl,a,hgl⟩
 ·rw[e] at m;simp at m
 obtain⟨⟨z,hz⟩,hf⟩:=SlI.place n i m;have j:(w.setCell ⟨g,i,none⟩ u).heap.size=w.heap.size:=by simp[World.setCell]
 have hblk:∀k,k≠g->(w.setCell ⟨g,i,none⟩ u).heap[k]? = w.heap[k]? :=λk hk=>Below.heap_setCell _ _ _ _ (by simpa using hk);have p:SlI (λF w u (x:List Int)=>Ints F w u x) 24 Fp w (.slice (some ⟨g,0,none⟩) P.powers.length cap) P.powers:=SlI.map (λ_ _ _ _ h=>h.ints) n;have q:RdOk (λF w u (x:List Int)=>Ints F w u x):=⟨λh D=>Ints.mono h D,λh=>by obtain⟨_,_,rfl,_⟩:=h.shape;rfl⟩;have E:=SlI.p5 q p v (λk hk h=>A k hk (l k h).1) i;refine⟨g,cap,z,rfl,(l g a).1,hgl,hz,hf,⟨?_,?_,?_⟩⟩
 ·exact Ints.mono h1.ints (λk hk b=>⟨.inl (r k hk).1,by rw[j];exact b,hblk k (λe=>(r k hk).2.1 (e▸a))⟩)
 ·exact Rows2.sub (S:=λk=>Fp k\/U k) E (λk hk _=>hk.elim (λh => .inl (l k h).1) .inr)
 ·exact Rows3.mono (Rows3I.rows B) (λk hk b=>⟨.inl (C k hk),by rw[j];exact b,hblk k (λe=>(l g a).2 (e▸hk))⟩)
theorem PresX.C8 {F U:Nat->Prop}{w:World}{vo vp vc u:Value}{P:Pr}{y:List Int}(h:PresX F w vo vp vc P) (i j:Nat) (v:i<P.conj.length) (L:j<(gt P.conj i).length) (hu:Ints U w u y) (hU:∀k,U k->¬F k) :
  ∃ g cap b l z,vc=.slice (some ⟨g,0,none⟩) P.conj.length cap/\F g/\g<w.heap.size/\w.cell? ⟨g,i,none⟩=some (.slice (some ⟨b,0,none⟩) (gt P.conj i).length l)/\F b/\b≠g/\b<w.heap.size /\
   w.cell? ⟨b,j,none⟩=some z/\w.frozen? ⟨b,j,none⟩=false/\Pres3 (λk=>F k\/U k) (w.setCell ⟨b,j,none⟩ u) vo vp vc (setC P i j y):=by
 obtain⟨Fo,Fp,Fc,h1,h2,M,X,Y,D⟩:=h;rcases SlI.form M with⟨_,e⟩|⟨g,cap,rfl,E,hgl⟩
 ·rw[e] at v;simp at v
 have N:=M;obtain⟨H,G,hvl,hl,hO,hF,K,hd,Z⟩:=M;have hn:H.length=P.conj.length:=hvl;have p:=Z i v;rcases SlI.form p with⟨_,e⟩|⟨b,l,A,I,hbl⟩
 ·rw[e] at L;simp at L
 rw[A] at p;obtain⟨B,q,_⟩:=K i b v I;have q:b≠g:=λe=>q (by rw[e];rfl);obtain⟨⟨z,hz⟩,hf⟩:=SlI.place p j L
 have O:w.cell? ⟨g,i,none⟩=some (.slice (some ⟨b,0,none⟩) (gt P.conj i).length l):=by
  rw[<-A];have C:OwnV 0 25 w (.slice (some ⟨g,0,none⟩) P.conj.length cap) H:=hO;exact C.cell i (by omega)
 have J:SlI (λF w u (x:List Int)=>Ints F w u x) 24 (G i) w (.slice (some ⟨b,0,none⟩) (gt P.conj i).length l) (gt P.conj i):=SlI.map (λ_ _ _ _ h=>h.ints) p;have Q:RdOk (λF w u (x:List Int)=>Ints F w u x):=⟨λh hb=>Ints.mono h hb,λh=>by obtain⟨_,_,rfl,_⟩:=h.shape;rfl⟩;have hp:=SlI.p5 Q J hu (λk hk h=>hU k hk (D k (K i k v h).1)) j;have r:(w.setCell ⟨b,j,none⟩ u).heap.size=w.heap.size:=by simp[World.setCell]
 have hblk:∀k,k≠b->(w.setCell ⟨b,j,none⟩ u).heap[k]? = w.heap[k]? :=λk hk=>Below.heap_setCell _ _ _ _ (by simpa using hk);have R:=Rows3I.rows N;refine⟨g,cap,b,l,z,rfl,D g E,hgl,O,D b B,q,hbl,hz,hf,⟨?_,?_,?_⟩⟩
 ·exact Ints.mono h1.ints (λk hk n=>⟨.inl (X k hk).1,by rw[r];exact n,hblk k (λe=>(X k hk).2.2 (e▸B))⟩)
 ·exact Rows2.mono (RowsI.rows h2) (λk hk n=>⟨.inl (Y k hk).1,by rw[r];exact n,hblk k (λe=>(Y k hk).2 (e▸B))⟩)
 ·refine ⟨_,cap,by show _=Value.slice _ (P.conj.set i _).length _;rw[List.length_set],⟨?_,?_,λh=>by cases h⟩,λk hk => ?_⟩
  ·obtain ⟨a,c,e,T,_⟩:=Sl.shape R
   cases e
   show(P.conj.set i _).length<=_;rw[List.length_set];exact T
  ·show(P.conj.set i _).length<=_;rw[List.length_set];exact hl
  ·have hk:k<P.conj.length:=by
    have hk:k<(P.conj.set i ((gt P.conj i).set j y)).length:=hk;rw[List.length_set] at hk;exact hk
   show ∃ah off V,_/\_/\_/\_/\Rows2 _ _ V (gt (P.conj.set i ((gt P.conj i).set j y)) k)
   have C:OwnV 0 25 w (.slice (some ⟨g,0,none⟩) P.conj.length cap) H:=hO
   have W:(w.setCell ⟨b,j,none⟩ u).cell? ⟨g,0+k,none⟩=some (gt H k):=by
    rw[Nat.zero_add,World.cell?_of_block (w:=w) (a:=⟨g,k,none⟩) (hblk g (λe=>q e.symm))];exact C.cell k (by omega)
   refine⟨g,0,gt H k,rfl,.inl (D g E),by rw[r];exact hgl,W,?_⟩;by_cases e:i=k
   ·subst e
    rw[gt_set_eq _ _ _ v,A];exact Rows2.sub (S:=λk=>G i k\/U k) hp (λk hk _=>hk.elim (λh => .inl (D k (K i k v h).1)) .inr)
   ·rw [gt_set_ne _ _ _ _ e]
    have hr:=RowsI.rows (Z k hk);exact Rows2.mono hr (λm hm n=>⟨.inl (D m (K k m hk hm).1),by rw[r];exact n,hblk m (λT=>e (hd i k b v hk I (T▸hm)))⟩)
end Go.Proofs.YtdcobapnlpeaaaaGreat
namespace Go.Proofs.YtdcobapnlpeaaaaGreat
theorem iter_add {α:Type}(f:α->α) (n k:Nat) (x:α):iter (n+k) f x=iter n f (iter k f x):=by
 induction n with
 | zero=>rw[Nat.zero_add];rfl
 | succ n a=>rw[Nat.succ_add];show f (iter (n+k) f x)=f (iter n f (iter k f x));rw[a]
theorem iter_rel {α a:Type}(R:α->a->Prop) (f:α->α) (g:a->a) (h:∀x y,R x y->R (f x) (g y)) (n:Nat) (x:α) (y:a) (b:R x y):R (iter n f x) (iter n g y):=by
 induction n with
 | zero=>exact b
 | succ n e=>exact h _ _ e
theorem iter_congr {α:Type}(Q:α->Prop) (f g:α->α) (a:∀x,Q x->Q (f x)) (h:∀x,Q x->f x=g x) (n:Nat) (x:α) (hx:Q x):iter n f x=iter n g x:=by
 induction n with
 | zero=>rfl
 | succ n b=>
  show f (iter n f x)=g (iter n g x)
  rw[<-b];exact h _ (iter_inv Q f a n x hx)
structure MonOn {α:Type}(S:α->Prop) (m:α->α->α) (e:α):Prop where
 cl:∀x y,S x->S y->S (m x y)
 one:S e
 ass:∀x y z,S x->S y->S z->m (m x y) z=m x (m y z)
 el:∀x,S x->m e x=x
 er:∀x,S x->m x e=x
def acc {α:Type}(g:α->Nat->α) (x:List Int) (i:Nat) (out:α):Nat->α
 | 0=>out
 | k+1=>iter (gt x (i+k)).toNat (λy=>g y (i+k)) (acc g x i out k)
theorem acc_front {α:Type}(g:α->Nat->α) (x:List Int) (i:Nat) (out:α) (k:Nat):acc g x i out (k+1)=acc g x (i+1) (iter (gt x i).toNat (λy=>g y i) out) k:=by
 induction k with
 | zero=>rfl
 | succ k a=>
  rw[acc,a];show _=iter (gt x (i+1+k)).toNat (λy=>g y (i+1+k)) _
  rw[show i+(k+1)=i+1+k by omega]
theorem acc_inv {α:Type}(Q:α->Prop) (g:α->Nat->α) (x:List Int) (i:Nat) (out:α) (k:Nat) (l:Q out) (h:∀y j,Q y->i<=j->j<i+k->gt x j≠0->Q (g y j)):Q (acc g x i out k):=by
 induction k with
 | zero=>exact l
 | succ k m=>
  have h1:=m (λy j hy a b c=>h y j hy a (by omega) c);by_cases e:gt x (i+k)=0
  ·rw[acc,e];exact h1
  ·exact iter_inv Q _ (λy hy=>h y (i+k) hy (by omega) (by omega) e) _ _ h1
theorem acc_rel {α l:Type}(R:α->l->Prop) (g:α->Nat->α) (m:l->Nat->l) (x:List Int) (i:Nat) (out:α) (e:l) (k:Nat) (p:R out e) (h:∀y z j,R y z->i<=j->j<i+k->gt x j≠0->R (g y j) (m z j)) :
  R (acc g x i out k) (acc m x i e k):=by
 induction k with
 | zero=>exact p
 | succ k q=>
  have h1:=q (λy z j hy a b c=>h y z j hy a (by omega) c);by_cases n:gt x (i+k)=0
  ·rw[acc,acc,n];exact h1
  ·exact iter_rel R _ _ (λy z hy=>h y z (i+k) hy (by omega) (by omega) n) _ _ _ h1
theorem acc_congr {α:Type}(g:α->Nat->α) (x x':List Int) (i:Nat) (out:α) (k:Nat) (h:∀j,i<=j->j<i+k->gt x j=gt x' j):acc g x i out k=acc g x' i out k:=by
 induction k with
 | zero=>rfl
 | succ k e=>rw[acc,acc,e (λj a b=>h j a (by omega)),h (i+k) (by omega) (by omega)]
theorem acc_zero {α:Type}(g:α->Nat->α) (x:List Int) (i:Nat) (out:α) (k:Nat) (h:∀j,i<=j->j<i+k->gt x j=0):acc g x i out k=out:=by
 induction k with
 | zero=>rfl
 | succ k e=>rw[acc,e (λj a b=>h j a (by omega)),h (i+k) (by omega) (by omega)];rfl
theorem acc_split {α:Type}(g:α->Nat->α) (x:List Int) (i:Nat) (out:α) (a b:Nat):acc g x i out (a+b)=acc g x (i+a) (acc g x i out a) b:=by
 induction b with
 | zero=>rfl
 | succ b e=>
  show acc g x i out ((a+b)+1)=_
  rw[acc,acc,e,show i+(a+b)=i+a+b by omega]
theorem rImgTo_acc (at_:List Int->List Int->List Int) (a:List (List Int)) (i:Nat) (x out:List Int) (k:Nat) :
  rImgTo at_ a i x out k=acc (λy j=>at_ y (gt a (j-i-1))) x (i+1) out k:=by
 induction k with
 | zero=>rfl
 | succ k b=>rw[rImgTo,acc,b];simp only[show i+1+k-i-1=k by omega]
theorem tvecTo_acc (g:List Int->Nat->List Int) (f e:List Int) (k:Nat):tvecTo g f e k=acc g f 0 e k:=by
 induction k with
 | zero=>rfl
 | succ k a=>rw[tvecTo,acc,a,Nat.zero_add]
theorem tconjTo_acc (g:List Int->Nat->List Int) (a:List (List Int)) (e:List Int) (j:Nat) (out:List Int) (k:Nat) :
  tconjTo g a (e.drop (j+1)) out k=acc (λy l=>tvec g y (gt a (l-j-1))) e (j+1) out k:=by
 induction k with
 | zero=>rfl
 | succ k b=>
  rw[tconjTo,acc,b];have:gt (e.drop (j+1)) k=gt e (j+1+k):=by simp[gt]
  simp only[this,show j+1+k-j-1=k by omega]
section
variable {α:Type}{S:α->Prop}{m:α->α->α}{e:α}
theorem MonOn.pow_cl (M:MonOn S m e) {h y:α}(a:S h) (hy:S y) (k:Nat):S (iter k (λy=>m y h) y):=iter_inv S _ (λy hy=>M.cl y h hy a) k y hy
theorem MonOn.pow_out (M:MonOn S m e) {h y:α}(a:S h) (hy:S y) (k:Nat):iter k (λy=>m y h) y=m y (iter k (λy=>m y h) e):=by
 induction k with
 | zero=>exact(M.er y hy).symm
 | succ k b=>
  show m (iter k (λy=>m y h) y) h=m y (m (iter k (λy=>m y h) e) h)
  rw[b,M.ass y _ h hy (M.pow_cl a M.one k) a]
theorem MonOn.pow_add (M:MonOn S m e) {h:α}(g:S h) (a b:Nat):iter (a+b) (λy=>m y h) e=m (iter a (λy=>m y h) e) (iter b (λy=>m y h) e):=by
 rw[Nat.add_comm,iter_add,M.pow_out g (M.pow_cl g M.one a)]
def npr (m:α->α->α) (h:Nat->α) (x:List Int) (i:Nat) (out:α) (k:Nat):α:=acc (λy j=>m y (h j)) x i out k
theorem npr_cl (M:MonOn S m e) {h:Nat->α}{x:List Int}{i:Nat}{out:α}{k:Nat}(g:S out) (l:∀j,i<=j->j<i+k->S (h j)):S (npr m h x i out k):=
 acc_inv S _ x i out k g (λy j hy a b _=>M.cl y _ hy (l j a b))
theorem npr_out (M:MonOn S m e) {h:Nat->α}{x:List Int}{i:Nat}{out:α}{k:Nat}(l:S out) (n:∀j,i<=j->j<i+k->S (h j)):npr m h x i out k=m out (npr m h x i e k):=by
 induction k with
 | zero=>exact(M.er out l).symm
 | succ k p=>
  have g:∀j,i<=j->j<i+k->S (h j):=λj a b=>n j a (by omega);have h1:=p g;unfold npr at h1 ⊢;rw[acc,acc,h1];have c1:S (npr m h x i e k):=npr_cl M M.one g;have hk:=n (i+k) (by omega) (by omega);unfold npr at c1;rw[M.pow_out hk (M.cl _ _ l c1),M.pow_out hk c1,M.ass _ _ _ l c1 (M.pow_cl hk M.one _)]
theorem npr_front (M:MonOn S m e) {h:Nat->α}{x:List Int}{i:Nat}{k:Nat}(g:∀j,i<=j->j<i+(k+1)->S (h j)) :
  npr m h x i e (k+1)=m (iter (gt x i).toNat (λy=>m y (h i)) e) (npr m h x (i+1) e k):=by
 have h1:npr m h x i e (k+1)=npr m h x (i+1) (iter (gt x i).toNat (λy=>m y (h i)) e) k:=acc_front _ x i e k;rw[h1];exact npr_out M (M.pow_cl (g i (by omega) (by omega)) M.one _) (λj a b=>g j (by omega) (by omega))
structure Holds (P:Pr) (S:α->Prop) (m:α->α->α) (e:α) (h:Nat->α) (i:Nat):Prop where
 mem:∀j,i<=j->j<P.orders.length->S (h j)
 pw:∀j,i<=j->j<P.orders.length->iter (gt P.orders j).toNat (λy=>m y (h j)) e=npr m h (gt P.powers j) (j+1) e (P.orders.length-(j+1))
 cj:∀j k,i<=j->j<k->k<P.orders.length->m (h k) (h j)=m (h j) (npr m h (gt (gt P.conj j) (k-j-1)) (j+1) e (P.orders.length-(j+1)))
theorem Holds.up {P:Pr}{h:Nat->α}{i g:Nat}(H:Holds P S m e h i) (l:i<=g):Holds P S m e h g:=
 ⟨λj a b=>H.mem j (by omega) b,λj a b=>H.pw j (by omega) b,λj k a b c=>H.cj j k (by omega) b c⟩
theorem vd_image {P:Pr}(hP:Valid P) (M:MonOn S m e) {h:Nat->α}{i f:Nat}(E:i+(f+1)=P.orders.length) (H:Holds P S m e h i)
  (v:∀A B,Vec P.orders A->Vec P.orders B->npr m h (rAt P f (i+1) A B) (i+1) e f=m (npr m h A (i+1) e f) (npr m h B (i+1) e f)) (x:List Int) :
  m (npr m h x (i+1) e f) (h i)=m (h i) (npr m h (rImage P f i x) (i+1) e f):=by
 have k:∀j,i<=j->j<P.orders.length->S (h j):=H.mem;have n:∀y,S (npr m h y (i+1) e f):=λy=>npr_cl M M.one (λj a b=>k j (by omega) (by omega));unfold rImage;rw[rImgTo_acc];have g:=k i (by omega) (by omega)
 have w:(λ(y:α) (z:List Int)=>S y/\Vec P.orders z/\m y (h i)=m (h i) (npr m h z (i+1) e f)) (npr m h x (i+1) e f)
   (acc (λy j=>rAt P f (i+1) y (gt (gt P.conj i) (j-i-1))) x (i+1) (zeros P.orders.length) f):=by
  unfold npr;refine acc_rel (λ(y:α) (z:List Int)=>S y/\Vec P.orders z/\m y (h i)=m (h i) (npr m h z (i+1) e f)) _ _ x (i+1) _ _ f ⟨M.one,zeros_vec hP,?_⟩ ?_
  ·have C:npr m h (zeros P.orders.length) (i+1) e f=e:=acc_zero _ _ _ _ _ (λj _ _=>gt_replicate _ _)
   rw[C,M.el _ g,M.er _ g]
  ·rintro y z j ⟨h1,p,h3⟩ a b _
   have q:=(hP.cv i (by omega)).2 (j-i-1) (by omega);have r:=k j (by omega) (by omega);refine⟨M.cl _ _ h1 r,rAt_vec hP f _ _ _ (by omega) p q.1,?_⟩;have u:=v z _ p q.1;have l:=H.cj i j (by omega) (by omega) (by omega);have D:P.orders.length-(i+1)=f:=by omega
   rw[D] at l;have c1:=n z;have c2:=n (gt (gt P.conj i) (j-i-1));unfold npr at h3 u l c1 c2 ⊢;rw[u,M.ass _ _ _ h1 r g,l,<-M.ass _ _ _ h1 g c2,h3,M.ass _ _ _ g c1 c2]
 exact w.2.2
theorem vd_at {P:Pr}(hP:Valid P) (M:MonOn S m e) {h:Nat->α}(f:Nat):∀(i:Nat),i+f=P.orders.length->Holds P S m e h i->∀A B,Vec P.orders A->Vec P.orders B ->
  npr m h (rAt P f i A B) i e f=m (npr m h A i e f) (npr m h B i e f):=by
 induction f with
 | zero=>intro i _ _ A B _ _;exact(M.el e M.one).symm
 | succ f L=>
  intro i F H A B G hB;have w:=L (i+1) (by omega) (H.up (by omega));have z:∀j,i<=j->j<P.orders.length->S (h j):=H.mem;have g:∀y,S (npr m h y (i+1) e f):=λy=>npr_cl M M.one (λj a b=>z j (by omega) (by omega));have p:=z i (by omega) (by omega);have r:∀k,S (iter k (λy=>m y (h i)) e):=λk=>M.pow_cl p M.one k;have C:=vd_image hP M F H w
  have n:∀(y:List Int) (c:Int),npr m h (y.set i c) (i+1) e f=npr m h y (i+1) e f:=λy c=>
   acc_congr _ _ _ _ _ _ (λj a _=>gt_set_ne _ _ _ _ (by omega))
  have u:∀y,npr m h y i e (f+1)=m (iter (gt y i).toNat (λy=>m y (h i)) e) (npr m h y (i+1) e f):=λy=>npr_front M (λj a b=>z j a (by omega));have U:=hP.ord7 i (by omega);have N:=G.2 i (by omega);have O:=hB.2 i (by omega);-- the left factor drawn through
  have v:∀b:Nat,Vec P.orders (iter b (λl=>rImgTo (rAt P f (i+1)) (gt P.conj i) i l (zeros P.orders.length) f) (A.set i 0)) /\
    m (npr m h A (i+1) e f) (iter b (λy=>m y (h i)) e)=m (iter b (λy=>m y (h i)) e) (npr m h (iter b (λl=>rImgTo (rAt P f (i+1)) (gt P.conj i) i l (zeros P.orders.length) f) (A.set i 0)) (i+1) e f):=by
   intro b;induction b with
   | zero=>
    refine⟨G.set i 0 ⟨by omega,λ_=>by omega⟩,?_⟩;show m _ e=m e (npr m h (A.set i 0) (i+1) e f)
    rw[n,M.er _ (g A),M.el _ (g A)]
   | succ b D=>
    obtain⟨v1,e1⟩:=D
    have Q:Vec P.orders (rImgTo (rAt P f (i+1)) (gt P.conj i) i (iter b (λl=>rImgTo (rAt P f (i+1)) (gt P.conj i) i l (zeros P.orders.length) f) (A.set i 0)) (zeros P.orders.length) f):=
     rImgTo_vec hP f i F (rAt_vec hP f) _ _ (zeros_vec hP) f (Nat.le_refl _)
    refine⟨Q,?_⟩;have R:=C (iter b (λl=>rImgTo (rAt P f (i+1)) (gt P.conj i) i l (zeros P.orders.length) f) (A.set i 0));show m _ (m (iter b (λy=>m y (h i)) e) (h i))=m (m (iter b (λy=>m y (h i)) e) (h i)) (npr m h (rImage P f i _) (i+1) e f)
    rw[<-M.ass _ _ _ (g A) (r b) p,e1,M.ass _ _ _ (r b) (g _) p,R,<-M.ass _ _ _ (r b) p (g _)]
  obtain⟨I,el⟩:=v (gt B i).toNat;have J:Vec P.orders (B.set i 0):=hB.set i 0 ⟨by omega,λ_=>by omega⟩;have er:=w _ _ I J;rw[n B 0] at er;have E:=rAt_vec hP f (i+1) _ _ (by omega) I J;rw[u A,u B];-- both sides to one form
  have key:m (m (iter (gt A i).toNat (λy=>m y (h i)) e) (npr m h A (i+1) e f)) (m (iter (gt B i).toNat (λy=>m y (h i)) e) (npr m h B (i+1) e f)) =
    m (iter ((gt A i).toNat+(gt B i).toNat) (λy=>m y (h i)) e) (npr m h (rAt P f (i+1) (iter (gt B i).toNat (λl=>rImgTo (rAt P f (i+1)) (gt P.conj i) i l (zeros P.orders.length) f) (A.set i 0)) (B.set i 0)) (i+1) e f):=by
   rw[er,M.pow_add p,M.ass _ _ _ (r _) (g _) (M.cl _ _ (r _) (g _)),<-M.ass _ _ _ (g A) (r _) (g _),el,M.ass _ _ _ (r _) (g _) (g _),<-M.ass _ _ _ (r _) (r _) (M.cl _ _ (g _) (g _))]
  rw[key,u];simp only[rAt];by_cases K:gt P.orders i<=gt A i+gt B i
  ·rw [if_pos K]
   have vp:=(hP.pv i (by omega)).1;have T:=rAt_vec hP f (i+1) _ _ (by omega) vp E;rw[n,gt_set_eq _ _ _ (by rw[T.1];omega),w _ _ vp E];have q:(gt A i).toNat+(gt B i).toNat=(gt A i+gt B i-gt P.orders i).toNat+(gt P.orders i).toNat:=by omega
   rw[q,M.pow_add p,H.pw i (by omega) (by omega),show P.orders.length-(i+1)=f by omega,M.ass _ _ _ (r _) (g _) (g _)]
  ·rw [if_neg K,n,gt_set_eq _ _ _ (by rw[E.1];omega)]
   have q:(gt A i).toNat+(gt B i).toNat=(gt A i+gt B i).toNat:=by omega
   rw[q]
theorem npr_three (M:MonOn S m e) {h:Nat->α}{y:List Int}{i j n:Nat}(g:i<=j) (p:j<n) (k:∀l,i<=l->l<n->S (h l)) :
  npr m h y i e (n-i)=m (m (npr m h y i e (j-i)) (iter (gt y j).toNat (λy=>m y (h j)) e)) (npr m h y (j+1) e (n-(j+1))):=by
 have h1:npr m h y i e (n-i)=npr m h y (j+1) (iter (gt y j).toNat (λy=>m y (h j)) (npr m h y i e (j-i))) (n-(j+1)):=by
  unfold npr;rw[show n-i=(j-i)+((n-(j+1))+1) by omega,acc_split,acc_front,show i+(j-i)=j by omega]
 have c1:S (npr m h y i e (j-i)):=npr_cl M M.one (λl a b=>k l a (by omega));rw[h1,npr_out M (M.pow_cl (k j g p) c1 _) (λl a b=>k l (by omega) (by omega)),M.pow_out (k j g p) c1]
theorem vd_gen {P:Pr}(hP:Valid P) (M:MonOn S m e) {h:Nat->α}{i:Nat}(H:Holds P S m e h i) (f:Nat):∀(E:List Int) (j:Nat),Vec P.orders E->i<=j->j<P.orders.length->P.orders.length<=f+j ->
  npr m h (tgen P f E j) i e (P.orders.length-i)=m (npr m h E i e (P.orders.length-i)) (h j):=by
 have r:∀j,i<=j->j<P.orders.length->S (h j):=H.mem;have U:∀y,S (npr m h y i e (P.orders.length-i)):=λy=>npr_cl M M.one (λj a b=>r j a (by omega));induction f with
 | zero=>intro E j _ _ n X;omega
 | succ f Y=>
  intro E j O p n X;have u:=r j p n;have Z:∀y,S (npr m h y (j+1) e (P.orders.length-(j+1))):=λy=>npr_cl M M.one (λl a b=>r l (by omega) (by omega));have g:∀y,S (npr m h y i e (j-i)):=λy=>npr_cl M M.one (λl a b=>r l a (by omega));have Q:∀k,S (iter k (λy=>m y (h j)) e):=λk=>M.pow_cl u M.one k
  have D:∀c,Vec P.orders c->ZeroTo j c->∀x,Vec P.orders x->Vec P.orders (tvec (tgen P f) x c):=λc q B x hx=>
   tvec_vec q (λe i he hi h0=>tgen_vec hP f e i he hi (by
    have:¬i<=j:=λh=>h0 (B i h);omega)) hx
  have F:∀c,Vec P.orders c->ZeroTo j c->∀x,Vec P.orders x ->
    npr m h (tvec (tgen P f) x c) i e (P.orders.length-i)=m (npr m h x i e (P.orders.length-i)) (npr m h c (j+1) e (P.orders.length-(j+1))):=by
   intro c q B x hx;unfold tvec
   rw [tvecTo_acc,q.1,show P.orders.length=(j+1)+(P.orders.length-(j+1)) by omega,acc_split,acc_zero (tgen P f) c 0 x (j+1) (λl _ b=>B l (by omega)),show 0+(j+1)=j+1 by omega,
    show(j+1)+(P.orders.length-(j+1))=P.orders.length by omega]
   have R:=acc_rel (λ(y:α) (z:List Int)=>S y/\Vec P.orders z/\npr m h z i e (P.orders.length-i)=y) (λy l=>m y (h l)) (tgen P f) c (j+1) (npr m h x i e (P.orders.length-i)) x (P.orders.length-(j+1))
    ⟨U x,hx,rfl⟩ (by
     rintro y z l ⟨h1,G,C⟩ a b _;refine⟨M.cl _ _ h1 (r l (by omega) (by omega)),tgen_vec hP f z l G (by omega) (by omega),?_⟩;rw[Y z l G (by omega) (by omega) (by omega),C])
   rw[R.2.2];exact npr_out M (U x) (λl a b=>r l (by omega) (by omega))
  have hl:=O.1;have v:j+1+(E.drop (j+1)).length<=E.length:=by simp;omega
  have B:=O.zeroed j (E.drop (j+1)).length v;have hx:=O.2 j n;have ho:=hP.ord7 j n;have ad:=length_zeroed E j (E.drop (j+1)).length v
  have I:∀c:Int,npr m h ((zeroed E j (E.drop (j+1)).length).set j c) i e (P.orders.length-i)=m (npr m h E i e (j-i)) (iter c.toNat (λy=>m y (h j)) e):=by
   intro c;rw[npr_three M p n r,gt_set_eq _ _ _ (by omega)]
   have e1:npr m h ((zeroed E j (E.drop (j+1)).length).set j c) i e (j-i)=npr m h E i e (j-i):=
    acc_congr _ _ _ _ _ _ (λl a b=>by rw[gt_set_ne _ _ _ _ (by omega),gt_zeroed _ _ _ _ v,if_neg (by omega)])
   have w:npr m h ((zeroed E j (E.drop (j+1)).length).set j c) (j+1) e (P.orders.length-(j+1))=e:=
    acc_zero _ _ _ _ _ (λl a b=>by
     rw[gt_set_ne _ _ _ _ (by omega),gt_zeroed _ _ _ _ v,if_pos ⟨by omega,by simp;omega⟩])
   rw[e1,w,M.er _ (M.cl _ _ (g E) (Q _))]
  obtain⟨w,J⟩:∃w,w=(if gt E j+1=gt P.orders j then tvec (tgen P f) (((zeroed E j (E.drop (j+1)).length).set j (gt E j+1)).set j 0) (gt P.powers j) else (zeroed E j (E.drop (j+1)).length).set j (gt E j+1)):=⟨_,rfl⟩
  have G:Vec P.orders w/\npr m h w i e (P.orders.length-i)=m (m (npr m h E i e (j-i)) (iter (gt E j).toNat (λy=>m y (h j)) e)) (h j):=by
   have V:m (npr m h E i e (j-i)) (iter (gt E j+1).toNat (λy=>m y (h j)) e)=m (m (npr m h E i e (j-i)) (iter (gt E j).toNat (λy=>m y (h j)) e)) (h j):=by
    rw[show(gt E j+1).toNat=(gt E j).toNat+1 by omega];exact(M.ass _ _ _ (g E) (Q _) u).symm
   rw[J];split
   ·rename_i q
    rw[List.set_set];have K:Vec P.orders ((zeroed E j (E.drop (j+1)).length).set j 0):=B.set j 0 ⟨by omega,λ_=>by omega⟩;refine⟨D _ (hP.pv j n).1 (hP.pv j n).2 _ K,?_⟩;rw[F _ (hP.pv j n).1 (hP.pv j n).2 _ K,I,<-H.pw j p n,<-V,q];show m (m _ e) _=_
    rw[M.er _ (g E)]
   ·rename_i q
    exact⟨B.set j _ ⟨by omega,λ_=>by omega⟩,by rw[I,V]⟩
  have L:tgen P (f+1) E j=tconjTo (tgen P f) (gt P.conj j) (E.drop (j+1)) w (E.drop (j+1)).length:=by rw[J];rfl
  have T:(E.drop (j+1)).length=P.orders.length-(j+1):=by simp;omega
  rw[L,tconjTo_acc,T];have N:S (m (npr m h E i e (j-i)) (iter (gt E j).toNat (λy=>m y (h j)) e)):=M.cl _ _ (g E) (Q _)
  have R:=acc_rel (λ(y:α) (z:List Int)=>S y/\Vec P.orders z/\npr m h z i e (P.orders.length-i)=m (m (m (npr m h E i e (j-i)) (iter (gt E j).toNat (λy=>m y (h j)) e)) y) (h j))
   (λy l=>m y (h l)) (λy l=>tvec (tgen P f) y (gt (gt P.conj j) (l-j-1))) E (j+1) e w (P.orders.length-(j+1))
   ⟨M.one,G.1,by rw[G.2,M.er _ N]⟩ (by
    rintro y z l ⟨C,W,h5⟩ a b _;have q:=(hP.cv j n).2 (l-j-1) (by omega);have A:=r l (by omega) (by omega);refine⟨M.cl _ _ C A,D _ q.1 q.2 _ W,?_⟩;rw[F _ q.1 q.2 _ W,h5,M.ass _ _ _ (M.cl _ _ N C) u (Z _),<-H.cj j l p (by omega) (by omega),<-M.ass _ _ _ (M.cl _ _ N C) A u,M.ass _ _ _ N C A])
  rw[R.2.2,npr_three M p n r (y:=E)];rfl
theorem vd_tg {P:Pr}(hP:Valid P) (M:MonOn S m e) {h:Nat->α}{i:Nat}(H:Holds P S m e h i) (E:List Int) (j:Nat) (b:Vec P.orders E) (a:i<=j) (g:j<P.orders.length) :
  npr m h (tg P E j) i e (P.orders.length-i)=m (npr m h E i e (P.orders.length-i)) (h j):=vd_gen hP M H _ E j b a g (by omega)
theorem vd_tv {P:Pr}(hP:Valid P) (M:MonOn S m e) {h:Nat->α}{i:Nat}(v:i<=P.orders.length) (H:Holds P S m e h i) (E F:List Int) (q:Vec P.orders E) (hF:Vec P.orders F) (r:∀k,k<i->gt F k=0) :
  npr m h (tv P E F) i e (P.orders.length-i)=m (npr m h E i e (P.orders.length-i)) (npr m h F i e (P.orders.length-i)):=by
 have g:∀j,i<=j->j<P.orders.length->S (h j):=H.mem;have n:∀y,S (npr m h y i e (P.orders.length-i)):=λy=>npr_cl M M.one (λj a b=>g j a (by omega));unfold tv tvec
 rw [tvecTo_acc,hF.1,show P.orders.length=i+(P.orders.length-i) by omega,acc_split,acc_zero (tg P) F 0 E i (λl _ b=>r l (by omega)),show 0+i=i by omega,
  show i+(P.orders.length-i)=P.orders.length by omega]
 have u:=acc_rel (λ(y:α) (z:List Int)=>S y/\Vec P.orders z/\npr m h z i e (P.orders.length-i)=y) (λy l=>m y (h l)) (tg P) F i (npr m h E i e (P.orders.length-i)) E (P.orders.length-i)
  ⟨n E,q,rfl⟩ (by
   rintro y z l ⟨h1,p,h3⟩ a b _;refine⟨M.cl _ _ h1 (g l (by omega) (by omega)),tg_vec hP z l p (by omega),?_⟩;rw[vd_tg hP M H z l p (by omega) (by omega),h3])
 rw[u.2.2];exact npr_out M (n E) (λl a b=>g l (by omega) (by omega))
end
structure GrpOn {α:Type}(S:α->Prop) (m:α->α->α) (e:α):Prop extends MonOn S m e where
 inv:∀x,S x->∃y,S y/\m x y=e/\m y x=e
section
variable {α:Type}{S:α->Prop}{m:α->α->α}{e:α}
theorem GrpOn.of_right (M:MonOn S m e) (h:∀x,S x->∃y,S y/\m x y=e):GrpOn S m e:=by
 refine⟨M,λx hx => ?_⟩;obtain⟨y,hy,h1⟩:=h x hx;obtain⟨z,hz,h2⟩:=h y hy
 have:x=z:=by
  have a:m (m x y) z=m x (m y z):=M.ass x y z hx hy hz;rw[h1,h2,M.el z hz,M.er x hx] at a;exact a.symm
 exact⟨y,hy,h1,by rw[this];exact h2⟩
theorem GrpOn.cancel (G:GrpOn S m e) {a x y:α}(ha:S a) (hx:S x) (hy:S y) (h:m a x=m a y):x=y:=by
 obtain⟨b,g,_,h2⟩:=G.inv a ha;have i:m b (m a x)=m b (m a y):=by rw[h]
 rw[<-G.ass b a x g ha hx,<-G.ass b a y g ha hy,h2,G.el x hx,G.el y hy] at i;exact i
theorem GrpOn.right_left (G:GrpOn S m e) {a b:α}(ha:S a) (g:S b) (h:m a b=e):m b a=e:=by
 obtain⟨c,hc,h1,h2⟩:=G.inv a ha;have:b=c:=G.cancel ha g hc (by rw[h,h1]);rw[this];exact h2
theorem GrpOn.solve (G:GrpOn S m e) {a b x y:α}(ha:S a) (i:S b) (hx:S x) (hy:S y) (g:m a b=e):m b x=y↔x=m a y:=by
 have j:=G.right_left ha i g;constructor
 ·intro h;rw[<-h,<-G.ass a b x ha i hx,g,G.el x hx]
 ·intro h;rw[h,<-G.ass b a y i ha hy,j,G.el y hy]
def exm (m:α->α->α) (φ : α->α) (w:α) (o:Nat) (p q:Nat × α):Nat × α:=
 if o<=p.1+q.1 then (p.1+q.1-o,m w (m (iter q.1 φ p.2) q.2)) else (p.1+q.1,m (iter q.1 φ p.2) q.2)
structure ExtOk (S:α->Prop) (m:α->α->α) (e:α) (φ : α->α) (w:α) (o:Nat):Prop where
 o2:2<=o
 grp:GrpOn S m e
 cl:∀x,S x->S (φ x)
 hom:∀x y,S x->S y->φ (m x y)=m (φ x) (φ y)
 wS:S w
 wφ : φ w=w
 root:∀x,S x->m w (iter o φ x)=m x w
variable {φ : α->α}{w:α}{o:Nat}
theorem ExtOk.icl (E:ExtOk S m e φ w o) (k:Nat) (x:α) (hx:S x):S (iter k φ x):=iter_inv S φ E.cl k x hx
theorem ExtOk.ihom (E:ExtOk S m e φ w o) (k:Nat) (x y:α) (hx:S x) (hy:S y):iter k φ (m x y)=m (iter k φ x) (iter k φ y):=by
 induction k with
 | zero=>rfl
 | succ k a=>show φ (iter k φ (m x y))=_;rw[a];exact E.hom _ _ (E.icl k x hx) (E.icl k y hy)
theorem ExtOk.iw (E:ExtOk S m e φ w o) (k:Nat):iter k φ w=w:=by
 induction k with
 | zero=>rfl
 | succ k a=>show φ (iter k φ w)=w;rw[a];exact E.wφ
theorem ExtOk.one (E:ExtOk S m e φ w o):φ e=e:=by
 have h:=E.hom e e E.grp.one E.grp.one;rw[E.grp.el e E.grp.one] at h;have c:=E.cl e E.grp.one;exact(E.grp.cancel c E.grp.one c (by rw[E.grp.er _ c];exact h)).symm
theorem ExtOk.ione (E:ExtOk S m e φ w o) (k:Nat):iter k φ e=e:=by
 induction k with
 | zero=>rfl
 | succ k a=>show φ (iter k φ e)=e;rw[a];exact E.one
theorem ExtOk.draw (E:ExtOk S m e φ w o) (k:Nat) (hk:o<=k) (x:α) (hx:S x):m (iter (k-o) φ x) w=m w (iter k φ x):=by
 rw[<-E.root _ (E.icl _ x hx),<-iter_add,show o+(k-o)=k by omega]
def ExS (S:α->Prop) (o:Nat) (p:Nat × α):Prop:=p.1<o/\S p.2
theorem ExtOk.exm_cl (E:ExtOk S m e φ w o) (p q:Nat × α) (g:ExS S o p) (i:ExS S o q):ExS S o (exm m φ w o p q):=by
 obtain⟨a,x⟩:=p;obtain⟨b,y⟩:=q;obtain⟨ha,hx⟩:=g;obtain⟨j,hy⟩:=i;have c:=E.grp.cl _ _ (E.icl b x hx) hy;simp only at ha j hx hy;unfold exm;simp only;split
 ·exact⟨by show a+b-o<o;omega,E.grp.cl _ _ E.wS c⟩
 ·exact⟨by show a+b<o;omega,c⟩
theorem ExtOk.exm_ass (E:ExtOk S m e φ w o) (p q r:Nat × α) (C:ExS S o p) (D:ExS S o q) (F:ExS S o r):exm m φ w o (exm m φ w o p q) r=exm m φ w o p (exm m φ w o q r):=by
 obtain⟨a,x⟩:=p;obtain⟨b,y⟩:=q;obtain⟨c,z⟩:=r;obtain⟨ha,hx⟩:=C;obtain⟨G,hy⟩:=D;obtain⟨H,l⟩:=F;simp only at ha G H hx hy l;have M:=E.grp.toMonOn;have n:=E.wS;have c1:=E.icl b x hx;have c2:=E.icl c _ c1;have c3:=E.icl c y hy;have c4:=M.cl _ _ c1 hy;have c5:=M.cl _ _ c3 l;-- the left side's inner part, and the right side's
 have u:iter c φ (m (iter b φ x) y)=m (iter c φ (iter b φ x)) (iter c φ y):=E.ihom c _ _ c1 hy;have j:iter c φ (m w (m (iter b φ x) y))=m w (m (iter c φ (iter b φ x)) (iter c φ y)):=by rw[E.ihom c _ _ n c4,E.iw,u]
 have g:iter (b+c) φ x=iter c φ (iter b φ x):=by rw[Nat.add_comm,iter_add]
 have c6:=M.cl _ _ c2 c3;have v:m (m (iter c φ (iter b φ x)) (iter c φ y)) z=m (iter c φ (iter b φ x)) (m (iter c φ y) z):=M.ass _ _ _ c2 c3 l;have k:m (m w (m (iter c φ (iter b φ x)) (iter c φ y))) z=m w (m (iter c φ (iter b φ x)) (m (iter c φ y) z)):=by rw[M.ass _ _ _ n c6 l,v]
 have B:o<=b+c->m (iter (b+c-o) φ x) (m w (m (iter c φ y) z))=m w (m (iter c φ (iter b φ x)) (m (iter c φ y) z)):=by
  intro h;rw[<-M.ass _ _ _ (E.icl _ x hx) n c5,E.draw _ h x hx,g,M.ass _ _ _ n c2 c5]
 unfold exm;by_cases A:o<=a+b
 ·by_cases d1:o<=b+c
  ·simp only[if_pos A,if_pos d1]
   by_cases i:o<=a+b-o+c
   ·have d2:o<=a+(b+c-o):=by omega
    simp only[if_pos i,if_pos d2];rw[j,k,B d1,show a+b-o+c-o=a+(b+c-o)-o by omega]
   ·have d2:¬o<=a+(b+c-o):=by omega
    simp only[if_neg i,if_neg d2];rw[j,k,B d1,show a+b-o+c=a+(b+c-o) by omega]
  ·simp only[if_pos A,if_neg d1]
   have i:¬o<=a+b-o+c:=by omega
   have d2:o<=a+(b+c):=by omega
   simp only[if_neg i,if_pos d2];rw[j,k,g,show a+b-o+c=a+(b+c)-o by omega]
 ·by_cases d1:o<=b+c
  ·simp only[if_neg A,if_pos d1]
   have i:o<=a+b+c:=by omega
   have d2:¬o<=a+(b+c-o):=by omega
   simp only[if_pos i,if_neg d2];rw[u,v,B d1,show a+b+c-o=a+(b+c-o) by omega]
  ·simp only[if_neg A,if_neg d1]
   by_cases i:o<=a+b+c
   ·have d2:o<=a+(b+c):=by omega
    simp only[if_pos i,if_pos d2];rw[u,v,g,show a+b+c-o=a+(b+c)-o by omega]
   ·have d2:¬o<=a+(b+c):=by omega
    simp only[if_neg i,if_neg d2];rw[u,v,g,show a+b+c=a+(b+c) by omega]
theorem ExtOk.group (E:ExtOk S m e φ w o):GrpOn (ExS S o) (exm m φ w o) (0,e):=by
 have M:=E.grp.toMonOn;have i:=E.o2
 have b:MonOn (ExS S o) (exm m φ w o) (0,e):=by
  refine⟨E.exm_cl,⟨by show 0<o;omega,M.one⟩,E.exm_ass,?_,?_⟩
  ·rintro ⟨a,x⟩ ⟨ha,hx⟩
   simp only at ha hx;unfold exm;simp only[Nat.zero_add,if_neg (by omega:¬o<=a),E.ione,M.el x hx]
  ·rintro ⟨a,x⟩ ⟨ha,hx⟩
   simp only at ha hx;unfold exm;simp only[Nat.add_zero,if_neg (by omega:¬o<=a)];show(a,m x e)=(a,x)
   rw[M.er x hx]
 refine GrpOn.of_right b ?_;rintro⟨a,x⟩ ⟨ha,hx⟩;simp only at ha hx;by_cases g:a=0
 ·subst g
  obtain⟨y,hy,h1,_⟩:=E.grp.inv x hx;refine⟨(0,y),⟨by show 0<o;omega,hy⟩,?_⟩;unfold exm;simp only[Nat.add_zero,if_neg (by omega:¬o<=0)];show(0,m x y)=(0,e)
  rw[h1]
 ·obtain ⟨y,hy,h1,_⟩:=E.grp.inv _ (M.cl _ _ E.wS (E.icl (o-a) x hx))
  refine⟨(o-a,y),⟨by show o-a<o;omega,hy⟩,?_⟩;unfold exm;simp only[if_pos (by omega:o<=a+(o-a))];rw[<-M.ass _ _ _ E.wS (E.icl _ x hx) hy,h1,show a+(o-a)-o=0 by omega]
theorem GrpOn.carry {k:Type}{S':k->Prop}{p:k->k->k}{e':k}(G:GrpOn S m e) (f:α->k) (n:∀x,S x->S' (f x)) (g:∀y,S' y->∃x,S x/\f x=y) (q:f e=e')
  (j:∀x y,S x->S y->p (f x) (f y)=f (m x y)):GrpOn S' p e':=by
 subst q;refine⟨⟨?_,n e G.one,?_,?_,?_⟩,?_⟩
 ·intro x y hx hy
  obtain⟨a,ha,rfl⟩:=g x hx;obtain⟨b,i,rfl⟩:=g y hy;rw[j a b ha i];exact n _ (G.cl _ _ ha i)
 ·intro x y z hx hy r
  obtain⟨a,ha,rfl⟩:=g x hx;obtain⟨b,i,rfl⟩:=g y hy;obtain⟨c,l,rfl⟩:=g z r;rw[j a b ha i,j _ c (G.cl _ _ ha i) l,j b c i l,j a _ ha (G.cl _ _ i l),G.ass a b c ha i l]
 ·intro x hx
  obtain⟨a,ha,rfl⟩:=g x hx;rw[j e a G.one ha,G.el a ha]
 ·intro x hx
  obtain⟨a,ha,rfl⟩:=g x hx;rw[j a e ha G.one,G.er a ha]
 ·intro x hx
  obtain⟨a,ha,rfl⟩:=g x hx;obtain⟨b,i,h1,h2⟩:=G.inv a ha;exact⟨f b,n b i,by rw[j a b ha i,h1],by rw[j b a i ha,h2]⟩
end
end Go.Proofs.YtdcobapnlpeaaaaGreat
