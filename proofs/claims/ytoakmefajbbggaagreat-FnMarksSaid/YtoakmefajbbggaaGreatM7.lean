/- Merged from templates. -/
import Derived.Test.YtoakmefajbbggaaGreatM6
import Derived.Laws.BitsAllLaws
set_option maxRecDepth 100000
set_option maxHeartbeats 8000000
namespace Go.Proofs.YtoakmefajbbggaaGreat
open Go.RowKit
noncomputable def iC (P:Pr):Int:=if jH P=true then (if 32<eW P then 3 else 0) else 1
def uV (m:Nat):Value := .int .u64 (m:Int)
theorem iU.congr {κ ν : Type}{M:oh κ ν}{w:World}{b:Nat}{f e:κ -> ν}{m:Nat}(h:iU M w b f m) (i:∀a,f a=e a):iU M w b e m:=by
 have:f=e:=funext i;rw[<-this];exact h
theorem E4:Tryz.prog.underlying 142=some (.slice 40):=by kernel_rfl
theorem Tryz.E5:(Tryz.prog.info? 40).map (λi=>(i.zero,i.size,i.bytes))=some (some (.int .u64 0),1,8):=by kernel_rfl
theorem E3 {B:Nat}{w:World}{g n cap i:Nat}{M:List Nat}(h:fK B 40 w (.slice (some ⟨g,0,none⟩) n cap) (M.map uV)) (a:i<M.length):w.cell? ⟨g,i,none⟩=some (.int .u64 ((gt M i:Nat):Int)):=by
 have:=h.cell i (by rw[List.length_map];exact a);rw[this,jM _ _ _ a];rfl
theorem E2 {B:Nat}{w:World}{v:Value}{M:List Nat}(h:fK B 40 w v (M.map uV)) (a:0<M.length):∃g cap,v=.slice (some ⟨g,0,none⟩) M.length cap:=by
 rcases h.form with⟨_,b⟩|⟨g,cp,h1,_⟩
 ·rw[List.map_eq_nil_iff] at b;rw[b] at a;simp at a
 ·exact⟨g,cp,by rw[h1,List.length_map]⟩
theorem B8 {P:Pr}{H:List Int->Prop}(h:eW P<=32):gB P H<2 ^ 64:=
 Nat.lt_of_lt_of_le (Jz P H) (Nat.pow_le_pow_right (by decide) (by omega))
theorem pY (w:World) (a:Addr) (u:Value):w.grownBy (w.setCell a u) (some a.block):=
 ⟨rfl,rfl,rfl,by simp,λk _ hk=>heap_setCell_other w a k u (λe=>hk (by rw[e]))⟩
theorem Cc:Tryz.prog.underlying 26=some (.slice 25):=by kernel_rfl
theorem Tryz.Ce:(Tryz.prog.info? 25).map (λi=>(i.zero,i.size,i.bytes))=some (some (.slice none 0 0),1,24):=by kernel_rfl
theorem Lr (w:World):(Instr.makeMap 143 none).run Tryz.prog w=.ok (.map (some w.heap.size)) (w.alloc (.map #[] 0)):=by kernel_rfl
theorem Lu (w:World):(Instr.makeMap 147 none).run Tryz.prog w=.ok (.map (some w.heap.size)) (w.alloc (.map #[] 0)):=by kernel_rfl
theorem gN.Er {α:Type} [Inhabited α] {El:(Nat->Prop)->World->Value->α->Prop}(b:j8 El) {E B:Nat}{w:World}{u:Value}{y:α}(m:El (From B) w u y) (hB:B<=w.heap.size) :
  gN El E B (w.alloc (.cells #[u] E)) (.slice (some ⟨w.heap.size,0,none⟩) 1 1) [y]:=by
 have e:Ext w (w.alloc (.cells #[u] E)):=World.grownBy_alloc _ _ _;refine⟨[u],λ_ k=>B<=k/\k<w.heap.size,rfl,World.ownsRow_lit w #[u] 1 hB (by decide) rfl,?_,?_,?_⟩
 ·intro i k _ hk
  refine⟨hk.1,λh => ?_,?_⟩
  ·have:w.heap.size=k:=Option.some.inj h
   omega
  ·have:=e.size;omega
 ·intro i j k l p _ _
  simp at l p;omega
 ·intro i l
  have:i=0:=by simpa using l
  subst this;exact b.mono m (λk hk a=>⟨⟨hk,a⟩,Nat.lt_of_lt_of_le a e.size,e.block k a (by simp)⟩)
theorem Cg {l:Array Oper}{o:Oper}{a:Act}{K:Act->World->Prop}{Q:Exit->Act->World->Prop}{r:Prop}{w:World}(m:o.guard=none) (s x:Operand)
  (u:o.op=Op.call { callee:=Callee.builtin Builtin.append,args := #[s,x],argTypes := #[142,142] }) (B:Nat) (v:Value) (j:List Value) (y:Nat) (z:a.eval s=v) (b:World) (i:fK B 40 b v j)
  (A:w=b.alloc (.cells #[.int .u64 (y:Int)] 40)) (hx:a.eval x=.slice (some ⟨b.heap.size,0,none⟩) 1 1) (q:j.length<=1000000) (p:B<=b.heap.size)
  (h:∀k w',fK B 40 w' k (j++[uV y])->b.grownBy w' v.ownBlock->K (a.put o.dst k) w') :
  if Region.wanted o (yielded l a.tmps)=true then Oper.wp Tryz.prog o a w K Q else r:=by
 subst A;have e:Ext b (b.alloc (.cells #[.int .u64 (y:Int)] 40)):=World.grownBy_alloc _ _ _;refine vg 142 40 (.int .u64 0) 8 E4 Tryz.E5 rfl (by decide) m s x u B v j z (i.kept e (by cases D:v.ownBlock<;>simp)) b.heap.size (.int .u64 (y:Int)) hx (by rw[World.cell?_alloc_at _ _ _ _ rfl];rfl) rfl (by omega) (by have:=e.size;omega) ?_;intro k w' h1 C _;exact h k w' h1 (dy (fH _ e) C)
structure EY (B:Nat) (P:Pr) (w:World) (lb:Nat) (p:Value) (L:List (List (List Int))):Prop where
 lo:B<=lb
 ex:∃lv mv,fG w lb p lv mv/\gN (λF w u (x:List (List Int))=>gY F w u x) 25 B w lv L/\fK B 40 w mv (L.map λu=>uV (gC P u))
open Classical in
noncomputable def Ad (P:Pr):List (List (List Int)):=if h:∃L,jO P L then Classical.choose h else []
theorem LO {P:Pr}{L:List (List (List Int))}(h:jO P L):Ad P=L:=by
 have hx:∃L,jO P L:=⟨L,h⟩;unfold Ad;rw[dif_pos hx];exact jO.one (Classical.choose_spec hx) h
theorem qD {P:Pr}(h:iC P=0):jH P=true/\eW P<=32:=by
 unfold iC at h;cases a:jH P with
 | false=>rw[a] at h;simp at h
 | true=>
  rw[a] at h;simp only[if_true] at h;refine⟨rfl,?_⟩;split at h<;>omega
section
variable {P:Pr}(G:ez P)
include G
theorem ez.zZ {u v:List (List Int)}(a:fO P u) (b:fO P v) (h:gC P u=gC P v):u=v:=by
 have:=G.DV (G.gG a) (G.gG b) h;rw[a.2,b.2,this]
theorem ez.zQ (i:eW P<=32) {L:List (List (List Int))}(h:jO P L):L.length<=17408:=by
 have k:(L.map (gC P)).Nodup:=by
  refine List.nodup_iff_pairwise_ne.2 ?_;rw[List.pairwise_map];refine h.1.imp_of_mem (λ{a b} ha l j e => ?_);have:=G.zZ ((h.2 a).1 ha) ((h.2 b).1 l) e;subst this;exact x6 j
 have:=G.Ax i k (λm p=>by
  obtain⟨u,q,rfl⟩:=List.mem_map.1 p;exact⟨_,G.gG ((h.2 u).1 q),rfl⟩)
 rwa [List.length_map] at this
theorem ez.LQ {L:List (List (List Int))}(h:jO P L):∀u∈L,u.length<=6/\∀x∈u,x.length<=6:=λu b=>by
 have a:=(h.2 u).1 b;have:=G.lz a;have:=G.v.n6;exact⟨by omega,λx hx=>by rw[(a.1 x hx).1];omega⟩
end
noncomputable def jo (P:Pr) (u:List (List Int)) (x:List Int):List (List Int):=fD P (gi P (λz=>z∈gW P u x))
abbrev gP (P:Pr) (u:List (List Int)):List Int->Prop:=gi P (λz=>z∈u)
def lY (P:Pr) (m t a:Nat):Nat->Nat
 | 0=>0
 | k+1=>if m.testBit k then lY P m t a k ||| 2 ^ tb P (tb P a k) t else lY P m t a k
theorem Bz (P:Pr) (m t a:Nat):∀k y,(lY P m t a k).testBit y=true↔∃x,x<k/\m.testBit x=true/\tb P (tb P a x) t=y
 | 0,y=>by simp[lY]
 | k + 1,y=>by
  unfold lY;by_cases b:m.testBit k=true
  ·rw [if_pos b,Nat.testBit_or,Bool.or_eq_true,Bz P m t a k y,qU,decide_eq_true_iff]
   constructor
   ·rintro (⟨x,h1,h2,h3⟩|h)
    ·exact⟨x,by omega,h2,h3⟩
    ·exact⟨k,by omega,b,h⟩
   ·rintro ⟨x,h1,h2,h3⟩
    rcases Nat.lt_succ_iff_lt_or_eq.1 h1 with h|h
    ·exact .inl ⟨x,h,h2,h3⟩
    ·subst h;exact .inr h3
  ·rw [if_neg b,Bz P m t a k y]
   constructor
   ·rintro⟨x,h1,h2,h3⟩;exact⟨x,by omega,h2,h3⟩
   ·rintro ⟨x,h1,h2,h3⟩
    rcases Nat.lt_succ_iff_lt_or_eq.1 h1 with h|h
    ·exact⟨x,h,h2,h3⟩
    ·subst h;exact absurd h2 b
section
variable {P:Pr}(G:ez P)
include G
theorem ez.Sq {u:List (List Int)}(a:fO P u) {x:List Int}(hx:dL P.orders x):gi P (λz=>z∈gW P u x)=jT P (gP P u) x:=by
 have h:=G.FT (G.gG a) hx;rw[<-a.2] at h;exact h
theorem ez.sy {u:List (List Int)}(a:fO P u) {x:List Int}(hx:dL P.orders x):jo P u x=fD P (jT P (gP P u) x):=by
 unfold jo;rw[G.Sq a hx]
theorem ez.zW {u:List (List Int)}(a:fO P u) {x:List Int}(hx:dL P.orders x):fO P (jo P u x):=by
 rw[G.sy a hx];exact G.r8 (G.sx (G.gG a) hx)
theorem ez.Ss {u:List (List Int)}(a:fO P u) {x:List Int}(hx:dL P.orders x):gP P (jo P u x)=jT P (gP P u) x:=by
 rw[G.sy a hx];exact G.oC (G.sx (G.gG a) hx)
theorem ez.Sw {u:List (List Int)}(a:fO P u) {x:List Int}(hx:dL P.orders x):gC P (jo P u x)=gB P (jT P (gP P u) x):=by
 rw[G.sy a hx];exact G.Cf (G.sx (G.gG a) hx)
theorem ez.K3 {u:List (List Int)}(k:fO P u) {t e:Nat}(l:t<(eW P).toNat) (q:e<(eW P).toNat) (r:fF P (e:Int)=gj P (fF P (t:Int))) :
  lY P (gC P u) t e (eW P).toNat=gC P (jo P u (fF P (t:Int))):=by
 have j:=G.kD l;rw[G.Sw k j];have S:=G.gG k
 have b:∀x,x<(eW P).toNat->tb P (tb P e x) t<(eW P).toNat/\fF P ((tb P (tb P e x) t:Nat):Int)=fW P (fF P (x:Int)) (fF P (t:Int)):=λx hx=>by
  have h1:=G.nI q hx;have a:=G.nI h1.1 l;refine⟨a.1,?_⟩;rw[a.2,h1.2,r];unfold fW;exact G.fS.ass _ _ _ (G.invV j) (G.kD hx) j
 refine zu (λy hy => ?_) (λy hy => ?_)
 ·rw [Bz]
  constructor
  ·rintro ⟨x,h1,a,m⟩
   have i:=(b x h1).2;rw[m] at i;exact⟨fF P (x:Int),(nH h1).1 a,i⟩
  ·rintro ⟨z,p,Sz⟩
   obtain⟨h1,a⟩:=G.kE (S.vec z p);refine⟨(num P z).toNat,h1,(nH h1).2 (by rw[a];exact p),?_⟩;have i:=b _ h1;rw[a,<-Sz] at i;have w:=congrArg (λz=>(num P z).toNat) i.2;have A:=G.qV i.1;have B:=G.qV hy;omega
 ·rw [Bool.eq_false_iff]
  intro h;obtain⟨x,h1,a,m⟩:=(Bz P _ t e _ y).1 h;have:=(b x h1).1;omega
theorem ez.SA {K:List Int->Prop}(S:Sub P K):jT P K (zeros P.orders.length)=K:=
 funext λx=>propext ⟨λ⟨y,hy,e⟩=>by rw[e,G.uY (S.vec y hy)];exact hy,λh=>⟨x,h,(G.uY (S.vec x h)).symm⟩⟩
theorem ez.SB {K:List Int->Prop}(S:Sub P K) {g h:List Int}(b:dL P.orders g) (e:dL P.orders h):jT P (jT P K g) h=jT P K (fC P g h):=by
 refine funext λx=>propext ⟨?_,?_⟩
 ·rintro ⟨y,⟨z,a,rfl⟩,rfl⟩
  exact⟨z,a,by rw[G.uZ (S.vec z a) b e]⟩
 ·rintro ⟨z,a,rfl⟩
  exact⟨_,⟨z,a,rfl⟩,by rw[G.uZ (S.vec z a) b e]⟩
theorem ez.MB {u:List (List Int)}(a:fO P u):jo P u (zeros P.orders.length)=u:=by
 rw[G.sy a G.jP,G.SA (G.gG a)];exact a.2.symm
theorem ez.FV {u:List (List Int)}(a:fO P u) {g h:List Int}(b:dL P.orders g) (e:dL P.orders h):jo P (jo P u g) h=jo P u (fC P g h):=by
 rw[G.sy (G.zW a b) e,G.Ss a b,G.SB (G.gG a) b e,<-G.sy a (G.gz b e)]
end
open Classical in
noncomputable def jg (P:Pr) (u:List (List Int)) (S:List (List (List Int))):Nat->List (List (List Int)) × Nat
 | 0=>(S,0)
 | t+1=>if jo P u (fF P (t:Int))∈(jg P u S t).1 then jg P u S t else ((jg P u S t).1++[jo P u (fF P (t:Int))],(jg P u S t).2+1)
theorem zV {P:Pr}{u:List (List Int)}{S:List (List (List Int))}{t:Nat}(h:jo P u (fF P (t:Int))∈(jg P u S t).1):jg P u S (t+1)=jg P u S t:=by
 rw[jg,if_pos h]
theorem zU {P:Pr}{u:List (List Int)}{S:List (List (List Int))}{t:Nat}(h:¬jo P u (fF P (t:Int))∈(jg P u S t).1) :
  jg P u S (t+1)=((jg P u S t).1++[jo P u (fF P (t:Int))],(jg P u S t).2+1):=by
 rw[jg,if_neg h]
theorem B5 (P:Pr) (u:List (List Int)) (S:List (List (List Int))):∀t,(jg P u S t).2<=t
 | 0=>Nat.le_refl _
 | t + 1=>by
  have:=B5 P u S t;unfold jg;split
  ·omega
  ·show (jg P u S t).2+1<=t+1
   omega
structure BA (P:Pr) (S:List (List (List Int))):Prop where
 sub:∀v∈S,fO P v
 one:S.Nodup
theorem ez.zT {P:Pr}(G:ez P) {u:List (List Int)}(k:fO P u) {S:List (List (List Int))}(l:BA P S):∀t,t<=(eW P).toNat->BA P (jg P u S t).1
 | 0,_=>l
 | t + 1,ht=>by
  have j:=ez.zT G k l t (by omega);by_cases h:jo P u (fF P (t:Int))∈(jg P u S t).1
  ·rw[zV h];exact j
  ·rw [zU h]
   refine⟨λv i => ?_,?_⟩
   ·rcases List.mem_append.1 i with i|i
    ·exact j.sub v i
    ·rw[List.mem_singleton.1 i];exact G.zW k (G.kD (by omega))
   ·rw [List.nodup_append]
    exact⟨j.one,by simp,λa ha b m e=>h (by rw[List.mem_singleton.1 m] at e;rw[<-e];exact ha)⟩
theorem FX (P:Pr) (u:List (List Int)) (S:List (List (List Int))):∀t v,v∈(jg P u S t).1↔v∈S\/∃j,j<t/\v=jo P u (fF P (j:Int))
 | 0,v=>by simp[jg]
 | t + 1,v=>by
  have e:=FX P u S t;by_cases h:jo P u (fF P (t:Int))∈(jg P u S t).1
  ·rw [zV h,e v]
   constructor
   ·rintro (h1|⟨j,h1,a⟩)
    ·exact .inl h1
    ·exact .inr ⟨j,by omega,a⟩
   ·rintro (h1|⟨j,h1,a⟩)
    ·exact .inl h1
    ·rcases Nat.lt_succ_iff_lt_or_eq.1 h1 with b|b
     ·exact .inr ⟨j,b,a⟩
     ·subst b;rw[a];exact(e _).1 h
  ·rw [zU h,List.mem_append,e v,List.mem_singleton]
   constructor
   ·rintro ((h1|⟨j,h1,a⟩)|h1)
    ·exact .inl h1
    ·exact .inr ⟨j,by omega,a⟩
    ·exact .inr ⟨t,by omega,h1⟩
   ·rintro (h1|⟨j,h1,a⟩)
    ·exact .inl (.inl h1)
    ·rcases Nat.lt_succ_iff_lt_or_eq.1 h1 with b|b
     ·exact .inl (.inr ⟨j,b,a⟩)
     ·subst b;exact .inr a
theorem ez.zR {P:Pr}(G:ez P) (j:eW P<=32) {S:List (List (List Int))}(i:BA P S):S.length<=17408:=by
 have l:(S.map (gC P)).Nodup:=by
  refine List.nodup_iff_pairwise_ne.2 ?_;rw[List.pairwise_map];refine(List.nodup_iff_pairwise_ne.1 i.one).imp_of_mem (λ{a b} ha p k e=>k (G.zZ (i.sub a ha) (i.sub b p) e))
 have:=G.Ax j l (λm q=>by
  obtain⟨u,r,rfl⟩:=List.mem_map.1 q;exact⟨_,G.gG (i.sub u r),rfl⟩)
 rwa [List.length_map] at this
structure Fb where
 seen:List (List (List Int))
 firsts:List (List (List Int))
 sizes:List Nat
open Classical in
noncomputable def gH (P:Pr) (L:List (List (List Int))):Nat->Fb
 | 0=>⟨[],[],[]⟩
 | k + 1=>if gt L k∈(gH P L k).seen then gH P L k else
   ⟨(jg P (gt L k) (gH P L k).seen (eW P).toNat).1,(gH P L k).firsts++[gt L k],(gH P L k).sizes++[(jg P (gt L k) (gH P L k).seen (eW P).toNat).2]⟩
theorem sj {P:Pr}{L:List (List (List Int))}{k:Nat}(h:gt L k∈(gH P L k).seen):gH P L (k+1)=gH P L k:=by rw[gH,if_pos h]
theorem rj {P:Pr}{L:List (List (List Int))}{k:Nat}(h:¬gt L k∈(gH P L k).seen) :
  gH P L (k+1)=⟨(jg P (gt L k) (gH P L k).seen (eW P).toNat).1,(gH P L k).firsts++[gt L k],(gH P L k).sizes++[(jg P (gt L k) (gH P L k).seen (eW P).toNat).2]⟩:=by rw[gH,if_neg h]
theorem ez.B3 {P:Pr}(G:ez P) {L:List (List (List Int))}(a:∀u∈L,fO P u):∀k,k<=L.length->BA P (gH P L k).seen
 | 0,_=>⟨λv (h:v∈[])=>(by cases h),(List.nodup_nil:([]:List (List (List Int))).Nodup)⟩
 | k+1,hk=>by
  have b:=ez.B3 G a k (by omega);by_cases h:gt L k∈(gH P L k).seen
  ·rw[sj h];exact b
  ·rw[rj h];exact G.zT (a _ (iW (by omega))) b _ (Nat.le_refl _)
theorem xM (P:Pr) (L:List (List (List Int))):∀k,(gH P L k).firsts.length<=k/\(gH P L k).sizes.length=(gH P L k).firsts.length
 | 0=>⟨Nat.le_refl _,rfl⟩
 | k + 1=>by
  obtain⟨h1,h2⟩:=xM P L k;by_cases h:gt L k∈(gH P L k).seen
  ·rw[sj h];exact⟨by omega,h2⟩
  ·rw [rj h]
   simp only[List.length_append,List.length_singleton];omega
theorem Af (P:Pr) {L:List (List (List Int))} : ∀ {k:Nat},k<=L.length->∀u∈(gH P L k).firsts,u∈L
 | 0,_,u,h=>by cases h
 | k + 1,hk,u,a=>by
  by_cases h:gt L k∈(gH P L k).seen
  ·rw[sj h] at a;exact Af P (by omega) u a
  ·rw [rj h] at a
   rcases List.mem_append.1 a with a|a
   ·exact Af P (by omega) u a
   ·rw[List.mem_singleton.1 a];exact iW (by omega)
theorem SC:∀ {xs b:List Int},(∀a∈xs,0<=a/\a<256)->(∀a∈b,0<=a/\a<256)->strOfNums xs=strOfNums b->xs=b:=by
 intro xs b hx hy h
 have h1:xs.map (λn=>UInt8.ofNat n.toNat)=b.map (λn=>UInt8.ofNat n.toNat):=by
  rw[<-strOfNums_data,<-strOfNums_data,h]
 have key:∀ {xs b:List Int},(∀a∈xs,0<=a/\a<256)->(∀a∈b,0<=a/\a<256)->xs.map (λn=>UInt8.ofNat n.toNat)=b.map (λn=>UInt8.ofNat n.toNat)->xs=b:=by
  intro xs;induction xs with
  | nil=>intro b _ _ h;cases b with
   | nil=>rfl
   | cons=>simp at h
  | cons x xs e=>
   intro b hx hy h;cases b with
   | nil=>simp at h
   | cons y b=>
    simp only[List.map_cons,List.cons.injEq] at h;obtain⟨a1,a2⟩:=hx x (List.mem_cons_self ..);obtain⟨b1,b2⟩:=hy y (List.mem_cons_self ..);have i:=congrArg UInt8.toNat h.1;rw[UInt8.toNat_ofNat',UInt8.toNat_ofNat',Nat.mod_eq_of_lt (by omega),Nat.mod_eq_of_lt (by omega)] at i;rw[show x=y by omega,e (λa ha=>hx a (List.mem_cons_of_mem _ ha)) (λa ha=>hy a (List.mem_cons_of_mem _ ha)) h.2]
 exact key hx hy h1
theorem JK {u:List (List Int)}(h:∀x∈u,∀e∈x,0<=e/\e<256):∀a∈nV u,0<=a/\a<256:=by
 intro a ha;unfold nV at ha;obtain⟨r,hr,b⟩:=List.mem_flatten.1 ha;obtain⟨x,hx,rfl⟩:=List.mem_map.1 hr;rcases List.mem_append.1 b with h1|h1
 ·exact h x hx a h1
 ·simp at h1;omega
theorem SD {x y:List Int}(h:pS x=pS y):x=y:=List.append_cancel_right h
theorem SE {n:Nat}{u v:List (List Int)}(b:∀x∈u,x.length=n/\∀e∈x,0<=e/\e<256) (i:∀x∈v,x.length=n/\∀e∈x,0<=e/\e<256) (h:jG u=jG v):u=v:=by
 have h1:=SC (JK λx hx=>(b x hx).2) (JK λx hx=>(i x hx).2) h
 have j:u.map pS=v.map pS:=DY (n:=n+1) (by omega)
  (λr a=>by obtain⟨x,hx,rfl⟩:=List.mem_map.1 a;simp[pS,(b x hx).1])
  (λr a=>by obtain⟨x,hx,rfl⟩:=List.mem_map.1 a;simp[pS,(i x hx).1]) h1
 have key:∀ {u v:List (List Int)},u.map pS=v.map pS->u=v:=by
  intro u;induction u with
  | nil=>intro v h;cases v with
   | nil=>rfl
   | cons=>simp at h
  | cons x u k=>
   intro v h;cases v with
   | nil=>simp at h
   | cons y v=>
    simp only[List.map_cons,List.cons.injEq] at h;rw[SD h.1,k h.2]
 exact key j
theorem xK {P:Pr}(hP:Valid P) {x:List Int}(hx:dL P.orders x):x.length=P.orders.length/\∀e∈x,0<=e/\e<256:=by
 refine⟨hx.1,λe b => ?_⟩;obtain⟨i,a,rfl⟩:=List.getElem_of_mem b;have h1:=hx.2 i (by rw[<-hx.1];exact a);rw[<-gM _ _ a];have j:=hP.gh i (by rw[<-hx.1];exact a);omega
theorem EE {P:Pr}(hP:Valid P) {u v:List (List Int)}(a:fO P u) (b:fO P v) (h:jG u=jG v):u=v:=
 SE (λx hx=>xK hP (a.1 x hx)) (λx hx=>xK hP (b.1 x hx)) h
theorem KR {E:Array Oper}{rest:List Oper}{o:Oper}{a:Act}{Q:Exit->Act->World->Prop}{w:World}(K:o.guard=none) (s x:Operand)
  (X:o.op=Op.call { callee:=Callee.builtin Builtin.append,args := #[s,x],argTypes := #[26,26] }) (B:Nat) (A A' F:Nat->Prop) (w0:World) (v u:Value) (xs:List (List (List Int))) (y:List (List Int)) (Y:a.eval s=v)
  (b:gT (λF w u (x:List (List Int))=>gY F w u x) 25 B A w0 v xs) (R:gY F w0 u y) (hF:∀k,F k->k<w0.heap.size->A k/\B<=k) (H:∀k,A' k->A k/\¬F k) (L:∀k,A k->k<w0.heap.size) (Z:w=w0.alloc (.cells #[u] 25))
  (hx:a.eval x=.slice (some ⟨w0.heap.size,0,none⟩) 1 1) (S:xs.length<=1000000) (M:B<=w0.heap.size)
  (h:∀q w',gT (λF w u (x:List (List Int))=>gY F w u x) 25 B A' w' q (xs++[y])->w0.grownBy w' v.ownBlock->(q.ownBlock=v.ownBlock\/∀k,q.ownBlock=some k->w0.heap.size<=k)->wpList Tryz.prog E Q rest (a.put o.dst q) w') :
  wpList Tryz.prog E Q (o :: rest) a w:=by
 subst Z;obtain⟨T,G,r,hO,U,hd,hE,N,hr2⟩:=b;have z:Ext w0 (w0.alloc (.cells #[u] 25)):=World.grownBy_alloc _ _ _;refine nX 26 25 (.slice none 0 0) 24 Cc Tryz.Ce rfl (by decide) K s x X B v T Y (hO.kept z (by cases hv:v.ownBlock<;>simp)) (some ⟨w0.heap.size,0,none⟩) 1 1 [u] hx rfl (by simp) ?_ ?_ (by simp;omega) (by have:=z.size;omega) ?_
 ·intro j V
  have:j=0:=by omega
  subst this;exact⟨_,_,rfl,by rw[World.cell?_alloc_at _ _ _ _ rfl];rfl⟩
 ·intro u' I
  simp at I;subst I;exact lX.one R
 ·intro q w' k1 k2 _ W
  have C:w0.grownBy w' v.ownBlock:=dy (fH _ z) k2
  have D:q.ownBlock=v.ownBlock\/∀k,q.ownBlock=some k->w0.heap.size<=k:=by
   rcases W with h|h
   ·exact .inl h
   ·refine .inr (λk hk => ?_)
    rw[h] at hk;have:(w0.alloc (.cells #[u] 25)).heap.size=k:=by simpa using hk
    simp at this
    omega
  have b:∀k,q.ownBlock=some k->v.ownBlock=some k\/w0.heap.size<=k:=λk hk=>by
   rcases W with h|h
   ·exact .inl (by rw[<-h];exact hk)
   ·rw [h] at hk
    have:(w0.alloc (.cells #[u] 25)).heap.size=k:=by simpa using hk
    simp at this
    exact .inr (by omega)
  refine h q w' ⟨T++[u],λi k=>if i<xs.length then G i k else F k/\k<w0.heap.size,by simp[r],k1,?_,?_,?_,?_,?_⟩ C D
  ·intro i k J hk
   split at hk
   ·rename_i l
    obtain⟨a1,a2,a3⟩:=U i k l hk;exact⟨a1,λe=>(b k e).elim a2 (λh=>by omega),Nat.lt_of_lt_of_le a3 C.size⟩
   ·obtain ⟨b1,b2⟩:=hF k hk.1 hk.2
    exact⟨b2,λe=>(b k e).elim (λh=>hr2 k h b1) (λh=>by have:=hk.2;omega),Nat.lt_of_lt_of_le hk.2 C.size⟩
  ·intro i j k J V hk p
   simp only[List.length_append,List.length_singleton] at J V;split at hk<;>split at p
   ·exact hd i j k (by assumption) (by assumption) hk p
   ·exact absurd (hF k p.1 p.2).1 (N i k (by assumption) hk)
   ·exact absurd (hF k hk.1 hk.2).1 (N j k (by assumption) p)
   ·omega
  ·intro i J
   simp only[List.length_append,List.length_singleton] at J;by_cases l:i<xs.length
   ·rw [iX _ _ _ (by omega),iX _ _ _ l]
    simp only[if_pos l];exact lX.mono (hE i l) (λk hk m=>⟨hk,Nat.lt_of_lt_of_le m C.size,C.block k m (λe=>(U i k l hk).2.1 e.symm)⟩)
   ·have O:i=xs.length:=by omega
    subst O;rw[kr,<-r,kr];simp only[r,Nat.lt_irrefl,if_false];exact lX.mono R (λk hk m=>⟨⟨hk,m⟩,Nat.lt_of_lt_of_le m C.size,C.block k m (λe=>hr2 k e.symm (hF k hk m).1)⟩)
  ·intro i k J hk ha
   obtain⟨c1,c2⟩:=H k ha;split at hk
   ·rename_i l;exact N i k l hk c1
   ·exact c2 hk.1
  ·intro k hk ha
   obtain⟨c1,_⟩:=H k ha;rcases b k hk with h|h
   ·exact hr2 k h c1
   ·have:=L k c1;omega
theorem tk {P:Program}{b:Array Oper}{Q:Exit->Act->World->Prop}{k:Region.Mode}{S:World->Prop}{j:Oper}{v:Value}{e:Nat}{l p:Array Bool}{a a':Act}{w:World}(i:Nat)
  (h:wpAnyH P k b Q S e p a' w)
  (q:b[i]? = some j:=by rfl) (r:Region.noSelect b=true:=by kernel_rfl) (u:Region.free k b l i=true:=by kernel_rfl) (y:(Region.ready k b l).contains i=true:=by kernel_rfl)
  (z:Region.wanted j (yielded b a.tmps)=true:=by rfl)
  (hy:∀w,S w->(execOp a.eval j).run P w=.ok (.value v) w:=by (intro w m;(try dsimp only at m);go_simp;try with_reducible rfl))
  (A:l.setIfInBounds i true=p:=by (first|(simp only[List.setIfInBounds_toArray,List.set_cons_zero,List.set_cons_succ];rfl)|rfl))
  (ha:a.put j.dst v=a':=by (first|(simp only[Act.put,List.getElem_toArray,List.getElem_cons_succ,List.getElem_cons_zero,List.setIfInBounds_toArray,List.set_cons_zero,List.set_cons_succ];rfl)|rfl))
  (B:∀c a w,Q (.panic c) (a.put j.dst v) w->Q (.panic c) a w:=by (intro _ _ _ h;exact h)) (C:S w:=by assumption):wpAnyH P k b Q S (e+1) l a w:=by
 subst A ha;exact wpAnyH_take q r u y B (Or.inl ⟨z,hy⟩) C h
theorem uq {P:Program}{b:Array Oper}{Q:Exit->Act->World->Prop}{j:Region.Mode}{S:World->Prop}{k:Oper}{e:Nat}{l m:Array Bool}{a a':Act}{w:World}(i:Nat)
  (h:wpAnyH P j b Q S e m a' w)
  (p:b[i]? = some k:=by rfl) (q:Region.noSelect b=true:=by kernel_rfl) (r:Region.free j b l i=true:=by kernel_rfl) (u:(Region.ready j b l).contains i=true:=by kernel_rfl)
  (y:Region.wanted k (yielded b a.tmps)=false:=by rfl)
  (z:l.setIfInBounds i true=m:=by (first|(simp only[List.setIfInBounds_toArray,List.set_cons_zero,List.set_cons_succ];rfl)|rfl))
  (ha:a.put k.dst undef=a':=by (first|(simp only[Act.put,List.getElem_toArray,List.getElem_cons_succ,List.getElem_cons_zero,List.setIfInBounds_toArray,List.set_cons_zero,List.set_cons_succ];rfl)|rfl))
  (A:∀c a w,Q (.panic c) (a.put k.dst undef) w->Q (.panic c) a w:=by (intro _ _ _ h;exact h)) (B:S w:=by assumption):wpAnyH P j b Q S (e+1) l a w:=by
 subst z ha;exact wpAnyH_take p q r u A (Or.inr ⟨y,rfl⟩) B h
theorem iK {P:Program}{b:Array Oper}{Q:Exit->Act->World->Prop}{j:Region.Mode}{S:World->Prop}{o:Oper}{e:Nat}{l k:Array Bool}{a:Act}{w:World}(i:Nat)
  (h:∀K':Act->World->Prop,Shut (∀a w,S w->(S w->wpAnyH P j b Q S e k a w)->K' a w)->if Region.wanted o (yielded b a.tmps)=true then Oper.wp P o a w K' Q else K' (a.put o.dst undef) w)
  (m:Region.ready j b l=[i]:=by kernel_rfl) (p:b[i]? = some o:=by rfl)
  (q:l.setIfInBounds i true=k:=by (first|(simp only[List.setIfInBounds_toArray,List.set_cons_zero,List.set_cons_succ];rfl)|rfl)):wpAnyH P j b Q S (e+1) l a w:=by
 subst q;exact wpAnyH_ready m (by simp) (AllReadyH.cons p h AllReadyH.nil)
theorem qC {P:Program}{b:Array Oper}{Q:Exit->Act->World->Prop}{k:Region.Mode}{S:World->Prop}{o o2:Oper}{e:Nat}{l q r:Array Bool}{a:Act}{w:World}(i j:Nat)
  (h:∀K':Act->World->Prop,Shut (∀a w,S w->(S w->wpAnyH P k b Q S e q a w)->K' a w)->if Region.wanted o (yielded b a.tmps)=true then Oper.wp P o a w K' Q else K' (a.put o.dst undef) w)
  (u:∀K':Act->World->Prop,Shut (∀a w,S w->(S w->wpAnyH P k b Q S e r a w)->K' a w)->if Region.wanted o2 (yielded b a.tmps)=true then Oper.wp P o2 a w K' Q else K' (a.put o2.dst undef) w)
  (y:Region.ready k b l=[i,j]:=by kernel_rfl) (z:b[i]? = some o:=by rfl) (m:b[j]? = some o2:=by rfl)
  (A:l.setIfInBounds i true=q:=by (first|(simp only[List.setIfInBounds_toArray,List.set_cons_zero,List.set_cons_succ];rfl)|rfl))
  (p:l.setIfInBounds j true=r:=by (first|(simp only[List.setIfInBounds_toArray,List.set_cons_zero,List.set_cons_succ];rfl)|rfl)):wpAnyH P k b Q S (e+1) l a w:=by
 subst A p;exact wpAnyH_ready y (by simp) (AllReadyH.cons z h (AllReadyH.cons m u AllReadyH.nil))
theorem ko {P:Program}{e:Array Oper}{Q:Exit->Act->World->Prop}{i:Region.Mode}{S:World->Prop}{b:Nat}{l:Array Bool}{a a':Act}{w:World}{K:Act->World->Prop}
  (j:Shut (∀a w,S w->(S w->wpAnyH P i e Q S b l a w)->K a w)) (k:S w) (h:S w->wpAnyH P i e Q S b l a' w)
  (ha:a=a':=by (first|(simp only[Act.put,List.getElem_toArray,List.getElem_cons_succ,List.getElem_cons_zero,List.setIfInBounds_toArray,List.set_cons_zero,List.set_cons_succ];rfl)|rfl)):K a w:=by
 subst ha;exact j.out _ _ k h
theorem tE (T E:Nat) (z:Value) (bytes:Nat) (C:Tryz.prog.underlying T=some (.slice E)) (D:(Tryz.prog.info? E).map (λi=>(i.zero,i.size,i.bytes))=some (some z,1,bytes))
  (q:z.cells.size=1) (r:bytes<=64) {k:Array Oper}{rest:List Oper}{o:Oper}{a:Act}{Q:Exit->Act->World->Prop}{w:World}(y:o.guard=none) (s x:Operand)
  (F:o.op=Op.call { callee:=Callee.builtin Builtin.append,args := #[s,x],argTypes := #[T,T] }) (base:Nat) (b:World) (v u:Value) (xs:List Value) (G:a.eval s=v) (l:fK base E b v xs)
  (H:w=b.alloc (.cells #[u] E)) (I:u.oneCell'=true) (hx:a.eval x=.slice (some ⟨b.heap.size,0,none⟩) 1 1) (B:xs.length<=1000000) (A:base<=b.heap.size)
  (h:∀p w',fK base E w' p (xs++[u])->b.grownBy w' v.ownBlock->wpList Tryz.prog k Q rest (a.put o.dst p) w') :
  wpList Tryz.prog k Q (o :: rest) a w:=by
 subst H;have e:Ext b (b.alloc (.cells #[u] E)):=World.grownBy_alloc _ _ _;refine nX T E z bytes C D q r y s x F base v xs G (l.kept e (by cases K:v.ownBlock<;>simp)) (some ⟨b.heap.size,0,none⟩) 1 1 [u] hx rfl (by simp) ?_ ?_ (by omega) (by have:=e.size;omega) ?_
 ·intro j L
  have:j=0:=by omega
  subst this;exact⟨_,_,rfl,by rw[World.cell?_alloc_at _ _ _ _ rfl];rfl⟩
 ·intro M m
  simp at m;subst m;exact I
 ·intro p w' h1 J _ _
  exact h p w' h1 (dy (fH _ e) J)
theorem qB {i:Array Oper}{rest:List Oper}{o:Oper}{a:Act}{Q:Exit->Act->World->Prop}{w:World}(p:o.guard=none) (s x:Operand)
  (q:o.op=Op.call { callee:=Callee.builtin Builtin.append,args := #[s,x],argTypes := #[24,24] }) (B:Nat) (v:Value) (l:List Int) (y:Int) (r:a.eval s=v) (e:World) (j:Own B e v l)
  (u:w=e.alloc (.cells #[.int .i64 y] 2)) (hx:a.eval x=.slice (some ⟨e.heap.size,0,none⟩) 1 1) (k:l.length<=1000000) (b:B<=e.heap.size)
  (h:∀m w',Own B w' m (l++[y])->e.grownBy w' v.ownBlock->wpList Tryz.prog i Q rest (a.put o.dst m) w') :
  wpList Tryz.prog i Q (o :: rest) a w:=
 tE 24 2 (.int .i64 0) 8 qz Tryz.pV rfl (by decide) p s x q B e v (.int .i64 y) (l.map (Value.int .i64)) r j.v u rfl hx (by rw[List.length_map];exact k) b
  (λm w' h1 z=>h m w' (Own.of (by rw[List.map_append];exact h1)) z)
theorem SF (T E:Nat) (z:Value) (bytes:Nat) (F:Tryz.prog.underlying T=some (.slice E)) (G:(Tryz.prog.info? E).map (λi=>(i.zero,i.size,i.bytes))=some (some z,1,bytes))
  (y:z.cells.size=1) (A:bytes<=64) {p:Array Oper}{rest:List Oper}{o:Oper}{a:Act}{Q:Exit->Act->World->Prop}{w:World}(B:o.guard=none) (s x:Operand)
  (H:o.op=Op.call { callee:=Callee.builtin Builtin.append,args := #[s,x],argTypes := #[T,T] }) (base:Nat) (b:World) (v u:Value) (xs:List Value) (I:a.eval s=v) (q:fK base E b v xs)
  (J:w=b.alloc (.cells #[u] E)) (K:u.oneCell'=true) (hx:a.eval x=.slice (some ⟨b.heap.size,0,none⟩) 1 1) (D:xs.length<=1000000) (C:base<=b.heap.size)
  (h:∀m w',fK base E w' m (xs++[u])->b.grownBy w' v.ownBlock->(m.ownBlock=v.ownBlock\/∀k,m.ownBlock=some k->b.heap.size<=k)->wpList Tryz.prog p Q rest (a.put o.dst m) w') :
  wpList Tryz.prog p Q (o :: rest) a w:=by
 subst J;have l:Ext b (b.alloc (.cells #[u] E)):=World.grownBy_alloc _ _ _;refine nX T E z bytes F G y A B s x H base v xs I (q.kept l (by cases N:v.ownBlock<;>simp)) (some ⟨b.heap.size,0,none⟩) 1 1 [u] hx rfl (by simp) ?_ ?_ (by omega) (by have:=l.size;omega) ?_
 ·intro j O
  have:j=0:=by omega
  subst this;exact⟨_,_,rfl,by rw[World.cell?_alloc_at _ _ _ _ rfl];rfl⟩
 ·intro R r
  simp at r;subst r;exact K
 ·intro m w' h1 L _ M
  exact h m w' h1 (dy (fH _ l) L) (M.elim .inl (λe => .inr (λk hk=>by rw[e] at hk;cases hk;exact l.size)))
theorem Gq {j:Array Oper}{rest:List Oper}{o:Oper}{a:Act}{Q:Exit->Act->World->Prop}{w:World}(q:o.guard=none) (s x:Operand)
  (r:o.op=Op.call { callee:=Callee.builtin Builtin.append,args := #[s,x],argTypes := #[24,24] }) (B:Nat) (v:Value) (l:List Int) (y:Int) (u:a.eval s=v) (b:World) (m:Own B b v l)
  (z:w=b.alloc (.cells #[.int .i64 y] 2)) (hx:a.eval x=.slice (some ⟨b.heap.size,0,none⟩) 1 1) (p:l.length<=1000000) (e:B<=b.heap.size)
  (h:∀i w',Own B w' i (l++[y])->b.grownBy w' v.ownBlock->(i.ownBlock=v.ownBlock\/∀k,i.ownBlock=some k->b.heap.size<=k)->wpList Tryz.prog j Q rest (a.put o.dst i) w') :
  wpList Tryz.prog j Q (o :: rest) a w:=
 SF 24 2 (.int .i64 0) 8 qz Tryz.pV rfl (by decide) q s x r B b v (.int .i64 y) (l.map (Value.int .i64)) u m.v z rfl hx (by rw[List.length_map];exact p) e
  (λi w' h1 A C=>h i w' (Own.of (by rw[List.map_append];exact h1)) A C)
def gD (P:Pr):List (List Int):=(List.range (eW P).toNat).map (λa=>(List.range (eW P).toNat).map (λb=>(tb P a b:Int)))
theorem oV (P:Pr):(gD P).length=(eW P).toNat:=by unfold gD;simp
theorem sr {P:Pr}{a:Nat}(ha:a<(eW P).toNat):gt (gD P) a=(List.range (eW P).toNat).map (λb=>(tb P a b:Int)):=by
 rw[gM _ _ (by rw[oV];exact ha)];simp[gD]
theorem tD {P:Pr}{a b:Nat}(ha:a<(eW P).toNat) (e:b<(eW P).toNat):gt (gt (gD P) a) b=(tb P a b:Int):=by
 rw[sr ha,gM _ _ (by simpa using e)];simp
theorem z8 (m t:Nat) (a:m<2 ^ 64):bits .and .u64 ((m:Int)/2 ^ t) 1=if m.testBit t then 1 else 0:=by
 have e:((m:Int)/2 ^ t)=((m/2 ^ t:Nat):Int):=by rw[Int.natCast_ediv,Int.natCast_pow];rfl
 have b:m/2 ^ t<18446744073709551616:=Nat.lt_of_le_of_lt (Nat.div_le_self _ _) (by simpa using a);have h1:=u64_and_nat (m/2 ^ t) 1 b (by decide);rw[e,show(1:Int)=((1:Nat):Int) from rfl,h1,Nat.and_one_is_mod,Nat.testBit_eq_decide_div_mod_eq];by_cases h:m/2 ^ t%2=1
 ·simp[h]
 ·have:m/2 ^ t%2=0:=by omega
  simp[this]
theorem JL (t:Nat) (a:t<64):IntKind.u64.wrap (2 ^ t)=((2 ^ t:Nat):Int):=by
 have h1:(2:Nat) ^ t<2 ^ 64:=Nat.pow_lt_pow_right (by decide) a;have e:((2:Int) ^ t)=((2 ^ t:Nat):Int):=by rw[Int.natCast_pow];rfl
 rw[e];obtain⟨q,b⟩:∃q,q=2 ^ t:=⟨_,rfl⟩;rw[<-b] at h1 ⊢;exact IntWalk.u64_in _ ⟨by omega,by omega⟩
theorem JM (n t:Nat) (a:n<2 ^ 64) (b:t<64):bits .or .u64 (n:Int) ((2 ^ t:Nat):Int)=((n ||| 2 ^ t:Nat):Int):=by
 have h1:(2:Nat) ^ t<2 ^ 64:=Nat.pow_lt_pow_right (by decide) b;exact u64_or_nat n (2 ^ t) (by simpa using a) (by simpa using h1)
theorem SI {P:Pr}(G:ez P) {H:List Int->Prop}{x m N a n b q:Nat}(hB:sY P H x m) (l:N=(eW P).toNat) (y:b<=N) (p:n=nr P N m a) (r:q=oQ P m a n b) (ha:a<N:=by omega):q<2 ^ N:=by
 subst l
 have e:∀t,n.testBit t=true->t<(eW P).toNat:=λt i=>by
  rw[p,xq] at i;rcases i with h|⟨a',k,h1,u,_,_,w⟩
  ·rcases Nat.lt_or_ge t (eW P).toNat with j|j
   ·exact j
   ·rw[hB.high t j] at h;cases h
  ·rw[<-w];exact(G.nI (by omega) u).1
 apply Nat.lt_pow_two_of_testBit;intro t i;rw[Bool.eq_false_iff];intro h;rw[r,JD] at h;rcases h with h|⟨k,h1,_,h3⟩
 ·have:=e t h;omega
 ·have:=(G.nI (a:=a) (b:=k) ha (by omega)).1;omega
theorem Ls (P:Pr) (G:ez P) (w:World) (tv:Value) (S:Nat->Prop) (H:List Int->Prop) (SH:Sub P H) (x:Nat) (hx:x<(eW P).toNat) (al:eW P<=32) (ht:dK S w tv (gD P)) :
  Calls Tryz.prog 133 #[tv,.int .u64 (gB P H:Nat),.int .i64 x] w (fq w λ_ v=>v=.int .u64 (gB P (lG P H (fF P x)):Nat)):=by
 obtain⟨mR,Y,rfl,_,_⟩:=Sl.shape ht;have Z:=G.v.kT;obtain⟨N,hN⟩:∃N,N=(eW P).toNat:=⟨_,rfl⟩;have ab:N<=32:=by omega
 have aJ:x<N:=by omega
 have e:(gD P).length=N:=by rw[oV,hN]
 have an:dK S w (.slice mR N Y) (gD P):=by rw[<-e];exact ht
 rw[e];have A:=RV (H:=H) hx;obtain⟨X,I⟩:∃X,X=gB P H:=⟨_,rfl⟩;have D:X<2 ^ 64:=by rw[I];exact Nat.lt_of_lt_of_le (Jz P H) (Nat.pow_le_pow_right (by decide) (by omega))
 rw[<-I] at A ⊢;obtain⟨p,J⟩:∃p,p=2 ^ x:=⟨_,rfl⟩;have j:IntKind.u64.wrap (2 ^ x)=(p:Int):=by rw[JL x (by omega),J]
 obtain⟨m1,K⟩:∃m1,m1=X ||| 2 ^ x:=⟨_,rfl⟩;have L:bits .or .u64 (X:Int) (p:Int)=(m1:Int):=by rw[J,JM X x D (by omega),K]
 rw[<-K] at A;have k:=Lib.hid (And.intro A (And.intro hN e));clear A I J K D hN e ht Z al;go_enter Tryz.func133,Tryz.ntmps133;go_wp2;clear j L;go_loopw [1] (λmv wr=>∃m:Nat,mv=.int .u64 m/\wr=w/\Hid (sY P H x m)) (λmv _=>(4294967296-intOf mv).toNat)
 case atStart=>exact⟨m1,rfl,rfl,Lib.hid k.out.1⟩
 case round=>
  obtain⟨m,rfl,rfl,hB⟩:=hrel;have M:m<2 ^ N:=by rw[k.out.2.1];exact JF hB.out
  have l:(2:Nat) ^ N<=4294967296:=Nat.pow_le_pow_right (n:=2) (by decide) ab;have aD:m<4294967296:=Nat.lt_of_lt_of_le M l;have HM:=Lib.hid (And.intro M l);clear M l;go_wp2;go_loopw [7,17] (λnv av O=>∃(a n:Nat),nv=.int .u64 n/\av=.int .i64 a/\a<=N/\O=wr/\Hid (n=nr P N m a)) (λ_ av _=>N-(intOf av).toNat)
  case atStart=>exact⟨0,m,rfl,rfl,by omega,rfl,Lib.hid rfl⟩
  case round=>
   obtain⟨a,n,rfl,rfl,ha,hw,y⟩:=hrel;subst hw;by_cases ac:a<N
   ·have aE:(a:Int)<N:=by omega
    have hand:=z8 m a (by omega);cases Q:m.testBit a with
    | false=>
     rw[Q] at hand;have hand:bits .and .u64 ((m:Int)/2 ^ a) 1=0:=hand;have r:n=nr P N m (a+1):=by rw[nr,Q];exact y.out
     have HN:=Lib.hid r;clear r y Q;go_wp2;clear hand;go_roundw
     case rel=>exact⟨a+1,n,rfl,by go_num,by omega,trivial,HN⟩
     case measure=>simp[intOf];omega
    | true=>
     rw[Q] at hand;have hand:bits .and .u64 ((m:Int)/2 ^ a) 1=1:=hand;have r:∀q,q=oQ P m a n N->q=nr P N m (a+1):=λq B=>by rw[nr,Q,<-y.out];exact B
     have hN:=Lib.hid y.out;have HN:=Lib.hid r;clear r y Q;obtain⟨ba,oa,a2,ad,hab,_,_,ar,JN⟩:=dK.at an a (by rw[k.out.2.2];exact ac);subst hab;have R:a<(eW P).toNat:=by rw[<-k.out.2.1];exact ac
     have T:(gt (gD P) a).length=N:=by rw[sr R,k.out.2.1];simp
     rw[T] at ar;have ae:Ints S wr (.slice a2 N ad) (gt (gD P) a):=by rw[<-T];exact JN
     have aF:N<=(gt (gD P) a).length:=by omega
     clear T JN;go_wp2;clear hand;go_loopw [7,27] (λnv bv O=>∃(b q:Nat),nv=.int .u64 q/\bv=.int .i64 b/\b<=N/\O=wr/\Hid (q=oQ P m a n b)) (λ_ bv _=>N-(intOf bv).toNat)
     case atStart=>exact⟨0,n,rfl,rfl,by omega,rfl,Lib.hid rfl⟩
     case round=>
      obtain⟨b,q,rfl,rfl,Q,hw,B⟩:=hrel;subst hw;by_cases af:b<N
      ·have aw:(b:Int)<N:=by omega
       have hand:=z8 m b (by omega);cases i:m.testBit b with
       | false=>
        rw[i] at hand;have hand:bits .and .u64 ((m:Int)/2 ^ b) 1=0:=hand;have u:q=oQ P m a n (b+1):=by rw[oQ,i];exact B.out
        have HQ:=Lib.hid u;clear u B i;go_wp2;clear hand;go_roundw
        case rel=>exact⟨b+1,q,rfl,by go_num,by omega,trivial,HQ⟩
        case measure=>simp[intOf];omega
       | true=>
        rw[i] at hand;have hand:bits .and .u64 ((m:Int)/2 ^ b) 1=1:=hand;have ag:b<(eW P).toNat:=by rw[<-k.out.2.1];exact af
        obtain⟨bb,ob,U,_,_,V⟩:=Ints.at ae b (by omega);subst U;rw[tD R ag] at V;have W:=(G.nI R ag).1;obtain⟨c,hc⟩:∃c,c=tb P a b:=⟨_,rfl⟩;rw[<-hc] at V W;have aG:c<N:=by rw[k.out.2.1];exact W
        have E:q<2 ^ 64:=Nat.lt_of_lt_of_le (SI G hB.out k.out.2.1 (by omega) hN.out B.out) (Nat.pow_le_pow_right (by decide) (by omega));obtain⟨p,J⟩:∃p,p=2 ^ c:=⟨_,rfl⟩;have j:IntKind.u64.wrap (2 ^ c)=(p:Int):=by rw[JL c (by omega),J]
        obtain⟨q1,hq1⟩:∃q1,q1=q ||| 2 ^ c:=⟨_,rfl⟩;have L:bits .or .u64 (q:Int) (p:Int)=(q1:Int):=by rw[J,JM q c E (by omega),hq1]
        have u:q1=oQ P m a n (b+1):=by rw[oQ,i,hq1,B.out,hc];rfl
        have HQ:=Lib.hid u;clear u B i J hq1 E hc W;go_wp2;clear hand j L V;go_roundw
        case rel=>exact⟨b+1,q1,rfl,by go_num,by omega,trivial,HQ⟩
        case measure=>simp[intOf];omega
      ·have U:b=N:=by omega
       subst U;have ai:=Lib.hid (HN.out q B.out);clear B;go_wp2;go_roundw
       case rel=>exact⟨a+1,q,rfl,by go_num,by omega,trivial,ai⟩
       case measure=>simp[intOf];omega
   ·have az:a=N:=by omega
    subst az;have aA:m<=n:=by rw[y.out];exact RY _ _ _
    have C:sY P H x n:=by
     have:=G.RX SH hx hB.out;rw[<-k.out.2.1] at this;rw[y.out];exact this
    by_cases he:n=m
    ·have F:=G.RZ SH hx hB.out (by rw[<-k.out.2.1,<-y.out];exact he)
     have HE:=Lib.hid F;clear F C y;subst he;go_wp2;go_ret;exact⟨_,rfl,Ext.refl _,congrArg (λz:Nat=>Value.int .u64 (z:Int)) HE.out⟩
    ·have aj:n<2 ^ a:=by rw[k.out.2.1];exact JF C
     have aI:n<4294967296:=Nat.lt_of_lt_of_le aj HM.out.2;have aM:((n:Int) == (m:Int))=false:=by simp;omega
     have aN:m<n:=by omega
     have aB:=Lib.hid C;clear C y aj aA;go_wp2;go_roundw
     case rel=>exact⟨n,rfl,trivial,aB⟩
     case measure=>simp[intOf];omega
theorem SJ:Tryz.prog.underlying 171=some (.slice 3):=by kernel_rfl
theorem SK:Tryz.prog.underlying 140=some (.slice 171):=by kernel_rfl
theorem Tryz.SL:(Tryz.prog.info? 3).map (λi=>(i.zero,i.size,i.bytes))=some (some (.int .i64 0),1,8):=by kernel_rfl
theorem Tryz.SM:(Tryz.prog.info? 171).map (λi=>(i.zero,i.size,i.bytes))=some (some (.slice none 0 0),1,24):=by kernel_rfl
theorem C6 {E base:Nat}{S:Nat->Prop}{w:World}{v:Value}{l:List Int}(h:fK base E w v (l.map (Value.int .i64))) (j:l.length<=9223372036854775807) (b:∀k,v.ownBlock=some k->S k):Ints S w v l:=by
 rcases h.form with⟨rfl,hn⟩|⟨g,cap,rfl,e,_,hg⟩
 ·have:l=[]:=by simpa using hn
  subst this;exact⟨none,0,rfl,⟨by simp,by simp,λ_=>rfl⟩,λi a=>by simp at a⟩
 ·rw [List.length_map] at h e b ⊢
  refine⟨_,cap,rfl,⟨e,j,λh=>by cases h⟩,λi a=>⟨g,0,.int .i64 (gt l i),rfl,b g rfl,hg,?_,rfl⟩⟩;rw[Nat.zero_add,h.cell i (by simpa using a),jM _ _ _ a]
theorem JO {E B:Nat}{w:World}{v:Value}{xs:List (List Int)}(h:gN (λF w u (x:List Int)=>Ints F w u x) E B w v xs) (e:xs.length<=9223372036854775807):dK (From B) w v xs:=by
 obtain⟨G,H,h1,l,h3,a,cap,hv,e,hc⟩:=h.iB e;refine⟨a,cap,hv,e,λi j => ?_⟩;obtain⟨b,off,u,e1,e2,e3,e4,e5⟩:=hc i j;exact⟨b,off,u,e1,h1 b e2,e3,e4,Ints.sub e5 (λk hk _=>(l i k j hk).1)⟩
theorem Lp (P:Pr) (G:ez P) (w:World) (p:Value) (Sp:Nat->Prop) (hp:fB Sp w p P) :
  Calls Tryz.prog 132 #[p] w (fq w λw' v=>dK (From w.heap.size) w' v (gD P)):=by
 have hP:=G.v;have aD:=hP.n6;have ab:eW P<=729:=hP.mO;have ac:=hP.kT;obtain⟨pb,po,rfl⟩:=hp.shape;go_enter Tryz.func132,Tryz.ntmps132;go_wp2_with fail
 refine Calls.mono (B4 P hP w _ Sp hp) ?_;rintro e1 w1 ⟨v1,rfl,hg1,hE⟩;have ae:(jf P).length=(eW P).toNat:=by simp[jf]
 have O:=gY.rows (gN.iB hE (by omega));obtain⟨aE,af,jZ,_,_⟩:=Sl.shape O;subst jZ;obtain⟨N,hN⟩:∃N,N=(eW P).toNat:=⟨_,rfl⟩;have z:(jf P).length=N:=by rw[ae,hN]
 rw[z];have I:dK (From w.heap.size) w1 (.slice aE N af) (jf P):=by rw[<-z];exact O
 have aX:N<=729:=by omega
 have ag:∀i,i<N->gt (jf P) i=fF P i/\dL P.orders (fF P i):=λi hi=>⟨by rw[gM _ _ (by rw[z];exact hi)];simp[jf],G.kD (by omega)⟩;have r:=Lib.hid (And.intro hN (And.intro z ag));clear hN z ag ae hE O ab ac;go_wp2;go_loopw [4,14] (λov iv wr=>∃(i:Nat) (v4:Value),v4=ov/\iv=.int .i64 i/\i<=N/\Ext w1 wr/\gN (λF w u (x:List Int)=>Ints F w u x) 171 w1.heap.size wr v4 ((gD P).take i)) (λ_ iv _=>N-(intOf iv).toNat)
 case atStart=>exact⟨0,_,rfl,rfl,by omega,Ext.refl _,gN.nil _ _ _ _⟩
 case round=>
  obtain⟨i,v4,rfl,rfl,hi,hg,hO⟩:=hrel;by_cases e:i<N
  ·have aS:(i:Int)<N:=by omega
   obtain⟨bx,ox,a2,jx,hab,_,_,Q,R⟩:=dK.at (dK.ext I hg) i (by rw[r.out.2.1];exact e);subst hab;obtain⟨ah,S⟩:=r.out.2.2 i e;rw[ah] at Q R;obtain⟨x,hx⟩:∃x,x=fF P (i:Int):=⟨_,rfl⟩;rw[<-hx] at Q R S;have HX:=Lib.hid (And.intro hx S);clear hx S ah;go_wp2;clear Q;obtain⟨A,rfl⟩:∃A:World,A=wr:=⟨_,rfl⟩;have ai:=dy hg1 hg;go_loopw [7,20] (λrv jv wr=>∃(j:Nat) (J:Value),J=rv/\jv=.int .i64 j/\j<=N/\Ext A wr/\fK A.heap.size 3 wr J (((gt (gD P) i).take j).map (Value.int .i64))) (λ_ jv _=>N-(intOf jv).toNat)
   case atStart=>exact⟨0,_,rfl,rfl,by omega,Ext.refl _,World.ownsRow_nil _ _ _ _⟩
   case round=>
    obtain⟨j,J,rfl,rfl,hj,B,hR⟩:=hrel;have ak:=dy ai B;have al:=dy hg B;have am:(gt (gD P) i).length=N:=by rw[sr (by rw[<-r.out.1];exact e),<-r.out.1];simp
    by_cases m:j<N
    ·have aI:(j:Int)<N:=by omega
     obtain⟨a0,oy,a3,Hh,hab,_,_,T,E⟩:=dK.at (dK.ext I al) j (by rw[r.out.2.1];exact m);have K:=Ints.ext R B;cases hab
     obtain⟨an,C⟩:=r.out.2.2 j m;rw[an] at T E;obtain⟨y,hy⟩:∃y,y=fF P (j:Int):=⟨_,rfl⟩;rw[<-hy] at T E C;have ao:=G.oI HX.out.2 C;have H:=G.gz HX.out.2 C;have ap:(fC P x y).length<=6:=by rw[H.1];exact aD
     have aJ:=oB hP H;obtain⟨q,hq⟩:∃q,q=num P (fC P x y):=⟨_,rfl⟩
     have a:(gt (gD P) i).take (j+1)=(gt (gD P) i).take j++[q]:=by
      rw[je _ j (by omega),tD (by rw[<-r.out.1];exact e) (by rw[<-r.out.1];exact m),hq,HX.out.1,hy];congr 2
      unfold tb;have:=oB hP (G.gz (G.kD (t:=i) (by rw[<-r.out.1];exact e)) (G.kD (t:=j) (by rw[<-r.out.1];exact m)));omega
     have l:(((gt (gD P) i).take j).map (Value.int .i64)).length<=1000000:=by rw[List.length_map,List.length_take];omega
     have U:=Lib.hid (And.intro C (And.intro ao (And.intro H (And.intro ap (And.intro hq (And.intro a l))))));clear C ao H ap aJ hq a l hy an am;go_wp2_with fail
     clear T;refine Calls.mono (vQ P hP wr _ _ _ x y Sp Any Any (hp.ext ak) (Ints.sub K (λ_ _ _=>trivial)) (Ints.sub E (λ_ _ _=>trivial)) HX.out.2 U.out.1) ?_;rintro eA wA ⟨vA,rfl,V,W⟩;rw[U.out.2.1] at W;have aq:=W.ints (by have:=U.out.2.2.2.1;omega);go_wp2_with fail
     refine Calls.mono (QE P hP wA _ _ _ _ _ (hp.ext (dy ak V)) aq U.out.2.2.1) ?_;rintro eB wB ⟨rfl,rfl⟩;rw[<-U.out.2.2.2.2.1];have L:=dy B V;have X:fK A.heap.size 3 wA J (((gt (gD P) i).take j).map (Value.int .i64)):=hR.kept V (by cases hv:J.ownBlock<;>simp);go_wp2_with (first|(at_builtin;refine tE 171 3 (.int .i64 0) 8 SJ Tryz.SL rfl (by decide) rfl _ _ rfl A.heap.size wA J (.int .i64 q) _ rfl X rfl rfl rfl U.out.2.2.2.2.2.2 L.size ?_;intro v8 w8 ar au)|fail)
     have av:Ext A w8:=fu L au (λb hb e=>by have:=(X.lt b hb).1;omega);have aN:fK A.heap.size 3 w8 v8 (((gt (gD P) i).take (j+1)).map (Value.int .i64)):=by rw[U.out.2.2.2.2.2.1,List.map_append];exact ar
     clear hR X ar au W aq E K;go_roundw
     case rel=>exact⟨j+1,v8,rfl,by go_num,by omega,av,aN⟩
     case measure=>simp[intOf];omega
    ·have aO:j=N:=by omega
     subst aO;have Y:fK A.heap.size 3 wr J ((gt (gD P) i).map (Value.int .i64)):=by rw[List.take_of_length_le (by omega)] at hR;exact hR
     have D:Ints (From A.heap.size) wr J (gt (gD P) i):=C6 Y (by omega) (λk hk=>(Y.lt k hk).1);obtain⟨a7,c7,rD,_,_⟩:=D.shape;subst rD;have a:(gD P).take (i+1)=(gD P).take i++[gt (gD P) i]:=je _ i (by rw[oV,<-r.out.1];exact e);have l:((gD P).take i).length<=1000000:=by rw[List.length_take];omega
     have HZ:=Lib.hid (And.intro a l);clear a l am hR;go_wp2_with (first|(at_builtin;refine Dl vW 140 171 (.slice none 0 0) 24 SK Tryz.SM rfl (by decide) rfl _ _ rfl w1.heap.size A wr v4 _ ((gD P).take i) (gt (gD P) i) rfl hO B D rfl rfl HZ.out.2 hg.size ?_;intro v5 w5 aw ax ay)|fail)
     have az:Ext w1 w5:=fu hg ax (λb hb e=>by have:=(hO.lt b hb).1;omega);rw[<-HZ.out.1] at aw;clear hO D ax ay Y;go_roundw
     case rel=>exact⟨i+1,v5,rfl,by go_num,by omega,az,aw⟩
     case measure=>simp[intOf];omega
  ·have aP:i=N:=by omega
   subst aP
   have M:gN (λF w u (x:List Int)=>Ints F w u x) 171 w.heap.size wr v4 (gD P):=by
    rw[List.take_of_length_le (by rw[oV,<-r.out.1];exact Nat.le_refl _)] at hO;exact hO.weak hg1.size
   have Z:dK (From w.heap.size) wr v4 (gD P):=JO M (by rw[oV,<-r.out.1];omega);clear hO M;go_wp2;go_ret;exact⟨_,rfl,dy hg1 hg,Z⟩
theorem ez.JP {P:Pr}(G:ez P) {X:List Int}(a:dL P.orders X) (k:Nat):pN (fE P P.orders.length 0) (zeros P.orders.length) X k=pw P X k:=
 G.lvl.Dw (pP.2 a) k
theorem xu (P:Pr) (G:ez P) (w:World) (pv x:Value) (X:List Int) (k:Int) (F D:Nat->Prop) (H:gy F w pv P) (hx:Ints D w x X) (B:dL P.orders X) (hk : -1000000000<=k/\k<=1000000000) :
  Calls Tryz.prog 257 #[pv,x,.int .i64 k] w (fq w λw' v=>Own w.heap.size w' v (iT P X k)):=by
 have hP:=G.v;have I:=hP.n6;obtain⟨vo,vp,vc,rfl,h3⟩:=H;have l:=fB.box h3 28;have b:Ext w (w.alloc (.cells #[vo,vp,vc] 28)):=World.grownBy_alloc _ _ _;have m:=hx.ext b;have p:(w.alloc (.cells #[vo,vp,vc] 28)).heap.size=w.heap.size+1:=by simp
 have E:=Lib.hid p;clear p hx;have q:X.length=P.orders.length:=B.1;have A:=Lib.hid (And.intro B q);clear B q;by_cases a:k<0
 ·have r:iT P X k=pw P (gj P X) (-k).toNat:=by unfold iT;rw[if_pos a]
  have e:=G.invV A.out.1;have J:(gj P X).length<=6:=by rw[e.1];omega
  have u:=Lib.hid (And.intro r e);clear r e;have K:IntKind.i64.wrap (-k) = -k:=IntWalk.i64_in _ (by omega);go_enter Tryz.func257,Tryz.ntmps257;go_wp2;generalize C:w.alloc (.cells #[vo,vp,vc] 28)=w0 at *;clear C;obtain⟨y,fN,fM,_,_,hc0,i,j,fP⟩:=l.at;have L:∀w',Ext w0 w'->w'.cell? ⟨w.heap.size,0,none⟩=some y:=λw' h=>h.cell hc0 (by simp);have M:∀w',Ext w0 w'->w'.cell? ⟨w.heap.size,1,none⟩=some fN:=λw' h=>h.cell (by simpa using i) (by simp);have N:∀w',Ext w0 w'->w'.cell? ⟨w.heap.size,2,none⟩=some fM:=λw' h=>h.cell (by simpa using j) (by simp);clear hc0 i j
  go_region_held3 (λw'=>Ext w0 w') (first|exact fk _ _|assumption)
   (first
    | (go_at_call 67;refine Calls.mono (Calls.rel (w0:=w0) (by assumption) (Dj P hP _ _ _ _ Any Any ⟨_,_,_,rfl,fA.ext fP (by assumption)⟩ (Ints.sub (Ints.ext m (by assumption)) (λ_ _ _=>trivial)) A.out.1)) ?_;rintro S T ⟨U,rfl,gK,iZ,mj⟩;have z:=mj.ints (by omega))
    | (go_at_call 278;refine Calls.mono (Calls.rel (w0:=w0) (by assumption) (Dp P hP _ _ _ 0 P.orders.length (by omega) _ (-k) Any Any ⟨_,_,_,rfl,fA.ext fP (by assumption)⟩ z u.out.2 (by omega) (by omega))) ?_;rintro O Q ⟨R,rfl,hgB,jV,nj⟩))
  clear L M N;rw[G.JP u.out.2,<-u.out.1] at nj;go_wp2;go_ret;exact⟨_,rfl,dy b hgB,nj.weak (by have:=E.out;omega)⟩
 ·have r:iT P X k=pw P X k.toNat:=by unfold iT;rw[if_neg a]
  have u:=Lib.hid r;clear r;obtain⟨y,fN,fM,_,_,hc0,i,j,fP⟩:=l.at;go_enter Tryz.func257,Tryz.ntmps257;go_wp2_with fail
  refine Calls.mono (Dp P hP _ _ _ 0 P.orders.length (by omega) X k Any D ⟨_,_,_,rfl,fP⟩ m A.out.1 (by omega) (by omega)) ?_;rintro O Q ⟨R,rfl,hgB,nj⟩;rw[G.JP A.out.1,<-u.out] at nj;go_wp2;go_ret;exact⟨_,rfl,dy b hgB,nj.weak (by have:=E.out;omega)⟩
/-! ### a row of bools of the call's own -/
abbrev l9 (base:Nat) (w:World) (v:Value) (l:List Bool):Prop:=w.ownsRow base 4 1 v l.length (l.map Value.bool)
theorem SP:Tryz.prog.underlying 176=some (.slice 4):=by kernel_rfl
theorem Tryz.SQ:(Tryz.prog.info? 4).map (λi=>(i.zero,i.size,i.bytes))=some (some (.bool false),1,1):=by kernel_rfl
theorem JQ {i:Array Oper}{rest:List Oper}{o:Oper}{a:Act}{Q:Exit->Act->World->Prop}{w:World}(j:o.guard=none) (l c:Operand)
  (r:o.op=Op.makeSlice 176 l c) (base n H:Nat) (hH:w.heap.size=H) (L:Int) (u:a.eval l=.int .i64 L) (y:a.eval c=.int .i64 L) (q:L=n) (C:n<=2147483648) (b:base<=H)
  (h:∀w',l9 base w' (.slice (some ⟨H,0,none⟩) n n) (List.replicate n false)->Ext w w'->H<w'.heap.size->wpList Tryz.prog i Q rest (a.put o.dst (.slice (some ⟨H,0,none⟩) n n)) w') :
  wpList Tryz.prog i Q (o :: rest) a w:=by
 subst hH;obtain⟨z,A,k,m,p⟩:=info_parts Tryz.SQ;refine wpList_make_full w j l c 176 r base 4 z (.bool false) 1 SP A k m .i64 .i64 L L n u y q q (by rw[p];omega) (by unfold maxLen;omega) b ?_;intro w' h1 B;refine h w' ?_ B (h1.lt w.heap.size rfl).2
 have e:(madeCells (Value.cells (.bool false)) (n*1)).toList=(List.replicate n false).map Value.bool:=by
  rw[show Value.cells (.bool false) = #[.bool false] from rfl,toList_madeCells_one];simp
 rw[e] at h1;show World.ownsRow _ _ _ _ _ _ _
 rw[List.length_replicate];exact h1
theorem l9.cell {base g cap n:Nat}{w:World}{l:List Bool}(h:l9 base w (.slice (some ⟨g,0,none⟩) n cap) l) (j:Nat) (a:j<l.length):w.cell? ⟨g,j,none⟩=some (.bool (gt l j)):=by
 have b:n=l.length:=by
  obtain⟨_,⟨h,_⟩|⟨_,_,_,h,_⟩⟩:=h<;>cases h;rfl
 subst b;have:=World.ownsRow.cellAt h j (by omega);rw[this];simp[gt,a]
theorem l9.frozen {base g cap n:Nat}{w:World}{l:List Bool}(h:l9 base w (.slice (some ⟨g,0,none⟩) n cap) l) (j:Nat):w.frozen? ⟨g,j,none⟩=false:=by
 have a:n=l.length:=by
  obtain⟨_,⟨h,_⟩|⟨_,_,_,h,_⟩⟩:=h<;>cases h;rfl
 subst a;exact World.ownsRow.frozenAt h j
theorem l9.store {base g cap n:Nat}{w:World}{l:List Bool}(h:l9 base w (.slice (some ⟨g,0,none⟩) n cap) l) (j:Nat) (x:Bool) :
  l9 base (w.setCell ⟨g,j,none⟩ (.bool x)) (.slice (some ⟨g,0,none⟩) n cap) (l.set j x)/\w.grownBy (w.setCell ⟨g,j,none⟩ (.bool x)) (some g):=by
 have a:n=l.length:=by
  obtain⟨_,⟨h,_⟩|⟨_,_,_,h,_⟩⟩:=h<;>cases h;rfl
 subst a;obtain⟨h1,h2⟩:=World.ownsRow.stored h j (.bool x);refine⟨?_,h2⟩;show World.ownsRow _ _ _ _ _ _ _
 rw[List.length_set,List.map_set];exact h1
theorem l9.gw {base:Nat}{w w':World}{v:Value}{l:List Bool}(h:l9 base w v l) (a:Ext w w'):l9 base w' v l:=
 h.kept a (by cases b:v.ownBlock<;>simp)
theorem l9.keep {base g n cap r:Nat}{w w':World}{l:List Bool}(h:l9 base w (.slice (some ⟨g,0,none⟩) n cap) l) (b:w.grownBy w' (some r)) (a:g≠r):l9 base w' (.slice (some ⟨g,0,none⟩) n cap) l:=
 h.kept b (.inr (λe=>a (by cases e;rfl)))
def fI (w:World) (g:Nat) (w':World):Prop:=∃a,Ext w a/\(w'=a\/∃j x,w'=a.setCell ⟨g,j,none⟩ x)
theorem fI.of {w w':World}{g:Nat}(h:Ext w w'):fI w g w':=⟨w',h,.inl rfl⟩
theorem fI.store {w w':World}{g j:Nat}{x:Value}(h:Ext w w'):fI w g (w'.setCell ⟨g,j,none⟩ x):=⟨w',h,.inr ⟨j,x,rfl⟩⟩
theorem fI.cell {w w':World}{g:Nat}(h:fI w g w') {a:Addr}{v:Value}(e:w.cell? a=some v) (b:a.block≠g):w'.cell? a=some v:=by
 obtain⟨i,h1,rfl|⟨j,x,rfl⟩⟩:=h
 ·exact h1.cell e (by simp)
 ·rw [World.cell?_setCell_far _ _ _ _ (by simpa using Ne.symm b)]
  exact h1.cell e (by simp)
theorem SR (v:Value) (X:List Int) (w:World) (S:Nat->Prop) (h:Ints S w v X) :
  Calls Tryz.prog 285 #[v] w λe w'=>e=.returned (.int .i64 (dep X))/\w=w':=by
 obtain⟨a,cap,rfl,_,_⟩:=h.shape;go_enter Tryz.func285,Tryz.ntmps285;go_wp2;go_loop [3] (λi=>∃k:Nat,i=.int .i64 k/\k<=X.length/\∀j,j<k->gt X j=0) (λi=>X.length-(intOf i).toNat)
 case atStart=>exact⟨0,rfl,by omega,λj p=>by omega⟩
 case round=>
  obtain⟨k,rfl,hk,hz⟩:=hrel;have q:=Lib.hid hz;clear hz;by_cases l:k<X.length
  ·obtain ⟨b,off,rfl,_,_,hc⟩:=Ints.at h k l
   by_cases hx:gt X k=0
   ·have u:(gt X k != 0)=false:=by simp[hx]
    have y:=Lib.hid hx;clear hx;go_wp2;go_round
    case rel=>exact⟨k+1,by go_num,by omega,λj p=>by
     rcases Nat.lt_succ_iff_lt_or_eq.1 p with h1|h1
     ·exact q.out j h1
     ·rw[h1];exact y.out⟩
    case measure=>simp[intOf];omega
   ·have u:(gt X k != 0)=true:=by simp[hx]
    have m:dep X=k:=Bh l q.out hx;have r:=Lib.hid m;clear m hx;go_wp2;go_ret;exact⟨by rw[r.out];rfl,rfl⟩
  ·have z:k=X.length:=by omega
   have m:dep X=X.length:=I1 (λj p=>q.out j (by omega));have r:=Lib.hid m;clear m;go_wp2;go_ret;exact⟨by rw[r.out];rfl,rfl⟩
theorem zw (v:Value) (X:List Int) (w:World) (S:Nat->Prop) (h:Ints S w v X) :
  Calls Tryz.prog 251 #[v] w (fq w λ_ r=>r=.int .i64 (dep X)):=by
 have b:=SR v X w S h;obtain⟨a,cap,rfl,_,_⟩:=h.shape;go_enter Tryz.func251,Tryz.ntmps251;go_wp2_with fail
 refine Calls.mono b ?_;rintro e i ⟨rfl,rfl⟩;clear b;go_wp2;go_ret;exact⟨_,rfl,Ext.refl _,rfl⟩
theorem jD.rows {B gb n:Nat}{bad:Nat->Prop}{w:World}{b:List (List Int)}(h:jD B bad w gb n b) (r:n<=1000000):dK (λk=>k=gb\/(k≠gb/\¬bad k)) w (.slice (some ⟨gb,0,none⟩) n n) b:=by
 have m:=h.len;have e:=h.lt;refine⟨_,_,by rw[m],⟨by omega,by omega,λh=>by cases h⟩,λi u => ?_⟩;obtain⟨_,l⟩:=h.at i (by omega);rcases l with⟨p,l⟩|⟨_,a,cap,l,hI⟩
 ·refine ⟨gb,0,_,rfl,.inl rfl,e.2,by rw[Nat.zero_add];exact l,?_⟩
  rw[p];exact⟨none,0,rfl,⟨by simp,by simp,λ_=>rfl⟩,λj q=>by simp at q⟩
 ·exact⟨gb,0,_,rfl,.inl rfl,e.2,by rw[Nat.zero_add];exact l,Ints.sub hI (λk hk _ => .inr hk)⟩
theorem Ho (P:Pr) (hP:Valid P) (w:World) (pv Z:Value) (U:List (List Int)) (Sp Su:Nat->Prop) (M:gy Sp w pv P) (hu:dK Su w Z U) (hU:iY P U) (hl:U.length<=6) :
  Calls Tryz.prog 261 #[pv,Z] w (fq w λw' v=>dK Any w' v (lN U P.orders.length U.length)):=by
 have aj:=hP.n6;obtain⟨vo,vp,vc,rfl,h3⟩:=M;have F:=fB.box h3 28;have N:Ext w (w.alloc (.cells #[vo,vp,vc] 28)):=World.grownBy_alloc _ _ _;obtain⟨ao,iA,gJ,hoi⟩:=F.iO;obtain⟨au,jA,rfl,_,_⟩:=Sl.shape hu;have HU:=Lib.hid hU;clear hU;go_enter Tryz.func261,Tryz.ntmps261;go_wp2_with (first|(at_make;refine Bk rfl _ _ rfl w.heap.size P.orders.length (w.heap.size+1) (by simp) _ rfl rfl rfl (by omega) (by omega) ?_;intro w1 G O ac)|fail)
 have H:=dy N O;have C:=G (λ_=>False);clear G gJ hoi F;go_loopw [6] (λQ wr=>∃i:Nat,Q=.int .i64 i/\i<=U.length/\Ext w wr/\jD w.heap.size (λ_=>False) wr (w.heap.size+1) P.orders.length (lN U P.orders.length i)) (λQ _=>U.length-(intOf Q).toNat)
 case atStart=>exact⟨0,rfl,by omega,H,C⟩
 case round=>
  clear C H;obtain⟨i,rfl,hi,E,C⟩:=hrel;by_cases l:i<U.length
  ·have ad:(i:Int)<U.length:=by omega
   obtain⟨b,off,a2,a,rfl,_,JR,hc0,R⟩:=dK.at hu i l;have hc:=E.cell hc0 (by simp);clear hc0;obtain⟨p,q,r⟩:=HU.out.1 _ (fT l);have A:lN U P.orders.length (i+1)=(lN U P.orders.length i).set (dep (gt U i)) (gt U i):=rfl;obtain⟨z,hz⟩:∃z,z=gt U i:=⟨_,rfl⟩;rw[<-hz] at hc R p q r A;clear hz;obtain⟨d,S⟩:∃d,d=dep z:=⟨_,rfl⟩;rw[<-S] at q A r;have HD:=Lib.hid S;clear S;have am:b<w.heap.size:=JR;have T:=Ints.ext R E;have B:z≠[]:=λe=>by have:=p.1;rw[e] at this;simp at this;omega
   have V:Ints (λk=>k≠w.heap.size+1/\¬False) wr (.slice a2 z.length a) z:=by
    have h1:Ints (λk=>k<w.heap.size) w (.slice a2 z.length a) z:=Ints.sub R (λ_ _ h=>h);exact h1.mono (λk hk l=>⟨⟨by omega,id⟩,Nat.lt_of_lt_of_le l E.size,E.block k l (by simp)⟩)
   obtain⟨an,I⟩:=C.at d q;have HS:=Lib.hid (And.intro A (And.intro B (And.intro p r)));clear A B p r;have ap:(d:Int)<P.orders.length:=by omega
   obtain⟨u0,yH⟩:∃u0,wr.cell? ⟨w.heap.size+1,d,none⟩=some u0:=by rcases I with⟨_,h⟩|⟨_,_,_,h,_⟩<;>exact⟨_,h⟩
   clear I JR;have e1:∀w',fI wr (w.heap.size+1) w'->w'.cell? ⟨b,off+i,none⟩=some (.slice a2 z.length a):=λw' h=>h.cell hc (by simp;omega);go_wp2
   go_region_held3 (λw'=>fI wr (w.heap.size+1) w') (first|exact fI.of (fk _ _)|exact fI.of (by assumption)|exact fI.store (by assumption)|assumption)
    (first
     | (go_at_call 251;refine Calls.mono (Calls.rel (w0:=wr) (by first|exact fk _ _|assumption) (zw _ z _ Any (Ints.sub (Ints.ext T (by first|exact fk _ _|assumption)) (λ_ _ _=>trivial)))) ?_;rintro eE wE ⟨vE,rfl,m,mM,J⟩;rw[<-HD.out] at J;subst J;have D:=m.cell yH (by simp);have K:=((C.ext m).at d q).1))
   clear e1;obtain⟨W,L⟩:=(C.ext m).put d (u := .slice a2 z.length a) (y:=z) (Ints.ext V m) HS.out.2.1;have X:Ext w (wE.setCell ⟨w.heap.size+1,d,none⟩ (.slice a2 z.length a)):=fu (dy E m) L (λj hj l=>by cases hj;omega);clear D K L;go_wp2;go_roundw
   case rel=>exact⟨i+1,by go_num,by omega,X,by rw[HS.out.1];exact W⟩
   case measure=>simp[intOf];omega
  ·have Y:i=U.length:=by omega
   subst Y;go_wp2;go_ret;exact⟨_,rfl,E,dK.sub (C.rows (by omega)) (λ_ _ _=>trivial)⟩
theorem SS (P:Pr) (G:ez P) (w:World) (pv tv M:Value) (b:List (List Int)) (X:List Int) (H:List Int->Prop) (Sp Sb Sx:Nat->Prop) (N:gy Sp w pv P) (ht:dK Sb w tv b) (hx:Ints Sx w M X) (O:dL P.orders X)
  (l:b.length=P.orders.length) (hI:Ind P H (gt b)) :
  Calls Tryz.prog 288 #[pv,tv,M] w (fq w λw' v=>∃Y,Own w.heap.size w' v Y/\qT P H b X P.orders.length Y):=by
 have hP:=G.v;have ao:=hP.n6;obtain⟨vo,vp,vc,rfl,h3⟩:=N;have y:=fB.box h3 28;have m:Ext w (w.alloc (.cells #[vo,vp,vc] 28)):=World.grownBy_alloc _ _ _;have Q:=hx.ext m;have R:=dK.ext ht m;have ap:X.length<=6:=by rw[O.1];omega
 have z:(w.alloc (.cells #[vo,vp,vc] 28)).heap.size=w.heap.size+1:=by simp
 obtain⟨at_,JS,A,_,_⟩:=Sl.shape ht;rw[l] at A;subst A;have r:=Lib.hid (And.intro hI (And.intro O l));clear hI O l;obtain⟨S,fN,fM,_,_,T,B,C,D⟩:=y.at;simp only[Nat.zero_add] at B C;clear y;go_enter Tryz.func288,Tryz.ntmps288;go_wp2_with fail
 have HS:=Lib.hid z;clear z;generalize U:w.alloc (.cells #[vo,vp,vc] 28)=w0 at *;clear U;refine Calls.mono (mD w0 M X Sx Q (by omega)) ?_;rintro e1 w1 ⟨ov,rfl,hg1,nS⟩;go_wp2;go_loopw [7,8] (λov V wr=>∃(d:Nat) (Y:List Int),V=.int .i64 d/\d<=P.orders.length/\Ext w0 wr/\Own w.heap.size wr ov Y/\Hid (qT P H b X d Y)) (λ_ V _=>P.orders.length-(intOf V).toNat)
 case atStart=>exact⟨0,X,rfl,by omega,hg1,nS.weak (by have:=HS.out;omega),Lib.hid (G.Rv r.out.1.sub r.out.2.1)⟩
 case round=>
  clear nS;obtain⟨d,Y,rfl,hd,e,hO,E⟩:=hrel;have a:=E.out.vec;have W:Y.length=P.orders.length:=a.1;have p:=hO.ints (by omega);obtain⟨ay,nM,F,_,_⟩:=p.shape;rw[W] at F;subst F;by_cases i:d<P.orders.length
  ·have ak:(d:Int)<P.orders.length:=by omega
   obtain⟨bb,off,a2,I,rfl,_,_,hc,hr⟩:=dK.at (dK.ext R e) d (by rw[r.out.2.2];exact i);obtain⟨Z,oy,rfl,_,_,sZ⟩:=Ints.at p d (by omega);by_cases k:gt b d=[]
   ·have aa:¬(0:Int)<(gt b d).length:=by rw[k];simp
    have j:=Lib.hid (E.out.skip (.inl k));clear k a;go_wp2;go_roundw
    case rel=>exact⟨d+1,Y,by go_num,by omega,e,hO,j⟩
    case measure=>simp[intOf];omega
   ·have aa:(0:Int)<(gt b d).length:=by
     have:0<(gt b d).length:=List.length_pos_iff.2 k;omega
    by_cases hy:gt Y d=0
    ·have ab:(gt Y d != 0)=false:=by simp[hy]
     have j:=Lib.hid (E.out.skip (.inr hy));clear k a hy;go_wp2;go_roundw
     case rel=>exact⟨d+1,Y,by go_num,by omega,e,hO,j⟩
     case measure=>simp[intOf];omega
    ·have ab:(gt Y d != 0)=true:=by simp[hy]
     have J:=a.2 d i;have ho:=hP.gh d i;have au:IntKind.i64.wrap (-(gt Y d)) = -(gt Y d):=IntWalk.i64_in _ (by omega);obtain⟨m1,m2,m3⟩:=r.out.1.mem d i k;have j:=Lib.hid (G.Rw r.out.1 r.out.2.1 i k E.out);have q:=G.sV m2.1 (-(gt Y d));have K:(iT P (gt b d) (-(gt Y d))).length<=6:=by rw[q.1];omega
     have u:=Lib.hid (And.intro m2.1 (And.intro q (And.intro K (And.intro a (And.intro J ho)))));clear m1 m2 m3 q K a J ho k hy;have e1:∀w',Ext wr w'->w'.cell? ⟨w.heap.size,0,none⟩=some S:=λw' h=>(dy e h).cell T (by simp);have e2:∀w',Ext wr w'->w'.cell? ⟨w.heap.size,1,none⟩=some fN:=λw' h=>(dy e h).cell B (by simp);have e3:∀w',Ext wr w'->w'.cell? ⟨w.heap.size,2,none⟩=some fM:=λw' h=>(dy e h).cell C (by simp);have e4:∀w',Ext wr w'->w'.cell? ⟨bb,off+d,none⟩=some (.slice a2 (gt b d).length I):=λw' h=>h.cell hc (by simp);have e5:∀w',Ext wr w'->w'.cell? ⟨Z,oy+d,none⟩=some (.int .i64 (gt Y d)):=λw' h=>h.cell sZ (by simp);go_wp2;clear hc sZ
     go_region_held3 (λw'=>Ext wr w') (first|exact fk _ _|assumption)
      (first
       | (go_at_call 257;refine Calls.mono (Calls.rel (w0:=wr) (by assumption) (xu P G _ _ _ (gt b d) _ Any Any ⟨_,_,_,rfl,fA.ext (fA.ext D e) (by assumption)⟩ (Ints.sub (Ints.ext hr (by assumption)) (λ_ _ _=>trivial)) u.out.1 (by have:=u.out.2.2.2.2.1;have:=u.out.2.2.2.2.2;omega))) ?_;rintro eA wA ⟨vA,rfl,gK,iZ,mj⟩;have L:=mj.ints (by have:=u.out.2.2.1;omega))
       | (go_at_call 169;refine Calls.mono (Calls.rel (w0:=wr) (by assumption) (qN P hP _ _ _ _ Y _ Any Any Any ⟨_,_,_,rfl,fA.ext (fA.ext D e) (by assumption)⟩ (Ints.sub (Ints.ext p (by assumption)) (λ_ _ _=>trivial)) L u.out.2.2.2.1 u.out.2.1)) ?_;rintro eB wB ⟨vB,rfl,hgB,jV,nj⟩))
     clear e1 e2 e3 e4 e5;go_wp2;go_roundw
     case rel=>exact⟨d+1,_,by go_num,by omega,dy e hgB,nj.weak (by have:=e.size;have:=HS.out;omega),j⟩
     case measure=>simp[intOf];omega
  ·have ad:d=P.orders.length:=by omega
   subst ad;go_wp2;go_ret;exact⟨_,rfl,dy m e,Y,hO,E.out⟩
theorem CX (v:Value) (l:List Int) (w:World) (S:Nat->Prop) (h:Ints S w v l) :
  Calls Tryz.prog 254 #[v] w λe w'=>e=.returned (.bool (mP l))/\w=w':=by
 obtain⟨a,cap,rfl,_,_⟩:=h.shape;go_enter Tryz.func254,Tryz.ntmps254;go_wp2;go_loop [3] (λi=>∃k:Nat,i=.int .i64 k/\k<=l.length/\∀j,j<k->gt l j=0) (λi=>l.length-(intOf i).toNat)
 case atStart=>exact⟨0,rfl,by omega,λj q=>by omega⟩
 case round=>
  obtain⟨k,rfl,hk,hz⟩:=hrel;have u:=Lib.hid hz;clear hz;by_cases m:k<l.length
  ·obtain ⟨b,off,rfl,_,_,hc⟩:=Ints.at h k m
   by_cases hx:gt l k=0
   ·have y:(gt l k != 0)=false:=by simp[hx]
    have z:=Lib.hid hx;clear hx;go_wp2;go_round
    case rel=>exact⟨k+1,by go_num,by omega,λj q=>by
     rcases Nat.lt_succ_iff_lt_or_eq.1 q with h1|h1
     ·exact u.out j h1
     ·rw[h1];exact z.out⟩
    case measure=>simp[intOf];omega
   ·have y:(gt l k != 0)=true:=by simp[hx]
    have p:mP l=false:=by
     cases A:mP l with
     | false=>rfl
     | true=>exact absurd (xD.1 A k m) hx
    have r:=Lib.hid p;clear p hx;go_wp2;go_ret;exact⟨by rw[r.out];rfl,rfl⟩
  ·have p:mP l=true:=xD.2 (λj q=>u.out j (by omega))
   have r:=Lib.hid p;clear p;go_wp2;go_ret;exact⟨by rw[r.out];rfl,rfl⟩
theorem SU (P:Pr) (G:ez P) (w:World) (pv A B:Value) (H:List Int->Prop) (X:List Int) (F I J:Nat->Prop) (S:Sub P H) (p:gy F w pv P) (q:dK I w A (fD P H)) (hx:Ints J w B X) (C:dL P.orders X) :
  Calls Tryz.prog 255 #[pv,A,B] w (fq w λw' v=>∃Y,Own w.heap.size w' v Y/\zg P H (gt (lN (fD P H) P.orders.length (fD P H).length)) X Y):=by
 have hP:=G.v;have K:=hP.n6;have D:=G.ru S;have i:=(G.iV S).1;have E:=G.Js S;obtain⟨vo,vp,vc,rfl,h3⟩:=p;have j:=fB.box h3 28;have a:Ext w (w.alloc (.cells #[vo,vp,vc] 28)):=World.grownBy_alloc _ _ _;have r:=dK.ext q a;have u:=hx.ext a;have k:(w.alloc (.cells #[vo,vp,vc] 28)).heap.size=w.heap.size+1:=by simp
 obtain⟨R,jA,pX,_,_⟩:=Sl.shape q;obtain⟨T,l6,DZ,_,_⟩:=hx.shape;subst pX DZ;obtain⟨y,fN,fM,_,_,hc0,b,e,fP⟩:=j.at;simp only[Nat.zero_add] at b e;have m:=Lib.hid (And.intro i (And.intro E (And.intro C D)));clear i E C D j q hx;go_enter Tryz.func255,Tryz.ntmps255;go_wp2;have L:=Lib.hid k;clear k;generalize z:w.alloc (.cells #[vo,vp,vc] 28)=w0 at *;clear z;have M:∀w',Ext w0 w'->w'.cell? ⟨w.heap.size,0,none⟩=some y:=λw' h=>h.cell hc0 (by simp);have N:∀w',Ext w0 w'->w'.cell? ⟨w.heap.size,1,none⟩=some fN:=λw' h=>h.cell b (by simp);have O:∀w',Ext w0 w'->w'.cell? ⟨w.heap.size,2,none⟩=some fM:=λw' h=>h.cell e (by simp);clear hc0 b e
 go_region_held3 (λw'=>Ext w0 w') (first|exact fk _ _|assumption)
  (first
   | (go_at_call 261;refine Calls.mono (Calls.rel (w0:=w0) (by assumption) (Ho P hP _ _ _ (fD P H) Any Any ⟨_,_,_,rfl,fA.ext fP (by assumption)⟩ (dK.sub (dK.ext r (by assumption)) (λ_ _ _=>trivial)) m.out.1 (by have:=m.out.2.2.2;omega))) ?_;rintro U V ⟨W,rfl,gK,iZ,l⟩;obtain⟨Z,SV,yl,_,_⟩:=Sl.shape l;subst yl)
   | (go_at_call 288;refine Calls.mono (Calls.rel (w0:=w0) (by assumption) (SS P G _ _ _ _ _ X H Any Any Any ⟨_,_,_,rfl,fA.ext fP (by assumption)⟩ l (Ints.sub (Ints.ext u (by assumption)) (λ_ _ _=>trivial)) m.out.2.2.1 (Dc _ _ _) m.out.2.1)) ?_;rintro eB wB ⟨vB,rfl,hgB,jV,Y,nj,JT⟩))
 clear M N O;have Q:=Lib.hid JT;clear JT;go_wp2;go_ret;exact⟨_,rfl,dy a hgB,Y,nj.weak (by have:=L.out;omega),Q.out.rep⟩
theorem OP (P:Pr) (G:ez P) (w:World) (pv D E:Value) (H:List Int->Prop) (X:List Int) (L F I:Nat->Prop) (S:Sub P H) (u:gy L w pv P) (y:dK F w D (fD P H)) (hx:Ints I w E X) (z:dL P.orders X) :
  Calls Tryz.prog 212 #[pv,D,E] w (fq w λ_ v=>∃r:Bool,v=.bool r/\(r=true↔H X)):=by
 have M:=G.v.n6;have J:=G.Js S;obtain⟨vo,vp,vc,rfl,h3⟩:=u;have j:=fB.box h3 28;have b:Ext w (w.alloc (.cells #[vo,vp,vc] 28)):=World.grownBy_alloc _ _ _;have A:=dK.ext y b;have B:=hx.ext b;obtain⟨T,jA,pX,_,_⟩:=Sl.shape y;obtain⟨U,l6,DZ,_,_⟩:=hx.shape;subst pX DZ;obtain⟨N,fN,fM,_,_,hc0,k,l,fP⟩:=j.at;simp only[Nat.zero_add] at k l;have e:=SU P G (w.alloc (.cells #[vo,vp,vc] 28)) _ _ _ H X Any F I S ⟨_,_,_,rfl,fP⟩ A B z;have K:=Lib.hid (And.intro J z);clear J z j y hx;go_enter Tryz.func212,Tryz.ntmps212;go_wp2_with fail
 clear hc0 k l;refine Calls.mono e ?_;rintro V O ⟨v1,rfl,hg1,Y,hO,m⟩;clear e;have p:=hO.ints (by rw[m.1.1];omega);obtain⟨W,nM,rfl,_,_⟩:=p.shape;have a:=(Jt m.1).trans (G.Rx K.out.1 K.out.2 m);have i:=CX _ _ O Any p;cases q:mP Y with
 | true=>
  rw[q] at a i;have C:=Lib.hid a;clear a q m;go_wp2_with fail
  refine Calls.mono i ?_;rintro Q R ⟨rfl,rfl⟩;clear i;go_wp2;go_ret;exact⟨_,rfl,dy b hg1,true,rfl,by simpa using C.out⟩
 | false=>
  rw[q] at a i;have C:=Lib.hid a;clear a q m;go_wp2_with fail
  refine Calls.mono i ?_;rintro Q R ⟨rfl,rfl⟩;clear i;go_wp2;go_ret;exact⟨_,rfl,dy b hg1,false,rfl,by simpa using C.out⟩
theorem AW (P:Pr) (hP:Valid P) (w:World) (pv J:Value) (U:List (List Int)) (R S:Nat->Prop) (y:gy R w pv P) (A:dK S w J U) (K:iY P U) (hl:U.length<=100) :
  Calls Tryz.prog 211 #[pv,J] w (fq w λ_ v=>v=.int .i64 (fJ P U U.length)):=by
 have T:=hP.n6;obtain⟨vo,vp,vc,rfl,h3⟩:=y;have j:=fB.box h3 28;have k:Ext w (w.alloc (.cells #[vo,vp,vc] 28)):=World.grownBy_alloc _ _ _;have B:=dK.ext A k;obtain⟨ao,iA,C,D⟩:=j.iO;obtain⟨au,jA,rfl,_,_⟩:=Sl.shape A;have L:=Lib.hid K;clear K j A;go_enter Tryz.func211,Tryz.ntmps211;go_wp2;generalize E:w.alloc (.cells #[vo,vp,vc] 28)=w0 at *;clear E;go_loopw [5,6] (λmv F wr=>∃i:Nat,mv=.int .i64 (fJ P U i)/\F=.int .i64 i/\i<=U.length/\Ext w0 wr) (λ_ F _=>U.length-(intOf F).toNat)
 case atStart=>exact⟨0,rfl,rfl,by omega,Ext.refl _⟩
 case round=>
  obtain⟨i,rfl,rfl,hi,l⟩:=hrel;by_cases e:i<U.length
  ·have M:(i:Int)<U.length:=by omega
   obtain⟨b,off,a2,m,rfl,_,_,G,N⟩:=dK.at (dK.ext B l) i e;have a:fJ P U (i+1)=fJ P U i*gt P.orders (dep (gt U i)):=rfl;have q:=ry hP L.out (i+1) e;rw[a] at q;obtain⟨z,r⟩:∃z,z=gt U i:=⟨_,rfl⟩;rw[<-r] at G N a q;obtain⟨d,u⟩:∃d,d=dep z:=⟨_,rfl⟩;rw[<-u] at a q;have H:d<P.orders.length:=by rw[u,r];exact(L.out.1 _ (fT e)).2.1
   have V:=Lib.hid (And.intro u r);clear u r;have O:(d:Int)<P.orders.length:=by omega
   obtain⟨Q,oo,rfl,_,_,hcd⟩:=Ints.at (D.ext l) d H;have hw:IntKind.i64.wrap (fJ P U i*gt P.orders d)=fJ P U i*gt P.orders d:=IntWalk.i64_in _ (by omega);have W:=Lib.hid a;clear a q;have X:∀w',Ext wr w'->w'.cell? ⟨w.heap.size,0,none⟩=some (.slice (some ⟨Q,oo,none⟩) P.orders.length iA):=λw' h=>(dy l h).cell C (by simp);have Y:∀w',Ext wr w'->w'.cell? ⟨b,off+i,none⟩=some (.slice a2 z.length m):=λw' h=>h.cell G (by simp);have Z:∀w',Ext wr w'->w'.cell? ⟨Q,oo+d,none⟩=some (.int .i64 (gt P.orders d)):=λw' h=>h.cell hcd (by simp);clear G hcd;go_wp2
   go_region_held3 (λw'=>Ext wr w') (first|exact fk _ _|assumption)
    (first
     | (go_at_call 251;refine Calls.mono (Calls.rel (w0:=wr) (by first|exact fk _ _|assumption) (zw _ z _ Any (Ints.sub (Ints.ext N (by first|exact fk _ _|assumption)) (λ_ _ _=>trivial)))) ?_;rintro eE wE ⟨vE,rfl,tW,mM,p⟩;rw[<-V.out.1] at p;subst p))
   clear X Y Z;go_wp2;go_roundw
   case rel=>exact⟨i+1,by rw[W.out],by go_num,by omega,dy l tW⟩
   case measure=>simp[intOf];omega
  ·have I:i=U.length:=by omega
   subst I;go_wp2;go_ret;exact⟨_,rfl,dy k l,rfl⟩
end Go.Proofs.YtoakmefajbbggaaGreat
namespace Go.Proofs.YtoakmefajbbggaaGreat
def gV (P:Pr) (U:List (List Int)):List Int:=U.map (λz=>gt P.orders (dep z))
theorem D1 (P:Pr) (U:List (List Int)):(gV P U).length=U.length:=by unfold gV;rw[List.length_map]
theorem xw (P:Pr) (U:List (List Int)) (i:Nat) (a:i<U.length):gt (gV P U) i=gt P.orders (dep (gt U i)):=by unfold gV;rw[jM _ _ _ a]
def lT (P:Pr) (U:List (List Int)) (a:List Int):Nat->List Int
 | 0=>zeros P.orders.length
 | k+1=>fC P (lT P U a k) (iT P (gt U k) (gt a k))
def kI (o:List Int):Pr:=⟨o,List.replicate o.length (zeros o.length),(List.range o.length).map (λi=>List.replicate (o.length-1-i) (zeros o.length))⟩
theorem JU {α:Type} [Inhabited α] (n:Nat) (x:α) (i:Nat) (a:i<n):gt (List.replicate n x) i=x:=by simp[gt,a]
theorem JV {o:List Int}(p:o.length<=6) (l:∀i,i<o.length->gt o i=2\/gt o i=3\/gt o i=5\/gt o i=7) (q:gI o o.length<=729):Valid (kI o):=by
 have m:dL o (zeros o.length):=⟨by simp[zeros],λi a=>by
  have:gt (zeros o.length) i=0:=jw _ _;rw[this];rcases l i a with h|h|h|h<;>rw[h]<;>decide⟩
 have b:∀i,nY i (zeros o.length):=λi j _=>jw _ _;refine⟨q,p,by simp[kI],by simp[kI],l,λi a => ?_,λi a => ?_⟩
 ·show dL o (gt (List.replicate o.length (zeros o.length)) i)/\nY i (gt (List.replicate o.length (zeros o.length)) i)
  rw[JU o.length _ _ a];exact⟨m,b i⟩
 ·have e:gt (kI o).conj i=List.replicate (o.length-1-i) (zeros o.length):=by
   unfold kI;have r:i<(List.range o.length).length:=by rw[List.length_range];exact a
   have:=jM (λi=>List.replicate (o.length-1-i) (zeros o.length)) (List.range o.length) i r;rw[this];simp[gt,show i<o.length from a]
  rw[e];refine⟨by simp[kI],λk hk => ?_⟩;rw[JU (o.length-1-i) _ _ hk];exact⟨m,b i⟩
theorem SX {P:Pr}{U:List (List Int)}{a a':List Int}(k:Nat) (h:∀j,j<k->gt a j=gt a' j):lT P U a k=lT P U a' k:=by
 induction k with
 | zero=>rfl
 | succ k b=>
  simp only[lT];rw[b (λj e=>h j (by omega)),h k (by omega)]
theorem D2 (P:Pr) (U:List (List Int)) (k:Nat) (hk:k<=U.length):gI (gV P U) k=fJ P U k:=by
 induction k with
 | zero=>rfl
 | succ k a=>simp only[gI,fJ];rw[a (by omega),xw P U k (by omega)]
section
variable {P:Pr}(G:ez P)
include G
theorem ez.D3 {U:List (List Int)}(b:∀z∈U,dL P.orders z) (a:List Int) (k:Nat) (hk:k<=U.length):dL P.orders (lT P U a k):=by
 induction k with
 | zero=>exact G.jP
 | succ k e=>exact G.gz (e (by omega)) (G.sV (b _ (fT (by omega))) _)
theorem ez.SY {U:List (List Int)}(l:iY P U) (x:List Int):∀k,k<=U.length->(x∈lF P U k↔∃a:List Int,a.length=U.length/\(∀j,j<k->0<=gt a j/\gt a j<gt P.orders (dep (gt U j)))/\x=lT P U a k):=by
 intro k;induction k generalizing x with
 | zero=>
  intro _;simp only[lF,List.mem_singleton,lT];exact⟨λh=>⟨List.replicate U.length 0,by simp,λj b=>by omega,h⟩,λ⟨_,_,_,h⟩=>h⟩
 | succ k i=>
  intro hk;have m:=(l.1 _ (fT (show k<U.length by omega))).2.1;have p:=G.v.gh _ m;simp only[lF,List.mem_flatMap,rK,List.mem_map,List.mem_range];constructor
  ·rintro ⟨y,hy,t,ht,rfl⟩
   obtain⟨a,ha,hb,rfl⟩:=(i y (by omega)).1 hy;refine⟨a.set k t,by simp[ha],λj b => ?_,?_⟩
   ·rcases Nat.lt_succ_iff_lt_or_eq.1 b with h|h
    ·rw[iy _ _ _ _ (by omega)];exact hb j h
    ·subst h;rw[iN _ _ _ (by omega)];omega
   ·simp only[lT]
    rw[iN _ _ _ (by omega),Bq _ _ _ (by omega),SX (a:=a.set k t) (a':=a) k (λj b=>iy _ _ _ _ (by omega))];rfl
  ·rintro ⟨a,ha,hb,rfl⟩
   have e:=hb k (by omega);refine⟨lT P U a k,(i _ (by omega)).2 ⟨a,ha,λj b=>hb j (by omega),rfl⟩,(gt a k).toNat,by omega,?_⟩;simp only[lT];rw[Bq _ _ _ e.1]
theorem ez.SZ {H:List Int->Prop}(S:Sub P H) (x:List Int):H x↔∃m:Int,0<=m/\m<fJ P (fD P H) (fD P H).length/\x=lT P (fD P H) (fF (kI (gV P (fD P H))) m) (fD P H).length:=by
 obtain⟨h1,r,u⟩:=G.iV S;obtain⟨U,w⟩:∃U,U=fD P H:=⟨_,rfl⟩;rw[<-w] at h1 r u ⊢;have y:U.length<=P.orders.length:=by rw[w];exact G.ru S
 have B:=G.v.n6;have b:=D1 P U
 have l:Valid (kI (gV P U)):=by
  refine JV (by omega) (λi p => ?_) ?_
  ·rw [xw P U i (by omega)]
   exact G.v.ord _ (h1.1 _ (fT (by omega))).2.1
  ·rw [b,D2 P U U.length (Nat.le_refl _)]
   exact(ry G.v h1 U.length (Nat.le_refl _)).2
 have hO:eW (kI (gV P U))=fJ P U U.length:=by
  unfold eW;show gI (gV P U) (gV P U).length=_
  rw[b];exact D2 P U U.length (Nat.le_refl _)
 rw[<-G.DO S h1 r u x,G.SY h1 x U.length (Nat.le_refl _)];constructor
 ·rintro ⟨a,ha,hb,rfl⟩
  have e:dL (kI (gV P U)).orders a:=⟨by rw[ha];exact b.symm,λi p=>by
   have p:i<(gV P U).length:=p;show _/\_<gt (gV P U) i
   rw[xw P U i (by omega)];exact hb i (by omega)⟩
  have k:=oB l e;refine⟨num _ a,k.1,by rw[<-hO];exact k.2,?_⟩;rw[uX l e]
 ·rintro ⟨m,h4,h5,rfl⟩
  have z:=rz l m h4;have q:(fF (kI (gV P U)) m).length=(gV P U).length:=z.1;refine⟨_,by rw[q,b],λj C => ?_,rfl⟩;have A:0<=gt (fF (kI (gV P U)) m) j/\gt (fF (kI (gV P U)) m) j<gt (gV P U) j:=z.2 j (by show j<(gV P U).length;omega);rw[xw P U j C] at A;exact A
end
end Go.Proofs.YtoakmefajbbggaaGreat
namespace Go.Proofs.YtoakmefajbbggaaGreat
open Go.RowKit
theorem S0 (n:Nat) (r:Nat->List Int):lD (n+1) r=lD n r++(if r n=[] then [] else [r n]):=by
 unfold lD;rw[List.range_succ,List.filterMap_append];congr 1
 by_cases h:r n=[]<;>simp[h]
theorem S1 (n:Nat) (r:Nat->List Int):(lD n r).length<=n:=by rw[zk];exact Bn _ _ _
theorem gL.rows {bad:Nat->Prop}{B:Nat}{w:World}{v:Value}{xs:List (List Int)}(h:gL bad B w v xs):dK Any w v xs:=by
 obtain⟨j,b,k,l⟩:=h;rcases k with⟨rfl,rfl⟩|⟨g,off,cap,cur,rfl,hb,e,hnc,hcm,hsz,hc⟩
 ·have:xs=[]:=List.eq_nil_of_length_eq_zero (by simpa using b.symm)
  subst this;exact⟨none,0,rfl,⟨by simp,by simp,λ_=>rfl⟩,λi a=>by simp at a⟩
 ·refine ⟨_,cap,by rw[b],⟨by omega,by unfold maxLen at hcm;omega,λh=>by cases h⟩,λi a=>⟨g,off,gt j i,rfl,trivial,(Array.getElem?_eq_some_iff.1 e).1,?_,Ints.sub (l i a) (λ_ _ _=>trivial)⟩⟩
  simp only[World.cell?,e,Option.isSome_none,Bool.false_eq_true,if_false];exact hc i (by omega)
theorem gL.lit (bad:Nat->Prop) (B:Nat) (w:World) (hB:B<=w.heap.size):gL bad B (w.alloc (.cells #[] 24)) (.slice (some ⟨w.heap.size,0,none⟩) 0 0) []:=
 ⟨[],rfl,iH.of (World.ownsRow_lit w #[] 0 hB (by decide) rfl),λi a=>by simp at a⟩
theorem kN.congr {P:Pr}{H:List Int->Prop}{b r k:Nat->List Int}{m:Nat}(h:kN P H b r m) (j:∀e,m<=e->e<P.orders.length->k e=r e):kN P H b k m:=
 ⟨λe h1 a=>by rw[j e h1 a];exact h.nil e h1 a,λe h1 a i=>by rw[j e h1 a] at i ⊢;exact h.mem e h1 a i,
  λe e' h1 a i l p=>by rw[j e h1 (by omega)] at l ⊢;rw[j e' (by omega) i] at p;exact h.red e e' h1 a i l p⟩
theorem gL.weak {bad:Nat->Prop}{B B':Nat}{w:World}{v:Value}{xs:List (List Int)}(h:gL bad B w v xs) (a:B'<=B):gL bad B' w v xs:=by
 obtain⟨b,hl,hq,hr⟩:=h;exact⟨b,hl,hq.weak a,hr⟩
theorem S2 (P:Pr) (G:ez P) (w:World) (pv tv:Value) (b:List (List Int)) (H:List Int->Prop) (Sp Sb:Nat->Prop) (aP:gy Sp w pv P) (ht:dK Sb w tv b) (S:b.length=P.orders.length) (hI:Ind P H (gt b)) (K:Nat->Prop) (aj:∀k,K k->k<w.heap.size/\¬Sb k) :
  Calls Tryz.prog 260 #[pv,tv] w (fq w λw' v=>gL K w.heap.size w' v (fD P H)):=by
 have hP:=G.v;have bl:=hP.n6;obtain⟨vo,vp,vc,rfl,h3⟩:=aP;have ak:=fB.box h3 28;have L:Ext w (w.alloc (.cells #[vo,vp,vc] 28)):=World.grownBy_alloc _ _ _;have al:(w.alloc (.cells #[vo,vp,vc] 28)).heap.size=w.heap.size+1:=by simp
 obtain⟨at_,JS,am,_,_⟩:=Sl.shape ht;rw[S] at am;subst am;have HI:=Lib.hid (And.intro hI S);clear hI S;obtain⟨aQ,fN,fM,_,_,aR,an,ao,ap⟩:=ak.at;simp only[Nat.zero_add] at an ao;clear ak;have aq:IntKind.i64.wrap ((P.orders.length:Int)-1)=(P.orders.length:Int)-1:=IntWalk.i64_in _ (by omega);go_enter Tryz.func260,Tryz.ntmps260;go_wp2_with (first|(at_make;refine Bk rfl _ _ rfl w.heap.size P.orders.length (w.heap.size+1) (by simp) _ rfl rfl rfl (by omega) (by omega) ?_;intro w1 ar aS bg)|fail)
 clear aq;have HS:=Lib.hid al;clear al;generalize aT:w.alloc (.cells #[vo,vp,vc] 28)=w0 at *;clear aT;have E:=ar K;clear ar;go_loopw [6] (λdv wr=>∃(m:Nat) (dl:List (List Int)),dv=.int .i64 ((m:Int)-1)/\m<=P.orders.length/\Ext w0 wr/\jD w.heap.size K wr (w.heap.size+1) P.orders.length dl/\Hid (kN P H (gt b) (gt dl) m/\∀e,e<m->gt dl e=[])) (λdv _=>(intOf dv+1).toNat)
 case atStart=>exact⟨P.orders.length,_,rfl,Nat.le_refl _,aS,E,Lib.hid ⟨⟨λe h1 h2=>by omega,λe h1 h2=>by omega,λe e' h1 h2 h3=>by omega⟩,λe he=>by simp[gt,he]⟩⟩
 case round =>
  clear E;obtain⟨m,dl,rfl,hm,T,E,M⟩:=hrel;by_cases au:m=0
  ·subst au
   have av:((0:Nat):Int)-1 = -1:=rfl;rw[av];have F:=G.DK HI.out.1 M.out.1;rw[<-zk] at F;have HE:=Lib.hid F;clear F;have bo:=E.len;have aV:=E.rows (by omega);obtain⟨N,rfl⟩:∃N:World,N=wr:=⟨_,rfl⟩;go_wp2;go_loopw [9,10] (λov iv wr=>∃(i:Nat) (v4:Value),v4=ov/\iv=.int .i64 i/\i<=P.orders.length/\Ext N wr/\gL K N.heap.size wr v4 (lD i (gt dl))) (λ_ iv _=>P.orders.length-(intOf iv).toNat)
   case atStart=>exact⟨0,_,rfl,rfl,by omega,World.grownBy_alloc _ _ _,gL.lit _ _ _ (Nat.le_refl _)⟩
   case round=>
    obtain⟨i,v4,rfl,rfl,hi,r,U⟩:=hrel;by_cases l:i<P.orders.length
    ·have ax:(i:Int)<P.orders.length:=by omega
     have p:=S0 i (gt dl);obtain⟨_,C⟩:=E.at i l;rcases C with⟨h0,hcell⟩|⟨q,ab,I,hcell,V⟩
     ·rw [if_pos h0,List.append_nil] at p
      have W:=Lib.hid p;clear p h0;have A:=r.cell hcell (by simp);go_wp2;go_roundw
      case rel=>exact⟨i+1,v4,rfl,by go_num,by omega,r,by rw[W.out];exact U⟩
      case measure=>simp[intOf];omega
     ·rw [if_neg q] at p
      have aY:(0:Int)<(gt dl i).length:=by
       have:0<(gt dl i).length:=List.length_pos_iff.2 q;omega
      have bq:=S1 i (gt dl);have W:=Lib.hid p;clear p q;have A:=r.cell hcell (by simp);have aZ:Ints (λk=>¬K k/\v4.ownBlock≠some k) wr (.slice (some ab) (gt dl i).length I) (gt dl i):=Ints.mono V (λk a0 hk=>⟨⟨a0.2,λe=>by have:=(U.lt k e).1;omega⟩,Nat.lt_of_lt_of_le hk r.size,r.block k hk (by simp)⟩);go_wp2_with (first|(at_builtin;refine zj rfl _ _ rfl K N.heap.size v4 _ (lD i (gt dl)) (gt dl i) rfl wr U rfl aZ rfl (by omega) r.size ?_;intro v5 w5 a1 O bs;have aB:=fu r O (λj hj l=>by have:=(U.lt j hj).1;omega))|fail)
      go_roundw
      case rel=>exact⟨i+1,v5,rfl,by go_num,by omega,aB,by rw[W.out];exact a1⟩
      case measure=>simp[intOf];omega
    ·have a4:i=P.orders.length:=by omega
     subst a4;rw[HE.out] at U;obtain⟨az,rC,lJ,_⟩:=U.shape;subst lJ;go_wp2;go_ret;exact⟨_,rfl,dy L (dy T r),U.weak (dy L T).size⟩
  ·obtain ⟨d,rfl⟩:∃d,m=d+1:=⟨m-1,by omega⟩
   rw[show(((d+1:Nat)):Int)-1=d by omega];have X:d<P.orders.length:=by omega
   have bh:(d:Int)<P.orders.length:=by omega
   have bt:(0:Int)<=d:=by omega
   have bu:IntKind.i64.wrap ((d:Int)-1)=(d:Int)-1:=IntWalk.i64_in _ (by omega);obtain⟨bb,off,a2,aC,hat,_,_,hc,hr⟩:=dK.at ht d (by rw[HI.out.2];exact X);subst hat;have Z:=dy L T;have A:=Z.cell hc (by simp);clear hc au;by_cases hb:gt b d=[]
   ·have aD:((((gt b d).length:Nat):Int) == 0)=true:=by rw[hb];rfl
    have J:kN P H (gt b) (gt dl) d:=(Je (k:=P.orders.length-(d+1)) M.out.1 hb).1.congr (λe h1 h2=>by
     by_cases he:e=d
     ·subst he;rw[if_pos rfl];exact M.out.2 e (by omega)
     ·rw[if_neg he])
    have ac:Hid (kN P H (gt b) (gt dl) d/\∀e,e<d->gt dl e=[]):=Lib.hid ⟨J,λe he=>M.out.2 e (by omega)⟩;clear J hb;go_wp2;go_roundw
    case rel=>exact⟨d,dl,rfl,by omega,T,E,ac⟩
    case measure=>simp[intOf]
   ·have aD:((((gt b d).length:Nat):Int) == 0)=false:=by
     have:0<(gt b d).length:=List.length_pos_iff.2 hb;simp;omega
    have aE:dL P.orders (gt b d):=(HI.out.1.mem d X hb).2.1.1;have Q:Ints (λk=>k≠w.heap.size+1/\¬K k) wr (.slice a2 (gt b d).length aC) (gt b d):=Ints.mono hr (λk a5 hk=>⟨⟨by omega,λh=>(aj k h).2 a5⟩,Nat.lt_of_lt_of_le hk Z.size,Z.block k hk (by simp)⟩);have HB:=Lib.hid (And.intro hb aE);clear hb aE;obtain⟨N,rfl⟩:∃N:World,N=wr:=⟨_,rfl⟩;go_wp2;clear aD A;go_loopw [7,8] (λxv ev wr=>∃(e:Nat) (Y:List Int),ev=.int .i64 e/\d+1<=e/\e<=P.orders.length/\Ext N wr/\Ints (λk=>k≠w.heap.size+1/\¬K k) wr xv Y/\Hid (rL P (gt dl) (d+1) (gt b d) e Y)) (λ_ ev _=>P.orders.length-(intOf ev).toNat)
    case atStart=>exact⟨d+1,_,by go_num,Nat.le_refl _,by omega,Ext.refl _,Q,Lib.hid (G.RB HB.out.2)⟩
    case round=>
     clear Q;obtain⟨e,Y,rfl,VF,he,a,hY,hF⟩:=hrel;have B:=hF.out.vec;have ad:Y.length=P.orders.length:=B.1;obtain⟨ay,R,aF,_,_⟩:=hY.shape;rw[ad] at aF;subst aF;by_cases l:e<P.orders.length
     ·have ax:(e:Int)<P.orders.length:=by omega
      have bw:(0:Int)<=e:=by omega
      obtain⟨a7,oy,rfl,_,_,sZ⟩:=Ints.at hY e (by omega);obtain⟨_,C⟩:=E.at e l;rcases C with⟨h0,hcell⟩|⟨q,ab,I,hcell,V⟩
      ·have D:=Lib.hid (hF.out.skip (.inl h0));clear h0 B
       have A:=a.cell hcell (by simp);go_wp2;go_roundw
       case rel=>exact⟨e+1,Y,by go_num,by omega,by omega,a,hY,D⟩
       case measure=>simp[intOf];omega
      ·have aY:(0:Int)<(gt dl e).length:=by
        have:0<(gt dl e).length:=List.length_pos_iff.2 q;omega
       have A:=a.cell hcell (by simp);by_cases hy:gt Y e=0
       ·have a8:(gt Y e != 0)=false:=by simp[hy]
        have D:=Lib.hid (hF.out.skip (.inr hy));clear B hy q;go_wp2;go_roundw
        case rel=>exact⟨e+1,Y,by go_num,by omega,by omega,a,hY,D⟩
        case measure=>simp[intOf];omega
       ·have a8:(gt Y e != 0)=true:=by simp[hy]
        have aG:=B.2 e l;have ho:=hP.gh e l;have aq:IntKind.i64.wrap (-(gt Y e)) = -(gt Y e):=IntWalk.i64_in _ (by omega);obtain⟨_,m2,m3⟩:=M.out.1.mem e (by omega) l q;have D:=Lib.hid (G.RD HB.out.2 (by omega) l q ⟨m2,m3⟩ hF.out);have ae:=G.sV m2.1 (-(gt Y e));have aH:(iT P (gt dl e) (-(gt Y e))).length<=6:=by rw[ae.1];omega
        have HD:=Lib.hid (And.intro m2.1 (And.intro ae (And.intro aH (And.intro B (And.intro aG ho)))));clear m2 m3 ae aH B aG ho q hy;have z:=dy T a;have e1:∀w',Ext wr w'->w'.cell? ⟨w.heap.size,0,none⟩=some aQ:=λw' h=>(dy z h).cell aR (by simp);have e2:∀w',Ext wr w'->w'.cell? ⟨w.heap.size,1,none⟩=some fN:=λw' h=>(dy z h).cell an (by simp);have e3:∀w',Ext wr w'->w'.cell? ⟨w.heap.size,2,none⟩=some fM:=λw' h=>(dy z h).cell ao (by simp);have e4:∀w',Ext wr w'->w'.cell? ⟨w.heap.size+1,e,none⟩=some (.slice (some ab) (gt dl e).length I):=λw' h=>h.cell A (by simp);have e5:∀w',Ext wr w'->w'.cell? ⟨a7,oy+e,none⟩=some (.int .i64 (gt Y e)):=λw' h=>h.cell sZ (by simp);go_wp2;clear A sZ hcell
        go_region_held3 (λw'=>Ext wr w') (first|exact fk _ _|assumption)
         (first
          | (go_at_call 257;refine Calls.mono (Calls.rel (w0:=wr) (by assumption) (xu P G _ _ _ (gt dl e) _ Any Any ⟨_,_,_,rfl,fA.ext (fA.ext ap z) (by assumption)⟩ (Ints.sub (Ints.ext (Ints.ext V a) (by assumption)) (λ_ _ _=>trivial)) HD.out.1 (by have:=HD.out.2.2.2.2.1;have:=HD.out.2.2.2.2.2;omega))) ?_;rintro eA wA ⟨vA,rfl,gK,iZ,mj⟩;have aI:=mj.ints (by have:=HD.out.2.2.1;omega))
          | (go_at_call 169;refine Calls.mono (Calls.rel (w0:=wr) (by assumption) (qN P hP _ _ _ _ Y _ Any Any Any ⟨_,_,_,rfl,fA.ext (fA.ext ap z) (by assumption)⟩ (Ints.sub (Ints.ext hY (by assumption)) (λ_ _ _=>trivial)) aI HD.out.2.2.2.1 HD.out.2.1)) ?_;rintro eB wB ⟨vB,rfl,hgB,jV,aJ⟩))
        clear e1 e2 e3 e4 e5;have a9:Ints (λk=>k≠w.heap.size+1/\¬K k) wB vB (fC P Y (iT P (gt dl e) (-(gt Y e)))):=iD aJ (by rw[D.out.vec.1];omega) (λk hk=>by have h1:=(aJ.lt k hk).1;have:=E.lt;have:=a.size;exact⟨by omega,λh=>by have:=(aj k h).1;have:=L.size;have:=T.size;omega⟩);go_wp2;go_roundw
        case rel=>exact⟨e+1,_,by go_num,by omega,by omega,dy a hgB,a9,D⟩
        case measure=>simp[intOf];omega
     ·have a':e=P.orders.length:=by omega
      subst a';have aK:Y≠[]:=λh=>by rw[h] at ad;simp at ad;omega
      have af:=E.ext a;obtain⟨ba,O⟩:=af.put d (u := .slice ay P.orders.length R) (y:=Y) (Ints.sub hY (λk hk _=>hk)) aK;obtain⟨bF,C⟩:=af.at d X;have bG:wr.cell? ⟨w.heap.size+1,d,none⟩=some (.slice none 0 0):=C.elim (λh=>h.2) (λh=>absurd (M.out.2 d (by omega)) h.1);have p:=(G.Jd (k:=P.orders.length-(d+1)) HI.out.1 M.out.1 (by omega) HB.out.1 (hF.out.RF M.out.1 (by omega))).1
      have J:kN P H (gt b) (gt (dl.set d Y)) d:=p.congr (λi h1 h2=>by
       by_cases hi:i=d
       ·subst hi;rw[if_pos rfl,iN _ _ _ (by rw[E.len];omega)]
       ·rw[if_neg hi,iy _ _ _ _ (λh=>hi h.symm)])
      have ac:Hid (kN P H (gt b) (gt (dl.set d Y)) d/\∀i,i<d->gt (dl.set d Y) i=[]):=Lib.hid ⟨J,λi hi=>by rw[iy _ _ _ _ (by omega)];exact M.out.2 i (by omega)⟩;have aL:Ext w0 (wr.setCell ⟨w.heap.size+1,d,none⟩ (.slice ay P.orders.length R)):=fu (dy T a) O (λj hj l=>by cases hj;have:=HS.out;omega);clear C p J B af O;go_wp2;go_roundw
      case rel=>exact⟨d,dl.set d Y,rfl,by omega,aL,ba,ac⟩
      case measure=>simp[intOf]
end Go.Proofs.YtoakmefajbbggaaGreat
