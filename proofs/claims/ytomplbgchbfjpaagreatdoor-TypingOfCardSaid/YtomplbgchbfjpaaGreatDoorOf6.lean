/- Contracts of the functions that the law reaches, part 6. -/
import Derived.Test.YtomplbgchbfjpaaGreatDoorOf5
set_option linter.unusedVariables false
set_option linter.unusedSimpArgs false
namespace Go.Proofs.YtomplbgchbfjpaaGreatDoor
open _root_.Go.Proofs.Tryz
open Go.RowKit Lx Sx
set_option maxRecDepth 100000
set_option maxHeartbeats 1000000
abbrev FE:=ai
def qX(a b:Int):Int:=if a<b then-1 else if b<a then 1 else 0
def gh:YI->YI->Int
 |[],[]=>0
 |[],_::_=>-1
 |_::_,[]=>1
 |a::r,b::s=>if qX a b≠0 then qX a b else gh r s
def lS(a b:FE):Int:=if qX a.At.Module b.At.Module≠0 then qX a.At.Module b.At.Module else if gh a.At.Path b.At.Path≠0 then gh a.At.Path b.At.Path else qX a.Kind b.Kind
theorem ifz{c d:Int}(h:c=0):(if c≠0 then c else d)=d:=if_neg (by simp[h])
theorem ifn{c d:Int}(h:c≠0):(if c≠0 then c else d)=c:=if_pos h
structure Tot {α:Type} (c:α->α->Int):Prop where
 eq:∀a b,c a b=0↔a=b
 an:∀a b,c a b<0↔0<c b a
 tr:∀a b d,c a b<0->c b d<0->c a d<0
theorem zf:Tot qX:=⟨λa b=>by unfold qX;split<;>(try split)<;>omega,λa b=>by unfold qX;(repeat' split)<;>omega,λa b d=>by unfold qX;(repeat' split)<;>omega⟩
theorem Jq:∀a b:YI,gh a b=0↔a=b
 |[],[]=>by simp[gh]
 |[],_::_=>by simp[gh]
 |_::_,[]=>by simp[gh]
 | a::r,b::s=>by
  simp only[gh,List.cons.injEq];have h1:=zf.eq a b;have h2:=Jq r s;split
  ·rename_i h;exact⟨λe=>absurd e h,λe=>absurd (h1.2 e.1) h⟩
  ·rename_i h;have h':qX a b=0:=Decidable.not_not.1 h;exact⟨λe=>⟨h1.1 h',h2.1 e⟩,λe=>h2.2 e.2⟩
theorem IW:∀a b:YI,gh a b<0↔0<gh b a
 |[],[]=>by simp[gh]
 |[],_::_=>by simp[gh]
 |_::_,[]=>by simp[gh]
 | a::r,b::s=>by
  have h1:=zf.an a b;have h2:=zf.eq a b;have h3:=zf.eq b a;have h4:=IW r s;simp only[gh];by_cases h:a=b
  ·subst h;rw[ifz<|h2.2 rfl,ifz<|h2.2 rfl];exact h4
  ·rw[ifn λe=>h<|h2.1 e,ifn λe=>h (h3.1 e).symm];exact h1
theorem Js:∀a b d:YI,gh a b<0->gh b d<0->gh a d<0
 |[],[],d,h,_=>by simp[gh]at h
 |[],_::_,[],_,h=>by simp[gh]at h
 |[],_::_,_::_,_,_=>by simp[gh]
 |_::_,[],d,h,_=>by simp[gh]at h
 |_::_,_::_,[],_,h=>by simp[gh]at h
 | a::r,b::s,d::t,h,k=>by
  simp only[gh]at h k⊢;have h1:=zf.eq a b;have h2:=zf.eq b d;have h3:=zf.eq a d;have h4:=zf.tr a b d;by_cases e:a=b
  ·subst e;rw[ifz<|h1.2 rfl]at h;by_cases e2:a=d
   ·subst e2;rw[ifz<|h1.2 rfl]at k⊢;exact Js r s t h k
   ·rw[ifn λx=>e2<|h3.1 x]at k⊢;exact k
  ·rw[ifn λx=>e<|h1.1 x]at h;by_cases e2:b=d
   ·subst e2;rw[ifn λx=>e<|h1.1 x];exact h
   ·rw[ifn λx=>e2<|h2.1 x]at k;have :=h4 h k;rw[ifn (c:=qX a d)<|by omega];exact this
theorem Uv:Tot gh:=⟨Jq,IW,Js⟩
theorem uz:Tot lS:=by
 have z:=zf;have l:=Uv;refine⟨λa b=>?_,λa b=>?_,λa b d=>?_⟩
 ·obtain⟨⟨m,p⟩,k⟩:=a;obtain⟨⟨m',p'⟩,k'⟩:=b;simp only[lS,ai.mk.injEq,cv.mk.injEq];have h1:=z.eq m m';have h2:=l.eq p p';have h3:=z.eq k k';by_cases e1:qX m m'=0
  ·rw[ifz e1];by_cases e2:gh p p'=0
   ·rw[ifz e2];exact⟨λe=>⟨⟨h1.1 e1,h2.1 e2⟩,h3.1 e⟩,λe=>h3.2 e.2⟩
   ·rw[ifn e2];exact⟨λe=>absurd e e2,λe=>absurd (h2.2 e.1.2) e2⟩
  ·rw[ifn e1];exact⟨λe=>absurd e e1,λe=>absurd (h1.2 e.1.1) e1⟩
 ·simp only[lS];have h1:=z.eq a.At.Module b.At.Module;have h1':=z.eq b.At.Module a.At.Module;have h2:=l.eq a.At.Path b.At.Path;have h2':=l.eq b.At.Path a.At.Path;have g1:=z.an a.At.Module b.At.Module;have g2:=l.an a.At.Path b.At.Path;have g3:=z.an a.Kind b.Kind;by_cases e1:a.At.Module=b.At.Module
  ·rw[ifz<|h1.2 e1,ifz<|h1'.2 e1.symm];by_cases e2:a.At.Path=b.At.Path
   ·rw[ifz<|h2.2 e2,ifz<|h2'.2 e2.symm];exact g3
   ·rw[ifn λe=>e2<|h2.1 e,ifn λe=>e2 (h2'.1 e).symm];exact g2
  ·rw[ifn λe=>e1<|h1.1 e,ifn λe=>e1 (h1'.1 e).symm];exact g1
 ·simp only[lS];have h1:=z.eq a.At.Module b.At.Module;have h2:=z.eq b.At.Module d.At.Module;have h3:=z.eq a.At.Module d.At.Module;have p1:=l.eq a.At.Path b.At.Path;have p2:=l.eq b.At.Path d.At.Path;have p3:=l.eq a.At.Path d.At.Path;have t1:=z.tr a.At.Module b.At.Module d.At.Module;have t2:=l.tr a.At.Path b.At.Path d.At.Path;have t3:=z.tr a.Kind b.Kind d.Kind;intro h k;by_cases e1:a.At.Module=b.At.Module
  ·rw [ifz<|h1.2 e1]at h;by_cases e2:b.At.Module=d.At.Module
   ·rw[ifz<|h2.2 e2]at k;rw[ifz<|h3.2 (e1.trans e2)];by_cases f1:a.At.Path=b.At.Path
    ·rw[ifz<|p1.2 f1]at h;by_cases f2:b.At.Path=d.At.Path
     ·rw[ifz<|p2.2 f2]at k;rw[ifz<|p3.2 (f1.trans f2)];exact t3 h k
     ·rw[ifn λe=>f2<|p2.1 e]at k;rw[f1,ifn λe=>f2<|p2.1 e];exact k
    ·rw[ifn λe=>f1<|p1.1 e]at h;by_cases f2:b.At.Path=d.At.Path
     ·rw[<-f2,ifn λe=>f1<|p1.1 e];exact h
     ·rw[ifn λe=>f2<|p2.1 e]at k;have :=t2 h k;rw[ifn (c:=gh a.At.Path d.At.Path)<|by omega];exact this
   ·rw[ifn λe=>e2<|h2.1 e]at k;rw[e1,ifn λe=>e2<|h2.1 e];exact k
  ·rw[ifn λe=>e1<|h1.1 e]at h;by_cases e2:b.At.Module=d.At.Module
   ·rw[<-e2,ifn λe=>e1<|h1.1 e];exact h
   ·rw[ifn λe=>e2<|h2.1 e]at k;have :=t1 h k;rw[ifn (c:=qX a.At.Module d.At.Module)<|by omega];exact this
def leE(a b:FE):Prop:=¬lS b a<0
theorem tQ{a b:FE}(h:lS a b<0):leE a b:=λk=>by have :=(uz.an a b).1 h;omega
theorem Fq(a:FE):leE a a:=λh=>by have :=(uz.eq a a).2 rfl;omega
theorem Ht{a b:FE}(h:leE a b)(k:leE b a):a=b:=by have h1:=uz.an a b;have h2:=uz.an b a;unfold leE at h k;exact(uz.eq a b).1 (by omega)
theorem oL{a b d:FE}(h:leE a b)(k:leE b d):leE a d:=by
 by_cases G:a=b
 ·rw[G];exact k
 by_cases J:b=d
 ·rw[<-J];exact h
 have h1:=uz.an a b;have h2:=uz.an b a;have Z:=uz.an b d;have h4:=uz.an d b;have O:=uz.eq a b;have U:=uz.eq b d;unfold leE at h k;exact tQ (uz.tr a b d (by have :lS a b≠0:=λe=>G<|O.1 e;omega) (by have :lS b d≠0:=λe=>J<|U.1 e;omega))
abbrev dy(l:List FE):Prop:=l.Pairwise leE
theorem zA:∀{a b:List FE},dy a->dy b->a.Perm b->a=b
 |[],b,_,_,h=>(List.Perm.nil_eq h)
 |x::r,[],_,_,h=>by have :=h.length_eq;simp at this
 | x::r,y::s,ha,hb,h=>by
  rw[dy,List.pairwise_cons]at ha hb;have e:x=y:=by
   have hx:x∈y::s:=h.mem_iff.1 (by simp);have hy:y∈x::r:=h.mem_iff.2 (by simp);rcases List.mem_cons.1 hx with hx|hx
   ·exact hx
   ·rcases List.mem_cons.1 hy with hy|hy
    ·exact hy.symm
    ·exact Ht (ha.1 y hy)<|hb.1 x hx
  subst e;rw[zA ha.2 hb.2 (List.Perm.cons_inv h)]
theorem Gp(a b:Int):nu a b (qX a b):=by
 have G:∀z,tP z false:=λz=>Gb 0 _ _ (by simp);unfold qX;refine Dr 0 _ _ _ (⟨_,G a,_,G b,λh=>(by cases h),λ_=>⟨λh=>(by cases h),λ_=>⟨λh=>?_,λh=>⟨λh'=>?_,λh'=>?_⟩⟩⟩⟩)
 ·rw[if_pos h]
 ·rw[if_neg h,if_pos h']
 ·rw[if_neg h,if_neg h']
variable{α:Type}
theorem vn(l:List α)(i:Nat):(∃x r,l.drop i=x::r∧l[i]?=some x∧l.drop (i+1)=r∧i<l.length)∨(l.drop i=[]∧l.length<=i):=by
 by_cases h:i<l.length
 ·exact .inl ⟨l[i],l.drop<|i+1,aan h,List.getElem?_eq_getElem h,I,h⟩
 ·exact .inr ⟨List.drop_of_length_le (by omega),by omega⟩
theorem SL(p q:YI)(hp:p.length<=1000000000):rf p q (gh p q):=by
 have loop:∀k i,p.length-i<=k->i<=p.length->lJ (k+1) p q i (gh (p.drop i)<|q.drop i):=λk=>by
  induction k with
  | zero=>
   intro i hi hip;have e:p.drop i=[]:=List.drop_of_length_le (by omega);rw[e];refine oS 0 _ _ _ _ (⟨λh=>absurd h (by omega),λ_=>⟨λh=>?_,λh=>?_⟩⟩)
   ·rcases vn q i with⟨x,r,e1,_⟩|⟨e1,e2⟩
    ·rw[e1];rfl
    ·omega
   ·rcases vn q i with⟨x,r,e1,_,_,e2⟩|⟨e1,e2⟩
    ·omega
    ·rw[e1];rfl
  | succ k ih=>
   intro i hi hip;rcases vn p i with⟨x,r,e1,e2,e3,e4⟩|⟨e1,e2⟩
   ·refine oS (k+1) _ _ _ _ (⟨λh=>⟨x,e2,λh'=>?_,λh'=>?_⟩,λh=>absurd e4 h⟩)
    ·have :q.drop i=[]:=List.drop_of_length_le h';rw[e1,this];rfl
    ·rcases vn q i with⟨y,s,g1,g2,g3,g4⟩|⟨g1,g2⟩
     ·refine⟨y,g2,_,Gp x y,λhz=>?_,λhz=>⟨by omega,?_⟩⟩
      ·rw[e1,g1,gh,ifn hz]
      ·rw[e1,g1,gh,ifz hz,<-e3,<-g3];exact ih (i+1) (by omega) (by omega)
     ·omega
   ·rw[e1];refine oS (k+1) _ _ _ _ (⟨λh=>absurd h (by omega),λ_=>⟨λh=>?_,λh=>?_⟩⟩)
    ·rcases vn q i with⟨y,s,g1,_⟩|⟨g1,g2⟩
     ·rw[g1];rfl
     ·omega
    ·rcases vn q i with⟨y,s,g1,_,_,g4⟩|⟨g1,g2⟩
     ·omega
     ·rw[g1];rfl
 have :=loop p.length 0 (by omega) (by omega);exact Bq (p.length+1) _ _ _ (by simpa using this)
abbrev PbE(a:FE):Prop:=a.At.Path.length<=1000000000
theorem Ak{a b:FE}(h:PbE a):gL a b (lS a b):=by
 unfold lS;refine AF 0 _ _ _<|⟨_,Gp _ _,λh1=>?_,λh1=>⟨_,SL _ _ h,λh2=>?_,λh2=>⟨_,Gp _ _,?_⟩⟩⟩
 ·rw[ifn h1]
 ·rw[ifz h1,ifn h2]
 ·rw[ifz h1,ifz h2]
variable{n:Nat}
theorem iS{pre post:List α}{x:α}(h:pre.length=n):(pre++x::post)[n]?=some x:=by
 subst h;rw[List.getElem?_append_right<|aaf _];simp
theorem ru{pre post:List α}{x y:α}(h:pre.length=n):(pre++x::post).set n y=pre++y::post:=by
 subst h;rw[List.set_append_right _ _<|aaf _];simp
theorem Jg:∀(X Y pre mid post:List FE) (i:Nat) (p1 p2 p3:Int),X.length=Y.length->p1+(i:Int)=(pre.length:Nat)->p2+(i:Int)=(pre.length+X.length+mid.length:Nat)->p3=((i+X.length:Nat):Int)->pre.length+X.length+X.length+mid.length+Y.length+i<=1000000000->
  L0_slices_swapRangeCmpFunc (X.length+1) p1 p2 p3 (pre++X++mid++Y++post) i (pre++Y++mid++X++post)
 |[],[],pre,mid,post,i,p1,p2,p3,_,h1,h2,h3,_=>mF 0 _ _ _ _ _ _ (⟨λh=>absurd h (by simp at h3;omega),λ_=>by simp⟩)
 |[],_::_,_,_,_,_,_,_,_,h,_,_,_,_=>by simp at h
 |_::_,[],_,_,_,_,_,_,_,h,_,_,_,_=>by simp at h
 | x::X,y::Y,pre,mid,post,i,p1,p2,p3,hl,h1,h2,h3,hb=>by
  simp only[aac]at hl h2 h3 hb;have ih:=Jg X Y (pre++[y]) (mid++[x]) post (i+1) p1 p2 p3 (by omega) (by simp;omega) (by simp;omega) (by omega) (by simp;omega);have e0:pre++(x::X)++mid++(y::Y)++post=(pre++x::X++mid)++y::(Y++post):=by simp
  have e1:pre++(x::X)++mid++(y::Y)++post=pre++x::(X++mid++y::Y++post):=by simp
  have s1:(pre++(x::X)++mid++(y::Y)++post).set pre.length y=(pre++y::X++mid)++y::(Y++post):=by rw[e1,ru rfl];simp
  have s2:((pre++(x::X)++mid++(y::Y)++post).set pre.length y).set (pre.length+(X.length+1)+mid.length) x=pre++[y]++X++(mid++[x])++Y++post:=by rw[s1,ru (by simp;omega)];simp
  have g1:(pre++(x::X)++mid++(y::Y)++post)[pre.length+(X.length+1)+mid.length]?=some y:=by rw[e0];exact iS (by simp;omega)
  have g2:(pre++(x::X)++mid++(y::Y)++post)[pre.length]?=some x:=by rw[e1];exact iS rfl
  have g3:((pre++(x::X)++mid++(y::Y)++post).set pre.length y)[pre.length+(X.length+1)+mid.length]?=some y:=by rw[s1];exact iS (by simp;omega)
  refine mF (X.length+1) _ _ _ _ _ _ (⟨λ_=>⟨⟨by omega,by omega⟩,⟨by omega,by omega⟩,⟨by omega,by omega⟩,pre.length+(X.length+1)+mid.length,by omega,y,g1,⟨by omega,by omega⟩,pre.length,h1,x,g2,pre.length,h1,x,g2,pre.length+(X.length+1)+mid.length,by omega,y,g3,by omega,?_⟩,λh=>absurd (by omega) h⟩);rw[s2];simpa using ih
theorem Gi(pre X mid Y post:List FE)(G:X.length=Y.length)(hb:pre.length+X.length+mid.length+Y.length<=400000000){p1 p2 p3:Int}(h1:p1=(pre.length:Nat))(h2:p2=(pre.length+X.length+mid.length:Nat))(J:p3=(X.length:Nat)):dS (pre++X++mid++Y++post) p1 p2 p3 (pre++Y++mid++X++post):=
 rS_slices_swapRangeCmpFunc (X.length+1) _ _ _ _ _ (Jg X Y pre mid post 0 p1 p2 p3 G (by omega) (by omega) (by omega)<|by omega)
theorem Fv:∀(n:Nat) (X Y pre post:List FE) (p2:Int),X.length+Y.length<=n->0<X.length->0<Y.length->p2=(pre.length+X.length:Nat)->pre.length+X.length+Y.length<=400000000->
  ∃M,eR M p2 (pre++X++Y++post) (X.length:Nat) (Y.length:Nat)<|pre++Y++X++post
 |0,X,Y,pre,post,p2,hn,hx,hy,_,_=>by omega
 | n+1,X,Y,pre,post,p2,hn,hx,hy,h2,hb=>by
  rcases Nat.lt_trichotomy X.length Y.length with h|h|h
  ·obtain⟨Y1,Y2,rfl,hl1,hl2⟩:∃Y1 Y2,Y=Y1++Y2∧Y1.length=Y.length-X.length∧Y2.length=X.length:=⟨Y.take<|Y.length-X.length,Y.drop<|Y.length-X.length,by simp,by simp,by simp;omega⟩;simp only[aab]at hl1 h hn hb hy;obtain⟨M,hM⟩:=Fv n Y2 Y1 pre (X++post) p2 (by omega) (by omega) (by omega) (by omega) (by omega);have hs:=Gi pre X Y1 Y2 post (by omega) (by omega) (p1:=p2-(X.length:Nat)) (p2:=p2+((Y1.length+Y2.length:Nat):Int)-(X.length:Nat)) (p3:=(X.length:Nat)) (by omega) (by omega) rfl;refine⟨M+1,jP M _ _ _ _ _<|⟨λ_=>⟨λh'=>absurd h' (by simp;omega),λ_=>⟨⟨by omega,by omega⟩,⟨by simp;omega,by simp;omega⟩,⟨by simp;omega,by simp;omega⟩,_,by simpa using hs,⟨by simp;omega,by simp;omega⟩,?_⟩⟩,λh'=>absurd h' (by simp;omega)⟩⟩;have e:((Y1++Y2).length:Int)-(X.length:Nat)=(Y1.length:Nat):=by simp;omega
   rw[e,show((X.length:Nat):Int)=(Y2.length:Nat) by omega];simpa using hM
  ·have hs:=Gi pre X [] Y post h (by simp;omega) (p1:=p2-(X.length:Nat)) (p2:=p2) (p3:=(X.length:Nat)) (by omega) (by simp;omega) rfl;exact⟨1,jP 0 _ _ _ _ _<|⟨λh'=>absurd (by omega) h',λ_=>⟨⟨by omega,by omega⟩,_,by simpa using hs,I⟩⟩⟩
  ·obtain⟨X1,X2,rfl,hl1,hl2⟩:∃X1 X2,X=X1++X2∧X1.length=Y.length∧X2.length=X.length-Y.length:=⟨X.take Y.length,X.drop Y.length,by simp,by simp;omega,by simp⟩;simp only[aab]at hl2 h hn hb hx h2;obtain⟨M,hM⟩:=Fv n X2 X1 (pre++Y) post p2 (by omega) (by omega) (by omega) (by simp;omega) (by simp;omega);have hs:=Gi pre X1 X2 Y post hl1 (by omega) (p1:=p2-((X1.length+X2.length:Nat):Int)) (p2:=p2) (p3:=(Y.length:Nat)) (by omega) (by omega) (by omega);refine⟨M+1,jP M _ _ _ _ _<|⟨λ_=>⟨λ_=>⟨⟨by simp;omega,by simp;omega⟩,_,by simpa using hs,⟨by simp;omega,by simp;omega⟩,?_⟩,λh'=>absurd (by simp;omega) h'⟩,λh'=>absurd h' (by simp;omega)⟩⟩;have e:((X1++X2).length:Int)-(Y.length:Nat)=(X2.length:Nat):=by simp;omega
   rw[e,show((Y.length:Nat):Int)=(X1.length:Nat) by omega];simpa using hM
theorem TG(pre X Y post:List FE)(hx:0<X.length)(hy:0<Y.length)(hb:pre.length+X.length+Y.length<=400000000){p1 p2 p3:Int}(h1:p1=(pre.length:Nat))(h2:p2=(pre.length+X.length:Nat))(J:p3=(pre.length+X.length+Y.length:Nat)):lv (pre++X++Y++post) p1 p2 p3 (pre++Y++X++post):=by obtain⟨M,G⟩:=Fv (X.length+Y.length) X Y pre post p2 (aaf _) hx hy h2 hb;refine wt M _ _ _ _ _ (⟨⟨by omega,by omega⟩,⟨by omega,by omega⟩,?_⟩);rw[show p2-p1=(X.length:Nat) by omega,show p3-p2=(Y.length:Nat) by omega];exact G
theorem Bg{a b:List FE}(G:dy a)(hb:dy b)(h:∀x∈a,∀y∈b,leE x y):dy (a++b):=List.pairwise_append.2 ⟨G,hb,h⟩
theorem ll{a b:List FE}(h:dy<|a++b):dy a:=(List.pairwise_append.1 h).1
theorem kK{a b:List FE}(h:dy<|a++b):dy b:=(List.pairwise_append.1 h).2.1
theorem rn{a b:List FE}(h:dy<|a++b):∀x∈a,∀y∈b,leE x y:=(List.pairwise_append.1 h).2.2
theorem Mb{pre post:List FE}{a b i:Int}(ha:a=(pre.length:Nat))(hi:InI<|i+1):∀(n:Nat) (P Q:List FE) (x:FE),P.length=n->PbE x->dy (P++Q)->(∀q∈Q,leE x q)->pre.length+n+Q.length+1<=1000000000->
  ∃S:List FE,S.Perm (P++x::Q)∧dy S∧∀M r,cj M a b (i+1) (pre++S++post) r->∃M',dW M' a b (pre++(P++x::Q)++post) ((pre.length+n:Nat):Int) i r
 |0,P,Q,x,hl,hx,hs,hq,hb=>by
  have :P=[]:=List.eq_nil_of_length_eq_zero hl;subst this;exact⟨x::Q,List.Perm.refl _,List.pairwise_cons.2 ⟨hq,hs⟩,λM r h=>⟨M+1,gf M _ _ _ _ _ _<|⟨λh'=>absurd h' (by omega),λ_=>⟨hi,h⟩⟩⟩⟩
 | n+1,P,Q,x,hl,hx,hs,hq,hb=>by
  obtain⟨P',p,rfl⟩:∃P' p,P=P'++[p]:=⟨P.dropLast,P.getLast (λh=>by subst h;simp at hl),(List.dropLast_concat_getLast _).symm⟩;simp only[aab,aac,aae]at hl;have hl':P'.length=n:=by omega
  have g1:(pre++(P'++[p]++x::Q)++post)[pre.length+(n+1)]?=some x:=by rw[show pre++(P'++[p]++x::Q)++post=(pre++P'++[p])++x::(Q++post) by simp];exact iS (by simp;omega)
  have e2:pre++(P'++[p]++x::Q)++post=(pre++P')++p::(x::Q++post):=by simp
  have g2:(pre++(P'++[p]++x::Q)++post)[pre.length+n]?=some p:=by rw[e2];exact iS (by simp;omega)
  have i1:InI (((pre.length+(n+1):Nat):Int)-1):=⟨by omega,by omega⟩;by_cases hc:lS x p<0
  ·have s1:(pre++(P'++[p]++x::Q)++post).set (pre.length+(n+1)) p=(pre++P')++p::(p::Q++post):=by
    rw[show pre++(P'++[p]++x::Q)++post=(pre++P'++[p])++x::(Q++post) by simp,ru (by simp;omega)];simp
   have s2:((pre++(P'++[p]++x::Q)++post).set (pre.length+(n+1)) p).set (pre.length+n) x=pre++(P'++x::(p::Q))++post:=by rw[s1,ru (by simp;omega)];simp
   have g3:((pre++(P'++[p]++x::Q)++post).set (pre.length+(n+1)) p)[pre.length+n]?=some p:=by rw[s1];exact iS (by simp;omega)
   obtain⟨S,h1,h2,h3⟩:=Mb (pre:=pre) (post:=post) (b:=b) ha hi n P' (p::Q) x hl' hx (by simpa using hs) (λq hq'=>by
    rcases List.mem_cons.1 hq' with rfl|h
    ·exact tQ hc
    ·exact hq q h) (by simp;omega)
   refine⟨S,h1.trans ?_,h2,λM r h=>?_⟩
   ·rw[aaj];exact List.Perm.append_left _<|List.Perm.swap _ _ _
   ·obtain⟨M',hM⟩:=h3 M r h;refine⟨M'+1,gf M' _ _ _ _ _ _<|⟨λ_=>⟨_,I,x,g1,i1,pre.length+n,by omega,p,g2,_,Ak hx,λ_=>⟨i1,i1,pre.length+n,by omega,p,g2,_,I,x,g1,_,I,x,g1,pre.length+n,by omega,p,g3,i1,?_⟩,λh=>absurd hc h⟩,λh=>absurd (by omega) h⟩⟩;rw[s2,show((pre.length+(n+1):Nat):Int)-1=((pre.length+n:Nat):Int) by omega];exact hM
  ·refine⟨P'++[p]++x::Q,List.Perm.refl _,?_,λM r h=>⟨M+1,gf M _ _ _ _ _ _<|⟨λ_=>⟨_,I,x,g1,i1,pre.length+n,by omega,p,g2,_,Ak hx,λh=>absurd h hc,λ_=>⟨hi,h⟩⟩,λh=>absurd (by omega) h⟩⟩⟩;refine Bg (ll hs) (List.pairwise_cons.2 ⟨hq,kK hs⟩) λu hu v hv=>?_;have hup:leE u p:=by
    rcases List.mem_append.1 hu with h|h
    ·exact rn (ll hs) u h p (by simp)
    ·simp only[List.mem_singleton]at h;rw[h];exact Fq p
   rcases List.mem_cons.1 hv with rfl|h
   ·exact oL hup hc
   ·exact rn hs u hu v h
theorem Mk{pre post:List FE}{a b:Int}(ha:a=(pre.length:Nat)):∀(R P:List FE),dy P->(∀x∈R,PbE x)->b=(pre.length+P.length+R.length:Nat)->pre.length+P.length+R.length+1<=1000000000->
  ∃S:List FE,S.Perm (P++R)∧dy S∧∃M,cj M a b ((pre.length+P.length:Nat):Int) (pre++P++R++post)<|pre++S++post
 |[],P,hP,_,hb,hl=>⟨P,by simp,hP,1,gn 0 _ _ _ _ _<|⟨λh=>absurd h (by simp at hb;omega),λ_=>by simp⟩⟩
 | x::R,P,hP,hR,hb,hl=>by
  simp only[aac]at hb hl;obtain⟨S1,h1,h2,h3⟩:=Mb (pre:=pre) (post:=R++post) (a:=a) (b:=b) (i:=((pre.length+P.length:Nat):Int)) ha ⟨by omega,by omega⟩ P.length P [] x rfl (hR x (by simp)) (by simpa using hP) (λq hq=>by simp at hq) (by simp;omega);have hl1:=h1.length_eq;simp only[aab,aac,aae]at hl1;obtain⟨S,g1,g2,M,hM⟩:=Mk (post:=post) ha R S1 h2 (λy hy=>hR y (by simp[hy])) (b:=b) (by omega) (by omega);obtain⟨M',hM'⟩:=h3 M (pre++S++post) (by
   rw[show((pre.length+P.length:Nat):Int)+1=((pre.length+S1.length:Nat):Int) by omega];simpa using hM)
  refine⟨S,g1.trans ?_,g2,M'+1,gn M' _ _ _ _ _<|⟨λ_=>by simpa using hM',λh=>absurd (by omega) h⟩⟩;have :=h1.append_right R;simpa using this
theorem KI(pre X post:List FE)(J:∀x∈X,PbE x)(G:pre.length+X.length+1<=1000000000){a b:Int}(O:a=(pre.length:Nat))(hb:b=(pre.length+X.length:Nat)):∃S:List FE,S.Perm X∧dy S∧eh (pre++X++post) a b (pre++S++post):=by
 cases X with
 |nil=>
  simp only[aae]at hb G;exact⟨[],List.Perm.refl _,List.Pairwise.nil,kY 1 _ _ _ _<|⟨⟨by omega,by omega⟩,gn 0 _ _ _ _ _<|⟨λh=>absurd h (by omega),λ_=>I⟩⟩⟩
 |cons x R=>
  simp only[aac]at hb G;obtain⟨S,h1,h2,M,U⟩:=Mk (pre:=pre) (post:=post) (a:=a) (b:=b) O R [x] (List.pairwise_singleton _ _) (λy hy=>J y<|by simp[hy]) (by simp;omega) (by simp;omega);refine⟨S,h1,h2,kY M _ _ _ _<|⟨⟨by omega,by omega⟩,?_⟩⟩;rw[show a+1=((pre.length+[x].length:Nat):Int) by simp;omega];simpa using U
variable{i:Nat}
theorem vk{A:List FE}(h:dy A){j:Nat}{u v:FE}(J:A[i]?=some u)(hv:A[j]?=some v)(O:i<=j):leE u v:=by
 obtain⟨h1,rfl⟩:=List.getElem?_eq_some_iff.1 J;obtain⟨h2,rfl⟩:=List.getElem?_eq_some_iff.1 hv;rcases Nat.lt_or_ge i j with G|G
 ·exact List.pairwise_iff_getElem.1 h i j h1 h2 G
 ·have :i=j:=by omega
  subst this;exact Fq _
theorem yd{A:List FE}{u:FE}(h:u∈A):∃i:Nat,i<A.length∧A[i]?=some u:=by obtain⟨i,hi,rfl⟩:=List.getElem_of_mem h;exact⟨i,hi,List.getElem?_eq_getElem hi⟩
theorem yK{pre A post:List FE}{t:Nat}{u:FE}(h:A[t]?=some u):(pre++(A++post))[pre.length+t]?=some u:=by have ht:=(List.getElem?_eq_some_iff.1 h).1;rw[List.getElem?_append_right (by omega),show pre.length+t-pre.length=t by omega,List.getElem?_append_left ht,h]
theorem GY{l B:List FE}{x:FE}{a z:Nat}(hx:l[a]?=some x)(hB:∀t u,B[t]?=some u->l[z+t]?=some u)(hp:∀u∈B,PbE u)(hz:z+B.length<=400000000):∀(k i j:Nat),j-i<=k->i<=j->j<=B.length->(∀u,0<i->B[i-1]?=some u->leE u x)->(∀u,B[j]?=some u->leE x u)->
  ∃s,s<=B.length∧(∀u,0<s->B[s-1]?=some u->leE u x)∧(∀u,B[s]?=some u->leE x u)∧∀M r,dU M l (a:Nat) ((z+s:Nat):Int) r->∃M',bV M' l (a:Nat) ((z+i:Nat):Int) ((z+j:Nat):Int) r
 |0,i,j,hk,hij,hj,h1,h2=>by
  have :i=j:=by omega
  subst this;exact⟨i,hj,h1,h2,λM r h=>⟨M+1,iU M _ _ _ _ _<|⟨λh'=>absurd h' (by omega),λ_=>h⟩⟩⟩
 | k +1,i,j,hk,hij,hj,h1,h2=>by
  by_cases e:i=j
  ·subst e;exact⟨i,hj,h1,h2,λM r h=>⟨M+1,iU M _ _ _ _ _<|⟨λh'=>absurd h' (by omega),λ_=>h⟩⟩⟩
  ·have hq:(z+i+(z+j))/2=z+(i+j)/2:=by omega
   have hlt:(i+j)/2<B.length:=by omega
   obtain⟨u,hu⟩:∃u,B[(i+j)/2]?=some u:=⟨_,List.getElem?_eq_getElem hlt⟩;have hlu:=hB _ u hu;have hpu:=hp u<|List.mem_of_getElem? hu;have step:∀{M r},(lS u x<0->bV M l (a:Nat) ((z+((i+j)/2+1):Nat):Int) ((z+j:Nat):Int) r)->(¬lS u x<0->bV M l (a:Nat) ((z+i:Nat):Int) ((z+(i+j)/2:Nat):Int) r)->bV (M+1) l (a:Nat) ((z+i:Nat):Int) ((z+j:Nat):Int) r:=λ{M r} q1 q2=>by
    refine iU M _ _ _ _ _ (⟨λ_=>⟨⟨by omega,by omega⟩,z+i+(z+j),by omega,by omega,by omega,u,by rw[hq];exact hlu,a,I,x,hx,_,Ak hpu,λh=>⟨by omega,?_⟩,λh=>?_⟩,λh=>absurd (by omega) h⟩)
    ·rw[hq];exact q1 h
    ·rw[hq];exact q2 h
   by_cases hc:lS u x<0
   ·obtain⟨s,g1,g2,g3,g4⟩:=GY hx hB hp hz k ((i+j)/2+1) j (by omega) (by omega) hj (λv _ hv=>by
     rw[Nat.add_sub_cancel,hu]at hv;cases hv;exact tQ hc) h2
    refine⟨s,g1,g2,g3,λM r h=>?_⟩;obtain⟨M',hM⟩:=g4 M r h;exact⟨M'+1,step (λ_=>hM) λh=>absurd hc h⟩
   ·obtain⟨s,g1,g2,g3,g4⟩:=GY hx hB hp hz k i ((i+j)/2) (by omega) (by omega) (by omega) h1 (λv hv=>by
     rw[hu]at hv;cases hv;exact hc)
    refine⟨s,g1,g2,g3,λM r h=>?_⟩;obtain⟨M',hM⟩:=g4 M r h;exact⟨M'+1,step (λh=>absurd h hc) λ_=>hM⟩
theorem GD{l A:List FE}{x:FE}{a z:Nat}(hx:l[z]?=some x)(hA:∀t u,A[t]?=some u->l[a+t]?=some u)(hp:PbE x)(hz:a+A.length<=400000000):∀(k i j:Nat),j-i<=k->i<=j->j<=A.length->(∀u,0<i->A[i-1]?=some u->leE u x)->(∀u,A[j]?=some u->leE x u)->
  ∃s,s<=A.length∧(∀u,0<s->A[s-1]?=some u->leE u x)∧(∀u,A[s]?=some u->leE x u)∧∀M r,dQ M l (z:Nat) ((a+s:Nat):Int) r->∃M',bT M' l (z:Nat) ((a+i:Nat):Int) ((a+j:Nat):Int) r
 |0,i,j,hk,hij,hj,h1,h2=>by
  have :i=j:=by omega
  subst this;exact⟨i,hj,h1,h2,λM r h=>⟨M+1,iY M _ _ _ _ _<|⟨λh'=>absurd h' (by omega),λ_=>h⟩⟩⟩
 | k +1,i,j,hk,hij,hj,h1,h2=>by
  by_cases e:i=j
  ·subst e;exact⟨i,hj,h1,h2,λM r h=>⟨M+1,iY M _ _ _ _ _<|⟨λh'=>absurd h' (by omega),λ_=>h⟩⟩⟩
  ·have hq:(a+i+(a+j))/2=a+(i+j)/2:=by omega
   have hlt:(i+j)/2<A.length:=by omega
   obtain⟨u,hu⟩:∃u,A[(i+j)/2]?=some u:=⟨_,List.getElem?_eq_getElem hlt⟩;have hlu:=hA _ u hu;have step:∀{M r},(¬lS x u<0->bT M l (z:Nat) ((a+((i+j)/2+1):Nat):Int) ((a+j:Nat):Int) r)->(lS x u<0->bT M l (z:Nat) ((a+i:Nat):Int) ((a+(i+j)/2:Nat):Int) r)->bT (M+1) l (z:Nat) ((a+i:Nat):Int) ((a+j:Nat):Int) r:=λ{M r} q1 q2=>by
    refine iY M _ _ _ _ _ (⟨λ_=>⟨⟨by omega,by omega⟩,a+i+(a+j),by omega,by omega,by omega,z,I,x,hx,u,by rw[hq];exact hlu,_,Ak hp,λh=>⟨by omega,?_⟩,λh=>?_⟩,λh=>absurd (by omega) h⟩)
    ·rw[hq];exact q1 h
    ·rw[hq];exact q2 h
   by_cases hc:lS x u<0
   ·obtain⟨s,g1,g2,g3,g4⟩:=GD hx hA hp hz k i ((i+j)/2) (by omega) (by omega) (by omega) h1 (λv hv=>by
     rw[hu]at hv;cases hv;exact tQ hc)
    refine⟨s,g1,g2,g3,λM r h=>?_⟩;obtain⟨M',hM⟩:=g4 M r h;exact⟨M'+1,step (λh=>absurd hc h) λ_=>hM⟩
   ·obtain⟨s,g1,g2,g3,g4⟩:=GD hx hA hp hz k ((i+j)/2+1) j (by omega) (by omega) hj (λv _ hv=>by
     rw[Nat.add_sub_cancel,hu]at hv;cases hv;exact hc) h2
    refine⟨s,g1,g2,g3,λM r h=>?_⟩;obtain⟨M',hM⟩:=g4 M r h;exact⟨M'+1,step (λ_=>hM) λh=>absurd h hc⟩
theorem GX{l:List FE}{p1 p3:Int}{a m k0 lo hi0:Nat}(hp:∀u∈l,PbE u)(hl:l.length<=400000000)(hhi:hi0<=m)(hq:∀c,lo<=c->c<hi0->c<l.length∧c+1<=k0/2+m∧k0/2+m-1-c<l.length):∀(k i j:Nat),j-i<=k->i<=j->lo<=i->j<=hi0->(∀u v,lo<i->l[i-1]?=some u->l[k0/2+m-i]?=some v->leE u v)->(∀u v,j<hi0->l[j]?=some u->l[k0/2+m-1-j]?=some v->leE v u)->
  ∃s,lo<=s∧s<=hi0∧i<=s∧s<=j∧(∀u v,lo<s->l[s-1]?=some u->l[k0/2+m-s]?=some v->leE u v)∧(∀u v,s<hi0->l[s]?=some u->l[k0/2+m-1-s]?=some v->leE v u)∧∀M r,bg M l p1 (m:Nat) p3 k0 (s:Nat) (s:Nat) r->∃M',bg M' l p1 (m:Nat) p3 k0 (i:Nat) (j:Nat) r
 |0,i,j,hk,hij,hi,hj,h1,h2=>by
  have :i=j:=by omega
  subst this;exact⟨i,hi,hj,aaf _,aaf _,h1,h2,λM r h=>⟨M,h⟩⟩
 | k +1,i,j,hk,hij,hi,hj,h1,h2=>by
  by_cases e:i=j
  ·subst e;exact⟨i,hi,hj,aaf _,aaf _,h1,h2,λM r h=>⟨M,h⟩⟩
  ·obtain⟨q1,q2,q3⟩:=hq ((i+j)/2) (by omega) (by omega);obtain⟨u,hu⟩:∃u,l[(i+j)/2]?=some u:=⟨_,List.getElem?_eq_getElem q1⟩;obtain⟨v,hv⟩:∃v,l[k0/2+m-1-(i+j)/2]?=some v:=⟨_,List.getElem?_eq_getElem q3⟩;have hpv:=hp v<|List.mem_of_getElem? hv;have step:∀{M r},(¬lS v u<0->bg M l p1 (m:Nat) p3 k0 (((i+j)/2+1:Nat):Int) (j:Nat) r)->(lS v u<0->bg M l p1 (m:Nat) p3 k0 (i:Nat) (((i+j)/2:Nat):Int) r)->bg (M+1) l p1 (m:Nat) p3 k0 (i:Nat) (j:Nat) r:=λ{M r} w1 w2=>
    rL2_slices_symMergeCmpFunc M _ _ _ _ _ _ _ _ (⟨λ_=>⟨⟨by omega,by omega⟩,i+j,by omega,by omega,by omega,⟨by omega,by omega⟩,k0/2+m-1-(i+j)/2,by omega,v,hv,u,hu,_,Ak hpv,λh=>⟨by omega,w1 h⟩,λh=>w2 h⟩,λh=>absurd (by omega) h⟩)
   by_cases hc:lS v u<0
   ·obtain⟨s,g0,g0',gi,gj,g1,g2,g3⟩:=GX (p1:=p1) (p3:=p3) (a:=a) hp hl hhi hq k i ((i+j)/2) (by omega) (by omega) hi (by omega) h1 (λu' v' _ hu' hv'=>by
     rw[hu]at hu';rw[hv]at hv';cases hu';cases hv';exact tQ hc)
    refine⟨s,g0,g0',gi,by omega,g1,g2,λM r h=>?_⟩;obtain⟨M',hM⟩:=g3 M r h;exact⟨M'+1,step (λh=>absurd hc h) λ_=>hM⟩
   ·obtain⟨s,g0,g0',gi,gj,g1,g2,g3⟩:=GX (p1:=p1) (p3:=p3) (a:=a) hp hl hhi hq k ((i+j)/2+1) j (by omega) (by omega) (by omega) hj (λu' v' _ hu' hv'=>by
     rw[Nat.add_sub_cancel,hu]at hu';rw[show k0/2+m-((i+j)/2+1)=k0/2+m-1-(i+j)/2 by omega,hv]at hv';cases hu';cases hv';exact hc) h2
    refine⟨s,g0,g0',by omega,gj,g1,g2,λM r h=>?_⟩;obtain⟨M',hM⟩:=g3 M r h;exact⟨M'+1,step (λ_=>hM) λh=>absurd h hc⟩
theorem MY{post:List FE}:∀(B1 B2 pre:List FE) (x:FE) (z e:Int),z=(pre.length:Nat)->e=(pre.length+1+B1.length:Nat)->pre.length+B1.length+B2.length+1<=400000000->dU (B1.length+1) (pre++x::(B1++B2)++post) z e (pre++(B1++x::B2)++post)
 |[],B2,pre,x,z,e,G,J,hb=>by simp only[aae]at J;exact nw 0 _ _ _ _ (⟨⟨by omega,by omega⟩,λh=>absurd h (by omega),λ_=>by simp⟩)
 |y::B1,B2,pre,x,z,e,G,J,hb=>by
  simp only[aac]at J hb;have ih:=MY (post:=post) B1 B2 (pre++[y]) x (z+1) e (by simp;omega) (by simp;omega) (by simp;omega);have e0:pre++x::(y::B1++B2)++post=(pre++[x])++y::(B1++B2++post):=by simp
  have U:pre++x::(y::B1++B2)++post=pre++x::(y::B1++B2++post):=by simp
  have g1:(pre++x::(y::B1++B2)++post)[pre.length+1]?=some y:=by rw[e0];exact iS (by simp)
  have Z:(pre++x::(y::B1++B2)++post)[pre.length]?=some x:=by rw[U];exact iS rfl
  have s1:(pre++x::(y::B1++B2)++post).set pre.length y=(pre++[y])++y::(B1++B2++post):=by rw[U,ru rfl];simp
  have g3:((pre++x::(y::B1++B2)++post).set pre.length y)[pre.length+1]?=some y:=by rw[s1];exact iS (by simp)
  have s2:((pre++x::(y::B1++B2)++post).set pre.length y).set (pre.length+1) x=pre++[y]++x::(B1++B2)++post:=by rw[s1,ru<|by simp];simp
  have O:InI (z+1):=⟨by omega,by omega⟩;refine nw (B1.length+1) _ _ _ _ (⟨⟨by omega,by omega⟩,λ_=>⟨O,O,pre.length+1,by omega,y,g1,pre.length,G,x,Z,pre.length,G,x,Z,pre.length+1,by omega,y,g3,O,?_⟩,λh=>absurd (by omega) h⟩);rw[s2];simpa using ih
theorem MO{post pre:List FE}:∀(n:Nat) (A1 A2 B:List FE) (x:FE) (z e:Int),A2.length=n->z=(pre.length+A1.length+n:Nat)->e=(pre.length+A1.length:Nat)->pre.length+A1.length+A2.length+1<=400000000->dQ (n+1) (pre++(A1++A2++x::B)++post) z e (pre++(A1++x::(A2++B))++post)
 |0,A1,A2,B,x,z,e,J,O,he,hb=>by have :A2=[]:=List.eq_nil_of_length_eq_zero J;subst this;exact nr 0 _ _ _ _ (⟨λh=>absurd h (by omega),λ_=>by simp⟩)
 |n+1,A1,A2,B,x,z,e,J,O,he,hb=>by
  obtain⟨A',p,rfl⟩:∃A' p,A2=A'++[p]:=⟨A2.dropLast,A2.getLast (λh=>by subst h;simp at J),(List.dropLast_concat_getLast _).symm⟩;simp only[aab,aac,aae]at J hb;have ih:=MO (post:=post) (pre:=pre) n A1 A' (p::B) x (z-1) e (by omega) (by omega) he (by omega);have e0:pre++(A1++(A'++[p])++x::B)++post=(pre++A1++A'++[p])++x::(B++post):=by simp
  have e1:pre++(A1++(A'++[p])++x::B)++post=(pre++A1++A')++p::(x::B++post):=by simp
  have U:(pre++A1++A').length=pre.length+A1.length+n:=by simp;omega
  have G:(pre++A1++A'++[p]).length=pre.length+A1.length+(n+1):=by simp;omega
  have g1:(pre++(A1++(A'++[p])++x::B)++post)[pre.length+A1.length+(n+1)]?=some x:=by rw[e0];exact iS G
  have g2:(pre++(A1++(A'++[p])++x::B)++post)[pre.length+A1.length+n]?=some p:=by rw[e1];exact iS U
  have s1:(pre++(A1++(A'++[p])++x::B)++post).set (pre.length+A1.length+(n+1)) p=(pre++A1++A')++p::(p::B++post):=by rw[e0,ru G];simp
  have g3:((pre++(A1++(A'++[p])++x::B)++post).set (pre.length+A1.length+(n+1)) p)[pre.length+A1.length+n]?=some p:=by rw[s1];exact iS U
  have s2:((pre++(A1++(A'++[p])++x::B)++post).set (pre.length+A1.length+(n+1)) p).set (pre.length+A1.length+n) x=pre++(A1++A'++x::(p::B))++post:=by rw[s1,ru U];simp
  have Z:InI (z-1):=⟨by omega,by omega⟩;refine nr (n+1) _ _ _ _ (⟨λ_=>⟨Z,Z,pre.length+A1.length+n,by omega,p,g2,pre.length+A1.length+(n+1),O,x,g1,pre.length+A1.length+(n+1),O,x,g1,pre.length+A1.length+n,by omega,p,g3,Z,?_⟩,λh=>absurd (by omega) h⟩);rw[s2];simpa using ih
theorem EA{A1 B2:List FE}(G:dy A1)(J:dy B2)(h:∀u v,A1[A1.length-1]?=some u->B2[0]?=some v->leE u v):∀u∈A1,∀v∈B2,leE u v:=λu O v hv=>by
 obtain⟨i,hi,gi⟩:=yd O;obtain⟨j,U,gj⟩:=yd hv;obtain⟨x,hx⟩:∃x,A1[A1.length-1]?=some x:=⟨_,List.getElem?_eq_getElem<|by omega⟩;obtain⟨y,hy⟩:∃y,B2[0]?=some y:=⟨_,List.getElem?_eq_getElem<|by omega⟩;exact oL (vk G gi hx<|by omega) (oL (h x y hx hy)<|vk J hy gj<|by omega)
theorem Nu(A1 A2 B1 B2:List FE):(A1++B1++(A2++B2)).Perm (A1++A2++(B1++B2)):=by rw[aaj,aaj];refine List.Perm.append_left _ ?_;rw[<-aaj,<-aaj];exact List.Perm.append_right _ List.perm_append_comm
theorem EW:∀(n:Nat) (pre A B post:List FE),A.length+B.length<=n->0<A.length->0<B.length->dy A->dy B->(∀x∈A,PbE x)->(∀x∈B,PbE x)->(∀x∈pre,PbE x)->(∀x∈post,PbE x)->pre.length+A.length+B.length+post.length+1<=100000000->
  ∃C:List FE,C.Perm (A++B)∧dy C∧ds (pre++A++B++post) (pre.length:Nat) ((pre.length+A.length:Nat):Int) ((pre.length+A.length+B.length:Nat):Int) (pre++C++post)
 |0,pre,A,B,post,hn,ha,hb,_,_,_,_,_,_,_=>by omega
 | n + 1,pre,A,B,post,hn,ha,hb,hA,hB,pA,pB,pp,pq,hl=>by
  have i1:InI (((pre.length+A.length:Nat):Int)-((pre.length:Nat):Int)):=⟨by omega,by omega⟩;by_cases a1:A.length=1
  ·obtain⟨x,rfl⟩:∃x,A=[x]:=by
    match A,a1 with
    |[x],_=>exact⟨x,rfl⟩
   obtain⟨s,h1,h2,h3,h4⟩:=GY (l:=pre++[x]++B++post) (B:=B) (x:=x) (a:=pre.length) (z:=pre.length+1) (by rw[show pre++[x]++B++post=pre++x::(B++post) by simp];exact iS rfl) (λt u hu=>by have :=yK (pre:=pre++[x]) (post:=post) hu;simpa[aat]using this) pB (by omega) B.length 0 B.length (by omega) (by omega) (aaf _) (λu h=>by omega) (λu h=>by rw[List.getElem?_eq_none (aaf _)]at h;cases h)
   have h5:=MY (post:=post) (B.take s) (B.drop s) pre x ((pre.length:Nat):Int) ((pre.length+1+s:Nat):Int) rfl (by rw[aau];congr 1;omega) (by rw[aau,aak];omega);rw[aap]at h5;obtain⟨M,hM⟩:=h4 _ _ (by rw[show pre++[x]++B++post=pre++x::B++post by simp];exact h5);refine⟨B.take s++x::B.drop s,?_,?_,gb M _ _ _ _ _<|⟨i1,λ_=>?_,λh=>absurd (by simp;omega) h⟩⟩
   ·have :=List.perm_middle (a:=x) (l₁:=B.take s) (l₂:=B.drop s);rw[aap]at this;exact this
   ·have hs:dy (B.take s++B.drop s):=by rw[aap];exact hB
    have hx1:∀u∈B.take s,leE u x:=λu hu=>by
     obtain⟨i,hi,gi⟩:=yd hu;rw[aau]at hi;rw[List.getElem?_take,if_pos<|by omega]at gi;obtain⟨y,hy⟩:∃y,B[s-1]?=some y:=⟨_,List.getElem?_eq_getElem<|by omega⟩;exact oL (vk hB gi hy<|by omega) (h2 y (by omega) hy)
    have hx2:∀u∈B.drop s,leE x u:=λu hu=>by
     obtain⟨i,hi,gi⟩:=yd hu;rw[aak]at hi;rw[List.getElem?_drop]at gi;obtain⟨y,hy⟩:∃y,B[s]?=some y:=⟨_,List.getElem?_eq_getElem<|by omega⟩;exact oL (h3 y hy) (vk hB hy gi<|by omega)
    refine Bg (ll hs) (List.pairwise_cons.2 ⟨hx2,kK hs⟩) λu hu v hv=>?_;rcases List.mem_cons.1 hv with rfl|h
    ·exact hx1 u hu
    ·exact rn hs u hu v h
   ·simpa using hM
  by_cases b1:B.length=1
  ·obtain⟨x,rfl⟩:∃x,B=[x]:=by
    match B,b1 with
    |[x],_=>exact⟨x,rfl⟩
   obtain⟨s,h1,h2,h3,h4⟩:=GD (l:=pre++A++[x]++post) (A:=A) (x:=x) (a:=pre.length) (z:=pre.length+A.length) (by rw[show pre++A++[x]++post=(pre++A)++x::post by simp];exact iS (by simp)) (λt u hu=>by have :=yK (pre:=pre) (post:=[x]++post) hu;simpa using this) (pB x (by simp)) (by omega) A.length 0 A.length (by omega) (by omega) (aaf _) (λu h=>by omega) (λu h=>by rw[List.getElem?_eq_none (aaf _)]at h;cases h)
   have h5:=MO (post:=post) (pre:=pre) (A.length-s) (A.take s) (A.drop s) [] x ((pre.length+A.length:Nat):Int) ((pre.length+s:Nat):Int) (by rw[aak]) (by rw[aau];congr 1;omega) (by rw[aau];congr 1;omega) (by rw[aau,aak];omega);rw[aap,aar]at h5;obtain⟨M,hM⟩:=h4 _ _ (by rw[show pre++A++[x]++post=pre++(A++[x])++post by simp];exact h5);refine⟨A.take s++x::A.drop s,?_,?_,gb M _ _ _ _ _<|⟨i1,λh=>absurd h (by omega),λ_=>⟨⟨by simp;omega,by simp;omega⟩,λ_=>?_,λh=>absurd (by simp;omega) h⟩⟩⟩
   ·have :=List.perm_middle (a:=x) (l₁:=A.take s) (l₂:=A.drop s);rw[aap]at this;exact this.trans<|List.perm_append_comm (l₁:=[x]) (l₂:=A)
   ·have hs:dy (A.take s++A.drop s):=by rw[aap];exact hA
    have hx1:∀u∈A.take s,leE u x:=λu hu=>by
     obtain⟨i,hi,gi⟩:=yd hu;rw[aau]at hi;rw[List.getElem?_take,if_pos<|by omega]at gi;obtain⟨y,hy⟩:∃y,A[s-1]?=some y:=⟨_,List.getElem?_eq_getElem<|by omega⟩;exact oL (vk hA gi hy<|by omega) (h2 y (by omega) hy)
    have hx2:∀u∈A.drop s,leE x u:=λu hu=>by
     obtain⟨i,hi,gi⟩:=yd hu;rw[aak]at hi;rw[List.getElem?_drop]at gi;obtain⟨y,hy⟩:∃y,A[s]?=some y:=⟨_,List.getElem?_eq_getElem<|by omega⟩;exact oL (h3 y hy) (vk hA hy gi<|by omega)
    refine Bg (ll hs) (List.pairwise_cons.2 ⟨hx2,kK hs⟩) λu hu v hv=>?_;rcases List.mem_cons.1 hv with rfl|h
    ·exact hx1 u hu
    ·exact rn hs u hu v h
   ·simpa using hM
  obtain⟨l,hld⟩:∃l,l=pre++A++B++post:=⟨_,rfl⟩;have hpl:∀u∈l,PbE u:=λu hu=>by
   rw[hld]at hu;simp only[aai]at hu;rcases hu with((h|h)|h)|h
   ·exact pp u h
   ·exact pA u h
   ·exact pB u h
   ·exact pq u h
  have hll:l.length=pre.length+A.length+B.length+post.length:=by rw[hld];simp;omega
  have gA:∀t u,A[t]?=some u->l[pre.length+t]?=some u:=λt u hu=>by have :=yK (pre:=pre) (post:=B++post) hu;rw[hld];simpa using this
  have gB:∀t u,B[t]?=some u->l[pre.length+A.length+t]?=some u:=λt u hu=>by have :=yK (pre:=pre++A) (post:=post) hu;rw[hld];simpa using this
  obtain⟨a,had⟩:∃a,a=pre.length:=⟨_,rfl⟩;obtain⟨m,hmd⟩:∃m,m=pre.length+A.length:=⟨_,rfl⟩;obtain⟨b,hbd⟩:∃b,b=pre.length+A.length+B.length:=⟨_,rfl⟩;obtain⟨mid,hmid⟩:∃mid,mid=(a+b)/2:=⟨_,rfl⟩;have hm1:a+2<=m:=by omega
  have hm2:m+2<=b:=by omega
  obtain⟨lo,hlo⟩:∃lo,lo=if mid<m then a else a:=⟨_,rfl⟩
  have key:∀lo hi0,(m<mid+1->m=hi0∨True)->lo<=hi0->a<=lo->hi0<=m->hi0<=mid->(∀c,lo<=c->c<hi0->m+c+1<=mid+m∧mid+m-c<=b)->(lo=a∨mid+m-lo=b)->(hi0=m∨hi0=mid)->
    ∃C:List FE,C.Perm (A++B)∧dy C∧∃M,bg M l (a:Nat) (m:Nat) (b:Nat) (a+b) (lo:Nat) (hi0:Nat) (pre++C++post):=λlo hi0 _ hlh hal hhm hhd hq hlo hhi=>by
   obtain⟨s,g0,g1,_,_,g2,g3,g4⟩:=GX (l:=l) (p1:=(a:Nat)) (p3:=(b:Nat)) (a:=a) (m:=m) (k0:=a+b) (lo:=lo) (hi0:=hi0) hpl (by omega) hhm (λc h1 h2=>by have :=hq c h1 h2;rw[<-hmid];omega) (hi0-lo) lo hi0 (aaf _) hlh (aaf _) (aaf _) (λu v h=>by omega) (λu v h=>by omega);rw[<-hmid]at g2 g3;have hsm:mid+m-s<=b:=by
    rcases Nat.lt_or_ge s hi0 with h|h
    ·have :=hq s g0 h;omega
    ·by_cases e:lo=s
     ·rcases hlo with h|h<;>omega
     ·have :=hq (s-1) (by omega) (by omega);omega
   have hsm2:m<=mid+m-s:=by omega
   have hA':A=A.take (s-a)++A.drop (s-a):=(aap _ _).symm;have hB':B=B.take (mid-s)++B.drop (mid-s):=(aap _ _).symm;obtain⟨A1,hA1⟩:∃X,X=A.take (s-a):=⟨_,rfl⟩;obtain⟨A2,hA2⟩:∃X,X=A.drop (s-a):=⟨_,rfl⟩;obtain⟨B1,hB1⟩:∃X,X=B.take (mid-s):=⟨_,rfl⟩;obtain⟨B2,hB2⟩:∃X,X=B.drop (mid-s):=⟨_,rfl⟩;rw[<-hA1,<-hA2]at hA';rw[<-hB1,<-hB2]at hB';have l1:A1.length=s-a:=by rw[hA1,aau];omega
   have l2:A2.length=m-s:=by rw[hA2,aak];omega
   have l3:B1.length=mid-s:=by rw[hB1,aau];omega
   have l4:B2.length=b-(mid+m-s):=by rw[hB2,aak];omega
   have sA:dy (A1++A2):=hA'▸hA;have sB:dy (B1++B2):=hB'▸hB;have cross1:∀u∈A1,∀v∈B2,leE u v:=EA (ll sA) (kK sB) λu v hu hv=>by
    have h1:0<A1.length:=by have :=(List.getElem?_eq_some_iff.1 hu).1;omega
    have h2:0<B2.length:=(List.getElem?_eq_some_iff.1 hv).1;have hu':A[s-a-1]?=some u:=by rw[hA',List.getElem?_append_left (by omega),<-l1];exact hu
    have hv':B[mid-s]?=some v:=by rw[hB',List.getElem?_append_right (by omega),show mid-s-B1.length=0 by omega];exact hv
    have hu2:=gA _ _ hu';have hv2:=gB _ _ hv';refine g2 u v ?_ ?_ ?_
    ·rcases hlo with h|h
     ·omega
     ·rcases Nat.lt_or_ge lo s with h'|h'
      ·exact h'
      ·omega
    ·rw[show s-1=pre.length+(s-a-1) by omega];exact hu2
    ·rw[show mid+m-s=pre.length+A.length+(mid-s) by omega];exact hv2
   have cross2:∀u∈B1,∀v∈A2,leE u v:=EA (ll sB) (kK sA) λu v hu hv=>by
    have h1:0<B1.length:=by have :=(List.getElem?_eq_some_iff.1 hu).1;omega
    have h2:0<A2.length:=(List.getElem?_eq_some_iff.1 hv).1;have hu':B[mid-s-1]?=some u:=by rw[hB',List.getElem?_append_left (by omega),<-l3];exact hu
    have hv':A[s-a]?=some v:=by rw[hA',List.getElem?_append_right (by omega),show s-a-A1.length=0 by omega];exact hv
    have hu2:=gB _ _ hu';have hv2:=gA _ _ hv';refine g3 v u (by rcases hhi with h|h<;>omega) ?_ ?_
    ·rw[show s=pre.length+(s-a) by omega];exact hv2
    ·rw[show mid+m-1-s=pre.length+A.length+(mid-s-1) by omega];exact hu2
   have pA1:∀x∈A1,PbE x:=λx hx=>pA x (by rw[hA'];simp[hx]);have pA2:∀x∈A2,PbE x:=λx hx=>pA x (by rw[hA'];simp[hx]);have pB1:∀x∈B1,PbE x:=λx hx=>pB x (by rw[hB'];simp[hx]);have pB2:∀x∈B2,PbE x:=λx hx=>pB x (by rw[hB'];simp[hx]);have half1:∃C1:List FE,C1.Perm (A1++B1)∧dy C1∧∀M r,dg M (m:Nat) (b:Nat) (a+b) (s:Nat) (pre++C1++(A2++B2++post)) r->dN (M+1) (a:Nat) (m:Nat) (b:Nat) (a+b) (s:Nat) (pre++A1++B1++(A2++B2++post)) r:=by
    by_cases h:0<A1.length∧0<B1.length
    ·obtain⟨C1,c1,c2,c3⟩:=EW n pre A1 B1 (A2++B2++post) (by omega) h.1 h.2 (ll sA) (ll sB) pA1 pB1 pp (λx hx=>by
      simp only[aai]at hx;rcases hx with(h|h)|h
      ·exact pA2 x h
      ·exact pB2 x h
      ·exact pq x h) (by simp;omega)
     refine⟨C1,c1,c2,λM r hM=>nl M _ _ _ _ _ _ _<|⟨λ_=>⟨λ_=>⟨_,?_,hM⟩,λh'=>absurd (by rw[<-hmid];omega) h'⟩,λh'=>absurd (by omega) h'⟩⟩;rw[<-hmid,had,show s=pre.length+A1.length by omega,show mid=pre.length+A1.length+B1.length by omega];exact c3
    ·refine⟨A1++B1,List.Perm.refl _,?_,λM r hM=>?_⟩
     ·rcases(by omega:A1.length=0∨B1.length=0)with h'|h'
      ·rw[List.eq_nil_of_length_eq_zero h',aam];exact ll sB
      ·rw[List.eq_nil_of_length_eq_zero h',aar];exact ll sA
     ·rw[<-aaj pre A1 B1]at hM;exact nl M _ _ _ _ _ _ _ (⟨λ_=>⟨λh'=>absurd h' (by rw[<-hmid];omega),λ_=>hM⟩,λ_=>hM⟩)
   obtain⟨C1,c1,c2,c3⟩:=half1;have hc1:=c1.length_eq;rw[aab]at hc1;have half2:∃C2:List FE,C2.Perm (A2++B2)∧dy C2∧dg 1 (m:Nat) (b:Nat) (a+b) (s:Nat) (pre++C1++(A2++B2++post)) (pre++C1++C2++post):=by
    have es:(((a+b)/2:Nat):Int)+((m:Nat):Int)-((s:Nat):Int)=((mid+m-s:Nat):Int):=by rw[<-hmid];omega
    by_cases h:0<A2.length∧0<B2.length
    ·obtain⟨C2,d1,d2,d3⟩:=EW n (pre++C1) A2 B2 post (by omega) h.1 h.2 (kK sA) (kK sB) pA2 pB2 (λx hx=>by
      rcases List.mem_append.1 hx with h|h
      ·exact pp x h
      ·rcases List.mem_append.1 (c1.mem_iff.1 h)with h|h
       ·exact pA1 x h
       ·exact pB1 x h) pq (by simp;omega)
     refine⟨C2,d1,d2,nq 0 _ _ _ _ _ _<|⟨λ_=>⟨λ_=>⟨_,?_,I⟩,λh'=>absurd (by rw[es];omega) h'⟩,λh'=>absurd (by rw[es,<-hmid];omega) h'⟩⟩;rw[es,<-hmid];have e1:(pre++C1).length=mid:=by simp;omega
     rw[e1,show mid+A2.length=mid+m-s by omega,show mid+m-s+B2.length=b by omega]at d3;simpa using d3
    ·refine⟨A2++B2,List.Perm.refl _,?_,?_⟩
     ·rcases(by omega:A2.length=0∨B2.length=0)with h'|h'
      ·rw[List.eq_nil_of_length_eq_zero h',aam];exact kK sB
      ·rw[List.eq_nil_of_length_eq_zero h',aar];exact kK sA
     ·rw[show pre++C1++(A2++B2++post)=pre++C1++(A2++B2)++post by simp];exact nq 0 _ _ _ _ _ _ (⟨λ_=>⟨λh'=>absurd h' (by rw[es];omega),λ_=>I⟩,λ_=>I⟩)
   obtain⟨C2,d1,d2,d3⟩:=half2;have hperm:(C1++C2).Perm (A++B):=by
    have :=(List.Perm.append c1 d1).trans<|Nu A1 A2 B1 B2;rw[hA',hB'];exact this
   refine⟨C1++C2,hperm,Bg c2 d2 λu hu v hv=>?_,?_⟩
   ·rcases List.mem_append.1 (c1.mem_iff.1 hu)with h|h<;>rcases List.mem_append.1 (d1.mem_iff.1 hv)with h'|h'
    ·exact rn sA u h v h'
    ·exact cross1 u h v h'
    ·exact cross2 u h v h'
    ·exact rn sB u h v h'
   ·have h5:=c3 1 _ d3;have es:(((a+b)/2:Nat):Int)+((m:Nat):Int)-((s:Nat):Int)=((mid+m-s:Nat):Int):=by rw[<-hmid];omega
    have hrot:bg 3 l (a:Nat) (m:Nat) (b:Nat) (a+b) (s:Nat) (s:Nat) (pre++(C1++C2)++post):=by
     have e6:pre++(C1++C2)++post=pre++C1++C2++post:=by simp
     rw[e6];refine rL2_slices_symMergeCmpFunc 2 _ _ _ _ _ _ _ _ (⟨λh=>absurd h (by omega),λ_=>⟨⟨by rw[es];omega,by rw[es];omega⟩,λh=>⟨λh'=>?_,λh'=>?_⟩,λh=>?_⟩⟩)
     ·rw[es]at h'⊢;have hr:=TG (pre++A1) A2 B1 (B2++post) (by omega) (by omega) (by simp;omega) (p1:=(s:Nat)) (p2:=(m:Nat)) (p3:=((mid+m-s:Nat):Int)) (by simp;omega) (by simp;omega) (by simp;omega);refine⟨pre++A1++B1++(A2++B2++post),?_,h5⟩;have e7:l=pre++A1++A2++B1++(B2++post):=by rw[hld,hA',hB'];simp
      rw[e7,show pre++A1++B1++(A2++B2++post)=pre++A1++B1++A2++(B2++post) by simp];exact hr
     ·rw[es]at h';have :B1=[]:=List.eq_nil_of_length_eq_zero (by omega);rw[show l=pre++A1++B1++(A2++B2++post) by rw[hld,hA',hB',this];simp];exact h5
     ·have :A2=[]:=List.eq_nil_of_length_eq_zero (by omega);rw[show l=pre++A1++B1++(A2++B2++post) by rw[hld,hA',hB',this];simp];exact h5
    obtain⟨M,hM⟩:=g4 3 _ hrot;exact⟨M,hM⟩
  rw[<-hld,<-hbd,<-hmd,<-had];have ek:((a:Nat):Int)+((b:Nat):Int)=((a+b:Nat):Int):=by omega
  by_cases hc:mid<m
  ·obtain⟨C,k1,k2,M,k3⟩:=key (mid+m-b) mid (λ_=>.inr trivial) (by omega) (by omega) (by omega) (aaf _) (λc h1 h2=>by omega) (.inr<|by omega)<|.inr rfl;refine⟨C,k1,k2,gb M _ _ _ _ _<|⟨⟨by omega,by omega⟩,λh=>absurd h (by omega),λ_=>⟨⟨by omega,by omega⟩,λh=>absurd h (by omega),λ_=>⟨⟨by omega,by omega⟩,a+b,ek,by omega,by omega,⟨by rw[<-hmid];omega,by rw[<-hmid];omega⟩,λ_=>⟨⟨by rw[<-hmid];omega,by rw[<-hmid];omega⟩,⟨by rw[<-hmid];omega,by rw[<-hmid];omega⟩,?_⟩,λh=>absurd (by rw[<-hmid];omega) h⟩⟩⟩⟩;rw[<-hmid,show((mid:Nat):Int)+((m:Nat):Int)-((b:Nat):Int)=((mid+m-b:Nat):Int) by omega];exact k3
  ·obtain⟨C,k1,k2,M,k3⟩:=key a m (λ_=>.inr trivial) (by omega) (aaf _) (aaf _) (by omega) (λc h1 h2=>by omega) (.inl rfl)<|.inl rfl;refine⟨C,k1,k2,gb M _ _ _ _ _<|⟨⟨by omega,by omega⟩,λh=>absurd h (by omega),λ_=>⟨⟨by omega,by omega⟩,λh=>absurd h (by omega),λ_=>⟨⟨by omega,by omega⟩,a+b,ek,by omega,by omega,⟨by rw[<-hmid];omega,by rw[<-hmid];omega⟩,λh=>absurd h (by rw[<-hmid];omega),λ_=>⟨⟨by rw[<-hmid];omega,by rw[<-hmid];omega⟩,k3⟩⟩⟩⟩⟩
structure BlkE (s:Nat) (l:List FE) (bs:List (List FE)) (last:List FE):Prop where
 e:l=bs.flatten++last
 b:∀x∈bs,x.length=s∧dy x
 l:last.length<s∧dy last
theorem BH{s:Nat}:∀{bs:List<|List FE},(∀x∈bs,x.length=s∧dy x)->bs.flatten.length=bs.length*s
 |[],_=>by simp
 |b::r,h=>by
  rw[List.flatten_cons,aab,BH (λx hx=>h x<|by simp[hx]),(h b<|by simp).1,aac,Nat.succ_mul];omega
theorem Qm(hn:n<=90000000):∀(k:Nat) (pre R:List FE),R.length<=k->pre.length+R.length=n->(∀x∈R,PbE x)->(∃bs:List<|List FE,pre=bs.flatten∧∀x∈bs,x.length=20∧dy x)->
  ∃l' bs last,l'.Perm (pre++R)∧BlkE 20 l' bs last∧∀M r,cQ M (n:Nat) l' 20 r->∃M',gP M' (n:Nat) (pre++R) pre.length (pre.length+20) r:=λk=>by
 induction k with
 |zero=>
  intro pre R hk hpn hR ⟨bs,hb1,hb2⟩;have :R=[]:=List.eq_nil_of_length_eq_zero (by omega);subst this;obtain⟨S,h1,h2,h3⟩:=KI pre [] [] (by simp) (by simp at hpn⊢;omega) (a:=(pre.length:Nat)) (b:=(n:Nat)) rfl (by simp at hpn⊢;omega);have :S=[]:=List.Perm.eq_nil h1;subst this;refine⟨pre++[],bs,[],List.Perm.refl _,⟨by rw[hb1],hb2,by decide,List.Pairwise.nil⟩,λM r h=>⟨M+1,jK M _ _ _ _ _<|⟨λh'=>absurd h' (by simp at hpn;omega),λ_=>⟨_,by simpa using h3,by simpa using h⟩⟩⟩⟩
 | succ k ih=>
  intro pre R hk hpn hR hbs;by_cases hc:20<=R.length
  ·obtain⟨Ra,Rb,rfl,g1⟩:∃Ra Rb,R=Ra++Rb∧Ra.length=20:=⟨R.take 20,R.drop 20,by simp,by simp;omega⟩;simp only[aab]at hk hpn hc;obtain⟨S,h1,h2,h3⟩:=KI pre Ra Rb (λx hx=>hR x (by simp[hx])) (by omega) (a:=(pre.length:Nat)) (b:=((pre.length+20:Nat):Int)) rfl (by rw[g1]);have hS:=h1.length_eq;obtain⟨bs,hb1,hb2⟩:=hbs;obtain⟨l',bs',last,f1,f2,f3⟩:=ih (pre++S) Rb (by omega) (by simp;omega) (λx hx=>hR x (by simp[hx])) ⟨bs++[S],by rw[hb1];simp,λx hx=>by
    rcases List.mem_append.1 hx with h|h
    ·exact hb2 x h
    ·simp only[List.mem_singleton]at h;subst h;exact⟨by omega,h2⟩⟩
   refine⟨l',bs',last,f1.trans ?_,f2,λM r h=>?_⟩
   ·rw[aaj];exact List.Perm.append_left _<|List.Perm.append_right _ h1
   ·obtain⟨M',hM⟩:=f3 M r h;rw[aab,hS,g1]at hM;exact⟨M'+1,jK M' _ _ _ _ _<|⟨λ_=>⟨_,by simpa using h3,by omega,hM⟩,λh'=>absurd (by omega) h'⟩⟩
  ·obtain⟨S,h1,h2,h3⟩:=KI pre R [] hR (by omega) (a:=(pre.length:Nat)) (b:=(n:Nat)) rfl (by omega);have hS:=h1.length_eq;obtain⟨bs,hb1,hb2⟩:=hbs;refine⟨pre++S,bs,S,List.Perm.append_left _ h1,⟨by rw[hb1],hb2,by omega,h2⟩,λM r h=>⟨M+1,jK M _ _ _ _ _<|⟨λh'=>absurd h' (by omega),λ_=>⟨_,by simpa using h3,by simpa using h⟩⟩⟩⟩
theorem QN{s:Nat}(hn:n<=90000000)(hs:0<s)(hsn:s<n):∀(k:Nat) (bs:List<|List FE) (pre last:List FE),bs.length<=k->pre.length+bs.flatten.length+last.length=n->(∀x∈pre,PbE x)->(∀x∈bs.flatten,PbE x)->(∀x∈last,PbE x)->(∀x∈bs,x.length=s∧dy x)->(last.length<s∧dy last)->(∃ps:List<|List FE,pre=ps.flatten∧∀x∈ps,x.length=2*s∧dy x)->
  ∃l' bs' last',l'.Perm (pre++bs.flatten++last)∧BlkE (2*s) l' bs' last'∧∀M r,cQ M (n:Nat) l' ((s:Int)*2) r->∃M',gX M' (n:Nat) (pre++bs.flatten++last) (pre.length:Nat) ((pre.length+2*s:Nat):Int) (s:Nat) r:=λk=>by
 induction k with
 |zero=>
  intro bs pre last hk hpn pp pb pl hb hl ⟨ps,hp1,hp2⟩;have :bs=[]:=List.eq_nil_of_length_eq_zero (by omega);subst this;simp only[List.flatten_nil,aae,Nat.add_zero,aar]at hpn⊢;exact⟨pre++last,ps,last,List.Perm.refl _,⟨by rw[hp1],hp2,by omega,hl.2⟩,λM r h=>⟨M+1,gD M _ _ _ _ _ _<|⟨λh'=>absurd h' (by omega),λ_=>⟨⟨by omega,by omega⟩,λh'=>absurd h' (by omega),λ_=>⟨⟨by omega,by omega⟩,h⟩⟩⟩⟩⟩
 | succ k ih=>
  intro bs pre last hk hpn pp pb pl hb hl hps
  match bs,hk,hpn,pb,hb with
  |[],hk,hpn,pb,hb=>exact ih [] pre last (by simp) hpn pp pb pl hb hl hps
  | [b1],hk,hpn,pb,hb=>
   have h1:=hb b1 (by simp);simp only[List.flatten_cons,List.flatten_nil,aar]at hpn pb⊢;obtain⟨ps,hp1,hp2⟩:=hps;by_cases hl0:last=[]
   ·subst hl0;simp only[aae,Nat.add_zero,aar]at hpn⊢;exact⟨pre++b1,ps,b1,List.Perm.refl _,⟨by rw[hp1],hp2,by omega,h1.2⟩,λM r h=>⟨M+1,gD M _ _ _ _ _ _<|⟨λh'=>absurd h' (by omega),λ_=>⟨⟨by omega,by omega⟩,λh'=>absurd h' (by omega),λ_=>⟨⟨by omega,by omega⟩,h⟩⟩⟩⟩⟩
   ·have hlp:0<last.length:=List.length_pos_iff.2 hl0;obtain⟨C,c1,c2,c3⟩:=EW (b1.length+last.length) pre b1 last [] (aaf _) (by omega) hlp h1.2 hl.2 pb pl pp (by simp) (by simp;omega);have hC:=c1.length_eq;rw[aab]at hC;refine⟨pre++C,ps,C,?_,⟨by rw[hp1],hp2,by omega,c2⟩,λM r h=>⟨M+1,gD M _ _ _ _ _ _<|⟨λh'=>absurd h' (by omega),λ_=>⟨⟨by omega,by omega⟩,λh'=>⟨pre++C,?_,⟨by omega,by omega⟩,h⟩,λh'=>absurd (by omega) h'⟩⟩⟩⟩
    ·rw[aaj];exact List.Perm.append_left _ c1
    ·rw[h1.1,show pre.length+s+last.length=n by omega]at c3;rw[show((pre.length:Nat):Int)+((s:Nat):Int)=((pre.length+s:Nat):Int) by omega];simpa using c3
  | b1::b2::r0,hk,hpn,pb,hb=>
   have h1:=hb b1 (by simp);have h2:=hb b2 (by simp);simp only[List.flatten_cons,aab,aac]at hpn hk;have pb':∀x,x∈b1∨x∈b2∨x∈r0.flatten->PbE x:=λx hx=>pb x (by simpa[List.flatten_cons]using hx);obtain⟨C,c1,c2,c3⟩:=EW (b1.length+b2.length) pre b1 b2 (r0.flatten++last) (aaf _) (by omega) (by omega) h1.2 h2.2 (λx hx=>pb' x (.inl hx)) (λx hx=>pb' x (.inr (.inl hx))) pp (λx hx=>by
    rcases List.mem_append.1 hx with h|h
    ·exact pb' x<|.inr<|.inr h
    ·exact pl x h) (by simp only[aab];omega)
   have hC:=c1.length_eq;rw[aab]at hC;obtain⟨ps,hp1,hp2⟩:=hps;obtain⟨l',bs',last',f1,f2,f3⟩:=ih r0 (pre++C) last (by omega) (by simp only[aab];omega) (λx hx=>by
    rcases List.mem_append.1 hx with h|h
    ·exact pp x h
    ·rcases List.mem_append.1 (c1.mem_iff.1 h)with h|h
     ·exact pb' x<|.inl h
     ·exact pb' x (.inr (.inl h))) (λx hx=>pb' x (.inr (.inr hx))) pl (λx hx=>hb x (by simp[hx])) hl ⟨ps++[C],by rw[hp1];simp,λx hx=>by
    rcases List.mem_append.1 hx with h|h
    ·exact hp2 x h
    ·simp only[List.mem_singleton]at h;subst h;exact⟨by omega,c2⟩⟩
   refine⟨l',bs',last',f1.trans ?_,f2,λM r h=>?_⟩
   ·have :=List.Perm.append_left pre<|List.Perm.append_right (r0.flatten++last) c1;simpa[List.flatten_cons]using this
   ·obtain⟨M',hM⟩:=f3 M r h;rw[h1.1,h2.1]at c3;rw[aab,show C.length=2*s by omega]at hM;refine⟨M'+1,gD M' _ _ _ _ _ _<|⟨λ_=>⟨⟨by omega,by omega⟩,pre++C++r0.flatten++last,?_,⟨by omega,by omega⟩,⟨by omega,by omega⟩,?_⟩,λh'=>absurd (by omega) h'⟩⟩
    ·rw[show((pre.length:Nat):Int)+((s:Nat):Int)=((pre.length+s:Nat):Int) by omega,show pre.length+2*s=pre.length+s+s by omega];simpa[List.flatten_cons]using c3
    ·rw[show((pre.length+2*s:Nat):Int)+2*((s:Nat):Int)=((pre.length+2*s+2*s:Nat):Int) by omega];exact hM
theorem PJ(hn:n<=90000000):∀(k s:Nat) (l:List FE) (bs:List<|List FE) (last:List FE),n-s<=k->0<s->s<=180000000->l.length=n->(∀x∈l,PbE x)->BlkE s l bs last->∃r,r.Perm l∧dy r∧∃M,cQ M (n:Nat) l (s:Nat) r:=λk=>by
 induction k using Nat.strongRecOn with
 | ind k ih=>
  intro s l bs last hk hs hs2 hl hp hB;have hlen:=congrArg List.length hB.e;rw[aab,BH hB.b]at hlen;by_cases hc:s<n
  ·obtain⟨l',bs',last',f1,f2,f3⟩:=QN hn hs hc bs.length bs [] last (aaf _) (by rw[BH hB.b,aae];omega) (by simp) (λx hx=>hp x (by rw[hB.e];simp only[aai];exact .inl hx)) (λx hx=>hp x (by rw[hB.e];simp only[aai];exact .inr hx)) hB.b hB.l ⟨[],rfl,by simp⟩;have f1':l'.Perm l:=by rw[hB.e];simpa using f1
   obtain⟨r,g1,g2,M,g3⟩:=ih (n-2*s) (by omega) (2*s) l' bs' last' (aaf _) (by omega) (by omega) (by rw[f1'.length_eq];exact hl) (λx hx=>hp x<|f1'.mem_iff.1 hx) f2;obtain⟨M',hM⟩:=f3 M r (by rw[show((s:Nat):Int)*2=((2*s:Nat):Int) by omega];exact g3);refine⟨r,g1.trans f1',g2,M'+1,oT M' _ _ _ _<|⟨λ_=>⟨⟨by omega,by omega⟩,?_⟩,λh=>absurd (by omega) h⟩⟩;rw[show 2*((s:Nat):Int)=(([]:List FE).length+2*s:Nat) by simp];rw[hB.e];simpa using hM
  ·refine⟨l,List.Perm.refl _,?_,1,oT 0 _ _ _ _<|⟨λh=>absurd h (by omega),λ_=>I⟩⟩
   match bs,hB,hlen with
   |[],hB,_=>rw[hB.e];simpa using hB.l.2
   |[b],hB,hlen=>
    have h1:=hB.b b (by simp);simp only[aac,aae,Nat.zero_add,Nat.one_mul]at hlen;have :last=[]:=List.eq_nil_of_length_eq_zero (by omega);rw[hB.e,this];simpa using h1.2
   |b::b'::r,hB,hlen=>
    simp only[aac,Nat.succ_mul]at hlen;omega
theorem Si(l:List FE)(G:l.length<=90000000)(J:∀x∈l,PbE x):∃r,eV l r∧r.Perm l∧dy r:=by
 obtain⟨O,bs,last,h1,h2,U⟩:=Qm G l.length [] l (aaf _) (by simp) J ⟨[],rfl,by simp⟩;rw[aam]at h1;obtain⟨r,Z,g2,M,g3⟩:=PJ G l.length 20 O bs last (by omega) (by decide) (by decide) h1.length_eq (λx hx=>J x<|h1.mem_iff.1 hx) h2;obtain⟨M',hM⟩:=U M r g3;exact⟨r,wc 0 _ _ (⟨r,wl M' _ _ _ (by simpa using hM),I⟩),Z.trans h1,g2⟩
theorem Nr{l r:List FE}(G:l.length<=90000000)(J:∀x∈l,PbE x)(h1:r.Perm l)(h2:dy r):eV l r:=by
 obtain⟨r',O,U,Z⟩:=Si l G J;rw[zA h2 Z<|h1.trans U.symm];exact O
theorem MV(a b:YI)(ha:a.length<=1000000000):dI a b (decide<|a=b):=by
 by_cases hl:a.length=b.length
 ·have key:∀k i,a.length-i<=k->a.take i=b.take i->eU (k+1) a b i (decide<|a=b):=by
   intro k
   induction k with
   |zero=>
    intro i hi ht;refine gv 0 _ _ _ _ (⟨λh=>by omega,λ_=>?_⟩);rw[List.take_of_length_le (by omega),List.take_of_length_le<|by omega]at ht;simp[ht]
   | succ k ih=>
    intro i hi ht;refine gv (k+1) _ _ _ _ (⟨λh=>?_,λh=>?_⟩)
    ·have h':i<b.length:=by omega
     refine⟨a[i],List.getElem?_eq_getElem h,b[i],List.getElem?_eq_getElem h',λhn=>?_,λhe=>ih (i+1) (by omega) ?_⟩
     ·have :a≠b:=λe=>hn (by subst e;rfl);simp[this]
     ·rw[List.take_add_one,List.take_add_one,ht,List.getElem?_eq_getElem h,List.getElem?_eq_getElem h',he]
    ·rw[List.take_of_length_le (by omega),List.take_of_length_le<|by omega]at ht;simp[ht]
  exact kx (a.length+1) _ _ _ (⟨λh=>absurd hl h,λ_=>key a.length 0 (by omega) I⟩)
 ·exact kx 0 _ _ _ (⟨λ_=>by have :a≠b:=λe=>hl (by rw[e]);simp[this],λh=>absurd h hl⟩)
variable{q:YI}
theorem sw(i:Int)(h:q.length+1<=1000000000):cq q i (q++[i]):=Bn 0 _ _ _ (⟨by omega,by simp;omega,rfl⟩)
def erC(c:CHr)(q:YI)(k:Int):CHr:={c with L:=c.L++[⟨⟨c.Module,q⟩,k⟩]}
def erI(b:Bool)(c:CHr)(q:YI)(k:Int):CHr:=if b=true then erC c q k else c
theorem tL{b:Bool}{c:CHr}{k:Int}(h:b=true):erI b c q k=erC c q k:=if_pos h
theorem qF{b:Bool}{c:CHr}{k:Int}(h:b=false):erI b c q k=c:=if_neg (by rw[h];decide)
theorem jL{c:CHr}(k:Int)(h1:q.length<=1000000000)(h2:c.L.length+1<=1000000000):aO c q k (erC c q k):=vJ 0 _ _ _ _ (⟨h1,by simp;omega,rfl⟩)
def fE(x:Cx)(b:YI)(k:Int):FE:=⟨⟨x.mo,x.pa++b⟩,k⟩
def ct(d:Bool)(P:FE->Bool)(f:FE):Nat:=if(d&&P f)=true then 1 else 0
theorem Db(P:FE->Bool)(d:Bool)(x:Cx)(k:Int)(b:YI)(s:Sv):(if d=true then faP x k b s else s).fa.countP P=s.fa.countP P+ct d P (fE x b k):=by
 cases d
 ·simp[ct]
 ·simp only[if_true,faP,List.countP_append,ct,Bool.true_and,fE,List.countP_singleton]
variable{x:Cx}
theorem CA(P:FE->Bool)(d:Bool){c:CHr}(G:c.Module=x.mo)(k:Int)(b:YI):(erI d c (x.pa++b) k).L.countP P=c.L.countP P+ct d P (fE x b k):=by
 cases d
 ·simp[ct,erI]
 ·simp only[erI,if_true,erC,List.countP_append,ct,Bool.true_and,fE,List.countP_singleton,G]
theorem jB(d:Bool)(c:CHr)(q:YI)(k:Int):(erI d c q k).P=c.P∧(erI d c q k).Module=c.Module∧(erI d c q k).Want=c.Want∧(erI d c q k).L.length<=c.L.length+1:=by
 cases d
 ·exact⟨rfl,rfl,rfl,by simp[erI]⟩
 ·exact⟨rfl,rfl,rfl,by simp[erI,erC]⟩
def goT(c:CHr):Ty:=⟨c.Got_Known,.node c.Got_T_Kind c.Got_T_Text c.Got_T_Leads c.Got_T_Kids⟩
def GR(x:Cx)(s:Sv)(c:CHr):Prop:=c.Want=[]∨(c.Want=x.wp∧x.mo=x.wm∧TyR ⟨s.rs,s.rl⟩ (goT c)∧s.rl<=1000000000)
variable{s:Sv}
theorem GR.er{c:CHr}(d:Bool)(q:YI)(k:Int)(h:GR x s c):GR x s (erI d c q k):=by
 cases d
 ·exact h
 ·exact h
theorem GR.fa{c:CHr}(d:Bool)(b:YI)(k:Int)(h:GR x s c):GR x (if d=true then faP x k b s else s) c:=by
 cases d
 ·exact h
 ·exact h
structure DR (x:Cx) (s s':Sv) (c c':CHr):Prop where
 P:c'.P=c.P
 M:c'.Module=c.Module
 W:c'.Want=c.Want
 d:∀P:FE->Bool,c'.L.countP P+s.fa.countP P=c.L.countP P+s'.fa.countP P
 g:GR x s c->GR x s' c'
theorem DR.refl(x:Cx)(s:Sv)(c:CHr):DR x s s c c:=⟨rfl,rfl,rfl,λ_=>rfl,id⟩
theorem DR.trans{s1 G:Sv}{c J O:CHr}(h:DR x s s1 c J)(k:DR x s1 G J O):DR x s G c O:=
 ⟨k.P.trans h.P,k.M.trans h.M,k.W.trans h.W,λP=>by have :=h.d P;have :=k.d P;omega,λg=>k.g<|h.g g⟩
theorem DR.er{c:CHr}(G:c.Module=x.mo)(d:Bool)(b:YI)(k:Int):DR x s (if d=true then faP x k b s else s) c (erI d c (x.pa++b) k):=
 ⟨(jB ..).1,(jB ..).2.1,(jB ..).2.2.1,λP=>by rw[Db,CA P d G];omega,λg=>(g.er d _ _).fa d _ _⟩
variable{s':Sv}{c':CHr}
theorem DR.len{c:CHr}(h:DR x s s' c c'):c'.L.length+s.fa.length=c.L.length+s'.fa.length:=by have :=h.d λ_=>true;simpa[List.countP_true]using this
structure RX (x:Cx) (c:CHr):Prop where
 P:c.P=x.p
 M:c.Module=x.mo
 ok:bk x.p=true
 hb:kbulk x.p<=10000000
 m0:0<=x.mo
 m1:x.mo<x.p.length
 sg:x.sg=sgM x.p x.p 0 []
theorem RX.to{c:CHr}(h:RX x c)(d:DR x s s' c c'):RX x c':=⟨d.P.trans h.P,d.M.trans h.M,h.ok,h.hb,h.m0,h.m1,h.sg⟩
theorem RX.er{c:CHr}(h:RX x c)(d:Bool)(q:YI)(k:Int):RX x (erI d c q k):=⟨(jB ..).1.trans h.P,(jB ..).2.1.trans h.M,h.ok,h.hb,h.m0,h.m1,h.sg⟩
def KM:Env->List Bd->Prop
 |[],[]=>True
 |b::r,e::q=>e.Name=b.name∧TyR b.typ e.T∧KM r q
 |_,_=>False
def pK(env:Env)(en:List Bd):Prop:=KM env en.reverse
variable{env:Env}{en:List Bd}
theorem pK.cons{w:YB}{k:Kn}{y:Ty}(h:pK env en)(hy:TyR k y):pK (⟨w,k⟩::env) (en++[⟨w,y⟩]):=by unfold pK;rw[List.reverse_append];exact⟨I,hy,h⟩
def QP(x:Cx)(t:Tree)(s:Sv):Prop:=∃rest,s.tg=aY x.p x.mo (nodK t x.pa)++rest
def NA(x:Cx)(t:Tree)(c:CHr):Prop:=∀q u,(q,u)∈nodK t x.pa->u.kind=17->q≠c.Want
def vU(E:Ev)(N:Nat):Prop:=∀t,tbulk t<=N->exT t->∀x env s en c L,Hyp x env s L (tbulk t) (uN t)->RX x c->pK env en->QP x t s->NA x t c->c.L.length<=s.fa.length->en.length+tbulk t<=100000000->
 ∃y c',aS c t x.pa en y c'∧TyR (E x t env s).1 y∧DR x s (E x t env s).2 c c'
theorem FQ(t:Tree):Tree.node t.kind t.text t.leads t.kids=t:=by cases t;rfl
variable{u:Tree}
theorem IE{c O:CHr}{r:Kn×Sv}{y:Ty}(hl:x.pa.length+1<=1000000000)(h1:aS c u (x.pa++[(i:Int)]) en y O)(h2:TyR r.1 y)(G:DR x s r.2 c O)(hk:r.1.lists<=1000000000):
  ∃c',ep c u (x.pa++[(i:Int)]) en y c'∧DR x s (AH x i r).2 c c':=by
 obtain⟨k,s1⟩:=r;have hp:=MV (x.pa++[(i:Int)]) O.Want (by simp;omega);have Z:(AH x i (k,s1)).2.fa=s1.fa:=LZ x i k s1;by_cases hw:O.Want=[]
 ·refine⟨O,rS_semvcsref08_Check_expr 0 _ _ _ _ _ _ (⟨_,_,h1,λh=>absurd h (by rw[hw];simp),λ_=>⟨rfl,rfl⟩⟩),G.P,G.M,G.W,λP=>?_,λ_=>.inl hw⟩;rw[Z];exact G.d P
 ·have U:(0:Int)<((O.Want.length:Nat):Int):=by
   have :=List.length_pos_iff.2 hw;omega
  by_cases he:x.pa++[(i:Int)]=O.Want
  ·rw[decide_eq_true he]at hp;refine⟨_,rS_semvcsref08_Check_expr 0 _ _ _ _ _ _ (⟨_,_,h1,λ_=>⟨true,hp,λ_=>⟨rfl,rfl⟩,λh=>(by cases h)⟩,λh=>absurd U h⟩),G.P,G.M,G.W,λP=>?_,λg=>?_⟩
   ·rw[Z];exact G.d P
   ·rcases G.g g with J|⟨J,g2,g3⟩
    ·exact absurd J hw
    ·refine .inr ⟨J,g2,?_⟩;have e:(AH x i (k,s1)).2={s1 with rs:=k.simple,rl:=k.lists}:=if_pos ⟨g2,he.trans J⟩;rw[e];simp only[goT,FQ];exact⟨h2,hk⟩
  ·rw[decide_eq_false he]at hp;refine⟨O,rS_semvcsref08_Check_expr 0 _ _ _ _ _ _ (⟨_,_,h1,λ_=>⟨false,hp,λh=>(by cases h),λ_=>⟨rfl,rfl⟩⟩,λh=>absurd U h⟩),G.P,G.M,G.W,λP=>?_,λg=>?_⟩
   ·rw[Z];exact G.d P
   ·rcases G.g g with J|⟨J,g2,g3⟩
    ·exact absurd J hw
    ·have e:(AH x i (k,s1)).2=s1:=if_neg λh=>he<|h.2.trans J.symm;rw[e];exact .inr ⟨J,g2,g3⟩
variable{t:Tree}
theorem vS(q:YI)(hu:t.kids[i]?=some u):∀z,z∈nodK u (q++[(i:Int)])->z∈nodK t q:=by
 have key:∀(l:YT) (j i:Nat),l[i]?=some u->∀z,z∈nodK u (q++[((j+i:Nat):Int)])->z∈nodKs l q j:=by
  intro l
  induction l with
  |nil=>intro j i h;simp at h
  | cons a r ih=>
   intro j i h z hz;cases i with
   |zero=>
    simp only[List.getElem?_cons_zero,aad]at h;subst h;simp only[nodKs,aai];exact .inl hz
   |succ i=>
    simp only[nodKs,aai];refine .inr (ih (j+1) i (by simpa using h) z ?_);rw[show j+1+i=j+(i+1) by omega];exact hz
 intro z hz;rw[dH];exact List.mem_cons_of_mem _ (key t.kids 0 i hu z (by simpa using hz))
variable{E:Ev}{N L:Nat}
theorem nC(hG:nH E N)(hR:vU E N){c:CHr}(O:t.kids[i]?=some u)(hb:tbulk u<=N)(hx:exT u)(hy:Hyp x env s L (tbulk u+1)<|uN u)(G:RX x c)(hE:pK env en)(hQ:∃rest,s.tg=aY x.p x.mo (nodK u<|x.pa++[(i:Int)])++rest)(hN:NA x t c)(hl:c.L.length<=s.fa.length)(U:en.length+tbulk u<=100000000):
  ∃y c',aX c t x.pa i en y c'∧TyR (aR E x t i env s).1 y∧DR x s (aR E x t i env s).2 c c'∧c'.L.length<=(aR E x t i env s).2.fa.length:=by
 have hp:=hy.pa;have hlb:=hy.lb;have hgk:=(hG u hb hx (x.go i) env s L ⟨by simp[Cx.go];omega,by have :=hy.fa;omega,hy.tg,by have :=hy.lb;omega,hy.env,hy.sg⟩).2.k.2;obtain⟨y,c1,h1,h2,J⟩:=hR u hb hx (x.go i) env s en c L ⟨by simp[Cx.go];omega,by have :=hy.fa;omega,hy.tg,by have :=hy.lb;omega,hy.env,hy.sg⟩ ⟨G.P,G.M,G.ok,G.hb,G.m0,G.m1,G.sg⟩ hE hQ (λq v hm hk=>hN q v (vS x.pa O _ hm) hk) hl U;have e:aR E x t i env s=AH x i (E (x.go i) u env s):=by unfold aR;rw[dF O]
 rw[e];obtain⟨c',g1,Z⟩:=IE (x:=x) (i:=i) (s:=s) (by omega) h1 h2 ⟨J.P,J.M,J.W,J.d,J.g⟩ (by omega);refine⟨y,c',oN 0 _ _ _ _ _ _ _ (⟨i,I,u,O,_,sw i (by omega),_,_,g1,I,I⟩),?_,Z,?_⟩
 ·generalize E (x.go i) u env s=r at h2⊢;obtain⟨k,s'⟩:=r;exact h2
 ·have :=Z.len;omega
theorem AZ(d:Bool)(x:Cx)(k:Int)(b:YI)(s:Sv):(if d=true then faP x k b s else s).tg=s.tg∧(if d=true then faP x k b s else s).fa.length<=s.fa.length+1∧s.fa.length<=(if d=true then faP x k b s else s).fa.length:=by
 cases d
 ·exact⟨rfl,by simp,by simp⟩
 ·exact⟨rfl,by simp[faP],by simp[faP]⟩
theorem jC{a:Tree}{r:YT}{l rest:List ay}(h:l=aY x.p x.mo (nodKs (a::r) x.pa i)++rest):l=aY x.p x.mo (nodK a<|x.pa++[(i:Int)])++(aY x.p x.mo (nodKs r x.pa<|i+1)++rest):=by rw[h,nodKs,oA,aaj]
theorem vh{a:Tree}{r:YT}{l G rest:List ay}(h:l=aY x.p x.mo (nodKs (a::r) x.pa i)++rest)(h':G=l.drop (uN a)):G=aY x.p x.mo (nodKs r x.pa<|i+1)++rest:=by rw[h',jC h,<-tgs_uN x.p x.mo a (x.pa++[(i:Int)]),List.drop_left]
theorem Cw(h:QP x t s)(G:dt t=false):∃rest,s.tg=aY x.p x.mo (nodKs t.kids x.pa 0)++rest:=by obtain⟨r,h⟩:=h;refine⟨r,?_⟩;rw[h,dH,aY,G];rfl
variable{m:Nat}
theorem k_low{c:CHr}{y:Ty}(G:t.kind≠10∧t.kind≠11∧t.kind≠13∧t.kind≠14)(h:dR m c t q en false y c'):aS c t q en y c':=
 rS_semvcsref08_Check_kind m _ _ _ _ _ _ (⟨λh=>absurd h G.1,λ_=>⟨λh=>absurd h G.2.1,λ_=>⟨λh=>absurd h G.2.2.1,λ_=>by rw[beq_eq_false_iff_ne.2 G.2.2.2];exact h⟩⟩⟩)
theorem GP{c:CHr}{t:Tree}{q:YI}{en:List Bd}(hq:q.length<=1000000000)(hL:c.L.length+1<=1000000000):∀(env:Env) (l tail:List Bd),KM env l->en=l.reverse++tail->l.length<=1000000000->
  (∀k,jI t.text env=some k->∃y,TyR k y∧dh (env.length+1) c t q en ((l.length:Int)-1) y c)∧(jI t.text env=none->dh (env.length+1) c t q en ((l.length:Int)-1) noY (erC c q 1))
 |[],[],tail,_,he,_=>⟨λk h=>(by cases h),λ_=>fF 0 _ _ _ _ _ _ _<|⟨λh=>absurd h (by simp),λ_=>⟨_,jL 1 hq hL,rfl,rfl⟩⟩⟩
 |[],e::l,tail,h,_,_=>h.elim
 |b::r,[],tail,h,_,_=>h.elim
 | b::r,e::l,tail,h,he,hl=>by
  obtain⟨h1,h2,h3⟩:=h;have hg:en[l.length]?=some e:=by
   rw[he,List.reverse_cons,aaj,List.getElem?_append_right<|by simp];simp
  have ez:(((e::l).length:Nat):Int)-1=((l.length:Nat):Int):=by simp
  rw[ez];simp only[aac]at hl;obtain⟨i1,i2⟩:=GP (c:=c) (t:=t) (en:=en) hq hL r l (e::tail) h3 (by rw[he];simp) (by omega);by_cases hb:b.name=t.text
  ·have hv:jI t.text (b::r)=some b.typ:=if_pos hb;rw[hv];refine⟨λk hk=>?_,λh=>(by cases h)⟩;injection hk with hk
   subst hk;exact⟨e.T,h2,fF (r.length+1) _ _ _ _ _ _ _<|⟨λ_=>⟨l.length,I,e,hg,λ_=>⟨l.length,I,e,hg,I,I⟩,λhn=>absurd (h1.trans hb) hn⟩,λh=>absurd (by omega) h⟩⟩
  ·have hv:jI t.text (b::r)=jI t.text r:=if_neg hb;rw[hv];refine⟨λk hk=>?_,λhk=>?_⟩
   ·obtain⟨y,g1,g2⟩:=i1 k hk;exact⟨y,g1,fF (r.length+1) _ _ _ _ _ _ _<|⟨λ_=>⟨l.length,I,e,hg,λhn=>absurd (h1.symm.trans hn) hb,λ_=>⟨⟨by omega,by omega⟩,g2⟩⟩,λh=>absurd (by omega) h⟩⟩
   ·exact fF (r.length+1) _ _ _ _ _ _ _ (⟨λ_=>⟨l.length,I,e,hg,λhn=>absurd (h1.symm.trans hn) hb,λ_=>⟨⟨by omega,by omega⟩,i2 hk⟩⟩,λh=>absurd (by omega) h⟩)
theorem Qy{s:Sv}{c:CHr}(G:t.kind=12)(J:RX x c)(O:pK env en)(U:x.pa.length<=1000000000)(Z:c.L.length+1<=1000000000)(hn:en.length<=1000000000):
  ∃y c',aS c t x.pa en y c'∧TyR (uu x s<|jI t.text env).1 y∧DR x s (uu x s<|jI t.text env).2 c c':=by
 obtain⟨h1,h2⟩:=GP (t:=t) (en:=en) U Z env en.reverse [] O (by simp) (by simpa using hn);rw[List.length_reverse]at h1 h2;have go:∀y c',dh (env.length+1) c t x.pa en ((en.length:Int)-1) y c'->aS c t x.pa en y c':=λy c' h=>
  k_low (m:=env.length+2) (by omega) (bq (env.length+1) _ _ _ _ _ _ _<|⟨λh=>(by cases h),λ_=>⟨λ_=>h,λh=>absurd G h⟩⟩)
 cases hv:jI t.text env with
 |some k=>
  obtain⟨y,g1,g2⟩:=h1 k hv;exact⟨y,c,go _ _ g2,g1,DR.refl ..⟩
 |none=>
  have :=DR.er (s:=s) J.M true [] 1;rw[aar]at this;exact⟨noY,_,go _ _<|h2 hv,TyR.no,this⟩
def ifY(y z:Ty):Ty:=if y.Known=true then y else z
variable{a b:Kn}
theorem TI{y z:Ty}{c:CHr}(G:TyR a y)(hb:TyR b z)(J:q.length+1<=1000000000)(O:c.L.length+1<=1000000000)(m:Nat):ga (m+1) q y z c (ifY y z) (erI (aZ a b) c (q++[2]) 6):=by
 refine uB m _ _ _ _ _ _ (⟨_,nD G hb,λh=>⟨_,sw 2 J,_,jL 6 (by simp;omega) O,λk=>?_,λk=>?_⟩,λh=>⟨λk=>?_,λk=>?_⟩⟩)
 ·exact⟨(if_pos k).symm,(tL h).symm⟩
 ·exact⟨(if_neg (by rw[k];decide)).symm,(tL h).symm⟩
 ·exact⟨(if_pos k).symm,(qF h).symm⟩
 ·exact⟨(if_neg (by rw[k];decide)).symm,(qF h).symm⟩
theorem Sa{y z:Ty}(G:TyR a y)(hb:TyR b z):TyR (if a.simple=0 then b else a) (ifY y z):=by
 unfold ifY;cases hy:y.Known
 ·rw[if_pos<|G.un hy,if_neg<|by decide];exact hb
 ·rw[if_neg<|G.kn hy,if_pos rfl];exact G
theorem Rm(hG:nH E N)(hR:vU E N){c:CHr}(hb:tbulk t<=N+1)(hx:exT t)(hk:t.kind=19)(hy:Hyp x env s L (tbulk t)<|uN t)(hX:RX x c)(hE:pK env en)(hQ:QP x t s)(hN:NA x t c)(hl:c.L.length<=s.fa.length)(hen:en.length+tbulk t<=100000000):
  ∃y c',aS c t x.pa en y c'∧TyR (ifP E x t env s).1 y∧DR x s (ifP E x t env s).2 c c':=by
 obtain⟨a,b,d,e⟩:=Pl<|(ro hx).2.2.1 hk;have ha:t.kids[0]?=some a:=by rw[e];rfl
 have J:t.kids[1]?=some b:=by rw[e];rfl
 have hd:t.kids[2]?=some d:=by rw[e];rfl
 have hB:=aQ t;rw[e]at hB;simp only[kbulk]at hB;have hU:uN t=uN a+(uN b+uN d):=by rw[hJ,e,hk];simp[uNs]
 have p0:=hy.pa;have p1:=hy.fa;have p2:=hy.tg;have p3:=hy.lb;obtain⟨rest,hq⟩:=Cw hQ (by simp[dt,hk]);rw[e]at hq;have H0:=hy.to (s1:=s) (B':=tbulk a+1) (u':=uN a) (by omega) (by omega) (by omega);obtain⟨_,A2⟩:=dm hG (s:=s) (env:=env) (x:=x) (L:=L) ha (by omega) (cS hx ha<|by omega).1 H0;obtain⟨y1,c1,R1a,R1b,R1c,R1d⟩:=nC hG hR ha (by omega) (cS hx ha<|by omega).1 H0 hX hE ⟨_,jC hq⟩ hN hl (by omega);have G:=vh hq A2.tg;unfold ifP;generalize aR E x t 0 env s=r at A2 R1b R1c R1d G⊢;obtain⟨k1,s1⟩:=r;simp only at G;have q1:=A2.fa;simp only at q1;obtain⟨v1,v2,v3⟩:=AZ (aZ k1 ⟨7,0⟩) x 4 [0] s1;have hs1:ifS x (k1,s1)=(if aZ k1 ⟨7,0⟩=true then faP x 4 [0] s1 else s1):=rfl;rw[<-hs1]at v1 v2 v3;have n1:NA x t c1:=λq u h1 h2=>by rw[R1c.W];exact hN q u h1 h2
 have H1:=hy.to (s1:=ifS x (k1,s1)) (B':=tbulk b+1) (u':=uN b) (by omega) (by omega) (by rw[v1];exact tl (v:=uN t) A2.tg (by omega) p2);rw[<-v1]at G;obtain⟨_,B2⟩:=dm hG (s:=ifS x (k1,s1)) (env:=env) (x:=x) (L:=L) J (by omega) (cS hx J<|by omega).1 H1;obtain⟨y2,c2,R2a,R2b,R2c,R2d⟩:=nC hG hR J (by omega) (cS hx J<|by omega).1 H1 (hX.to R1c) hE ⟨_,jC G⟩ n1 (by simp only at R1d;omega) (by omega);have U:=vh G B2.tg;generalize aR E x t 1 env (ifS x (k1,s1))=r at B2 R2b R2c R2d U⊢;obtain⟨O,s2⟩:=r;simp only at U;have q2:=B2.fa;simp only at q2;have n2:NA x t c2:=λq u h1 h2=>by rw[R2c.W];exact n1 q u h1 h2
 have H2:=hy.to (s1:=s2) (B':=tbulk d+1) (u':=uN d) (by omega) (by omega) (by have h1:=B2.tg;have h2:=A2.tg;simp only at h1 h2;rw[h1,v1,h2,List.drop_drop,aak];omega);obtain⟨_,C2⟩:=dm hG (s:=s2) (env:=env) (x:=x) (L:=L) hd (by omega) (cS hx hd<|by omega).1 H2;obtain⟨y3,Z,R3a,R3b,R3c,R3d⟩:=nC hG hR hd (by omega) (cS hx hd<|by omega).1 H2 ((hX.to R1c).to R2c) hE ⟨_,jC U⟩ n2 R2d (by omega);show∃y c',aS c t x.pa en y c'∧TyR (ifQ x O<|aR E x t 2 env s2).1 y∧DR x s (ifQ x O<|aR E x t 2 env s2).2 c c';generalize aR E x t 2 env s2=r at C2 R3b R3c R3d⊢;obtain⟨k3,s3⟩:=r;simp only at R1b R2b R3b R1d R2d R3d;have q3:=C2.fa;simp only at q3;have X3:=((hX.to R1c).to R2c).to R3c;obtain⟨f1,f2,f3,f4⟩:=jB (aZ k1 ⟨7,0⟩) Z (x.pa++[0]) 4;obtain⟨g1,g2,g3,g4⟩:=jB (aZ O k3) (erI (aZ k1 ⟨7,0⟩) Z (x.pa++[0]) 4) (x.pa++[2]) 6;have hL2:=TI (q:=x.pa) (c:=erI (aZ k1 ⟨7,0⟩) Z (x.pa++[0]) 4) R2b R3b (by omega) (by omega) 0;have l1:=R1c.len;have l2:=R2c.len;have l3:=R3c.len;simp only at l1 l2 l3;refine⟨ifY y2 y3,erI (aZ O k3) (erI (aZ k1 ⟨7,0⟩) Z (x.pa++[0]) 4) (x.pa++[2]) 6,k_low (m:=2) (by omega) (bq 1 _ _ _ _ _ _ _<|⟨λh=>(by cases h),λ_=>⟨λh=>absurd h (by omega),λ_=>⟨λh=>absurd h (by omega),λ_=>⟨λh=>absurd h (by omega),λ_=>⟨λ_=>⟨y1,c1,R1a,y2,c2,R2a,y3,Z,R3a,_,iW 7,_,nD R1b (TyR.leaf (by decide)<|by decide),λh=>⟨_,sw 0 (by omega),_,jL 4 (by simp;omega) (by omega),?_⟩,λh=>?_⟩,λh=>absurd hk h⟩⟩⟩⟩⟩),?_,?_⟩
 ·rw[<-tL (c:=Z) (q:=x.pa++[0]) (k:=4) h];exact hL2
 ·rw[qF (c:=Z) (q:=x.pa++[0]) (k:=4) h]at hL2⊢;exact hL2
 ·exact Sa R2b R3b
 ·refine⟨?_,?_,?_,λP=>?_,λg=>?_⟩
  ·rw[g1,f1,R3c.P,R2c.P,R1c.P]
  ·rw[g2,f2,R3c.M,R2c.M,R1c.M]
  ·rw[g3,f3,R3c.W,R2c.W,R1c.W]
  ·have z1:=R1c.d P;have z2:=R2c.d P;have z3:=R3c.d P;have z4:=Db P (aZ k1 ⟨7,0⟩) x 4 [0] s1;rw[<-hs1]at z4;have z5:=CA P (aZ k1 ⟨7,0⟩) X3.M 4 [0];have z6:=CA P (aZ O k3) (X3.er (aZ k1 ⟨7,0⟩) (x.pa++[0]) 4).M 6 [2];have z7:=Db P (aZ O k3) x 6 [2] s3;simp only at z1 z2 z3;show List.countP P _+_=_+List.countP P (if aZ O k3=true then faP x 6 [2] s3 else s3).fa;omega
  ·exact(((R3c.g<|R2c.g<|(R1c.g g).fa (aZ k1 ⟨7,0⟩) [0] 4).er _ _ _).er _ _ _).fa (aZ O k3) [2] 6
theorem PA(Z:nH E N)(hR:vU E N){c:CHr}(hb:tbulk t<=N+1)(hx:exT t)(O:t.kind=20)(hy:Hyp x env s L (tbulk t)<|uN t)(hX:RX x c)(hE:pK env en)(hQ:QP x t s)(hN:NA x t c)(hl:c.L.length<=s.fa.length)(hen:en.length+tbulk t<=100000000):
  ∃y c',aS c t x.pa en y c'∧TyR (GT E x t env<|aR E x t 0 env s).1 y∧DR x s (GT E x t env<|aR E x t 0 env s).2 c c':=by
 obtain⟨a,b,e⟩:=EQ<|(ro hx).2.1 O;have U:t.kids[0]?=some a:=by rw[e];rfl
 have J:t.kids[1]?=some b:=by rw[e];rfl
 have hB:=aQ t;rw[e]at hB;simp only[kbulk]at hB;have hU:uN t=uN a+uN b:=by rw[hJ,e,O];simp[uNs]
 have p0:=hy.pa;have p1:=hy.fa;have p2:=hy.tg;have p3:=hy.lb;obtain⟨rest,hq⟩:=Cw hQ (by simp[dt,O]);rw[e]at hq;have H0:=hy.to (s1:=s) (B':=tbulk a+1) (u':=uN a) (by omega) (by omega) (by omega);obtain⟨_,A2⟩:=dm Z (s:=s) (env:=env) (x:=x) (L:=L) U (by omega) (cS hx U<|by omega).1 H0;obtain⟨y1,c1,R1a,R1b,R1c,R1d⟩:=nC Z hR U (by omega) (cS hx U<|by omega).1 H0 hX hE ⟨_,jC hq⟩ hN hl (by omega);have G:=vh hq A2.tg;generalize aR E x t 0 env s=r at A2 R1b R1c R1d G⊢;obtain⟨k1,s1⟩:=r;simp only at G R1b R1d;have q1:=A2.fa;have qk:=A2.k;simp only at q1 qk;have n1:NA x t c1:=λq u h1 h2=>by rw[R1c.W];exact hN q u h1 h2
 have H1:Hyp x (⟨t.text,k1⟩::env) s1 (L+tbulk a) (tbulk b+1) (uN b):=⟨by omega,by omega,tl (v:=uN t) A2.tg (by omega) p2,by omega,λc hc=>by
   rcases List.mem_cons.1 hc with rfl|hc
   ·exact qk
   ·exact(hy.env c hc).mono (by omega),λk g hg=>(hy.sg k g hg).mono (by omega)⟩
 obtain⟨y2,c2,R2a,R2b,R2c,R2d⟩:=nC Z hR J (by omega) (cS hx J<|by omega).1 H1 (hX.to R1c) (hE.cons (w:=t.text) R1b) ⟨_,jC G⟩ n1 R1d (by simp;omega);refine⟨y2,c2,k_low (m:=2) (by omega) (bq 1 _ _ _ _ _ _ _<|⟨λh=>(by cases h),λ_=>⟨λh=>absurd h (by omega),λ_=>⟨λh=>absurd h (by omega),λ_=>⟨λh=>absurd h (by omega),λ_=>⟨λh=>absurd h (by omega),λ_=>⟨λ_=>⟨y1,c1,R1a,by omega,by simp;omega,y2,c2,R2a,uw 0 _ _ _ _<|⟨rfl,rfl⟩⟩,λh=>absurd O h⟩⟩⟩⟩⟩⟩),R2b,R1c.trans R2c⟩
def vw(a b:Kn)(y z:Ty):Ty:=if okB a=true then y else if okB b=true then z else noY
theorem SS(h:okB a=true):a.simple≠0:=by intro G;simp[okB,G]at h
theorem QO{y z:Ty}(G:TyR a y)(hb:TyR b z):TyR (ur a b) (vw a b y z):=by
 unfold ur vw uZ;cases h1:okB a
 ·cases h2:okB b
  ·simp only[aay,if_false];exact TyR.no
  ·simp only[aay,if_false,if_true];exact hb
 ·have :=SS h1;simp only[if_true,this,if_false,ite_self];exact G
theorem yG(h:(a.simple==5&&a.lists==0)=false):(a.simple==6&&a.lists==0)=okB a:=by unfold okB;rw[h,Bool.false_or]
theorem ER(h:(a.simple==5&&a.lists==0)=true):okB a=true:=by unfold okB;rw[h,Bool.true_or]
theorem UN{y z:Ty}{c:CHr}(hb:TyR b z)(m:Nat):gq (m+1) y z c (okB a) (vw a b y z) c:=by
 refine uP m _ _ _ _ _ _ (⟨λh=>⟨by unfold vw;rw[if_pos h],rfl⟩,λh=>⟨_,wA hb (by decide) (by decide),λJ=>⟨?_,rfl⟩,λJ=>⟨_,wA hb (by decide) (by decide),λG=>⟨?_,rfl⟩,λG=>⟨?_,rfl⟩⟩⟩⟩)
 ·unfold vw;rw[if_neg (by rw[h];decide),if_pos<|ER J]
 ·rw[yG J]at G;unfold vw;rw[if_neg (by rw[h];decide),if_pos G]
 ·rw[yG J]at G;unfold vw;rw[if_neg (by rw[h];decide),if_neg (by rw[G];decide)];rfl
theorem NF{y z:Ty}{c:CHr}(J:TyR a y)(hb:TyR b z)(m:Nat):eE (m+2) y z c (vw a b y z) c:=by
 have G:=UN (a:=a) (y:=y) (c:=c) hb m;refine uX (m+1) _ _ _ _ _ (⟨_,wA J (by decide) (by decide),λh=>?_,λh=>⟨_,wA J (by decide) (by decide),?_⟩⟩)
 ·rw[ER h]at G;exact G
 ·rw[yG h];exact G
variable{q1:YI}
theorem JQ{y z:Ty}{c:CHr}(G:TyR a y)(hb:TyR b z)(f:Bool)(O:q1.length<=1000000000)(U:c.L.length+1<=1000000000)(m:Nat):dq (m+3) q1 y z c f (vw a b y z) (erI (!f&&aZ a b) c q1 6):=by
 refine ve (m+2) _ _ _ _ _ _ _<|⟨λh=>⟨_,nD G hb,λJ=>⟨_,jL 6 O U,?_⟩,λJ=>?_⟩,λh=>?_⟩
 ·rw[h,J];exact NF G hb m
 ·rw[h,J];exact NF G hb m
 ·rw[h];exact NF G hb m
theorem JJ{y z:Ty}{c:CHr}(O:TyR a y)(hb:TyR b z)(f:Bool)(G:q1.length<=1000000000)(Z:c.L.length+2<=1000000000)(m:Nat):dl (m+4) q1 y z c f (vw a b y z) (erI (!(f||bad b)&&aZ a b) (erI (bad b) c q1 4) q1 6):=by
 have hk:=hb.known;refine vc (m+3) _ _ _ _ _ _ _ (⟨λh=>⟨_,wA hb (by decide) (by decide),λU=>⟨_,wA hb (by decide) (by decide),λJ=>⟨_,jL 4 G (by omega),?_⟩,λJ=>?_⟩,λU=>?_⟩,λh=>?_⟩)
 ·rw[yG U]at J;have e:bad b=true:=by unfold bad;rw[J];simp[hb.kn h]
  rw[e,Bool.or_true];exact JQ O hb true G (by simp[erC];omega) m
 ·rw[yG U]at J;have e:bad b=false:=by unfold bad;rw[J];rfl
  rw[e,Bool.or_false];exact JQ O hb f G (by omega) m
 ·have e:bad b=false:=by unfold bad;rw[ER U];rfl
  rw[e,Bool.or_false];exact JQ O hb f G (by omega) m
 ·have e:bad b=false:=by unfold bad;simp[hb.un h]
  rw[e,Bool.or_false];exact JQ O hb f G (by omega) m
def OO(w:YB):Ty:=if w=[60]then⟨true,.node 7 [] [] []⟩else⟨true,.node 5 [] [] []⟩
theorem SX{z:Ty}{c:CHr}(hb:TyR b z)(J:q1.length<=1000000000)(O:c.L.length+1<=1000000000)(m:Nat):gu (m+1) t q1 z c (OO t.text) (erI (aZ b ⟨5,0⟩) c q1 4):=by
 refine uV m _ _ _ _ _ _ (⟨_,iW 5,_,nD hb (TyR.leaf (by decide)<|by decide),λh=>⟨_,jL 4 J O,λG=>⟨_,iW 7,?_,?_⟩,λG=>⟨_,iW 5,?_,?_⟩⟩,λh=>⟨λG=>⟨_,iW 7,?_,?_⟩,λG=>⟨_,iW 5,?_,?_⟩⟩⟩)
 ·exact(if_pos G).symm
 ·exact(tL h).symm
 ·exact(if_neg G).symm
 ·exact(tL h).symm
 ·exact(if_pos G).symm
 ·exact(qF h).symm
 ·exact(if_neg G).symm
 ·exact(qF h).symm
def Kk(w:YB)(a b:Kn)(y z:Ty):Ty:=if w=[43]then vw a b y z else if w=[61,61]then⟨true,.node 7 [] [] []⟩else OO w
def Kj(w:YB)(a b:Kn)(q0 q1:YI)(c:CHr):CHr:=if w=[43]then erI (!(bad a||bad b)&&aZ a b) (erI (bad b) (erI (bad a) c q0 4) q1 4) q1 6 else if w=[61,61]then erI (aZ a b) c q1 6 else erI (aZ b ⟨5,0⟩) (erI (aZ a ⟨5,0⟩) c q0 4) q1 4
theorem Ue{q0:YI}{y z:Ty}{c:CHr}(U:TyR a y)(hb:TyR b z)(Z:q0.length<=1000000000)(O:q1.length<=1000000000)(hL:c.L.length+3<=1000000000):jG 6 t q0 q1 y z c (Kk t.text a b y z) (Kj t.text a b q0 q1 c):=by
 have l1:=(jB (bad a) c q0 4).2.2.2;have l2:=(jB (aZ a ⟨5,0⟩) c q0 4).2.2.2;unfold Kk Kj;refine uQ 5 _ _ _ _ _ _ _ _ (⟨λJ=>⟨λh=>⟨_,wA U (by decide) (by decide),λh5=>⟨_,wA U (by decide) (by decide),λh6=>⟨_,jL 4 Z (by omega),?_⟩,λh6=>?_⟩,λh5=>?_⟩,λh=>?_⟩,λJ=>⟨λG=>⟨_,nD U hb,λh=>⟨_,jL 6 O (by omega),_,iW 7,?_,?_⟩,λh=>⟨_,iW 7,?_,?_⟩⟩,λG=>⟨_,iW 5,_,nD U (TyR.leaf (by decide)<|by decide),λh=>⟨_,jL 4 Z (by omega),?_⟩,λh=>?_⟩⟩⟩)
 ·rw[yG h5]at h6;have e:bad a=true:=by unfold bad;rw[h6];simp[U.kn h]
  rw[if_pos J,if_pos J,e];exact JJ U hb true O (by simp[erC];omega) 1
 ·rw[yG h5]at h6;have e:bad a=false:=by unfold bad;rw[h6];rfl
  rw[if_pos J,if_pos J,e];exact JJ U hb false O (by omega) 1
 ·have e:bad a=false:=by unfold bad;rw[ER h5];rfl
  rw[if_pos J,if_pos J,e];exact JJ U hb false O (by omega) 1
 ·have e:bad a=false:=by unfold bad;simp[U.un h]
  rw[if_pos J,if_pos J,e];exact JJ U hb false O (by omega) 1
 ·rw[if_neg J,if_pos G]
 ·rw[if_neg J,if_pos G];exact(tL h).symm
 ·rw[if_neg J,if_pos G]
 ·rw[if_neg J,if_pos G];exact(qF h).symm
 ·rw[if_neg J,if_neg G,if_neg J,if_neg G,h];exact SX hb O (by simp[erC];omega) 4
 ·rw[if_neg J,if_neg G,if_neg J,if_neg G,h];exact SX hb O (by show c.L.length+1<=_;omega) 4
theorem Sc{w:YB}{y z:Ty}(G:TyR a y)(hb:TyR b z):TyR (opQ x w a (b,s)).1 (Kk w a b y z):=by
 unfold opQ Kk OO;simp only[];split
 ·exact QO G hb
 ·split
  ·exact TyR.leaf (by decide) (by decide)
  ·simp only[];split
   ·exact TyR.leaf (by decide) (by decide)
   ·exact TyR.leaf (by decide) (by decide)
theorem DR.cong{G:Sv}{c:CHr}(h:DR x s s' c c')(hf:∀P:FE->Bool,G.fa.countP P=s'.fa.countP P)(hr:G.rs=s'.rs∧G.rl=s'.rl):DR x s G c c':=
 ⟨h.P,h.M,h.W,λP=>by rw[hf];exact h.d P,λg=>by have :=h.g g;unfold GR at this⊢;rw[hr.1,hr.2];exact this⟩
theorem Sb{w:YB}{c:CHr}(G:RX x c):DR x s (opQ x w a (b,s)).2 c (Kj w a b (x.pa++[0]) (x.pa++[1]) c):=by
 unfold opQ Kj;simp only[];split
 ·have J:=DR.er (s:=s) G.M (bad a) [0] 4;have X1:=G.er (bad a) (x.pa++[0]) 4;have O:=DR.er (s:=if bad a=true then faP x 4 [0] s else s) X1.M (bad b) [1] 4;have X2:=X1.er (bad b) (x.pa++[1]) 4;have U:=DR.er (s:=if bad b=true then faP x 4 [1] (if bad a=true then faP x 4 [0] s else s)else if bad a=true then faP x 4 [0] s else s) X2.M (!(bad a||bad b)&&aZ a b) [1] 6;refine((J.trans O).trans U).cong (λP=>?_) ?_
  ·unfold sF;cases bad a<;>cases bad b<;>cases aZ a b<;>rfl
  ·unfold sF;cases bad a<;>cases bad b<;>cases aZ a b<;>exact⟨rfl,rfl⟩
 ·split
  ·exact DR.er G.M (aZ a b) [1] 6
  ·have J:=DR.er (s:=s) G.M (aZ a ⟨5,0⟩) [0] 4;have X1:=G.er (aZ a ⟨5,0⟩) (x.pa++[0]) 4;exact J.trans<|DR.er (s:=if aZ a ⟨5,0⟩=true then faP x 4 [0] s else s) X1.M (aZ b ⟨5,0⟩) [1] 4
theorem Pz(O:nH E N)(hR:vU E N){c:CHr}(hb:tbulk t<=N+1)(hx:exT t)(U:t.kind=21)(hy:Hyp x env s L (tbulk t)<|uN t)(hX:RX x c)(hE:pK env en)(hQ:QP x t s)(hN:NA x t c)(hl:c.L.length<=s.fa.length)(hen:en.length+tbulk t<=100000000):
  ∃y c',aS c t x.pa en y c'∧TyR (zy E x t env<|aR E x t 0 env s).1 y∧DR x s (zy E x t env<|aR E x t 0 env s).2 c c':=by
 obtain⟨a,b,e⟩:=EQ<|(ro hx).2.2.2 U;have Z:t.kids[0]?=some a:=by rw[e];rfl
 have G:t.kids[1]?=some b:=by rw[e];rfl
 have hB:=aQ t;rw[e]at hB;simp only[kbulk]at hB;have hU:uN t=uN a+uN b:=by rw[hJ,e,U];simp[uNs]
 have p0:=hy.pa;have p1:=hy.fa;have p2:=hy.tg;have p3:=hy.lb;obtain⟨rest,hq⟩:=Cw hQ (by simp[dt,U]);rw[e]at hq;have H0:=hy.to (s1:=s) (B':=tbulk a+1) (u':=uN a) (by omega) (by omega) (by omega);obtain⟨_,A2⟩:=dm O (s:=s) (env:=env) (x:=x) (L:=L) Z (by omega) (cS hx Z<|by omega).1 H0;obtain⟨y1,c1,R1a,R1b,R1c,R1d⟩:=nC O hR Z (by omega) (cS hx Z<|by omega).1 H0 hX hE ⟨_,jC hq⟩ hN hl (by omega);have J:=vh hq A2.tg;generalize aR E x t 0 env s=r at A2 R1b R1c R1d J⊢;obtain⟨k1,s1⟩:=r;simp only at J R1b R1d;have q1:=A2.fa;simp only at q1;have n1:NA x t c1:=λq u h1 h2=>by rw[R1c.W];exact hN q u h1 h2
 have H1:=hy.to (s1:=s1) (B':=tbulk b+1) (u':=uN b) (by omega) (by omega) (tl (v:=uN t) A2.tg (by omega) p2);obtain⟨_,B2⟩:=dm O (s:=s1) (env:=env) (x:=x) (L:=L) G (by omega) (cS hx G<|by omega).1 H1;obtain⟨y2,c2,R2a,R2b,R2c,R2d⟩:=nC O hR G (by omega) (cS hx G<|by omega).1 H1 (hX.to R1c) hE ⟨_,jC J⟩ n1 R1d (by omega);show∃y c',aS c t x.pa en y c'∧TyR (opQ x t.text k1<|aR E x t 1 env s1).1 y∧DR x s (opQ x t.text k1<|aR E x t 1 env s1).2 c c';generalize aR E x t 1 env s1=r at B2 R2b R2c R2d⊢;obtain⟨k2,s2⟩:=r;simp only at R2b R2d;have q2:=B2.fa;simp only at q2;have hB0:=Ue (t:=t) (q0:=x.pa++[0]) (q1:=x.pa++[1]) (c:=c2) R1b R2b (by simp;omega) (by simp;omega) (by omega);exact⟨_,_,k_low (m:=2) (by omega) (bq 1 _ _ _ _ _ _ _<|⟨λh=>(by cases h),λ_=>⟨λh=>absurd h (by omega),λ_=>⟨λh=>absurd h (by omega),λ_=>⟨λh=>absurd h (by omega),λ_=>⟨λh=>absurd h (by omega),λ_=>⟨λh=>absurd h (by omega),λ_=>⟨λ_=>⟨_,_,wd 6 _ _ _ _ _ _ (⟨_,sw 0 (by omega),_,sw 1 (by omega),y1,c1,R1a,y2,c2,R2a,hB0⟩),rfl,rfl⟩,λh=>absurd U h⟩⟩⟩⟩⟩⟩⟩),Sc R1b R2b,(R1c.trans R2c).trans<|Sb<|(hX.to R1c).to R2c⟩
theorem Rh(y:Ty):ae.mk y.Known (Tree.node y.T.kind y.T.text y.T.leads y.T.kids)=y:=by obtain⟨k,t⟩:=y;cases t;rfl
def LR(t:Tree)(q:YI)(en:List Bd)(M:Nat)(c:CHr)(f:Ty)(i:Nat)(y:Ty)(c':CHr):Prop:=cy M t q en c f.Known f.T.kind f.T.text f.T.leads f.T.kids i y c'
theorem Jh{E:Ev}{N:Nat}(hG:nH E N)(hR:vU E N){x:Cx}{env:Env}{en:List Bd}{L:Nat}{t:Tree}(hx:exT t)(hk:t.kind=18)(hb:tbulk t<=N+1)(hE:pK env en)(hen:en.length+tbulk t<=100000000)(rest:List ay):∀(n i:Nat) (f:Kn) (yf:Ty) (s:Sv) (c:CHr),n+i=t.kids.length->TyR f yf->Hyp x env s L (kbulk (t.kids.drop i)+1) (uNs<|t.kids.drop i)->RX x c->NA x t c->s.tg=aY x.p x.mo (nodKs (t.kids.drop i) x.pa i)++rest->c.L.length<=s.fa.length->
  ∃y c',LR t x.pa en (n+1) c yf i y c'∧TyR (jE<|jS E x t env n i (f,s)).1 y∧DR x s (jE<|jS E x t env n i (f,s)).2 c c'
 | 0,i,f,yf,s,c,hn,hf,hy,hX,hN,hq,hl=>by
  rw[show jS E x t env 0 i (f,s)=(f,s)from rfl];cases hK:yf.Known
  ·have hz:=hf.un hK;rw[show jE (f,s)=(f,s) by unfold jE;simp only[if_pos hz]];exact⟨noY,c,iT 0 _ _ _ _ _ _ _ _ _ _ _ _ (⟨λh=>absurd h (by omega),λ_=>⟨λ_=>⟨rfl,rfl⟩,λh=>(by rw[hK]at h;cases h)⟩⟩),.inl ⟨hz,rfl⟩,DR.refl ..⟩
  ·have hz:=hf.kn hK;rw[show jE (f,s)=(⟨f.simple,f.lists+1⟩,s) by unfold jE;simp only[if_neg hz]];refine⟨_,c,iT 0 _ _ _ _ _ _ _ _ _ _ _ _ (⟨λh=>absurd h (by omega),λ_=>⟨λh=>(by rw[hK]at h;cases h),λ_=>⟨rfl,rfl⟩⟩⟩),?_,DR.refl ..⟩;rcases hf with⟨h,_⟩|⟨_,h1,h2,k,h3,h4⟩
   ·exact absurd h hz
   ·refine .inr ⟨rfl,h1,h2,k+1,by simp only;omega,?_⟩;simp only[FQ,h4];rfl
 | n+1,i,f,yf,s,c,hn,hf,hy,hX,hN,hq,hl=>by
  have hlt:i<t.kids.length:=by omega
  obtain⟨u,hu⟩:∃u,t.kids[i]?=some u:=⟨_,fV hlt⟩;have hd:=aK hu;have hB:=aQ t;have b0:=bn hu;have hxu:=(cS hx hu<|by omega).1;have p1:=hy.pa;have p2:=hy.fa;have p3:=hy.tg;have p4:=hy.lb;rw[hd]at p1 p2 p3 p4 hy hq;simp only[kbulk,uNs]at p1 p2 p3 p4 hy;have H0:=hy.to (s1:=s) (B':=tbulk u+1) (u':=uN u) (by omega) (by omega) (by omega);obtain⟨_,A2⟩:=dm hG (s:=s) (env:=env) (x:=x) (L:=L) hu (by omega) hxu H0;obtain⟨y1,c1,R1a,R1b,R1c,R1d⟩:=nC hG hR hu (by omega) hxu H0 hX hE ⟨_,jC hq⟩ hN hl (by omega);have hq1:=vh hq A2.tg;rw[show jS E x t env (n+1) i (f,s)=jS E x t env n (i+1) (DE x i f<|aR E x t i env s)from rfl];generalize aR E x t i env s=r at A2 R1b R1c R1d hq1⊢;obtain⟨k,s1⟩:=r;have q1:=A2.fa;have q2:=A2.tg;simp only at q1 q2 R1b R1d hq1;have n1:NA x t c1:=λq u h1 h2=>by rw[R1c.W];exact hN q u h1 h2
  obtain⟨f1,hf1⟩:∃f1,f1=if f.simple=0 then k else f:=⟨_,rfl⟩
  obtain⟨yf1,hyf1⟩:∃yf1,yf1=if yf.Known=true then yf else y1:=⟨_,rfl⟩
  have hT:TyR f1 yf1:=by
   rw[hf1,hyf1];cases hK:yf.Known
   ·rw[if_pos<|hf.un hK,if_neg<|by decide];exact R1b
   ·rw[if_neg<|hf.kn hK,if_pos rfl];exact hf
  rw[show DE x i f (k,s1)=(if f.simple=0 then k else f,if aZ k (if f.simple=0 then k else f)then faP x 6 [(i:Int)] s1 else s1)from rfl,<-hf1];obtain⟨v1,v2,v3⟩:=AZ (aZ k f1) x 6 [(i:Int)] s1;obtain⟨e1,e2,e3,e4⟩:=jB (aZ k f1) c1 (x.pa++[(i:Int)]) 6;have d2:=R1c.trans<|DR.er (s:=s1) (hX.to R1c).M (aZ k f1) [(i:Int)] 6;have l2:=d2.len;obtain⟨y,c',g1,g2,g3⟩:=Jh hG hR hx hk hb hE hen rest n (i+1) f1 yf1 _ (erI (aZ k f1) c1 (x.pa++[(i:Int)]) 6) (by omega) hT (hy.to (s1:=if aZ k f1=true then faP x 6 [(i:Int)] s1 else s1) (by omega) (by omega) (by rw[v1,q2,aak];omega)) ((hX.to R1c).er _ _ _) (λq u h1 h2=>by rw[e3];exact n1 q u h1 h2) (v1.trans hq1) (by omega);refine⟨y,c',?_,g2,d2.trans g3⟩;have l1:=R1c.len;refine iT (n+1) _ _ _ _ _ _ _ _ _ _ _ _<|⟨λ_=>⟨y1,c1,R1a,λhK=>?_,λhK=>?_⟩,λh=>absurd hlt h⟩
  ·have ef:f1=k:=hf1.trans<|if_pos<|hf.un hK;have ey:yf1=y1:=hyf1.trans (if_neg (by rw[hK];decide));rw[ef,ey]at g1;refine⟨_,nD R1b R1b,λh=>⟨_,sw (i:Int) (by omega),_,jL 6 (by simp;omega) (by omega),?_⟩,λh=>?_⟩
   ·rw[tL h]at g1;exact g1
   ·rw[qF h]at g1;exact g1
  ·have ef:f1=f:=hf1.trans<|if_neg<|hf.kn hK;have ey:yf1=yf:=hyf1.trans<|if_pos hK;rw[ef,ey]at g1;refine⟨_,by rw[Rh];exact nD R1b hf,λh=>⟨_,sw (i:Int) (by omega),_,jL 6 (by simp;omega) (by omega),?_⟩,λh=>?_⟩
   ·rw[tL h]at g1;exact g1
   ·rw[qF h]at g1;exact g1
variable{p:YT}
theorem MR{m:Int}(hp:bk p=true)(h9:u.kind=16)(hu:shapeK u=true)(h:(be p m u.text).2.2=true):∃(i d:Nat) (t f:Tree),(be p m u.text).1=(i:Int)∧(be p m u.text).2.1=(d:Int)∧p[i]?=some t∧t.kids[d]?=some f∧f.kind=2∧shapeK f=true:=by
 have G:bJ u.text=1∨bJ u.text=3:=by rw[cc,h9]at hu;simp only[aaa]at hu;have :=hu.1.2;simp only[oZ]at this;simp at this;omega
 have fin:∀(i d:Nat) (t a:Tree),p[i]?=some t->t.kids[d]?=some a->shapeK a=true:=λi d t a ht ha=>by obtain⟨Z,J⟩:=eK hp ht;rw[cc]at J;simp only[aaa]at J;exact(dP J.2 ha).2
 unfold be at h⊢;rcases G with G|G
 ·have hd:dB u.text 0=-1:=BD _ _ (EU G<|.inl rfl).1;rw[if_neg<|by omega]at h⊢;obtain⟨i,d,t,a,_,a1,a2,O,U,a5,_⟩:=xZ h;obtain⟨Z,J⟩:=eK hp O;refine⟨i,d,t,a,a1,a2,O,U,?_,fin i d t a O U⟩;rcases qV Z J U with⟨k,_⟩|⟨_,k⟩
  ·exact k
  ·rw[a5,G]at k;cases k
 ·have hd:=Jc G<|.inl rfl;rw[if_pos<|by omega]at h⊢;obtain⟨i,d,t,a,_,a1,a2,O,U,a5,_⟩:=xZ h;obtain⟨Z,J⟩:=eK hp O;refine⟨i,d,t,a,a1,a2,O,U,?_,fin i d t a O U⟩;rcases qV Z J U with⟨k,_⟩|⟨_,k⟩
  ·exact k
  ·have g:=(EU k<|.inr rfl).2;have g3:=(JY G<|.inl rfl).2.2.1 rfl;rw[a5,hd,Int.toNat_natCast]at g;have e:(u.text.drop<|spanN bi u.text+1).getD 0 0=u.text.getD (spanN bi u.text+1) 0:=by
    simp[List.getD_eq_getElem?_getD,List.getElem?_drop]
   rw[e]at g;have :=g.2 g3;cases this
theorem PT(hG:nH E N)(hR:vU E N){c:CHr}{a:Tree}(Z:t.kids[i]?=some a)(hk:a.kind=17)(hu:a.kids[0]?=some u)(hb:tbulk u<=N)(hx:exT u)(hp:x.pa.length+tbulk u+2<=100000000)(hy:Hyp x env s L (tbulk u+1)<|uN u)(G:RX x c)(hE:pK env en)(hQ:∃rest,s.tg=aY x.p x.mo (nodK a<|x.pa++[(i:Int)])++rest)(hka:a.kids=[u])(hN:NA x t c)(hl:c.L.length<=s.fa.length)(hen:en.length+tbulk u<=100000000):
  ∃y c',aX c t x.pa i en y c'∧TyR (aR E (x.go i) a 0 env s).1 y∧DR x s (aR E (x.go i) a 0 env s).2 c c'∧c'.L.length<=(aR E (x.go i) a 0 env s).2.fa.length:=by
 obtain⟨rest,hq⟩:=hQ;have hq':s.tg=aY x.p x.mo (nodKs (u::[]) (x.pa++[(i:Int)]) 0)++rest:=by rw[hq,dH,aY,show dt a=false by simp[dt,hk],hka];rfl
 obtain⟨y,J,h1,h2,O,h4⟩:=nC (x:=x.go i) hG hR hu hb hx ⟨by simp[Cx.go];omega,by have :=hy.fa;omega,hy.tg,by have :=hy.lb;omega,hy.env,hy.sg⟩ (c:=c) ⟨G.P,G.M,G.ok,G.hb,G.m0,G.m1,G.sg⟩ hE ⟨_,jC (x:=x.go i) hq'⟩ (λq v hm hk'=>hN q v (vS x.pa Z _ hm) hk') hl hen;have hkd:aS c a (x.pa++[(i:Int)]) en y J:=
  k_low (m:=1) (by omega) (bq 0 _ _ _ _ _ _ _<|⟨λh=>(by cases h),λ_=>⟨λh=>absurd h (by omega),λ_=>⟨λh=>absurd h (by omega),λ_=>⟨λh=>absurd h (by omega),λ_=>⟨λh=>absurd h (by omega),λ_=>⟨λh=>absurd h (by omega),λ_=>⟨λh=>absurd h (by omega),λ_=>⟨λh=>absurd h (by omega),λ_=>⟨λ_=>⟨y,J,h1,rfl,rfl⟩,λh=>absurd hk h⟩⟩⟩⟩⟩⟩⟩⟩⟩)
 have hne:x.pa++[(i:Int)]≠J.Want:=by rw[O.W];exact hN _ a (vS x.pa Z _ (by rw[dH];exact List.mem_cons_self)) hk
 have U:=MV (x.pa++[(i:Int)]) J.Want (by simp;omega);rw[decide_eq_false hne]at U;have hex:ep c a (x.pa++[(i:Int)]) en y J:=
  rS_semvcsref08_Check_expr 0 _ _ _ _ _ _ (⟨_,_,hkd,λ_=>⟨false,U,λh=>(by cases h),λ_=>⟨rfl,rfl⟩⟩,λ_=>⟨rfl,rfl⟩⟩)
 exact⟨y,J,oN 0 _ _ _ _ _ _ _ (⟨i,I,a,Z,_,sw i (by omega),_,_,hex,I,I⟩),h2,⟨O.P,O.M,O.W,O.d,O.g⟩,h4⟩
def tn(ps:List Kn)(i:Nat)(k:Kn):Bool:=match ps[i]? with
 |some q=>aZ k q
 |none=>false
theorem RD(x:Cx)(ps:List Kn)(i:Nat)(k:Kn)(s:Sv):uC x ps i (k,s)=if tn ps i k=true then faP x 4 [(i:Int),0] s else s:=by unfold uC tn;simp only[];cases ps[i]?<;>simp
theorem Ck{E:Ev}{N:Nat}(hG:nH E N)(hR:vU E N){x:Cx}{env:Env}{en:List Bd}{L:Nat}{t:Tree}(ps:List Kn)(bf:Bool)(n1 z:Int)(f:Tree)(yE:Ty)(ht:∀(i:Nat) (a:Tree),t.kids[i]?=some a->∃u,a.kids=[u]∧a.kind=17∧tbulk u<tbulk a∧tbulk u<=N∧exT u∧uN a=uN u)(hE:pK env en)(hen:en.length+kbulk t.kids<=100000000)(hz:bf=true->z=(ps.length:Int))(hz0:bf=false->ps=[])
  (hps:bf=true->∀(i:Nat) (q:Kn),ps[i]?=some q->∃(pk v:Tree) (yq:Ty),f.kids[i]?=some pk∧pk.kids[0]?=some v∧TyR q yq∧∀c:CHr,c.P=x.p->bA c n1 v yq c) (hend:bf=true->∃rt:Tree,f.kids[ps.length]?=some rt∧∀c:CHr,c.P=x.p->bA c n1 rt yE c) (hend0:bf=false->yE=noY) (rest:List ay):∀(n i:Nat) (s:Sv) (c:CHr),n+i=t.kids.length->x.pa.length+kbulk (t.kids.drop i)+1<=100000000->Hyp x env s L (kbulk<|t.kids.drop i) (uNs<|t.kids.drop i)->RX x c->NA x t c->s.tg=aY x.p x.mo (nodKs (t.kids.drop i) x.pa i)++rest->c.L.length<=s.fa.length->
  ∃c',cx (n+1) t x.pa en n1 z c bf i f yE c'∧DR x s (jW E x ps env (t.kids.drop i) i s) c c'
 |0,i,s,c,hn,hpa,hy,hX,hN,hq,hl=>by have hd:t.kids.drop i=[]:=List.drop_of_length_le (by omega);rw[hd];refine⟨c,nt 0 _ _ _ _ _ _ _ _ _ _ _ (⟨λh=>absurd h (by omega),λ_=>⟨λh=>⟨(hend0 h).symm,I⟩,λh=>?_⟩⟩),DR.refl ..⟩;obtain⟨rt,g1,g2⟩:=hend h;exact⟨ps.length,hz h,rt,g1,_,_,g2 c hX.P,I,I⟩
 | n+1,i,s,c,hn,hpa,hy,hX,hN,hq,hl=>by
  have hlt:i<t.kids.length:=by omega
  obtain⟨a,ha⟩:∃a,t.kids[i]?=some a:=⟨_,fV hlt⟩;have hd:=aK ha;obtain⟨u,hu',hk17,b1,b2,b3,b4⟩:=ht i a ha;have hu:a.kids[0]?=some u:=by rw[hu'];rfl
  have b0:=bn ha;have p1:=hy.pa;have p2:=hy.fa;have p3:=hy.tg;have p4:=hy.lb;rw[hd]at p1 p2 p3 p4 hpa hq⊢;simp only[kbulk,uNs]at p1 p2 p3 p4 hpa;have HG:Hyp (x.go i) env s L (tbulk u+1) (uN u):=⟨by simp[Cx.go];omega,by omega,by omega,by omega,hy.env,hy.sg⟩;obtain⟨_,A2⟩:=dm hG (s:=s) (env:=env) (x:=x.go i) (L:=L) hu b2 b3 HG;obtain⟨y1,c1,R1a,R1b,R1c,R1d⟩:=PT hG hR ha hk17 hu b2 b3 (by omega) (s:=s) (L:=L) (env:=env) (x:=x) ⟨by omega,by omega,by omega,by omega,hy.env,hy.sg⟩ hX hE ⟨_,jC hq⟩ hu' hN hl (by omega);have hA2:=A2.tg;rw[<-b4]at hA2;have hq1:=vh hq hA2;rw[show jW E x ps env (a::t.kids.drop (i+1)) i s=jW E x ps env (t.kids.drop<|i+1) (i+1) (uC x ps i<|aR E (x.go i) a 0 env s)from rfl];generalize aR E (x.go i) a 0 env s=r at A2 hA2 R1b R1c R1d hq1⊢;obtain⟨k,s1⟩:=r;have q1:=A2.fa;simp only at q1 R1b R1d hq1 hA2;rw[RD];have n1':NA x t c1:=λq u h1 h2=>by rw[R1c.W];exact hN q u h1 h2
  obtain⟨v1,v2,v3⟩:=AZ (tn ps i k) x 4 [(i:Int),0] s1;obtain⟨e1,e2,e3,e4⟩:=jB (tn ps i k) c1 (x.pa++[(i:Int),0]) 4;have d2:=R1c.trans<|DR.er (s:=s1) (hX.to R1c).M (tn ps i k) [(i:Int),0] 4;have l2:=d2.len;have l1:=R1c.len;have X1:=hX.to R1c;obtain⟨c',g1,g3⟩:=Ck hG hR ps bf n1 z f yE ht hE hen hz hz0 hps hend hend0 rest n (i+1) _ (erI (tn ps i k) c1 (x.pa++[(i:Int),0]) 4) (by omega) (by omega) (hy.to (s1:=if tn ps i k=true then faP x 4 [(i:Int),0] s1 else s1) (by rw[hd];simp only[kbulk];omega) (by rw[hd];simp only[kbulk];omega) (by rw[v1,hA2,aak];omega)) (X1.er _ _ _) (λq u h1 h2=>by rw[e3];exact n1' q u h1 h2) (v1.trans hq1) (by omega);refine⟨c',?_,d2.trans g3⟩;have hpath:x.pa++[(i:Int)]++[(0:Int)]=x.pa++[(i:Int),0]:=by simp
  refine nt (n+1) _ _ _ _ _ _ _ _ _ _ _ (⟨λ_=>⟨_,sw (i:Int) (by omega),_,sw 0 (by simp;omega),y1,c1,R1a,λh=>⟨λhi=>?_,λhi=>?_⟩,λh=>?_⟩,λh=>absurd hlt h⟩)
  ·have hi':i<ps.length:=by rw[hz h]at hi;omega
   obtain⟨q,hqq⟩:∃q,ps[i]?=some q:=⟨ps[i],List.getElem?_eq_getElem hi'⟩;obtain⟨pk,v,yq,w1,w2,w3,w4⟩:=hps h i q hqq;have hD:tn ps i k=aZ k q:=by unfold tn;rw[hqq]
   rw[hD]at g1;rw[h]at g1;refine⟨pk,w1,v,w2,yq,c1,w4 c1 X1.P,_,nD R1b w3,λhb=>⟨_,jL 4 (by simp;omega) (by omega),?_⟩,λhb=>?_⟩
   ·rw[tL hb]at g1;rw[hpath];exact g1
   ·rw[qF hb]at g1;exact g1
  ·have hq0:ps[i]?=none:=List.getElem?_eq_none (by rw[hz h]at hi;omega);have hD:tn ps i k=false:=by unfold tn;rw[hq0]
   rw[qF hD,h]at g1;exact g1
  ·have hD:tn ps i k=false:=by unfold tn;rw[hz0 h];rfl
   rw[qF hD,h]at g1;exact g1
theorem GQ{a v:Tree}(h:a.kids=[v]):cC a 0=v:=dF (by rw[h];rfl)
theorem OI(hG:nH E N)(hR:vU E N){c:CHr}(hb:tbulk t<=N+1)(hx:exT t)(hk:t.kind=16)(hy:Hyp x env s L (tbulk t)<|uN t)(G:RX x c)(hE:pK env en)(hQ:QP x t s)(hN:NA x t c)(hl:c.L.length<=s.fa.length)(hen:en.length+tbulk t<=100000000):
  ∃y c',aS c t x.pa en y c'∧TyR (qy E x t env s).1 y∧DR x s (qy E x t env s).2 c c':=by
 have hB:=aQ t;have hU:uN t=1+uNs t.kids:=by rw[hJ,hk];simp
 have p1:=hy.pa;have p2:=hy.fa;have p3:=hy.tg;have p4:=hy.lb;have hkl:=bt t;have htx:=cH t;have ht:∀(i:Nat) (a:Tree),t.kids[i]?=some a->∃u,a.kids=[u]∧a.kind=17∧tbulk u<tbulk a∧tbulk u<=N∧exT u∧uN a=uN u:=λi a ha=>by
  obtain⟨h1,h2,h3⟩:=DH hx ha hk;obtain⟨u,e⟩:=Ba h2;have hu:a.kids[0]?=some u:=by rw[e];rfl
  have h4:=aE hu;have h5:=aE ha;rw[dF hu]at h3;exact⟨u,e,h1,h4,by omega,h3,by rw[hJ a,h1,e];simp[uNs]⟩
 obtain⟨rest,hq⟩:=hQ;have hq':s.tg=tgK x.p x.mo x.pa t::(aY x.p x.mo (nodKs t.kids x.pa 0)++rest):=by rw[hq,dH,aY,show dt t=true by simp[dt,hk]];rfl
 have hhd:s.tg.headD noT=tgK x.p x.mo x.pa t:=by rw[hq'];rfl
 have hfind:=Gh (p:=x.p) (w:=t.text) G.m0 G.m1 (by have :=G.hb;omega) (by omega);have fin:∀(y:Ty) (c':CHr) (m:Nat),jU c t x.pa en y c'->aS c t x.pa en y c':=λy c' m h=>
  k_low (m:=1) (by omega) (bq 0 _ _ _ _ _ _ _<|⟨λh=>(by cases h),λ_=>⟨λh=>absurd h (by omega),λ_=>⟨λ_=>⟨_,_,h,rfl,rfl⟩,λh=>absurd hk h⟩⟩⟩)
 have e0:qy E x t env s=((qz x<|tgK x.p x.mo x.pa t).result,jW E x (qz x<|tgK x.p x.mo x.pa t).params env t.kids 0<|vd x t (tgK x.p x.mo x.pa t) (qz x<|tgK x.p x.mo x.pa t)<|cd s):=by unfold qy;rw[hhd]
 rw[e0];have hU1:(cd s).tg=aY x.p x.mo (nodKs (t.kids.drop 0) x.pa 0)++rest:=by show s.tg.drop 1=_;rw[hq'];rfl
 cases J:(be x.p x.mo t.text).2.2
 ·
  have O:(tgK x.p x.mo x.pa t).Free=true:=by simp[tgK,J]
  have hg:qz x (tgK x.p x.mo x.pa t)=⟨[],⟨0,0⟩⟩:=by unfold qz;rw[if_pos O]
  have hs:vd x t (tgK x.p x.mo x.pa t) ⟨[],⟨0,0⟩⟩ (cd s)=faP x 1 [] (cd s):=by unfold vd;rw[if_pos O]
  rw[hg];simp only[];rw[hs];have d1:=DR.er (s:=cd s) G.M true [] 1;rw[aar]at d1;have X1:=G.er true x.pa 1;obtain⟨c',g1,g2⟩:=Ck hG hR [] false (be x.p x.mo t.text).1 0 (.node 0 [] [] []) noY ht hE (by omega) (λh=>(by cases h)) (λ_=>rfl) (λh=>(by cases h)) (λh=>(by cases h)) (λ_=>rfl) rest t.kids.length 0 (faP x 1 []<|cd s) (erI true c x.pa 1) (by omega) (by simp;omega) (hy.to (by simp;omega) (by simp[faP,cd];omega) (by simp[faP,cd];omega)) X1 hN hU1 (by simp[faP,cd,erI,erC];omega);refine⟨noY,c',fin _ _ 0 (oc (t.kids.length+3) _ _ _ _ _ _<|⟨_,_,_,by rw[G.P,G.M];exact hfind,λ_=>⟨_,jL 1 (by omega) (by omega),?_⟩,λh=>(by rw[J]at h;cases h)⟩),TyR.no,?_⟩
  ·rw[J];exact nz (t.kids.length+2) _ _ _ _ _ _ _ _ _ (⟨λh=>(by cases h),λ_=>iX (t.kids.length+1) _ _ _ _ _ _ _ _ _ _<|g1⟩)
  ·have :=d1.trans g2;rw[List.drop_zero]at this;exact⟨this.P,this.M,this.W,this.d,this.g⟩
 ·obtain⟨i,d,tt,f,a1,a2,a3,a4,a5,a6⟩:=MR G.ok hk hx.1 J;obtain⟨f1,f2,f3,f4⟩:=oE a6 a5;have O:(tgK x.p x.mo x.pa t).Free=false:=by simp[tgK,J]
  have hi:=(List.getElem?_eq_some_iff.1 a3).1;have hbf:tbulk f<=10000000:=by have :=bn a3;have :=aE a4;have :=G.hb;omega
  have hBf:=aQ f;have hg:qz x (tgK x.p x.mo x.pa t)=dZ x.p (i:Int) f:=by unfold qz;rw[if_neg (by rw[O];decide),G.sg];have :=yn (P:=x.p) (key:=((i:Int),(d:Int))) x.p 0 i d [] tt f a3 a4 a5 (by simp);rw[show((tgK x.p x.mo x.pa t).Module,(tgK x.p x.mo x.pa t).Def)=((i:Int),(d:Int)) by simp[tgK,a1,a2],this];simp
  have hpl:(dZ x.p (i:Int) f).params.length=f.kids.length-2:=by simp[dZ]
  have hs:vd x t (tgK x.p x.mo x.pa t) (dZ x.p (i:Int) f) (cd s)=if(!decide ((dZ x.p (i:Int) f).params.length=t.kids.length))=true then faP x 3 [] (cd s)else cd s:=by unfold vd;rw[if_neg (by rw[O];decide)];by_cases h:(dZ x.p (i:Int) f).params.length=t.kids.length<;>simp[h]
  rw[hg];simp only[];rw[hs];obtain⟨U,hb3⟩:∃U,U=!decide ((dZ x.p (i:Int) f).params.length=t.kids.length):=⟨_,rfl⟩;rw[<-hb3];obtain⟨v1,v2,v3⟩:=AZ U x 3 []<|cd s;obtain⟨e1,e2,e3,e4⟩:=jB U c x.pa 3;have d1:=DR.er (s:=cd s) G.M U [] 3;rw[aar]at d1;have X1:=G.er U x.pa 3;have hf2:(cd s).fa.length=s.fa.length:=rfl;have hu2:(cd s).tg.length=s.tg.length-1:=by simp[cd]
  have ldr:=d1.len;obtain⟨rt,Z⟩:∃rt,f.kids[f.kids.length-2]?=some rt:=⟨_,fV<|by omega⟩;have hrk:=f3 rt Z;have hrb:=bn Z;have wr:∀(v:Tree),tyK v->tbulk v<=10000000->∀c:CHr,c.P=x.p->bA c (i:Int) v (wrY x.p (i:Int) v) c:=λv hv hbv c hc=>zZ G.ok G.hb (by omega) (by omega) hv hbv hc;have hres:TyR (dZ x.p (i:Int) f).result (wrY x.p (i:Int) rt):=by simp only[dZ];rw[dF Z];exact CL G.ok (by omega) (by omega) hrk
  obtain⟨c',g1,g2⟩:=Ck hG hR (dZ x.p (i:Int) f).params true (be x.p x.mo t.text).1 ((f.kids.length:Int)-2) f (wrY x.p (i:Int) rt) ht hE (by omega) (λ_=>by omega) (λh=>(by cases h)) (λ_ j q hj=>by
   have hjl:=(List.getElem?_eq_some_iff.1 hj).1;rw[hpl]at hjl;obtain⟨pk,hpk⟩:∃pk,f.kids[j]?=some pk:=⟨_,fV<|by omega⟩;obtain⟨v,g1,g2,g3⟩:=f2 j pk hpk (by omega);have hb1:=bn hpk;have hv0:pk.kids[0]?=some v:=by rw[g2];rfl
   have hb2:=aE hv0;refine⟨pk,v,wrY x.p (i:Int) v,hpk,hv0,?_,by rw[a1];exact wr v g3<|by omega⟩;have :(dZ x.p (i:Int) f).params[j]?=some (tyN x.p (i:Int) v):=by simp only[dZ,List.getElem?_map,List.getElem?_take];rw[if_pos (by omega),hpk];simp only[Option.map_some];rw[GQ g2]
   rw[this]at hj;injection hj with hj
   rw[<-hj];exact CL G.ok (by omega) (by omega) g3) (λ_=>⟨rt,by rw[hpl];exact Z,by rw[a1];exact wr rt hrk (by omega)⟩) (λh=>(by cases h)) rest t.kids.length 0 (if U=true then faP x 3 [] (cd s)else cd s) (erI U c x.pa 3) (by omega) (by simp;omega) (hy.to (by simp;omega) (by simp;omega) (by rw[v1];simp;omega)) X1 (λq u h1 h2=>by rw[e3];exact hN q u h1 h2) (v1.trans hU1) (by omega)
  refine⟨_,c',fin _ _ 0 (oc (t.kids.length+3) _ _ _ _ _ _<|⟨_,_,_,by rw[G.P,G.M];exact hfind,λh=>(by rw[J]at h;cases h),λ_=>?_⟩),hres,?_⟩
  ·rw[J];refine nz (t.kids.length+2) _ _ _ _ _ _ _ _ _ (⟨λ_=>⟨i,a1,tt,by rw[G.P];exact a3,d,a2,f,a4,λhne=>⟨_,jL 3 (by omega) (by omega),?_⟩,λhe=>?_⟩,λh=>(by cases h)⟩)
   ·have hb:U=true:=by rw[hb3,decide_eq_false<|by omega];rfl
    rw[tL hb]at g1;exact iX (t.kids.length+1) _ _ _ _ _ _ _ _ _ _<|g1
   ·have hb:U=false:=by rw[hb3,decide_eq_true<|by omega];rfl
    rw[qF hb]at g1;exact iX (t.kids.length+1) _ _ _ _ _ _ _ _ _ _<|g1
  ·have :=d1.trans g2;rw[List.drop_zero]at this;exact⟨this.P,this.M,this.W,this.d,this.g⟩
theorem NQ(U:nH E N)(Z:vU E N):vU (bH E) (N+1):=λt hb hx x env s en c L hy J O hQ hN hl G=>by
 have p1:=hy.pa;have p2:=hy.fa;have p3:=hy.tg;have p4:=hy.lb;have hB:=aQ t;have hkl:=bt t;have hk':10<=t.kind∧t.kind<=22∧t.kind≠17:=by simpa[dT]using hx.2
 by_cases h:t.kind=10
 ·have e:bH E x t env s=(⟨5,0⟩,s):=by simp[bH,h]
  rw[e];exact⟨_,c,rS_semvcsref08_Check_kind 0 _ _ _ _ _ _<|⟨λ_=>⟨_,iW 5,rfl,rfl⟩,λh'=>absurd h h'⟩,TyR.leaf (by decide) (by decide),DR.refl ..⟩
 by_cases h:t.kind=11
 ·have e:bH E x t env s=(⟨6,0⟩,s):=by simp[bH,h]
  rw[e];exact⟨_,c,rS_semvcsref08_Check_kind 0 _ _ _ _ _ _ (⟨λh'=>absurd h' (by omega),λ_=>⟨λ_=>⟨_,iW 6,rfl,rfl⟩,λh'=>absurd h h'⟩⟩),TyR.leaf (by decide) (by decide),DR.refl ..⟩
 by_cases h:t.kind=13∨t.kind=14
 ·have e:bH E x t env s=(⟨7,0⟩,s):=by rcases h with h|h<;>simp[bH,h]
  rw[e];have h0:dR 1 c t x.pa en true ⟨true,.node 7 [] [] []⟩ c:=bq 0 _ _ _ _ _ _ _ (⟨λ_=>⟨_,iW 7,rfl,rfl⟩,λh=>(by cases h)⟩);refine⟨_,c,rS_semvcsref08_Check_kind 1 _ _ _ _ _ _ (⟨λh'=>absurd h' (by omega),λ_=>⟨λh'=>absurd h' (by omega),λ_=>⟨λ_=>h0,λh'=>?_⟩⟩⟩),TyR.leaf (by decide) (by decide),DR.refl ..⟩;have h14:t.kind=14:=by omega
  rw[show(t.kind==14)=true by rw[h14];rfl];exact h0
 by_cases h:t.kind=12
 ·have e:bH E x t env s=uu x s (jI t.text env):=by simp[bH,h]
  rw[e];exact Qy h J O (by omega) (by omega) (by omega)
 by_cases h:t.kind=16
 ·have e:bH E x t env s=qy E x t env s:=by simp[bH,h]
  rw[e];exact OI U Z hb hx h hy J O hQ hN hl G
 by_cases h:t.kind=18
 ·have e:bH E x t env s=jE (jS E x t env t.kids.length 0 (⟨0,0⟩,s)):=by simp[bH,h]
  have hU:uN t=uNs t.kids:=by rw[hJ,h];simp
  rw[e];obtain⟨rest,hq⟩:=Cw hQ (by simp[dt,h]);obtain⟨y,c',g1,g2,g3⟩:=Jh U Z hx h hb O G rest t.kids.length 0 ⟨0,0⟩ noY s c (by omega) TyR.no (hy.to (by simp;omega) (by simp;omega) (by simp;omega)) J hN hq hl;exact⟨y,c',k_low (m:=1) (by omega) (bq 0 _ _ _ _ _ _ _<|⟨λh=>(by cases h),λ_=>⟨λh=>absurd h (by omega),λ_=>⟨λh=>absurd h (by omega),λ_=>⟨λ_=>⟨_,_,uU (t.kids.length+1) _ _ _ _ _ _<|g1,rfl,rfl⟩,λh'=>absurd h h'⟩⟩⟩⟩),g2,g3⟩
 by_cases h:t.kind=19
 ·have e:bH E x t env s=ifP E x t env s:=by simp[bH,h]
  rw[e];exact Rm U Z hb hx h hy J O hQ hN hl G
 by_cases h:t.kind=20
 ·have e:bH E x t env s=GT E x t env (aR E x t 0 env s):=by simp[bH,h]
  rw[e];exact PA U Z hb hx h hy J O hQ hN hl G
 by_cases h:t.kind=21
 ·have e:bH E x t env s=zy E x t env (aR E x t 0 env s):=by simp[bH,h]
  rw[e];exact Pz U Z hb hx h hy J O hQ hN hl G
 by_cases h:t.kind=22
 ·have e:bH E x t env s=aR E x t 0 env s:=by simp[bH,h]
  obtain⟨a,ek⟩:=Ba<|(ro hx).1 h;have ha:t.kids[0]?=some a:=by rw[ek];rfl
  rw[ek]at hB;simp only[kbulk]at hB;have hU:uN t=uN a:=by rw[hJ,ek,h];simp[uNs]
  rw[e];obtain⟨rest,hq⟩:=Cw hQ (by simp[dt,h]);rw[ek]at hq;obtain⟨y,c',g1,g2,g3,g4⟩:=nC U Z (s:=s) (env:=env) (x:=x) (L:=L) ha (by omega) (cS hx ha<|by omega).1 (hy.to (by omega) (by omega)<|by omega) J O ⟨_,jC hq⟩ hN hl (by omega);exact⟨y,c',k_low (m:=1) (by omega) (bq 0 _ _ _ _ _ _ _<|⟨λh=>(by cases h),λ_=>⟨λh=>absurd h (by omega),λ_=>⟨λh=>absurd h (by omega),λ_=>⟨λh=>absurd h (by omega),λ_=>⟨λh=>absurd h (by omega),λ_=>⟨λh=>absurd h (by omega),λ_=>⟨λh=>absurd h (by omega),λ_=>⟨λ_=>⟨_,_,g1,rfl,rfl⟩,λh'=>absurd h h'⟩⟩⟩⟩⟩⟩⟩⟩),g2,g3⟩
 ·have e:bH E x t env s=(⟨0,0⟩,s):=by
   have :t.kind=15:=by omega
   simp[bH,this]
  rw[e];exact⟨noY,c,k_low (m:=1) (by omega) (bq 0 _ _ _ _ _ _ _<|⟨λh=>(by cases h),λ_=>⟨λh=>absurd h (by omega),λ_=>⟨λh=>absurd h (by omega),λ_=>⟨λh=>absurd h (by omega),λ_=>⟨λh=>absurd h (by omega),λ_=>⟨λh=>absurd h (by omega),λ_=>⟨λh=>absurd h (by omega),λ_=>⟨λh=>absurd h (by omega),λ_=>⟨λh=>absurd h (by omega),λ_=>⟨rfl,rfl⟩⟩⟩⟩⟩⟩⟩⟩⟩⟩),TyR.no,DR.refl ..⟩
theorem IS:∀n,vU (dE n) n
 |0=>λt hb=>by have :=bt t;have :=aQ t;omega
 |n+1=>NQ (vV n)<|IS n
def na(p:YT)(mo:Int)(z:YI×Tree):List FE:=if z.2.kind=9∧(be p mo z.2.text).2.2=false then[⟨⟨mo,z.1⟩,1⟩]else[]
def bR(p:YT)(mo:Int):List (YI×Tree)->List FE
 |[]=>[]
 |z::r=>na p mo z++bR p mo r
theorem kG(p:YT)(mo:Int):∀a b,bR p mo (a++b)=bR p mo a++bR p mo b
 |[],b=>rfl
 |z::r,b=>by simp only[aav,bR,kG p mo r b,aaj]
theorem LJ(p:YT)(mo:Int)(z:YI×Tree):(na p mo z).length<=1:=by unfold na;split<;>simp
theorem ub(p:YT)(mo:Int):∀a,(bR p mo a).length<=a.length
 |[]=>aaf _
 |z::r=>by have :=LJ p mo z;have :=ub p mo r;simp only[bR,aab,aac];omega
def apC(c:CHr)(l:List FE):CHr:={c with L:=c.L++l}
theorem Py(c:CHr):apC c []=c:=by simp[apC]
theorem Qd(c:CHr)(a b:List FE):apC (apC c a) b=apC c (a++b):=by simp[apC]
theorem Hk{p:YT}{m:Nat}{root:Tree}(hm:p[m]?=some root)(hp:kbulk p<=10000000):∀(n:Nat) (t:Tree) (q:YI) (c:CHr),tbulk t<=n->atK root q=some t->c.P=p->c.Module=(m:Int)->q.length+tbulk t<=100000000->c.L.length+tbulk t<=900000000->eG c q (apC c<|bR p (m:Int)<|nodK t q)
 |0,t,q,c,hb,_,_,_,_,_=>by have :=bt t;omega
 | n+1,t,q,c,hb,hat,hP,hM,hq,hL=>by
  have hB:=aQ t;have hml:=(List.getElem?_eq_some_iff.1 hm).1;have htx:=cH t;have hAt:=SY root q (by omega);rw[hat]at hAt;have hfind:=Gh (p:=p) (m:=(m:Int)) (w:=t.text) (by omega) (by omega) (by omega) (by omega);have loop:∀(k i:Nat) (c:CHr),k+i=t.kids.length->c.P=p->c.Module=(m:Int)->c.L.length+kbulk (t.kids.drop i)<=900000000->df (k+1) q t c i (apC c<|bR p (m:Int)<|nodKs (t.kids.drop i) q i):=by
   intro k
   induction k with
   |zero=>
    intro i c hi h1 h2 h3;have hd:t.kids.drop i=[]:=List.drop_of_length_le (by omega);rw[hd];exact ny 0 _ _ _ _ _ (⟨λh=>absurd h (by omega),λ_=>(Py c).symm⟩)
   |succ k ih=>
    intro i c hi h1 h2 h3;have hlt:i<t.kids.length:=by omega
    obtain⟨u,hu⟩:∃u,t.kids[i]?=some u:=⟨_,fV hlt⟩;have hd:=aK hu;have hku:=aE hu;have hnl:=nodK_len u<|q++[(i:Int)];have hfl:=ub p (m:Int)<|nodK u<|q++[(i:Int)];rw[hd]at h3⊢;simp only[kbulk]at h3;have hatu:atK root (q++[(i:Int)])=some u:=by rw[AN,hat];exact vl hu
    have h4:=Hk hm hp n u (q++[(i:Int)]) c (by omega) hatu h1 h2 (by simp;omega) (by omega);have h5:=ih (i+1) (apC c<|bR p (m:Int)<|nodK u<|q++[(i:Int)]) (by omega) h1 h2 (by simp only[apC,aab];omega);rw[Qd,<-kG]at h5;exact ny (k+1) _ _ _ _ _ (⟨λ_=>⟨_,sw (i:Int) (by omega),_,h4,h5⟩,λh=>absurd hlt h⟩)
  have e:nodK t q=(q,t)::nodKs t.kids q 0:=dH t q;rw[e];have hF:bR p (m:Int) ((q,t)::nodKs t.kids q 0)=na p (m:Int) (q,t)++bR p (m:Int) (nodKs t.kids q 0):=rfl;rw[hF];refine va (t.kids.length+2) _ _ _ (⟨m,hM,root,by rw[hP];exact hm,_,_,hAt,?_⟩);refine uq (t.kids.length+1) _ _ _ _ (⟨λh9=>⟨_,_,_,by rw[hP,hM];exact hfind,λhf=>?_,λhf=>?_⟩,λh9=>?_⟩)
  ·have e2:na p (m:Int) (q,t)=[⟨⟨(m:Int),q⟩,1⟩]:=if_pos ⟨h9,hf⟩;have h5:=loop t.kids.length 0 (erC c q 1) (by omega) hP hM (by simp[erC];omega);rw[List.drop_zero]at h5;rw[e2];refine⟨_,jL 1 (by omega) (by omega),?_⟩;have e3:apC c ([⟨⟨(m:Int),q⟩,1⟩]++bR p (m:Int) (nodKs t.kids q 0))=apC (erC c q 1) (bR p (m:Int)<|nodKs t.kids q 0):=by simp[apC,erC,hM]
   rw[e3];exact h5
  ·have e2:na p (m:Int) (q,t)=[]:=if_neg λh=>by have h2:=h.2;simp only at h2 hf;rw[hf]at h2;cases h2
   have h5:=loop t.kids.length 0 c (by omega) hP hM (by simp;omega);rw[List.drop_zero]at h5;rw[e2];exact h5
  ·have e2:na p (m:Int) (q,t)=[]:=if_neg λh=>h9 h.1;have h5:=loop t.kids.length 0 c (by omega) hP hM (by simp;omega);rw[List.drop_zero]at h5;rw[e2];exact h5
theorem wB{p:YT}{mo:Int}:∀(n:Nat) (t:Tree) (q:YI),tbulk t<=n->exT t->bR p mo (nodK t q)=[]
 |0,t,q,hb,_=>by have :=bt t;omega
 | n +1,t,q,hb,hx=>by
  have hk':10<=t.kind:=(by simpa[dT]using hx.2:10<=t.kind∧t.kind<=22∧t.kind≠17).1;have kid:∀(i:Nat) (u:Tree),t.kids[i]?=some u->bR p mo (nodK u<|q++[(i:Int)])=[]:=λi u hu=>by
   have hku:=aE hu;by_cases h16:t.kind=16
   ·obtain⟨h1,h2,h3⟩:=DH hx hu h16;obtain⟨v,e⟩:=Ba h2;have hv:u.kids[0]?=some v:=by rw[e];rfl
    have hkv:=aE hv;rw[dF hv]at h3;have :=wB (p:=p) (mo:=mo) n v ((q++[(i:Int)])++[((0:Nat):Int)]) (by omega) h3;rw[dH,e];simp only[bR,nodKs,aar,kG];rw[this];unfold na;rw[if_neg (λh=>by have :=h.1;simp only at this;omega)];rfl
   ·exact wB n u _ (by omega) (cS hx hu h16).1
  have all:∀(l:YT) (i:Nat),(∀(j:Nat) (u:Tree),l[j]?=some u->bR p mo (nodK u<|q++[((i+j:Nat):Int)])=[])->bR p mo (nodKs l q i)=[]:=by
   intro l
   induction l with
   |nil=>intro i _;rfl
   | cons a r ih=>
    intro i h;simp only[nodKs,kG];rw[show bR p mo (nodK a (q++[(i:Int)]))=[]from h 0 a rfl];exact ih (i+1) λj u hu=>by have :=h (j+1) u (by simpa using hu);rw[show i+1+j=i+(j+1) by omega];exact this
  rw[dH,bR,all t.kids 0 λj u hu=>by simpa using kid j u hu];unfold na;rw[if_neg (λh=>by have :=h.1;simp only at this;omega)];rfl
theorem vv:∀(n:Nat) (u:Tree) (x:Cx) (s:Sv) (rest:List ay),tbulk u<=n->tyK u->s.tg=aY x.p x.mo (nodK u x.pa)++rest->gk n x u s={s with tg:=rest,fa:=s.fa++bR x.p x.mo (nodK u x.pa)}
 |0,u,x,s,rest,hb,_,_=>by have :=bt u;omega
 | n +1,u,x,s,rest,hb,hu,hq=>by
  rcases nA hu with⟨h8,_,v,hv,hvt⟩|⟨h8,hk,_⟩
  ·have hv0:u.kids[0]?=some v:=by rw[hv];rfl
   have hkv:=aE hv0;have e:gk (n+1) x u s=gk n (x.go ((0:Nat):Int)) v s:=by simp[gk,h8,dF hv0]
   have hn:nodK u x.pa=(x.pa,u)::nodK v (x.pa++[((0:Nat):Int)]):=by rw[dH,hv];simp[nodKs]
   have hq':s.tg=aY x.p x.mo (nodK v<|x.pa++[((0:Nat):Int)])++rest:=by rw[hq,hn,aY,show dt u=false by simp[dt,h8]];rfl
   rw[e,vv n v (x.go ((0:Nat):Int)) s rest (by omega) hvt hq',hn];have :bR x.p x.mo ((x.pa,u)::nodK v (x.pa++[((0:Nat):Int)]))=bR x.p x.mo (nodK v<|x.pa++[((0:Nat):Int)]):=by rw[bR];unfold na;rw[if_neg (λh=>by have :=h.1;simp only at this;omega)];rfl
   rw[this];rfl
  ·have hn:nodK u x.pa=[(x.pa,u)]:=by rw[dH,hk];rfl
   by_cases h9:u.kind=9
   ·have hq':s.tg=tgK x.p x.mo x.pa u::rest:=by rw[hq,hn];simp[aY,dt,h9]
    have e:gk (n+1) x u s=if(s.tg.headD noT).Free then faP x 1 [] (cd s)else cd s:=by simp[gk,h9]
    have hhd:s.tg.headD noT=tgK x.p x.mo x.pa u:=by rw[hq'];rfl
    rw[e,hhd,hn];have hu:cd s={s with tg:=rest}:=by simp[cd,hq']
    rw[hu];cases hf:(be x.p x.mo u.text).2.2
    ·have h1:(tgK x.p x.mo x.pa u).Free=true:=by simp[tgK,hf]
     rw[if_pos h1];simp[faP,bR,na,h9,hf]
    ·have h1:(tgK x.p x.mo x.pa u).Free=false:=by simp[tgK,hf]
     rw[if_neg (by rw[h1];decide)];simp[bR,na,h9,hf]
   ·have hk9:u.kind≠16:=by have :=hu.2;simp[gU]at this;omega
    have hq':s.tg=rest:=by rw[hq,hn];simp[aY,dt,h9,hk9]
    have e:gk (n+1) x u s=s:=by simp[gk,h9,h8]
    rw[e,hn];simp[bR,na,h9,<-hq']
def Cq(k:Tree):Prop:=∃v,k.kind=4∧k.kids=[v]∧tyK v
theorem Jl{k v:Tree}(q:YI)(J:k.kind=4)(G:k.kids=[v]):nodK k q=(q,k)::nodK v (q++[((0:Nat):Int)]):=by rw[dH,G];simp[nodKs]
theorem BT(x:Cx):∀(ks:YT) (i:Nat) (s:Sv) (rest:List ay),(∀k∈ks,Cq k)->s.tg=aY x.p x.mo (nodKs ks x.pa i)++rest->nG x ks i s={s with tg:=rest,fa:=s.fa++bR x.p x.mo (nodKs ks x.pa i)}
 |[],i,s,rest,_,hq=>by
  have :s.tg=rest:=by rw[hq];rfl
  simp[nG,nodKs,bR,<-this]
 | k::r,i,s,rest,hp,hq=>by
  obtain⟨v,h4,hk,hv⟩:=hp k List.mem_cons_self;have hv0:k.kids[0]?=some v:=by rw[hk];rfl
  have h1:=jC hq;rw[Jl _ h4 hk,aY,show dt k=false by simp[dt,h4]]at h1;have h2:=vv (tbulk v) v ((x.go i).go ((0:Nat):Int)) s _ (aaf _) hv h1;rw[nG,dF hv0,h2];rw[BT x r (i+1) _ rest (λk' h'=>hp k'<|List.mem_cons_of_mem _ h') rfl];have e:bR x.p x.mo (nodKs (k::r) x.pa i)=bR x.p x.mo (nodK v<|(x.pa++[(i:Int)])++[((0:Nat):Int)])++bR x.p x.mo (nodKs r x.pa<|i+1):=by rw[nodKs,kG,Jl _ h4 hk,bR];unfold na;rw[if_neg (λh=>by have :=h.1;simp only at this;omega)];rfl
  rw[e,<-aaj];rfl
def bdP(p:YT)(m:Int)(k:Tree):Bd:=⟨k.text,wrY p m<|cC k 0⟩
theorem GZ{p:YT}(J:bk p=true){m:Int}(O:0<=m)(h1:m<p.length):∀(ks:YT),(∀k∈ks,Cq k)->KM (du ks<|ks.map λk=>tyN p m<|cC k 0) (ks.map<|bdP p m)
 |[],_=>trivial
 |k::r,U=>by
  obtain⟨v,Z,G,hv⟩:=U k List.mem_cons_self;refine⟨I,?_,GZ J O h1 r λk' h'=>U k'<|List.mem_cons_of_mem _ h'⟩;show TyR (tyN p m<|cC k 0) (wrY p m<|cC k 0);rw[GQ G];exact CL J O h1 hv
theorem Er{x:Cx}{c:CHr}(G:RX x c){f:Tree}{n:Nat}(hn:n+2=f.kids.length)(hb:tbulk f<=10000000)(Z:∀k∈f.kids.take n,Cq k){d:Int}{y:Ty}{c':CHr}{M0:Nat}(fin:dc M0 d f c ((f.kids.take n).map<|bdP x.p x.mo).reverse (-1) y c'):∀j,j<=n->dc (M0+j) d f c (((f.kids.take n).drop j).map<|bdP x.p x.mo).reverse ((j:Int)-1) y c'
 |0,_=>by simpa using fin
 |j+1,hj=>by
  have ih:=Er G hn hb Z fin j (by omega);have hkl:=bt f;obtain⟨u,U⟩:∃u,f.kids[j]?=some u:=⟨_,fV<|by omega⟩;have J:(f.kids.take n)[j]?=some u:=by rw[List.getElem?_take,if_pos<|by omega];exact U
  obtain⟨v,h4,hk,hv⟩:=Z u<|List.mem_of_getElem? J;have O:u.kids[0]?=some v:=by rw[hk];rfl
  have b1:=aE U;have b2:=aE O;have e:(((j+1:Nat):Int)-1)=(j:Int):=by omega
  rw[e];have hw:=zZ G.ok G.hb G.m0 G.m1 hv (by omega) G.P;rw[aK J,aal,List.reverse_cons]at ih;have eb:bdP x.p x.mo u=⟨u.text,wrY x.p x.mo v⟩:=by unfold bdP;rw[GQ hk]
  rw[eb]at ih;refine rL0_semvcsref08_Check_body (M0+j) _ _ _ _ _ _ _ (⟨λ_=>⟨j,I,u,U,j,I,u,U,v,O,_,_,by rw[G.M];exact hw,?_,⟨by omega,by omega⟩,ih⟩,λh=>absurd (by omega) h⟩);simp;omega
theorem Gz{c:CHr}{s:Sv}{L d:Nat}{root f b:Tree}(G:RX x c)(hmo:x.mo=(m:Int))(Z:x.pa=[])(hm:x.p[m]?=some root)(hd:root.kids[d]?=some f)(hn:n+2=f.kids.length)(O:f.kids[n+1]?=some b)(hbx:exT b)(hp:∀k∈f.kids.take n,Cq k)
  (hy:Hyp (x.go (d:Int)) (du (f.kids.take n)<|(f.kids.take n).map λk=>tyN x.p x.mo<|cC k 0) s L (tbulk b+1)<|uN b) (hQ:∃rest,s.tg=aY x.p x.mo (nodK b [(d:Int),((n+1:Nat):Int)])++rest) (hN:∀q u,(q,u)∈nodK b [(d:Int),((n+1:Nat):Int)]->u.kind=17->q≠c.Want) (hl:c.L.length<=s.fa.length):
  ∃y c',eJ c d y c'∧TyR (aR (dE<|tbulk f) (x.go (d:Int)) f (n+1) (du (f.kids.take n)<|(f.kids.take n).map λk=>tyN x.p x.mo<|cC k 0) s).1 y∧DR x s (aR (dE<|tbulk f) (x.go (d:Int)) f (n+1) (du (f.kids.take n)<|(f.kids.take n).map λk=>tyN x.p x.mo<|cC k 0) s).2 c c':=by
 have hkl:=bt f;have hbb:=aE O;have hfb:tbulk f<=10000000:=by have :=bn hm;have :=aE hd;have :=G.hb;omega
 have J:((x.go (d:Int)).go ((n+1:Nat):Int)).pa=[(d:Int),((n+1:Nat):Int)]:=by simp[Cx.go,Z]
 have hE:pK (du (f.kids.take n)<|(f.kids.take n).map λk=>tyN x.p x.mo<|cC k 0) ((f.kids.take n).map<|bdP x.p x.mo).reverse:=by unfold pK;rw[List.reverse_reverse];exact GZ G.ok G.m0 G.m1 _ hp
 have p1:=hy.pa;obtain⟨y,c1,h1,h2,h3⟩:=IS (tbulk f) b (by omega) hbx ((x.go (d:Int)).go ((n+1:Nat):Int)) _ s _ c L ⟨by rw[J];simp;omega,by have :=hy.fa;omega,hy.tg,by have :=hy.lb;omega,hy.env,hy.sg⟩ ⟨G.P,G.M,G.ok,G.hb,G.m0,G.m1,G.sg⟩ hE (by obtain⟨r,hr⟩:=hQ;exact⟨r,by rw[J];exact hr⟩) (λq v hm hk=>hN q v (by rw[J]at hm;exact hm) hk) hl (by simp;omega);have hlb:=hy.lb;have hgk:=(vV (tbulk f) b (by omega) hbx ((x.go (d:Int)).go ((n+1:Nat):Int)) _ s L ⟨by rw[J];simp;omega,by have :=hy.fa;omega,hy.tg,by have :=hy.lb;omega,hy.env,hy.sg⟩).2.k.2;rw[J]at h1;have e:aR (dE<|tbulk f) (x.go (d:Int)) f (n+1) (du (f.kids.take n)<|(f.kids.take n).map λk=>tyN x.p x.mo<|cC k 0) s=AH (x.go (d:Int)) (n+1) (dE (tbulk f) ((x.go (d:Int)).go ((n+1:Nat):Int)) b (du (f.kids.take n)<|(f.kids.take n).map λk=>tyN x.p x.mo<|cC k 0) s):=by unfold aR;rw[dF O]
 rw[e];have U:(x.go (d:Int)).pa=[(d:Int)]:=by simp[Cx.go,Z]
 obtain⟨c',g1,g2⟩:=IE (x:=x.go (d:Int)) (i:=n+1) (s:=s) (u:=b) (en:=((f.kids.take n).map<|bdP x.p x.mo).reverse) (c:=c) (by rw[U];simp) (by rw[U];exact h1) h2 ⟨h3.P,h3.M,h3.W,h3.d,h3.g⟩ (by omega);rw[U]at g1;have ek:(((f.kids.length:Nat):Int)-1)=((n+1:Nat):Int):=by omega
 have fin:dc 1 (d:Int) f c ((f.kids.take n).map<|bdP x.p x.mo).reverse (-1) y c':=
  rL0_semvcsref08_Check_body 0 _ _ _ _ _ _ _ (⟨λh=>absurd h (by omega),λ_=>⟨⟨by omega,by omega⟩,n+1,ek,b,O,⟨by omega,by omega⟩,_,_,by rw[ek];exact g1,rfl,rfl⟩⟩)
 have hL:=Er G hn hfb hp fin n<|aaf _;rw[List.drop_of_length_le (by simp;omega)]at hL;refine⟨y,c',uY (1+n) _ _ _ _ (⟨m,G.M.trans hmo,root,by rw[G.P];exact hm,d,I,f,hd,?_⟩),?_,⟨g2.P,g2.M,g2.W,g2.d,g2.g⟩⟩
 ·rw[show((f.kids.length:Nat):Int)-3=(n:Int)-1 by omega];simpa using hL
 ·generalize dE (tbulk f) ((x.go (d:Int)).go ((n+1:Nat):Int)) b (du (f.kids.take n)<|(f.kids.take n).map λk=>tyN x.p x.mo<|cC k 0) s=r at h2⊢;obtain⟨k,s'⟩:=r;exact h2
theorem Ap(q:YI):∀(a b:YT) (i:Nat),nodKs (a++b) q i=nodKs a q i++nodKs b q (i+a.length)
 |[],b,i=>rfl
 |t::r,b,i=>by
  simp only[aav,nodKs,Ap q r b<|i+1,aac,aaj];rw[show i+1+r.length=i+(r.length+1) by omega]
theorem Cl{mo:Int}{z:YI×Tree}{r:List<|YI×Tree}(h:z.2.kind≠9):bR p mo (z::r)=bR p mo r:=by rw[bR];unfold na;rw[if_neg λh'=>h h'.1];rfl
theorem DR.of_x{G:Cx}{c:CHr}(h:DR G s s' c c')(h1:G.mo=x.mo)(h2:G.wm=x.wm)(J:G.wp=x.wp):DR x s s' c c':=
 ⟨h.P,h.M,h.W,h.d,λg=>by have :=h.g (by unfold GR at g⊢;rw[h1,h2,J];exact g);unfold GR at this⊢;rw[h1,h2,J]at this;exact this⟩
theorem DR.app{c:CHr}(l:List FE)(tg:List ay):DR x s {s with tg:=tg,fa:=s.fa++l} c (apC c l):=
 ⟨rfl,rfl,rfl,λP=>by simp only[apC,List.countP_append];omega,λg=>g⟩
theorem Ql{c:CHr}{s:Sv}{d:Nat}{root f:Tree}{rest:List ay}(hX:RX x c)(hmo:x.mo=(m:Int))(hpa:x.pa=[])(hm:x.p[m]?=some root)(hd:root.kids[d]?=some f)(hk:f.kind=2)(hs:shapeK f=true)
  (hq:s.tg=aY x.p x.mo (nodK f [(d:Int)])++rest) (hN:∀q u,(q,u)∈nodK root []->u.kind=17->q≠c.Want) (hl:c.L.length<=s.fa.length) (hfa:s.fa.length+5*tbulk f+1<=800000000) (hsg:∀k g,aI k x.sg=some g->KOk 100000000 g.result):
  ∃(n:Nat) (rt:Tree) (c1:CHr) (y:Ty) (c2:CHr) (dd:Bool),n+2=f.kids.length∧f.kids[n]?=some rt∧eG c [(d:Int)] c1∧eJ c1 d y c2∧bA c2 (m:Int) rt (wrY x.p (m:Int) rt) c2∧bE y (wrY x.p (m:Int) rt) dd∧DR x s (funS (x.go (d:Int)) f (dZ x.p x.mo f) s) c (erI dd c2 [(d:Int),((n+1:Nat):Int)] 4)∧(funS (x.go (d:Int)) f (dZ x.p x.mo f) s).tg=rest∧(funS (x.go (d:Int)) f (dZ x.p x.mo f) s).fa.length<=s.fa.length+5*tbulk f∧c2.L.length+1<=1000000000:=by
 obtain⟨s1,s2,s3,s4⟩:=oE hs hk;have hkl:=bt f;have hB:=aQ f;obtain⟨n,hn⟩:∃n,n+2=f.kids.length:=⟨f.kids.length-2,by omega⟩;obtain⟨r,hr⟩:∃r,f.kids[n]?=some r:=⟨_,List.getElem?_eq_getElem<|by omega⟩;obtain⟨b,hb⟩:∃b,f.kids[n+1]?=some b:=⟨_,List.getElem?_eq_getElem<|by omega⟩;have hrt:=s3 r (by rw[show f.kids.length-2=n by omega];exact hr);have hbx:=s4 b (by rw[show f.kids.length-1=n+1 by omega];exact hb);have hsplit:f.kids=f.kids.take n++[r,b]:=by
  have e1:f.kids.drop n=[r,b]:=by
   rw[aK hr,aK hb,List.drop_of_length_le<|by omega]
  rw[<-e1,aap]
 have hrb:=aE hr;have hbb:=aE hb;have hfb:tbulk f<=10000000:=by have :=bn hm;have :=aE hd;have :=hX.hb;omega
 have hp:∀k∈f.kids.take n,Cq k:=λk hk=>by
  obtain⟨i,hi⟩:=List.mem_iff_getElem?.1 hk;rw[List.getElem?_take]at hi;split at hi
  ·obtain⟨v,h1,h2,h3⟩:=s2 i k hi (by omega);exact⟨v,h1,h2,h3⟩
  ·cases hi
 have hxd:(x.go (d:Int)).pa=[(d:Int)]:=by simp[Cx.go,hpa]
 have hnod:nodK f [(d:Int)]=([(d:Int)],f)::(nodKs (f.kids.take n) [(d:Int)] 0++(nodK r [(d:Int),(n:Int)]++nodK b [(d:Int),((n+1:Nat):Int)])):=by
  rw[dH]
  conv=>lhs;rw[hsplit]
  rw[Ap];have :(f.kids.take n).length=n:=by simp;omega
  rw[this,Nat.zero_add];simp[nodKs]
 have hq':s.tg=aY x.p x.mo (nodKs (f.kids.take n) [(d:Int)] 0)++(aY x.p x.mo (nodK r [(d:Int),(n:Int)])++(aY x.p x.mo (nodK b [(d:Int),((n+1:Nat):Int)])++rest)):=by rw[hq,hnod,aY,show dt f=false by simp[dt,hk]];simp[oA]
 obtain⟨X,hXX⟩:∃X,X=bR x.p x.mo (nodKs (f.kids.take n) [(d:Int)] 0):=⟨_,rfl⟩;obtain⟨Y,hYY⟩:∃Y,Y=bR x.p x.mo (nodK r [(d:Int),(n:Int)]):=⟨_,rfl⟩;have hpar:=BT (x.go (d:Int)) (f.kids.take n) 0 s _ hp (by rw[hxd];exact hq');rw[hxd]at hpar;have htyp:=vv (tbulk f) r ((x.go (d:Int)).go (n:Int)) {s with tg:=aY x.p x.mo (nodK r [(d:Int),(n:Int)])++(aY x.p x.mo (nodK b [(d:Int),((n+1:Nat):Int)])++rest),fa:=s.fa++X} (aY x.p x.mo (nodK b [(d:Int),((n+1:Nat):Int)])++rest) (by omega) hrt (by simp[Cx.go,hpa]);have hpr:((x.go (d:Int)).go (n:Int)).pa=[(d:Int),(n:Int)]:=by simp[Cx.go,hpa]
 rw[hpr]at htyp;obtain⟨sB,hsB⟩:∃sB:Sv,sB={s with tg:=aY x.p x.mo (nodK b [(d:Int),((n+1:Nat):Int)])++rest,fa:=s.fa++(X++Y)}:=⟨_,rfl⟩;have hB2:gk (tbulk f) ((x.go (d:Int)).go (n:Int)) r (nG (x.go (d:Int)) (f.kids.take n) 0 s)=sB:=by
  rw[hpar,hsB];refine Eq.trans ?_<|htyp.trans ?_
  ·rw[hXX];rfl
  ·rw[hYY];simp[Cx.go]
 have hfree:bR x.p x.mo (nodK f [(d:Int)])=X++Y:=by rw[hnod,Cl (by simp only;omega),kG,kG,wB (tbulk b) b _ (aaf _) hbx,aar,<-hXX,<-hYY]
 have hXY:(X++Y).length<=tbulk f:=by
  rw[<-hfree];exact aaw (ub _ _ _)<|nodK_len f _
 have hat:atK root [(d:Int)]=some f:=vl hd;have hcf:=Hk hm hX.hb (tbulk f) f [(d:Int)] c (aaf _) hat hX.P (hX.M.trans hmo) (by simp;omega) (by omega);rw[<-hmo,hfree]at hcf;have d1:DR x s sB c (apC c<|X++Y):=by rw[hsB];exact DR.app _ _
 have hU:uN b=(aY x.p x.mo<|nodK b [(d:Int),((n+1:Nat):Int)]).length:=(tgs_uN x.p x.mo b _).symm;have hgs:dZ x.p x.mo f=⟨(f.kids.take n).map λk=>tyN x.p x.mo<|cC k 0,tyN x.p x.mo r⟩:=by unfold dZ;rw[show f.kids.length-2=n by omega,dF hr]
 have hgp:=(Am (p:=x.p) (m:=x.mo) (f:=f) (B:=tbulk f)<|aaf _).2;rw[hgs]at hgp;have hKb:=hX.hb;have HY:Hyp (x.go (d:Int)) (du (f.kids.take n)<|(f.kids.take n).map λk=>tyN x.p x.mo<|cC k 0) sB 100000000 (tbulk b+1) (uN b):=
  ⟨by rw[hxd];simp;omega,by rw[hsB];simp only[List.length_append]at hXY⊢;omega,by rw[hsB,hU];simp,by omega,λc hc=>by
   have :∀(ks:YT) (ps:List Kn),(∀q∈ps,KOk (2*tbulk f+kbulk x.p+2) q)->∀c∈du ks ps,KOk (2*tbulk f+kbulk x.p+2) c.typ:=λks=>by
    induction ks with
    |nil=>intro ps _ c hc;simp[du]at hc
    | cons k r ih=>
     intro ps hps c hc;cases ps with
     |nil=>simp[du]at hc
     |cons q l=>
      simp only[du,aah]at hc;rcases hc with rfl|hc
      ·exact hps q List.mem_cons_self
      ·exact ih l (λq hq=>hps q<|List.mem_cons_of_mem _ hq) c hc
   exact(this _ _ hgp c hc).mono (by omega),hsg⟩
 have hl1:(apC c<|X++Y).L.length<=sB.fa.length:=by rw[hsB];simp only[apC,aab];omega
 obtain⟨_,C2⟩:=dm (vV (tbulk f)) (x:=x.go (d:Int)) (s:=sB) hb (by omega) hbx HY;obtain⟨y,c2,g1,g2,g3⟩:=Gz (c:=apC c (X++Y)) (hX.to d1) hmo hpa hm hd hn hb hbx hp HY ⟨rest,by rw[hsB]⟩ (λq u hm' h17=>by have e:(apC c (X++Y)).Want=c.Want:=rfl;rw[e];refine hN q u (vS [] hd _ ?_) h17;have h2:=vS [(d:Int)] hb (q,u) (by simpa using hm');simpa using h2) hl1
 have hfun:funS (x.go (d:Int)) f (dZ x.p x.mo f) s=funQ (x.go (d:Int)) (n+1) (tyN x.p x.mo r) (aR (dE<|tbulk f) (x.go (d:Int)) f (n+1) (du (f.kids.take n)<|(f.kids.take n).map λk=>tyN x.p x.mo<|cC k 0) sB):=by unfold funS;rw[hgs,show f.kids.length-1=n+1 by omega,show f.kids.length-2=n by omega,dF hr,hB2]
 rw[hfun];generalize aR (dE<|tbulk f) (x.go (d:Int)) f (n+1) (du (f.kids.take n)<|(f.kids.take n).map λk=>tyN x.p x.mo<|cC k 0) sB=w at C2 g2 g3⊢;obtain⟨k,sC⟩:=w;have cA:=C2.fa;have cT:=C2.tg;simp only at cA cT g2 g3;have hwr:=zZ hX.ok hX.hb (m:=(m:Int)) (by omega) (by rw[<-hmo];exact hX.m1) hrt (by omega) (c:=c2)<|(g3.P).trans hX.P;have hT:=CL hX.ok hX.m0 hX.m1 hrt;have d3:=DR.er (x:=x.go (d:Int)) (s:=sC) (c:=c2) (g3.M.trans hX.M) (aZ k<|tyN x.p x.mo r) [((n+1:Nat):Int)] 4;rw[hxd]at d3;have hfq:funQ (x.go (d:Int)) (n+1) (tyN x.p x.mo r) (k,sC)=if aZ k (tyN x.p x.mo r)=true then faP (x.go (d:Int)) 4 [((n+1:Nat):Int)] sC else sC:=rfl
 obtain⟨v1,v2,v3⟩:=AZ (aZ k<|tyN x.p x.mo r) (x.go (d:Int)) 4 [((n+1:Nat):Int)] sC;rw[<-hfq]at v1 v2 v3 d3;have l3:=g3.len;have hXY2:=hXY;rw[hsB]at l3 cA cT;simp only[apC,aab]at l3 cA hXY2;refine⟨n,r,_,y,c2,aZ k<|tyN x.p x.mo r,hn,hr,hcf,g1,hwr,by rw[<-hmo];exact nD g2 hT,(d1.trans g3).trans<|d3.of_x I I I,?_,?_,?_⟩
 ·rw[v1,cT,hU,List.drop_left]
 ·omega
 ·omega
theorem Qi{c:CHr}{s:Sv}{d:Nat}{root f b:Tree}{rest:List ay}(O:RX x c)(U:x.mo=(m:Int))(Z:x.pa=[])(hm:x.p[m]?=some root)(hd:root.kids[d]?=some f)(hk:f.kind=3)(hkb:f.kids=[b])(hb:tyK b)
  (hq:s.tg=aY x.p x.mo (nodK f [(d:Int)])++rest) (hl:c.L.length<=s.fa.length) (hfa:s.fa.length+5*tbulk f+1<=800000000):
  ∃c1,eG c [(d:Int)] c1∧DR x s (yW (x.go (d:Int)) d f s) c (erI (lG x.p x.mo (d:Int)) c1 [(d:Int)] 5)∧(yW (x.go (d:Int)) d f s).tg=rest∧(yW (x.go (d:Int)) d f s).fa.length<=s.fa.length+5*tbulk f∧c1.L.length+1<=1000000000:=by
 have hB:=aQ f;have hb0:f.kids[0]?=some b:=by rw[hkb];rfl
 have hbb:=aE hb0;have hfb:tbulk f<=10000000:=by have :=bn hm;have :=aE hd;have :=O.hb;omega
 have hxd:(x.go (d:Int)).pa=[(d:Int)]:=by simp[Cx.go,Z]
 have J:nodK f [(d:Int)]=([(d:Int)],f)::nodK b [(d:Int),((0:Nat):Int)]:=by rw[dH,hkb];simp[nodKs]
 have hq':s.tg=aY x.p x.mo (nodK b [(d:Int),((0:Nat):Int)])++rest:=by rw[hq,J,aY,show dt f=false by simp[dt,hk]];rfl
 obtain⟨F,hF⟩:∃F,F=bR x.p x.mo (nodK b [(d:Int),((0:Nat):Int)]):=⟨_,rfl⟩;have hfree:bR x.p x.mo (nodK f [(d:Int)])=F:=by rw[J,Cl (by simp only;omega),hF]
 have hFl:F.length<=tbulk f:=by rw[<-hfree];exact aaw (ub _ _ _)<|nodK_len f _
 have hcf:=Hk hm O.hb (tbulk f) f [(d:Int)] c (aaf _) (vl hd) O.P (O.M.trans U) (by simp;omega) (by omega);rw[<-U,hfree]at hcf;obtain⟨v1,v2,v3⟩:=AZ (lG x.p x.mo (d:Int)) (x.go (d:Int)) 5 [] s;obtain⟨s1,G⟩:∃s1:Sv,s1=if lG x.p x.mo (d:Int)=true then faP (x.go (d:Int)) 5 [] s else s:=⟨_,rfl⟩
 rw[<-G]at v1 v2 v3;have hp2:((x.go (d:Int)).go ((0:Nat):Int)).pa=[(d:Int),((0:Nat):Int)]:=by simp[Cx.go,Z]
 have ht:=vv (tbulk f) b ((x.go (d:Int)).go ((0:Nat):Int)) s1 rest (by omega) hb (by rw[hp2];exact v1.trans hq');rw[hp2]at ht;have ea:yW (x.go (d:Int)) d f s={s1 with tg:=rest,fa:=s1.fa++F}:=by unfold yW;rw[dF hb0,hF];refine Eq.trans ?_ ht;rw[G];rfl
 obtain⟨e1,e2,e3,e4⟩:=jB (lG x.p x.mo (d:Int)) (apC c F) [(d:Int)] 5;have d1:=DR.er (x:=x.go (d:Int)) (s:=s) (c:=c) O.M (lG x.p x.mo (d:Int)) [] 5;rw[<-G]at d1;have d2:=d1.of_x (x:=x) rfl rfl rfl;rw[ea];refine⟨_,hcf,⟨e1,e2,e3,λP=>?_,λg=>?_⟩,rfl,by simp only[aab];omega,by simp only[apC,aab];omega⟩
 ·have z1:=CA P (lG x.p x.mo (d:Int)) (x:=x.go (d:Int)) (c:=apC c F) O.M 5 [];have z2:=Db P (lG x.p x.mo (d:Int)) (x.go (d:Int)) 5 [] s;rw[<-G]at z2;rw[hxd]at z1;rw[show[(d:Int)]++[]=[(d:Int)]from rfl]at z1;have z3:(apC c F).L.countP P=c.L.countP P+F.countP P:=by simp[apC,List.countP_append]
  simp only[List.countP_append];omega
 ·have h1:=d2.g g;have h2:GR x s1 c:=by
   rw[G];cases lG x.p x.mo (d:Int)
   ·exact g
   ·exact g
  have h3:GR x s1 (apC c F):=h2;have h4:=h3.er (lG x.p x.mo (d:Int)) [(d:Int)] 5;exact h4
theorem Pd(hb:kbulk p<=10000000):∀k g,aI k (sgM p p 0 [])=some g->KOk 100000000 g.result:=λk q G=>by
 rcases Cn k p 0 [] q G with⟨i,t,d,f,h1,h2,U,_,rfl⟩|h
 ·have J:=bn h1;have O:=aE h2;exact(Am (B:=kbulk p)<|by omega).1.mono (by omega)
 ·cases h
def Off(x:Cx):Prop:=∀b:YI,b≠[]->¬(x.mo=x.wm∧x.pa++b=x.wp)
theorem bX(h:Off x)(i:Int):Off (x.go i):=λb hb h2=>h (i::b) (by simp) ⟨h2.1,by have :=h2.2;simpa[Cx.go]using this⟩
def FoB(B:Int×Int)(s:Sv):Prop:=s.rs=B.1∧s.rl=B.2
variable{B:Int×Int}
theorem oJ{k:Int}{b:YI}(h:FoB B s):FoB B (faP x k b s):=h
theorem Sy{k:Kn}(h:FoB B s)(hb:Off x):FoB B (knS x i k s):=by
 unfold knS;rw[if_neg<|hb [(i:Int)]<|by simp];exact h
def ExO(B:Int×Int)(E:Ev)(n:Nat):Prop:=∀(t:Tree) (x:Cx) (env:Env) (s:Sv),FoB B s->Off x->FoB B (E x t env s).2
theorem AT(h:ExO B E n)(t:Tree)(x:Cx)(i:Nat)(env:Env)(s:Sv)(hs:FoB B s)(hb:Off x):FoB B (aR E x t i env s).2:=by
 have :=h (cC t i) (x.go i) env s hs (by first|exact hb|exact bX hb _|exact bX (bX hb _) _);unfold aR;cases G:E (x.go i) (cC t i) env s with
 |mk k s1=>
  rw[G]at this;exact Sy this hb
theorem nk{c:Prop}[Decidable c]{a b:Sv}(G:FoB B a)(hb:FoB B b):FoB B (if c then a else b):=by split<;>assumption
theorem Hq{B:Int×Int}{n:Nat}{E:Ev}(h:ExO B E n)(x:Cx)(ps:List Kn)(env:Env)(hb:Off x):∀(l:YT) (i:Nat) (s:Sv),FoB B s->FoB B (jW E x ps env l i s)
 |[],i,s,hs=>hs
 | a::r,i,s,hs=>by
  have h1:=AT h a (x.go (i:Int)) 0 env s hs (by first|exact hb|exact bX hb _|exact bX (bX hb _) _);simp only[jW];refine Hq h x ps env hb r (i+1) _ ?_;cases hq:aR E (x.go (i:Int)) a 0 env s with
  |mk k s1=>
   rw[hq]at h1;simp only[uC];split
   ·exact nk (oJ h1) h1
   ·exact h1
theorem IU{B:Int×Int}{n:Nat}{E:Ev}(h:ExO B E n)(x:Cx)(t:Tree)(env:Env)(hb:Off x):∀(k i:Nat) (r:Kn×Sv),FoB B r.2->FoB B (jS E x t env k i r).2
 |0,i,r,hs=>hs
 | k+1,i,(f,s),hs=>by
  have h1:=AT h t x i env s hs hb;simp only[jS];refine IU h x t env hb k (i+1) _ ?_;cases hq:aR E x t i env s with
  |mk a s1=>
   rw[hq]at h1;simp only[DE];exact nk (oJ h1) h1
theorem RA{w:YB}(h:FoB B s)(hb:Off x):FoB B (opQ x w a (b,s)).2:=by
 have f:∀(k:Int) (z:Int) (s:Sv),FoB B s->FoB B (faP x k [z] s):=λk z s hs=>oJ hs;unfold opQ;by_cases h1:w=[43]
 ·simp only[if_pos h1];unfold sF
  repeat' split
  all_goals first|exact f _ _ _ (f _ _ _ h)|exact f _ _ _ h|exact h
 ·simp only[if_neg h1];by_cases h2:w=[61,61]
  ·simp only[if_pos h2];split
   ·exact f _ _ _ h
   ·exact h
  ·simp only[if_neg h2];unfold zt
   repeat' split
   all_goals first|exact f _ _ _ (f _ _ _ h)|exact f _ _ _ h|exact h
theorem FY{B:Int×Int}:∀n:Nat,ExO B (dE n) n
 |0=>λt x env s hs _=>hs
 | n+1=>λt x env s hs hb=>by
  have h:=FY (B:=B) n;have K:=λ(i:Nat) (env:Env) (s:Sv) (hs:FoB B s)=>AT h t x i env s hs (by first|exact hb|exact bX hb _|exact bX (bX hb _) _);simp only[dE,bH];split;· exact hs
  split;· exact hs
  split;· exact hs
  split;· exact hs
  split
  ·cases jI t.text env with
   |none=>exact oJ hs
   |some k=>exact hs
  split
  ·unfold qy;refine Hq h x _ env (by first|exact hb|exact bX hb _|exact bX (bX hb _) _) t.kids 0 _ ?_;unfold vd;have hu:FoB B (cd s):=hs;exact nk (oJ hu)<|nk hu<|oJ hu
  split
  ·have :=IU h x t env (by first|exact hb|exact bX hb _|exact bX (bX hb _) _) t.kids.length 0 (⟨0,0⟩,s) hs;cases hq:jS (dE n) x t env t.kids.length 0 (⟨0,0⟩,s)with
   |mk a s1=>rw[hq]at this;exact this
  split
  ·unfold ifP;have h0:=K 0 env s hs;have h1:FoB B (ifS x<|aR (dE n) x t 0 env s):=by
    cases hq:aR (dE n) x t 0 env s with
    |mk a s1=>rw[hq]at h0;exact nk (oJ h0) h0
   have h2:=K 1 env _ h1;cases hq:aR (dE n) x t 1 env (ifS x<|aR (dE n) x t 0 env s)with
   |mk a s1=>
    rw[hq]at h2;have h3:=K 2 env s1 h2;simp only[ifR];cases hq2:aR (dE n) x t 2 env s1 with
    |mk b s2=>rw[hq2]at h3;exact nk (oJ h3) h3
  split
  ·have h0:=K 0 env s hs;cases hq:aR (dE n) x t 0 env s with
   |mk a s1=>rw[hq]at h0;exact K 1 _ s1 h0
  split
  ·have h0:=K 0 env s hs;cases hq:aR (dE n) x t 0 env s with
   |mk a s1=>
    rw[hq]at h0;have h1:=K 1 env s1 h0;simp only[zy];cases hq2:aR (dE n) x t 1 env s1 with
    |mk b s2=>rw[hq2]at h1;exact RA h1 (by first|exact hb|exact bX hb _|exact bX (bX hb _) _)
  split
  ·exact K 0 env s hs
  ·exact hs
theorem AY{B:Int×Int}:∀(n:Nat) (x:Cx) (u:Tree) (s:Sv),FoB B s->Off x->FoB B (gk n x u s)
 |0,x,u,s,hs,_=>hs
 |n+1,x,u,s,hs,hb=>by
  have G:FoB B (cd s):=hs;simp only[gk];exact nk (nk (oJ G) G) (nk (AY n _ _ s hs (by first|exact hb|exact bX hb _|exact bX (bX hb _) _)) hs)
theorem IC{B:Int×Int}{L:Nat}(x:Cx):∀(l:YT) (i:Nat) (s:Sv),(∀a∈l,tbulk a<=L)->FoB B s->Off x->FoB B (nG x l i s)
 |[],i,s,_,hs,_=>hs
 |k::r,i,s,G,hs,hb=>by
  have :=G k (by simp);have :=Aj k 0;exact IC x r (i+1) _ (λa J=>G a<|by simp[J]) (AY _ _ _ _ hs (by first|exact hb|exact bX hb _|exact bX (bX hb _) _)) hb
theorem Qj(x:Cx)(d:Nat)(f:Tree)(s:Sv)(hs:FoB B s)(hb:Off<|x.go (d:Int)):FoB B (lf x d f s):=by
 unfold lf;refine nk ?_ ?_
 ·obtain⟨g,J⟩:∃g,g=(aI (x.mo,(d:Int)) x.sg).getD noG:=⟨_,rfl⟩;rw[<-J];unfold funS;have h1:FoB B (nG (x.go (d:Int)) (f.kids.take (f.kids.length-2)) 0 s):=IC (L:=tbulk f) _ _ 0 s (λa O=>by
   obtain⟨i,hi⟩:=List.getElem?_of_mem (List.mem_of_mem_take O);have :=aE hi;omega) hs (by first|exact hb|exact bX hb _|exact bX (bX hb _) _)
  have h2:=AY (B:=B) (tbulk f) ((x.go (d:Int)).go ((f.kids.length-2:Nat):Int)) (cC f<|f.kids.length-2) _ h1 (by first|exact hb|exact bX hb _|exact bX (bX hb _) _);have G:=AT (FY (B:=B)<|tbulk f) f (x.go (d:Int)) (f.kids.length-1) (du (f.kids.take<|f.kids.length-2) g.params) _ h2 (by first|exact hb|exact bX hb _|exact bX (bX hb _) _);cases U:aR (dE<|tbulk f) (x.go (d:Int)) f (f.kids.length-1) (du (f.kids.take<|f.kids.length-2) g.params) (gk (tbulk f) ((x.go (d:Int)).go ((f.kids.length-2:Nat):Int)) (cC f<|f.kids.length-2)<|nG (x.go (d:Int)) (f.kids.take<|f.kids.length-2) 0 s)with
  |mk k s1=>
   rw[U]at G;exact nk (oJ G) G
 ·unfold yW;exact AY _ _ _ _ (nk (oJ hs) hs) (by first|exact hb|exact bX hb _|exact bX (bX hb _) _)
set_option maxHeartbeats 4000000
def nR(G:Bool):Prop:=qS 9 []<|.bool G
def BS(G:YB)(J:Tree)(O U:Int):Prop:=qS 20 [.str G]<|.tup [.agg<|ak J,qi O,qi U]
def rh(G:Bool):Prop:=qS 9 []<|.bool G
theorem xy(m:Nat)(G:Bool)(h:∃b s j,BS [109,111,100,117,108,101,32,77,32,100,101,102,32,102,40,41,58,32,73,110,116,32,61,32,49,32,43,32,34,97,34,32,100,101,102,32,103,40,120,58,32,66,111,111,108,41,58,32,73,110,116,32,61,32,105,102,32,120,32,116,104,101,110,32,49,32,101,108,115,101,32,103,40,41] b s j∧∃a,kX [b] a∧∃k l,jy [b] (cv.mk 0 [0,1]) k l∧((j=0)->((l=0)->((k.kind=5)->(((a.length:Int)=2)->∃n,a[0]?=some n∧((n.Kind=6)->∃r,a[0]?=some r∧∃o,dI r.At.Path [0,1,1] o∧((o=true)->∃c,a[1]?=some c∧((c.Kind=3)->∃g,a[1]?=some g∧∃i,dI g.At.Path [1,2,2] i∧i=G)∧((c.Kind≠3)->false=G))∧((o=false)->false=G))∧((n.Kind≠6)->false=G))∧(((a.length:Int)≠2)->false=G))∧((k.kind≠5)->false=G))∧((l≠0)->false=G))∧((j≠0)->false=G)):rh G:=by
 refine⟨I,I,?_⟩;refine qA 71 [] func9 λK J=>?_;refine gR 7 I ?_;obtain⟨b,s,j,x,h⟩:=h;refine qC0 x I<|gR 14 I<|gHR 1 (kidsV [b]) I (mU b) I<|gFR 1 I (dk _) I I ?_;obtain⟨a,y,h⟩:=h;refine qC y [] ?_;refine gHR 2 (List.map ai.w a) I (vH _ a) I<|gR 7 I<|gHR 3 (kidsV [b]) I (mU b) I<|gR 2 I<|gFR 3 I (dk _) I I<|gFR 4 I I I I ?_;obtain⟨k,l,z,h⟩:=h;refine qC0 z rfl<|gR 13 rfl<|qBeZ 25 24 rfl rfl rfl rfl h ?_ ?_<;>intro h;refine gR 4 rfl<|qBeZ 29 28 rfl rfl rfl rfl h ?_ ?_<;>intro h;refine gR 5 rfl<|qBeZ 34 33 rfl rfl rfl rfl h ?_ ?_<;>intro h;refine gR 2 rfl<|gV 36 (qi (a.length:Int)) rfl (aN<|aB ai.w _) rfl<|gLO 2 rfl (aB ai.w _) λα=>gR 3 rfl<|qBeZ 39 38 rfl rfl rfl rfl h ?_ ?_<;>intro h;refine gR 1 I ?_;obtain⟨n,p,h⟩:=h;refine gY (yIO ah I I I I<|qG<|ax (f:=ai.w) p) I I ?_;refine gR 1 rfl<|gDo (.nop) (dLe ah rfl rfl rfl (ax (f:=ai.w) p) rfl) trivial rfl rfl rfl<|gR 3 rfl<|qBeZ 46 45 rfl rfl rfl rfl h ?_ ?_<;>intro h;refine gR 1 I ?_;obtain⟨r,q,h⟩:=h;refine gY (yIO ah I I I I<|qG<|ax (f:=ai.w) q) I I ?_;refine gR 2 I<|gDo (.nop) (dLe ah I I I (ax (f:=ai.w) q) I) trivial I I I<|gR 1 I<|gFR 6 I I I I ?_;obtain⟨o,t,h⟩:=h;refine qC0 t rfl<|gR 2 rfl<|qBiZ 55 54 rfl rfl rfl rfl h ?_ ?_<;>intro h;refine gR 1 I ?_;obtain⟨c,d,h⟩:=h;refine gY (yIO ah I I I I<|qG<|ax (f:=ai.w) d) I I ?_;refine gR 1 rfl<|gDo (.nop) (dLe ah rfl rfl rfl (ax (f:=ai.w) d) rfl) trivial rfl rfl rfl<|gR 3 rfl<|qBeZ 62 61 rfl rfl rfl rfl h ?_ ?_<;>intro h;refine gR 1 I ?_;obtain⟨g,e,h⟩:=h;refine gY (yIO ah I I I I<|qG<|ax (f:=ai.w) e) I I ?_;refine gR 2 I<|gDo (.nop) (dLe ah I I I (ax (f:=ai.w) e) I) trivial I I I<|gR 1 I<|gFR 7 I I I I ?_;obtain⟨i,v,h⟩:=h;refine qC0 v I<|gR 5 I ?_;subst h;exact qN [.tmp 0];refine gR 12 I ?_;subst h;exact qN [.tmp 0];refine gR 19 I ?_;subst h;exact qN [.tmp 0];refine gR 28 I ?_;subst h;exact qN [.tmp 0];refine gR 35 I ?_;subst h;exact qN [.tmp 0];refine gR 40 I ?_;subst h;exact qN [.tmp 0];refine gR 45 I ?_;subst h;exact qN [.tmp 0];refine gR 49 I ?_;subst h;exact qN [.tmp 0]
open Go.RowKit
def fT(R:YN)(l:List<|Nat×Ob):List (Nat×Ob):=l.filter λp=>mL p.1 R
def ung:Ob->Ob
 |.free=>.gone
 |o=>o
def ii(nx:Nat)(R:YN)(l:List<|Nat×Ob):List (Nat×Ob):=(l.filter λp=>!mL p.1 R&&Nat.blt p.1 nx).map λp=>(p.1,ung p.2)
theorem yM{α:Type}{R:YN}:∀(l:List<|Nat×Ob) (c:List (Nat×Ob)->α),Bh R l c=c (fT R l)
 |[],c=>rfl
 |(i,o)::r,c=>by
  simp only[Bh];cases h:mL i R
  ·simp only;rw[yM r];simp[fT,h]
  ·simp only;rw[yM r];simp[fT,h]
theorem yT{α:Type}{nx:Nat}{R:YN}:∀(l:List<|Nat×Ob) (c:List (Nat×Ob)->α),zk nx R l c=c (ii nx R l)
 |[],c=>rfl
 |(i,o)::r,c=>by
  simp only[zk];cases h:(!mL i R&&Nat.blt i nx)
  ·simp only;rw[yT r];simp only[ii,List.filter_cons,h];rfl
  ·cases o<;>(simp only;rw[yT r];simp only[ii,List.filter_cons,h];rfl)
theorem wW{R:YN}{i:Nat}:∀{l:List<|Nat×Ob},aC (fT R l) i=aC l i∨(mL i R=false∧aC (fT R l) i=.gone)
 |[]=>.inl rfl
 | (j, o)::r=>by
  by_cases hj:j=i
  ·subst hj;cases h:mL j R
   ·right;refine⟨I,?_⟩;have ih:=wW (R:=R) (i:=j) (l:=r);simp only[fT,List.filter_cons,h]at ih⊢;simp only[aay,if_false];clear ih;have key:∀(l:List<|Nat×Ob),aC (l.filter λp=>mL p.1 R) j=.gone:=by
     intro l
     induction l with
     |nil=>rfl
     | cons q t ih=>
      obtain⟨k,o'⟩:=q;simp only[List.filter_cons];split
      ·rename_i hk;have :k≠j:=λe=>by subst e;simp[h]at hk
       simp only[aC,nbF this];exact ih
      ·exact ih
    exact key r
   ·left;simp only[fT,List.filter_cons,h,if_true,aC,nbT]
  ·have ih:=wW (R:=R) (i:=i) (l:=r);simp only[fT,List.filter_cons];split
   ·simp only[aC,nbF hj];exact ih
   ·simp only[aC,nbF hj];exact ih
theorem EH{R:YN}(h:mL i R=false)(l:List<|Nat×Ob):aC (fT R l) i=.gone:=by
 induction l with
 |nil=>rfl
 | cons q t ih=>
  obtain⟨k,o'⟩:=q;simp only[fT,List.filter_cons];split
  ·rename_i hk;have :k≠i:=λe=>by subst e;simp[h]at hk
   simp only[aC,nbF this];exact ih
  ·exact ih
theorem LB{nx:Nat}{R:YN}(l:List<|Nat×Ob):aC (ii nx R l) i=if(!mL i R&&Nat.blt i nx)=true then ung (aC l i)else .gone:=by
 induction l with
 |nil=>simp[ii,aC,ung]
 | cons q t ih=>
  obtain⟨k,o⟩:=q;by_cases hk:k=i
  ·subst hk;cases h:(!mL k R&&Nat.blt k nx)
   ·rw[h]at ih;simp only[ii,List.filter_cons,h,aay,if_false]at ih⊢;exact ih
   ·simp only[ii,List.filter_cons,h,if_true,aal,aC,nbT]
  ·have e:aC ((k,o)::t) i=aC t i:=by simp only[aC,nbF hk]
   rw[e,<-ih];simp only[ii,List.filter_cons];split
   ·simp only[aal,aC,nbF hk]
   ·rfl
variable{S:Nat->Prop}
variable{k:Nat}{fid:FuncId}
section
variable{P:Program}{T:Tab}{K:Ctx}{Q:Exit->Act->World->Prop}{s:List EI}{n:Nat}{F:Fm}{H:Hp}
theorem IZ (lo:Nat) (H:Hp) (v:V):∃v' H',(∀(α:Type) (c:V->Hp->α),Ks lo H v c=c v' H')∧H'.nx=H.nx∧(∀K S w ρ x,HRel S w ρ H.get->Inv K S w ρ H.get->VRel S w ρ v x->∃S',HRel S' w ρ H'.get∧Inv K S' w ρ H'.get∧Up S S' w w ρ ρ∧VRel S' w ρ v' x):=by
 have triv:∃v' H',(∀(α:Type) (c:V->Hp->α),c v H=c v' H')∧H'.nx=H.nx∧(∀K S w ρ x,HRel S w ρ H.get->Inv K S w ρ H.get->VRel S w ρ v x->∃S',HRel S' w ρ H'.get∧Inv K S' w ρ H'.get∧Up S S' w w ρ ρ∧VRel S' w ρ v' x):=⟨v,H,λ_ _=>rfl,rfl,λK S w ρ x h1 h2 h3=>⟨S,h1,h2,Up.refl,h3⟩⟩;cases v with
 | sl id=>
  simp only[Ks];split
  ·split
   ·rename_i e sz els ho;split
    ·rename_i hpu;refine⟨.row sz els,⟨H.nx,tK id H.es⟩,λα c=>by rw[AQ],I,λK S w ρ x hr hi hx=>?_⟩;have hg:(⟨H.nx,tK id H.es⟩:Hp).get=cn H.get id .gone:=by
      funext i
      unfold Hp.get;by_cases hii:i=id
      ·subst hii;rw[bU];simp only[];have hlt:Nat.blt i H.nx=true:=by
        unfold Hp.get at ho;split at ho
        ·assumption
        ·cases ho
       rw[hlt];simp only[tk,if_true]
      ·rw[de _ _ hii];simp only[tk,if_neg hii]
     refine⟨_,by rw[hg];exact(gN hr).1,by rw[hg];exact hi.frz hr id,(gN hr).2,uS hr ho hpu hx⟩
    ·exact triv
   ·exact triv
  ·exact triv
 |_=>exact triv
theorem Jo(lo:Nat):∀(vs:List V) (H:Hp),∃vs' H',(∀(α:Type) (c:List V->Hp->α),JE lo H vs c=c vs' H')∧H'.nx=H.nx∧(∀K S w ρ xs,HRel S w ρ H.get->Inv K S w ρ H.get->LRel S w ρ vs xs->∃S',HRel S' w ρ H'.get∧Inv K S' w ρ H'.get∧Up S S' w w ρ ρ∧LRel S' w ρ vs' xs)
 |[],H=>⟨[],H,λ_ _=>rfl,rfl,λK S w ρ x h1 h2 O=>⟨S,h1,h2,Up.refl,O⟩⟩
 |v::r,H=>by
  obtain⟨U,H1,Z,n1,k1⟩:=IZ lo H v;obtain⟨r',H2,e2,n2,k2⟩:=Jo lo r H1;refine⟨U::r',H2,λα c=>by simp only[JE,Z,e2],n2.trans n1,λK S w ρ xs hr hi hx=>?_⟩;simp only[LRel]at hx;obtain⟨x,ys,rfl,h1,h2⟩:=hx;obtain⟨S1,a1,a2,G,a4⟩:=k1 K S w ρ x hr hi h1;obtain⟨S2,b1,b2,J,b4⟩:=k2 K S1 w ρ ys a1 a2<|h2.up G;exact⟨S2,b1,b2,⟨λb hb=>J.s b<|G.s b hb,λ_ _ _=>I,λ_ _ h=>h⟩,x,ys,I,a4.up J,b4⟩
theorem Pw(lo:Nat)(H:Hp)(v:V):∃G H',(∀(α:Type) (c:V->Hp->α),Ov lo H v c=c G H')∧H'.nx=H.nx∧(∀K S w ρ x,HRel S w ρ H.get->Inv K S w ρ H.get->VRel S w ρ v x->∃S',HRel S' w ρ H'.get∧Inv K S' w ρ H'.get∧Up S S' w w ρ ρ∧VRel S' w ρ G x):=by
 have J:=IZ lo H v;cases v
 case agg cs=>
  obtain⟨vs',H',e,O,k⟩:=Jo lo cs H;refine⟨.agg vs',H',λα c=>by simp only[Ov,e],O,λK S w ρ x hr hi hx=>?_⟩;simp only[VRel]at hx;obtain⟨xs,rfl,h1⟩:=hx;obtain⟨S',U,Z,a3,a4⟩:=k K S w ρ xs hr hi h1;exact⟨S',U,Z,a3,by simp only[VRel];exact⟨xs,rfl,a4⟩⟩
 all_goals exact J
theorem DB(lo:Nat):∀(vs:List V) (H:Hp),∃vs' H',(∀(α:Type) (c:List V->Hp->α),FO lo H vs c=c vs' H')∧H'.nx=H.nx∧(∀K S w ρ xs,HRel S w ρ H.get->Inv K S w ρ H.get->LRel S w ρ vs xs->∃S',HRel S' w ρ H'.get∧Inv K S' w ρ H'.get∧Up S S' w w ρ ρ∧LRel S' w ρ vs' xs)
 |[],H=>⟨[],H,λ_ _=>rfl,rfl,λK S w ρ x h1 h2 O=>⟨S,h1,h2,Up.refl,O⟩⟩
 |v::r,H=>by
  obtain⟨U,H1,Z,n1,k1⟩:=Pw lo H v;obtain⟨r',H2,e2,n2,k2⟩:=DB lo r H1;refine⟨U::r',H2,λα c=>by simp only[FO,Z,e2],n2.trans n1,λK S w ρ xs hr hi hx=>?_⟩;simp only[LRel]at hx;obtain⟨x,ys,rfl,h1,h2⟩:=hx;obtain⟨S1,a1,a2,G,a4⟩:=k1 K S w ρ x hr hi h1;obtain⟨S2,b1,b2,J,b4⟩:=k2 K S1 w ρ ys a1 a2<|h2.up G;exact⟨S2,b1,b2,⟨λb hb=>J.s b<|G.s b hb,λ_ _ _=>I,λ_ _ h=>h⟩,x,ys,I,a4.up J,b4⟩
variable{all:Array Oper}{rest:List Oper}{o:Oper}{u:V}{H':Hp}
theorem Rd{ok:Bool}(U:bz F all o.guard=some true)(hx:qH P K o [] ok n F H u H')(k:Go P K Q (.ops all rest) s n (F.seto o.dst<|some u) H'):Go P K Q (.ops all<|o::rest) s n F H:=λS w ρ a hr hi G=>by
 show wpList P all (fy P Q s) (o::rest) a w;unfold wpList;rw[if_pos<|cF G U];exact .inl<|hx S w ρ a hr hi G _ _ λx S' w' ρ' J O Z _ _ hv=>k S' w' ρ' _ J O<|db (G.up Z) o.dst hv
variable{L:YN}{m left i:Nat}{listed:Array Bool}
theorem Rv(G:Region.ready .any all listed=[i])(hi:all[i]?=some o)(hw:bz F all o.guard=some true)(hx:qH P K o L ((listed.setIfInBounds i true).getD m false) n F H u H')(k:Go P K Q (.drw all L m left<|listed.setIfInBounds i true) s n (F.seto o.dst<|some u) H'):Go P K Q (.drw all L m (left+1) listed) s n F H:=λS w ρ a hr J O hs=>by
 refine ri (S:=S) G ?_;unfold wpOp;simp only[hi];rw[if_pos<|cF O hw];exact .inl<|hx S w ρ a hr J O _ _ λx S' w' ρ' U Z hu hA hL hv=>mf hu hA hL<|k S' w' ρ' _ U Z (db (O.up hu) o.dst hv) hs
def nF(P:Program)(K:Ctx)(Q:Exit->Act->World->Prop)(n:Nat):Rs->Prop
 |.ok e F H=>∀S w ρ a,HRel S w ρ H.get->Inv K S w ρ H.get->FRel S w ρ a n F->Q (match e with|true=>.ret|false=>.normal) a w
 |.pt p s F H=>Go P K Q p s n F H
 |.er _ _=>False
variable{ih:EP->List EI->Fm->Hp->Rs}
theorem Jt{w:World}{ρ:Nat->Option Value}{x:Value}:∀{rs:List V},VRel S w ρ (qO rs) x->∃ys,LRel S w ρ rs ys∧x=rM ys
 |[],G=>by simp only[qO,VRel]at G;obtain⟨ys,rfl,h1⟩:=G;exact⟨ys,h1,by simp only[LRel]at h1;subst h1;rfl⟩
 |[v],G=>⟨[x],⟨x,[],rfl,G,rfl⟩,rfl⟩
 |v::u::r,G=>by simp only[qO,VRel]at G;obtain⟨ys,rfl,h1⟩:=G;refine⟨ys,h1,?_⟩;simp only[LRel]at h1;obtain⟨_,_,rfl,_,_,_,rfl,_⟩:=h1;rfl
theorem NB (hT:TabOk P T) (IH:∀p s F H K Q n,nF P K Q n (ih p s F H)->Go P K Q p s n F H) {X:Rs->Prop} (hX:∀n m,¬X (.er n m)) {keep ok:Bool} {vs:List V} {fid:FuncId} {fn:Func} {b:Code} {c:V->Hp->Rs} (hf:P.funcs[fid]?=some fn) (hb:fn.body=some b) (hl:Nat.ble vs.length fn.ntmps=true)
  (h:X<|Lj T ih keep vs fn b H L ok c):∃u H' L',(L'=L∨ok=true)∧CallR P K fid vs H L' (λu' H''=>u'=u∧H''=H')∧X (c u H'):=by
 unfold Lj at h;simp only[]at h;generalize hR:ua H 40 (zc vs []) []=R at h;split at h
 ·rename_i hok;rw[yM]at h;split at h
  ·rename_i e F1 H1 hrun;split at h
   ·rename_i rs hres;split at h
    ·rename_i hnx;have hnx':H.nx<=H1.nx:=Nat.le_of_ble_eq_true hnx;have hin:∀i,(⟨H.nx,fT R H.es⟩:Hp).get i=H.get i∨(⟨H.nx,fT R H.es⟩:Hp).get i=.gone:=λi=>by
      unfold Hp.get;simp only[];split
      ·rcases wW (R:=R) (i:=i) (l:=H.es)with e|⟨_,e⟩
       ·exact .inl e
       ·exact .inr e
      ·exact .inl I
     have hout:∀i,mL i R=false->Nat.blt i H.nx=true->(⟨H.nx,fT R H.es⟩:Hp).get i=.gone:=λi hi hlt=>by unfold Hp.get;simp only[hlt];exact EH hi _
     have key:∀(H2:Hp) (es3:List<|Nat×Ob),H2.nx=H1.nx->(∀i,aC es3 i=aC H2.es i∨aC es3 i=.gone)->∀i,((⟨H2.nx,es3++ii H.nx R H.es⟩:Hp).get i=H2.get i∨(⟨H2.nx,es3++ii H.nx R H.es⟩:Hp).get i=.gone)∨((⟨H2.nx,es3++ii H.nx R H.es⟩:Hp).get i=H.get i∧(⟨H.nx,fT R H.es⟩:Hp).get i=.gone∧H.get i≠.free):=λH2 es3 hn h3 i=>by
      by_cases hlt2:Nat.blt i H2.nx=true
      ·have e0:(⟨H2.nx,es3++ii H.nx R H.es⟩:Hp).get i=aC (es3++ii H.nx R H.es) i:=by unfold Hp.get;simp only[hlt2]
       have e2:H2.get i=aC H2.es i:=by unfold Hp.get;rw[hlt2]
       rw[e0,e2];rcases Fe es3 (ii H.nx R H.es) i with e|⟨e',e⟩
       ·rw[e];rcases h3 i with h3|h3
        ·exact .inl<|.inl h3
        ·exact .inl<|.inr h3
       ·rw[e];rw[LB];cases hm:(!mL i R&&Nat.blt i H.nx)
        ·exact .inl (.inr<|by simp)
        ·have hm':=hm;simp only[aaa,Bool.not_eq_true']at hm';have eH:H.get i=aC H.es i:=by unfold Hp.get;rw[hm'.2]
         rw[if_pos rfl];cases hf:aC H.es i
         case free=>exact .inl<|.inr rfl
         all_goals exact .inr ⟨by rw[eH,hf];rfl,hout i hm'.1 hm'.2,by rw[eH,hf];simp⟩
      ·have e0:(⟨H2.nx,es3++ii H.nx R H.es⟩:Hp).get i=.free:=by
        unfold Hp.get;simp only[Bool.not_eq_true]at hlt2;simp only[hlt2]
       have e2:H2.get i=.free:=by unfold Hp.get;simp only[Bool.not_eq_true]at hlt2;rw[hlt2]
       exact .inl (.inl<|by rw[e0,e2])
     have fin:∀(H2:Hp) (es3:List<|Nat×Ob) (rs2:List V),H2.nx=H1.nx->(∀i,aC es3 i=aC H2.es i∨aC es3 i=.gone)->
       (∀K S w ρ xs,HRel S w ρ H1.get->Inv K S w ρ H1.get->LRel S w ρ rs xs->∃S',HRel S' w ρ H2.get∧Inv K S' w ρ H2.get∧Up S S' w w ρ ρ∧LRel S' w ρ rs2 xs)->
       ∃L',(L'=L∨ok=true)∧CallR P K fid vs H L' (λu' H''=>u'=qO rs2∧H''=⟨H2.nx,es3++ii H.nx R H.es⟩):=λH2 es3 rs2 hn h3 hfz=>by
      have main:∀L',(∀(S:Nat->Prop) (w:World) (ρ:Nat->Option Value),HRel S w ρ H.get->L'=[]∨(dA H.get L'=true∧∀id,id∈L'->(⟨H.nx,fT R H.es⟩:Hp).get id=.gone))->CallR P K fid vs H L' (λu' H''=>u'=qO rs2∧H''=⟨H2.nx,es3++ii H.nx R H.es⟩):=λL' hL' S w ρ xs hr hi hx=>by
       have hr1:=hr.drop (h':=(⟨H.nx,fT R H.es⟩:Hp).get) hin;have hi1:Inv ⟨w,S,λb=>∃id,own ρ id ((⟨H.nx,fT R H.es⟩:Hp).get id) b,ρ⟩ S w ρ (⟨H.nx,fT R H.es⟩:Hp).get:=⟨ChgP.refl _ _,λ_ h=>h,λ_ h=>.inl h,λid b hb=>.inl ⟨id,hb⟩,λ_ _ h=>h⟩;refine Cb hf hb hl hr1 hi1 hx<|IH _ _ _ _ _ _ _ ?_;rw[hrun];intro S' w' ρ' a' hr' hi' hF';obtain⟨rl,hrl⟩:∃l:List ResultVar,fn.results=l.toArray:=⟨fn.results.toList,by simp⟩;rw[hrl]at hres;refine ret_go hT (rs:=rl) (by cases e<;>simp) hrl hr' hF' (by simpa using hres) λx hvx=>?_;have hLR:=Jt hvx;obtain⟨ys,hys,rfl⟩:=hLR;obtain⟨S2,a1,a2,a3,a4⟩:=hfz _ S' w' ρ' ys hr' hi' hys;obtain⟨m1,m2,m3,m4⟩:=Hf (h1:=(⟨H.nx,fT R H.es⟩:Hp).get) (h2:=(⟨H2.nx,es3++ii H.nx R H.es⟩:Hp).get) hr hi hin a1 a2<|key H2 es3 hn h3;refine⟨_,S2,ρ',_,_,I,⟨I,I⟩,m1,m2,m3,IP a4,?_⟩;rcases hL' S w ρ hr with rfl|⟨g1,g2⟩
       ·intro id hid;simp at hid
       ·exact m4 L' g1 g2
      rcases AL hok with hok|hok
      ·simp only[aaa]at hok;refine⟨L,.inl I,main L λS w ρ hr=>.inr ⟨hok.1,λid hid=>?_⟩⟩;have hmem:=List.all_eq_true.1 hok.2 id hid;simp only[Bool.not_eq_true']at hmem;by_cases hlt:Nat.blt id H.nx=true
       ·exact hout id hmem hlt
       ·exfalso;have hfree:H.get id=.free:=by unfold Hp.get;simp only[Bool.not_eq_true]at hlt;rw[hlt]
        have hnl:∀(l:YN),id∈l->dA H.get l=true->False:=by
         intro l
         induction l with
         |nil=>intro h;simp at h
         | cons j t ih=>
          intro hm hl;simp only[dA]at hl;rcases List.mem_cons.1 hm with e|e
          ·subst e;rw[hfree]at hl;cases hl
          ·split at hl
           ·exact ih e hl
           ·exact ih e hl
           ·cases hl
        exact hnl L hid hok.1
      ·exact⟨[],.inr hok,main [] λ_ _ _ _=>.inl I⟩
     split at h
     ·rw[yT]at h;obtain⟨L',g1,g2⟩:=fin H1 H1.es rs rfl (λi=>.inl rfl) λK S w ρ xs h1 h2 h3=>⟨S,h1,h2,Up.refl,h3⟩;exact⟨_,_,L',g1,g2,h⟩
     ·obtain⟨rs2,H2,e1,e2,e3⟩:=DB H.nx rs H1;rw[e1]at h;rw[yM,yT]at h;obtain⟨L',g1,g2⟩:=fin H2 (fT _ H2.es) rs2 e2 (λi=>by
       rcases wW (R:=ua H2 60 (zc rs2 R) []) (i:=i) (l:=H2.es)with e|⟨_,e⟩
       ·exact .inl e
       ·exact .inr e) e3
      exact⟨_,_,L',g1,g2,h⟩
    ·exact absurd h<|hX _ _
   ·exact absurd h<|hX _ _
  ·exact absurd h<|hX _ _
  ·exact absurd h<|hX _ _
 ·exact absurd h<|hX _ _
theorem vp (hT:TabOk P T) (IH:∀p s F H K Q n,nF P K Q n (ih p s F H)->Go P K Q p s n F H) {X:Rs->Prop} (hX:∀n m,¬X (.er n m)) {ok:Bool} {c:Option V->Hp->Rs} (h:X<|zo T ih F H L ok o c):∃u H',qH P K o L ok n F H u H'∧X (c (some u) H'):=by
 unfold zo at h;split at h
 ·rename_i v hv;exact⟨v,H,MQ hT hv,h⟩
 ·rw [fo]at h;split at h
  ·rename_i v ed hv;split at h
   ·rename_i hc;rw[Hp.ap_eq]at h;refine⟨_,_,bm hT hv hc,?_⟩;cases v with
    |none=>exact h
    |some v=>exact h
   ·exact absurd h<|hX _ _
  ·split at h
   ·rename_i fid args tys hop;split at h
    ·rename_i vs hvs;split at h
     ·rename_i v hn;obtain⟨he,hnat⟩:=hT.nat _ _ _ hn;refine⟨v,H,cz (L':=L) he (by rw[hop]) hvs (λS w ρ xs hr hi hx=>?_)<|.inl I,h⟩;obtain⟨x,h1,h2⟩:=hnat S w ρ xs hx;refine h2.mono λe w' hR=>?_;obtain⟨rfl,rfl⟩:=hR;exact⟨x,S,ρ,v,H,I,⟨I,I⟩,hr,hi,Up.refl,h1,tE⟩
     ·split at h
      ·rename_i fn hfn;obtain⟨hf,he⟩:=hT.fn _ _ hfn;split at h
       ·rename_i b hb;split at h
        ·rename_i hl;obtain⟨u,H',L',g1,g2,g3⟩:=NB (K:=K) hT IH hX hf hb hl h;exact⟨u,H',cz he (by rw[hop]) hvs g2 g1,g3⟩
        ·exact absurd h<|hX _ _
       ·exact absurd h<|hX _ _
      ·exact absurd h<|hX _ _
    ·exact absurd h<|hX _ _
   ·exact absurd h<|hX _ _
theorem Mq{l:YN}{j:Nat}(h:Hw l j=true):l=[j]:=by
 unfold Hw at h;split at h
 ·rw[aag h]
 ·cases h
theorem HP (hT:TabOk P T) (IH:∀p s F H K Q n,nF P K Q n (ih p s F H)->Go P K Q p s n F H) {i:Nat} {ps:List<|Nat×Operand} {vs:List<|Nat×V} {v:V} (hp:wK T all i vs=some (o,ps,v)):∀(left:Nat) (listed:Array Bool) (F:Fm) (H:Hp),nF P K Q n (Fa T ih all L m i o ps v s left listed F H)->GoP P K Q all L m left listed s n F H i o ps vs v
 | left, listed,F,H,h=>by
  unfold Fa at h;split at h
  ·rename_i hl;split at h
   ·rename_i x hrd;split at h
    ·rename_i hb;have :=aag hb;subst this;rw[Fm.puto_eq]at h;exact QG hT hp hrd hl<|IH _ _ _ _ _ _ _ h
    ·exact h.elim
   ·rename_i x y hrd;cases left with
    |zero=>exact h.elim
    | succ left=>
     simp only[fo]at h;generalize hj:Kt x y i=j at h;unfold Kt at hj;split at h
     ·exact h.elim
     ·rename_i hji;have hne:j≠i:=Nat.ne_of_beq_eq_false hji;split at h
      ·rename_i oj hoj;split at h
       ·rename_i hc;simp only[aaa]at hc;obtain⟨⟨⟨hc1,hc2⟩,hc3⟩,hc4⟩:=hc;split at h
        ·rename_i hw;obtain⟨u,H',hx,hk⟩:=vp (K:=K) (n:=n) hT IH (X:=nF P K Q n) (λ_ _ h=>h) h;rw[Fm.puto_eq]at hk;have ih2:=HP hT IH hp left _ _ _ hk;have hpair:(match Region.ready .any all listed with|[x,y]=>(Nat.beq x i&&Nat.beq y j)||(Nat.beq x j&&Nat.beq y i)|_=>false)=true:=by
          rw[hrd];simp only[];cases hx1:Nat.beq x i
          ·rw[hx1]at hj;cases hy1:Nat.beq y i
           ·rw[hy1]at hj;exact absurd hj.symm hne
           ·rw[hy1]at hj;simp only at hj;subst hj;simp
          ·rw[hx1]at hj;simp only at hj;subst hj;simp
         refine OA hT hp hoj hpair (Mq hc1) hl (λt ht=>?_) hc2 hc3 (Array.setIfInBounds_comm _ _<|Ne.symm hne) (Post:=λu' H''=>u'=u∧H''=H') (λS w ρ a hr hi hF K2 hK2=>?_) (λu' H'' hP=>by obtain⟨rfl,rfl⟩:=hP;exact ih2)
         ·rw[ht]at hc4;simp only[Option.isNone_iff_eq_none]at hc4;exact hc4
         ·unfold wpOp;simp only[hoj];rw[if_pos<|cF hF hw];refine .inl<|hx S w ρ a hr hi hF _ _ λx S' w' ρ' hr' hi' hu hA hL hv=>hK2 x S' w' ρ' u H' ⟨I,I⟩ hr' hi' hu hA (hL.imp id λh=>?_) hv;simpa only[aaa]using h
        ·exact h.elim
       ·exact h.elim
      ·exact h.elim
   ·exact h.elim
  ·exact h.elim
theorem Qe (hT:TabOk P T) (IH:∀p s F H K Q n,nF P K Q n (ih p s F H)->Go P K Q p s n F H) {i j:Nat} {left:Nat} {listed:Array Bool} (hrd:Region.ready .any all listed=[i,j]) (h:nF P K Q n<|OP T ih all L m left i j listed s F H):Go P K Q (.drw all L m (left+1) listed) s n F H:=by
 unfold OP at h;split at h
 ·rename_i oi hoi;split at h
  ·rename_i oj hoj;split at h
   ·rename_i hwi;split at h
    ·rename_i hwj;obtain⟨ui,Hi,xi,hk⟩:=vp (K:=K) (n:=n) hT IH (X:=nF P K Q n) (λ_ _ h=>h) h;rw[Fm.puto_eq]at hk;split at hk
     ·rename_i F1 H1 e1;obtain⟨uj,Hj,xj,hk2⟩:=vp (K:=K) (n:=n) hT IH (X:=nF P K Q n) (λ_ _ h=>h) hk;rw[Fm.puto_eq]at hk2;split at hk2
      ·rename_i F2 H2 e2;split at hk2
       ·rename_i hal;have c:Go P K Q (.ex .normal) s n F1 H1:=IH _ _ _ _ _ _ _ hk2;intro S w ρ a hr hi hF;have hpin:∀id x,K.pin id=some x->id<H.nx:=λid x hx=>Decidable.byContradiction λhn=>by
         have h1:=hi.pin id x hx;have h2:=hr.ob id;have h3:H.get id=.free:=by
          unfold Hp.get;have :Nat.blt id H.nx=false:=by
           cases hb:Nat.blt id H.nx
           ·rfl
           ·exact absurd (by simpa[Nat.blt_eq]using hb) hn
          simp only[this]
         rw[h3]at h2;have h4:ρ id=none:=h2;rw[h4]at h1;cases h1
        have g1:Go P K (fy P Q s) (.drw all L m left<|listed.setIfInBounds i true) [] n (F.seto oi.dst<|some ui) Hi:=IH _ _ _ _ _ _ _ (by rw[e1];exact λS w ρ a hr hi hF=>c S w ρ a hr hi hF);have g2:Go P K (fy P Q s) (.drw all L m left<|listed.setIfInBounds j true) [] n (F.seto oj.dst<|some uj) Hj:=IH _ _ _ _ _ _ _ (by rw[e2];exact λS w ρ a hr hi hF=>go_alike hal hpin c S w ρ a hr hi hF);exact bK (by rw[hrd];simp) hoi hoj hwi hwj xi xj g1 g2 S w ρ a hr hi hF
       ·exact hk2.elim
      ·exact hk2.elim
      ·exact hk2.elim
     ·exact hk.elim
     ·exact hk.elim
    ·exact h.elim
   ·exact h.elim
  ·exact h.elim
 ·exact h.elim
theorem wE:∀{R:YN} {i:Nat} {ps:List<|Nat×Operand} {v:V},xT T F all R=some (i,o,ps,v)->∃vs,qn F ps=some vs∧wK T all i vs=some (o,ps,v)
 |[],_,_,_,h=>by cases h
 | j ::r,i,ps,v,h=>by
  unfold xT at h;split at h
  ·rename_i hj;split at h
   ·rename_i vs hvs;split at h
    ·rename_i o' ps' v' hpb;simp only[aad,Prod.mk.injEq]at h;obtain⟨rfl,rfl,rfl,rfl⟩:=h;refine⟨vs,?_,hpb⟩;have :=hpb;unfold wK at this;rw[hj]at this;simp only at this
     repeat' (split at this)
     all_goals first
      |(cases this;done)
      |(simp only[fo,aad,Prod.mk.injEq]at this;obtain⟨_,rfl,_⟩:=this;exact hvs)
    ·exact wE h
   ·exact wE h
  ·exact wE h
theorem Qs (hT:TabOk P T) (hm:P.follows .mixedOrders=true) (IH:∀p s F H K Q n,nF P K Q n (ih p s F H)->Go P K Q p s n F H):∀(p:EP) (s:List EI) (F:Fm) (H:Hp),nF P K Q n (Nk T ih p s F H)->Go P K Q p s n F H
 | .code c,s,F,H,h=>by
  replace h:nF P K Q n (JR T ih c s F H):=h;unfold JR at h;split at h
  ·exact Nb<|IH _ _ _ _ _ _ _ h
  ·exact Gf<|IH _ _ _ _ _ _ _ h
  ·exact II<|IH _ _ _ _ _ _ _ h
  ·exact go_ret<|IH _ _ _ _ _ _ _ h
  ·exact IK<|IH _ _ _ _ _ _ _ h
  ·exact Oy<|IH _ _ _ _ _ _ _ h
  ·exact OE<|IH _ _ _ _ _ _ _ h
  ·exact go_loop 1000000 (IH _ _ _ _ _ _ _ h)
  ·split at h
   ·exact Fp ‹_› (IH _ _ _ _ _ _ _ h)
   ·exact Fc ‹_› (IH _ _ _ _ _ _ _ h)
   ·exact h.elim
  ·exact Ea<|IH _ _ _ _ _ _ _ h
  ·split at h
   ·rename_i hs;simp only[dK,fo]at h;exact IA _ _ _ rfl hm hs<|IH _ _ _ _ _ _ _ h
   ·exact h.elim
  ·exact h.elim
 | .ops all rest,s,F,H,h=>by
  replace h:nF P K Q n (Fy T ih all rest s F H):=h;unfold Fy at h;split at h
  ·exact Nc<|IH _ _ _ _ _ _ _ h
  ·split at h
   ·rw[Fm.puto_eq]at h;exact Lq ‹_› (IH _ _ _ _ _ _ _ h)
   ·obtain⟨u,H',hx,hk⟩:=vp (K:=K) (n:=n) hT IH (X:=nF P K Q n) (λ_ _ h=>h) h;rw[Fm.puto_eq]at hk;exact Rd ‹_› hx (IH _ _ _ _ _ _ _ hk)
   ·exact h.elim
 | .ex e,s,F,H,h=>by
  replace h:nF P K Q n (Le ih e s F H):=h;unfold Le at h;split at h
  ·split at h
   ·exact λS w ρ a hr hi hF=>h S w ρ a hr hi hF
   ·exact λS w ρ a hr hi hF=>h S w ρ a hr hi hF
   ·exact h.elim
  ·split at h
   ·exact Iy<|IH _ _ _ _ _ _ _ h
   ·exact Gc<|IH _ _ _ _ _ _ _ h
   ·exact Fk<|IH _ _ _ _ _ _ _ h
   ·exact h.elim
  ·split at h
   ·split at h
    ·exact h.elim
    ·exact go_xloop<|IH _ _ _ _ _ _ _ h
   ·exact go_xloopE<|IH _ _ _ _ _ _ _ h
   ·exact go_xloopR<|IH _ _ _ _ _ _ _ h
   ·exact h.elim
  ·split at h
   ·exact Ow<|IH _ _ _ _ _ _ _ h
   ·exact On<|IH _ _ _ _ _ _ _ h
   ·exact NL<|IH _ _ _ _ _ _ _ h
   ·exact h.elim
  ·split at h
   ·exact Hg<|IH _ _ _ _ _ _ _ h
   ·split at h
    ·exact GJ ‹_› (IH _ _ _ _ _ _ _ h)
    ·exact FP ‹_› (IH _ _ _ _ _ _ _ h)
   ·exact FG<|IH _ _ _ _ _ _ _ h
   ·exact h.elim
 | .drw all L m left listed,s,F,H,h=>by
  replace h:nF P K Q n (La T ih all L m left listed s F H):=h;unfold La at h;split at h
  ·exact GH ‹_› (IH _ _ _ _ _ _ _ h)
  ·rename_i i R hrd;cases left with
   |zero=>exact h.elim
   | succ left=>
    simp only[]at h;split at h
    ·split at h
     ·rename_i o ho;split at h
      ·rw[Fm.puto_eq]at h;exact go_d1S hrd ho ‹_› (IH _ _ _ _ _ _ _ h)
      ·obtain⟨u,H',hx,hk⟩:=vp (K:=K) (n:=n) hT IH (X:=nF P K Q n) (λ_ _ h=>h) h;rw[Fm.puto_eq]at hk;exact Rv hrd ho ‹_› hx (IH _ _ _ _ _ _ _ hk)
      ·exact h.elim
     ·exact h.elim
    ·split at h
     ·split at h
      ·rename_i o ho;split at h
       ·rename_i hc;simp only[aaa,Bool.not_eq_true']at hc;obtain⟨⟨hc1,hc2⟩,hc3⟩:=hc;split at h
        ·rw[Fm.puto_eq]at h;exact KF hc3 ho hc2 hc1 ‹_› (IH _ _ _ _ _ _ _ h)
        ·rename_i hw;split at h
         ·rename_i v hv;rw[Fm.puto_eq]at h;exact Pf hT hc3 ho hc2 hc1 hw hv<|IH _ _ _ _ _ _ _ h
         ·split at h
          ·rename_i id hid;split at h
           ·rename_i hL;simp only[aaa,Bool.not_eq_true']at hL;obtain⟨⟨hL1,hL2⟩,hL3⟩:=hL;split at h
            ·rename_i v ed hv;rw[Fm.puto_eq]at h;exact Ko hT hc3 hL2 hL3 ho hc2 hc1 hw hid hL1 hv<|IH _ _ _ _ _ _ _ h
            ·exact h.elim
           ·exact h.elim
          ·exact h.elim
        ·exact h.elim
       ·exact h.elim
      ·exact h.elim
     ·split at h
      ·rename_i i' o ps v hpo;rw[Fm.puto_eq]at h;obtain⟨vs,g1,g2⟩:=wE hpo;exact Mx g1<|HP hT IH g2 left listed _ _ h
      ·split at h
       ·exact Qe hT IH hrd h
       ·exact h.elim
theorem LS(G:TabOk P T)(J:P.follows .mixedOrders=true):∀(k:Nat) (p:EP) (s:List EI) (F:Fm) (H:Hp) (K:Ctx) (Q:Exit->Act->World->Prop) (n:Nat),nF P K Q n (run T k p s F H)->Go P K Q p s n F H
 |0,p,s,F,H,K,Q,n,h=>h
 |k+1,p,s,F,H,K,Q,n,h=>Qs G J (λp s F H K Q n h=>LS G J k p s F H K Q n h) p s F H h
def NK (T:Tab) (k:Nat) (fid:FuncId) (vs:List V) (H:Hp):Option (List V×Hp):=match T.fn fid with
 |some fn=>match fn.body with
  |some b=>match Nat.ble vs.length fn.ntmps with
   |true=>match run T k (.code b) [] (pN fn.ntmps vs) H with
    |.ok _ F1 H1=>match vW T H1.get F1 fn.results.toList with
     |some rs=>some (rs,H1)
     |none=>none
    |_=>none
   |false=>none
  |none=>none
 |none=>none
theorem PO(Z:TabOk P T)(hm:P.follows .mixedOrders=true){vs rs:List V}{H H1:Hp}(h:NK T k fid vs H=some (rs,H1)){w:World}{ρ:Nat->Option Value}{xs:List Value}(hr:HRel S w ρ H.get)(hx:LRel S w ρ vs xs):cw P fid=true∧
  Calls P fid xs.toArray w λe w'=>∃S' ρ' ys,e=.returned (rM ys)∧HRel S' w' ρ' H1.get∧Inv ⟨w,S,λb=>∃id,own ρ id (H.get id) b,ρ⟩ S' w' ρ' H1.get∧LRel S' w' ρ' rs ys:=by
 unfold NK at h;split at h
 ·rename_i fn hfn;obtain⟨hf,he⟩:=Z.fn _ _ hfn;split at h
  ·rename_i b hb;split at h
   ·rename_i hl;split at h
    ·rename_i e F1 H1' J;split at h
     ·rename_i rs' G;simp only[aad,Prod.mk.injEq]at h;obtain⟨rfl,rfl⟩:=h;refine⟨he,?_⟩;have hi1:Inv ⟨w,S,λb=>∃id,own ρ id (H.get id) b,ρ⟩ S w ρ H.get:=⟨ChgP.refl _ _,λ_ h=>h,λ_ h=>.inl h,λid b hb=>.inl ⟨id,hb⟩,λ_ _ h=>h⟩;refine Cb hf hb hl hr hi1 hx<|LS Z hm k _ _ _ _ _ _ _ ?_;rw[J];intro S' w' ρ' a' O hi' hF';obtain⟨rl,U⟩:∃l:List ResultVar,fn.results=l.toArray:=⟨fn.results.toList,by simp⟩;rw[U]at G;refine ret_go Z (rs:=rl) (by cases e<;>simp) U O hF' (by simpa using G) λx hvx=>?_;have hLR:=Jt hvx;obtain⟨ys,hys,rfl⟩:=hLR;exact⟨S',ρ',ys,I,O,hi',hys⟩
     ·cases h
    ·cases h
   ·cases h
  ·cases h
 ·cases h
end
def EX:List YB->List V->Bool
 |[],[]=>true
 |s::r,.str l::q=>lEq s l&&EX r q
 |_,_=>false
def Gu(ls:List YB):V->Bool
 |.nils=>ls.isEmpty
 |.row sz els=>Nat.beq sz 1&&EX ls els
 |_=>false
mutual
def treeB:Tree->V->Bool
 |.node k s ls ks,v=>match v with
  |.agg [.int .i64 k',.str s',l,r]=>iEq k k'&&lEq s s'&&Gu ls l&&(match r with
   |.nils=>ks.isEmpty
   |.row sz els=>Nat.beq sz 4&&kidsB ks els
   |_=>false)
  |_=>false
def kidsB:YT->List V->Bool
 |[],vs=>match vs with
  |[]=>true
  |_=>false
 |t::r,vs=>match vs with
  |v::q=>treeB t v&&kidsB r q
  |[]=>false
end
section
variable{S:Nat->Prop}{w:World}
theorem GW{ρ:Nat->Option Value}:∀{ls:List YB} {els:List V} {xs:List Value},EX ls els=true->CRel S w ρ 1 els xs->els.length=ls.length∧xs=ls.map gr
 |[],[],xs,_,G=>by simp only[CRel]at G;subst G;exact⟨rfl,rfl⟩
 |s::r,v::q,xs,hb,G=>by
  cases v<;>simp only[EX]at hb<;>first|(cases hb;done)|skip
  rename_i l;simp only[aaa]at hb;have J:=hb.1;rw[yr]at J;simp only[aaq]at J;subst J;simp only[CRel]at G;obtain⟨x,ys,rfl,_,O,U⟩:=G;simp only[VRel]at O;subst O;obtain⟨Z,h6⟩:=GW hb.2 U;exact⟨by simp[Z],by simp[h6,Value.cells]⟩
 |[],_::_,_,hb,_=>by cases hb
 |_::_,[],_,hb,_=>by cases hb
theorem Lw{ρ:Nat->Option Value}{ls:List YB}{v:V}{x:Value}(hb:Gu ls v=true)(hx:VRel S w ρ v x):∃A m,x=.slice A ls.length m∧ls.length<=m∧m<=maxLen∧RowIn S w 1 A ls.length (ls.map gr):=by
 cases v<;>simp only[Gu]at hb<;>first|(cases hb;done)|skip
 ·simp only[List.isEmpty_iff]at hb;subst hb;simp only[VRel]at hx;subst hx;exact⟨none,0,rfl,aaf _,by decide,RowIn.none_⟩
 ·rename_i sz els;simp only[aaa,Nat.beq_eq]at hb;obtain⟨rfl,hb⟩:=hb;simp only[VRel]at hx;obtain⟨A,c,xs,rfl,G,O,U,J⟩:=hx;obtain⟨Z,rfl⟩:=GW hb U;rw[Z]at G J⊢;exact⟨A,c,I,G,O,J⟩
mutual
theorem treeB_ok{ρ:Nat->Option Value}:∀{t:Tree} {v:V} {x:Value},treeB t v=true->VRel S w ρ v x->∃c,x=.agg c.toArray∧TreeIs S w t c
 | .node k s ls ks,v,x,hb,hx=>by
  unfold treeB at hb;split at hb
  ·rename_i k' s' l r;simp only[aaa]at hb;obtain⟨⟨⟨hb1,hb2⟩,hb3⟩,hb4⟩:=hb;rw[AG]at hb1;rw[yr]at hb2;simp only[aaq]at hb1 hb2;subst hb1 hb2;simp only[VRel]at hx;obtain⟨xs,rfl,hl⟩:=hx;simp only[LRel]at hl;obtain⟨x0,_,rfl,h0,x1,_,rfl,h1,x2,_,rfl,h2,x3,_,rfl,h3,rfl⟩:=hl;simp only[VRel]at h0 h1;subst h0 h1;obtain⟨A,m,rfl,g1,g2,g3⟩:=Lw hb3 h2;have kk:∃B n,x3=.slice B ks.length n∧ks.length<=n∧n<=maxLen∧∃cs,KidsAre S w ks cs∧RowIn S w 4 B ks.length cs:=by
    split at hb4
    ·simp only[List.isEmpty_iff]at hb4;subst hb4;simp only[VRel]at h3;subst h3;exact⟨none,0,rfl,aaf _,by decide,[],by simp only[KidsAre],RowIn.none_⟩
    ·rename_i sz els;simp only[aaa,Nat.beq_eq]at hb4;obtain⟨rfl,hb4⟩:=hb4;simp only[VRel]at h3;obtain⟨B,c,ys,rfl,q3,q4,q5,q6⟩:=h3;obtain⟨q7,q8⟩:=kidsB_ok hb4 q5;rw[q7]at q3 q6⊢;exact⟨B,c,rfl,q3,q4,ys,q8,q6⟩
    ·cases hb4
   obtain⟨B,n,rfl,k1,k2,cs,k3,k4⟩:=kk;exact⟨_,rfl,Dq g1 g2 k1 k2 g3 k3 k4⟩
  ·cases hb
theorem kidsB_ok{ρ:Nat->Option Value}:∀{ts:YT} {vs:List V} {xs:List Value},kidsB ts vs=true->CRel S w ρ 4 vs xs->vs.length=ts.length∧KidsAre S w ts xs
 |[],vs,xs,hb,hc=>by
  unfold kidsB at hb;split at hb
  ·simp only[CRel]at hc;subst hc;exact⟨rfl,by simp only[KidsAre]⟩
  ·cases hb
 | t::r,vs,xs,hb,hc=>by
  unfold kidsB at hb;split at hb
  ·rename_i v q;simp only[aaa]at hb;simp only[CRel]at hc;obtain⟨x,ys,rfl,_,h3,h4⟩:=hc;obtain⟨c,rfl,hT⟩:=treeB_ok hb.1 h3;obtain⟨h5,h6⟩:=kidsB_ok hb.2 h4;exact⟨by simp[h5],by simp only[KidsAre];exact⟨c,ys,by simp[Value.cells],hT,h6⟩⟩
  ·cases hb
end
end
def GO(T:Tab)(k:Nat)(fid:FuncId)(vs:List V):Option (List V):=match NK T k fid vs ⟨0,[]⟩with
 |some (rs,H1)=>FO 0 H1 rs λrs' _=>some rs'
 |none=>none
theorem zV(i:Nat):(⟨0,[]⟩:Hp).get i=.free:=by
 unfold Hp.get;have :Nat.blt i 0=false:=by cases i<;>rfl
 simp only[this]
theorem OT{w:World}(G:SOk S w):HRel S w (λ_=>none) (⟨0,[]⟩:Hp).get:=
 ⟨λi=>by rw[zV];rfl,λi b hb=>by rw[zV]at hb;exact hb.elim,λi j b hb _=>by rw[zV]at hb;exact hb.elim,G⟩
theorem Px{P:Program}{T:Tab}(Z:TabOk P T)(hm:P.follows .mixedOrders=true){vs rs:List V}(h:GO T k fid vs=some rs){w:World}{xs:List Value}(hg:SOk S w)(hx:LRel S w (λ_=>none) vs xs):
  Calls P fid xs.toArray w λe w'=>∃S' ρ' ys,e=.returned (rM ys)∧SOk S' w'∧(∀b,S b->S' b)∧(∀b,S' b->S b∨w.heap.size<=b)∧Chg [] w w'∧LRel S' w' ρ' rs ys:=by
 unfold GO at h;split at h
 ·rename_i O H1 G;obtain⟨rs2,H2,e1,_,e3⟩:=DB 0 O H1;rw[e1]at h;injection h with h;subst h
  refine(PO Z hm G (OT hg) hx).2.mono λe w' hR=>?_;obtain⟨S',ρ',ys,rfl,hr,hi,hl⟩:=hR;obtain⟨S2,a1,U,a3,a4⟩:=e3 _ S' w' ρ' ys hr hi hl;have J:∀b,¬∃id,own (λ_=>none) id ((⟨0,[]⟩:Hp).get id) b:=λb ⟨id,hb⟩=>by rw[zV]at hb;exact hb
  refine⟨S2,ρ',ys,I,a1.slt,U.s0,λb hb=>?_,⟨hi.chg.os,hi.chg.tape,hi.chg.output,hi.chg.size,λb hb _=>hi.chg.block b hb<|J b⟩,a4⟩;rcases U.s1 b hb with h|h|h
  ·exact .inl h
  ·exact absurd h<|J b
  ·exact .inr h
 ·cases h
def Og(fid:FuncId)(vs:List V):Option V:=match Nat.beq fid 120 with
 |true=>match vs with
  |[.str s,.int .u8 (.ofNat c)]=>KE (Lib.indexByte s c.toUInt8) λn=>some<|.int .i64 n
  |_=>none
 |false=>none
noncomputable def Kb:Tab:=⟨true,tI tyL,tI fnL,Og,λf=>Nat.beq f 47⟩
theorem Qu:TabOk prog Kb:=by
 refine⟨LX,RV,λi vs v hv=>?_⟩;replace hv:Og i vs=some v:=hv;unfold Og at hv;split at hv
 ·rename_i hb;have :=aag hb;subst this;split at hv
  ·rename_i s c;rw[Jp]at hv;injection hv with hv;subst hv
   refine⟨by kernel_rfl,λS w ρ xs hx=>?_⟩;simp only[LRel]at hx;obtain⟨J,_,rfl,G,O,_,rfl,h1,rfl⟩:=hx;simp only[VRel]at G h1;subst G h1;exact⟨_,by simp only[VRel];rfl,KL _ _ _⟩
  ·cases hv
 ·cases hv
def AW(t:Tree):Option (List V)->Bool
 |some [v,.int .i64 a,.int .i64 e]=>treeB t v&&iEq a 0&&iEq e 0
 |_=>false
theorem MI{l:YB}(h:AW t (GO Kb k 20 [.str l])=true){w:World}(hg:SOk S w):Calls prog 20 [gr l].toArray w λe w'=>∃S' c0 G J O,e=.returned (.tuple #[.agg #[c0,G,J,O],.int .i64 0,.int .i64 0])∧SOk S' w'∧(∀b,S b->S' b)∧(∀b,S' b->S b∨w.heap.size<=b)∧TreeIs S' w' t [c0,G,J,O]∧Chg [] w w':=by
 unfold AW at h;split at h
 ·rename_i v a e hr;simp only[aaa,AG,aaq]at h;obtain⟨⟨h1,rfl⟩,rfl⟩:=h;refine(Px Qu (by kernel_rfl) hr hg (xs:=[gr l]) ⟨_,[],rfl,by simp only[VRel],rfl⟩).mono λe w' hR=>?_;obtain⟨S',ρ',ys,rfl,g0,g1,g2,g4,Z⟩:=hR;simp only[LRel]at Z;obtain⟨x0,_,rfl,h0,x1,_,rfl,h2,x2,_,rfl,h3,rfl⟩:=Z;simp only[VRel]at h2 h3;subst h2 h3;obtain⟨c,rfl,U⟩:=treeB_ok h1 h0;have h4:=U.four
  match c,h4,U with
  |[c0,G,J,O],_,U=>exact⟨S',c0,G,J,O,rfl,g0,g1,g2,U,g4⟩
 ·cases h
section
variable{S:Nat->Prop}{w:World}{ρ:Nat->Option Value}
theorem Fs:∀ls:List YB,CRel S w ρ 1 (ls.map .str) (ls.map gr)
 |[]=>by simp[CRel]
 |s::r=>by simp only[aal,CRel];exact⟨gr s,r.map gr,by simp[Value.cells,gr],⟨rfl,rfl⟩,by unfold VRel;rfl,Fs r⟩
theorem GU:∀ls:YI,CRel S w ρ 1 (ls.map<|V.int .i64) (ls.map λz=>.int .i64 z)
 |[]=>by simp[CRel]
 |s::r=>by simp only[aal,CRel];exact⟨.int .i64 s,_,by simp[Value.cells],⟨rfl,rfl⟩,by unfold VRel;rfl,GU r⟩
mutual
theorem TreeIs.vrel:∀{ρ:Nat->Option Value} {t:Tree} {c:List Value},TreeIs S w t c->LRel S w ρ (ak t) c
 |ρ,.node k s ls ks,c,h=>by simp only[TreeIs]at h;obtain⟨A,m,B,n,rfl,h1,h2,h3,h4,h5,cs,h6,h7⟩:=h;simp only[ak,Tree.kind,Tree.text,Tree.leads,Tree.kids,LRel,VRel];exact⟨_,_,rfl,rfl,_,_,rfl,rfl,_,_,rfl,⟨A,m,_,by simp,by simpa using h1,h2,Fs ls,by simpa using h5⟩,_,_,rfl,⟨B,n,cs,by simp[mA],by simpa[mA]using h3,h4,KidsAre.crel h6,by simpa[mA]using h7⟩,rfl⟩
theorem KidsAre.crel:∀{ρ:Nat->Option Value} {ts:YT} {cs:List Value},KidsAre S w ts cs->CRel S w ρ 4 (kidsV ts) cs
 |ρ,[],cs,h=>by simp only[KidsAre]at h;simp only[kidsV,CRel];exact h
 |ρ,t::r,cs,h=>by simp only[KidsAre]at h;obtain⟨c,d,rfl,h1,h2⟩:=h;simp only[kidsV,CRel,nc];exact⟨.agg c.toArray,d,by simp[Value.cells],⟨by simp[Value.cells,h1.four],by simpa[Value.cells]using h1.one⟩,by simp only[VRel];exact⟨c,rfl,h1.vrel⟩,KidsAre.crel h2⟩
end
end
theorem PI{l:YB}(h:AW t (GO Kb k 20 [.str l])=true):ut prog 20 [.str l] (.tup [.agg<|ak t,.int .i64 0,.int .i64 0]):=by
 refine⟨I,I,λS w ρ xs hr hx=>?_⟩;simp only[LRel,VRel]at hx;obtain⟨x,ys,rfl,rfl,rfl⟩:=hx;refine(MI h hr.slt).mono ?_;rintro e w' ⟨S',c0,G,J,O,rfl,Z,g1,g2,hT,U⟩;have g:=hr.chg0 U;refine⟨_,S',ρ,_,⟨0,[]⟩,I,I,⟨λi=>?_,λi b hb=>?_,λi j b hb _=>?_,Z⟩,⟨ChgP.of0 U,g1,λb hb=>(g2 b hb).elim .inl λh=>.inr<|.inr h,λid b hb=>.inl ⟨id,hb⟩,λid x h=>?_⟩,?_⟩
 ·have :=g.ob i;rw[zV]at this⊢;exact this
 ·rw[zV]at hb;exact hb.elim
 ·rw[zV]at hb;exact hb.elim
 ·simp only[xt]at h;split at h
  ·exact h
  ·cases h
 ·have hk:=TreeIs.vrel (ρ:=ρ) hT;simp only[VRel];exact⟨[.agg #[c0,G,J,O],.int .i64 0,.int .i64 0],rfl,.agg #[c0,G,J,O],_,rfl,by simp only[VRel];exact⟨_,rfl,hk⟩,_,_,rfl,by simp only[VRel],_,_,rfl,by simp only[VRel],rfl⟩
theorem Jy{c:CKr}{n:Nat}(G:c.result_lists=(n:Int))(hb:n<=1000000000):∀(k:Nat) (z:Int) (ks:YT) (i:Nat),i+k=n->so (k+1) c z ks i (bY k<|.node z [] [] ks) 0
 |0,z,ks,i,h=>zE 0 _ _ _ _ _ _ (⟨λh'=>absurd h' (by rw[G];omega),λ_=>⟨rfl,rfl⟩⟩)
 |k+1,z,ks,i,h=>by have :=Jy G hb k 8 [.node z [] [] ks] (i+1) (by omega);rw[By]at this;exact zE (k+1) _ _ _ _ _ _ (⟨λ_=>⟨by omega,this⟩,λh'=>absurd (by rw[G];omega) h'⟩)
def ofN(s:Sv):Tree×Int:=if s.rs=0 then(.node 0 [] [] [],20)else(bY s.rl.toNat<|.node s.rs [] [] [],0)
theorem Uy(G:bk p=true)(hb:kbulk p<=10000000)(U:p[m]?=some t)(J:oD t q u true)(hu:dT u.kind=true):∃nm,pP p nm∧∀n:Nat,(gm p nm (m:Int) q).rl=(n:Int)->n<=1000000000->jy p ⟨(m:Int),q⟩ (ofN<|gm p nm (m:Int) q).1 (ofN<|gm p nm (m:Int) q).2:=by
 obtain⟨nm,h1,h2⟩:=vP G hb;obtain⟨_,z,h3⟩:=JX G hb nm (m:Int) q;have hk:10<=u.kind∧u.kind<=22∧u.kind≠17:=by simpa[dT]using hu
 have hlt:m<p.length:=(List.getElem?_eq_some_iff.1 U).1;refine⟨nm,h1,λn Z O=>?_⟩;refine jO (n+2) _ _ _ _ (⟨_,sv p (by omega),λh=>(by rw[G]at h;cases h),λ_=>⟨λh=>absurd h (by simp),λ_=>⟨λh=>absurd h (by simp only;omega),λ_=>⟨m,rfl,t,U,u,true,J,?_⟩⟩⟩⟩);refine qx (n+1) _ _ _ _ _ _ (⟨λh=>(by cases h),λ_=>⟨λh=>absurd h (by omega),λ_=>⟨λh=>absurd h (by omega),λ_=>⟨λh=>absurd h hk.2.2,λ_=>⟨_,h2,_,h3,λh=>?_,λh=>?_⟩⟩⟩⟩⟩)
 ·have h':(gm p nm (m:Int) q).rs=0:=h;unfold ofN;rw[if_pos h'];exact⟨rfl,rfl⟩
 ·have h':¬(gm p nm (m:Int) q).rs=0:=h;unfold ofN;rw[if_neg h',Z];exact Jy Z O n _ [] 0 (by omega)
def SZ:YB:=[109,111,100,117,108,101,32,77,32,100,101,102,32,102,40,41,58,32,73,110,116,32,61,32,49,32,43,32,34,97,34,32,100,101,102,32,103,40,120,58,32,66,111,111,108,41,58,32,73,110,116,32,61,32,105,102,32,120,32,116,104,101,110,32,49,32,101,108,115,101,32,103,40,41]
def pS:Tree:=(RR SZ).1
end Go.Proofs.YtomplbgchbfjpaaGreatDoor
