/- Contracts of the functions that the law reaches, part 6. -/
import Derived.Test.YtomplbgchbfjpaaGreatDoorTr5
set_option linter.unusedVariables false
set_option linter.unusedSimpArgs false
namespace Go.Proofs.YtomplbgchbfjpaaGreatDoor
open _root_.Go.Proofs.Tryz
open Go.RowKit Lx Sx
set_option maxRecDepth 100000
set_option maxHeartbeats 1000000
abbrev Ty:=ae
abbrev Bd:=aj
def lfT(k:Int)(n:Nat):Tree:=bF n (.node k [] [] [])
def noY:Ty:=⟨false,.node 0 [] [] []⟩
def TyR(k:Kn)(y:Ty):Prop:=(k.simple=0∧y.Known=false)∨(y.Known=true∧5≤k.simple∧k.simple≤7∧∃n:Nat,k.lists=(n:Int)∧y.T=lfT k.simple n)
theorem TyR.no:TyR ⟨0,0⟩ noY:=.inl ⟨rfl,rfl⟩
variable{k:Int}
theorem TyR.leaf(h1:5≤k)(h2:k≤7):TyR ⟨k,0⟩ ⟨true,.node k [] [] []⟩:=.inr ⟨rfl,h1,h2,0,rfl,rfl⟩
theorem TyR.known{k:Kn}{y:Ty}(h:TyR k y):y.Known=(k.simple !=0):=by
 rcases h with⟨h1,h2⟩|⟨h1,h2,_⟩
 ·rw[h2,h1];rfl
 ·rw[h1];have :k.simple≠0:=by omega
  simp[this]
theorem TyR.kn{k:Kn}{y:Ty}(h:TyR k y)(hy:y.Known=true):k.simple≠0:=by
 have :=h.known;rw[hy]at this;simpa using this.symm
theorem TyR.un{k:Kn}{y:Ty}(h:TyR k y)(hy:y.Known=false):k.simple=0:=by
 have :=h.known;rw[hy]at this;simpa using this.symm
theorem zq{k k':Int}(h8:k≠8)(h8':k'≠8):∀n n':Nat,dc (lfT k n) (lfT k' n') (decide (k=k'∧n=n'))
 | 0,0=>by
  by_cases e:k=k'
  ·subst e;exact gq 1 _ _ _ (⟨λh=>absurd rfl h,λ_=>⟨λh=>absurd rfl h,λ_=>⟨_,xd [],λh=>(by cases h),λ_=>⟨λh=>absurd rfl h,λ_=>lf 0 _ _ _ _ (⟨λh=>by simp[lfT,bF,Tree.kids]at h,λ_=>by simp⟩)⟩⟩⟩⟩)
  ·exact gq 0 _ _ _ (⟨λ_=>by simp[e],λh=>absurd h e⟩)
 |0,n'+1=>gq 0 _ _ _ (⟨λ_=>by simp,λh=>absurd h h8⟩)
 |n+1,0=>gq 0 _ _ _ (⟨λ_=>by simp,λh=>absurd h.symm h8'⟩)
 |n+1,n'+1=>by
  have h2:=zq h8 h8' n n';have e:decide (k=k'∧n+1=n'+1)=decide (k=k'∧n=n'):=by simp
  rw[e];refine gq 2 _ _ _ (⟨λh=>absurd rfl h,λ_=>⟨λh=>absurd rfl h,λ_=>⟨_,xd [],λh=>(by cases h),λ_=>⟨λh=>absurd rfl h,λ_=>lf 1 _ _ _ _ (⟨λ_=>⟨_,rfl,_,rfl,_,h2,λh=>h.symm,λh=>?_⟩,λh=>by simp[lfT,bF,Tree.kids]at h⟩)⟩⟩⟩⟩);exact lf 0 _ _ _ _ (⟨λh=>by simp[lfT,bF,Tree.kids]at h,λ_=>h.symm⟩)
variable{a b:Kn}
theorem lF{y z:Ty}(O:TyR a y)(hb:TyR b z):bh y z (aS a b):=by
 refine uc 0 _ _ _ (⟨λh1=>⟨λh2=>?_,λh2=>?_⟩,λh1=>?_⟩)
 ·rcases O with⟨_,h⟩|⟨_,a1,a2,n,Z,a4⟩
  ·rw[h]at h1;cases h1
  rcases hb with⟨_,h⟩|⟨_,b1,b2,G,b3,b4⟩
  ·rw[h]at h2;cases h2
  refine⟨_,by rw[a4,b4];exact zq (by omega) (by omega) n G,?_⟩;have e1:(a.simple !=0)=true:=by simp;omega
  have e2:(b.simple !=0)=true:=by simp;omega
  unfold aS;rw[e1,e2,Z,b3];by_cases J:a.simple=b.simple
  ·by_cases U:n=G
   ·simp[J,U]
   ·have :¬((n:Int)=(G:Int)):=by omega
    simp[J,U,this]
  ·simp[J]
 ·simp[aS,hb.un h2]
 ·simp[aS,O.un h1]
theorem ik(k:Int):bd k ⟨true,.node k [] [] []⟩:=uy 0 _ _ (rfl)
theorem sT{y:Ty}(G:TyR a y)(h1:5≤k)(h2:k≤7):cG y k (a.simple==k&&a.lists==0):=by
 refine wZ 0 _ _ _ (⟨λh=>?_,λh=>?_⟩)
 ·rcases G with⟨_,h'⟩|⟨_,a1,Z,n,J,O⟩
  ·rw[h']at h;cases h
  rw[O,J];cases n with
  |zero=>simp[lfT,bF,Tree.kind]
  |succ n=>
   have e:¬(8=k):=by omega
   have U:¬((n+1:Nat):Int)=0:=by omega
   show(8==k)=(a.simple==k&&((n+1:Nat):Int)==0);rw[beq_eq_false_iff_ne.2 e,beq_eq_false_iff_ne.2 U,Bool.and_false]
 ·have :=G.un h;have e:¬(0=k):=by omega
  rw[this,beq_eq_false_iff_ne.2 e,Bool.false_and]
theorem BJ{p:List Tree}(hp:aR p=true)(k:Nat):∀(f:Nat) (seen:List (Int×Int)) (n:Nat) (M:Int) (u:Tree),mx p seen→kbulk p+1≤f+seen.length→tyK u→u.kind≠8→
  (dC p f seen (k+n) M u).2=(dC p f seen n M u).2∧((dC p f seen n M u).2=0→(dC p f seen (k+n) M u).1=bF k (dC p f seen n M u).1)
 |0,seen,n,M,u,hs,hf,_,_=>by
  have :=mq hs;omega
 | f +1,seen,n,M,u,hs,hf,hu,h8=>by
  by_cases h9:u.kind=9
  ·rw[dC,dC,if_pos h9,if_pos h9];by_cases hfd:(aT p M u.text).2.2=false
   ·rw[if_pos hfd,if_pos hfd];exact⟨rfl,λh=>(by cases h)⟩
   ·rw[if_neg hfd,if_neg hfd];have hfd':(aT p M u.text).2.2=true:=by simpa using hfd
    obtain⟨i,d,t,a,b',g1,g2,g3,g4,g5,g6,g7⟩:=oF hp h9 hu.1 hfd';rw[g1,g2];by_cases hm:((i:Int),(d:Int))∈seen
    ·rw[if_pos hm,if_pos hm];exact⟨rfl,λh=>(by cases h)⟩
    ·rw[if_neg hm,if_neg hm,pu g3 g4 g6];obtain⟨t1,t2,t3⟩:=kw b' g7;have :=BJ hp k f (((i:Int),(d:Int))::seen) (n+lisK b') i (leafK b') (lH hs g3 g4 hm) (by simp only[List.length_cons];omega) t1 t2;rw[←Nat.add_assoc]at this;exact this
  ·rw[dC,dC,if_neg h9,if_neg h9];exact⟨rfl,λ_=>(tl _ _ _).symm⟩
def wrY(p:List Tree)(m:Int)(t:Tree):Ty:=⟨(dC p (kbulk p+1) [] (lisK t) m (leafK t)).2==0,(dC p (kbulk p+1) [] (lisK t) m (leafK t)).1⟩
variable{p:List Tree}{t:Tree}
theorem wj(G:aR p=true)(hb:kbulk p≤10000000){m:Int}(J:0≤m)(h1:m<p.length)(ht:tyK t)(O:tbulk t≤10000000){c:CHr}(U:c.P=p):aX c m t (wrY p m t) c:=by
 obtain⟨Z,l2,l3⟩:=kw t ht;obtain⟨b1,b2⟩:=jJ t;have hx:=iT (leafK t);obtain⟨M,hM⟩:=BL G hb (kbulk p+1) [] [] (lisK t) m (leafK t) ⟨List.nodup_nil,by simp⟩ (by simp) (by simp) rfl Z l2 J h1 (by omega);have hbare:=Iq t (by omega);rw[l3]at hbare;exact pw 1 _ _ _ _ _ (⟨_,_,by rw[U];exact uS M _ _ _ _ _ (⟨_,hbare,hM⟩),pd 0 _ _ _ _ _ (⟨rfl,rfl⟩)⟩)
theorem zi(Z:aR p=true){m:Int}(h0:0≤m)(h1:m<p.length)(ht:tyK t):TyR (tyN p m t) (wrY p m t):=by
 obtain⟨G,l2,l3⟩:=kw t ht;have hk:5≤(leafK t).kind∧(leafK t).kind≤9:=by simpa[fX]using G.2
 obtain⟨e1,e2⟩:=iQ l2;by_cases O:(leafK t).kind=9
 ·have hx:=CG (p:=p) (m:=m) G O;have hg:mK p m (leafK t)=dC p (kbulk p+1) [] 0 m (leafK t):=by
   unfold mK;rw[if_pos ⟨Z,h0,h1,G.2,G.1⟩,e1,e2]
  have U:=BJ Z (lisK t) (kbulk p+1) [] 0 m (leafK t) ⟨List.nodup_nil,by simp⟩ (by simp) G l2;rw[show lisK t+0=lisK t from rfl,←hg,hx]at U;obtain⟨f1,f2,f3⟩:=zC p m (leafK t).text;unfold tyN wrY;rw[if_pos O,U.1];by_cases J:(mK p m (.node 9 (leafK t).text [] [])).2=0
  ·obtain⟨n,k,g1,g2,g3,g4,g5⟩:=f3 J;rw[U.2 J,g1,g4,if_neg (by simp only;omega),J,tl];exact .inr ⟨rfl,g2,g3,lisK t+n,by simp only;omega,rfl⟩
  ·have e:nmK p m (leafK t).text=⟨0,0⟩:=by unfold nmK;rw[if_neg J]
   rw[e,if_pos rfl];exact .inl ⟨rfl,by simpa using J⟩
 ·unfold tyN wrY;rw[if_neg O,dC,if_neg O];exact .inr ⟨rfl,hk.1,by simp only[knK];omega,lisK t,rfl,rfl⟩
abbrev FE:=ac
def iy(a b:Int):Int:=if a<b then-1 else if b<a then 1 else 0
def cR:List Int→List Int→Int
 |[],[]=>0
 |[],_::_=>-1
 |_::_,[]=>1
 |a::r,b::s=>if iy a b≠0 then iy a b else cR r s
def ii(a b:FE):Int:=if iy a.At.Module b.At.Module≠0 then iy a.At.Module b.At.Module else if cR a.At.Path b.At.Path≠0 then cR a.At.Path b.At.Path else iy a.Kind b.Kind
theorem ifz{c d:Int}(h:c=0):(if c≠0 then c else d)=d:=if_neg (by simp[h])
theorem ifn{c d:Int}(h:c≠0):(if c≠0 then c else d)=c:=if_pos h
structure Tot {α:Type} (c:α→α→Int):Prop where
 eq:∀a b,c a b=0↔a=b
 an:∀a b,c a b<0↔0<c b a
 tr:∀a b d,c a b<0→c b d<0→c a d<0
theorem qz:Tot iy:=⟨λa b=>by unfold iy;split<;>(try split)<;>omega,λa b=>by unfold iy;(repeat' split)<;>omega,λa b d=>by unfold iy;(repeat' split)<;>omega⟩
theorem Eg:∀a b:List Int,cR a b=0↔a=b
 |[],[]=>by simp[cR]
 |[],_::_=>by simp[cR]
 |_::_,[]=>by simp[cR]
 | a::r,b::s=>by
  simp only[cR,List.cons.injEq];have h1:=qz.eq a b;have h2:=Eg r s;split
  ·rename_i h;exact⟨λe=>absurd e h,λe=>absurd (h1.2 e.1) h⟩
  ·rename_i h;have h':iy a b=0:=Decidable.not_not.1 h;exact⟨λe=>⟨h1.1 h',h2.1 e⟩,λe=>h2.2 e.2⟩
theorem Et:∀a b:List Int,cR a b<0↔0<cR b a
 |[],[]=>by simp[cR]
 |[],_::_=>by simp[cR]
 |_::_,[]=>by simp[cR]
 | a::r,b::s=>by
  have h1:=qz.an a b;have h2:=qz.eq a b;have h3:=qz.eq b a;have h4:=Et r s;simp only[cR];by_cases h:a=b
  ·subst h;rw[ifz (h2.2 rfl),ifz (h2.2 rfl)];exact h4
  ·rw[ifn (λe=>h (h2.1 e)),ifn (λe=>h (h3.1 e).symm)];exact h1
theorem EF:∀a b d:List Int,cR a b<0→cR b d<0→cR a d<0
 |[],[],d,h,_=>by simp[cR]at h
 |[],_::_,[],_,h=>by simp[cR]at h
 |[],_::_,_::_,_,_=>by simp[cR]
 |_::_,[],d,h,_=>by simp[cR]at h
 |_::_,_::_,[],_,h=>by simp[cR]at h
 | a::r,b::s,d::t,h,k=>by
  simp only[cR]at h k⊢;have h1:=qz.eq a b;have h2:=qz.eq b d;have h3:=qz.eq a d;have h4:=qz.tr a b d;by_cases e:a=b
  ·subst e;rw[ifz (h1.2 rfl)]at h;by_cases e2:a=d
   ·subst e2;rw[ifz (h1.2 rfl)]at k⊢;exact EF r s t h k
   ·rw[ifn (λx=>e2 (h3.1 x))]at k⊢;exact k
  ·rw[ifn (λx=>e (h1.1 x))]at h;by_cases e2:b=d
   ·subst e2;rw[ifn (λx=>e (h1.1 x))];exact h
   ·rw[ifn (λx=>e2 (h2.1 x))]at k;have :=h4 h k;rw[ifn (c:=iy a d) (by omega)];exact this
theorem Ps:Tot cR:=⟨Eg,Et,EF⟩
theorem qp:Tot ii:=by
 have z:=qz;have l:=Ps;refine⟨λa b=>?_,λa b=>?_,λa b d=>?_⟩
 ·obtain⟨⟨m,p⟩,k⟩:=a;obtain⟨⟨m',p'⟩,k'⟩:=b;simp only[ii,ac.mk.injEq,bw.mk.injEq];have h1:=z.eq m m';have h2:=l.eq p p';have h3:=z.eq k k';by_cases e1:iy m m'=0
  ·rw[ifz e1];by_cases e2:cR p p'=0
   ·rw[ifz e2];exact⟨λe=>⟨⟨h1.1 e1,h2.1 e2⟩,h3.1 e⟩,λe=>h3.2 e.2⟩
   ·rw[ifn e2];exact⟨λe=>absurd e e2,λe=>absurd (h2.2 e.1.2) e2⟩
  ·rw[ifn e1];exact⟨λe=>absurd e e1,λe=>absurd (h1.2 e.1.1) e1⟩
 ·simp only[ii];have h1:=z.eq a.At.Module b.At.Module;have h1':=z.eq b.At.Module a.At.Module;have h2:=l.eq a.At.Path b.At.Path;have h2':=l.eq b.At.Path a.At.Path;have g1:=z.an a.At.Module b.At.Module;have g2:=l.an a.At.Path b.At.Path;have g3:=z.an a.Kind b.Kind;by_cases e1:a.At.Module=b.At.Module
  ·rw[ifz (h1.2 e1),ifz (h1'.2 e1.symm)];by_cases e2:a.At.Path=b.At.Path
   ·rw[ifz (h2.2 e2),ifz (h2'.2 e2.symm)];exact g3
   ·rw[ifn (λe=>e2 (h2.1 e)),ifn (λe=>e2 (h2'.1 e).symm)];exact g2
  ·rw[ifn (λe=>e1 (h1.1 e)),ifn (λe=>e1 (h1'.1 e).symm)];exact g1
 ·simp only[ii];have h1:=z.eq a.At.Module b.At.Module;have h2:=z.eq b.At.Module d.At.Module;have h3:=z.eq a.At.Module d.At.Module;have p1:=l.eq a.At.Path b.At.Path;have p2:=l.eq b.At.Path d.At.Path;have p3:=l.eq a.At.Path d.At.Path;have t1:=z.tr a.At.Module b.At.Module d.At.Module;have t2:=l.tr a.At.Path b.At.Path d.At.Path;have t3:=z.tr a.Kind b.Kind d.Kind;intro h k;by_cases e1:a.At.Module=b.At.Module
  ·rw [ifz (h1.2 e1)]at h;by_cases e2:b.At.Module=d.At.Module
   ·rw[ifz (h2.2 e2)]at k;rw[ifz (h3.2 (e1.trans e2))];by_cases f1:a.At.Path=b.At.Path
    ·rw[ifz (p1.2 f1)]at h;by_cases f2:b.At.Path=d.At.Path
     ·rw[ifz (p2.2 f2)]at k;rw[ifz (p3.2 (f1.trans f2))];exact t3 h k
     ·rw[ifn (λe=>f2 (p2.1 e))]at k;rw[f1,ifn (λe=>f2 (p2.1 e))];exact k
    ·rw[ifn (λe=>f1 (p1.1 e))]at h;by_cases f2:b.At.Path=d.At.Path
     ·rw[←f2,ifn (λe=>f1 (p1.1 e))];exact h
     ·rw[ifn (λe=>f2 (p2.1 e))]at k;have :=t2 h k;rw[ifn (c:=cR a.At.Path d.At.Path) (by omega)];exact this
   ·rw[ifn (λe=>e2 (h2.1 e))]at k;rw[e1,ifn (λe=>e2 (h2.1 e))];exact k
  ·rw[ifn (λe=>e1 (h1.1 e))]at h;by_cases e2:b.At.Module=d.At.Module
   ·rw[←e2,ifn (λe=>e1 (h1.1 e))];exact h
   ·rw[ifn (λe=>e2 (h2.1 e))]at k;have :=t1 h k;rw[ifn (c:=iy a.At.Module d.At.Module) (by omega)];exact this
def leE(a b:FE):Prop:=¬ii b a<0
theorem mt{a b:FE}(h:ii a b<0):leE a b:=λk=>by have :=(qp.an a b).1 h;omega
theorem xQ(a:FE):leE a a:=λh=>by have :=(qp.eq a a).2 rfl;omega
theorem BR{a b:FE}(h:leE a b)(k:leE b a):a=b:=by
 have h1:=qp.an a b;have h2:=qp.an b a;unfold leE at h k;exact(qp.eq a b).1 (by omega)
theorem kL{a b d:FE}(h:leE a b)(k:leE b d):leE a d:=by
 by_cases G:a=b
 ·rw[G];exact k
 by_cases J:b=d
 ·rw[←J];exact h
 have h1:=qp.an a b;have h2:=qp.an b a;have Z:=qp.an b d;have h4:=qp.an d b;have O:=qp.eq a b;have U:=qp.eq b d;unfold leE at h k;exact mt (qp.tr a b d (by have :ii a b≠0:=λe=>G (O.1 e);omega) (by have :ii b d≠0:=λe=>J (U.1 e);omega))
abbrev cq(l:List FE):Prop:=l.Pairwise leE
theorem vi:∀{a b:List FE},cq a→cq b→a.Perm b→a=b
 |[],b,_,_,h=>(List.Perm.nil_eq h)
 |x::r,[],_,_,h=>by have :=h.length_eq;simp at this
 | x::r,y::s,ha,hb,h=>by
  rw[cq,List.pairwise_cons]at ha hb;have e:x=y:=by
   have hx:x∈y::s:=h.mem_iff.1 (by simp);have hy:y∈x::r:=h.mem_iff.2 (by simp);rcases List.mem_cons.1 hx with hx|hx
   ·exact hx
   ·rcases List.mem_cons.1 hy with hy|hy
    ·exact hy.symm
    ·exact BR (ha.1 y hy) (hb.1 x hx)
  subst e;rw[vi ha.2 hb.2 (List.Perm.cons_inv h)]
theorem Cw(a b:Int):lC a b (iy a b):=by
 have G:∀z,pR z false:=λz=>BC 0 _ _ (by simp);unfold iy;refine zQ 0 _ _ _ (⟨_,G a,_,G b,λh=>(by cases h),λ_=>⟨λh=>(by cases h),λ_=>⟨λh=>?_,λh=>⟨λh'=>?_,λh'=>?_⟩⟩⟩⟩)
 ·rw[if_pos h]
 ·rw[if_neg h,if_pos h']
 ·rw[if_neg h,if_neg h']
theorem lG{α:Type}(l:List α)(i:Nat):(∃x r,l.drop i=x::r∧l[i]?=some x∧l.drop (i+1)=r∧i<l.length)∨(l.drop i=[]∧l.length≤i):=by
 by_cases h:i<l.length
 ·exact .inl ⟨l[i],l.drop (i+1),List.drop_eq_getElem_cons h,List.getElem?_eq_getElem h,rfl,h⟩
 ·exact .inr ⟨List.drop_of_length_le (by omega),by omega⟩
theorem MP(p q:List Int)(hp:p.length≤1000000000):nO p q (cR p q):=by
 have loop:∀k i,p.length-i≤k→i≤p.length→ke (k+1) p q i (cR (p.drop i) (q.drop i)):=λk=>by
  induction k with
  | zero=>
   intro i hi hip;have e:p.drop i=[]:=List.drop_of_length_le (by omega);rw[e];refine mB 0 _ _ _ _ (⟨λh=>absurd h (by omega),λ_=>⟨λh=>?_,λh=>?_⟩⟩)
   ·rcases lG q i with⟨x,r,e1,_⟩|⟨e1,e2⟩
    ·rw[e1];rfl
    ·omega
   ·rcases lG q i with⟨x,r,e1,_,_,e2⟩|⟨e1,e2⟩
    ·omega
    ·rw[e1];rfl
  | succ k ih=>
   intro i hi hip;rcases lG p i with⟨x,r,e1,e2,e3,e4⟩|⟨e1,e2⟩
   ·refine mB (k+1) _ _ _ _ (⟨λh=>⟨x,e2,λh'=>?_,λh'=>?_⟩,λh=>absurd e4 h⟩)
    ·have :q.drop i=[]:=List.drop_of_length_le h';rw[e1,this];rfl
    ·rcases lG q i with⟨y,s,g1,g2,g3,g4⟩|⟨g1,g2⟩
     ·refine⟨y,g2,_,Cw x y,λhz=>?_,λhz=>⟨by omega,?_⟩⟩
      ·rw[e1,g1,cR,ifn hz]
      ·rw[e1,g1,cR,ifz hz,←e3,←g3];exact ih (i+1) (by omega) (by omega)
     ·omega
   ·rw[e1];refine mB (k+1) _ _ _ _ (⟨λh=>absurd h (by omega),λ_=>⟨λh=>?_,λh=>?_⟩⟩)
    ·rcases lG q i with⟨y,s,g1,_⟩|⟨g1,g2⟩
     ·rw[g1];rfl
     ·omega
    ·rcases lG q i with⟨y,s,g1,_,_,g4⟩|⟨g1,g2⟩
     ·omega
     ·rw[g1];rfl
 have :=loop p.length 0 (by omega) (by omega);exact wP (p.length+1) _ _ _ (by simpa using this)
abbrev PbE(a:FE):Prop:=a.At.Path.length≤1000000000
theorem vr{a b:FE}(h:PbE a):fU a b (ii a b):=by
 unfold ii;refine wh 0 _ _ _ (⟨_,Cw _ _,λh1=>?_,λh1=>⟨_,MP _ _ h,λh2=>?_,λh2=>⟨_,Cw _ _,?_⟩⟩⟩)
 ·rw[ifn h1]
 ·rw[ifz h1,ifn h2]
 ·rw[ifz h1,ifz h2]
variable{n:Nat}
theorem fb{α:Type}{pre post:List α}{x:α}(h:pre.length=n):(pre++x::post)[n]?=some x:=by
 subst h;rw[List.getElem?_append_right (Nat.le_refl _)];simp
theorem lI{α:Type}{pre post:List α}{x y:α}(h:pre.length=n):(pre++x::post).set n y=pre++y::post:=by
 subst h;rw[List.set_append_right _ _ (Nat.le_refl _)];simp
theorem EX:∀(X Y pre mid post:List FE) (i:Nat) (p1 p2 p3:Int),X.length=Y.length→p1+(i:Int)=(pre.length:Nat)→p2+(i:Int)=(pre.length+X.length+mid.length:Nat)→p3=((i+X.length:Nat):Int)→pre.length+X.length+X.length+mid.length+Y.length+i≤1000000000→
  L0_slices_swapRangeCmpFunc (X.length+1) p1 p2 p3 (pre++X++mid++Y++post) i (pre++Y++mid++X++post)
 |[],[],pre,mid,post,i,p1,p2,p3,_,h1,h2,h3,_=>kH 0 _ _ _ _ _ _ (⟨λh=>absurd h (by simp at h3;omega),λ_=>by simp⟩)
 |[],_::_,_,_,_,_,_,_,_,h,_,_,_,_=>by simp at h
 |_::_,[],_,_,_,_,_,_,_,h,_,_,_,_=>by simp at h
 | x::X,y::Y,pre,mid,post,i,p1,p2,p3,hl,h1,h2,h3,hb=>by
  simp only[List.length_cons]at hl h2 h3 hb;have ih:=EX X Y (pre++[y]) (mid++[x]) post (i+1) p1 p2 p3 (by omega) (by simp;omega) (by simp;omega) (by omega) (by simp;omega);have e0:pre++(x::X)++mid++(y::Y)++post=(pre++x::X++mid)++y::(Y++post):=by simp
  have e1:pre++(x::X)++mid++(y::Y)++post=pre++x::(X++mid++y::Y++post):=by simp
  have s1:(pre++(x::X)++mid++(y::Y)++post).set pre.length y=(pre++y::X++mid)++y::(Y++post):=by rw[e1,lI rfl];simp
  have s2:((pre++(x::X)++mid++(y::Y)++post).set pre.length y).set (pre.length+(X.length+1)+mid.length) x=pre++[y]++X++(mid++[x])++Y++post:=by
   rw[s1,lI (by simp;omega)];simp
  have g1:(pre++(x::X)++mid++(y::Y)++post)[pre.length+(X.length+1)+mid.length]?=some y:=by rw[e0];exact fb (by simp;omega)
  have g2:(pre++(x::X)++mid++(y::Y)++post)[pre.length]?=some x:=by rw[e1];exact fb rfl
  have g3:((pre++(x::X)++mid++(y::Y)++post).set pre.length y)[pre.length+(X.length+1)+mid.length]?=some y:=by rw[s1];exact fb (by simp;omega)
  refine kH (X.length+1) _ _ _ _ _ _ (⟨λ_=>⟨⟨by omega,by omega⟩,⟨by omega,by omega⟩,⟨by omega,by omega⟩,pre.length+(X.length+1)+mid.length,by omega,y,g1,⟨by omega,by omega⟩,pre.length,h1,x,g2,pre.length,h1,x,g2,pre.length+(X.length+1)+mid.length,by omega,y,g3,by omega,?_⟩,λh=>absurd (by omega) h⟩);rw[s2];simpa using ih
theorem BN(pre X mid Y post:List FE)(G:X.length=Y.length)(hb:pre.length+X.length+mid.length+Y.length≤400000000){p1 p2 p3:Int}(h1:p1=(pre.length:Nat))(h2:p2=(pre.length+X.length+mid.length:Nat))(J:p3=(X.length:Nat)):dy (pre++X++mid++Y++post) p1 p2 p3 (pre++Y++mid++X++post):=
 rS_slices_swapRangeCmpFunc (X.length+1) _ _ _ _ _ (EX X Y pre mid post 0 p1 p2 p3 G (by omega) (by omega) (by omega) (by omega))
theorem Cs:∀(n:Nat) (X Y pre post:List FE) (p2:Int),X.length+Y.length≤n→0<X.length→0<Y.length→p2=(pre.length+X.length:Nat)→pre.length+X.length+Y.length≤400000000→
  ∃M,dY M p2 (pre++X++Y++post) (X.length:Nat) (Y.length:Nat) (pre++Y++X++post)
 |0,X,Y,pre,post,p2,hn,hx,hy,_,_=>by omega
 | n+1,X,Y,pre,post,p2,hn,hx,hy,h2,hb=>by
  rcases Nat.lt_trichotomy X.length Y.length with h|h|h
  ·obtain⟨Y1,Y2,rfl,hl1,hl2⟩:∃Y1 Y2,Y=Y1++Y2∧Y1.length=Y.length-X.length∧Y2.length=X.length:=⟨Y.take (Y.length-X.length),Y.drop (Y.length-X.length),by simp,by simp,by simp;omega⟩;simp only[List.length_append]at hl1 h hn hb hy;obtain⟨M,hM⟩:=Cs n Y2 Y1 pre (X++post) p2 (by omega) (by omega) (by omega) (by omega) (by omega);have hs:=BN pre X Y1 Y2 post (by omega) (by omega) (p1:=p2-(X.length:Nat)) (p2:=p2+((Y1.length+Y2.length:Nat):Int)-(X.length:Nat)) (p3:=(X.length:Nat)) (by omega) (by omega) rfl;refine⟨M+1,jb M _ _ _ _ _ (⟨λ_=>⟨λh'=>absurd h' (by simp;omega),λ_=>⟨⟨by omega,by omega⟩,⟨by simp;omega,by simp;omega⟩,⟨by simp;omega,by simp;omega⟩,_,by simpa using hs,⟨by simp;omega,by simp;omega⟩,?_⟩⟩,λh'=>absurd h' (by simp;omega)⟩)⟩;have e:((Y1++Y2).length:Int)-(X.length:Nat)=(Y1.length:Nat):=by simp;omega
   rw[e,show((X.length:Nat):Int)=(Y2.length:Nat) by omega];simpa using hM
  ·have hs:=BN pre X [] Y post h (by simp;omega) (p1:=p2-(X.length:Nat)) (p2:=p2) (p3:=(X.length:Nat)) (by omega) (by simp;omega) rfl;exact⟨1,jb 0 _ _ _ _ _ (⟨λh'=>absurd (by omega) h',λ_=>⟨⟨by omega,by omega⟩,_,by simpa using hs,rfl⟩⟩)⟩
  ·obtain⟨X1,X2,rfl,hl1,hl2⟩:∃X1 X2,X=X1++X2∧X1.length=Y.length∧X2.length=X.length-Y.length:=⟨X.take Y.length,X.drop Y.length,by simp,by simp;omega,by simp⟩;simp only[List.length_append]at hl2 h hn hb hx h2;obtain⟨M,hM⟩:=Cs n X2 X1 (pre++Y) post p2 (by omega) (by omega) (by omega) (by simp;omega) (by simp;omega);have hs:=BN pre X1 X2 Y post hl1 (by omega) (p1:=p2-((X1.length+X2.length:Nat):Int)) (p2:=p2) (p3:=(Y.length:Nat)) (by omega) (by omega) (by omega);refine⟨M+1,jb M _ _ _ _ _ (⟨λ_=>⟨λ_=>⟨⟨by simp;omega,by simp;omega⟩,_,by simpa using hs,⟨by simp;omega,by simp;omega⟩,?_⟩,λh'=>absurd (by simp;omega) h'⟩,λh'=>absurd h' (by simp;omega)⟩)⟩;have e:((X1++X2).length:Int)-(Y.length:Nat)=(X2.length:Nat):=by simp;omega
   rw[e,show((Y.length:Nat):Int)=(X1.length:Nat) by omega];simpa using hM
theorem OI(pre X Y post:List FE)(hx:0<X.length)(hy:0<Y.length)(hb:pre.length+X.length+Y.length≤400000000){p1 p2 p3:Int}(h1:p1=(pre.length:Nat))(h2:p2=(pre.length+X.length:Nat))(J:p3=(pre.length+X.length+Y.length:Nat)):jS (pre++X++Y++post) p1 p2 p3 (pre++Y++X++post):=by
 obtain⟨M,G⟩:=Cs (X.length+Y.length) X Y pre post p2 (Nat.le_refl _) hx hy h2 hb;refine sP M _ _ _ _ _ (⟨⟨by omega,by omega⟩,⟨by omega,by omega⟩,?_⟩);rw[show p2-p1=(X.length:Nat) by omega,show p3-p2=(Y.length:Nat) by omega];exact G
theorem rv{a b:List FE}(G:cq a)(hb:cq b)(h:∀x∈a,∀y∈b,leE x y):cq (a++b):=List.pairwise_append.2 ⟨G,hb,h⟩
theorem ib{a b:List FE}(h:cq (a++b)):cq a:=(List.pairwise_append.1 h).1
theorem iM{a b:List FE}(h:cq (a++b)):cq b:=(List.pairwise_append.1 h).2.1
theorem kI{a b:List FE}(h:cq (a++b)):∀x∈a,∀y∈b,leE x y:=(List.pairwise_append.1 h).2.2
theorem IJ{pre post:List FE}{a b i:Int}(ha:a=(pre.length:Nat))(hi:InI (i+1)):∀(n:Nat) (P Q:List FE) (x:FE),P.length=n→PbE x→cq (P++Q)→(∀q∈Q,leE x q)→pre.length+n+Q.length+1≤1000000000→
  ∃S:List FE,S.Perm (P++x::Q)∧cq S∧∀M r,bJ M a b (i+1) (pre++S++post) r→∃M',dw M' a b (pre++(P++x::Q)++post) ((pre.length+n:Nat):Int) i r
 |0,P,Q,x,hl,hx,hs,hq,hb=>by
  have :P=[]:=List.eq_nil_of_length_eq_zero hl;subst this;exact⟨x::Q,List.Perm.refl _,List.pairwise_cons.2 ⟨hq,hs⟩,λM r h=>⟨M+1,fG M _ _ _ _ _ _ (⟨λh'=>absurd h' (by omega),λ_=>⟨hi,h⟩⟩)⟩⟩
 | n+1,P,Q,x,hl,hx,hs,hq,hb=>by
  obtain⟨P',p,rfl⟩:∃P' p,P=P'++[p]:=⟨P.dropLast,P.getLast (λh=>by subst h;simp at hl),(List.dropLast_concat_getLast _).symm⟩;simp only[List.length_append,List.length_cons,List.length_nil]at hl;have hl':P'.length=n:=by omega
  have g1:(pre++(P'++[p]++x::Q)++post)[pre.length+(n+1)]?=some x:=by
   rw[show pre++(P'++[p]++x::Q)++post=(pre++P'++[p])++x::(Q++post) by simp];exact fb (by simp;omega)
  have e2:pre++(P'++[p]++x::Q)++post=(pre++P')++p::(x::Q++post):=by simp
  have g2:(pre++(P'++[p]++x::Q)++post)[pre.length+n]?=some p:=by rw[e2];exact fb (by simp;omega)
  have i1:InI (((pre.length+(n+1):Nat):Int)-1):=⟨by omega,by omega⟩;by_cases hc:ii x p<0
  ·have s1:(pre++(P'++[p]++x::Q)++post).set (pre.length+(n+1)) p=(pre++P')++p::(p::Q++post):=by
    rw[show pre++(P'++[p]++x::Q)++post=(pre++P'++[p])++x::(Q++post) by simp,lI (by simp;omega)];simp
   have s2:((pre++(P'++[p]++x::Q)++post).set (pre.length+(n+1)) p).set (pre.length+n) x=pre++(P'++x::(p::Q))++post:=by
    rw[s1,lI (by simp;omega)];simp
   have g3:((pre++(P'++[p]++x::Q)++post).set (pre.length+(n+1)) p)[pre.length+n]?=some p:=by rw[s1];exact fb (by simp;omega)
   obtain⟨S,h1,h2,h3⟩:=IJ (pre:=pre) (post:=post) (b:=b) ha hi n P' (p::Q) x hl' hx (by simpa using hs) (λq hq'=>by
    rcases List.mem_cons.1 hq' with rfl|h
    ·exact mt hc
    ·exact hq q h) (by simp;omega)
   refine⟨S,h1.trans ?_,h2,λM r h=>?_⟩
   ·rw[List.append_assoc];exact List.Perm.append_left _ (List.Perm.swap _ _ _)
   ·obtain⟨M',hM⟩:=h3 M r h;refine⟨M'+1,fG M' _ _ _ _ _ _ (⟨λ_=>⟨_,rfl,x,g1,i1,pre.length+n,by omega,p,g2,_,vr hx,λ_=>⟨i1,i1,pre.length+n,by omega,p,g2,_,rfl,x,g1,_,rfl,x,g1,pre.length+n,by omega,p,g3,i1,?_⟩,λh=>absurd hc h⟩,λh=>absurd (by omega) h⟩)⟩;rw[s2,show((pre.length+(n+1):Nat):Int)-1=((pre.length+n:Nat):Int) by omega];exact hM
  ·refine⟨P'++[p]++x::Q,List.Perm.refl _,?_,λM r h=>⟨M+1,fG M _ _ _ _ _ _ (⟨λ_=>⟨_,rfl,x,g1,i1,pre.length+n,by omega,p,g2,_,vr hx,λh=>absurd h hc,λ_=>⟨hi,h⟩⟩,λh=>absurd (by omega) h⟩)⟩⟩;refine rv (ib hs) (List.pairwise_cons.2 ⟨hq,iM hs⟩) λu hu v hv=>?_;have hup:leE u p:=by
    rcases List.mem_append.1 hu with h|h
    ·exact kI (ib hs) u h p (by simp)
    ·simp only[List.mem_singleton]at h;rw[h];exact xQ p
   rcases List.mem_cons.1 hv with rfl|h
   ·exact kL hup hc
   ·exact kI hs u hu v h
theorem GT{pre post:List FE}{a b:Int}(ha:a=(pre.length:Nat)):∀(R P:List FE),cq P→(∀x∈R,PbE x)→b=(pre.length+P.length+R.length:Nat)→pre.length+P.length+R.length+1≤1000000000→
  ∃S:List FE,S.Perm (P++R)∧cq S∧∃M,bJ M a b ((pre.length+P.length:Nat):Int) (pre++P++R++post) (pre++S++post)
 |[],P,hP,_,hb,hl=>⟨P,by simp,hP,1,fF 0 _ _ _ _ _ (⟨λh=>absurd h (by simp at hb;omega),λ_=>by simp⟩)⟩
 | x::R,P,hP,hR,hb,hl=>by
  simp only[List.length_cons]at hb hl;obtain⟨S1,h1,h2,h3⟩:=IJ (pre:=pre) (post:=R++post) (a:=a) (b:=b) (i:=((pre.length+P.length:Nat):Int)) ha ⟨by omega,by omega⟩ P.length P [] x rfl (hR x (by simp)) (by simpa using hP) (λq hq=>by simp at hq) (by simp;omega);have hl1:=h1.length_eq;simp only[List.length_append,List.length_cons,List.length_nil]at hl1;obtain⟨S,g1,g2,M,hM⟩:=GT (post:=post) ha R S1 h2 (λy hy=>hR y (by simp[hy])) (b:=b) (by omega) (by omega);obtain⟨M',hM'⟩:=h3 M (pre++S++post) (by
   rw[show((pre.length+P.length:Nat):Int)+1=((pre.length+S1.length:Nat):Int) by omega];simpa using hM)
  refine⟨S,g1.trans ?_,g2,M'+1,fF M' _ _ _ _ _ (⟨λ_=>by simpa using hM',λh=>absurd (by omega) h⟩)⟩;have :=h1.append_right R;simpa using this
theorem FX(pre X post:List FE)(J:∀x∈X,PbE x)(G:pre.length+X.length+1≤1000000000){a b:Int}(O:a=(pre.length:Nat))(hb:b=(pre.length+X.length:Nat)):∃S:List FE,S.Perm X∧cq S∧dH (pre++X++post) a b (pre++S++post):=by
 cases X with
 |nil=>
  simp only[List.length_nil]at hb G;exact⟨[],List.Perm.refl _,List.Pairwise.nil,jB 1 _ _ _ _ (⟨⟨by omega,by omega⟩,fF 0 _ _ _ _ _ (⟨λh=>absurd h (by omega),λ_=>rfl⟩)⟩)⟩
 |cons x R=>
  simp only[List.length_cons]at hb G;obtain⟨S,h1,h2,M,U⟩:=GT (pre:=pre) (post:=post) (a:=a) (b:=b) O R [x] (List.pairwise_singleton _ _) (λy hy=>J y (by simp[hy])) (by simp;omega) (by simp;omega);refine⟨S,h1,h2,jB M _ _ _ _ (⟨⟨by omega,by omega⟩,?_⟩)⟩;rw[show a+1=((pre.length+[x].length:Nat):Int) by simp;omega];simpa using U
variable{i:Nat}
theorem rp{A:List FE}(h:cq A){j:Nat}{u v:FE}(J:A[i]?=some u)(hv:A[j]?=some v)(O:i≤j):leE u v:=by
 obtain⟨h1,rfl⟩:=List.getElem?_eq_some_iff.1 J;obtain⟨h2,rfl⟩:=List.getElem?_eq_some_iff.1 hv;rcases Nat.lt_or_ge i j with G|G
 ·exact List.pairwise_iff_getElem.1 h i j h1 h2 G
 ·have :i=j:=by omega
  subst this;exact xQ _
theorem tQ{A:List FE}{u:FE}(h:u∈A):∃i:Nat,i<A.length∧A[i]?=some u:=by
 obtain⟨i,hi,rfl⟩:=List.getElem_of_mem h;exact⟨i,hi,List.getElem?_eq_getElem hi⟩
theorem ur{pre A post:List FE}{t:Nat}{u:FE}(h:A[t]?=some u):(pre++(A++post))[pre.length+t]?=some u:=by
 have ht:=(List.getElem?_eq_some_iff.1 h).1;rw[List.getElem?_append_right (by omega),show pre.length+t-pre.length=t by omega,List.getElem?_append_left ht,h]
theorem Bk{l B:List FE}{x:FE}{a z:Nat}(hx:l[a]?=some x)(hB:∀t u,B[t]?=some u→l[z+t]?=some u)(hp:∀u∈B,PbE u)(hz:z+B.length≤400000000):∀(k i j:Nat),j-i≤k→i≤j→j≤B.length→(∀u,0<i→B[i-1]?=some u→leE u x)→(∀u,B[j]?=some u→leE x u)→
  ∃s,s≤B.length∧(∀u,0<s→B[s-1]?=some u→leE u x)∧(∀u,B[s]?=some u→leE x u)∧∀M r,du M l (a:Nat) ((z+s:Nat):Int) r→∃M',bA M' l (a:Nat) ((z+i:Nat):Int) ((z+j:Nat):Int) r
 |0,i,j,hk,hij,hj,h1,h2=>by
  have :i=j:=by omega
  subst this;exact⟨i,hj,h1,h2,λM r h=>⟨M+1,ia M _ _ _ _ _ (⟨λh'=>absurd h' (by omega),λ_=>h⟩)⟩⟩
 | k +1,i,j,hk,hij,hj,h1,h2=>by
  by_cases e:i=j
  ·subst e;exact⟨i,hj,h1,h2,λM r h=>⟨M+1,ia M _ _ _ _ _ (⟨λh'=>absurd h' (by omega),λ_=>h⟩)⟩⟩
  ·have hq:(z+i+(z+j))/2=z+(i+j)/2:=by omega
   have hlt:(i+j)/2<B.length:=by omega
   obtain⟨u,hu⟩:∃u,B[(i+j)/2]?=some u:=⟨_,List.getElem?_eq_getElem hlt⟩;have hlu:=hB _ u hu;have hpu:=hp u (List.mem_of_getElem? hu);have step:∀{M r},(ii u x<0→bA M l (a:Nat) ((z+((i+j)/2+1):Nat):Int) ((z+j:Nat):Int) r)→(¬ii u x<0→bA M l (a:Nat) ((z+i:Nat):Int) ((z+(i+j)/2:Nat):Int) r)→bA (M+1) l (a:Nat) ((z+i:Nat):Int) ((z+j:Nat):Int) r:=λ{M r} q1 q2=>by
    refine ia M _ _ _ _ _ (⟨λ_=>⟨⟨by omega,by omega⟩,z+i+(z+j),by omega,by omega,by omega,u,by rw[hq];exact hlu,a,rfl,x,hx,_,vr hpu,λh=>⟨by omega,?_⟩,λh=>?_⟩,λh=>absurd (by omega) h⟩)
    ·rw[hq];exact q1 h
    ·rw[hq];exact q2 h
   by_cases hc:ii u x<0
   ·obtain⟨s,g1,g2,g3,g4⟩:=Bk hx hB hp hz k ((i+j)/2+1) j (by omega) (by omega) hj (λv _ hv=>by
     rw[Nat.add_sub_cancel,hu]at hv;cases hv;exact mt hc) h2
    refine⟨s,g1,g2,g3,λM r h=>?_⟩;obtain⟨M',hM⟩:=g4 M r h;exact⟨M'+1,step (λ_=>hM) (λh=>absurd hc h)⟩
   ·obtain⟨s,g1,g2,g3,g4⟩:=Bk hx hB hp hz k i ((i+j)/2) (by omega) (by omega) (by omega) h1 (λv hv=>by
     rw[hu]at hv;cases hv;exact hc)
    refine⟨s,g1,g2,g3,λM r h=>?_⟩;obtain⟨M',hM⟩:=g4 M r h;exact⟨M'+1,step (λh=>absurd h hc) (λ_=>hM)⟩
theorem Ci{l A:List FE}{x:FE}{a z:Nat}(hx:l[z]?=some x)(hA:∀t u,A[t]?=some u→l[a+t]?=some u)(hp:PbE x)(hz:a+A.length≤400000000):∀(k i j:Nat),j-i≤k→i≤j→j≤A.length→(∀u,0<i→A[i-1]?=some u→leE u x)→(∀u,A[j]?=some u→leE x u)→
  ∃s,s≤A.length∧(∀u,0<s→A[s-1]?=some u→leE u x)∧(∀u,A[s]?=some u→leE x u)∧∀M r,dB M l (z:Nat) ((a+s:Nat):Int) r→∃M',bB M' l (z:Nat) ((a+i:Nat):Int) ((a+j:Nat):Int) r
 |0,i,j,hk,hij,hj,h1,h2=>by
  have :i=j:=by omega
  subst this;exact⟨i,hj,h1,h2,λM r h=>⟨M+1,ig M _ _ _ _ _ (⟨λh'=>absurd h' (by omega),λ_=>h⟩)⟩⟩
 | k +1,i,j,hk,hij,hj,h1,h2=>by
  by_cases e:i=j
  ·subst e;exact⟨i,hj,h1,h2,λM r h=>⟨M+1,ig M _ _ _ _ _ (⟨λh'=>absurd h' (by omega),λ_=>h⟩)⟩⟩
  ·have hq:(a+i+(a+j))/2=a+(i+j)/2:=by omega
   have hlt:(i+j)/2<A.length:=by omega
   obtain⟨u,hu⟩:∃u,A[(i+j)/2]?=some u:=⟨_,List.getElem?_eq_getElem hlt⟩;have hlu:=hA _ u hu;have step:∀{M r},(¬ii x u<0→bB M l (z:Nat) ((a+((i+j)/2+1):Nat):Int) ((a+j:Nat):Int) r)→(ii x u<0→bB M l (z:Nat) ((a+i:Nat):Int) ((a+(i+j)/2:Nat):Int) r)→bB (M+1) l (z:Nat) ((a+i:Nat):Int) ((a+j:Nat):Int) r:=λ{M r} q1 q2=>by
    refine ig M _ _ _ _ _ (⟨λ_=>⟨⟨by omega,by omega⟩,a+i+(a+j),by omega,by omega,by omega,z,rfl,x,hx,u,by rw[hq];exact hlu,_,vr hp,λh=>⟨by omega,?_⟩,λh=>?_⟩,λh=>absurd (by omega) h⟩)
    ·rw[hq];exact q1 h
    ·rw[hq];exact q2 h
   by_cases hc:ii x u<0
   ·obtain⟨s,g1,g2,g3,g4⟩:=Ci hx hA hp hz k i ((i+j)/2) (by omega) (by omega) (by omega) h1 (λv hv=>by
     rw[hu]at hv;cases hv;exact mt hc)
    refine⟨s,g1,g2,g3,λM r h=>?_⟩;obtain⟨M',hM⟩:=g4 M r h;exact⟨M'+1,step (λh=>absurd hc h) (λ_=>hM)⟩
   ·obtain⟨s,g1,g2,g3,g4⟩:=Ci hx hA hp hz k ((i+j)/2+1) j (by omega) (by omega) hj (λv _ hv=>by
     rw[Nat.add_sub_cancel,hu]at hv;cases hv;exact hc) h2
    refine⟨s,g1,g2,g3,λM r h=>?_⟩;obtain⟨M',hM⟩:=g4 M r h;exact⟨M'+1,step (λ_=>hM) (λh=>absurd h hc)⟩
theorem Ce{l:List FE}{p1 p3:Int}{a m k0 lo hi0:Nat}(hp:∀u∈l,PbE u)(hl:l.length≤400000000)(hhi:hi0≤m)(hq:∀c,lo≤c→c<hi0→c<l.length∧c+1≤k0/2+m∧k0/2+m-1-c<l.length):∀(k i j:Nat),j-i≤k→i≤j→lo≤i→j≤hi0→(∀u v,lo<i→l[i-1]?=some u→l[k0/2+m-i]?=some v→leE u v)→(∀u v,j<hi0→l[j]?=some u→l[k0/2+m-1-j]?=some v→leE v u)→
  ∃s,lo≤s∧s≤hi0∧i≤s∧s≤j∧(∀u v,lo<s→l[s-1]?=some u→l[k0/2+m-s]?=some v→leE u v)∧(∀u v,s<hi0→l[s]?=some u→l[k0/2+m-1-s]?=some v→leE v u)∧∀M r,aV M l p1 (m:Nat) p3 k0 (s:Nat) (s:Nat) r→∃M',aV M' l p1 (m:Nat) p3 k0 (i:Nat) (j:Nat) r
 |0,i,j,hk,hij,hi,hj,h1,h2=>by
  have :i=j:=by omega
  subst this;exact⟨i,hi,hj,Nat.le_refl _,Nat.le_refl _,h1,h2,λM r h=>⟨M,h⟩⟩
 | k +1,i,j,hk,hij,hi,hj,h1,h2=>by
  by_cases e:i=j
  ·subst e;exact⟨i,hi,hj,Nat.le_refl _,Nat.le_refl _,h1,h2,λM r h=>⟨M,h⟩⟩
  ·obtain⟨q1,q2,q3⟩:=hq ((i+j)/2) (by omega) (by omega);obtain⟨u,hu⟩:∃u,l[(i+j)/2]?=some u:=⟨_,List.getElem?_eq_getElem q1⟩;obtain⟨v,hv⟩:∃v,l[k0/2+m-1-(i+j)/2]?=some v:=⟨_,List.getElem?_eq_getElem q3⟩;have hpv:=hp v (List.mem_of_getElem? hv);have step:∀{M r},(¬ii v u<0→aV M l p1 (m:Nat) p3 k0 (((i+j)/2+1:Nat):Int) (j:Nat) r)→(ii v u<0→aV M l p1 (m:Nat) p3 k0 (i:Nat) (((i+j)/2:Nat):Int) r)→aV (M+1) l p1 (m:Nat) p3 k0 (i:Nat) (j:Nat) r:=λ{M r} w1 w2=>
    rL2_slices_symMergeCmpFunc M _ _ _ _ _ _ _ _ (⟨λ_=>⟨⟨by omega,by omega⟩,i+j,by omega,by omega,by omega,⟨by omega,by omega⟩,k0/2+m-1-(i+j)/2,by omega,v,hv,u,hu,_,vr hpv,λh=>⟨by omega,w1 h⟩,λh=>w2 h⟩,λh=>absurd (by omega) h⟩)
   by_cases hc:ii v u<0
   ·obtain⟨s,g0,g0',gi,gj,g1,g2,g3⟩:=Ce (p1:=p1) (p3:=p3) (a:=a) hp hl hhi hq k i ((i+j)/2) (by omega) (by omega) hi (by omega) h1 (λu' v' _ hu' hv'=>by
     rw[hu]at hu';rw[hv]at hv';cases hu';cases hv';exact mt hc)
    refine⟨s,g0,g0',gi,by omega,g1,g2,λM r h=>?_⟩;obtain⟨M',hM⟩:=g3 M r h;exact⟨M'+1,step (λh=>absurd hc h) (λ_=>hM)⟩
   ·obtain⟨s,g0,g0',gi,gj,g1,g2,g3⟩:=Ce (p1:=p1) (p3:=p3) (a:=a) hp hl hhi hq k ((i+j)/2+1) j (by omega) (by omega) (by omega) hj (λu' v' _ hu' hv'=>by
     rw[Nat.add_sub_cancel,hu]at hu';rw[show k0/2+m-((i+j)/2+1)=k0/2+m-1-(i+j)/2 by omega,hv]at hv';cases hu';cases hv';exact hc) h2
    refine⟨s,g0,g0',by omega,gj,g1,g2,λM r h=>?_⟩;obtain⟨M',hM⟩:=g3 M r h;exact⟨M'+1,step (λ_=>hM) (λh=>absurd h hc)⟩
theorem IK{post:List FE}:∀(B1 B2 pre:List FE) (x:FE) (z e:Int),z=(pre.length:Nat)→e=(pre.length+1+B1.length:Nat)→pre.length+B1.length+B2.length+1≤400000000→du (B1.length+1) (pre++x::(B1++B2)++post) z e (pre++(B1++x::B2)++post)
 |[],B2,pre,x,z,e,G,J,hb=>by
  simp only[List.length_nil]at J;exact lw 0 _ _ _ _ (⟨⟨by omega,by omega⟩,λh=>absurd h (by omega),λ_=>by simp⟩)
 |y::B1,B2,pre,x,z,e,G,J,hb=>by
  simp only[List.length_cons]at J hb;have ih:=IK (post:=post) B1 B2 (pre++[y]) x (z+1) e (by simp;omega) (by simp;omega) (by simp;omega);have e0:pre++x::(y::B1++B2)++post=(pre++[x])++y::(B1++B2++post):=by simp
  have U:pre++x::(y::B1++B2)++post=pre++x::(y::B1++B2++post):=by simp
  have g1:(pre++x::(y::B1++B2)++post)[pre.length+1]?=some y:=by rw[e0];exact fb (by simp)
  have Z:(pre++x::(y::B1++B2)++post)[pre.length]?=some x:=by rw[U];exact fb rfl
  have s1:(pre++x::(y::B1++B2)++post).set pre.length y=(pre++[y])++y::(B1++B2++post):=by rw[U,lI rfl];simp
  have g3:((pre++x::(y::B1++B2)++post).set pre.length y)[pre.length+1]?=some y:=by rw[s1];exact fb (by simp)
  have s2:((pre++x::(y::B1++B2)++post).set pre.length y).set (pre.length+1) x=pre++[y]++x::(B1++B2)++post:=by rw[s1,lI (by simp)];simp
  have O:InI (z+1):=⟨by omega,by omega⟩;refine lw (B1.length+1) _ _ _ _ (⟨⟨by omega,by omega⟩,λ_=>⟨O,O,pre.length+1,by omega,y,g1,pre.length,G,x,Z,pre.length,G,x,Z,pre.length+1,by omega,y,g3,O,?_⟩,λh=>absurd (by omega) h⟩);rw[s2];simpa using ih
theorem In{post pre:List FE}:∀(n:Nat) (A1 A2 B:List FE) (x:FE) (z e:Int),A2.length=n→z=(pre.length+A1.length+n:Nat)→e=(pre.length+A1.length:Nat)→pre.length+A1.length+A2.length+1≤400000000→dB (n+1) (pre++(A1++A2++x::B)++post) z e (pre++(A1++x::(A2++B))++post)
 |0,A1,A2,B,x,z,e,J,O,he,hb=>by
  have :A2=[]:=List.eq_nil_of_length_eq_zero J;subst this;exact lD 0 _ _ _ _ (⟨λh=>absurd h (by omega),λ_=>by simp⟩)
 |n+1,A1,A2,B,x,z,e,J,O,he,hb=>by
  obtain⟨A',p,rfl⟩:∃A' p,A2=A'++[p]:=⟨A2.dropLast,A2.getLast (λh=>by subst h;simp at J),(List.dropLast_concat_getLast _).symm⟩;simp only[List.length_append,List.length_cons,List.length_nil]at J hb;have ih:=In (post:=post) (pre:=pre) n A1 A' (p::B) x (z-1) e (by omega) (by omega) he (by omega);have e0:pre++(A1++(A'++[p])++x::B)++post=(pre++A1++A'++[p])++x::(B++post):=by simp
  have e1:pre++(A1++(A'++[p])++x::B)++post=(pre++A1++A')++p::(x::B++post):=by simp
  have U:(pre++A1++A').length=pre.length+A1.length+n:=by simp;omega
  have G:(pre++A1++A'++[p]).length=pre.length+A1.length+(n+1):=by simp;omega
  have g1:(pre++(A1++(A'++[p])++x::B)++post)[pre.length+A1.length+(n+1)]?=some x:=by rw[e0];exact fb G
  have g2:(pre++(A1++(A'++[p])++x::B)++post)[pre.length+A1.length+n]?=some p:=by rw[e1];exact fb U
  have s1:(pre++(A1++(A'++[p])++x::B)++post).set (pre.length+A1.length+(n+1)) p=(pre++A1++A')++p::(p::B++post):=by rw[e0,lI G];simp
  have g3:((pre++(A1++(A'++[p])++x::B)++post).set (pre.length+A1.length+(n+1)) p)[pre.length+A1.length+n]?=some p:=by rw[s1];exact fb U
  have s2:((pre++(A1++(A'++[p])++x::B)++post).set (pre.length+A1.length+(n+1)) p).set (pre.length+A1.length+n) x=pre++(A1++A'++x::(p::B))++post:=by rw[s1,lI U];simp
  have Z:InI (z-1):=⟨by omega,by omega⟩;refine lD (n+1) _ _ _ _ (⟨λ_=>⟨Z,Z,pre.length+A1.length+n,by omega,p,g2,pre.length+A1.length+(n+1),O,x,g1,pre.length+A1.length+(n+1),O,x,g1,pre.length+A1.length+n,by omega,p,g3,Z,?_⟩,λh=>absurd (by omega) h⟩);rw[s2];simpa using ih
theorem Ay{A1 B2:List FE}(G:cq A1)(J:cq B2)(h:∀u v,A1[A1.length-1]?=some u→B2[0]?=some v→leE u v):∀u∈A1,∀v∈B2,leE u v:=λu O v hv=>by
 obtain⟨i,hi,gi⟩:=tQ O;obtain⟨j,U,gj⟩:=tQ hv;obtain⟨x,hx⟩:∃x,A1[A1.length-1]?=some x:=⟨_,List.getElem?_eq_getElem (by omega)⟩;obtain⟨y,hy⟩:∃y,B2[0]?=some y:=⟨_,List.getElem?_eq_getElem (by omega)⟩;exact kL (rp G gi hx (by omega)) (kL (h x y hx hy) (rp J hy gj (by omega)))
theorem JW(A1 A2 B1 B2:List FE):(A1++B1++(A2++B2)).Perm (A1++A2++(B1++B2)):=by
 rw[List.append_assoc,List.append_assoc];refine List.Perm.append_left _ ?_;rw[←List.append_assoc,←List.append_assoc];exact List.Perm.append_right _ List.perm_append_comm
theorem AL:∀(n:Nat) (pre A B post:List FE),A.length+B.length≤n→0<A.length→0<B.length→cq A→cq B→(∀x∈A,PbE x)→(∀x∈B,PbE x)→(∀x∈pre,PbE x)→(∀x∈post,PbE x)→pre.length+A.length+B.length+post.length+1≤100000000→
  ∃C:List FE,C.Perm (A++B)∧cq C∧cY (pre++A++B++post) (pre.length:Nat) ((pre.length+A.length:Nat):Int) ((pre.length+A.length+B.length:Nat):Int) (pre++C++post)
 |0,pre,A,B,post,hn,ha,hb,_,_,_,_,_,_,_=>by omega
 | n + 1,pre,A,B,post,hn,ha,hb,hA,hB,pA,pB,pp,pq,hl=>by
  have i1:InI (((pre.length+A.length:Nat):Int)-((pre.length:Nat):Int)):=⟨by omega,by omega⟩;by_cases a1:A.length=1
  ·obtain⟨x,rfl⟩:∃x,A=[x]:=by
    match A,a1 with
    |[x],_=>exact⟨x,rfl⟩
   obtain⟨s,h1,h2,h3,h4⟩:=Bk (l:=pre++[x]++B++post) (B:=B) (x:=x) (a:=pre.length) (z:=pre.length+1) (by rw[show pre++[x]++B++post=pre++x::(B++post) by simp];exact fb rfl) (λt u hu=>by
    have :=ur (pre:=pre++[x]) (post:=post) hu;simpa[Nat.add_assoc]using this) pB (by omega) B.length 0 B.length (by omega) (by omega) (Nat.le_refl _) (λu h=>by omega) (λu h=>by rw[List.getElem?_eq_none (Nat.le_refl _)]at h;cases h)
   have h5:=IK (post:=post) (B.take s) (B.drop s) pre x ((pre.length:Nat):Int) ((pre.length+1+s:Nat):Int) rfl (by rw[List.length_take];congr 1;omega) (by rw[List.length_take,List.length_drop];omega);rw[List.take_append_drop]at h5;obtain⟨M,hM⟩:=h4 _ _ (by rw[show pre++[x]++B++post=pre++x::B++post by simp];exact h5);refine⟨B.take s++x::B.drop s,?_,?_,fx M _ _ _ _ _ (⟨i1,λ_=>?_,λh=>absurd (by simp;omega) h⟩)⟩
   ·have :=List.perm_middle (a:=x) (l₁:=B.take s) (l₂:=B.drop s);rw[List.take_append_drop]at this;exact this
   ·have hs:cq (B.take s++B.drop s):=by rw[List.take_append_drop];exact hB
    have hx1:∀u∈B.take s,leE u x:=λu hu=>by
     obtain⟨i,hi,gi⟩:=tQ hu;rw[List.length_take]at hi;rw[List.getElem?_take,if_pos (by omega)]at gi;obtain⟨y,hy⟩:∃y,B[s-1]?=some y:=⟨_,List.getElem?_eq_getElem (by omega)⟩;exact kL (rp hB gi hy (by omega)) (h2 y (by omega) hy)
    have hx2:∀u∈B.drop s,leE x u:=λu hu=>by
     obtain⟨i,hi,gi⟩:=tQ hu;rw[List.length_drop]at hi;rw[List.getElem?_drop]at gi;obtain⟨y,hy⟩:∃y,B[s]?=some y:=⟨_,List.getElem?_eq_getElem (by omega)⟩;exact kL (h3 y hy) (rp hB hy gi (by omega))
    refine rv (ib hs) (List.pairwise_cons.2 ⟨hx2,iM hs⟩) λu hu v hv=>?_;rcases List.mem_cons.1 hv with rfl|h
    ·exact hx1 u hu
    ·exact kI hs u hu v h
   ·simpa using hM
  by_cases b1:B.length=1
  ·obtain⟨x,rfl⟩:∃x,B=[x]:=by
    match B,b1 with
    |[x],_=>exact⟨x,rfl⟩
   obtain⟨s,h1,h2,h3,h4⟩:=Ci (l:=pre++A++[x]++post) (A:=A) (x:=x) (a:=pre.length) (z:=pre.length+A.length) (by rw[show pre++A++[x]++post=(pre++A)++x::post by simp];exact fb (by simp)) (λt u hu=>by
    have :=ur (pre:=pre) (post:=[x]++post) hu;simpa using this) (pB x (by simp)) (by omega) A.length 0 A.length (by omega) (by omega) (Nat.le_refl _) (λu h=>by omega) (λu h=>by rw[List.getElem?_eq_none (Nat.le_refl _)]at h;cases h)
   have h5:=In (post:=post) (pre:=pre) (A.length-s) (A.take s) (A.drop s) [] x ((pre.length+A.length:Nat):Int) ((pre.length+s:Nat):Int) (by rw[List.length_drop]) (by rw[List.length_take];congr 1;omega) (by rw[List.length_take];congr 1;omega) (by rw[List.length_take,List.length_drop];omega);rw[List.take_append_drop,List.append_nil]at h5;obtain⟨M,hM⟩:=h4 _ _ (by rw[show pre++A++[x]++post=pre++(A++[x])++post by simp];exact h5);refine⟨A.take s++x::A.drop s,?_,?_,fx M _ _ _ _ _ (⟨i1,λh=>absurd h (by omega),λ_=>⟨⟨by simp;omega,by simp;omega⟩,λ_=>?_,λh=>absurd (by simp;omega) h⟩⟩)⟩
   ·have :=List.perm_middle (a:=x) (l₁:=A.take s) (l₂:=A.drop s);rw[List.take_append_drop]at this;exact this.trans (List.perm_append_comm (l₁:=[x]) (l₂:=A))
   ·have hs:cq (A.take s++A.drop s):=by rw[List.take_append_drop];exact hA
    have hx1:∀u∈A.take s,leE u x:=λu hu=>by
     obtain⟨i,hi,gi⟩:=tQ hu;rw[List.length_take]at hi;rw[List.getElem?_take,if_pos (by omega)]at gi;obtain⟨y,hy⟩:∃y,A[s-1]?=some y:=⟨_,List.getElem?_eq_getElem (by omega)⟩;exact kL (rp hA gi hy (by omega)) (h2 y (by omega) hy)
    have hx2:∀u∈A.drop s,leE x u:=λu hu=>by
     obtain⟨i,hi,gi⟩:=tQ hu;rw[List.length_drop]at hi;rw[List.getElem?_drop]at gi;obtain⟨y,hy⟩:∃y,A[s]?=some y:=⟨_,List.getElem?_eq_getElem (by omega)⟩;exact kL (h3 y hy) (rp hA hy gi (by omega))
    refine rv (ib hs) (List.pairwise_cons.2 ⟨hx2,iM hs⟩) λu hu v hv=>?_;rcases List.mem_cons.1 hv with rfl|h
    ·exact hx1 u hu
    ·exact kI hs u hu v h
   ·simpa using hM
  obtain⟨l,hld⟩:∃l,l=pre++A++B++post:=⟨_,rfl⟩;have hpl:∀u∈l,PbE u:=λu hu=>by
   rw[hld]at hu;simp only[List.mem_append]at hu;rcases hu with((h|h)|h)|h
   ·exact pp u h
   ·exact pA u h
   ·exact pB u h
   ·exact pq u h
  have hll:l.length=pre.length+A.length+B.length+post.length:=by rw[hld];simp;omega
  have gA:∀t u,A[t]?=some u→l[pre.length+t]?=some u:=λt u hu=>by
   have :=ur (pre:=pre) (post:=B++post) hu;rw[hld];simpa using this
  have gB:∀t u,B[t]?=some u→l[pre.length+A.length+t]?=some u:=λt u hu=>by
   have :=ur (pre:=pre++A) (post:=post) hu;rw[hld];simpa using this
  obtain⟨a,had⟩:∃a,a=pre.length:=⟨_,rfl⟩;obtain⟨m,hmd⟩:∃m,m=pre.length+A.length:=⟨_,rfl⟩;obtain⟨b,hbd⟩:∃b,b=pre.length+A.length+B.length:=⟨_,rfl⟩;obtain⟨mid,hmid⟩:∃mid,mid=(a+b)/2:=⟨_,rfl⟩;have hm1:a+2≤m:=by omega
  have hm2:m+2≤b:=by omega
  obtain⟨lo,hlo⟩:∃lo,lo=if mid<m then a else a:=⟨_,rfl⟩
  have key:∀lo hi0,(m<mid+1→m=hi0∨True)→lo≤hi0→a≤lo→hi0≤m→hi0≤mid→(∀c,lo≤c→c<hi0→m+c+1≤mid+m∧mid+m-c≤b)→(lo=a∨mid+m-lo=b)→(hi0=m∨hi0=mid)→
    ∃C:List FE,C.Perm (A++B)∧cq C∧∃M,aV M l (a:Nat) (m:Nat) (b:Nat) (a+b) (lo:Nat) (hi0:Nat) (pre++C++post):=λlo hi0 _ hlh hal hhm hhd hq hlo hhi=>by
   obtain⟨s,g0,g1,_,_,g2,g3,g4⟩:=Ce (l:=l) (p1:=(a:Nat)) (p3:=(b:Nat)) (a:=a) (m:=m) (k0:=a+b) (lo:=lo) (hi0:=hi0) hpl (by omega) hhm (λc h1 h2=>by have :=hq c h1 h2;rw[←hmid];omega) (hi0-lo) lo hi0 (Nat.le_refl _) hlh (Nat.le_refl _) (Nat.le_refl _) (λu v h=>by omega) (λu v h=>by omega);rw[←hmid]at g2 g3;have hsm:mid+m-s≤b:=by
    rcases Nat.lt_or_ge s hi0 with h|h
    ·have :=hq s g0 h;omega
    ·by_cases e:lo=s
     ·rcases hlo with h|h<;>omega
     ·have :=hq (s-1) (by omega) (by omega);omega
   have hsm2:m≤mid+m-s:=by omega
   have hA':A=A.take (s-a)++A.drop (s-a):=(List.take_append_drop _ _).symm;have hB':B=B.take (mid-s)++B.drop (mid-s):=(List.take_append_drop _ _).symm;obtain⟨A1,hA1⟩:∃X,X=A.take (s-a):=⟨_,rfl⟩;obtain⟨A2,hA2⟩:∃X,X=A.drop (s-a):=⟨_,rfl⟩;obtain⟨B1,hB1⟩:∃X,X=B.take (mid-s):=⟨_,rfl⟩;obtain⟨B2,hB2⟩:∃X,X=B.drop (mid-s):=⟨_,rfl⟩;rw[←hA1,←hA2]at hA';rw[←hB1,←hB2]at hB';have l1:A1.length=s-a:=by rw[hA1,List.length_take];omega
   have l2:A2.length=m-s:=by rw[hA2,List.length_drop];omega
   have l3:B1.length=mid-s:=by rw[hB1,List.length_take];omega
   have l4:B2.length=b-(mid+m-s):=by rw[hB2,List.length_drop];omega
   have sA:cq (A1++A2):=hA'▸hA;have sB:cq (B1++B2):=hB'▸hB;have cross1:∀u∈A1,∀v∈B2,leE u v:=Ay (ib sA) (iM sB) λu v hu hv=>by
    have h1:0<A1.length:=by have :=(List.getElem?_eq_some_iff.1 hu).1;omega
    have h2:0<B2.length:=(List.getElem?_eq_some_iff.1 hv).1;have hu':A[s-a-1]?=some u:=by rw[hA',List.getElem?_append_left (by omega),←l1];exact hu
    have hv':B[mid-s]?=some v:=by rw[hB',List.getElem?_append_right (by omega),show mid-s-B1.length=0 by omega];exact hv
    have hu2:=gA _ _ hu';have hv2:=gB _ _ hv';refine g2 u v ?_ ?_ ?_
    ·rcases hlo with h|h
     ·omega
     ·rcases Nat.lt_or_ge lo s with h'|h'
      ·exact h'
      ·omega
    ·rw[show s-1=pre.length+(s-a-1) by omega];exact hu2
    ·rw[show mid+m-s=pre.length+A.length+(mid-s) by omega];exact hv2
   have cross2:∀u∈B1,∀v∈A2,leE u v:=Ay (ib sB) (iM sA) λu v hu hv=>by
    have h1:0<B1.length:=by have :=(List.getElem?_eq_some_iff.1 hu).1;omega
    have h2:0<A2.length:=(List.getElem?_eq_some_iff.1 hv).1;have hu':B[mid-s-1]?=some u:=by rw[hB',List.getElem?_append_left (by omega),←l3];exact hu
    have hv':A[s-a]?=some v:=by rw[hA',List.getElem?_append_right (by omega),show s-a-A1.length=0 by omega];exact hv
    have hu2:=gB _ _ hu';have hv2:=gA _ _ hv';refine g3 v u (by rcases hhi with h|h<;>omega) ?_ ?_
    ·rw[show s=pre.length+(s-a) by omega];exact hv2
    ·rw[show mid+m-1-s=pre.length+A.length+(mid-s-1) by omega];exact hu2
   have pA1:∀x∈A1,PbE x:=λx hx=>pA x (by rw[hA'];simp[hx]);have pA2:∀x∈A2,PbE x:=λx hx=>pA x (by rw[hA'];simp[hx]);have pB1:∀x∈B1,PbE x:=λx hx=>pB x (by rw[hB'];simp[hx]);have pB2:∀x∈B2,PbE x:=λx hx=>pB x (by rw[hB'];simp[hx]);have half1:∃C1:List FE,C1.Perm (A1++B1)∧cq C1∧∀M r,cM M (m:Nat) (b:Nat) (a+b) (s:Nat) (pre++C1++(A2++B2++post)) r→dz (M+1) (a:Nat) (m:Nat) (b:Nat) (a+b) (s:Nat) (pre++A1++B1++(A2++B2++post)) r:=by
    by_cases h:0<A1.length∧0<B1.length
    ·obtain⟨C1,c1,c2,c3⟩:=AL n pre A1 B1 (A2++B2++post) (by omega) h.1 h.2 (ib sA) (ib sB) pA1 pB1 pp (λx hx=>by
      simp only[List.mem_append]at hx;rcases hx with(h|h)|h
      ·exact pA2 x h
      ·exact pB2 x h
      ·exact pq x h) (by simp;omega)
     refine⟨C1,c1,c2,λM r hM=>lv M _ _ _ _ _ _ _ (⟨λ_=>⟨λ_=>⟨_,?_,hM⟩,λh'=>absurd (by rw[←hmid];omega) h'⟩,λh'=>absurd (by omega) h'⟩)⟩;rw[←hmid,had,show s=pre.length+A1.length by omega,show mid=pre.length+A1.length+B1.length by omega];exact c3
    ·refine⟨A1++B1,List.Perm.refl _,?_,λM r hM=>?_⟩
     ·rcases(by omega:A1.length=0∨B1.length=0)with h'|h'
      ·rw[List.eq_nil_of_length_eq_zero h',List.nil_append];exact ib sB
      ·rw[List.eq_nil_of_length_eq_zero h',List.append_nil];exact ib sA
     ·rw[←List.append_assoc pre A1 B1]at hM;exact lv M _ _ _ _ _ _ _ (⟨λ_=>⟨λh'=>absurd h' (by rw[←hmid];omega),λ_=>hM⟩,λ_=>hM⟩)
   obtain⟨C1,c1,c2,c3⟩:=half1;have hc1:=c1.length_eq;rw[List.length_append]at hc1;have half2:∃C2:List FE,C2.Perm (A2++B2)∧cq C2∧cM 1 (m:Nat) (b:Nat) (a+b) (s:Nat) (pre++C1++(A2++B2++post)) (pre++C1++C2++post):=by
    have es:(((a+b)/2:Nat):Int)+((m:Nat):Int)-((s:Nat):Int)=((mid+m-s:Nat):Int):=by rw[←hmid];omega
    by_cases h:0<A2.length∧0<B2.length
    ·obtain⟨C2,d1,d2,d3⟩:=AL n (pre++C1) A2 B2 post (by omega) h.1 h.2 (iM sA) (iM sB) pA2 pB2 (λx hx=>by
      rcases List.mem_append.1 hx with h|h
      ·exact pp x h
      ·rcases List.mem_append.1 (c1.mem_iff.1 h)with h|h
       ·exact pA1 x h
       ·exact pB1 x h) pq (by simp;omega)
     refine⟨C2,d1,d2,ly 0 _ _ _ _ _ _ (⟨λ_=>⟨λ_=>⟨_,?_,rfl⟩,λh'=>absurd (by rw[es];omega) h'⟩,λh'=>absurd (by rw[es,←hmid];omega) h'⟩)⟩;rw[es,←hmid];have e1:(pre++C1).length=mid:=by simp;omega
     rw[e1,show mid+A2.length=mid+m-s by omega,show mid+m-s+B2.length=b by omega]at d3;simpa using d3
    ·refine⟨A2++B2,List.Perm.refl _,?_,?_⟩
     ·rcases(by omega:A2.length=0∨B2.length=0)with h'|h'
      ·rw[List.eq_nil_of_length_eq_zero h',List.nil_append];exact iM sB
      ·rw[List.eq_nil_of_length_eq_zero h',List.append_nil];exact iM sA
     ·rw[show pre++C1++(A2++B2++post)=pre++C1++(A2++B2)++post by simp];exact ly 0 _ _ _ _ _ _ (⟨λ_=>⟨λh'=>absurd h' (by rw[es];omega),λ_=>rfl⟩,λ_=>rfl⟩)
   obtain⟨C2,d1,d2,d3⟩:=half2;have hperm:(C1++C2).Perm (A++B):=by
    have :=(List.Perm.append c1 d1).trans (JW A1 A2 B1 B2);rw[hA',hB'];exact this
   refine⟨C1++C2,hperm,rv c2 d2 λu hu v hv=>?_,?_⟩
   ·rcases List.mem_append.1 (c1.mem_iff.1 hu)with h|h<;>rcases List.mem_append.1 (d1.mem_iff.1 hv)with h'|h'
    ·exact kI sA u h v h'
    ·exact cross1 u h v h'
    ·exact cross2 u h v h'
    ·exact kI sB u h v h'
   ·have h5:=c3 1 _ d3;have es:(((a+b)/2:Nat):Int)+((m:Nat):Int)-((s:Nat):Int)=((mid+m-s:Nat):Int):=by rw[←hmid];omega
    have hrot:aV 3 l (a:Nat) (m:Nat) (b:Nat) (a+b) (s:Nat) (s:Nat) (pre++(C1++C2)++post):=by
     have e6:pre++(C1++C2)++post=pre++C1++C2++post:=by simp
     rw[e6];refine rL2_slices_symMergeCmpFunc 2 _ _ _ _ _ _ _ _ (⟨λh=>absurd h (by omega),λ_=>⟨⟨by rw[es];omega,by rw[es];omega⟩,λh=>⟨λh'=>?_,λh'=>?_⟩,λh=>?_⟩⟩)
     ·rw[es]at h'⊢;have hr:=OI (pre++A1) A2 B1 (B2++post) (by omega) (by omega) (by simp;omega) (p1:=(s:Nat)) (p2:=(m:Nat)) (p3:=((mid+m-s:Nat):Int)) (by simp;omega) (by simp;omega) (by simp;omega);refine⟨pre++A1++B1++(A2++B2++post),?_,h5⟩;have e7:l=pre++A1++A2++B1++(B2++post):=by rw[hld,hA',hB'];simp
      rw[e7,show pre++A1++B1++(A2++B2++post)=pre++A1++B1++A2++(B2++post) by simp];exact hr
     ·rw[es]at h';have :B1=[]:=List.eq_nil_of_length_eq_zero (by omega);rw[show l=pre++A1++B1++(A2++B2++post) by rw[hld,hA',hB',this];simp];exact h5
     ·have :A2=[]:=List.eq_nil_of_length_eq_zero (by omega);rw[show l=pre++A1++B1++(A2++B2++post) by rw[hld,hA',hB',this];simp];exact h5
    obtain⟨M,hM⟩:=g4 3 _ hrot;exact⟨M,hM⟩
  rw[←hld,←hbd,←hmd,←had];have ek:((a:Nat):Int)+((b:Nat):Int)=((a+b:Nat):Int):=by omega
  by_cases hc:mid<m
  ·obtain⟨C,k1,k2,M,k3⟩:=key (mid+m-b) mid (λ_=>.inr trivial) (by omega) (by omega) (by omega) (Nat.le_refl _) (λc h1 h2=>by omega) (.inr (by omega)) (.inr rfl);refine⟨C,k1,k2,fx M _ _ _ _ _ (⟨⟨by omega,by omega⟩,λh=>absurd h (by omega),λ_=>⟨⟨by omega,by omega⟩,λh=>absurd h (by omega),λ_=>⟨⟨by omega,by omega⟩,a+b,ek,by omega,by omega,⟨by rw[←hmid];omega,by rw[←hmid];omega⟩,λ_=>⟨⟨by rw[←hmid];omega,by rw[←hmid];omega⟩,⟨by rw[←hmid];omega,by rw[←hmid];omega⟩,?_⟩,λh=>absurd (by rw[←hmid];omega) h⟩⟩⟩)⟩;rw[←hmid,show((mid:Nat):Int)+((m:Nat):Int)-((b:Nat):Int)=((mid+m-b:Nat):Int) by omega];exact k3
  ·obtain⟨C,k1,k2,M,k3⟩:=key a m (λ_=>.inr trivial) (by omega) (Nat.le_refl _) (Nat.le_refl _) (by omega) (λc h1 h2=>by omega) (.inl rfl) (.inl rfl);refine⟨C,k1,k2,fx M _ _ _ _ _ (⟨⟨by omega,by omega⟩,λh=>absurd h (by omega),λ_=>⟨⟨by omega,by omega⟩,λh=>absurd h (by omega),λ_=>⟨⟨by omega,by omega⟩,a+b,ek,by omega,by omega,⟨by rw[←hmid];omega,by rw[←hmid];omega⟩,λh=>absurd h (by rw[←hmid];omega),λ_=>⟨⟨by rw[←hmid];omega,by rw[←hmid];omega⟩,k3⟩⟩⟩⟩)⟩
structure BlkE (s:Nat) (l:List FE) (bs:List (List FE)) (last:List FE):Prop where
 e:l=bs.flatten++last
 b:∀x∈bs,x.length=s∧cq x
 l:last.length<s∧cq last
theorem yn{s:Nat}:∀{bs:List (List FE)},(∀x∈bs,x.length=s∧cq x)→bs.flatten.length=bs.length*s
 |[],_=>by simp
 |b::r,h=>by
  rw[List.flatten_cons,List.length_append,yn (λx hx=>h x (by simp[hx])),(h b (by simp)).1,List.length_cons,Nat.succ_mul];omega
theorem LU(hn:n≤90000000):∀(k:Nat) (pre R:List FE),R.length≤k→pre.length+R.length=n→(∀x∈R,PbE x)→(∃bs:List (List FE),pre=bs.flatten∧∀x∈bs,x.length=20∧cq x)→
  ∃l' bs last,l'.Perm (pre++R)∧BlkE 20 l' bs last∧∀M r,cp M (n:Nat) l' 20 r→∃M',gf M' (n:Nat) (pre++R) pre.length (pre.length+20) r:=λk=>by
 induction k with
 |zero=>
  intro pre R hk hpn hR ⟨bs,hb1,hb2⟩;have :R=[]:=List.eq_nil_of_length_eq_zero (by omega);subst this;obtain⟨S,h1,h2,h3⟩:=FX pre [] [] (by simp) (by simp at hpn⊢;omega) (a:=(pre.length:Nat)) (b:=(n:Nat)) rfl (by simp at hpn⊢;omega);have :S=[]:=List.Perm.eq_nil h1;subst this;refine⟨pre++[],bs,[],List.Perm.refl _,⟨by rw[hb1],hb2,by decide,List.Pairwise.nil⟩,λM r h=>⟨M+1,iY M _ _ _ _ _ (⟨λh'=>absurd h' (by simp at hpn;omega),λ_=>⟨_,by simpa using h3,by simpa using h⟩⟩)⟩⟩
 | succ k ih=>
  intro pre R hk hpn hR hbs;by_cases hc:20≤R.length
  ·obtain⟨Ra,Rb,rfl,g1⟩:∃Ra Rb,R=Ra++Rb∧Ra.length=20:=⟨R.take 20,R.drop 20,by simp,by simp;omega⟩;simp only[List.length_append]at hk hpn hc;obtain⟨S,h1,h2,h3⟩:=FX pre Ra Rb (λx hx=>hR x (by simp[hx])) (by omega) (a:=(pre.length:Nat)) (b:=((pre.length+20:Nat):Int)) rfl (by rw[g1]);have hS:=h1.length_eq;obtain⟨bs,hb1,hb2⟩:=hbs;obtain⟨l',bs',last,f1,f2,f3⟩:=ih (pre++S) Rb (by omega) (by simp;omega) (λx hx=>hR x (by simp[hx])) ⟨bs++[S],by rw[hb1];simp,λx hx=>by
    rcases List.mem_append.1 hx with h|h
    ·exact hb2 x h
    ·simp only[List.mem_singleton]at h;subst h;exact⟨by omega,h2⟩⟩
   refine⟨l',bs',last,f1.trans ?_,f2,λM r h=>?_⟩
   ·rw[List.append_assoc];exact List.Perm.append_left _ (List.Perm.append_right _ h1)
   ·obtain⟨M',hM⟩:=f3 M r h;rw[List.length_append,hS,g1]at hM;exact⟨M'+1,iY M' _ _ _ _ _ (⟨λ_=>⟨_,by simpa using h3,by omega,hM⟩,λh'=>absurd (by omega) h'⟩)⟩
  ·obtain⟨S,h1,h2,h3⟩:=FX pre R [] hR (by omega) (a:=(pre.length:Nat)) (b:=(n:Nat)) rfl (by omega);have hS:=h1.length_eq;obtain⟨bs,hb1,hb2⟩:=hbs;refine⟨pre++S,bs,S,List.Perm.append_left _ h1,⟨by rw[hb1],hb2,by omega,h2⟩,λM r h=>⟨M+1,iY M _ _ _ _ _ (⟨λh'=>absurd h' (by omega),λ_=>⟨_,by simpa using h3,by simpa using h⟩⟩)⟩⟩
theorem KK{s:Nat}(hn:n≤90000000)(hs:0<s)(hsn:s<n):∀(k:Nat) (bs:List (List FE)) (pre last:List FE),bs.length≤k→pre.length+bs.flatten.length+last.length=n→(∀x∈pre,PbE x)→(∀x∈bs.flatten,PbE x)→(∀x∈last,PbE x)→(∀x∈bs,x.length=s∧cq x)→(last.length<s∧cq last)→(∃ps:List (List FE),pre=ps.flatten∧∀x∈ps,x.length=2*s∧cq x)→
  ∃l' bs' last',l'.Perm (pre++bs.flatten++last)∧BlkE (2*s) l' bs' last'∧∀M r,cp M (n:Nat) l' ((s:Int)*2) r→∃M',fY M' (n:Nat) (pre++bs.flatten++last) (pre.length:Nat) ((pre.length+2*s:Nat):Int) (s:Nat) r:=λk=>by
 induction k with
 |zero=>
  intro bs pre last hk hpn pp pb pl hb hl ⟨ps,hp1,hp2⟩;have :bs=[]:=List.eq_nil_of_length_eq_zero (by omega);subst this;simp only[List.flatten_nil,List.length_nil,Nat.add_zero,List.append_nil]at hpn⊢;exact⟨pre++last,ps,last,List.Perm.refl _,⟨by rw[hp1],hp2,by omega,hl.2⟩,λM r h=>⟨M+1,fH M _ _ _ _ _ _ (⟨λh'=>absurd h' (by omega),λ_=>⟨⟨by omega,by omega⟩,λh'=>absurd h' (by omega),λ_=>⟨⟨by omega,by omega⟩,h⟩⟩⟩)⟩⟩
 | succ k ih=>
  intro bs pre last hk hpn pp pb pl hb hl hps
  match bs,hk,hpn,pb,hb with
  |[],hk,hpn,pb,hb=>exact ih [] pre last (by simp) hpn pp pb pl hb hl hps
  | [b1],hk,hpn,pb,hb=>
   have h1:=hb b1 (by simp);simp only[List.flatten_cons,List.flatten_nil,List.append_nil]at hpn pb⊢;obtain⟨ps,hp1,hp2⟩:=hps;by_cases hl0:last=[]
   ·subst hl0;simp only[List.length_nil,Nat.add_zero,List.append_nil]at hpn⊢;exact⟨pre++b1,ps,b1,List.Perm.refl _,⟨by rw[hp1],hp2,by omega,h1.2⟩,λM r h=>⟨M+1,fH M _ _ _ _ _ _ (⟨λh'=>absurd h' (by omega),λ_=>⟨⟨by omega,by omega⟩,λh'=>absurd h' (by omega),λ_=>⟨⟨by omega,by omega⟩,h⟩⟩⟩)⟩⟩
   ·have hlp:0<last.length:=List.length_pos_iff.2 hl0;obtain⟨C,c1,c2,c3⟩:=AL (b1.length+last.length) pre b1 last [] (Nat.le_refl _) (by omega) hlp h1.2 hl.2 pb pl pp (by simp) (by simp;omega);have hC:=c1.length_eq;rw[List.length_append]at hC;refine⟨pre++C,ps,C,?_,⟨by rw[hp1],hp2,by omega,c2⟩,λM r h=>⟨M+1,fH M _ _ _ _ _ _ (⟨λh'=>absurd h' (by omega),λ_=>⟨⟨by omega,by omega⟩,λh'=>⟨pre++C,?_,⟨by omega,by omega⟩,h⟩,λh'=>absurd (by omega) h'⟩⟩)⟩⟩
    ·rw[List.append_assoc];exact List.Perm.append_left _ c1
    ·rw[h1.1,show pre.length+s+last.length=n by omega]at c3;rw[show((pre.length:Nat):Int)+((s:Nat):Int)=((pre.length+s:Nat):Int) by omega];simpa using c3
  | b1::b2::r0,hk,hpn,pb,hb=>
   have h1:=hb b1 (by simp);have h2:=hb b2 (by simp);simp only[List.flatten_cons,List.length_append,List.length_cons]at hpn hk;have pb':∀x,x∈b1∨x∈b2∨x∈r0.flatten→PbE x:=λx hx=>pb x (by simpa[List.flatten_cons]using hx);obtain⟨C,c1,c2,c3⟩:=AL (b1.length+b2.length) pre b1 b2 (r0.flatten++last) (Nat.le_refl _) (by omega) (by omega) h1.2 h2.2 (λx hx=>pb' x (.inl hx)) (λx hx=>pb' x (.inr (.inl hx))) pp (λx hx=>by
    rcases List.mem_append.1 hx with h|h
    ·exact pb' x (.inr (.inr h))
    ·exact pl x h) (by simp only[List.length_append];omega)
   have hC:=c1.length_eq;rw[List.length_append]at hC;obtain⟨ps,hp1,hp2⟩:=hps;obtain⟨l',bs',last',f1,f2,f3⟩:=ih r0 (pre++C) last (by omega) (by simp only[List.length_append];omega) (λx hx=>by
    rcases List.mem_append.1 hx with h|h
    ·exact pp x h
    ·rcases List.mem_append.1 (c1.mem_iff.1 h)with h|h
     ·exact pb' x (.inl h)
     ·exact pb' x (.inr (.inl h))) (λx hx=>pb' x (.inr (.inr hx))) pl (λx hx=>hb x (by simp[hx])) hl ⟨ps++[C],by rw[hp1];simp,λx hx=>by
    rcases List.mem_append.1 hx with h|h
    ·exact hp2 x h
    ·simp only[List.mem_singleton]at h;subst h;exact⟨by omega,c2⟩⟩
   refine⟨l',bs',last',f1.trans ?_,f2,λM r h=>?_⟩
   ·have :=List.Perm.append_left pre (List.Perm.append_right (r0.flatten++last) c1);simpa[List.flatten_cons]using this
   ·obtain⟨M',hM⟩:=f3 M r h;rw[h1.1,h2.1]at c3;rw[List.length_append,show C.length=2*s by omega]at hM;refine⟨M'+1,fH M' _ _ _ _ _ _ (⟨λ_=>⟨⟨by omega,by omega⟩,pre++C++r0.flatten++last,?_,⟨by omega,by omega⟩,⟨by omega,by omega⟩,?_⟩,λh'=>absurd (by omega) h'⟩)⟩
    ·rw[show((pre.length:Nat):Int)+((s:Nat):Int)=((pre.length+s:Nat):Int) by omega,show pre.length+2*s=pre.length+s+s by omega];simpa[List.flatten_cons]using c3
    ·rw[show((pre.length+2*s:Nat):Int)+2*((s:Nat):Int)=((pre.length+2*s+2*s:Nat):Int) by omega];exact hM
theorem LC(hn:n≤90000000):∀(k s:Nat) (l:List FE) (bs:List (List FE)) (last:List FE),n-s≤k→0<s→s≤180000000→l.length=n→(∀x∈l,PbE x)→BlkE s l bs last→∃r,r.Perm l∧cq r∧∃M,cp M (n:Nat) l (s:Nat) r:=λk=>by
 induction k using Nat.strongRecOn with
 | ind k ih=>
  intro s l bs last hk hs hs2 hl hp hB;have hlen:=congrArg List.length hB.e;rw[List.length_append,yn hB.b]at hlen;by_cases hc:s<n
  ·obtain⟨l',bs',last',f1,f2,f3⟩:=KK hn hs hc bs.length bs [] last (Nat.le_refl _) (by rw[yn hB.b,List.length_nil];omega) (by simp) (λx hx=>hp x (by rw[hB.e];simp only[List.mem_append];exact .inl hx)) (λx hx=>hp x (by rw[hB.e];simp only[List.mem_append];exact .inr hx)) hB.b hB.l ⟨[],rfl,by simp⟩;have f1':l'.Perm l:=by rw[hB.e];simpa using f1
   obtain⟨r,g1,g2,M,g3⟩:=ih (n-2*s) (by omega) (2*s) l' bs' last' (Nat.le_refl _) (by omega) (by omega) (by rw[f1'.length_eq];exact hl) (λx hx=>hp x (f1'.mem_iff.1 hx)) f2;obtain⟨M',hM⟩:=f3 M r (by rw[show((s:Nat):Int)*2=((2*s:Nat):Int) by omega];exact g3);refine⟨r,g1.trans f1',g2,M'+1,mC M' _ _ _ _ (⟨λ_=>⟨⟨by omega,by omega⟩,?_⟩,λh=>absurd (by omega) h⟩)⟩;rw[show 2*((s:Nat):Int)=(([]:List FE).length+2*s:Nat) by simp];rw[hB.e];simpa using hM
  ·refine⟨l,List.Perm.refl _,?_,1,mC 0 _ _ _ _ (⟨λh=>absurd h (by omega),λ_=>rfl⟩)⟩
   match bs,hB,hlen with
   |[],hB,_=>rw[hB.e];simpa using hB.l.2
   |[b],hB,hlen=>
    have h1:=hB.b b (by simp);simp only[List.length_cons,List.length_nil,Nat.zero_add,Nat.one_mul]at hlen;have :last=[]:=List.eq_nil_of_length_eq_zero (by omega);rw[hB.e,this];simpa using h1.2
   |b::b'::r,hB,hlen=>
    simp only[List.length_cons,Nat.succ_mul]at hlen;omega
theorem MG(l:List FE)(G:l.length≤90000000)(J:∀x∈l,PbE x):∃r,ec l r∧r.Perm l∧cq r:=by
 obtain⟨O,bs,last,h1,h2,U⟩:=LU G l.length [] l (Nat.le_refl _) (by simp) J ⟨[],rfl,by simp⟩;rw[List.nil_append]at h1;obtain⟨r,Z,g2,M,g3⟩:=LC G l.length 20 O bs last (by omega) (by decide) (by decide) h1.length_eq (λx hx=>J x (h1.mem_iff.1 hx)) h2;obtain⟨M',hM⟩:=U M r g3;exact⟨r,so 0 _ _ (⟨r,sJ M' _ _ _ (by simpa using hM),rfl⟩),Z.trans h1,g2⟩
theorem Bf{l r:List FE}(G:l.length≤90000000)(J:∀x∈l,PbE x)(h1:r.Perm l)(h2:cq r):ec l r:=by
 obtain⟨r',O,U,Z⟩:=MG l G J;rw[vi h2 Z (h1.trans U.symm)];exact O
theorem IE(a b:List Int)(ha:a.length≤1000000000):cD a b (decide (a=b)):=by
 by_cases hl:a.length=b.length
 ·have key:∀k i,a.length-i≤k→a.take i=b.take i→dZ (k+1) a b i (decide (a=b)):=by
   intro k
   induction k with
   |zero=>
    intro i hi ht;refine fP 0 _ _ _ _ (⟨λh=>by omega,λ_=>?_⟩);rw[List.take_of_length_le (by omega),List.take_of_length_le (by omega)]at ht;simp[ht]
   | succ k ih=>
    intro i hi ht;refine fP (k+1) _ _ _ _ (⟨λh=>?_,λh=>?_⟩)
    ·have h':i<b.length:=by omega
     refine⟨a[i],List.getElem?_eq_getElem h,b[i],List.getElem?_eq_getElem h',λhn=>?_,λhe=>ih (i+1) (by omega) ?_⟩
     ·have :a≠b:=λe=>hn (by subst e;rfl);simp[this]
     ·rw[List.take_add_one,List.take_add_one,ht,List.getElem?_eq_getElem h,List.getElem?_eq_getElem h',he]
    ·rw[List.take_of_length_le (by omega),List.take_of_length_le (by omega)]at ht;simp[ht]
  exact jq (a.length+1) _ _ _ (⟨λh=>absurd hl h,λ_=>key a.length 0 (by omega) rfl⟩)
 ·exact jq 0 _ _ _ (⟨λ_=>by
   have :a≠b:=λe=>hl (by rw[e]);simp[this],λh=>absurd h hl⟩)
variable{q:List Int}
theorem ov(i:Int)(h:q.length+1≤1000000000):bM q i (q++[i]):=wV 0 _ _ _ (⟨by omega,by simp;omega,rfl⟩)
def erC(c:CHr)(q:List Int)(k:Int):CHr:={c with L:=c.L++[⟨⟨c.Module,q⟩,k⟩]}
def erI(b:Bool)(c:CHr)(q:List Int)(k:Int):CHr:=if b=true then erC c q k else c
theorem nC{b:Bool}{c:CHr}(h:b=true):erI b c q k=erC c q k:=if_pos h
theorem lW{b:Bool}{c:CHr}(h:b=false):erI b c q k=c:=if_neg (by rw[h];decide)
theorem gM{c:CHr}(k:Int)(h1:q.length≤1000000000)(h2:c.L.length+1≤1000000000):aF c q k (erC c q k):=ss 0 _ _ _ _ (⟨h1,by simp;omega,rfl⟩)
def fE(x:Cx)(b:List Int)(k:Int):FE:=⟨⟨x.mo,x.pa++b⟩,k⟩
def ct(d:Bool)(P:FE→Bool)(f:FE):Nat:=if(d&&P f)=true then 1 else 0
theorem zg(P:FE→Bool)(d:Bool)(x:Cx)(k:Int)(b:List Int)(s:Sv):(if d=true then faP x k b s else s).fa.countP P=s.fa.countP P+ct d P (fE x b k):=by
 cases d
 ·simp[ct]
 ·simp only[if_true,faP,List.countP_append,ct,Bool.true_and,fE,List.countP_singleton]
variable{x:Cx}
theorem yI(P:FE→Bool)(d:Bool){c:CHr}(G:c.Module=x.mo)(k:Int)(b:List Int):(erI d c (x.pa++b) k).L.countP P=c.L.countP P+ct d P (fE x b k):=by
 cases d
 ·simp[ct,erI]
 ·simp only[erI,if_true,erC,List.countP_append,ct,Bool.true_and,fE,List.countP_singleton,G]
theorem iR(d:Bool)(c:CHr)(q:List Int)(k:Int):(erI d c q k).P=c.P∧(erI d c q k).Module=c.Module∧(erI d c q k).Want=c.Want∧(erI d c q k).L.length≤c.L.length+1:=by
 cases d
 ·exact⟨rfl,rfl,rfl,by simp[erI]⟩
 ·exact⟨rfl,rfl,rfl,by simp[erI,erC]⟩
def goT(c:CHr):Ty:=⟨c.Got_Known,.node c.Got_T_Kind c.Got_T_Text c.Got_T_Leads c.Got_T_Kids⟩
def GR(x:Cx)(s:Sv)(c:CHr):Prop:=c.Want=[]∨(c.Want=x.wp∧x.mo=x.wm∧TyR ⟨s.rs,s.rl⟩ (goT c)∧s.rl≤1000000000)
variable{s:Sv}
theorem GR.er{c:CHr}(d:Bool)(q:List Int)(k:Int)(h:GR x s c):GR x s (erI d c q k):=by
 cases d
 ·exact h
 ·exact h
theorem GR.fa{c:CHr}(d:Bool)(b:List Int)(k:Int)(h:GR x s c):GR x (if d=true then faP x k b s else s) c:=by
 cases d
 ·exact h
 ·exact h
structure DR (x:Cx) (s s':Sv) (c c':CHr):Prop where
 P:c'.P=c.P
 M:c'.Module=c.Module
 W:c'.Want=c.Want
 d:∀P:FE→Bool,c'.L.countP P+s.fa.countP P=c.L.countP P+s'.fa.countP P
 g:GR x s c→GR x s' c'
theorem DR.refl(x:Cx)(s:Sv)(c:CHr):DR x s s c c:=⟨rfl,rfl,rfl,λ_=>rfl,id⟩
theorem DR.trans{s1 G:Sv}{c J O:CHr}(h:DR x s s1 c J)(k:DR x s1 G J O):DR x s G c O:=
 ⟨k.P.trans h.P,k.M.trans h.M,k.W.trans h.W,λP=>by have :=h.d P;have :=k.d P;omega,λg=>k.g (h.g g)⟩
theorem DR.er{c:CHr}(G:c.Module=x.mo)(d:Bool)(b:List Int)(k:Int):DR x s (if d=true then faP x k b s else s) c (erI d c (x.pa++b) k):=
 ⟨(iR ..).1,(iR ..).2.1,(iR ..).2.2.1,λP=>by rw[zg,yI P d G];omega,λg=>(g.er d _ _).fa d _ _⟩
variable{s':Sv}{c':CHr}
theorem DR.len{c:CHr}(h:DR x s s' c c'):c'.L.length+s.fa.length=c.L.length+s'.fa.length:=by
 have :=h.d (λ_=>true);simpa[List.countP_true]using this
structure RX (x:Cx) (c:CHr):Prop where
 P:c.P=x.p
 M:c.Module=x.mo
 ok:aR x.p=true
 hb:kbulk x.p≤10000000
 m0:0≤x.mo
 m1:x.mo<x.p.length
 sg:x.sg=sgM x.p x.p 0 []
theorem RX.to{c:CHr}(h:RX x c)(d:DR x s s' c c'):RX x c':=⟨d.P.trans h.P,d.M.trans h.M,h.ok,h.hb,h.m0,h.m1,h.sg⟩
theorem RX.er{c:CHr}(h:RX x c)(d:Bool)(q:List Int)(k:Int):RX x (erI d c q k):=⟨(iR ..).1.trans h.P,(iR ..).2.1.trans h.M,h.ok,h.hb,h.m0,h.m1,h.sg⟩
def Fh:Env→List Bd→Prop
 |[],[]=>True
 |b::r,e::q=>e.Name=b.name∧TyR b.typ e.T∧Fh r q
 |_,_=>False
def nb(env:Env)(en:List Bd):Prop:=Fh env en.reverse
variable{env:Env}{en:List Bd}
theorem nb.cons{w:List UInt8}{k:Kn}{y:Ty}(h:nb env en)(hy:TyR k y):nb (⟨w,k⟩::env) (en++[⟨w,y⟩]):=by
 unfold nb;rw[List.reverse_append];exact⟨rfl,hy,h⟩
def QP(x:Cx)(t:Tree)(s:Sv):Prop:=∃rest,s.tg=aO x.p x.mo (nodK t x.pa)++rest
def NA(x:Cx)(t:Tree)(c:CHr):Prop:=∀q u,(q,u)∈nodK t x.pa→u.kind=17→q≠c.Want
def su(E:Ev)(N:Nat):Prop:=∀t,tbulk t≤N→exT t→∀x env s en c L,Hyp x env s L (tbulk t) (uN t)→RX x c→nb env en→QP x t s→NA x t c→c.L.length≤s.fa.length→en.length+tbulk t≤100000000→
 ∃y c',aM c t x.pa en y c'∧TyR (E x t env s).1 y∧DR x s (E x t env s).2 c c'
theorem BY(t:Tree):Tree.node t.kind t.text t.leads t.kids=t:=by cases t;rfl
variable{u:Tree}
theorem Ef{c O:CHr}{r:Kn×Sv}{y:Ty}(hl:x.pa.length+1≤1000000000)(h1:aM c u (x.pa++[(i:Int)]) en y O)(h2:TyR r.1 y)(G:DR x s r.2 c O)(hk:r.1.lists≤1000000000):
  ∃c',dQ c u (x.pa++[(i:Int)]) en y c'∧DR x s (wg x i r).2 c c':=by
 obtain⟨k,s1⟩:=r;have hp:=IE (x.pa++[(i:Int)]) O.Want (by simp;omega);have Z:(wg x i (k,s1)).2.fa=s1.fa:=yO x i k s1;by_cases hw:O.Want=[]
 ·refine⟨O,rS_semvcsref08_Check_expr 0 _ _ _ _ _ _ (⟨_,_,h1,λh=>absurd h (by rw[hw];simp),λ_=>⟨rfl,rfl⟩⟩),G.P,G.M,G.W,λP=>?_,λ_=>.inl hw⟩;rw[Z];exact G.d P
 ·have U:(0:Int)<((O.Want.length:Nat):Int):=by
   have :=List.length_pos_iff.2 hw;omega
  by_cases he:x.pa++[(i:Int)]=O.Want
  ·rw[decide_eq_true he]at hp;refine⟨_,rS_semvcsref08_Check_expr 0 _ _ _ _ _ _ (⟨_,_,h1,λ_=>⟨true,hp,λ_=>⟨rfl,rfl⟩,λh=>(by cases h)⟩,λh=>absurd U h⟩),G.P,G.M,G.W,λP=>?_,λg=>?_⟩
   ·rw[Z];exact G.d P
   ·rcases G.g g with J|⟨J,g2,g3⟩
    ·exact absurd J hw
    ·refine .inr ⟨J,g2,?_⟩;have e:(wg x i (k,s1)).2={s1 with rs:=k.simple,rl:=k.lists}:=if_pos ⟨g2,he.trans J⟩;rw[e];simp only[goT,BY];exact⟨h2,hk⟩
  ·rw[decide_eq_false he]at hp;refine⟨O,rS_semvcsref08_Check_expr 0 _ _ _ _ _ _ (⟨_,_,h1,λ_=>⟨false,hp,λh=>(by cases h),λ_=>⟨rfl,rfl⟩⟩,λh=>absurd U h⟩),G.P,G.M,G.W,λP=>?_,λg=>?_⟩
   ·rw[Z];exact G.d P
   ·rcases G.g g with J|⟨J,g2,g3⟩
    ·exact absurd J hw
    ·have e:(wg x i (k,s1)).2=s1:=if_neg λh=>he (h.2.trans J.symm);rw[e];exact .inr ⟨J,g2,g3⟩
theorem rU(q:List Int)(hu:t.kids[i]?=some u):∀z,z∈nodK u (q++[(i:Int)])→z∈nodK t q:=by
 have key:∀(l:List Tree) (j i:Nat),l[i]?=some u→∀z,z∈nodK u (q++[((j+i:Nat):Int)])→z∈nodKs l q j:=by
  intro l
  induction l with
  |nil=>intro j i h;simp at h
  | cons a r ih=>
   intro j i h z hz;cases i with
   |zero=>
    simp only[List.getElem?_cons_zero,Option.some.injEq]at h;subst h;simp only[nodKs,List.mem_append];exact .inl hz
   |succ i=>
    simp only[nodKs,List.mem_append];refine .inr (ih (j+1) i (by simpa using h) z ?_);rw[show j+1+i=j+(i+1) by omega];exact hz
 intro z hz;rw[dF];exact List.mem_cons_of_mem _ (key t.kids 0 i hu z (by simpa using hz))
variable{E:Ev}{N L:Nat}
theorem lE(hG:lJ E N)(hR:su E N){c:CHr}(O:t.kids[i]?=some u)(hb:tbulk u≤N)(hx:exT u)(hy:Hyp x env s L (tbulk u+1) (uN u))(G:RX x c)(hE:nb env en)(hQ:∃rest,s.tg=aO x.p x.mo (nodK u (x.pa++[(i:Int)]))++rest)(hN:NA x t c)(hl:c.L.length≤s.fa.length)(U:en.length+tbulk u≤100000000):
  ∃y c',aQ c t x.pa i en y c'∧TyR (aA E x t i env s).1 y∧DR x s (aA E x t i env s).2 c c'∧c'.L.length≤(aA E x t i env s).2.fa.length:=by
 have hp:=hy.pa;have hlb:=hy.lb;have hgk:=(hG u hb hx (x.go i) env s L ⟨by simp[Cx.go];omega,by have :=hy.fa;omega,hy.tg,by have :=hy.lb;omega,hy.env,hy.sg⟩).2.k.2;obtain⟨y,c1,h1,h2,J⟩:=hR u hb hx (x.go i) env s en c L ⟨by simp[Cx.go];omega,by have :=hy.fa;omega,hy.tg,by have :=hy.lb;omega,hy.env,hy.sg⟩ ⟨G.P,G.M,G.ok,G.hb,G.m0,G.m1,G.sg⟩ hE hQ (λq v hm hk=>hN q v (rU x.pa O _ hm) hk) hl U;have e:aA E x t i env s=wg x i (E (x.go i) u env s):=by unfold aA;rw[dl O]
 rw[e];obtain⟨c',g1,Z⟩:=Ef (x:=x) (i:=i) (s:=s) (by omega) h1 h2 ⟨J.P,J.M,J.W,J.d,J.g⟩ (by omega);refine⟨y,c',mF 0 _ _ _ _ _ _ _ (⟨i,rfl,u,O,_,ov i (by omega),_,_,g1,rfl,rfl⟩),?_,Z,?_⟩
 ·generalize E (x.go i) u env s=r at h2⊢;obtain⟨k,s'⟩:=r;exact h2
 ·have :=Z.len;omega
theorem wK(d:Bool)(x:Cx)(k:Int)(b:List Int)(s:Sv):(if d=true then faP x k b s else s).tg=s.tg∧(if d=true then faP x k b s else s).fa.length≤s.fa.length+1∧s.fa.length≤(if d=true then faP x k b s else s).fa.length:=by
 cases d
 ·exact⟨rfl,by simp,by simp⟩
 ·exact⟨rfl,by simp[faP],by simp[faP]⟩
theorem iP{a:Tree}{r:List Tree}{l rest:List ar}(h:l=aO x.p x.mo (nodKs (a::r) x.pa i)++rest):l=aO x.p x.mo (nodK a (x.pa++[(i:Int)]))++(aO x.p x.mo (nodKs r x.pa (i+1))++rest):=by
 rw[h,nodKs,kO,List.append_assoc]
theorem rx{a:Tree}{r:List Tree}{l G rest:List ar}(h:l=aO x.p x.mo (nodKs (a::r) x.pa i)++rest)(h':G=l.drop (uN a)):G=aO x.p x.mo (nodKs r x.pa (i+1))++rest:=by
 rw[h',iP h,←tgs_uN x.p x.mo a (x.pa++[(i:Int)]),List.drop_left]
theorem zf(h:QP x t s)(G:cP t=false):∃rest,s.tg=aO x.p x.mo (nodKs t.kids x.pa 0)++rest:=by
 obtain⟨r,h⟩:=h;refine⟨r,?_⟩;rw[h,dF,aO,G];rfl
variable{m:Nat}
theorem k_low{c:CHr}{y:Ty}(G:t.kind≠10∧t.kind≠11∧t.kind≠13∧t.kind≠14)(h:dA m c t q en false y c'):aM c t q en y c':=
 rS_semvcsref08_Check_kind m _ _ _ _ _ _ (⟨λh=>absurd h G.1,λ_=>⟨λh=>absurd h G.2.1,λ_=>⟨λh=>absurd h G.2.2.1,λ_=>by rw[beq_eq_false_iff_ne.2 G.2.2.2];exact h⟩⟩⟩)
theorem Dk{c:CHr}{t:Tree}{q:List Int}{en:List Bd}(hq:q.length≤1000000000)(hL:c.L.length+1≤1000000000):∀(env:Env) (l tail:List Bd),Fh env l→en=l.reverse++tail→l.length≤1000000000→
  (∀k,ic t.text env=some k→∃y,TyR k y∧cI (env.length+1) c t q en ((l.length:Int)-1) y c)∧(ic t.text env=none→cI (env.length+1) c t q en ((l.length:Int)-1) noY (erC c q 1))
 |[],[],tail,_,he,_=>⟨λk h=>(by cases h),λ_=>eQ 0 _ _ _ _ _ _ _ (⟨λh=>absurd h (by simp),λ_=>⟨_,gM 1 hq hL,rfl,rfl⟩⟩)⟩
 |[],e::l,tail,h,_,_=>h.elim
 |b::r,[],tail,h,_,_=>h.elim
 | b::r,e::l,tail,h,he,hl=>by
  obtain⟨h1,h2,h3⟩:=h;have hg:en[l.length]?=some e:=by
   rw[he,List.reverse_cons,List.append_assoc,List.getElem?_append_right (by simp)];simp
  have ez:(((e::l).length:Nat):Int)-1=((l.length:Nat):Int):=by simp
  rw[ez];simp only[List.length_cons]at hl;obtain⟨i1,i2⟩:=Dk (c:=c) (t:=t) (en:=en) hq hL r l (e::tail) h3 (by rw[he];simp) (by omega);by_cases hb:b.name=t.text
  ·have hv:ic t.text (b::r)=some b.typ:=if_pos hb;rw[hv];refine⟨λk hk=>?_,λh=>(by cases h)⟩;injection hk with hk
   subst hk;exact⟨e.T,h2,eQ (r.length+1) _ _ _ _ _ _ _ (⟨λ_=>⟨l.length,rfl,e,hg,λ_=>⟨l.length,rfl,e,hg,rfl,rfl⟩,λhn=>absurd (h1.trans hb) hn⟩,λh=>absurd (by omega) h⟩)⟩
  ·have hv:ic t.text (b::r)=ic t.text r:=if_neg hb;rw[hv];refine⟨λk hk=>?_,λhk=>?_⟩
   ·obtain⟨y,g1,g2⟩:=i1 k hk;exact⟨y,g1,eQ (r.length+1) _ _ _ _ _ _ _ (⟨λ_=>⟨l.length,rfl,e,hg,λhn=>absurd (h1.symm.trans hn) hb,λ_=>⟨⟨by omega,by omega⟩,g2⟩⟩,λh=>absurd (by omega) h⟩)⟩
   ·exact eQ (r.length+1) _ _ _ _ _ _ _ (⟨λ_=>⟨l.length,rfl,e,hg,λhn=>absurd (h1.symm.trans hn) hb,λ_=>⟨⟨by omega,by omega⟩,i2 hk⟩⟩,λh=>absurd (by omega) h⟩)
theorem KX{s:Sv}{c:CHr}(G:t.kind=12)(J:RX x c)(O:nb env en)(U:x.pa.length≤1000000000)(Z:c.L.length+1≤1000000000)(hn:en.length≤1000000000):
  ∃y c',aM c t x.pa en y c'∧TyR (qv x s (ic t.text env)).1 y∧DR x s (qv x s (ic t.text env)).2 c c':=by
 obtain⟨h1,h2⟩:=Dk (t:=t) (en:=en) U Z env en.reverse [] O (by simp) (by simpa using hn);rw[List.length_reverse]at h1 h2;have go:∀y c',cI (env.length+1) c t x.pa en ((en.length:Int)-1) y c'→aM c t x.pa en y c':=λy c' h=>
  k_low (m:=env.length+2) (by omega) (bc (env.length+1) _ _ _ _ _ _ _ (⟨λh=>(by cases h),λ_=>⟨λ_=>h,λh=>absurd G h⟩⟩))
 cases hv:ic t.text env with
 |some k=>
  obtain⟨y,g1,g2⟩:=h1 k hv;exact⟨y,c,go _ _ g2,g1,DR.refl ..⟩
 |none=>
  have :=DR.er (s:=s) J.M true [] 1;rw[List.append_nil]at this;exact⟨noY,_,go _ _ (h2 hv),TyR.no,this⟩
def ifY(y z:Ty):Ty:=if y.Known=true then y else z
theorem OG{y z:Ty}{c:CHr}(G:TyR a y)(hb:TyR b z)(J:q.length+1≤1000000000)(O:c.L.length+1≤1000000000)(m:Nat):fy (m+1) q y z c (ifY y z) (erI (aS a b) c (q++[2]) 6):=by
 refine qq m _ _ _ _ _ _ (⟨_,lF G hb,λh=>⟨_,ov 2 J,_,gM 6 (by simp;omega) O,λk=>?_,λk=>?_⟩,λh=>⟨λk=>?_,λk=>?_⟩⟩)
 ·exact⟨(if_pos k).symm,(nC h).symm⟩
 ·exact⟨(if_neg (by rw[k];decide)).symm,(nC h).symm⟩
 ·exact⟨(if_pos k).symm,(lW h).symm⟩
 ·exact⟨(if_neg (by rw[k];decide)).symm,(lW h).symm⟩
theorem Nb{y z:Ty}(G:TyR a y)(hb:TyR b z):TyR (if a.simple=0 then b else a) (ifY y z):=by
 unfold ifY;cases hy:y.Known
 ·rw[if_pos (G.un hy),if_neg (by decide)];exact hb
 ·rw[if_neg (G.kn hy),if_pos rfl];exact G
theorem Mh(hG:lJ E N)(hR:su E N){c:CHr}(hb:tbulk t≤N+1)(hx:exT t)(hk:t.kind=19)(hy:Hyp x env s L (tbulk t) (uN t))(hX:RX x c)(hE:nb env en)(hQ:QP x t s)(hN:NA x t c)(hl:c.L.length≤s.fa.length)(hen:en.length+tbulk t≤100000000):
  ∃y c',aM c t x.pa en y c'∧TyR (ifP E x t env s).1 y∧DR x s (ifP E x t env s).2 c c':=by
 obtain⟨a,b,d,e⟩:=Kx ((nZ hx).2.2.1 hk);have ha:t.kids[0]?=some a:=by rw[e];rfl
 have J:t.kids[1]?=some b:=by rw[e];rfl
 have hd:t.kids[2]?=some d:=by rw[e];rfl
 have hB:=bp t;rw[e]at hB;simp only[kbulk]at hB;have hU:uN t=uN a+(uN b+uN d):=by rw[fZ,e,hk];simp[uNs]
 have p0:=hy.pa;have p1:=hy.fa;have p2:=hy.tg;have p3:=hy.lb;obtain⟨rest,hq⟩:=zf hQ (by simp[cP,hk]);rw[e]at hq;have H0:=hy.to (s1:=s) (B':=tbulk a+1) (u':=uN a) (by omega) (by omega) (by omega);obtain⟨_,A2⟩:=da hG (s:=s) (env:=env) (x:=x) (L:=L) ha (by omega) (cv hx ha (by omega)).1 H0;obtain⟨y1,c1,R1a,R1b,R1c,R1d⟩:=lE hG hR ha (by omega) (cv hx ha (by omega)).1 H0 hX hE ⟨_,iP hq⟩ hN hl (by omega);have G:=rx hq A2.tg;unfold ifP;generalize aA E x t 0 env s=r at A2 R1b R1c R1d G⊢;obtain⟨k1,s1⟩:=r;simp only at G;have q1:=A2.fa;simp only at q1;obtain⟨v1,v2,v3⟩:=wK (aS k1 ⟨7,0⟩) x 4 [0] s1;have hs1:ifS x (k1,s1)=(if aS k1 ⟨7,0⟩=true then faP x 4 [0] s1 else s1):=rfl;rw[←hs1]at v1 v2 v3;have n1:NA x t c1:=λq u h1 h2=>by rw[R1c.W];exact hN q u h1 h2
 have H1:=hy.to (s1:=ifS x (k1,s1)) (B':=tbulk b+1) (u':=uN b) (by omega) (by omega) (by rw[v1];exact pr (v:=uN t) A2.tg (by omega) p2);rw[←v1]at G;obtain⟨_,B2⟩:=da hG (s:=ifS x (k1,s1)) (env:=env) (x:=x) (L:=L) J (by omega) (cv hx J (by omega)).1 H1;obtain⟨y2,c2,R2a,R2b,R2c,R2d⟩:=lE hG hR J (by omega) (cv hx J (by omega)).1 H1 (hX.to R1c) hE ⟨_,iP G⟩ n1 (by simp only at R1d;omega) (by omega);have U:=rx G B2.tg;generalize aA E x t 1 env (ifS x (k1,s1))=r at B2 R2b R2c R2d U⊢;obtain⟨O,s2⟩:=r;simp only at U;have q2:=B2.fa;simp only at q2;have n2:NA x t c2:=λq u h1 h2=>by rw[R2c.W];exact n1 q u h1 h2
 have H2:=hy.to (s1:=s2) (B':=tbulk d+1) (u':=uN d) (by omega) (by omega) (by have h1:=B2.tg;have h2:=A2.tg;simp only at h1 h2;rw[h1,v1,h2,List.drop_drop,List.length_drop];omega);obtain⟨_,C2⟩:=da hG (s:=s2) (env:=env) (x:=x) (L:=L) hd (by omega) (cv hx hd (by omega)).1 H2;obtain⟨y3,Z,R3a,R3b,R3c,R3d⟩:=lE hG hR hd (by omega) (cv hx hd (by omega)).1 H2 ((hX.to R1c).to R2c) hE ⟨_,iP U⟩ n2 R2d (by omega);show∃y c',aM c t x.pa en y c'∧TyR (ifQ x O (aA E x t 2 env s2)).1 y∧DR x s (ifQ x O (aA E x t 2 env s2)).2 c c';generalize aA E x t 2 env s2=r at C2 R3b R3c R3d⊢;obtain⟨k3,s3⟩:=r;simp only at R1b R2b R3b R1d R2d R3d;have q3:=C2.fa;simp only at q3;have X3:=((hX.to R1c).to R2c).to R3c;obtain⟨f1,f2,f3,f4⟩:=iR (aS k1 ⟨7,0⟩) Z (x.pa++[0]) 4;obtain⟨g1,g2,g3,g4⟩:=iR (aS O k3) (erI (aS k1 ⟨7,0⟩) Z (x.pa++[0]) 4) (x.pa++[2]) 6;have hL2:=OG (q:=x.pa) (c:=erI (aS k1 ⟨7,0⟩) Z (x.pa++[0]) 4) R2b R3b (by omega) (by omega) 0;have l1:=R1c.len;have l2:=R2c.len;have l3:=R3c.len;simp only at l1 l2 l3;refine⟨ifY y2 y3,erI (aS O k3) (erI (aS k1 ⟨7,0⟩) Z (x.pa++[0]) 4) (x.pa++[2]) 6,k_low (m:=2) (by omega) (bc 1 _ _ _ _ _ _ _ (⟨λh=>(by cases h),λ_=>⟨λh=>absurd h (by omega),λ_=>⟨λh=>absurd h (by omega),λ_=>⟨λh=>absurd h (by omega),λ_=>⟨λ_=>⟨y1,c1,R1a,y2,c2,R2a,y3,Z,R3a,_,ik 7,_,lF R1b (TyR.leaf (by decide) (by decide)),λh=>⟨_,ov 0 (by omega),_,gM 4 (by simp;omega) (by omega),?_⟩,λh=>?_⟩,λh=>absurd hk h⟩⟩⟩⟩⟩)),?_,?_⟩
 ·rw[←nC (c:=Z) (q:=x.pa++[0]) (k:=4) h];exact hL2
 ·rw[lW (c:=Z) (q:=x.pa++[0]) (k:=4) h]at hL2⊢;exact hL2
 ·exact Nb R2b R3b
 ·refine⟨?_,?_,?_,λP=>?_,λg=>?_⟩
  ·rw[g1,f1,R3c.P,R2c.P,R1c.P]
  ·rw[g2,f2,R3c.M,R2c.M,R1c.M]
  ·rw[g3,f3,R3c.W,R2c.W,R1c.W]
  ·have z1:=R1c.d P;have z2:=R2c.d P;have z3:=R3c.d P;have z4:=zg P (aS k1 ⟨7,0⟩) x 4 [0] s1;rw[←hs1]at z4;have z5:=yI P (aS k1 ⟨7,0⟩) X3.M 4 [0];have z6:=yI P (aS O k3) (X3.er (aS k1 ⟨7,0⟩) (x.pa++[0]) 4).M 6 [2];have z7:=zg P (aS O k3) x 6 [2] s3;simp only at z1 z2 z3;show List.countP P _+_=_+List.countP P (if aS O k3=true then faP x 6 [2] s3 else s3).fa;omega
  ·exact(((R3c.g (R2c.g ((R1c.g g).fa (aS k1 ⟨7,0⟩) [0] 4))).er _ _ _).er _ _ _).fa (aS O k3) [2] 6
theorem LI(Z:lJ E N)(hR:su E N){c:CHr}(hb:tbulk t≤N+1)(hx:exT t)(O:t.kind=20)(hy:Hyp x env s L (tbulk t) (uN t))(hX:RX x c)(hE:nb env en)(hQ:QP x t s)(hN:NA x t c)(hl:c.L.length≤s.fa.length)(hen:en.length+tbulk t≤100000000):
  ∃y c',aM c t x.pa en y c'∧TyR (BI E x t env (aA E x t 0 env s)).1 y∧DR x s (BI E x t env (aA E x t 0 env s)).2 c c':=by
 obtain⟨a,b,e⟩:=AM ((nZ hx).2.1 O);have U:t.kids[0]?=some a:=by rw[e];rfl
 have J:t.kids[1]?=some b:=by rw[e];rfl
 have hB:=bp t;rw[e]at hB;simp only[kbulk]at hB;have hU:uN t=uN a+uN b:=by rw[fZ,e,O];simp[uNs]
 have p0:=hy.pa;have p1:=hy.fa;have p2:=hy.tg;have p3:=hy.lb;obtain⟨rest,hq⟩:=zf hQ (by simp[cP,O]);rw[e]at hq;have H0:=hy.to (s1:=s) (B':=tbulk a+1) (u':=uN a) (by omega) (by omega) (by omega);obtain⟨_,A2⟩:=da Z (s:=s) (env:=env) (x:=x) (L:=L) U (by omega) (cv hx U (by omega)).1 H0;obtain⟨y1,c1,R1a,R1b,R1c,R1d⟩:=lE Z hR U (by omega) (cv hx U (by omega)).1 H0 hX hE ⟨_,iP hq⟩ hN hl (by omega);have G:=rx hq A2.tg;generalize aA E x t 0 env s=r at A2 R1b R1c R1d G⊢;obtain⟨k1,s1⟩:=r;simp only at G R1b R1d;have q1:=A2.fa;have qk:=A2.k;simp only at q1 qk;have n1:NA x t c1:=λq u h1 h2=>by rw[R1c.W];exact hN q u h1 h2
 have H1:Hyp x (⟨t.text,k1⟩::env) s1 (L+tbulk a) (tbulk b+1) (uN b):=⟨by omega,by omega,pr (v:=uN t) A2.tg (by omega) p2,by omega,λc hc=>by
   rcases List.mem_cons.1 hc with rfl|hc
   ·exact qk
   ·exact(hy.env c hc).mono (by omega),λk g hg=>(hy.sg k g hg).mono (by omega)⟩
 obtain⟨y2,c2,R2a,R2b,R2c,R2d⟩:=lE Z hR J (by omega) (cv hx J (by omega)).1 H1 (hX.to R1c) (hE.cons (w:=t.text) R1b) ⟨_,iP G⟩ n1 R1d (by simp;omega);refine⟨y2,c2,k_low (m:=2) (by omega) (bc 1 _ _ _ _ _ _ _ (⟨λh=>(by cases h),λ_=>⟨λh=>absurd h (by omega),λ_=>⟨λh=>absurd h (by omega),λ_=>⟨λh=>absurd h (by omega),λ_=>⟨λh=>absurd h (by omega),λ_=>⟨λ_=>⟨y1,c1,R1a,by omega,by simp;omega,y2,c2,R2a,qo 0 _ _ _ _ (⟨rfl,rfl⟩)⟩,λh=>absurd O h⟩⟩⟩⟩⟩⟩)),R2b,R1c.trans R2c⟩
def sG(a b:Kn)(y z:Ty):Ty:=if okB a=true then y else if okB b=true then z else noY
theorem MW(h:okB a=true):a.simple≠0:=by
 intro G;simp[okB,G]at h
theorem LF{y z:Ty}(G:TyR a y)(hb:TyR b z):TyR (qw a b) (sG a b y z):=by
 unfold qw sG ro;cases h1:okB a
 ·cases h2:okB b
  ·simp only[Bool.false_eq_true,if_false];exact TyR.no
  ·simp only[Bool.false_eq_true,if_false,if_true];exact hb
 ·have :=MW h1;simp only[if_true,this,if_false,ite_self];exact G
theorem uw(h:(a.simple==5&&a.lists==0)=false):(a.simple==6&&a.lists==0)=okB a:=by unfold okB;rw[h,Bool.false_or]
theorem AX(h:(a.simple==5&&a.lists==0)=true):okB a=true:=by unfold okB;rw[h,Bool.true_or]
theorem Pw{y z:Ty}{c:CHr}(hb:TyR b z)(m:Nat):fK (m+1) y z c (okB a) (sG a b y z) c:=by
 refine rf m _ _ _ _ _ _ (⟨λh=>⟨by unfold sG;rw[if_pos h],rfl⟩,λh=>⟨_,sT hb (by decide) (by decide),λJ=>⟨?_,rfl⟩,λJ=>⟨_,sT hb (by decide) (by decide),λG=>⟨?_,rfl⟩,λG=>⟨?_,rfl⟩⟩⟩⟩)
 ·unfold sG;rw[if_neg (by rw[h];decide),if_pos (AX J)]
 ·rw[uw J]at G;unfold sG;rw[if_neg (by rw[h];decide),if_pos G]
 ·rw[uw J]at G;unfold sG;rw[if_neg (by rw[h];decide),if_neg (by rw[G];decide)];rfl
theorem Kh{y z:Ty}{c:CHr}(J:TyR a y)(hb:TyR b z)(m:Nat):dO (m+2) y z c (sG a b y z) c:=by
 have G:=Pw (a:=a) (y:=y) (c:=c) hb m;refine ri (m+1) _ _ _ _ _ (⟨_,sT J (by decide) (by decide),λh=>?_,λh=>⟨_,sT J (by decide) (by decide),?_⟩⟩)
 ·rw[AX h]at G;exact G
 ·rw[uw h];exact G
variable{q1:List Int}
theorem Gf{y z:Ty}{c:CHr}(G:TyR a y)(hb:TyR b z)(f:Bool)(O:q1.length≤1000000000)(U:c.L.length+1≤1000000000)(m:Nat):cX (m+3) q1 y z c f (sG a b y z) (erI (!f&&aS a b) c q1 6):=by
 refine qX (m+2) _ _ _ _ _ _ _ (⟨λh=>⟨_,lF G hb,λJ=>⟨_,gM 6 O U,?_⟩,λJ=>?_⟩,λh=>?_⟩)
 ·rw[h,J];exact Kh G hb m
 ·rw[h,J];exact Kh G hb m
 ·rw[h];exact Kh G hb m
theorem GE{y z:Ty}{c:CHr}(O:TyR a y)(hb:TyR b z)(f:Bool)(G:q1.length≤1000000000)(Z:c.L.length+2≤1000000000)(m:Nat):cS (m+4) q1 y z c f (sG a b y z) (erI (!(f||bad b)&&aS a b) (erI (bad b) c q1 4) q1 6):=by
 have hk:=hb.known;refine rh (m+3) _ _ _ _ _ _ _ (⟨λh=>⟨_,sT hb (by decide) (by decide),λU=>⟨_,sT hb (by decide) (by decide),λJ=>⟨_,gM 4 G (by omega),?_⟩,λJ=>?_⟩,λU=>?_⟩,λh=>?_⟩)
 ·rw[uw U]at J;have e:bad b=true:=by unfold bad;rw[J];simp[hb.kn h]
  rw[e,Bool.or_true];exact Gf O hb true G (by simp[erC];omega) m
 ·rw[uw U]at J;have e:bad b=false:=by unfold bad;rw[J];rfl
  rw[e,Bool.or_false];exact Gf O hb f G (by omega) m
 ·have e:bad b=false:=by unfold bad;rw[AX U];rfl
  rw[e,Bool.or_false];exact Gf O hb f G (by omega) m
 ·have e:bad b=false:=by unfold bad;simp[hb.un h]
  rw[e,Bool.or_false];exact Gf O hb f G (by omega) m
def JK(w:List UInt8):Ty:=if w=[60]then⟨true,.node 7 [] [] []⟩else⟨true,.node 5 [] [] []⟩
theorem NK{z:Ty}{c:CHr}(hb:TyR b z)(J:q1.length≤1000000000)(O:c.L.length+1≤1000000000)(m:Nat):fI (m+1) t q1 z c (JK t.text) (erI (aS b ⟨5,0⟩) c q1 4):=by
 refine qY m _ _ _ _ _ _ (⟨_,ik 5,_,lF hb (TyR.leaf (by decide) (by decide)),λh=>⟨_,gM 4 J O,λG=>⟨_,ik 7,?_,?_⟩,λG=>⟨_,ik 5,?_,?_⟩⟩,λh=>⟨λG=>⟨_,ik 7,?_,?_⟩,λG=>⟨_,ik 5,?_,?_⟩⟩⟩)
 ·exact(if_pos G).symm
 ·exact(nC h).symm
 ·exact(if_neg G).symm
 ·exact(nC h).symm
 ·exact(if_pos G).symm
 ·exact(lW h).symm
 ·exact(if_neg G).symm
 ·exact(lW h).symm
def Gc(w:List UInt8)(a b:Kn)(y z:Ty):Ty:=if w=[43]then sG a b y z else if w=[61,61]then⟨true,.node 7 [] [] []⟩else JK w
def GA(w:List UInt8)(a b:Kn)(q0 q1:List Int)(c:CHr):CHr:=if w=[43]then erI (!(bad a||bad b)&&aS a b) (erI (bad b) (erI (bad a) c q0 4) q1 4) q1 6 else if w=[61,61]then erI (aS a b) c q1 6 else erI (aS b ⟨5,0⟩) (erI (aS a ⟨5,0⟩) c q0 4) q1 4
theorem Pu{q0:List Int}{y z:Ty}{c:CHr}(U:TyR a y)(hb:TyR b z)(Z:q0.length≤1000000000)(O:q1.length≤1000000000)(hL:c.L.length+3≤1000000000):iX 6 t q0 q1 y z c (Gc t.text a b y z) (GA t.text a b q0 q1 c):=by
 have l1:=(iR (bad a) c q0 4).2.2.2;have l2:=(iR (aS a ⟨5,0⟩) c q0 4).2.2.2;unfold Gc GA;refine qV 5 _ _ _ _ _ _ _ _ (⟨λJ=>⟨λh=>⟨_,sT U (by decide) (by decide),λh5=>⟨_,sT U (by decide) (by decide),λh6=>⟨_,gM 4 Z (by omega),?_⟩,λh6=>?_⟩,λh5=>?_⟩,λh=>?_⟩,λJ=>⟨λG=>⟨_,lF U hb,λh=>⟨_,gM 6 O (by omega),_,ik 7,?_,?_⟩,λh=>⟨_,ik 7,?_,?_⟩⟩,λG=>⟨_,ik 5,_,lF U (TyR.leaf (by decide) (by decide)),λh=>⟨_,gM 4 Z (by omega),?_⟩,λh=>?_⟩⟩⟩)
 ·rw[uw h5]at h6;have e:bad a=true:=by unfold bad;rw[h6];simp[U.kn h]
  rw[if_pos J,if_pos J,e];exact GE U hb true O (by simp[erC];omega) 1
 ·rw[uw h5]at h6;have e:bad a=false:=by unfold bad;rw[h6];rfl
  rw[if_pos J,if_pos J,e];exact GE U hb false O (by omega) 1
 ·have e:bad a=false:=by unfold bad;rw[AX h5];rfl
  rw[if_pos J,if_pos J,e];exact GE U hb false O (by omega) 1
 ·have e:bad a=false:=by unfold bad;simp[U.un h]
  rw[if_pos J,if_pos J,e];exact GE U hb false O (by omega) 1
 ·rw[if_neg J,if_pos G]
 ·rw[if_neg J,if_pos G];exact(nC h).symm
 ·rw[if_neg J,if_pos G]
 ·rw[if_neg J,if_pos G];exact(lW h).symm
 ·rw[if_neg J,if_neg G,if_neg J,if_neg G,h];exact NK hb O (by simp[erC];omega) 4
 ·rw[if_neg J,if_neg G,if_neg J,if_neg G,h];exact NK hb O (by show c.L.length+1≤_;omega) 4
theorem NP{w:List UInt8}{y z:Ty}(G:TyR a y)(hb:TyR b z):TyR (opQ x w a (b,s)).1 (Gc w a b y z):=by
 unfold opQ Gc JK;simp only[];split
 ·exact LF G hb
 ·split
  ·exact TyR.leaf (by decide) (by decide)
  ·simp only[];split
   ·exact TyR.leaf (by decide) (by decide)
   ·exact TyR.leaf (by decide) (by decide)
theorem DR.cong{G:Sv}{c:CHr}(h:DR x s s' c c')(hf:∀P:FE→Bool,G.fa.countP P=s'.fa.countP P)(hr:G.rs=s'.rs∧G.rl=s'.rl):DR x s G c c':=
 ⟨h.P,h.M,h.W,λP=>by rw[hf];exact h.d P,λg=>by have :=h.g g;unfold GR at this⊢;rw[hr.1,hr.2];exact this⟩
theorem NH{w:List UInt8}{c:CHr}(G:RX x c):DR x s (opQ x w a (b,s)).2 c (GA w a b (x.pa++[0]) (x.pa++[1]) c):=by
 unfold opQ GA;simp only[];split
 ·have J:=DR.er (s:=s) G.M (bad a) [0] 4;have X1:=G.er (bad a) (x.pa++[0]) 4;have O:=DR.er (s:=if bad a=true then faP x 4 [0] s else s) X1.M (bad b) [1] 4;have X2:=X1.er (bad b) (x.pa++[1]) 4;have U:=DR.er (s:=if bad b=true then faP x 4 [1] (if bad a=true then faP x 4 [0] s else s)else if bad a=true then faP x 4 [0] s else s) X2.M (!(bad a||bad b)&&aS a b) [1] 6;refine((J.trans O).trans U).cong (λP=>?_) ?_
  ·unfold nf;cases bad a<;>cases bad b<;>cases aS a b<;>rfl
  ·unfold nf;cases bad a<;>cases bad b<;>cases aS a b<;>exact⟨rfl,rfl⟩
 ·split
  ·exact DR.er G.M (aS a b) [1] 6
  ·have J:=DR.er (s:=s) G.M (aS a ⟨5,0⟩) [0] 4;have X1:=G.er (aS a ⟨5,0⟩) (x.pa++[0]) 4;exact J.trans (DR.er (s:=if aS a ⟨5,0⟩=true then faP x 4 [0] s else s) X1.M (aS b ⟨5,0⟩) [1] 4)
theorem KR(O:lJ E N)(hR:su E N){c:CHr}(hb:tbulk t≤N+1)(hx:exT t)(U:t.kind=21)(hy:Hyp x env s L (tbulk t) (uN t))(hX:RX x c)(hE:nb env en)(hQ:QP x t s)(hN:NA x t c)(hl:c.L.length≤s.fa.length)(hen:en.length+tbulk t≤100000000):
  ∃y c',aM c t x.pa en y c'∧TyR (sb E x t env (aA E x t 0 env s)).1 y∧DR x s (sb E x t env (aA E x t 0 env s)).2 c c':=by
 obtain⟨a,b,e⟩:=AM ((nZ hx).2.2.2 U);have Z:t.kids[0]?=some a:=by rw[e];rfl
 have G:t.kids[1]?=some b:=by rw[e];rfl
 have hB:=bp t;rw[e]at hB;simp only[kbulk]at hB;have hU:uN t=uN a+uN b:=by rw[fZ,e,U];simp[uNs]
 have p0:=hy.pa;have p1:=hy.fa;have p2:=hy.tg;have p3:=hy.lb;obtain⟨rest,hq⟩:=zf hQ (by simp[cP,U]);rw[e]at hq;have H0:=hy.to (s1:=s) (B':=tbulk a+1) (u':=uN a) (by omega) (by omega) (by omega);obtain⟨_,A2⟩:=da O (s:=s) (env:=env) (x:=x) (L:=L) Z (by omega) (cv hx Z (by omega)).1 H0;obtain⟨y1,c1,R1a,R1b,R1c,R1d⟩:=lE O hR Z (by omega) (cv hx Z (by omega)).1 H0 hX hE ⟨_,iP hq⟩ hN hl (by omega);have J:=rx hq A2.tg;generalize aA E x t 0 env s=r at A2 R1b R1c R1d J⊢;obtain⟨k1,s1⟩:=r;simp only at J R1b R1d;have q1:=A2.fa;simp only at q1;have n1:NA x t c1:=λq u h1 h2=>by rw[R1c.W];exact hN q u h1 h2
 have H1:=hy.to (s1:=s1) (B':=tbulk b+1) (u':=uN b) (by omega) (by omega) (pr (v:=uN t) A2.tg (by omega) p2);obtain⟨_,B2⟩:=da O (s:=s1) (env:=env) (x:=x) (L:=L) G (by omega) (cv hx G (by omega)).1 H1;obtain⟨y2,c2,R2a,R2b,R2c,R2d⟩:=lE O hR G (by omega) (cv hx G (by omega)).1 H1 (hX.to R1c) hE ⟨_,iP J⟩ n1 R1d (by omega);show∃y c',aM c t x.pa en y c'∧TyR (opQ x t.text k1 (aA E x t 1 env s1)).1 y∧DR x s (opQ x t.text k1 (aA E x t 1 env s1)).2 c c';generalize aA E x t 1 env s1=r at B2 R2b R2c R2d⊢;obtain⟨k2,s2⟩:=r;simp only at R2b R2d;have q2:=B2.fa;simp only at q2;have hB0:=Pu (t:=t) (q0:=x.pa++[0]) (q1:=x.pa++[1]) (c:=c2) R1b R2b (by simp;omega) (by simp;omega) (by omega);exact⟨_,_,k_low (m:=2) (by omega) (bc 1 _ _ _ _ _ _ _ (⟨λh=>(by cases h),λ_=>⟨λh=>absurd h (by omega),λ_=>⟨λh=>absurd h (by omega),λ_=>⟨λh=>absurd h (by omega),λ_=>⟨λh=>absurd h (by omega),λ_=>⟨λh=>absurd h (by omega),λ_=>⟨λ_=>⟨_,_,sE 6 _ _ _ _ _ _ (⟨_,ov 0 (by omega),_,ov 1 (by omega),y1,c1,R1a,y2,c2,R2a,hB0⟩),rfl,rfl⟩,λh=>absurd U h⟩⟩⟩⟩⟩⟩⟩)),NP R1b R2b,(R1c.trans R2c).trans (NH ((hX.to R1c).to R2c))⟩
theorem Ml(y:Ty):ae.mk y.Known (Tree.node y.T.kind y.T.text y.T.leads y.T.kids)=y:=by
 obtain⟨k,t⟩:=y;cases t;rfl
def LR(t:Tree)(q:List Int)(en:List Bd)(M:Nat)(c:CHr)(f:Ty)(i:Nat)(y:Ty)(c':CHr):Prop:=bT M t q en c f.Known f.T.kind f.T.text f.T.leads f.T.kids i y c'
theorem Fe{E:Ev}{N:Nat}(hG:lJ E N)(hR:su E N){x:Cx}{env:Env}{en:List Bd}{L:Nat}{t:Tree}(hx:exT t)(hk:t.kind=18)(hb:tbulk t≤N+1)(hE:nb env en)(hen:en.length+tbulk t≤100000000)(rest:List ar):∀(n i:Nat) (f:Kn) (yf:Ty) (s:Sv) (c:CHr),n+i=t.kids.length→TyR f yf→Hyp x env s L (kbulk (t.kids.drop i)+1) (uNs (t.kids.drop i))→RX x c→NA x t c→s.tg=aO x.p x.mo (nodKs (t.kids.drop i) x.pa i)++rest→c.L.length≤s.fa.length→
  ∃y c',LR t x.pa en (n+1) c yf i y c'∧TyR (iS (fQ E x t env n i (f,s))).1 y∧DR x s (iS (fQ E x t env n i (f,s))).2 c c'
 | 0,i,f,yf,s,c,hn,hf,hy,hX,hN,hq,hl=>by
  rw[show fQ E x t env 0 i (f,s)=(f,s)from rfl];cases hK:yf.Known
  ·have hz:=hf.un hK;rw[show iS (f,s)=(f,s) by unfold iS;simp only[if_pos hz]];exact⟨noY,c,ie 0 _ _ _ _ _ _ _ _ _ _ _ _ (⟨λh=>absurd h (by omega),λ_=>⟨λ_=>⟨rfl,rfl⟩,λh=>(by rw[hK]at h;cases h)⟩⟩),.inl ⟨hz,rfl⟩,DR.refl ..⟩
  ·have hz:=hf.kn hK;rw[show iS (f,s)=(⟨f.simple,f.lists+1⟩,s) by unfold iS;simp only[if_neg hz]];refine⟨_,c,ie 0 _ _ _ _ _ _ _ _ _ _ _ _ (⟨λh=>absurd h (by omega),λ_=>⟨λh=>(by rw[hK]at h;cases h),λ_=>⟨rfl,rfl⟩⟩⟩),?_,DR.refl ..⟩;rcases hf with⟨h,_⟩|⟨_,h1,h2,k,h3,h4⟩
   ·exact absurd h hz
   ·refine .inr ⟨rfl,h1,h2,k+1,by simp only;omega,?_⟩;simp only[BY,h4];rfl
 | n+1,i,f,yf,s,c,hn,hf,hy,hX,hN,hq,hl=>by
  have hlt:i<t.kids.length:=by omega
  obtain⟨u,hu⟩:∃u,t.kids[i]?=some u:=⟨_,dn hlt⟩;have hd:=aJ hu;have hB:=bp t;have b0:=aY hu;have hxu:=(cv hx hu (by omega)).1;have p1:=hy.pa;have p2:=hy.fa;have p3:=hy.tg;have p4:=hy.lb;rw[hd]at p1 p2 p3 p4 hy hq;simp only[kbulk,uNs]at p1 p2 p3 p4 hy;have H0:=hy.to (s1:=s) (B':=tbulk u+1) (u':=uN u) (by omega) (by omega) (by omega);obtain⟨_,A2⟩:=da hG (s:=s) (env:=env) (x:=x) (L:=L) hu (by omega) hxu H0;obtain⟨y1,c1,R1a,R1b,R1c,R1d⟩:=lE hG hR hu (by omega) hxu H0 hX hE ⟨_,iP hq⟩ hN hl (by omega);have hq1:=rx hq A2.tg;rw[show fQ E x t env (n+1) i (f,s)=fQ E x t env n (i+1) (vX x i f (aA E x t i env s))from rfl];generalize aA E x t i env s=r at A2 R1b R1c R1d hq1⊢;obtain⟨k,s1⟩:=r;have q1:=A2.fa;have q2:=A2.tg;simp only at q1 q2 R1b R1d hq1;have n1:NA x t c1:=λq u h1 h2=>by rw[R1c.W];exact hN q u h1 h2
  obtain⟨f1,hf1⟩:∃f1,f1=if f.simple=0 then k else f:=⟨_,rfl⟩
  obtain⟨yf1,hyf1⟩:∃yf1,yf1=if yf.Known=true then yf else y1:=⟨_,rfl⟩
  have hT:TyR f1 yf1:=by
   rw[hf1,hyf1];cases hK:yf.Known
   ·rw[if_pos (hf.un hK),if_neg (by decide)];exact R1b
   ·rw[if_neg (hf.kn hK),if_pos rfl];exact hf
  rw[show vX x i f (k,s1)=(if f.simple=0 then k else f,if aS k (if f.simple=0 then k else f)then faP x 6 [(i:Int)] s1 else s1)from rfl,←hf1];obtain⟨v1,v2,v3⟩:=wK (aS k f1) x 6 [(i:Int)] s1;obtain⟨e1,e2,e3,e4⟩:=iR (aS k f1) c1 (x.pa++[(i:Int)]) 6;have d2:=R1c.trans (DR.er (s:=s1) (hX.to R1c).M (aS k f1) [(i:Int)] 6);have l2:=d2.len;obtain⟨y,c',g1,g2,g3⟩:=Fe hG hR hx hk hb hE hen rest n (i+1) f1 yf1 _ (erI (aS k f1) c1 (x.pa++[(i:Int)]) 6) (by omega) hT (hy.to (s1:=if aS k f1=true then faP x 6 [(i:Int)] s1 else s1) (by omega) (by omega) (by rw[v1,q2,List.length_drop];omega)) ((hX.to R1c).er _ _ _) (λq u h1 h2=>by rw[e3];exact n1 q u h1 h2) (v1.trans hq1) (by omega);refine⟨y,c',?_,g2,d2.trans g3⟩;have l1:=R1c.len;refine ie (n+1) _ _ _ _ _ _ _ _ _ _ _ _ (⟨λ_=>⟨y1,c1,R1a,λhK=>?_,λhK=>?_⟩,λh=>absurd hlt h⟩)
  ·have ef:f1=k:=hf1.trans (if_pos (hf.un hK));have ey:yf1=y1:=hyf1.trans (if_neg (by rw[hK];decide));rw[ef,ey]at g1;refine⟨_,lF R1b R1b,λh=>⟨_,ov (i:Int) (by omega),_,gM 6 (by simp;omega) (by omega),?_⟩,λh=>?_⟩
   ·rw[nC h]at g1;exact g1
   ·rw[lW h]at g1;exact g1
  ·have ef:f1=f:=hf1.trans (if_neg (hf.kn hK));have ey:yf1=yf:=hyf1.trans (if_pos hK);rw[ef,ey]at g1;refine⟨_,by rw[Ml];exact lF R1b hf,λh=>⟨_,ov (i:Int) (by omega),_,gM 6 (by simp;omega) (by omega),?_⟩,λh=>?_⟩
   ·rw[nC h]at g1;exact g1
   ·rw[lW h]at g1;exact g1
theorem IN{m:Int}(hp:aR p=true)(h9:u.kind=16)(hu:shapeK u=true)(h:(aT p m u.text).2.2=true):∃(i d:Nat) (t f:Tree),(aT p m u.text).1=(i:Int)∧(aT p m u.text).2.1=(d:Int)∧p[i]?=some t∧t.kids[d]?=some f∧f.kind=2∧shapeK f=true:=by
 have G:cC u.text=1∨cC u.text=3:=by
  rw[bV,h9]at hu;simp only[Bool.and_eq_true]at hu;have :=hu.1.2;simp only[mR]at this;simp at this;omega
 have fin:∀(i d:Nat) (t a:Tree),p[i]?=some t→t.kids[d]?=some a→shapeK a=true:=λi d t a ht ha=>by
  obtain⟨Z,J⟩:=dm hp ht;rw[bV]at J;simp only[Bool.and_eq_true]at J;exact(dx J.2 ha).2
 unfold aT at h⊢;rcases G with G|G
 ·have hd:dh u.text 0=-1:=ya _ _ (AW G (.inl rfl)).1;rw[if_neg (by omega)]at h⊢;obtain⟨i,d,t,a,_,a1,a2,O,U,a5,_⟩:=tZ h;obtain⟨Z,J⟩:=dm hp O;refine⟨i,d,t,a,a1,a2,O,U,?_,fin i d t a O U⟩;rcases nQ Z J U with⟨k,_⟩|⟨_,k⟩
  ·exact k
  ·rw[a5,G]at k;cases k
 ·have hd:=Fa G (.inl rfl);rw[if_pos (by omega)]at h⊢;obtain⟨i,d,t,a,_,a1,a2,O,U,a5,_⟩:=tZ h;obtain⟨Z,J⟩:=dm hp O;refine⟨i,d,t,a,a1,a2,O,U,?_,fin i d t a O U⟩;rcases nQ Z J U with⟨k,_⟩|⟨_,k⟩
  ·exact k
  ·have g:=(AW k (.inr rfl)).2;have g3:=(Ge G (.inl rfl)).2.2.1 rfl;rw[a5,hd,Int.toNat_natCast]at g;have e:(u.text.drop (spanN aZ u.text+1)).getD 0 0=u.text.getD (spanN aZ u.text+1) 0:=by
    simp[List.getD_eq_getElem?_getD,List.getElem?_drop]
   rw[e]at g;have :=g.2 g3;cases this
theorem Mb(hG:lJ E N)(hR:su E N){c:CHr}{a:Tree}(Z:t.kids[i]?=some a)(hk:a.kind=17)(hu:a.kids[0]?=some u)(hb:tbulk u≤N)(hx:exT u)(hp:x.pa.length+tbulk u+2≤100000000)(hy:Hyp x env s L (tbulk u+1) (uN u))(G:RX x c)(hE:nb env en)(hQ:∃rest,s.tg=aO x.p x.mo (nodK a (x.pa++[(i:Int)]))++rest)(hka:a.kids=[u])(hN:NA x t c)(hl:c.L.length≤s.fa.length)(hen:en.length+tbulk u≤100000000):
  ∃y c',aQ c t x.pa i en y c'∧TyR (aA E (x.go i) a 0 env s).1 y∧DR x s (aA E (x.go i) a 0 env s).2 c c'∧c'.L.length≤(aA E (x.go i) a 0 env s).2.fa.length:=by
 obtain⟨rest,hq⟩:=hQ;have hq':s.tg=aO x.p x.mo (nodKs (u::[]) (x.pa++[(i:Int)]) 0)++rest:=by
  rw[hq,dF,aO,show cP a=false by simp[cP,hk],hka];rfl
 obtain⟨y,J,h1,h2,O,h4⟩:=lE (x:=x.go i) hG hR hu hb hx ⟨by simp[Cx.go];omega,by have :=hy.fa;omega,hy.tg,by have :=hy.lb;omega,hy.env,hy.sg⟩ (c:=c) ⟨G.P,G.M,G.ok,G.hb,G.m0,G.m1,G.sg⟩ hE ⟨_,iP (x:=x.go i) hq'⟩ (λq v hm hk'=>hN q v (rU x.pa Z _ hm) hk') hl hen;have hkd:aM c a (x.pa++[(i:Int)]) en y J:=
  k_low (m:=1) (by omega) (bc 0 _ _ _ _ _ _ _ (⟨λh=>(by cases h),λ_=>⟨λh=>absurd h (by omega),λ_=>⟨λh=>absurd h (by omega),λ_=>⟨λh=>absurd h (by omega),λ_=>⟨λh=>absurd h (by omega),λ_=>⟨λh=>absurd h (by omega),λ_=>⟨λh=>absurd h (by omega),λ_=>⟨λh=>absurd h (by omega),λ_=>⟨λ_=>⟨y,J,h1,rfl,rfl⟩,λh=>absurd hk h⟩⟩⟩⟩⟩⟩⟩⟩⟩))
 have hne:x.pa++[(i:Int)]≠J.Want:=by
  rw[O.W];exact hN _ a (rU x.pa Z _ (by rw[dF];exact List.mem_cons_self)) hk
 have U:=IE (x.pa++[(i:Int)]) J.Want (by simp;omega);rw[decide_eq_false hne]at U;have hex:dQ c a (x.pa++[(i:Int)]) en y J:=
  rS_semvcsref08_Check_expr 0 _ _ _ _ _ _ (⟨_,_,hkd,λ_=>⟨false,U,λh=>(by cases h),λ_=>⟨rfl,rfl⟩⟩,λ_=>⟨rfl,rfl⟩⟩)
 exact⟨y,J,mF 0 _ _ _ _ _ _ _ (⟨i,rfl,a,Z,_,ov i (by omega),_,_,hex,rfl,rfl⟩),h2,⟨O.P,O.M,O.W,O.d,O.g⟩,h4⟩
def pn(ps:List Kn)(i:Nat)(k:Kn):Bool:=match ps[i]? with
 |some q=>aS k q
 |none=>false
theorem Mn(x:Cx)(ps:List Kn)(i:Nat)(k:Kn)(s:Sv):oJ x ps i (k,s)=if pn ps i k=true then faP x 4 [(i:Int),0] s else s:=by
 unfold oJ pn;simp only[];cases ps[i]?<;>simp
theorem xv{E:Ev}{N:Nat}(hG:lJ E N)(hR:su E N){x:Cx}{env:Env}{en:List Bd}{L:Nat}{t:Tree}(ps:List Kn)(bf:Bool)(n1 z:Int)(f:Tree)(yE:Ty)(ht:∀(i:Nat) (a:Tree),t.kids[i]?=some a→∃u,a.kids=[u]∧a.kind=17∧tbulk u<tbulk a∧tbulk u≤N∧exT u∧uN a=uN u)(hE:nb env en)(hen:en.length+kbulk t.kids≤100000000)(hz:bf=true→z=(ps.length:Int))(hz0:bf=false→ps=[])
  (hps:bf=true→∀(i:Nat) (q:Kn),ps[i]?=some q→∃(pk v:Tree) (yq:Ty),f.kids[i]?=some pk∧pk.kids[0]?=some v∧TyR q yq∧∀c:CHr,c.P=x.p→aX c n1 v yq c) (hend:bf=true→∃rt:Tree,f.kids[ps.length]?=some rt∧∀c:CHr,c.P=x.p→aX c n1 rt yE c) (hend0:bf=false→yE=noY) (rest:List ar):∀(n i:Nat) (s:Sv) (c:CHr),n+i=t.kids.length→x.pa.length+kbulk (t.kids.drop i)+1≤100000000→Hyp x env s L (kbulk (t.kids.drop i)) (uNs (t.kids.drop i))→RX x c→NA x t c→s.tg=aO x.p x.mo (nodKs (t.kids.drop i) x.pa i)++rest→c.L.length≤s.fa.length→
  ∃c',bR (n+1) t x.pa en n1 z c bf i f yE c'∧DR x s (gg E x ps env (t.kids.drop i) i s) c c'
 |0,i,s,c,hn,hpa,hy,hX,hN,hq,hl=>by
  have hd:t.kids.drop i=[]:=List.drop_of_length_le (by omega);rw[hd];refine⟨c,lu 0 _ _ _ _ _ _ _ _ _ _ _ (⟨λh=>absurd h (by omega),λ_=>⟨λh=>⟨(hend0 h).symm,rfl⟩,λh=>?_⟩⟩),DR.refl ..⟩;obtain⟨rt,g1,g2⟩:=hend h;exact⟨ps.length,hz h,rt,g1,_,_,g2 c hX.P,rfl,rfl⟩
 | n+1,i,s,c,hn,hpa,hy,hX,hN,hq,hl=>by
  have hlt:i<t.kids.length:=by omega
  obtain⟨a,ha⟩:∃a,t.kids[i]?=some a:=⟨_,dn hlt⟩;have hd:=aJ ha;obtain⟨u,hu',hk17,b1,b2,b3,b4⟩:=ht i a ha;have hu:a.kids[0]?=some u:=by rw[hu'];rfl
  have b0:=aY ha;have p1:=hy.pa;have p2:=hy.fa;have p3:=hy.tg;have p4:=hy.lb;rw[hd]at p1 p2 p3 p4 hpa hq⊢;simp only[kbulk,uNs]at p1 p2 p3 p4 hpa;have HG:Hyp (x.go i) env s L (tbulk u+1) (uN u):=⟨by simp[Cx.go];omega,by omega,by omega,by omega,hy.env,hy.sg⟩;obtain⟨_,A2⟩:=da hG (s:=s) (env:=env) (x:=x.go i) (L:=L) hu b2 b3 HG;obtain⟨y1,c1,R1a,R1b,R1c,R1d⟩:=Mb hG hR ha hk17 hu b2 b3 (by omega) (s:=s) (L:=L) (env:=env) (x:=x) ⟨by omega,by omega,by omega,by omega,hy.env,hy.sg⟩ hX hE ⟨_,iP hq⟩ hu' hN hl (by omega);have hA2:=A2.tg;rw[←b4]at hA2;have hq1:=rx hq hA2;rw[show gg E x ps env (a::t.kids.drop (i+1)) i s=gg E x ps env (t.kids.drop (i+1)) (i+1) (oJ x ps i (aA E (x.go i) a 0 env s))from rfl];generalize aA E (x.go i) a 0 env s=r at A2 hA2 R1b R1c R1d hq1⊢;obtain⟨k,s1⟩:=r;have q1:=A2.fa;simp only at q1 R1b R1d hq1 hA2;rw[Mn];have n1':NA x t c1:=λq u h1 h2=>by rw[R1c.W];exact hN q u h1 h2
  obtain⟨v1,v2,v3⟩:=wK (pn ps i k) x 4 [(i:Int),0] s1;obtain⟨e1,e2,e3,e4⟩:=iR (pn ps i k) c1 (x.pa++[(i:Int),0]) 4;have d2:=R1c.trans (DR.er (s:=s1) (hX.to R1c).M (pn ps i k) [(i:Int),0] 4);have l2:=d2.len;have l1:=R1c.len;have X1:=hX.to R1c;obtain⟨c',g1,g3⟩:=xv hG hR ps bf n1 z f yE ht hE hen hz hz0 hps hend hend0 rest n (i+1) _ (erI (pn ps i k) c1 (x.pa++[(i:Int),0]) 4) (by omega) (by omega) (hy.to (s1:=if pn ps i k=true then faP x 4 [(i:Int),0] s1 else s1) (by rw[hd];simp only[kbulk];omega) (by rw[hd];simp only[kbulk];omega) (by rw[v1,hA2,List.length_drop];omega)) (X1.er _ _ _) (λq u h1 h2=>by rw[e3];exact n1' q u h1 h2) (v1.trans hq1) (by omega);refine⟨c',?_,d2.trans g3⟩;have hpath:x.pa++[(i:Int)]++[(0:Int)]=x.pa++[(i:Int),0]:=by simp
  refine lu (n+1) _ _ _ _ _ _ _ _ _ _ _ (⟨λ_=>⟨_,ov (i:Int) (by omega),_,ov 0 (by simp;omega),y1,c1,R1a,λh=>⟨λhi=>?_,λhi=>?_⟩,λh=>?_⟩,λh=>absurd hlt h⟩)
  ·have hi':i<ps.length:=by rw[hz h]at hi;omega
   obtain⟨q,hqq⟩:∃q,ps[i]?=some q:=⟨ps[i],List.getElem?_eq_getElem hi'⟩;obtain⟨pk,v,yq,w1,w2,w3,w4⟩:=hps h i q hqq;have hD:pn ps i k=aS k q:=by unfold pn;rw[hqq]
   rw[hD]at g1;rw[h]at g1;refine⟨pk,w1,v,w2,yq,c1,w4 c1 X1.P,_,lF R1b w3,λhb=>⟨_,gM 4 (by simp;omega) (by omega),?_⟩,λhb=>?_⟩
   ·rw[nC hb]at g1;rw[hpath];exact g1
   ·rw[lW hb]at g1;exact g1
  ·have hq0:ps[i]?=none:=List.getElem?_eq_none (by rw[hz h]at hi;omega);have hD:pn ps i k=false:=by unfold pn;rw[hq0]
   rw[lW hD,h]at g1;exact g1
  ·have hD:pn ps i k=false:=by unfold pn;rw[hz0 h];rfl
   rw[lW hD,h]at g1;exact g1
theorem Cn{a v:Tree}(h:a.kids=[v]):bz a 0=v:=dl (by rw[h];rfl)
theorem JJ(hG:lJ E N)(hR:su E N){c:CHr}(hb:tbulk t≤N+1)(hx:exT t)(hk:t.kind=16)(hy:Hyp x env s L (tbulk t) (uN t))(G:RX x c)(hE:nb env en)(hQ:QP x t s)(hN:NA x t c)(hl:c.L.length≤s.fa.length)(hen:en.length+tbulk t≤100000000):
  ∃y c',aM c t x.pa en y c'∧TyR (mj E x t env s).1 y∧DR x s (mj E x t env s).2 c c':=by
 have hB:=bp t;have hU:uN t=1+uNs t.kids:=by rw[fZ,hk];simp
 have p1:=hy.pa;have p2:=hy.fa;have p3:=hy.tg;have p4:=hy.lb;have hkl:=bN t;have htx:=iT t;have ht:∀(i:Nat) (a:Tree),t.kids[i]?=some a→∃u,a.kids=[u]∧a.kind=17∧tbulk u<tbulk a∧tbulk u≤N∧exT u∧uN a=uN u:=λi a ha=>by
  obtain⟨h1,h2,h3⟩:=zG hx ha hk;obtain⟨u,e⟩:=wA h2;have hu:a.kids[0]?=some u:=by rw[e];rfl
  have h4:=ax hu;have h5:=ax ha;rw[dl hu]at h3;exact⟨u,e,h1,h4,by omega,h3,by rw[fZ a,h1,e];simp[uNs]⟩
 obtain⟨rest,hq⟩:=hQ;have hq':s.tg=tgK x.p x.mo x.pa t::(aO x.p x.mo (nodKs t.kids x.pa 0)++rest):=by
  rw[hq,dF,aO,show cP t=true by simp[cP,hk]];rfl
 have hhd:s.tg.headD noT=tgK x.p x.mo x.pa t:=by rw[hq'];rfl
 have hfind:=zt (p:=x.p) (w:=t.text) G.m0 G.m1 (by have :=G.hb;omega) (by omega);have fin:∀(y:Ty) (c':CHr) (m:Nat),ja c t x.pa en y c'→aM c t x.pa en y c':=λy c' m h=>
  k_low (m:=1) (by omega) (bc 0 _ _ _ _ _ _ _ (⟨λh=>(by cases h),λ_=>⟨λh=>absurd h (by omega),λ_=>⟨λ_=>⟨_,_,h,rfl,rfl⟩,λh=>absurd hk h⟩⟩⟩))
 have e0:mj E x t env s=((nB x (tgK x.p x.mo x.pa t)).result,gg E x (nB x (tgK x.p x.mo x.pa t)).params env t.kids 0 (oC x t (tgK x.p x.mo x.pa t) (nB x (tgK x.p x.mo x.pa t)) (bx s))):=by unfold mj;rw[hhd]
 rw[e0];have hU1:(bx s).tg=aO x.p x.mo (nodKs (t.kids.drop 0) x.pa 0)++rest:=by
  show s.tg.drop 1=_;rw[hq'];rfl
 cases J:(aT x.p x.mo t.text).2.2
 ·
  have O:(tgK x.p x.mo x.pa t).Free=true:=by simp[tgK,J]
  have hg:nB x (tgK x.p x.mo x.pa t)=⟨[],⟨0,0⟩⟩:=by unfold nB;rw[if_pos O]
  have hs:oC x t (tgK x.p x.mo x.pa t) ⟨[],⟨0,0⟩⟩ (bx s)=faP x 1 [] (bx s):=by unfold oC;rw[if_pos O]
  rw[hg];simp only[];rw[hs];have d1:=DR.er (s:=bx s) G.M true [] 1;rw[List.append_nil]at d1;have X1:=G.er true x.pa 1;obtain⟨c',g1,g2⟩:=xv hG hR [] false (aT x.p x.mo t.text).1 0 (.node 0 [] [] []) noY ht hE (by omega) (λh=>(by cases h)) (λ_=>rfl) (λh=>(by cases h)) (λh=>(by cases h)) (λ_=>rfl) rest t.kids.length 0 (faP x 1 [] (bx s)) (erI true c x.pa 1) (by omega) (by simp;omega) (hy.to (by simp;omega) (by simp[faP,bx];omega) (by simp[faP,bx];omega)) X1 hN hU1 (by simp[faP,bx,erI,erC];omega);refine⟨noY,c',fin _ _ 0 (lX (t.kids.length+3) _ _ _ _ _ _ (⟨_,_,_,by rw[G.P,G.M];exact hfind,λ_=>⟨_,gM 1 (by omega) (by omega),?_⟩,λh=>(by rw[J]at h;cases h)⟩)),TyR.no,?_⟩
  ·rw[J];exact lp (t.kids.length+2) _ _ _ _ _ _ _ _ _ (⟨λh=>(by cases h),λ_=>io (t.kids.length+1) _ _ _ _ _ _ _ _ _ _ (g1)⟩)
  ·have :=d1.trans g2;rw[List.drop_zero]at this;exact⟨this.P,this.M,this.W,this.d,this.g⟩
 ·obtain⟨i,d,tt,f,a1,a2,a3,a4,a5,a6⟩:=IN G.ok hk hx.1 J;obtain⟨f1,f2,f3,f4⟩:=mw a6 a5;have O:(tgK x.p x.mo x.pa t).Free=false:=by simp[tgK,J]
  have hi:=(List.getElem?_eq_some_iff.1 a3).1;have hbf:tbulk f≤10000000:=by
   have :=aY a3;have :=ax a4;have :=G.hb;omega
  have hBf:=bp f;have hg:nB x (tgK x.p x.mo x.pa t)=dr x.p (i:Int) f:=by
   unfold nB;rw[if_neg (by rw[O];decide),G.sg];have :=rz (P:=x.p) (key:=((i:Int),(d:Int))) x.p 0 i d [] tt f a3 a4 a5 (by simp);rw[show((tgK x.p x.mo x.pa t).Module,(tgK x.p x.mo x.pa t).Def)=((i:Int),(d:Int)) by simp[tgK,a1,a2],this];simp
  have hpl:(dr x.p (i:Int) f).params.length=f.kids.length-2:=by simp[dr]
  have hs:oC x t (tgK x.p x.mo x.pa t) (dr x.p (i:Int) f) (bx s)=if(!decide ((dr x.p (i:Int) f).params.length=t.kids.length))=true then faP x 3 [] (bx s)else bx s:=by
   unfold oC;rw[if_neg (by rw[O];decide)];by_cases h:(dr x.p (i:Int) f).params.length=t.kids.length<;>simp[h]
  rw[hg];simp only[];rw[hs];obtain⟨U,hb3⟩:∃U,U=!decide ((dr x.p (i:Int) f).params.length=t.kids.length):=⟨_,rfl⟩;rw[←hb3];obtain⟨v1,v2,v3⟩:=wK U x 3 [] (bx s);obtain⟨e1,e2,e3,e4⟩:=iR U c x.pa 3;have d1:=DR.er (s:=bx s) G.M U [] 3;rw[List.append_nil]at d1;have X1:=G.er U x.pa 3;have hf2:(bx s).fa.length=s.fa.length:=rfl;have hu2:(bx s).tg.length=s.tg.length-1:=by simp[bx]
  have ldr:=d1.len;obtain⟨rt,Z⟩:∃rt,f.kids[f.kids.length-2]?=some rt:=⟨_,dn (by omega)⟩;have hrk:=f3 rt Z;have hrb:=aY Z;have wr:∀(v:Tree),tyK v→tbulk v≤10000000→∀c:CHr,c.P=x.p→aX c (i:Int) v (wrY x.p (i:Int) v) c:=λv hv hbv c hc=>wj G.ok G.hb (by omega) (by omega) hv hbv hc;have hres:TyR (dr x.p (i:Int) f).result (wrY x.p (i:Int) rt):=by
   simp only[dr];rw[dl Z];exact zi G.ok (by omega) (by omega) hrk
  obtain⟨c',g1,g2⟩:=xv hG hR (dr x.p (i:Int) f).params true (aT x.p x.mo t.text).1 ((f.kids.length:Int)-2) f (wrY x.p (i:Int) rt) ht hE (by omega) (λ_=>by omega) (λh=>(by cases h)) (λ_ j q hj=>by
   have hjl:=(List.getElem?_eq_some_iff.1 hj).1;rw[hpl]at hjl;obtain⟨pk,hpk⟩:∃pk,f.kids[j]?=some pk:=⟨_,dn (by omega)⟩;obtain⟨v,g1,g2,g3⟩:=f2 j pk hpk (by omega);have hb1:=aY hpk;have hv0:pk.kids[0]?=some v:=by rw[g2];rfl
   have hb2:=ax hv0;refine⟨pk,v,wrY x.p (i:Int) v,hpk,hv0,?_,by rw[a1];exact wr v g3 (by omega)⟩;have :(dr x.p (i:Int) f).params[j]?=some (tyN x.p (i:Int) v):=by
    simp only[dr,List.getElem?_map,List.getElem?_take];rw[if_pos (by omega),hpk];simp only[Option.map_some];rw[Cn g2]
   rw[this]at hj;injection hj with hj
   rw[←hj];exact zi G.ok (by omega) (by omega) g3) (λ_=>⟨rt,by rw[hpl];exact Z,by rw[a1];exact wr rt hrk (by omega)⟩) (λh=>(by cases h)) rest t.kids.length 0 (if U=true then faP x 3 [] (bx s)else bx s) (erI U c x.pa 3) (by omega) (by simp;omega) (hy.to (by simp;omega) (by simp;omega) (by rw[v1];simp;omega)) X1 (λq u h1 h2=>by rw[e3];exact hN q u h1 h2) (v1.trans hU1) (by omega)
  refine⟨_,c',fin _ _ 0 (lX (t.kids.length+3) _ _ _ _ _ _ (⟨_,_,_,by rw[G.P,G.M];exact hfind,λh=>(by rw[J]at h;cases h),λ_=>?_⟩)),hres,?_⟩
  ·rw[J];refine lp (t.kids.length+2) _ _ _ _ _ _ _ _ _ (⟨λ_=>⟨i,a1,tt,by rw[G.P];exact a3,d,a2,f,a4,λhne=>⟨_,gM 3 (by omega) (by omega),?_⟩,λhe=>?_⟩,λh=>(by cases h)⟩)
   ·have hb:U=true:=by rw[hb3,decide_eq_false (by omega)];rfl
    rw[nC hb]at g1;exact io (t.kids.length+1) _ _ _ _ _ _ _ _ _ _ (g1)
   ·have hb:U=false:=by rw[hb3,decide_eq_true (by omega)];rfl
    rw[lW hb]at g1;exact io (t.kids.length+1) _ _ _ _ _ _ _ _ _ _ (g1)
  ·have :=d1.trans g2;rw[List.drop_zero]at this;exact⟨this.P,this.M,this.W,this.d,this.g⟩
theorem Jm(U:lJ E N)(Z:su E N):su (bl E) (N+1):=λt hb hx x env s en c L hy J O hQ hN hl G=>by
 have p1:=hy.pa;have p2:=hy.fa;have p3:=hy.tg;have p4:=hy.lb;have hB:=bp t;have hkl:=bN t;have hk':10≤t.kind∧t.kind≤22∧t.kind≠17:=by simpa[dv]using hx.2
 by_cases h:t.kind=10
 ·have e:bl E x t env s=(⟨5,0⟩,s):=by simp[bl,h]
  rw[e];exact⟨_,c,rS_semvcsref08_Check_kind 0 _ _ _ _ _ _ (⟨λ_=>⟨_,ik 5,rfl,rfl⟩,λh'=>absurd h h'⟩),TyR.leaf (by decide) (by decide),DR.refl ..⟩
 by_cases h:t.kind=11
 ·have e:bl E x t env s=(⟨6,0⟩,s):=by simp[bl,h]
  rw[e];exact⟨_,c,rS_semvcsref08_Check_kind 0 _ _ _ _ _ _ (⟨λh'=>absurd h' (by omega),λ_=>⟨λ_=>⟨_,ik 6,rfl,rfl⟩,λh'=>absurd h h'⟩⟩),TyR.leaf (by decide) (by decide),DR.refl ..⟩
 by_cases h:t.kind=13∨t.kind=14
 ·have e:bl E x t env s=(⟨7,0⟩,s):=by rcases h with h|h<;>simp[bl,h]
  rw[e];have h0:dA 1 c t x.pa en true ⟨true,.node 7 [] [] []⟩ c:=bc 0 _ _ _ _ _ _ _ (⟨λ_=>⟨_,ik 7,rfl,rfl⟩,λh=>(by cases h)⟩);refine⟨_,c,rS_semvcsref08_Check_kind 1 _ _ _ _ _ _ (⟨λh'=>absurd h' (by omega),λ_=>⟨λh'=>absurd h' (by omega),λ_=>⟨λ_=>h0,λh'=>?_⟩⟩⟩),TyR.leaf (by decide) (by decide),DR.refl ..⟩;have h14:t.kind=14:=by omega
  rw[show(t.kind==14)=true by rw[h14];rfl];exact h0
 by_cases h:t.kind=12
 ·have e:bl E x t env s=qv x s (ic t.text env):=by simp[bl,h]
  rw[e];exact KX h J O (by omega) (by omega) (by omega)
 by_cases h:t.kind=16
 ·have e:bl E x t env s=mj E x t env s:=by simp[bl,h]
  rw[e];exact JJ U Z hb hx h hy J O hQ hN hl G
 by_cases h:t.kind=18
 ·have e:bl E x t env s=iS (fQ E x t env t.kids.length 0 (⟨0,0⟩,s)):=by simp[bl,h]
  have hU:uN t=uNs t.kids:=by rw[fZ,h];simp
  rw[e];obtain⟨rest,hq⟩:=zf hQ (by simp[cP,h]);obtain⟨y,c',g1,g2,g3⟩:=Fe U Z hx h hb O G rest t.kids.length 0 ⟨0,0⟩ noY s c (by omega) TyR.no (hy.to (by simp;omega) (by simp;omega) (by simp;omega)) J hN hq hl;exact⟨y,c',k_low (m:=1) (by omega) (bc 0 _ _ _ _ _ _ _ (⟨λh=>(by cases h),λ_=>⟨λh=>absurd h (by omega),λ_=>⟨λh=>absurd h (by omega),λ_=>⟨λ_=>⟨_,_,re (t.kids.length+1) _ _ _ _ _ _ (g1),rfl,rfl⟩,λh'=>absurd h h'⟩⟩⟩⟩)),g2,g3⟩
 by_cases h:t.kind=19
 ·have e:bl E x t env s=ifP E x t env s:=by simp[bl,h]
  rw[e];exact Mh U Z hb hx h hy J O hQ hN hl G
 by_cases h:t.kind=20
 ·have e:bl E x t env s=BI E x t env (aA E x t 0 env s):=by simp[bl,h]
  rw[e];exact LI U Z hb hx h hy J O hQ hN hl G
 by_cases h:t.kind=21
 ·have e:bl E x t env s=sb E x t env (aA E x t 0 env s):=by simp[bl,h]
  rw[e];exact KR U Z hb hx h hy J O hQ hN hl G
 by_cases h:t.kind=22
 ·have e:bl E x t env s=aA E x t 0 env s:=by simp[bl,h]
  obtain⟨a,ek⟩:=wA ((nZ hx).1 h);have ha:t.kids[0]?=some a:=by rw[ek];rfl
  rw[ek]at hB;simp only[kbulk]at hB;have hU:uN t=uN a:=by rw[fZ,ek,h];simp[uNs]
  rw[e];obtain⟨rest,hq⟩:=zf hQ (by simp[cP,h]);rw[ek]at hq;obtain⟨y,c',g1,g2,g3,g4⟩:=lE U Z (s:=s) (env:=env) (x:=x) (L:=L) ha (by omega) (cv hx ha (by omega)).1 (hy.to (by omega) (by omega) (by omega)) J O ⟨_,iP hq⟩ hN hl (by omega);exact⟨y,c',k_low (m:=1) (by omega) (bc 0 _ _ _ _ _ _ _ (⟨λh=>(by cases h),λ_=>⟨λh=>absurd h (by omega),λ_=>⟨λh=>absurd h (by omega),λ_=>⟨λh=>absurd h (by omega),λ_=>⟨λh=>absurd h (by omega),λ_=>⟨λh=>absurd h (by omega),λ_=>⟨λh=>absurd h (by omega),λ_=>⟨λ_=>⟨_,_,g1,rfl,rfl⟩,λh'=>absurd h h'⟩⟩⟩⟩⟩⟩⟩⟩)),g2,g3⟩
 ·have e:bl E x t env s=(⟨0,0⟩,s):=by
   have :t.kind=15:=by omega
   simp[bl,this]
  rw[e];exact⟨noY,c,k_low (m:=1) (by omega) (bc 0 _ _ _ _ _ _ _ (⟨λh=>(by cases h),λ_=>⟨λh=>absurd h (by omega),λ_=>⟨λh=>absurd h (by omega),λ_=>⟨λh=>absurd h (by omega),λ_=>⟨λh=>absurd h (by omega),λ_=>⟨λh=>absurd h (by omega),λ_=>⟨λh=>absurd h (by omega),λ_=>⟨λh=>absurd h (by omega),λ_=>⟨λh=>absurd h (by omega),λ_=>⟨rfl,rfl⟩⟩⟩⟩⟩⟩⟩⟩⟩⟩)),TyR.no,DR.refl ..⟩
theorem EE:∀n,su (bj n) n
 |0=>λt hb=>by have :=bN t;have :=bp t;omega
 |n+1=>Jm (si n) (EE n)
def kU(p:List Tree)(mo:Int)(z:List Int×Tree):List FE:=if z.2.kind=9∧(aT p mo z.2.text).2.2=false then[⟨⟨mo,z.1⟩,1⟩]else[]
def bv(p:List Tree)(mo:Int):List (List Int×Tree)→List FE
 |[]=>[]
 |z::r=>kU p mo z++bv p mo r
theorem jz(p:List Tree)(mo:Int):∀a b,bv p mo (a++b)=bv p mo a++bv p mo b
 |[],b=>rfl
 |z::r,b=>by simp only[List.cons_append,bv,jz p mo r b,List.append_assoc]
theorem Iw(p:List Tree)(mo:Int)(z:List Int×Tree):(kU p mo z).length≤1:=by
 unfold kU;split<;>simp
theorem qm(p:List Tree)(mo:Int):∀a,(bv p mo a).length≤a.length
 |[]=>Nat.le_refl _
 |z::r=>by
  have :=Iw p mo z;have :=qm p mo r;simp only[bv,List.length_append,List.length_cons];omega
def apC(c:CHr)(l:List FE):CHr:={c with L:=c.L++l}
theorem LT(c:CHr):apC c []=c:=by simp[apC]
theorem LJ(c:CHr)(a b:List FE):apC (apC c a) b=apC c (a++b):=by simp[apC]
theorem Dh{p:List Tree}{m:Nat}{root:Tree}(hm:p[m]?=some root)(hp:kbulk p≤10000000):∀(n:Nat) (t:Tree) (q:List Int) (c:CHr),tbulk t≤n→atK root q=some t→c.P=p→c.Module=(m:Int)→q.length+tbulk t≤100000000→c.L.length+tbulk t≤900000000→cV c q (apC c (bv p (m:Int) (nodK t q)))
 |0,t,q,c,hb,_,_,_,_,_=>by have :=bN t;omega
 | n+1,t,q,c,hb,hat,hP,hM,hq,hL=>by
  have hB:=bp t;have hml:=(List.getElem?_eq_some_iff.1 hm).1;have htx:=iT t;have hAt:=NW root q (by omega);rw[hat]at hAt;have hfind:=zt (p:=p) (m:=(m:Int)) (w:=t.text) (by omega) (by omega) (by omega) (by omega);have loop:∀(k i:Nat) (c:CHr),k+i=t.kids.length→c.P=p→c.Module=(m:Int)→c.L.length+kbulk (t.kids.drop i)≤900000000→cN (k+1) q t c i (apC c (bv p (m:Int) (nodKs (t.kids.drop i) q i))):=by
   intro k
   induction k with
   |zero=>
    intro i c hi h1 h2 h3;have hd:t.kids.drop i=[]:=List.drop_of_length_le (by omega);rw[hd];exact lB 0 _ _ _ _ _ (⟨λh=>absurd h (by omega),λ_=>(LT c).symm⟩)
   |succ k ih=>
    intro i c hi h1 h2 h3;have hlt:i<t.kids.length:=by omega
    obtain⟨u,hu⟩:∃u,t.kids[i]?=some u:=⟨_,dn hlt⟩;have hd:=aJ hu;have hku:=ax hu;have hnl:=nodK_len u (q++[(i:Int)]);have hfl:=qm p (m:Int) (nodK u (q++[(i:Int)]));rw[hd]at h3⊢;simp only[kbulk]at h3;have hatu:atK root (q++[(i:Int)])=some u:=by rw[wo,hat];exact rq hu
    have h4:=Dh hm hp n u (q++[(i:Int)]) c (by omega) hatu h1 h2 (by simp;omega) (by omega);have h5:=ih (i+1) (apC c (bv p (m:Int) (nodK u (q++[(i:Int)])))) (by omega) h1 h2 (by simp only[apC,List.length_append];omega);rw[LJ,←jz]at h5;exact lB (k+1) _ _ _ _ _ (⟨λ_=>⟨_,ov (i:Int) (by omega),_,h4,h5⟩,λh=>absurd hlt h⟩)
  have e:nodK t q=(q,t)::nodKs t.kids q 0:=dF t q;rw[e];have hF:bv p (m:Int) ((q,t)::nodKs t.kids q 0)=kU p (m:Int) (q,t)++bv p (m:Int) (nodKs t.kids q 0):=rfl;rw[hF];refine rk (t.kids.length+2) _ _ _ (⟨m,hM,root,by rw[hP];exact hm,_,_,hAt,?_⟩);refine qH (t.kids.length+1) _ _ _ _ (⟨λh9=>⟨_,_,_,by rw[hP,hM];exact hfind,λhf=>?_,λhf=>?_⟩,λh9=>?_⟩)
  ·have e2:kU p (m:Int) (q,t)=[⟨⟨(m:Int),q⟩,1⟩]:=if_pos ⟨h9,hf⟩;have h5:=loop t.kids.length 0 (erC c q 1) (by omega) hP hM (by simp[erC];omega);rw[List.drop_zero]at h5;rw[e2];refine⟨_,gM 1 (by omega) (by omega),?_⟩;have e3:apC c ([⟨⟨(m:Int),q⟩,1⟩]++bv p (m:Int) (nodKs t.kids q 0))=apC (erC c q 1) (bv p (m:Int) (nodKs t.kids q 0)):=by simp[apC,erC,hM]
   rw[e3];exact h5
  ·have e2:kU p (m:Int) (q,t)=[]:=if_neg λh=>by have h2:=h.2;simp only at h2 hf;rw[hf]at h2;cases h2
   have h5:=loop t.kids.length 0 c (by omega) hP hM (by simp;omega);rw[List.drop_zero]at h5;rw[e2];exact h5
  ·have e2:kU p (m:Int) (q,t)=[]:=if_neg λh=>h9 h.1;have h5:=loop t.kids.length 0 c (by omega) hP hM (by simp;omega);rw[List.drop_zero]at h5;rw[e2];exact h5
theorem sX{p:List Tree}{mo:Int}:∀(n:Nat) (t:Tree) (q:List Int),tbulk t≤n→exT t→bv p mo (nodK t q)=[]
 |0,t,q,hb,_=>by have :=bN t;omega
 | n +1,t,q,hb,hx=>by
  have hk':10≤t.kind:=(by simpa[dv]using hx.2:10≤t.kind∧t.kind≤22∧t.kind≠17).1;have kid:∀(i:Nat) (u:Tree),t.kids[i]?=some u→bv p mo (nodK u (q++[(i:Int)]))=[]:=λi u hu=>by
   have hku:=ax hu;by_cases h16:t.kind=16
   ·obtain⟨h1,h2,h3⟩:=zG hx hu h16;obtain⟨v,e⟩:=wA h2;have hv:u.kids[0]?=some v:=by rw[e];rfl
    have hkv:=ax hv;rw[dl hv]at h3;have :=sX (p:=p) (mo:=mo) n v ((q++[(i:Int)])++[((0:Nat):Int)]) (by omega) h3;rw[dF,e];simp only[bv,nodKs,List.append_nil,jz];rw[this];unfold kU;rw[if_neg (λh=>by have :=h.1;simp only at this;omega)];rfl
   ·exact sX n u _ (by omega) (cv hx hu h16).1
  have all:∀(l:List Tree) (i:Nat),(∀(j:Nat) (u:Tree),l[j]?=some u→bv p mo (nodK u (q++[((i+j:Nat):Int)]))=[])→bv p mo (nodKs l q i)=[]:=by
   intro l
   induction l with
   |nil=>intro i _;rfl
   | cons a r ih=>
    intro i h;simp only[nodKs,jz];rw[show bv p mo (nodK a (q++[(i:Int)]))=[]from h 0 a rfl];exact ih (i+1) λj u hu=>by
     have :=h (j+1) u (by simpa using hu);rw[show i+1+j=i+(j+1) by omega];exact this
  rw[dF,bv,all t.kids 0 λj u hu=>by simpa using kid j u hu];unfold kU;rw[if_neg (λh=>by have :=h.1;simp only at this;omega)];rfl
theorem sy:∀(n:Nat) (u:Tree) (x:Cx) (s:Sv) (rest:List ar),tbulk u≤n→tyK u→s.tg=aO x.p x.mo (nodK u x.pa)++rest→dD n x u s={s with tg:=rest,fa:=s.fa++bv x.p x.mo (nodK u x.pa)}
 |0,u,x,s,rest,hb,_,_=>by have :=bN u;omega
 | n +1,u,x,s,rest,hb,hu,hq=>by
  rcases kp hu with⟨h8,_,v,hv,hvt⟩|⟨h8,hk,_⟩
  ·have hv0:u.kids[0]?=some v:=by rw[hv];rfl
   have hkv:=ax hv0;have e:dD (n+1) x u s=dD n (x.go ((0:Nat):Int)) v s:=by simp[dD,h8,dl hv0]
   have hn:nodK u x.pa=(x.pa,u)::nodK v (x.pa++[((0:Nat):Int)]):=by rw[dF,hv];simp[nodKs]
   have hq':s.tg=aO x.p x.mo (nodK v (x.pa++[((0:Nat):Int)]))++rest:=by
    rw[hq,hn,aO,show cP u=false by simp[cP,h8]];rfl
   rw[e,sy n v (x.go ((0:Nat):Int)) s rest (by omega) hvt hq',hn];have :bv x.p x.mo ((x.pa,u)::nodK v (x.pa++[((0:Nat):Int)]))=bv x.p x.mo (nodK v (x.pa++[((0:Nat):Int)])):=by
    rw[bv];unfold kU;rw[if_neg (λh=>by have :=h.1;simp only at this;omega)];rfl
   rw[this];rfl
  ·have hn:nodK u x.pa=[(x.pa,u)]:=by rw[dF,hk];rfl
   by_cases h9:u.kind=9
   ·have hq':s.tg=tgK x.p x.mo x.pa u::rest:=by rw[hq,hn];simp[aO,cP,h9]
    have e:dD (n+1) x u s=if(s.tg.headD noT).Free then faP x 1 [] (bx s)else bx s:=by simp[dD,h9]
    have hhd:s.tg.headD noT=tgK x.p x.mo x.pa u:=by rw[hq'];rfl
    rw[e,hhd,hn];have hu:bx s={s with tg:=rest}:=by simp[bx,hq']
    rw[hu];cases hf:(aT x.p x.mo u.text).2.2
    ·have h1:(tgK x.p x.mo x.pa u).Free=true:=by simp[tgK,hf]
     rw[if_pos h1];simp[faP,bv,kU,h9,hf]
    ·have h1:(tgK x.p x.mo x.pa u).Free=false:=by simp[tgK,hf]
     rw[if_neg (by rw[h1];decide)];simp[bv,kU,h9,hf]
   ·have hk9:u.kind≠16:=by have :=hu.2;simp[fX]at this;omega
    have hq':s.tg=rest:=by rw[hq,hn];simp[aO,cP,h9,hk9]
    have e:dD (n+1) x u s=s:=by simp[dD,h9,h8]
    rw[e,hn];simp[bv,kU,h9,←hq']
def yj(k:Tree):Prop:=∃v,k.kind=4∧k.kids=[v]∧tyK v
theorem EO{k v:Tree}(q:List Int)(J:k.kind=4)(G:k.kids=[v]):nodK k q=(q,k)::nodK v (q++[((0:Nat):Int)]):=by rw[dF,G];simp[nodKs]
theorem yo(x:Cx):∀(ks:List Tree) (i:Nat) (s:Sv) (rest:List ar),(∀k∈ks,yj k)→s.tg=aO x.p x.mo (nodKs ks x.pa i)++rest→iz x ks i s={s with tg:=rest,fa:=s.fa++bv x.p x.mo (nodKs ks x.pa i)}
 |[],i,s,rest,_,hq=>by
  have :s.tg=rest:=by rw[hq];rfl
  simp[iz,nodKs,bv,←this]
 | k::r,i,s,rest,hp,hq=>by
  obtain⟨v,h4,hk,hv⟩:=hp k List.mem_cons_self;have hv0:k.kids[0]?=some v:=by rw[hk];rfl
  have h1:=iP hq;rw[EO _ h4 hk,aO,show cP k=false by simp[cP,h4]]at h1;have h2:=sy (tbulk v) v ((x.go i).go ((0:Nat):Int)) s _ (Nat.le_refl _) hv h1;rw[iz,dl hv0,h2];rw[yo x r (i+1) _ rest (λk' h'=>hp k' (List.mem_cons_of_mem _ h')) rfl];have e:bv x.p x.mo (nodKs (k::r) x.pa i)=bv x.p x.mo (nodK v ((x.pa++[(i:Int)])++[((0:Nat):Int)]))++bv x.p x.mo (nodKs r x.pa (i+1)):=by
   rw[nodKs,jz,EO _ h4 hk,bv];unfold kU;rw[if_neg (λh=>by have :=h.1;simp only at this;omega)];rfl
  rw[e,←List.append_assoc];rfl
def bdP(p:List Tree)(m:Int)(k:Tree):Bd:=⟨k.text,wrY p m (bz k 0)⟩
theorem Br{p:List Tree}(J:aR p=true){m:Int}(O:0≤m)(h1:m<p.length):∀(ks:List Tree),(∀k∈ks,yj k)→Fh (cx ks (ks.map λk=>tyN p m (bz k 0))) (ks.map (bdP p m))
 |[],_=>trivial
 |k::r,U=>by
  obtain⟨v,Z,G,hv⟩:=U k List.mem_cons_self;refine⟨rfl,?_,Br J O h1 r λk' h'=>U k' (List.mem_cons_of_mem _ h')⟩;show TyR (tyN p m (bz k 0)) (wrY p m (bz k 0));rw[Cn G];exact zi J O h1 hv
theorem Aq{x:Cx}{c:CHr}(G:RX x c){f:Tree}{n:Nat}(hn:n+2=f.kids.length)(hb:tbulk f≤10000000)(Z:∀k∈f.kids.take n,yj k){d:Int}{y:Ty}{c':CHr}{M0:Nat}(fin:cJ M0 d f c ((f.kids.take n).map (bdP x.p x.mo)).reverse (-1) y c'):∀j,j≤n→cJ (M0+j) d f c (((f.kids.take n).drop j).map (bdP x.p x.mo)).reverse ((j:Int)-1) y c'
 |0,_=>by simpa using fin
 |j+1,hj=>by
  have ih:=Aq G hn hb Z fin j (by omega);have hkl:=bN f;obtain⟨u,U⟩:∃u,f.kids[j]?=some u:=⟨_,dn (by omega)⟩;have J:(f.kids.take n)[j]?=some u:=by rw[List.getElem?_take,if_pos (by omega)];exact U
  obtain⟨v,h4,hk,hv⟩:=Z u (List.mem_of_getElem? J);have O:u.kids[0]?=some v:=by rw[hk];rfl
  have b1:=ax U;have b2:=ax O;have e:(((j+1:Nat):Int)-1)=(j:Int):=by omega
  rw[e];have hw:=wj G.ok G.hb G.m0 G.m1 hv (by omega) G.P;rw[aJ J,List.map_cons,List.reverse_cons]at ih;have eb:bdP x.p x.mo u=⟨u.text,wrY x.p x.mo v⟩:=by unfold bdP;rw[Cn hk]
  rw[eb]at ih;refine rL0_semvcsref08_Check_body (M0+j) _ _ _ _ _ _ _ (⟨λ_=>⟨j,rfl,u,U,j,rfl,u,U,v,O,_,_,by rw[G.M];exact hw,?_,⟨by omega,by omega⟩,ih⟩,λh=>absurd (by omega) h⟩);simp;omega
theorem Cu{c:CHr}{s:Sv}{L d:Nat}{root f b:Tree}(G:RX x c)(hmo:x.mo=(m:Int))(Z:x.pa=[])(hm:x.p[m]?=some root)(hd:root.kids[d]?=some f)(hn:n+2=f.kids.length)(O:f.kids[n+1]?=some b)(hbx:exT b)(hp:∀k∈f.kids.take n,yj k)
  (hy:Hyp (x.go (d:Int)) (cx (f.kids.take n) ((f.kids.take n).map λk=>tyN x.p x.mo (bz k 0))) s L (tbulk b+1) (uN b)) (hQ:∃rest,s.tg=aO x.p x.mo (nodK b [(d:Int),((n+1:Nat):Int)])++rest) (hN:∀q u,(q,u)∈nodK b [(d:Int),((n+1:Nat):Int)]→u.kind=17→q≠c.Want) (hl:c.L.length≤s.fa.length):
  ∃y c',cZ c d y c'∧TyR (aA (bj (tbulk f)) (x.go (d:Int)) f (n+1) (cx (f.kids.take n) ((f.kids.take n).map λk=>tyN x.p x.mo (bz k 0))) s).1 y∧DR x s (aA (bj (tbulk f)) (x.go (d:Int)) f (n+1) (cx (f.kids.take n) ((f.kids.take n).map λk=>tyN x.p x.mo (bz k 0))) s).2 c c':=by
 have hkl:=bN f;have hbb:=ax O;have hfb:tbulk f≤10000000:=by
  have :=aY hm;have :=ax hd;have :=G.hb;omega
 have J:((x.go (d:Int)).go ((n+1:Nat):Int)).pa=[(d:Int),((n+1:Nat):Int)]:=by simp[Cx.go,Z]
 have hE:nb (cx (f.kids.take n) ((f.kids.take n).map λk=>tyN x.p x.mo (bz k 0))) ((f.kids.take n).map (bdP x.p x.mo)).reverse:=by
  unfold nb;rw[List.reverse_reverse];exact Br G.ok G.m0 G.m1 _ hp
 have p1:=hy.pa;obtain⟨y,c1,h1,h2,h3⟩:=EE (tbulk f) b (by omega) hbx ((x.go (d:Int)).go ((n+1:Nat):Int)) _ s _ c L ⟨by rw[J];simp;omega,by have :=hy.fa;omega,hy.tg,by have :=hy.lb;omega,hy.env,hy.sg⟩ ⟨G.P,G.M,G.ok,G.hb,G.m0,G.m1,G.sg⟩ hE (by obtain⟨r,hr⟩:=hQ;exact⟨r,by rw[J];exact hr⟩) (λq v hm hk=>hN q v (by rw[J]at hm;exact hm) hk) hl (by simp;omega);have hlb:=hy.lb;have hgk:=(si (tbulk f) b (by omega) hbx ((x.go (d:Int)).go ((n+1:Nat):Int)) _ s L ⟨by rw[J];simp;omega,by have :=hy.fa;omega,hy.tg,by have :=hy.lb;omega,hy.env,hy.sg⟩).2.k.2;rw[J]at h1;have e:aA (bj (tbulk f)) (x.go (d:Int)) f (n+1) (cx (f.kids.take n) ((f.kids.take n).map λk=>tyN x.p x.mo (bz k 0))) s=wg (x.go (d:Int)) (n+1) (bj (tbulk f) ((x.go (d:Int)).go ((n+1:Nat):Int)) b (cx (f.kids.take n) ((f.kids.take n).map λk=>tyN x.p x.mo (bz k 0))) s):=by unfold aA;rw[dl O]
 rw[e];have U:(x.go (d:Int)).pa=[(d:Int)]:=by simp[Cx.go,Z]
 obtain⟨c',g1,g2⟩:=Ef (x:=x.go (d:Int)) (i:=n+1) (s:=s) (u:=b) (en:=((f.kids.take n).map (bdP x.p x.mo)).reverse) (c:=c) (by rw[U];simp) (by rw[U];exact h1) h2 ⟨h3.P,h3.M,h3.W,h3.d,h3.g⟩ (by omega);rw[U]at g1;have ek:(((f.kids.length:Nat):Int)-1)=((n+1:Nat):Int):=by omega
 have fin:cJ 1 (d:Int) f c ((f.kids.take n).map (bdP x.p x.mo)).reverse (-1) y c':=
  rL0_semvcsref08_Check_body 0 _ _ _ _ _ _ _ (⟨λh=>absurd h (by omega),λ_=>⟨⟨by omega,by omega⟩,n+1,ek,b,O,⟨by omega,by omega⟩,_,_,by rw[ek];exact g1,rfl,rfl⟩⟩)
 have hL:=Aq G hn hfb hp fin n (Nat.le_refl _);rw[List.drop_of_length_le (by simp;omega)]at hL;refine⟨y,c',qU (1+n) _ _ _ _ (⟨m,G.M.trans hmo,root,by rw[G.P];exact hm,d,rfl,f,hd,?_⟩),?_,⟨g2.P,g2.M,g2.W,g2.d,g2.g⟩⟩
 ·rw[show((f.kids.length:Nat):Int)-3=(n:Int)-1 by omega];simpa using hL
 ·generalize bj (tbulk f) ((x.go (d:Int)).go ((n+1:Nat):Int)) b (cx (f.kids.take n) ((f.kids.take n).map λk=>tyN x.p x.mo (bz k 0))) s=r at h2⊢;obtain⟨k,s'⟩:=r;exact h2
theorem we(q:List Int):∀(a b:List Tree) (i:Nat),nodKs (a++b) q i=nodKs a q i++nodKs b q (i+a.length)
 |[],b,i=>rfl
 |t::r,b,i=>by
  simp only[List.cons_append,nodKs,we q r b (i+1),List.length_cons,List.append_assoc];rw[show i+1+r.length=i+(r.length+1) by omega]
theorem yb{mo:Int}{z:List Int×Tree}{r:List (List Int×Tree)}(h:z.2.kind≠9):bv p mo (z::r)=bv p mo r:=by
 rw[bv];unfold kU;rw[if_neg (λh'=>h h'.1)];rfl
theorem DR.of_x{G:Cx}{c:CHr}(h:DR G s s' c c')(h1:G.mo=x.mo)(h2:G.wm=x.wm)(J:G.wp=x.wp):DR x s s' c c':=
 ⟨h.P,h.M,h.W,h.d,λg=>by have :=h.g (by unfold GR at g⊢;rw[h1,h2,J];exact g);unfold GR at this⊢;rw[h1,h2,J]at this;exact this⟩
theorem DR.app{c:CHr}(l:List FE)(tg:List ar):DR x s {s with tg:=tg,fa:=s.fa++l} c (apC c l):=
 ⟨rfl,rfl,rfl,λP=>by simp only[apC,List.countP_append];omega,λg=>g⟩
theorem DU{c:CHr}{s:Sv}{d:Nat}{root f:Tree}{rest:List ar}(hX:RX x c)(hmo:x.mo=(m:Int))(hpa:x.pa=[])(hm:x.p[m]?=some root)(hd:root.kids[d]?=some f)(hk:f.kind=2)(hs:shapeK f=true)
  (hq:s.tg=aO x.p x.mo (nodK f [(d:Int)])++rest) (hN:∀q u,(q,u)∈nodK root []→u.kind=17→q≠c.Want) (hl:c.L.length≤s.fa.length) (hfa:s.fa.length+5*tbulk f+1≤800000000) (hsg:∀k g,aC k x.sg=some g→KOk 100000000 g.result):
  ∃(n:Nat) (rt:Tree) (c1:CHr) (y:Ty) (c2:CHr) (dd:Bool),n+2=f.kids.length∧f.kids[n]?=some rt∧cV c [(d:Int)] c1∧cZ c1 d y c2∧aX c2 (m:Int) rt (wrY x.p (m:Int) rt) c2∧bh y (wrY x.p (m:Int) rt) dd∧DR x s (funS (x.go (d:Int)) f (dr x.p x.mo f) s) c (erI dd c2 [(d:Int),((n+1:Nat):Int)] 4)∧(funS (x.go (d:Int)) f (dr x.p x.mo f) s).tg=rest∧(funS (x.go (d:Int)) f (dr x.p x.mo f) s).fa.length≤s.fa.length+5*tbulk f∧c2.L.length+1≤1000000000:=by
 obtain⟨s1,s2,s3,s4⟩:=mw hs hk;have hkl:=bN f;have hB:=bp f;obtain⟨n,hn⟩:∃n,n+2=f.kids.length:=⟨f.kids.length-2,by omega⟩;obtain⟨r,hr⟩:∃r,f.kids[n]?=some r:=⟨_,List.getElem?_eq_getElem (by omega)⟩;obtain⟨b,hb⟩:∃b,f.kids[n+1]?=some b:=⟨_,List.getElem?_eq_getElem (by omega)⟩;have hrt:=s3 r (by rw[show f.kids.length-2=n by omega];exact hr);have hbx:=s4 b (by rw[show f.kids.length-1=n+1 by omega];exact hb);have hsplit:f.kids=f.kids.take n++[r,b]:=by
  have e1:f.kids.drop n=[r,b]:=by
   rw[aJ hr,aJ hb,List.drop_of_length_le (by omega)]
  rw[←e1,List.take_append_drop]
 have hrb:=ax hr;have hbb:=ax hb;have hfb:tbulk f≤10000000:=by
  have :=aY hm;have :=ax hd;have :=hX.hb;omega
 have hp:∀k∈f.kids.take n,yj k:=λk hk=>by
  obtain⟨i,hi⟩:=List.mem_iff_getElem?.1 hk;rw[List.getElem?_take]at hi;split at hi
  ·obtain⟨v,h1,h2,h3⟩:=s2 i k hi (by omega);exact⟨v,h1,h2,h3⟩
  ·cases hi
 have hxd:(x.go (d:Int)).pa=[(d:Int)]:=by simp[Cx.go,hpa]
 have hnod:nodK f [(d:Int)]=([(d:Int)],f)::(nodKs (f.kids.take n) [(d:Int)] 0++(nodK r [(d:Int),(n:Int)]++nodK b [(d:Int),((n+1:Nat):Int)])):=by
  rw[dF]
  conv=>lhs;rw[hsplit]
  rw[we];have :(f.kids.take n).length=n:=by simp;omega
  rw[this,Nat.zero_add];simp[nodKs]
 have hq':s.tg=aO x.p x.mo (nodKs (f.kids.take n) [(d:Int)] 0)++(aO x.p x.mo (nodK r [(d:Int),(n:Int)])++(aO x.p x.mo (nodK b [(d:Int),((n+1:Nat):Int)])++rest)):=by
  rw[hq,hnod,aO,show cP f=false by simp[cP,hk]];simp[kO]
 obtain⟨X,hXX⟩:∃X,X=bv x.p x.mo (nodKs (f.kids.take n) [(d:Int)] 0):=⟨_,rfl⟩;obtain⟨Y,hYY⟩:∃Y,Y=bv x.p x.mo (nodK r [(d:Int),(n:Int)]):=⟨_,rfl⟩;have hpar:=yo (x.go (d:Int)) (f.kids.take n) 0 s _ hp (by rw[hxd];exact hq');rw[hxd]at hpar;have htyp:=sy (tbulk f) r ((x.go (d:Int)).go (n:Int)) {s with tg:=aO x.p x.mo (nodK r [(d:Int),(n:Int)])++(aO x.p x.mo (nodK b [(d:Int),((n+1:Nat):Int)])++rest),fa:=s.fa++X} (aO x.p x.mo (nodK b [(d:Int),((n+1:Nat):Int)])++rest) (by omega) hrt (by simp[Cx.go,hpa]);have hpr:((x.go (d:Int)).go (n:Int)).pa=[(d:Int),(n:Int)]:=by simp[Cx.go,hpa]
 rw[hpr]at htyp;obtain⟨sB,hsB⟩:∃sB:Sv,sB={s with tg:=aO x.p x.mo (nodK b [(d:Int),((n+1:Nat):Int)])++rest,fa:=s.fa++(X++Y)}:=⟨_,rfl⟩;have hB2:dD (tbulk f) ((x.go (d:Int)).go (n:Int)) r (iz (x.go (d:Int)) (f.kids.take n) 0 s)=sB:=by
  rw[hpar,hsB];refine Eq.trans ?_ (htyp.trans ?_)
  ·rw[hXX];rfl
  ·rw[hYY];simp[Cx.go]
 have hfree:bv x.p x.mo (nodK f [(d:Int)])=X++Y:=by
  rw[hnod,yb (by simp only;omega),jz,jz,sX (tbulk b) b _ (Nat.le_refl _) hbx,List.append_nil,←hXX,←hYY]
 have hXY:(X++Y).length≤tbulk f:=by
  rw[←hfree];exact Nat.le_trans (qm _ _ _) (nodK_len f _)
 have hat:atK root [(d:Int)]=some f:=rq hd;have hcf:=Dh hm hX.hb (tbulk f) f [(d:Int)] c (Nat.le_refl _) hat hX.P (hX.M.trans hmo) (by simp;omega) (by omega);rw[←hmo,hfree]at hcf;have d1:DR x s sB c (apC c (X++Y)):=by rw[hsB];exact DR.app _ _
 have hU:uN b=(aO x.p x.mo (nodK b [(d:Int),((n+1:Nat):Int)])).length:=(tgs_uN x.p x.mo b _).symm;have hgs:dr x.p x.mo f=⟨(f.kids.take n).map λk=>tyN x.p x.mo (bz k 0),tyN x.p x.mo r⟩:=by
  unfold dr;rw[show f.kids.length-2=n by omega,dl hr]
 have hgp:=(vU (p:=x.p) (m:=x.mo) (f:=f) (B:=tbulk f) (Nat.le_refl _)).2;rw[hgs]at hgp;have hKb:=hX.hb;have HY:Hyp (x.go (d:Int)) (cx (f.kids.take n) ((f.kids.take n).map λk=>tyN x.p x.mo (bz k 0))) sB 100000000 (tbulk b+1) (uN b):=
  ⟨by rw[hxd];simp;omega,by rw[hsB];simp only[List.length_append]at hXY⊢;omega,by rw[hsB,hU];simp,by omega,λc hc=>by
   have :∀(ks:List Tree) (ps:List Kn),(∀q∈ps,KOk (2*tbulk f+kbulk x.p+2) q)→∀c∈cx ks ps,KOk (2*tbulk f+kbulk x.p+2) c.typ:=λks=>by
    induction ks with
    |nil=>intro ps _ c hc;simp[cx]at hc
    | cons k r ih=>
     intro ps hps c hc;cases ps with
     |nil=>simp[cx]at hc
     |cons q l=>
      simp only[cx,List.mem_cons]at hc;rcases hc with rfl|hc
      ·exact hps q List.mem_cons_self
      ·exact ih l (λq hq=>hps q (List.mem_cons_of_mem _ hq)) c hc
   exact(this _ _ hgp c hc).mono (by omega),hsg⟩
 have hl1:(apC c (X++Y)).L.length≤sB.fa.length:=by rw[hsB];simp only[apC,List.length_append];omega
 obtain⟨_,C2⟩:=da (si (tbulk f)) (x:=x.go (d:Int)) (s:=sB) hb (by omega) hbx HY;obtain⟨y,c2,g1,g2,g3⟩:=Cu (c:=apC c (X++Y)) (hX.to d1) hmo hpa hm hd hn hb hbx hp HY ⟨rest,by rw[hsB]⟩ (λq u hm' h17=>by
  have e:(apC c (X++Y)).Want=c.Want:=rfl;rw[e];refine hN q u (rU [] hd _ ?_) h17;have h2:=rU [(d:Int)] hb (q,u) (by simpa using hm');simpa using h2) hl1
 have hfun:funS (x.go (d:Int)) f (dr x.p x.mo f) s=funQ (x.go (d:Int)) (n+1) (tyN x.p x.mo r) (aA (bj (tbulk f)) (x.go (d:Int)) f (n+1) (cx (f.kids.take n) ((f.kids.take n).map λk=>tyN x.p x.mo (bz k 0))) sB):=by
  unfold funS;rw[hgs,show f.kids.length-1=n+1 by omega,show f.kids.length-2=n by omega,dl hr,hB2]
 rw[hfun];generalize aA (bj (tbulk f)) (x.go (d:Int)) f (n+1) (cx (f.kids.take n) ((f.kids.take n).map λk=>tyN x.p x.mo (bz k 0))) sB=w at C2 g2 g3⊢;obtain⟨k,sC⟩:=w;have cA:=C2.fa;have cT:=C2.tg;simp only at cA cT g2 g3;have hwr:=wj hX.ok hX.hb (m:=(m:Int)) (by omega) (by rw[←hmo];exact hX.m1) hrt (by omega) (c:=c2) ((g3.P).trans hX.P);have hT:=zi hX.ok hX.m0 hX.m1 hrt;have d3:=DR.er (x:=x.go (d:Int)) (s:=sC) (c:=c2) (g3.M.trans hX.M) (aS k (tyN x.p x.mo r)) [((n+1:Nat):Int)] 4;rw[hxd]at d3;have hfq:funQ (x.go (d:Int)) (n+1) (tyN x.p x.mo r) (k,sC)=if aS k (tyN x.p x.mo r)=true then faP (x.go (d:Int)) 4 [((n+1:Nat):Int)] sC else sC:=rfl
 obtain⟨v1,v2,v3⟩:=wK (aS k (tyN x.p x.mo r)) (x.go (d:Int)) 4 [((n+1:Nat):Int)] sC;rw[←hfq]at v1 v2 v3 d3;have l3:=g3.len;have hXY2:=hXY;rw[hsB]at l3 cA cT;simp only[apC,List.length_append]at l3 cA hXY2;refine⟨n,r,_,y,c2,aS k (tyN x.p x.mo r),hn,hr,hcf,g1,hwr,by rw[←hmo];exact lF g2 hT,(d1.trans g3).trans (d3.of_x rfl rfl rfl),?_,?_,?_⟩
 ·rw[v1,cT,hU,List.drop_left]
 ·omega
 ·omega
theorem EJ{c:CHr}{s:Sv}{d:Nat}{root f b:Tree}{rest:List ar}(O:RX x c)(U:x.mo=(m:Int))(Z:x.pa=[])(hm:x.p[m]?=some root)(hd:root.kids[d]?=some f)(hk:f.kind=3)(hkb:f.kids=[b])(hb:tyK b)
  (hq:s.tg=aO x.p x.mo (nodK f [(d:Int)])++rest) (hl:c.L.length≤s.fa.length) (hfa:s.fa.length+5*tbulk f+1≤800000000):
  ∃c1,cV c [(d:Int)] c1∧DR x s (qt (x.go (d:Int)) d f s) c (erI (gH x.p x.mo (d:Int)) c1 [(d:Int)] 5)∧(qt (x.go (d:Int)) d f s).tg=rest∧(qt (x.go (d:Int)) d f s).fa.length≤s.fa.length+5*tbulk f∧c1.L.length+1≤1000000000:=by
 have hB:=bp f;have hb0:f.kids[0]?=some b:=by rw[hkb];rfl
 have hbb:=ax hb0;have hfb:tbulk f≤10000000:=by
  have :=aY hm;have :=ax hd;have :=O.hb;omega
 have hxd:(x.go (d:Int)).pa=[(d:Int)]:=by simp[Cx.go,Z]
 have J:nodK f [(d:Int)]=([(d:Int)],f)::nodK b [(d:Int),((0:Nat):Int)]:=by rw[dF,hkb];simp[nodKs]
 have hq':s.tg=aO x.p x.mo (nodK b [(d:Int),((0:Nat):Int)])++rest:=by
  rw[hq,J,aO,show cP f=false by simp[cP,hk]];rfl
 obtain⟨F,hF⟩:∃F,F=bv x.p x.mo (nodK b [(d:Int),((0:Nat):Int)]):=⟨_,rfl⟩;have hfree:bv x.p x.mo (nodK f [(d:Int)])=F:=by rw[J,yb (by simp only;omega),hF]
 have hFl:F.length≤tbulk f:=by rw[←hfree];exact Nat.le_trans (qm _ _ _) (nodK_len f _)
 have hcf:=Dh hm O.hb (tbulk f) f [(d:Int)] c (Nat.le_refl _) (rq hd) O.P (O.M.trans U) (by simp;omega) (by omega);rw[←U,hfree]at hcf;obtain⟨v1,v2,v3⟩:=wK (gH x.p x.mo (d:Int)) (x.go (d:Int)) 5 [] s;obtain⟨s1,G⟩:∃s1:Sv,s1=if gH x.p x.mo (d:Int)=true then faP (x.go (d:Int)) 5 [] s else s:=⟨_,rfl⟩
 rw[←G]at v1 v2 v3;have hp2:((x.go (d:Int)).go ((0:Nat):Int)).pa=[(d:Int),((0:Nat):Int)]:=by simp[Cx.go,Z]
 have ht:=sy (tbulk f) b ((x.go (d:Int)).go ((0:Nat):Int)) s1 rest (by omega) hb (by rw[hp2];exact v1.trans hq');rw[hp2]at ht;have ea:qt (x.go (d:Int)) d f s={s1 with tg:=rest,fa:=s1.fa++F}:=by
  unfold qt;rw[dl hb0,hF];refine Eq.trans ?_ ht;rw[G];rfl
 obtain⟨e1,e2,e3,e4⟩:=iR (gH x.p x.mo (d:Int)) (apC c F) [(d:Int)] 5;have d1:=DR.er (x:=x.go (d:Int)) (s:=s) (c:=c) O.M (gH x.p x.mo (d:Int)) [] 5;rw[←G]at d1;have d2:=d1.of_x (x:=x) rfl rfl rfl;rw[ea];refine⟨_,hcf,⟨e1,e2,e3,λP=>?_,λg=>?_⟩,rfl,by simp only[List.length_append];omega,by simp only[apC,List.length_append];omega⟩
 ·have z1:=yI P (gH x.p x.mo (d:Int)) (x:=x.go (d:Int)) (c:=apC c F) O.M 5 [];have z2:=zg P (gH x.p x.mo (d:Int)) (x.go (d:Int)) 5 [] s;rw[←G]at z2;rw[hxd]at z1;rw[show[(d:Int)]++[]=[(d:Int)]from rfl]at z1;have z3:(apC c F).L.countP P=c.L.countP P+F.countP P:=by simp[apC,List.countP_append]
  simp only[List.countP_append];omega
 ·have h1:=d2.g g;have h2:GR x s1 c:=by
   rw[G];cases gH x.p x.mo (d:Int)
   ·exact g
   ·exact g
  have h3:GR x s1 (apC c F):=h2;have h4:=h3.er (gH x.p x.mo (d:Int)) [(d:Int)] 5;exact h4
theorem LV{a b:FE}(hm:a.At.Module=b.At.Module)(ha:PbE a):lO a b (decide (ii a b<0)):=by
 have e:ii a b=if cR a.At.Path b.At.Path≠0 then cR a.At.Path b.At.Path else iy a.Kind b.Kind:=by
  unfold ii;rw[ifz ((qz.eq _ _).2 hm)]
 have kk:decide (a.Kind<b.Kind)=decide (iy a.Kind b.Kind<0):=by
  unfold iy;by_cases h1:a.Kind<b.Kind
  ·simp[h1]
  ·by_cases h2:b.Kind<a.Kind<;>simp[h1,h2]
 have hp:a.At.Path.length≤1000000000:=ha;have last:∀m,iC (m+1) a b (if a.At.Path.length=b.At.Path.length then decide (iy a.Kind b.Kind<0)else decide (((a.At.Path.length:Nat):Int)<((b.At.Path.length:Nat):Int))):=λm=>
  rL1_semvcsref08_ahead m _ _ _ (⟨λh=>(if_neg h).symm,λh=>by rw[if_pos h];exact kk⟩)
 have loop:∀k i,a.At.Path.length-i≤k→i≤a.At.Path.length→i≤b.At.Path.length→iu (k+2) a b i (decide ((if cR (a.At.Path.drop i) (b.At.Path.drop i)≠0 then cR (a.At.Path.drop i) (b.At.Path.drop i)else iy a.Kind b.Kind)<0)):=by
  intro k
  induction k with
  | zero=>
   intro i hk h1 h2;have d1:a.At.Path.drop i=[]:=List.drop_of_length_le (by omega);have l1:=last 0;rw[d1];refine hJ 1 _ _ _ _ (⟨λh=>absurd h (by omega),λ_=>?_⟩);rcases lG b.At.Path i with⟨y,s,g1,g2,g3,g4⟩|⟨g1,g2⟩
   ·rw[g1];rw[if_neg (by omega),decide_eq_true (by omega:((a.At.Path.length:Nat):Int)<_)]at l1;simpa[cR]using l1
   ·rw[g1];rw[if_pos (by omega)]at l1;simpa[cR]using l1
  | succ k ih=>
   intro i hk h1 h2;have l1:=last (k+1);rcases lG a.At.Path i with⟨x,r,e1,e2,e3,e4⟩|⟨e1,e2⟩
   ·rcases lG b.At.Path i with⟨y,s,g1,g2,g3,g4⟩|⟨g1,g2⟩
    ·refine hJ (k+2) _ _ _ _ (⟨λ_=>⟨λ_=>⟨x,e2,y,g2,λhn=>⟨x,e2,y,g2,?_⟩,λhe=>?_⟩,λh=>absurd g4 h⟩,λh=>absurd e4 h⟩)
     ·have hz:iy x y≠0:=λh=>hn ((qz.eq _ _).1 h);rw[e1,g1,cR,ifn hz,ifn hz];unfold iy;by_cases h3:x<y
      ·simp[h3]
      ·by_cases h4:y<x<;>simp[h3,h4]
     ·have hz:iy x y=0:=(qz.eq _ _).2 he;have :=ih (i+1) (by omega) (by omega) (by omega);rw[e3,g3]at this;rw[e1,g1,cR,ifz hz];exact this
    ·refine hJ (k+2) _ _ _ _ (⟨λ_=>⟨λh=>absurd h (by omega),λ_=>?_⟩,λh=>absurd e4 h⟩);rw[e1,g1];rw[if_neg (by omega),decide_eq_false (by omega:¬((a.At.Path.length:Nat):Int)<_)]at l1;simpa[cR]using l1
   ·refine hJ (k+2) _ _ _ _ (⟨λh=>absurd h (by omega),λ_=>?_⟩);rcases lG b.At.Path i with⟨y,s,g1,g2,g3,g4⟩|⟨g1,g2⟩
    ·rw[e1,g1];rw[if_neg (by omega),decide_eq_true (by omega:((a.At.Path.length:Nat):Int)<_)]at l1;simpa[cR]using l1
    ·rw[e1,g1];rw[if_pos (by omega)]at l1;simpa[cR]using l1
 have :=loop a.At.Path.length 0 (by omega) (by omega) (by omega);rw[e];exact uP (a.At.Path.length+2) _ _ _ (by simpa using this)
theorem EG{p:List Tree}{out post:List FE}{mI i:Nat}(hi:i+1≤1000000000):∀(n:Nat) (P Q:List FE) (x:FE),P.length=n→PbE x→(∀q∈P,x.At.Module=q.At.Module)→cq (P++Q)→(∀q∈Q,leE x q)→n≤1000000000→
  ∃S:List FE,S.Perm (P++x::Q)∧cq S∧∀M r,ci M p out mI (S++post) (i+1) r→∃M',hI M' p out mI ((P++x::Q)++post) i (n:Int) r
 |0,P,Q,x,hl,hx,hmm,hs,hq,hb=>by
  have :P=[]:=List.eq_nil_of_length_eq_zero hl;subst this;exact⟨x::Q,List.Perm.refl _,List.pairwise_cons.2 ⟨hq,hs⟩,λM r h=>⟨M+1,jP M _ _ _ _ _ _ _ (⟨λh'=>absurd h' (by omega),λ_=>⟨by omega,h⟩⟩)⟩⟩
 | n+1,P,Q,x,hl,hx,hmm,hs,hq,hb=>by
  obtain⟨P',p',rfl⟩:∃P' p',P=P'++[p']:=⟨P.dropLast,P.getLast (λh=>by subst h;simp at hl),(List.dropLast_concat_getLast _).symm⟩;simp only[List.length_append,List.length_cons,List.length_nil]at hl;have hl':P'.length=n:=by omega
  have g1:((P'++[p']++x::Q)++post)[n+1]?=some x:=by
   rw[show(P'++[p']++x::Q)++post=(P'++[p'])++x::(Q++post) by simp];exact fb (by simp;omega)
  have e2:(P'++[p']++x::Q)++post=P'++p'::(x::Q++post):=by simp
  have g2:((P'++[p']++x::Q)++post)[n]?=some p':=by rw[e2];exact fb hl'
  have i1:InI (((n+1:Nat):Int)-1):=⟨by omega,by omega⟩;have ei:(((n+1:Nat):Int)-1)=(n:Int):=by omega
  have hah:=LV (hmm p' (by simp)) hx;by_cases hc:ii x p'<0
  ·rw[decide_eq_true hc]at hah;have s1:((P'++[p']++x::Q)++post).set (n+1) p'=P'++p'::(p'::Q++post):=by
    rw[show(P'++[p']++x::Q)++post=(P'++[p'])++x::(Q++post) by simp,lI (by simp;omega)];simp
   have s2:(((P'++[p']++x::Q)++post).set (n+1) p').set n x=(P'++x::(p'::Q))++post:=by
    rw[s1,lI (by omega)];simp
   have g3:(((P'++[p']++x::Q)++post).set (n+1) p')[n]?=some p':=by rw[s1];exact fb (by omega)
   obtain⟨S,h1,h2,h3⟩:=EG (p:=p) (out:=out) (post:=post) (mI:=mI) hi n P' (p'::Q) x hl' hx (λq hq=>hmm q (by simp[hq])) (by simpa using hs) (λq hq'=>by
    rcases List.mem_cons.1 hq' with rfl|h
    ·exact mt hc
    ·exact hq q h) (by omega)
   refine⟨S,h1.trans ?_,h2,λM r h=>?_⟩
   ·rw[List.append_assoc];exact List.Perm.append_left _ (List.Perm.swap _ _ _)
   ·obtain⟨M',hM⟩:=h3 M r h;refine⟨M'+1,jP M' _ _ _ _ _ _ _ (⟨λ_=>⟨_,rfl,x,g1,i1,n,ei,p',g2,true,hah,λ_=>⟨i1,i1,n,ei,p',g2,_,rfl,x,g1,_,rfl,x,g1,n,ei,p',g3,i1,?_⟩,λh=>(by cases h)⟩,λh=>absurd (by omega) h⟩)⟩;rw[s2,ei];exact hM
  ·rw[decide_eq_false hc]at hah;refine⟨P'++[p']++x::Q,List.Perm.refl _,?_,λM r h=>⟨M+1,jP M _ _ _ _ _ _ _ (⟨λ_=>⟨_,rfl,x,g1,i1,n,ei,p',g2,false,hah,λh=>(by cases h),λ_=>⟨by omega,h⟩⟩,λh=>absurd (by omega) h⟩)⟩⟩;refine rv (ib hs) (List.pairwise_cons.2 ⟨hq,iM hs⟩) λu hu v hv=>?_;have hup:leE u p':=by
    rcases List.mem_append.1 hu with h|h
    ·exact kI (ib hs) u h p' (by simp)
    ·simp only[List.mem_singleton]at h;rw[h];exact xQ p'
   rcases List.mem_cons.1 hv with rfl|h
   ·exact kL hup hc
   ·exact kI hs u hu v h
theorem Ey{p:List Tree}{out:List FE}{mI:Nat}{z:Int}:∀(R P:List FE),cq P→(∀x∈P++R,PbE x∧x.At.Module=z)→P.length+R.length+1≤1000000000→
  ∃S:List FE,S.Perm (P++R)∧cq S∧∀M r,fp M p (out++S) (mI+1) r→out.length+(P.length+R.length)≤1000000000→mI+1≤9223372036854775807→∃M',ci M' p out mI (P++R) P.length r
 |[],P,hP,_,hl=>⟨P,by simp,hP,λM r h ho hm=>⟨M+1,jU M _ _ _ _ _ _ (⟨λh=>absurd h (by simp),λ_=>⟨by simp only[List.length_append,List.length_nil]at ho⊢;omega,hm,by simpa using h⟩⟩)⟩⟩
 | x::R,P,hP,hR,hl=>by
  simp only[List.length_cons]at hl;obtain⟨S1,h1,h2,h3⟩:=EG (p:=p) (out:=out) (post:=R) (mI:=mI) (i:=P.length) (by omega) P.length P [] x rfl (hR x (by simp)).1 (λq hq=>(hR x (by simp)).2.trans (hR q (by simp[hq])).2.symm) (by simpa using hP) (λq hq=>by simp at hq) (by omega);have hl1:=h1.length_eq;simp only[List.length_append,List.length_cons,List.length_nil]at hl1;obtain⟨S,g1,g2,g3⟩:=Ey (p:=p) (out:=out) (mI:=mI) (z:=z) R S1 h2 (λy hy=>hR y (by
   rcases List.mem_append.1 hy with h|h
   ·have :=h1.mem_iff.1 h;simp only[List.mem_append,List.mem_cons,List.not_mem_nil,or_false]at this⊢;rcases this with h|h
    ·exact .inl h
    ·exact .inr (.inl h)
   ·simp[h])) (by omega)
  refine⟨S,g1.trans ?_,g2,λM r h ho hm=>?_⟩
  ·have :=h1.append_right R;simpa using this
  ·obtain⟨M1,hM1⟩:=g3 M r h (by simp only[List.length_cons]at ho;omega) hm;rw[show S1.length=P.length+1 by omega]at hM1;obtain⟨M',hM'⟩:=h3 M1 r hM1;exact⟨M'+1,jU M' _ _ _ _ _ _ (⟨λ_=>by simpa using hM',λh=>absurd (by simp) h⟩)⟩
def FaB(B:Nat)(s:Sv):Prop:=∀e∈s.fa,e.At.Path.length≤B
variable{B:Nat}
theorem my{b:List Int}(h:FaB B s)(hb:x.pa.length+b.length≤B):FaB B (faP x k b s):=λe G=>by
 rcases List.mem_append.1 G with G|G
 ·exact h e G
 ·simp only[List.mem_singleton]at G;subst G;simpa using hb
theorem NS{k:Kn}(h:FaB B s):FaB B (knS x i k s):=by unfold FaB;rw[yO];exact h
def ExF(B:Nat)(E:Ev)(n:Nat):Prop:=∀(t:Tree) (x:Cx) (env:Env) (s:Sv),FaB B s→x.pa.length+2*n+3≤B→FaB B (E x t env s).2
theorem wu(h:ExF B E n)(t:Tree)(x:Cx)(i:Nat)(env:Env)(s:Sv)(hs:FaB B s)(hb:x.pa.length+2*n+4≤B):FaB B (aA E x t i env s).2:=by
 have :=h (bz t i) (x.go i) env s hs (by simp[Cx.go];omega);unfold aA;cases G:E (x.go i) (bz t i) env s with
 |mk k s1=>
  rw[G]at this;exact NS this
theorem lx{c:Prop}[Decidable c]{a b:Sv}(G:FaB B a)(hb:FaB B b):FaB B (if c then a else b):=by split<;>assumption
theorem CR{B n:Nat}{E:Ev}(h:ExF B E n)(x:Cx)(ps:List Kn)(env:Env)(hb:x.pa.length+2*n+5≤B):∀(l:List Tree) (i:Nat) (s:Sv),FaB B s→FaB B (gg E x ps env l i s)
 |[],i,s,hs=>hs
 | a::r,i,s,hs=>by
  have h1:=wu h a (x.go (i:Int)) 0 env s hs (by simp[Cx.go];omega);simp only[gg];refine CR h x ps env hb r (i+1) _ ?_;cases hq:aA E (x.go (i:Int)) a 0 env s with
  |mk k s1=>
   rw[hq]at h1;simp only[oJ];split
   ·exact lx (my h1 (by simp;omega)) h1
   ·exact h1
theorem Fd{B n:Nat}{E:Ev}(h:ExF B E n)(x:Cx)(t:Tree)(env:Env)(hb:x.pa.length+2*n+4≤B):∀(k i:Nat) (r:Kn×Sv),FaB B r.2→FaB B (fQ E x t env k i r).2
 |0,i,r,hs=>hs
 | k+1,i,(f,s),hs=>by
  have h1:=wu h t x i env s hs hb;simp only[fQ];refine Fd h x t env hb k (i+1) _ ?_;cases hq:aA E x t i env s with
  |mk a s1=>
   rw[hq]at h1;simp only[vX];exact lx (my h1 (by simp;omega)) h1
theorem MT{w:List UInt8}(h:FaB B s)(hb:x.pa.length+1≤B):FaB B (opQ x w a (b,s)).2:=by
 have f:∀(k:Int) (z:Int) (s:Sv),FaB B s→FaB B (faP x k [z] s):=λk z s hs=>my hs (by simpa using hb);unfold opQ;by_cases h1:w=[43]
 ·simp only[if_pos h1];unfold nf
  repeat' split
  all_goals first|exact f _ _ _ (f _ _ _ h)|exact f _ _ _ h|exact h
 ·simp only[if_neg h1];by_cases h2:w=[61,61]
  ·simp only[if_pos h2];split
   ·exact f _ _ _ h
   ·exact h
  ·simp only[if_neg h2];unfold rY
   repeat' split
   all_goals first|exact f _ _ _ (f _ _ _ h)|exact f _ _ _ h|exact h
theorem Bt{B:Nat}:∀n:Nat,ExF B (bj n) n
 |0=>λt x env s hs _=>hs
 | n+1=>λt x env s hs hb=>by
  have h:=Bt (B:=B) n;have K:=λ(i:Nat) (env:Env) (s:Sv) (hs:FaB B s)=>wu h t x i env s hs (by omega);simp only[bj,bl];split;· exact hs
  split;· exact hs
  split;· exact hs
  split;· exact hs
  split
  ·cases ic t.text env with
   |none=>exact my hs (by simp;omega)
   |some k=>exact hs
  split
  ·unfold mj;refine CR h x _ env (by omega) t.kids 0 _ ?_;unfold oC;have hu:FaB B (bx s):=hs;exact lx (my hu (by simp;omega)) (lx hu (my hu (by simp;omega)))
  split
  ·have :=Fd h x t env (by omega) t.kids.length 0 (⟨0,0⟩,s) hs;cases hq:fQ (bj n) x t env t.kids.length 0 (⟨0,0⟩,s)with
   |mk a s1=>rw[hq]at this;exact this
  split
  ·unfold ifP;have h0:=K 0 env s hs;have h1:FaB B (ifS x (aA (bj n) x t 0 env s)):=by
    cases hq:aA (bj n) x t 0 env s with
    |mk a s1=>rw[hq]at h0;exact lx (my h0 (by simp;omega)) h0
   have h2:=K 1 env _ h1;cases hq:aA (bj n) x t 1 env (ifS x (aA (bj n) x t 0 env s))with
   |mk a s1=>
    rw[hq]at h2;have h3:=K 2 env s1 h2;simp only[ifR];cases hq2:aA (bj n) x t 2 env s1 with
    |mk b s2=>rw[hq2]at h3;exact lx (my h3 (by simp;omega)) h3
  split
  ·have h0:=K 0 env s hs;cases hq:aA (bj n) x t 0 env s with
   |mk a s1=>rw[hq]at h0;exact K 1 _ s1 h0
  split
  ·have h0:=K 0 env s hs;cases hq:aA (bj n) x t 0 env s with
   |mk a s1=>
    rw[hq]at h0;have h1:=K 1 env s1 h0;simp only[sb];cases hq2:aA (bj n) x t 1 env s1 with
    |mk b s2=>rw[hq2]at h1;exact MT h1 (by omega)
  split
  ·exact K 0 env s hs
  ·exact hs
theorem wq{B:Nat}:∀(n:Nat) (x:Cx) (u:Tree) (s:Sv),FaB B s→x.pa.length+n≤B→FaB B (dD n x u s)
 |0,x,u,s,hs,_=>hs
 |n+1,x,u,s,hs,hb=>by
  have G:FaB B (bx s):=hs;simp only[dD];exact lx (lx (my G (by simp;omega)) G) (lx (wq n _ _ s hs (by simp[Cx.go];omega)) hs)
theorem Ej{B L:Nat}(x:Cx):∀(l:List Tree) (i:Nat) (s:Sv),(∀a∈l,tbulk a≤L)→FaB B s→x.pa.length+2+L≤B→FaB B (iz x l i s)
 |[],i,s,_,hs,_=>hs
 |k::r,i,s,G,hs,hb=>by
  have :=G k (by simp);have :=pV k 0;exact Ej x r (i+1) _ (λa J=>G a (by simp[J])) (wq _ _ _ _ hs (by simp[Cx.go];omega)) hb
theorem LL(x:Cx)(d:Nat)(f:Tree)(s:Sv)(hs:FaB B s)(hb:x.pa.length+2*tbulk f+6≤B):FaB B (dR x d f s):=by
 unfold dR;refine lx ?_ ?_
 ·obtain⟨g,J⟩:∃g,g=(aC (x.mo,(d:Int)) x.sg).getD noG:=⟨_,rfl⟩;rw[←J];unfold funS;have h1:FaB B (iz (x.go (d:Int)) (f.kids.take (f.kids.length-2)) 0 s):=Ej (L:=tbulk f) _ _ 0 s (λa O=>by
   obtain⟨i,hi⟩:=List.getElem?_of_mem (List.mem_of_mem_take O);have :=ax hi;omega) hs (by simp[Cx.go];omega)
  have h2:=wq (B:=B) (tbulk f) ((x.go (d:Int)).go ((f.kids.length-2:Nat):Int)) (bz f (f.kids.length-2)) _ h1 (by simp[Cx.go];omega);have G:=wu (Bt (B:=B) (tbulk f)) f (x.go (d:Int)) (f.kids.length-1) (cx (f.kids.take (f.kids.length-2)) g.params) _ h2 (by simp[Cx.go];omega);cases U:aA (bj (tbulk f)) (x.go (d:Int)) f (f.kids.length-1) (cx (f.kids.take (f.kids.length-2)) g.params) (dD (tbulk f) ((x.go (d:Int)).go ((f.kids.length-2:Nat):Int)) (bz f (f.kids.length-2)) (iz (x.go (d:Int)) (f.kids.take (f.kids.length-2)) 0 s))with
  |mk k s1=>
   rw[U]at G;exact lx (my G (by simp[Cx.go];omega)) G
 ·unfold qt;exact wq _ _ _ _ (lx (my hs (by simp[Cx.go];omega)) hs) (by simp[Cx.go];omega)
theorem xR{B L:Nat}(x:Cx)(hb:x.pa.length+2*L+6≤B):∀(l:List Tree) (d:Nat) (s:Sv),(∀f∈l,tbulk f≤L)→FaB B s→FaB B (cQ x l d s)
 |[],d,s,_,hs=>hs
 |f::r,d,s,G,hs=>by
  have :=G f (by simp);exact xR x hb r (d+1) _ (λa J=>G a (by simp[J])) (LL x d f s hs (by omega))
theorem fab_mods{B L:Nat}(x:Cx)(hb:x.pa.length+2*L+6≤B):∀(l:List Tree) (m:Nat) (s:Sv),(∀t∈l,tbulk t≤L)→FaB B s→FaB B (dI x l m s)
 |[],m,s,_,hs=>hs
 | t::r,m,s,hl,hs=>by
  have ht:=hl t (by simp);exact fab_mods x hb r (m+1) _ (λa ha=>hl a (by simp[ha])) (xR (x.md (m:Int)) hb t.kids 0 s (λf hf=>by
   obtain⟨i,hi⟩:=List.getElem?_of_mem hf;have :=ax hi;omega) hs)
theorem Lc(nm:List ((Int×List UInt8)×aa))(wm:Int)(wp:List Int):FaB (2*kbulk p+6) (eX p nm wm wp):=
 fab_mods (L:=kbulk p) (cxN p nm wm wp) (by simp[cxN]) p 0 _ (λt ht=>by
  obtain⟨i,hi⟩:=List.getElem?_of_mem ht;exact aY hi) (λe G=>by simp at G)
def FmB(B:List FE×Int)(s:Sv):Prop:=∃D,s.fa=B.1++D∧∀e∈D,e.At.Module=B.2
theorem mz{B:List FE×Int}{b:List Int}(h:FmB B s)(hb:x.mo=B.2):FmB B (faP x k b s):=by
 obtain⟨D,h1,h2⟩:=h;refine⟨D++[⟨⟨x.mo,x.pa++b⟩,k⟩],by simp[faP,h1],λe G=>?_⟩;rcases List.mem_append.1 G with G|G
 ·exact h2 e G
 ·simp only[List.mem_singleton]at G;subst G;exact hb
theorem NJ{B:List FE×Int}{k:Kn}(h:FmB B s):FmB B (knS x i k s):=by unfold FmB;rw[yO];exact h
def ExM(B:List FE×Int)(E:Ev)(n:Nat):Prop:=∀(t:Tree) (x:Cx) (env:Env) (s:Sv),FmB B s→x.mo=B.2→FmB B (E x t env s).2
theorem wF{B:List FE×Int}(h:ExM B E n)(t:Tree)(x:Cx)(i:Nat)(env:Env)(s:Sv)(hs:FmB B s)(hb:x.mo=B.2):FmB B (aA E x t i env s).2:=by
 have :=h (bz t i) (x.go i) env s hs hb;unfold aA;cases G:E (x.go i) (bz t i) env s with
 |mk k s1=>
  rw[G]at this;exact NJ this
theorem lq{B:List FE×Int}{c:Prop}[Decidable c]{a b:Sv}(G:FmB B a)(hb:FmB B b):FmB B (if c then a else b):=by split<;>assumption
theorem CL{B:List FE×Int}{n:Nat}{E:Ev}(h:ExM B E n)(x:Cx)(ps:List Kn)(env:Env)(hb:x.mo=B.2):∀(l:List Tree) (i:Nat) (s:Sv),FmB B s→FmB B (gg E x ps env l i s)
 |[],i,s,hs=>hs
 | a::r,i,s,hs=>by
  have h1:=wF h a (x.go (i:Int)) 0 env s hs hb;simp only[gg];refine CL h x ps env hb r (i+1) _ ?_;cases hq:aA E (x.go (i:Int)) a 0 env s with
  |mk k s1=>
   rw[hq]at h1;simp only[oJ];split
   ·exact lq (mz h1 hb) h1
   ·exact h1
theorem EA{B:List FE×Int}{n:Nat}{E:Ev}(h:ExM B E n)(x:Cx)(t:Tree)(env:Env)(hb:x.mo=B.2):∀(k i:Nat) (r:Kn×Sv),FmB B r.2→FmB B (fQ E x t env k i r).2
 |0,i,r,hs=>hs
 | k+1,i,(f,s),hs=>by
  have h1:=wF h t x i env s hs hb;simp only[fQ];refine EA h x t env hb k (i+1) _ ?_;cases hq:aA E x t i env s with
  |mk a s1=>
   rw[hq]at h1;simp only[vX];exact lq (mz h1 hb) h1
theorem MQ{B:List FE×Int}{w:List UInt8}(h:FmB B s)(hb:x.mo=B.2):FmB B (opQ x w a (b,s)).2:=by
 have f:∀(k:Int) (z:Int) (s:Sv),FmB B s→FmB B (faP x k [z] s):=λk z s hs=>mz hs hb;unfold opQ;by_cases h1:w=[43]
 ·simp only[if_pos h1];unfold nf
  repeat' split
  all_goals first|exact f _ _ _ (f _ _ _ h)|exact f _ _ _ h|exact h
 ·simp only[if_neg h1];by_cases h2:w=[61,61]
  ·simp only[if_pos h2];split
   ·exact f _ _ _ h
   ·exact h
  ·simp only[if_neg h2];unfold rY
   repeat' split
   all_goals first|exact f _ _ _ (f _ _ _ h)|exact f _ _ _ h|exact h
theorem Cy{B:List FE×Int}:∀n:Nat,ExM B (bj n) n
 |0=>λt x env s hs _=>hs
 | n+1=>λt x env s hs hb=>by
  have h:=Cy (B:=B) n;have K:=λ(i:Nat) (env:Env) (s:Sv) (hs:FmB B s)=>wF h t x i env s hs hb;simp only[bj,bl];split;· exact hs
  split;· exact hs
  split;· exact hs
  split;· exact hs
  split
  ·cases ic t.text env with
   |none=>exact mz hs hb
   |some k=>exact hs
  split
  ·unfold mj;refine CL h x _ env hb t.kids 0 _ ?_;unfold oC;have hu:FmB B (bx s):=hs;exact lq (mz hu hb) (lq hu (mz hu hb))
  split
  ·have :=EA h x t env hb t.kids.length 0 (⟨0,0⟩,s) hs;cases hq:fQ (bj n) x t env t.kids.length 0 (⟨0,0⟩,s)with
   |mk a s1=>rw[hq]at this;exact this
  split
  ·unfold ifP;have h0:=K 0 env s hs;have h1:FmB B (ifS x (aA (bj n) x t 0 env s)):=by
    cases hq:aA (bj n) x t 0 env s with
    |mk a s1=>rw[hq]at h0;exact lq (mz h0 hb) h0
   have h2:=K 1 env _ h1;cases hq:aA (bj n) x t 1 env (ifS x (aA (bj n) x t 0 env s))with
   |mk a s1=>
    rw[hq]at h2;have h3:=K 2 env s1 h2;simp only[ifR];cases hq2:aA (bj n) x t 2 env s1 with
    |mk b s2=>rw[hq2]at h3;exact lq (mz h3 hb) h3
  split
  ·have h0:=K 0 env s hs;cases hq:aA (bj n) x t 0 env s with
   |mk a s1=>rw[hq]at h0;exact K 1 _ s1 h0
  split
  ·have h0:=K 0 env s hs;cases hq:aA (bj n) x t 0 env s with
   |mk a s1=>
    rw[hq]at h0;have h1:=K 1 env s1 h0;simp only[sb];cases hq2:aA (bj n) x t 1 env s1 with
    |mk b s2=>rw[hq2]at h1;exact MQ h1 hb
  split
  ·exact K 0 env s hs
  ·exact hs
theorem wy{B:List FE×Int}:∀(n:Nat) (x:Cx) (u:Tree) (s:Sv),FmB B s→x.mo=B.2→FmB B (dD n x u s)
 |0,x,u,s,hs,_=>hs
 |n+1,x,u,s,hs,hb=>by
  have G:FmB B (bx s):=hs;simp only[dD];exact lq (lq (mz G hb) G) (lq (wy n _ _ s hs hb) hs)
theorem Es{B:List FE×Int}{L:Nat}(x:Cx):∀(l:List Tree) (i:Nat) (s:Sv),(∀a∈l,tbulk a≤L)→FmB B s→x.mo=B.2→FmB B (iz x l i s)
 |[],i,s,_,hs,_=>hs
 |k::r,i,s,G,hs,hb=>by
  have :=G k (by simp);have :=pV k 0;exact Es x r (i+1) _ (λa J=>G a (by simp[J])) (wy _ _ _ _ hs hb) hb
theorem Lj{B:List FE×Int}(x:Cx)(d:Nat)(f:Tree)(s:Sv)(hs:FmB B s)(hb:x.mo=B.2):FmB B (dR x d f s):=by
 unfold dR;refine lq ?_ ?_
 ·obtain⟨g,J⟩:∃g,g=(aC (x.mo,(d:Int)) x.sg).getD noG:=⟨_,rfl⟩;rw[←J];unfold funS;have h1:FmB B (iz (x.go (d:Int)) (f.kids.take (f.kids.length-2)) 0 s):=Es (L:=tbulk f) _ _ 0 s (λa O=>by
   obtain⟨i,hi⟩:=List.getElem?_of_mem (List.mem_of_mem_take O);have :=ax hi;omega) hs hb
  have h2:=wy (B:=B) (tbulk f) ((x.go (d:Int)).go ((f.kids.length-2:Nat):Int)) (bz f (f.kids.length-2)) _ h1 hb;have G:=wF (Cy (B:=B) (tbulk f)) f (x.go (d:Int)) (f.kids.length-1) (cx (f.kids.take (f.kids.length-2)) g.params) _ h2 hb;cases U:aA (bj (tbulk f)) (x.go (d:Int)) f (f.kids.length-1) (cx (f.kids.take (f.kids.length-2)) g.params) (dD (tbulk f) ((x.go (d:Int)).go ((f.kids.length-2:Nat):Int)) (bz f (f.kids.length-2)) (iz (x.go (d:Int)) (f.kids.take (f.kids.length-2)) 0 s))with
  |mk k s1=>
   rw[U]at G;exact lq (mz G hb) G
 ·unfold qt;exact wy _ _ _ _ (lq (mz hs hb) hs) hb
theorem BP{B:List FE×Int}{L:Nat}(x:Cx)(hb:x.mo=B.2):∀(l:List Tree) (d:Nat) (s:Sv),(∀f∈l,tbulk f≤L)→FmB B s→FmB B (cQ x l d s)
 |[],d,s,_,hs=>hs
 |f::r,d,s,G,hs=>by
  have :=G f (by simp);exact BP x hb r (d+1) _ (λa J=>G a (by simp[J])) (Lj x d f s hs hb)
theorem Fz(hb:kbulk p≤10000000):∀k g,aC k (sgM p p 0 [])=some g→KOk 100000000 g.result:=λk q G=>by
 rcases yv k p 0 [] q G with⟨i,t,d,f,h1,h2,U,_,rfl⟩|h
 ·have J:=aY h1;have O:=ax h2;exact(vU (B:=kbulk p) (by omega)).1.mono (by omega)
 ·cases h
theorem CS{x:Cx}{m:Nat}{root:Tree}(hmo:x.mo=(m:Int))(hpa:x.pa=[])(hm:x.p[m]?=some root)(l:List FE)(rest:List ar):∀(k d:Nat) (s:Sv) (c:CHr),k+d=root.kids.length→RX x c→s.tg=aO x.p x.mo (nodKs (root.kids.drop d) [] d)++rest→(∀q u,(q,u)∈nodK root []→u.kind=17→q≠c.Want)→c.L.length≤s.fa.length→s.fa.length+5*kbulk (root.kids.drop d)+1≤800000000→
  ∃c',(∀M r,ci M x.p l m c'.L 1 r→∃M',bK M' x.p d c l m r)∧DR x s (cQ x (root.kids.drop d) d s) c c'∧(cQ x (root.kids.drop d) d s).tg=rest∧(cQ x (root.kids.drop d) d s).fa.length≤s.fa.length+5*kbulk (root.kids.drop d)
 |0,d,s,c,hk,hX,hq,hN,hl,hfa=>by
  have hd:root.kids.drop d=[]:=List.drop_of_length_le (by omega);rw[hd]at hq⊢;refine⟨c,λM r h=>⟨M+1,jQ M _ _ _ _ _ _ (⟨root,hm,λh'=>absurd h' (by omega),λ_=>h⟩)⟩,DR.refl ..,?_,by simp[cQ]⟩;show s.tg=rest;rw[hq];rfl
 | k +1,d,s,c,hk,hX,hq,hN,hl,hfa=>by
  have hlt:d<root.kids.length:=by omega
  obtain⟨f,hf⟩:∃f,root.kids[d]?=some f:=⟨_,dn hlt⟩;have hd:=aJ hf;rw[hd]at hq hfa⊢;simp only[kbulk]at hfa⊢;have hq1:s.tg=aO x.p x.mo (nodK f [(d:Int)])++(aO x.p x.mo (nodKs (root.kids.drop (d+1)) [] (d+1))++rest):=by
   rw[hq,nodKs,kO,List.append_assoc];rfl
  have hrb:=aY hm;have hfr:=ax hf;have hbb:=hX.hb;obtain⟨hok,h23⟩:=zM hX.ok m root d f hm hf;have eD:cQ x (f::root.kids.drop (d+1)) d s=cQ x (root.kids.drop (d+1)) (d+1) (dR x d f s):=rfl;rw[eD];have key:∃c1,DR x s (dR x d f s) c c1∧(dR x d f s).tg=aO x.p x.mo (nodKs (root.kids.drop (d+1)) [] (d+1))++rest∧(dR x d f s).fa.length≤s.fa.length+5*tbulk f∧∀M r,bK M x.p (d+1) c1 l m r→∃M',bK M' x.p d c l m r:=by
   by_cases h2:f.kind=2
   ·have hg:=rz (P:=x.p) (key:=((m:Int),(d:Int))) x.p 0 m d [] root f hm hf h2 (by simp);rw[Nat.zero_add]at hg;have e:dR x d f s=funS (x.go (d:Int)) f (dr x.p x.mo f) s:=by
     unfold dR;rw[if_pos h2,hmo,hX.sg,hg];rfl
    rw[e];obtain⟨n,rt,c1,y,c2,dd,hn,hrt,g1,g2,g3,g4,g5,g6,g7,g8⟩:=DU hX hmo hpa hm hf h2 hok.s hq1 hN hl (by omega) (by rw[hX.sg];exact Fz hX.hb);refine⟨_,g5,g6,g7,λM r h=>⟨M+1,jQ M _ _ _ _ _ _ (⟨root,hm,λ_=>⟨root,hm,f,hf,c1,g1,λh3=>absurd h3 (by omega),λ_=>⟨n,by omega,rt,hrt,y,c2,g2,_,_,g3,dd,g4,λhdd=>⟨_,gM 4 (by simp) (by omega),?_⟩,λhdd=>?_⟩⟩,λh'=>absurd hlt h'⟩)⟩⟩
    ·rw[nC hdd]at h;rw[show((f.kids.length:Nat):Int)-1=((n+1:Nat):Int) by omega];exact h
    ·rw[lW hdd]at h;exact h
   ·have h3:f.kind=3:=by omega
    obtain⟨b,hkb,hb⟩:=hok.a h2;have e:dR x d f s=qt (x.go (d:Int)) d f s:=by unfold dR;rw[if_neg h2]
    rw[e];obtain⟨c1,g1,g2,g3,g4,g5⟩:=EJ hX hmo hpa hm hf h3 hkb hb hq1 hl (by omega);have hci:=DN hX.hb (m:Int) (d:Int);rw[hmo]at g2;refine⟨_,g2,g3,g4,λM r h=>⟨M+1,jQ M _ _ _ _ _ _ (⟨root,hm,λ_=>⟨root,hm,f,hf,c1,g1,λ_=>⟨_,hci,λhdd=>⟨_,gM 5 (by simp) (by omega),?_⟩,λhdd=>?_⟩,λh'=>absurd h3 h'⟩,λh'=>absurd hlt h'⟩)⟩⟩
    ·rw[nC hdd]at h;exact h
    ·rw[lW hdd]at h;exact h
  obtain⟨c1,k1,k2,k3,k4⟩:=key;have l1:=k1.len;obtain⟨c',i1,i2,i3,i4⟩:=CS hmo hpa hm l rest k (d+1) (dR x d f s) c1 (by omega) (hX.to k1) k2 (λq u h1 h2=>by rw[k1.W];exact hN q u h1 h2) (by omega) (by omega);refine⟨c',λM r h=>?_,k1.trans i2,i3,by omega⟩;obtain⟨M1,h1⟩:=i1 M r h;exact k4 M1 r h1
theorem AC{a b:List FE}(h:∀P:FE→Bool,a.countP P=b.countP P):a.Perm b:=by
 classical
 exact List.perm_iff_count.2 λx=>h _
theorem Md{a b:FE}(h:a.At.Module<b.At.Module):leE a b:=by
 refine mt ?_;unfold ii;have :iy a.At.Module b.At.Module=-1:=if_pos h;rw[this,if_pos (by decide)];decide
theorem Du{p:List Tree}(hp:aR p=true)(hb:kbulk p≤10000000)(nm:List ((Int×List UInt8)×aa))(wm:Int)(wp:List Int):∀(k m:Nat) (s:Sv) (out:List FE),k+m=p.length→s.tg=eP p m (p.drop m)→s.fa.length+5*kbulk (p.drop m)+1≤800000000→out.Perm s.fa→cq out→(∀e∈out,e.At.Module<(m:Int))→FaB (2*kbulk p+6) s→
  ∃r,r.Perm (dI (cxN p nm wm wp) (p.drop m) m s).fa∧cq r∧∃M,fp M p out m r
 |0,m,s,out,hk,hq,hfa,h1,h2,h3,h4=>by
  have hd:p.drop m=[]:=List.drop_of_length_le (by omega);rw[hd];exact⟨out,h1,h2,1,ny 0 _ _ _ _ (⟨λh=>absurd h (by omega),λ_=>rfl⟩)⟩
 | k +1,m,s,out,hk,hq,hfa,h1,h2,h3,h4=>by
  have hlt:m<p.length:=by omega
  have hpl:=ej p;obtain⟨t,ht⟩:∃t,p[m]?=some t:=⟨_,List.getElem?_eq_getElem hlt⟩;have hd:=aJ ht;rw[hd]at hq hfa⊢;simp only[kbulk]at hfa;obtain⟨k1,k2⟩:=dm hp ht;have htb:=bp t;have hbt:=aY ht;have hq1:s.tg=aO p (m:Int) (nodKs t.kids [] 0)++eP p (m+1) (p.drop (m+1)):=by
   rw[hq,eP,dF,aO,show cP t=false by simp[cP,k1]];rfl
  have ho:=h1.length_eq;obtain⟨c',i1,i2,i3,i4⟩:=CS (x:=(cxN p nm wm wp).md (m:Int)) (m:=m) (root:=t) rfl rfl ht out (eP p (m+1) (p.drop (m+1))) t.kids.length 0 s ⟨p,(m:Int),[],[],false,0,[],[],[]⟩ (by omega) ⟨rfl,rfl,hp,hb,by show(0:Int)≤(m:Int);omega,by show(m:Int)<_;simp only[cxN,Cx.md];omega,rfl⟩ (by rw[List.drop_zero];exact hq1) (λq u hm h17 e=>by
   have hat:=nodK_at t t [] rfl (q,u) hm;simp only at e hat;rw[e]at hat;have :t=u:=by simpa[atK]using hat
   rw[←this,k1]at h17;cases h17) (by simp) (by rw[List.drop_zero];omega)
  rw[List.drop_zero]at i2 i3 i4;have e0:dI (cxN p nm wm wp) (t::p.drop (m+1)) m s=dI (cxN p nm wm wp) (p.drop (m+1)) (m+1) (cQ ((cxN p nm wm wp).md (m:Int)) t.kids 0 s):=rfl;rw[e0];obtain⟨D,d1,d2⟩:=BP (B:=(s.fa,(m:Int))) (L:=tbulk t) ((cxN p nm wm wp).md (m:Int)) rfl t.kids 0 s (λf hf=>by
   obtain⟨i,hi⟩:=List.getElem?_of_mem hf;have :=ax hi;omega) ⟨[],by simp,λe he=>by simp at he⟩
  simp only at d1 d2;have hF:=xR (B:=2*kbulk p+6) (L:=tbulk t) ((cxN p nm wm wp).md (m:Int)) (by simp[cxN,Cx.md];omega) t.kids 0 s (λf hf=>by
   obtain⟨i,hi⟩:=List.getElem?_of_mem hf;have :=ax hi;omega) h4
  generalize cQ ((cxN p nm wm wp).md (m:Int)) t.kids 0 s=s1 at i2 i3 i4 d1 hF⊢;have hperm:c'.L.Perm D:=AC λP=>by
   have :=i2.d P;rw[d1,List.countP_append]at this;simp at this;omega
  have hDl:=hperm.length_eq;have hs1:s1.fa.length=s.fa.length+D.length:=by rw[d1,List.length_append]
  obtain⟨S,s1',s2',s3'⟩:=Ey (p:=p) (out:=out) (mI:=m) (z:=(m:Int)) (c'.L.drop 1) (c'.L.take 1) (by
   rcases hc:c'.L with _|⟨a,r⟩
   ·exact List.Pairwise.nil
   ·exact List.pairwise_singleton _ _) (λe he=>by
   rw[List.take_append_drop]at he;have hD:=hperm.mem_iff.1 he;refine⟨?_,d2 e hD⟩;have :=hF e (by rw[d1];exact List.mem_append_right _ hD);show e.At.Path.length≤1000000000;omega) (by
   have :=List.take_append_drop 1 c'.L;have hh:=congrArg List.length this;rw[List.length_append]at hh;omega)
  rw[List.take_append_drop]at s1' s3';have hSD:=s1'.trans hperm;have hSl:=hSD.length_eq;obtain⟨r,g1,g2,M,g3⟩:=Du hp hb nm wm wp k (m+1) s1 (out++S) (by omega) i3 (by omega) (by rw[d1];exact h1.append hSD) (rv h2 s2' λu hu v hv=>Md (by
   have :=h3 u hu;have :=d2 v (hSD.mem_iff.1 hv);omega)) (λe he=>by
   rcases List.mem_append.1 he with h|h
   ·have :=h3 e h;omega
   ·have :=d2 e (hSD.mem_iff.1 h);omega) hF
  refine⟨r,g1,g2,?_⟩;have hlen:(c'.L.take 1).length+(c'.L.drop 1).length=c'.L.length:=by
   rw[←List.length_append,List.take_append_drop]
  have hL2:∃M',ci M' p out m c'.L 1 r:=by
   rcases hc:c'.L with _|⟨a,rr⟩
   ·have hS0:S=[]:=by
     have :S.length=0:=by rw[hSl,←hDl,hc];rfl
     exact List.length_eq_zero_iff.1 this
    rw[hS0,List.append_nil]at g3;exact⟨M+1,jU M _ _ _ _ _ _ (⟨λh=>absurd h (by simp),λ_=>⟨by simp;omega,by omega,by simpa using g3⟩⟩)⟩
   ·obtain⟨M',hM'⟩:=s3' M r g3 (by omega) (by omega);rw[hc]at hM';exact⟨M',by simpa using hM'⟩
  obtain⟨M2,h5⟩:=hL2;obtain⟨M1,h6⟩:=i1 M2 r h5;exact⟨M1+1,ny M1 _ _ _ _ (⟨λ_=>h6,λh=>absurd hlt h⟩)⟩
theorem DG(hb:kbulk p≤10000000):∃r,fR p r∧lh p r∧r.length≤90000000:=by
 have G:=iF p (by omega);by_cases J:aR p=true
 ·obtain⟨nm,_,h1⟩:=(ym hb).2 J;have hl:=(AY J hb nm 0 []).1.fa;have hf:=Lc (p:=p) nm 0 [];simp only[List.length_nil,Nat.zero_add]at hl;obtain⟨r,Z,g2,M,g3⟩:=Du J hb nm 0 [] p.length 0 ⟨bo p,[],0,0⟩ [] (by omega) (by rw[bo,if_pos J];rfl) (by simp;omega) (List.Perm.refl _) List.Pairwise.nil (λe O=>by simp at O) (λe O=>by simp at O);rw[List.drop_zero]at Z;rw[J]at G;exact⟨r,h1 r (Bf (by omega) (λe O=>by have :=hf e O;show e.At.Path.length≤1000000000;omega) Z g2),nX M _ _ (⟨true,G,λh=>(by cases h),λ_=>g3⟩),by have :=Z.length_eq;rw[this];exact Nat.le_trans hl (by omega)⟩
 ·have U:aR p=false:=by simpa using J
  rw[U]at G;exact⟨[],(ym hb).1 U,nX 0 _ _ (⟨false,G,λ_=>rfl,λh=>(by cases h)⟩),by simp⟩
def Off(x:Cx):Prop:=∀b:List Int,b≠[]→¬(x.mo=x.wm∧x.pa++b=x.wp)
theorem bE(h:Off x)(i:Int):Off (x.go i):=λb hb h2=>h (i::b) (by simp) ⟨h2.1,by have :=h2.2;simpa[Cx.go]using this⟩
def FoB(B:Int×Int)(s:Sv):Prop:=s.rs=B.1∧s.rl=B.2
theorem mE{B:Int×Int}{b:List Int}(h:FoB B s):FoB B (faP x k b s):=h
theorem NV{B:Int×Int}{k:Kn}(h:FoB B s)(hb:Off x):FoB B (knS x i k s):=by
 unfold knS;rw[if_neg (hb [(i:Int)] (by simp))];exact h
def ExO(B:Int×Int)(E:Ev)(n:Nat):Prop:=∀(t:Tree) (x:Cx) (env:Env) (s:Sv),FoB B s→Off x→FoB B (E x t env s).2
theorem ws{B:Int×Int}(h:ExO B E n)(t:Tree)(x:Cx)(i:Nat)(env:Env)(s:Sv)(hs:FoB B s)(hb:Off x):FoB B (aA E x t i env s).2:=by
 have :=h (bz t i) (x.go i) env s hs (by first|exact hb|exact bE hb _|exact bE (bE hb _) _);unfold aA;cases G:E (x.go i) (bz t i) env s with
 |mk k s1=>
  rw[G]at this;exact NV this hb
theorem lr{B:Int×Int}{c:Prop}[Decidable c]{a b:Sv}(G:FoB B a)(hb:FoB B b):FoB B (if c then a else b):=by split<;>assumption
theorem Dc{B:Int×Int}{n:Nat}{E:Ev}(h:ExO B E n)(x:Cx)(ps:List Kn)(env:Env)(hb:Off x):∀(l:List Tree) (i:Nat) (s:Sv),FoB B s→FoB B (gg E x ps env l i s)
 |[],i,s,hs=>hs
 | a::r,i,s,hs=>by
  have h1:=ws h a (x.go (i:Int)) 0 env s hs (by first|exact hb|exact bE hb _|exact bE (bE hb _) _);simp only[gg];refine Dc h x ps env hb r (i+1) _ ?_;cases hq:aA E (x.go (i:Int)) a 0 env s with
  |mk k s1=>
   rw[hq]at h1;simp only[oJ];split
   ·exact lr (mE h1) h1
   ·exact h1
theorem EC{B:Int×Int}{n:Nat}{E:Ev}(h:ExO B E n)(x:Cx)(t:Tree)(env:Env)(hb:Off x):∀(k i:Nat) (r:Kn×Sv),FoB B r.2→FoB B (fQ E x t env k i r).2
 |0,i,r,hs=>hs
 | k+1,i,(f,s),hs=>by
  have h1:=ws h t x i env s hs hb;simp only[fQ];refine EC h x t env hb k (i+1) _ ?_;cases hq:aA E x t i env s with
  |mk a s1=>
   rw[hq]at h1;simp only[vX];exact lr (mE h1) h1
theorem Nq{B:Int×Int}{w:List UInt8}(h:FoB B s)(hb:Off x):FoB B (opQ x w a (b,s)).2:=by
 have f:∀(k:Int) (z:Int) (s:Sv),FoB B s→FoB B (faP x k [z] s):=λk z s hs=>mE hs;unfold opQ;by_cases h1:w=[43]
 ·simp only[if_pos h1];unfold nf
  repeat' split
  all_goals first|exact f _ _ _ (f _ _ _ h)|exact f _ _ _ h|exact h
 ·simp only[if_neg h1];by_cases h2:w=[61,61]
  ·simp only[if_pos h2];split
   ·exact f _ _ _ h
   ·exact h
  ·simp only[if_neg h2];unfold rY
   repeat' split
   all_goals first|exact f _ _ _ (f _ _ _ h)|exact f _ _ _ h|exact h
theorem By{B:Int×Int}:∀n:Nat,ExO B (bj n) n
 |0=>λt x env s hs _=>hs
 | n+1=>λt x env s hs hb=>by
  have h:=By (B:=B) n;have K:=λ(i:Nat) (env:Env) (s:Sv) (hs:FoB B s)=>ws h t x i env s hs (by first|exact hb|exact bE hb _|exact bE (bE hb _) _);simp only[bj,bl];split;· exact hs
  split;· exact hs
  split;· exact hs
  split;· exact hs
  split
  ·cases ic t.text env with
   |none=>exact mE hs
   |some k=>exact hs
  split
  ·unfold mj;refine Dc h x _ env (by first|exact hb|exact bE hb _|exact bE (bE hb _) _) t.kids 0 _ ?_;unfold oC;have hu:FoB B (bx s):=hs;exact lr (mE hu) (lr hu (mE hu))
  split
  ·have :=EC h x t env (by first|exact hb|exact bE hb _|exact bE (bE hb _) _) t.kids.length 0 (⟨0,0⟩,s) hs;cases hq:fQ (bj n) x t env t.kids.length 0 (⟨0,0⟩,s)with
   |mk a s1=>rw[hq]at this;exact this
  split
  ·unfold ifP;have h0:=K 0 env s hs;have h1:FoB B (ifS x (aA (bj n) x t 0 env s)):=by
    cases hq:aA (bj n) x t 0 env s with
    |mk a s1=>rw[hq]at h0;exact lr (mE h0) h0
   have h2:=K 1 env _ h1;cases hq:aA (bj n) x t 1 env (ifS x (aA (bj n) x t 0 env s))with
   |mk a s1=>
    rw[hq]at h2;have h3:=K 2 env s1 h2;simp only[ifR];cases hq2:aA (bj n) x t 2 env s1 with
    |mk b s2=>rw[hq2]at h3;exact lr (mE h3) h3
  split
  ·have h0:=K 0 env s hs;cases hq:aA (bj n) x t 0 env s with
   |mk a s1=>rw[hq]at h0;exact K 1 _ s1 h0
  split
  ·have h0:=K 0 env s hs;cases hq:aA (bj n) x t 0 env s with
   |mk a s1=>
    rw[hq]at h0;have h1:=K 1 env s1 h0;simp only[sb];cases hq2:aA (bj n) x t 1 env s1 with
    |mk b s2=>rw[hq2]at h1;exact Nq h1 (by first|exact hb|exact bE hb _|exact bE (bE hb _) _)
  split
  ·exact K 0 env s hs
  ·exact hs
theorem wC{B:Int×Int}:∀(n:Nat) (x:Cx) (u:Tree) (s:Sv),FoB B s→Off x→FoB B (dD n x u s)
 |0,x,u,s,hs,_=>hs
 |n+1,x,u,s,hs,hb=>by
  have G:FoB B (bx s):=hs;simp only[dD];exact lr (lr (mE G) G) (lr (wC n _ _ s hs (by first|exact hb|exact bE hb _|exact bE (bE hb _) _)) hs)
theorem Ei{B:Int×Int}{L:Nat}(x:Cx):∀(l:List Tree) (i:Nat) (s:Sv),(∀a∈l,tbulk a≤L)→FoB B s→Off x→FoB B (iz x l i s)
 |[],i,s,_,hs,_=>hs
 |k::r,i,s,G,hs,hb=>by
  have :=G k (by simp);have :=pV k 0;exact Ei x r (i+1) _ (λa J=>G a (by simp[J])) (wC _ _ _ _ hs (by first|exact hb|exact bE hb _|exact bE (bE hb _) _)) hb
theorem Lz{B:Int×Int}(x:Cx)(d:Nat)(f:Tree)(s:Sv)(hs:FoB B s)(hb:Off (x.go (d:Int))):FoB B (dR x d f s):=by
 unfold dR;refine lr ?_ ?_
 ·obtain⟨g,J⟩:∃g,g=(aC (x.mo,(d:Int)) x.sg).getD noG:=⟨_,rfl⟩;rw[←J];unfold funS;have h1:FoB B (iz (x.go (d:Int)) (f.kids.take (f.kids.length-2)) 0 s):=Ei (L:=tbulk f) _ _ 0 s (λa O=>by
   obtain⟨i,hi⟩:=List.getElem?_of_mem (List.mem_of_mem_take O);have :=ax hi;omega) hs (by first|exact hb|exact bE hb _|exact bE (bE hb _) _)
  have h2:=wC (B:=B) (tbulk f) ((x.go (d:Int)).go ((f.kids.length-2:Nat):Int)) (bz f (f.kids.length-2)) _ h1 (by first|exact hb|exact bE hb _|exact bE (bE hb _) _);have G:=ws (By (B:=B) (tbulk f)) f (x.go (d:Int)) (f.kids.length-1) (cx (f.kids.take (f.kids.length-2)) g.params) _ h2 (by first|exact hb|exact bE hb _|exact bE (bE hb _) _);cases U:aA (bj (tbulk f)) (x.go (d:Int)) f (f.kids.length-1) (cx (f.kids.take (f.kids.length-2)) g.params) (dD (tbulk f) ((x.go (d:Int)).go ((f.kids.length-2:Nat):Int)) (bz f (f.kids.length-2)) (iz (x.go (d:Int)) (f.kids.take (f.kids.length-2)) 0 s))with
  |mk k s1=>
   rw[U]at G;exact lr (mE G) G
 ·unfold qt;exact wC _ _ _ _ (lr (mE hs) hs) (by first|exact hb|exact bE hb _|exact bE (bE hb _) _)
set_option maxHeartbeats 4000000
def gk(G:Bool):Prop:=qS 9 [] (.bool G)
def xn(G:List UInt8)(J:Tree)(O U:Int):Prop:=qS 20 [.str G] (.tup [.agg (am J),qi O,qi U])
def oe(G:Bool):Prop:=qS 9 [] (.bool G)
theorem tF(m:Nat)(G:Bool)(h:∃b s j,xn [109,111,100,117,108,101,32,77,32,100,101,102,32,102,40,41,58,32,73,110,116,32,61,32,49,32,43,32,34,97,34,32,100,101,102,32,103,40,120,58,32,66,111,111,108,41,58,32,73,110,116,32,61,32,105,102,32,120,32,116,104,101,110,32,49,32,101,108,115,101,32,103,40,41] b s j∧∃a,fR [b] a∧∃k l,iN [b] (bw.mk 0 [0,1]) k l∧((j=0)→((l=0)→((k.kind=5)→(((a.length:Int)=2)→∃n,a[0]?=some n∧((n.Kind=6)→∃r,a[0]?=some r∧∃o,cD r.At.Path [0,1,1] o∧((o=true)→∃c,a[1]?=some c∧((c.Kind=3)→∃g,a[1]?=some g∧∃i,cD g.At.Path [1,2,2] i∧i=G)∧((c.Kind≠3)→false=G))∧((o=false)→false=G))∧((n.Kind≠6)→false=G))∧(((a.length:Int)≠2)→false=G))∧((k.kind≠5)→false=G))∧((l≠0)→false=G))∧((j≠0)→false=G)):oe G:=by
 refine⟨rfl,rfl,?_⟩;refine qA 71 [] func9 λK J=>?_;refine gR 7 rfl ?_;obtain⟨b,s,j,x,h⟩:=h;refine qC0 x rfl<|gR 14 rfl<|gHR 1 (kidsV [b]) rfl (xS b) rfl<|gFR 1 rfl (qZ _) rfl rfl ?_;obtain⟨a,y,h⟩:=h;refine qC y [] ?_;refine gHR 2 (List.map ac.w a) rfl (vG _ a) rfl<|gR 7 rfl<|gHR 3 (kidsV [b]) rfl (xS b) rfl<|gR 2 rfl<|gFR 3 rfl (qZ _) rfl rfl<|gFR 4 rfl rfl rfl rfl ?_;obtain⟨k,l,z,h⟩:=h;refine qC0 z rfl<|gR 13 rfl<|qBeZ 25 24 rfl rfl rfl rfl h ?_ ?_<;>intro h;refine gR 4 rfl<|qBeZ 29 28 rfl rfl rfl rfl h ?_ ?_<;>intro h;refine gR 5 rfl<|qBeZ 34 33 rfl rfl rfl rfl h ?_ ?_<;>intro h;refine gR 2 rfl<|gV 36 (qi (a.length:Int)) rfl (aI (aH ac.w _)) rfl<|gLO 2 rfl (aH ac.w _) λα=>gR 3 rfl<|qBeZ 39 38 rfl rfl rfl rfl h ?_ ?_<;>intro h;refine gR 1 rfl ?_;obtain⟨n,p,h⟩:=h;refine gY (yIO ah rfl rfl rfl rfl (qG (aw (f:=ac.w) p))) rfl rfl ?_;refine gR 1 rfl<|gDo (.nop) (dLe ah rfl rfl rfl (aw (f:=ac.w) p) rfl) trivial rfl rfl rfl<|gR 3 rfl<|qBeZ 46 45 rfl rfl rfl rfl h ?_ ?_<;>intro h;refine gR 1 rfl ?_;obtain⟨r,q,h⟩:=h;refine gY (yIO ah rfl rfl rfl rfl (qG (aw (f:=ac.w) q))) rfl rfl ?_;refine gR 2 rfl<|gDo (.nop) (dLe ah rfl rfl rfl (aw (f:=ac.w) q) rfl) trivial rfl rfl rfl<|gR 1 rfl<|gFR 6 rfl rfl rfl rfl ?_;obtain⟨o,t,h⟩:=h;refine qC0 t rfl<|gR 2 rfl<|qBiZ 55 54 rfl rfl rfl rfl h ?_ ?_<;>intro h;refine gR 1 rfl ?_;obtain⟨c,d,h⟩:=h;refine gY (yIO ah rfl rfl rfl rfl (qG (aw (f:=ac.w) d))) rfl rfl ?_;refine gR 1 rfl<|gDo (.nop) (dLe ah rfl rfl rfl (aw (f:=ac.w) d) rfl) trivial rfl rfl rfl<|gR 3 rfl<|qBeZ 62 61 rfl rfl rfl rfl h ?_ ?_<;>intro h;refine gR 1 rfl ?_;obtain⟨g,e,h⟩:=h;refine gY (yIO ah rfl rfl rfl rfl (qG (aw (f:=ac.w) e))) rfl rfl ?_;refine gR 2 rfl<|gDo (.nop) (dLe ah rfl rfl rfl (aw (f:=ac.w) e) rfl) trivial rfl rfl rfl<|gR 1 rfl<|gFR 7 rfl rfl rfl rfl ?_;obtain⟨i,v,h⟩:=h;refine qC0 v rfl<|gR 5 rfl ?_;subst h;exact qN [.tmp 0];refine gR 12 rfl ?_;subst h;exact qN [.tmp 0];refine gR 19 rfl ?_;subst h;exact qN [.tmp 0];refine gR 28 rfl ?_;subst h;exact qN [.tmp 0];refine gR 35 rfl ?_;subst h;exact qN [.tmp 0];refine gR 40 rfl ?_;subst h;exact qN [.tmp 0];refine gR 45 rfl ?_;subst h;exact qN [.tmp 0];refine gR 49 rfl ?_;subst h;exact qN [.tmp 0]
open Go.RowKit
def fq(R:List Nat)(l:List (Nat×Ob)):List (Nat×Ob):=l.filter λp=>lj p.1 R
def ung:Ob→Ob
 |.free=>.gone
 |o=>o
def gn(nx:Nat)(R:List Nat)(l:List (Nat×Ob)):List (Nat×Ob):=(l.filter λp=>!lj p.1 R&&Nat.blt p.1 nx).map λp=>(p.1,ung p.2)
theorem uT{α:Type}{R:List Nat}:∀(l:List (Nat×Ob)) (c:List (Nat×Ob)→α),wL R l c=c (fq R l)
 |[],c=>rfl
 |(i,o)::r,c=>by
  simp only[wL];cases h:lj i R
  ·simp only;rw[uT r];simp[fq,h]
  ·simp only;rw[uT r];simp[fq,h]
theorem uA{α:Type}{nx:Nat}{R:List Nat}:∀(l:List (Nat×Ob)) (c:List (Nat×Ob)→α),uU nx R l c=c (gn nx R l)
 |[],c=>rfl
 |(i,o)::r,c=>by
  simp only[uU];cases h:(!lj i R&&Nat.blt i nx)
  ·simp only;rw[uA r];simp only[gn,List.filter_cons,h];rfl
  ·cases o<;>(simp only;rw[uA r];simp only[gn,List.filter_cons,h];rfl)
theorem tp{R:List Nat}{i:Nat}:∀{l:List (Nat×Ob)},ay (fq R l) i=ay l i∨(lj i R=false∧ay (fq R l) i=.gone)
 |[]=>.inl rfl
 | (j, o)::r=>by
  by_cases hj:j=i
  ·subst hj;cases h:lj j R
   ·right;refine⟨rfl,?_⟩;have ih:=tp (R:=R) (i:=j) (l:=r);simp only[fq,List.filter_cons,h]at ih⊢;simp only[Bool.false_eq_true,if_false];clear ih;have key:∀(l:List (Nat×Ob)),ay (l.filter λp=>lj p.1 R) j=.gone:=by
     intro l
     induction l with
     |nil=>rfl
     | cons q t ih=>
      obtain⟨k,o'⟩:=q;simp only[List.filter_cons];split
      ·rename_i hk;have :k≠j:=λe=>by subst e;simp[h]at hk
       simp only[ay,nbF this];exact ih
      ·exact ih
    exact key r
   ·left;simp only[fq,List.filter_cons,h,if_true,ay,nbT]
  ·have ih:=tp (R:=R) (i:=i) (l:=r);simp only[fq,List.filter_cons];split
   ·simp only[ay,nbF hj];exact ih
   ·simp only[ay,nbF hj];exact ih
theorem AG{R:List Nat}(h:lj i R=false)(l:List (Nat×Ob)):ay (fq R l) i=.gone:=by
 induction l with
 |nil=>rfl
 | cons q t ih=>
  obtain⟨k,o'⟩:=q;simp only[fq,List.filter_cons];split
  ·rename_i hk;have :k≠i:=λe=>by subst e;simp[h]at hk
   simp only[ay,nbF this];exact ih
  ·exact ih
theorem GP{nx:Nat}{R:List Nat}(l:List (Nat×Ob)):ay (gn nx R l) i=if(!lj i R&&Nat.blt i nx)=true then ung (ay l i)else .gone:=by
 induction l with
 |nil=>simp[gn,ay,ung]
 | cons q t ih=>
  obtain⟨k,o⟩:=q;by_cases hk:k=i
  ·subst hk;cases h:(!lj k R&&Nat.blt k nx)
   ·rw[h]at ih;simp only[gn,List.filter_cons,h,Bool.false_eq_true,if_false]at ih⊢;exact ih
   ·simp only[gn,List.filter_cons,h,if_true,List.map_cons,ay,nbT]
  ·have e:ay ((k,o)::t) i=ay t i:=by simp only[ay,nbF hk]
   rw[e,←ih];simp only[gn,List.filter_cons];split
   ·simp only[List.map_cons,ay,nbF hk]
   ·rfl
variable{S:Nat→Prop}
section
variable{P:Program}{T:Tab}{K:Ctx}{Q:Exit→Act→World→Prop}{s:List EI}{n:Nat}{F:Fm}{H:Hp}
theorem Eu (lo:Nat) (H:Hp) (v:V):∃v' H',(∀(α:Type) (c:V→Hp→α),Gy lo H v c=c v' H')∧H'.nx=H.nx∧(∀K S w ρ x,HRel S w ρ H.get→Inv K S w ρ H.get→VRel S w ρ v x→∃S',HRel S' w ρ H'.get∧Inv K S' w ρ H'.get∧Up S S' w w ρ ρ∧VRel S' w ρ v' x):=by
 have triv:∃v' H',(∀(α:Type) (c:V→Hp→α),c v H=c v' H')∧H'.nx=H.nx∧(∀K S w ρ x,HRel S w ρ H.get→Inv K S w ρ H.get→VRel S w ρ v x→∃S',HRel S' w ρ H'.get∧Inv K S' w ρ H'.get∧Up S S' w w ρ ρ∧VRel S' w ρ v' x):=⟨v,H,λ_ _=>rfl,rfl,λK S w ρ x h1 h2 h3=>⟨S,h1,h2,Up.refl,h3⟩⟩;cases v with
 | sl id=>
  simp only[Gy];split
  ·split
   ·rename_i e sz els ho;split
    ·rename_i hpu;refine⟨.row sz els,⟨H.nx,pU id H.es⟩,λα c=>by rw[wO],rfl,λK S w ρ x hr hi hx=>?_⟩;have hg:(⟨H.nx,pU id H.es⟩:Hp).get=bW H.get id .gone:=by
      funext i
      unfold Hp.get;by_cases hii:i=id
      ·subst hii;rw[bO];simp only[];have hlt:Nat.blt i H.nx=true:=by
        unfold Hp.get at ho;split at ho
        ·assumption
        ·cases ho
       rw[hlt];simp only[pM,if_true]
      ·rw[de _ _ hii];simp only[pM,if_neg hii]
     refine⟨_,by rw[hg];exact(fV hr).1,by rw[hg];exact hi.frz hr id,(fV hr).2,rn hr ho hpu hx⟩
    ·exact triv
   ·exact triv
  ·exact triv
 |_=>exact triv
theorem Ek(lo:Nat):∀(vs:List V) (H:Hp),∃vs' H',(∀(α:Type) (c:List V→Hp→α),Fo lo H vs c=c vs' H')∧H'.nx=H.nx∧(∀K S w ρ xs,HRel S w ρ H.get→Inv K S w ρ H.get→LRel S w ρ vs xs→∃S',HRel S' w ρ H'.get∧Inv K S' w ρ H'.get∧Up S S' w w ρ ρ∧LRel S' w ρ vs' xs)
 |[],H=>⟨[],H,λ_ _=>rfl,rfl,λK S w ρ x h1 h2 O=>⟨S,h1,h2,Up.refl,O⟩⟩
 |v::r,H=>by
  obtain⟨U,H1,Z,n1,k1⟩:=Eu lo H v;obtain⟨r',H2,e2,n2,k2⟩:=Ek lo r H1;refine⟨U::r',H2,λα c=>by simp only[Fo,Z,e2],n2.trans n1,λK S w ρ xs hr hi hx=>?_⟩;simp only[LRel]at hx;obtain⟨x,ys,rfl,h1,h2⟩:=hx;obtain⟨S1,a1,a2,G,a4⟩:=k1 K S w ρ x hr hi h1;obtain⟨S2,b1,b2,J,b4⟩:=k2 K S1 w ρ ys a1 a2 (h2.up G);exact⟨S2,b1,b2,⟨λb hb=>J.s b (G.s b hb),λ_ _ _=>rfl,λ_ _ h=>h⟩,x,ys,rfl,a4.up J,b4⟩
theorem Mf(lo:Nat)(H:Hp)(v:V):∃G H',(∀(α:Type) (c:V→Hp→α),Jq lo H v c=c G H')∧H'.nx=H.nx∧(∀K S w ρ x,HRel S w ρ H.get→Inv K S w ρ H.get→VRel S w ρ v x→∃S',HRel S' w ρ H'.get∧Inv K S' w ρ H'.get∧Up S S' w w ρ ρ∧VRel S' w ρ G x):=by
 have J:=Eu lo H v;cases v
 case agg cs=>
  obtain⟨vs',H',e,O,k⟩:=Ek lo cs H;refine⟨.agg vs',H',λα c=>by simp only[Jq,e],O,λK S w ρ x hr hi hx=>?_⟩;simp only[VRel]at hx;obtain⟨xs,rfl,h1⟩:=hx;obtain⟨S',a1,U,Z,a4⟩:=k K S w ρ xs hr hi h1;exact⟨S',a1,U,Z,by simp only[VRel];exact⟨xs,rfl,a4⟩⟩
 all_goals exact J
theorem zN(lo:Nat):∀(vs:List V) (H:Hp),∃vs' H',(∀(α:Type) (c:List V→Hp→α),Ck lo H vs c=c vs' H')∧H'.nx=H.nx∧(∀K S w ρ xs,HRel S w ρ H.get→Inv K S w ρ H.get→LRel S w ρ vs xs→∃S',HRel S' w ρ H'.get∧Inv K S' w ρ H'.get∧Up S S' w w ρ ρ∧LRel S' w ρ vs' xs)
 |[],H=>⟨[],H,λ_ _=>rfl,rfl,λK S w ρ x h1 h2 O=>⟨S,h1,h2,Up.refl,O⟩⟩
 |v::r,H=>by
  obtain⟨U,H1,Z,n1,k1⟩:=Mf lo H v;obtain⟨r',H2,e2,n2,k2⟩:=zN lo r H1;refine⟨U::r',H2,λα c=>by simp only[Ck,Z,e2],n2.trans n1,λK S w ρ xs hr hi hx=>?_⟩;simp only[LRel]at hx;obtain⟨x,ys,rfl,h1,h2⟩:=hx;obtain⟨S1,a1,a2,G,a4⟩:=k1 K S w ρ x hr hi h1;obtain⟨S2,b1,b2,J,b4⟩:=k2 K S1 w ρ ys a1 a2 (h2.up G);exact⟨S2,b1,b2,⟨λb hb=>J.s b (G.s b hb),λ_ _ _=>rfl,λ_ _ h=>h⟩,x,ys,rfl,a4.up J,b4⟩
variable{all:Array Oper}{rest:List Oper}{o:Oper}{u:V}{H':Hp}
theorem Np{ok:Bool}(U:bm F all o.guard=some true)(hx:nE P K o [] ok n F H u H')(k:Go P K Q (.ops all rest) s n (F.seto o.dst (some u)) H'):Go P K Q (.ops all (o::rest)) s n F H:=λS w ρ a hr hi G=>by
 show wpList P all (eK P Q s) (o::rest) a w;unfold wpList;rw[if_pos (cc G U)];exact .inl (hx S w ρ a hr hi G _ _ λx S' w' ρ' J O Z _ _ hv=>k S' w' ρ' _ J O (cH (G.up Z) o.dst hv))
variable{L:List Nat}{m left i:Nat}{listed:Array Bool}
theorem NB(G:Region.ready .any all listed=[i])(hi:all[i]?=some o)(hw:bm F all o.guard=some true)(hx:nE P K o L ((listed.setIfInBounds i true).getD m false) n F H u H')(k:Go P K Q (.drw all L m left (listed.setIfInBounds i true)) s n (F.seto o.dst (some u)) H'):Go P K Q (.drw all L m (left+1) listed) s n F H:=λS w ρ a hr J O hs=>by
 refine oc (S:=S) G ?_;unfold wpOp;simp only[hi];rw[if_pos (cc O hw)];exact .inl (hx S w ρ a hr J O _ _ λx S' w' ρ' U Z hu hA hL hv=>kr hu hA hL (k S' w' ρ' _ U Z (cH (O.up hu) o.dst hv) hs))
def lN(P:Program)(K:Ctx)(Q:Exit→Act→World→Prop)(n:Nat):Rs→Prop
 |.ok e F H=>∀S w ρ a,HRel S w ρ H.get→Inv K S w ρ H.get→FRel S w ρ a n F→Q (match e with|true=>.ret|false=>.normal) a w
 |.pt p s F H=>Go P K Q p s n F H
 |.er _ _=>False
variable{ih:EP→List EI→Fm→Hp→Rs}
theorem EM{w:World}{ρ:Nat→Option Value}{x:Value}:∀{rs:List V},VRel S w ρ (nK rs) x→∃ys,LRel S w ρ rs ys∧x=oz ys
 |[],G=>by simp only[nK,VRel]at G;obtain⟨ys,rfl,h1⟩:=G;exact⟨ys,h1,by simp only[LRel]at h1;subst h1;rfl⟩
 |[v],G=>⟨[x],⟨x,[],rfl,G,rfl⟩,rfl⟩
 |v::u::r,G=>by
  simp only[nK,VRel]at G;obtain⟨ys,rfl,h1⟩:=G;refine⟨ys,h1,?_⟩;simp only[LRel]at h1;obtain⟨_,_,rfl,_,_,_,rfl,_⟩:=h1;rfl
theorem JT (hT:TabOk P T) (IH:∀p s F H K Q n,lN P K Q n (ih p s F H)→Go P K Q p s n F H) {X:Rs→Prop} (hX:∀n m,¬X (.er n m)) {keep ok:Bool} {vs:List V} {fid:FuncId} {fn:Func} {b:Code} {c:V→Hp→Rs} (hf:P.funcs[fid]?=some fn) (hb:fn.body=some b) (hl:Nat.ble vs.length fn.ntmps=true)
  (h:X (GJ T ih keep vs fn b H L ok c)):∃u H' L',(L'=L∨ok=true)∧CallR P K fid vs H L' (λu' H''=>u'=u∧H''=H')∧X (c u H'):=by
 unfold GJ at h;simp only[]at h;generalize hR:ql H 40 (uV vs []) []=R at h;split at h
 ·rename_i hok;rw[uT]at h;split at h
  ·rename_i e F1 H1 hrun;split at h
   ·rename_i rs hres;split at h
    ·rename_i hnx;have hnx':H.nx≤H1.nx:=Nat.le_of_ble_eq_true hnx;have hin:∀i,(⟨H.nx,fq R H.es⟩:Hp).get i=H.get i∨(⟨H.nx,fq R H.es⟩:Hp).get i=.gone:=λi=>by
      unfold Hp.get;simp only[];split
      ·rcases tp (R:=R) (i:=i) (l:=H.es)with e|⟨_,e⟩
       ·exact .inl e
       ·exact .inr e
      ·exact .inl rfl
     have hout:∀i,lj i R=false→Nat.blt i H.nx=true→(⟨H.nx,fq R H.es⟩:Hp).get i=.gone:=λi hi hlt=>by
      unfold Hp.get;simp only[hlt];exact AG hi _
     have key:∀(H2:Hp) (es3:List (Nat×Ob)),H2.nx=H1.nx→(∀i,ay es3 i=ay H2.es i∨ay es3 i=.gone)→∀i,((⟨H2.nx,es3++gn H.nx R H.es⟩:Hp).get i=H2.get i∨(⟨H2.nx,es3++gn H.nx R H.es⟩:Hp).get i=.gone)∨((⟨H2.nx,es3++gn H.nx R H.es⟩:Hp).get i=H.get i∧(⟨H.nx,fq R H.es⟩:Hp).get i=.gone∧H.get i≠.free):=λH2 es3 hn h3 i=>by
      by_cases hlt2:Nat.blt i H2.nx=true
      ·have e0:(⟨H2.nx,es3++gn H.nx R H.es⟩:Hp).get i=ay (es3++gn H.nx R H.es) i:=by unfold Hp.get;simp only[hlt2]
       have e2:H2.get i=ay H2.es i:=by unfold Hp.get;rw[hlt2]
       rw[e0,e2];rcases CA es3 (gn H.nx R H.es) i with e|⟨e',e⟩
       ·rw[e];rcases h3 i with h3|h3
        ·exact .inl (.inl h3)
        ·exact .inl (.inr h3)
       ·rw[e];rw[GP];cases hm:(!lj i R&&Nat.blt i H.nx)
        ·exact .inl (.inr (by simp))
        ·have hm':=hm;simp only[Bool.and_eq_true,Bool.not_eq_true']at hm';have eH:H.get i=ay H.es i:=by unfold Hp.get;rw[hm'.2]
         rw[if_pos rfl];cases hf:ay H.es i
         case free=>exact .inl (.inr rfl)
         all_goals exact .inr ⟨by rw[eH,hf];rfl,hout i hm'.1 hm'.2,by rw[eH,hf];simp⟩
      ·have e0:(⟨H2.nx,es3++gn H.nx R H.es⟩:Hp).get i=.free:=by
        unfold Hp.get;simp only[Bool.not_eq_true]at hlt2;simp only[hlt2]
       have e2:H2.get i=.free:=by unfold Hp.get;simp only[Bool.not_eq_true]at hlt2;rw[hlt2]
       exact .inl (.inl (by rw[e0,e2]))
     have fin:∀(H2:Hp) (es3:List (Nat×Ob)) (rs2:List V),H2.nx=H1.nx→(∀i,ay es3 i=ay H2.es i∨ay es3 i=.gone)→
       (∀K S w ρ xs,HRel S w ρ H1.get→Inv K S w ρ H1.get→LRel S w ρ rs xs→∃S',HRel S' w ρ H2.get∧Inv K S' w ρ H2.get∧Up S S' w w ρ ρ∧LRel S' w ρ rs2 xs)→
       ∃L',(L'=L∨ok=true)∧CallR P K fid vs H L' (λu' H''=>u'=nK rs2∧H''=⟨H2.nx,es3++gn H.nx R H.es⟩):=λH2 es3 rs2 hn h3 hfz=>by
      have main:∀L',(∀(S:Nat→Prop) (w:World) (ρ:Nat→Option Value),HRel S w ρ H.get→L'=[]∨(dk H.get L'=true∧∀id,id∈L'→(⟨H.nx,fq R H.es⟩:Hp).get id=.gone))→CallR P K fid vs H L' (λu' H''=>u'=nK rs2∧H''=⟨H2.nx,es3++gn H.nx R H.es⟩):=λL' hL' S w ρ xs hr hi hx=>by
       have hr1:=hr.drop (h':=(⟨H.nx,fq R H.es⟩:Hp).get) hin;have hi1:Inv ⟨w,S,λb=>∃id,own ρ id ((⟨H.nx,fq R H.es⟩:Hp).get id) b,ρ⟩ S w ρ (⟨H.nx,fq R H.es⟩:Hp).get:=⟨ChgP.refl _ _,λ_ h=>h,λ_ h=>.inl h,λid b hb=>.inl ⟨id,hb⟩,λ_ _ h=>h⟩;refine yh hf hb hl hr1 hi1 hx (IH _ _ _ _ _ _ _ ?_);rw[hrun];intro S' w' ρ' a' hr' hi' hF';obtain⟨rl,hrl⟩:∃l:List ResultVar,fn.results=l.toArray:=⟨fn.results.toList,by simp⟩;rw[hrl]at hres;refine ret_go hT (rs:=rl) (by cases e<;>simp) hrl hr' hF' (by simpa using hres) λx hvx=>?_;have hLR:=EM hvx;obtain⟨ys,hys,rfl⟩:=hLR;obtain⟨S2,a1,a2,a3,a4⟩:=hfz _ S' w' ρ' ys hr' hi' hys;obtain⟨m1,m2,m3,m4⟩:=Cj (h1:=(⟨H.nx,fq R H.es⟩:Hp).get) (h2:=(⟨H2.nx,es3++gn H.nx R H.es⟩:Hp).get) hr hi hin a1 a2 (key H2 es3 hn h3);refine⟨_,S2,ρ',_,_,rfl,⟨rfl,rfl⟩,m1,m2,m3,EL a4,?_⟩;rcases hL' S w ρ hr with rfl|⟨g1,g2⟩
       ·intro id hid;simp at hid
       ·exact m4 L' g1 g2
      rcases wM hok with hok|hok
      ·simp only[Bool.and_eq_true]at hok;refine⟨L,.inl rfl,main L λS w ρ hr=>.inr ⟨hok.1,λid hid=>?_⟩⟩;have hmem:=List.all_eq_true.1 hok.2 id hid;simp only[Bool.not_eq_true']at hmem;by_cases hlt:Nat.blt id H.nx=true
       ·exact hout id hmem hlt
       ·exfalso;have hfree:H.get id=.free:=by unfold Hp.get;simp only[Bool.not_eq_true]at hlt;rw[hlt]
        have hnl:∀(l:List Nat),id∈l→dk H.get l=true→False:=by
         intro l
         induction l with
         |nil=>intro h;simp at h
         | cons j t ih=>
          intro hm hl;simp only[dk]at hl;rcases List.mem_cons.1 hm with e|e
          ·subst e;rw[hfree]at hl;cases hl
          ·split at hl
           ·exact ih e hl
           ·exact ih e hl
           ·cases hl
        exact hnl L hid hok.1
      ·exact⟨[],.inr hok,main [] λ_ _ _ _=>.inl rfl⟩
     split at h
     ·rw[uA]at h;obtain⟨L',g1,g2⟩:=fin H1 H1.es rs rfl (λi=>.inl rfl) (λK S w ρ xs h1 h2 h3=>⟨S,h1,h2,Up.refl,h3⟩);exact⟨_,_,L',g1,g2,h⟩
     ·obtain⟨rs2,H2,e1,e2,e3⟩:=zN H.nx rs H1;rw[e1]at h;rw[uT,uA]at h;obtain⟨L',g1,g2⟩:=fin H2 (fq _ H2.es) rs2 e2 (λi=>by
       rcases tp (R:=ql H2 60 (uV rs2 R) []) (i:=i) (l:=H2.es)with e|⟨_,e⟩
       ·exact .inl e
       ·exact .inr e) e3
      exact⟨_,_,L',g1,g2,h⟩
    ·exact absurd h (hX _ _)
   ·exact absurd h (hX _ _)
  ·exact absurd h (hX _ _)
  ·exact absurd h (hX _ _)
 ·exact absurd h (hX _ _)
theorem sk (hT:TabOk P T) (IH:∀p s F H K Q n,lN P K Q n (ih p s F H)→Go P K Q p s n F H) {X:Rs→Prop} (hX:∀n m,¬X (.er n m)) {ok:Bool} {c:Option V→Hp→Rs} (h:X (va T ih F H L ok o c)):∃u H',nE P K o L ok n F H u H'∧X (c (some u) H'):=by
 unfold va at h;split at h
 ·rename_i v hv;exact⟨v,H,Ic hT hv,h⟩
 ·rw [eC]at h;split at h
  ·rename_i v ed hv;split at h
   ·rename_i hc;rw[Hp.ap_eq]at h;refine⟨_,_,bg hT hv hc,?_⟩;cases v with
    |none=>exact h
    |some v=>exact h
   ·exact absurd h (hX _ _)
  ·split at h
   ·rename_i fid args tys hop;split at h
    ·rename_i vs hvs;split at h
     ·rename_i v hn;obtain⟨he,hnat⟩:=hT.nat _ _ _ hn;refine⟨v,H,cg (L':=L) he (by rw[hop]) hvs (λS w ρ xs hr hi hx=>?_) (.inl rfl),h⟩;obtain⟨x,h1,h2⟩:=hnat S w ρ xs hx;refine h2.mono λe w' hR=>?_;obtain⟨rfl,rfl⟩:=hR;exact⟨x,S,ρ,v,H,rfl,⟨rfl,rfl⟩,hr,hi,Up.refl,h1,pL⟩
     ·split at h
      ·rename_i fn hfn;obtain⟨hf,he⟩:=hT.fn _ _ hfn;split at h
       ·rename_i b hb;split at h
        ·rename_i hl;obtain⟨u,H',L',g1,g2,g3⟩:=JT (K:=K) hT IH hX hf hb hl h;exact⟨u,H',cg he (by rw[hop]) hvs g2 g1,g3⟩
        ·exact absurd h (hX _ _)
       ·exact absurd h (hX _ _)
      ·exact absurd h (hX _ _)
    ·exact absurd h (hX _ _)
   ·exact absurd h (hX _ _)
theorem IF{l:List Nat}{j:Nat}(h:Cm l j=true):l=[j]:=by
 unfold Cm at h;split at h
 ·rw[Nat.eq_of_beq_eq_true h]
 ·cases h
theorem CK (hT:TabOk P T) (IH:∀p s F H K Q n,lN P K Q n (ih p s F H)→Go P K Q p s n F H) {i:Nat} {ps:List (Nat×Operand)} {vs:List (Nat×V)} {v:V} (hp:tn T all i vs=some (o,ps,v)):∀(left:Nat) (listed:Array Bool) (F:Fm) (H:Hp),lN P K Q n (AU T ih all L m i o ps v s left listed F H)→GoP P K Q all L m left listed s n F H i o ps vs v
 | left, listed,F,H,h=>by
  unfold AU at h;split at h
  ·rename_i hl;split at h
   ·rename_i x hrd;split at h
    ·rename_i hb;have :=Nat.eq_of_beq_eq_true hb;subst this;rw[Fm.puto_eq]at h;exact LS hT hp hrd hl (IH _ _ _ _ _ _ _ h)
    ·exact h.elim
   ·rename_i x y hrd;cases left with
    |zero=>exact h.elim
    | succ left=>
     simp only[eC]at h;generalize hj:Gr x y i=j at h;unfold Gr at hj;split at h
     ·exact h.elim
     ·rename_i hji;have hne:j≠i:=Nat.ne_of_beq_eq_false hji;split at h
      ·rename_i oj hoj;split at h
       ·rename_i hc;simp only[Bool.and_eq_true]at hc;obtain⟨⟨⟨hc1,hc2⟩,hc3⟩,hc4⟩:=hc;split at h
        ·rename_i hw;obtain⟨u,H',hx,hk⟩:=sk (K:=K) (n:=n) hT IH (X:=lN P K Q n) (λ_ _ h=>h) h;rw[Fm.puto_eq]at hk;have ih2:=CK hT IH hp left _ _ _ hk;have hpair:(match Region.ready .any all listed with|[x,y]=>(Nat.beq x i&&Nat.beq y j)||(Nat.beq x j&&Nat.beq y i)|_=>false)=true:=by
          rw[hrd];simp only[];cases hx1:Nat.beq x i
          ·rw[hx1]at hj;cases hy1:Nat.beq y i
           ·rw[hy1]at hj;exact absurd hj.symm hne
           ·rw[hy1]at hj;simp only at hj;subst hj;simp
          ·rw[hx1]at hj;simp only at hj;subst hj;simp
         refine Ji hT hp hoj hpair (IF hc1) hl (λt ht=>?_) hc2 hc3 (Array.setIfInBounds_comm _ _ (Ne.symm hne)) (Post:=λu' H''=>u'=u∧H''=H') (λS w ρ a hr hi hF K2 hK2=>?_) (λu' H'' hP=>by obtain⟨rfl,rfl⟩:=hP;exact ih2)
         ·rw[ht]at hc4;simp only[Option.isNone_iff_eq_none]at hc4;exact hc4
         ·unfold wpOp;simp only[hoj];rw[if_pos (cc hF hw)];refine .inl (hx S w ρ a hr hi hF _ _ λx S' w' ρ' hr' hi' hu hA hL hv=>hK2 x S' w' ρ' u H' ⟨rfl,rfl⟩ hr' hi' hu hA (hL.imp id λh=>?_) hv);simpa only[Bool.and_eq_true]using h
        ·exact h.elim
       ·exact h.elim
      ·exact h.elim
   ·exact h.elim
  ·exact h.elim
theorem KU (hT:TabOk P T) (IH:∀p s F H K Q n,lN P K Q n (ih p s F H)→Go P K Q p s n F H) {i j:Nat} {left:Nat} {listed:Array Bool} (hrd:Region.ready .any all listed=[i,j]) (h:lN P K Q n (Jt T ih all L m left i j listed s F H)):Go P K Q (.drw all L m (left+1) listed) s n F H:=by
 unfold Jt at h;split at h
 ·rename_i oi hoi;split at h
  ·rename_i oj hoj;split at h
   ·rename_i hwi;split at h
    ·rename_i hwj;obtain⟨ui,Hi,xi,hk⟩:=sk (K:=K) (n:=n) hT IH (X:=lN P K Q n) (λ_ _ h=>h) h;rw[Fm.puto_eq]at hk;split at hk
     ·rename_i F1 H1 e1;obtain⟨uj,Hj,xj,hk2⟩:=sk (K:=K) (n:=n) hT IH (X:=lN P K Q n) (λ_ _ h=>h) hk;rw[Fm.puto_eq]at hk2;split at hk2
      ·rename_i F2 H2 e2;split at hk2
       ·rename_i hal;have c:Go P K Q (.ex .normal) s n F1 H1:=IH _ _ _ _ _ _ _ hk2;intro S w ρ a hr hi hF;have hpin:∀id x,K.pin id=some x→id<H.nx:=λid x hx=>Decidable.byContradiction λhn=>by
         have h1:=hi.pin id x hx;have h2:=hr.ob id;have h3:H.get id=.free:=by
          unfold Hp.get;have :Nat.blt id H.nx=false:=by
           cases hb:Nat.blt id H.nx
           ·rfl
           ·exact absurd (by simpa[Nat.blt_eq]using hb) hn
          simp only[this]
         rw[h3]at h2;have h4:ρ id=none:=h2;rw[h4]at h1;cases h1
        have g1:Go P K (eK P Q s) (.drw all L m left (listed.setIfInBounds i true)) [] n (F.seto oi.dst (some ui)) Hi:=IH _ _ _ _ _ _ _ (by rw[e1];exact λS w ρ a hr hi hF=>c S w ρ a hr hi hF);have g2:Go P K (eK P Q s) (.drw all L m left (listed.setIfInBounds j true)) [] n (F.seto oj.dst (some uj)) Hj:=IH _ _ _ _ _ _ _ (by rw[e2];exact λS w ρ a hr hi hF=>go_alike hal hpin c S w ρ a hr hi hF);exact bH (by rw[hrd];simp) hoi hoj hwi hwj xi xj g1 g2 S w ρ a hr hi hF
       ·exact hk2.elim
      ·exact hk2.elim
      ·exact hk2.elim
     ·exact hk.elim
     ·exact hk.elim
    ·exact h.elim
   ·exact h.elim
  ·exact h.elim
 ·exact h.elim
theorem sY:∀{R:List Nat} {i:Nat} {ps:List (Nat×Operand)} {v:V},ua T F all R=some (i,o,ps,v)→∃vs,nz F ps=some vs∧tn T all i vs=some (o,ps,v)
 |[],_,_,_,h=>by cases h
 | j ::r,i,ps,v,h=>by
  unfold ua at h;split at h
  ·rename_i hj;split at h
   ·rename_i vs hvs;split at h
    ·rename_i o' ps' v' hpb;simp only[Option.some.injEq,Prod.mk.injEq]at h;obtain⟨rfl,rfl,rfl,rfl⟩:=h;refine⟨vs,?_,hpb⟩;have :=hpb;unfold tn at this;rw[hj]at this;simp only at this
     repeat' (split at this)
     all_goals first
      |(cases this;done)
      |(simp only[eC,Option.some.injEq,Prod.mk.injEq]at this;obtain⟨_,rfl,_⟩:=this;exact hvs)
    ·exact sY h
   ·exact sY h
  ·exact sY h
theorem Lf (hT:TabOk P T) (hm:P.follows .mixedOrders=true) (IH:∀p s F H K Q n,lN P K Q n (ih p s F H)→Go P K Q p s n F H):∀(p:EP) (s:List EI) (F:Fm) (H:Hp),lN P K Q n (Hk T ih p s F H)→Go P K Q p s n F H
 | .code c,s,F,H,h=>by
  replace h:lN P K Q n (FZ T ih c s F H):=h;unfold FZ at h;split at h
  ·exact IU (IH _ _ _ _ _ _ _ h)
  ·exact Dt (IH _ _ _ _ _ _ _ h)
  ·exact Ed (IH _ _ _ _ _ _ _ h)
  ·exact go_ret (IH _ _ _ _ _ _ _ h)
  ·exact EY (IH _ _ _ _ _ _ _ h)
  ·exact JR (IH _ _ _ _ _ _ _ h)
  ·exact Kb (IH _ _ _ _ _ _ _ h)
  ·exact go_loop 1000000 (IH _ _ _ _ _ _ _ h)
  ·split at h
   ·exact Bi ‹_› (IH _ _ _ _ _ _ _ h)
   ·exact CJ ‹_› (IH _ _ _ _ _ _ _ h)
   ·exact h.elim
  ·exact As (IH _ _ _ _ _ _ _ h)
  ·split at h
   ·rename_i hs;simp only[ds,eC]at h;exact Ex _ _ _ rfl hm hs (IH _ _ _ _ _ _ _ h)
   ·exact h.elim
  ·exact h.elim
 | .ops all rest,s,F,H,h=>by
  replace h:lN P K Q n (Co T ih all rest s F H):=h;unfold Co at h;split at h
  ·exact Hc (IH _ _ _ _ _ _ _ h)
  ·split at h
   ·rw[Fm.puto_eq]at h;exact II ‹_› (IH _ _ _ _ _ _ _ h)
   ·obtain⟨u,H',hx,hk⟩:=sk (K:=K) (n:=n) hT IH (X:=lN P K Q n) (λ_ _ h=>h) h;rw[Fm.puto_eq]at hk;exact Np ‹_› hx (IH _ _ _ _ _ _ _ hk)
   ·exact h.elim
 | .ex e,s,F,H,h=>by
  replace h:lN P K Q n (Gh ih e s F H):=h;unfold Gh at h;split at h
  ·split at h
   ·exact λS w ρ a hr hi hF=>h S w ρ a hr hi hF
   ·exact λS w ρ a hr hi hF=>h S w ρ a hr hi hF
   ·exact h.elim
  ·split at h
   ·exact DV (IH _ _ _ _ _ _ _ h)
   ·exact Dj (IH _ _ _ _ _ _ _ h)
   ·exact Bm (IH _ _ _ _ _ _ _ h)
   ·exact h.elim
  ·split at h
   ·split at h
    ·exact h.elim
    ·exact go_xloop (IH _ _ _ _ _ _ _ h)
   ·exact go_xloopE (IH _ _ _ _ _ _ _ h)
   ·exact go_xloopR (IH _ _ _ _ _ _ _ h)
   ·exact h.elim
  ·split at h
   ·exact Jj (IH _ _ _ _ _ _ _ h)
   ·exact Jx (IH _ _ _ _ _ _ _ h)
   ·exact JI (IH _ _ _ _ _ _ _ h)
   ·exact h.elim
  ·split at h
   ·exact Cr (IH _ _ _ _ _ _ _ h)
   ·split at h
    ·exact CE ‹_› (IH _ _ _ _ _ _ _ h)
    ·exact Dr ‹_› (IH _ _ _ _ _ _ _ h)
   ·exact BV (IH _ _ _ _ _ _ _ h)
   ·exact h.elim
 | .drw all L m left listed,s,F,H,h=>by
  replace h:lN P K Q n (Gn T ih all L m left listed s F H):=h;unfold Gn at h;split at h
  ·exact BK ‹_› (IH _ _ _ _ _ _ _ h)
  ·rename_i i R hrd;cases left with
   |zero=>exact h.elim
   | succ left=>
    simp only[]at h;split at h
    ·split at h
     ·rename_i o ho;split at h
      ·rw[Fm.puto_eq]at h;exact go_d1S hrd ho ‹_› (IH _ _ _ _ _ _ _ h)
      ·obtain⟨u,H',hx,hk⟩:=sk (K:=K) (n:=n) hT IH (X:=lN P K Q n) (λ_ _ h=>h) h;rw[Fm.puto_eq]at hk;exact NB hrd ho ‹_› hx (IH _ _ _ _ _ _ _ hk)
      ·exact h.elim
     ·exact h.elim
    ·split at h
     ·split at h
      ·rename_i o ho;split at h
       ·rename_i hc;simp only[Bool.and_eq_true,Bool.not_eq_true']at hc;obtain⟨⟨hc1,hc2⟩,hc3⟩:=hc;split at h
        ·rw[Fm.puto_eq]at h;exact GI hc3 ho hc2 hc1 ‹_› (IH _ _ _ _ _ _ _ h)
        ·rename_i hw;split at h
         ·rename_i v hv;rw[Fm.puto_eq]at h;exact KI hT hc3 ho hc2 hc1 hw hv (IH _ _ _ _ _ _ _ h)
         ·split at h
          ·rename_i id hid;split at h
           ·rename_i hL;simp only[Bool.and_eq_true,Bool.not_eq_true']at hL;obtain⟨⟨hL1,hL2⟩,hL3⟩:=hL;split at h
            ·rename_i v ed hv;rw[Fm.puto_eq]at h;exact Gl hT hc3 hL2 hL3 ho hc2 hc1 hw hid hL1 hv (IH _ _ _ _ _ _ _ h)
            ·exact h.elim
           ·exact h.elim
          ·exact h.elim
        ·exact h.elim
       ·exact h.elim
      ·exact h.elim
     ·split at h
      ·rename_i i' o ps v hpo;rw[Fm.puto_eq]at h;obtain⟨vs,g1,g2⟩:=sY hpo;exact Ha g1 (CK hT IH g2 left listed _ _ h)
      ·split at h
       ·exact KU hT IH hrd h
       ·exact h.elim
theorem HK(G:TabOk P T)(J:P.follows .mixedOrders=true):∀(k:Nat) (p:EP) (s:List EI) (F:Fm) (H:Hp) (K:Ctx) (Q:Exit→Act→World→Prop) (n:Nat),lN P K Q n (run T k p s F H)→Go P K Q p s n F H
 |0,p,s,F,H,K,Q,n,h=>h
 |k+1,p,s,F,H,K,Q,n,h=>Lf G J (λp s F H K Q n h=>HK G J k p s F H K Q n h) p s F H h
def Jk (T:Tab) (k:Nat) (fid:FuncId) (vs:List V) (H:Hp):Option (List V×Hp):=match T.fn fid with
 |some fn=>match fn.body with
  |some b=>match Nat.ble vs.length fn.ntmps with
   |true=>match run T k (.code b) [] (nd fn.ntmps vs) H with
    |.ok _ F1 H1=>match sD T H1.get F1 fn.results.toList with
     |some rs=>some (rs,H1)
     |none=>none
    |_=>none
   |false=>none
  |none=>none
 |none=>none
theorem Ll(Z:TabOk P T)(hm:P.follows .mixedOrders=true){k:Nat}{fid:FuncId}{vs rs:List V}{H H1:Hp}(h:Jk T k fid vs H=some (rs,H1)){w:World}{ρ:Nat→Option Value}{xs:List Value}(hr:HRel S w ρ H.get)(hx:LRel S w ρ vs xs):bX P fid=true∧
  Calls P fid xs.toArray w λe w'=>∃S' ρ' ys,e=.returned (oz ys)∧HRel S' w' ρ' H1.get∧Inv ⟨w,S,λb=>∃id,own ρ id (H.get id) b,ρ⟩ S' w' ρ' H1.get∧LRel S' w' ρ' rs ys:=by
 unfold Jk at h;split at h
 ·rename_i fn hfn;obtain⟨hf,he⟩:=Z.fn _ _ hfn;split at h
  ·rename_i b hb;split at h
   ·rename_i hl;split at h
    ·rename_i e F1 H1' J;split at h
     ·rename_i rs' G;simp only[Option.some.injEq,Prod.mk.injEq]at h;obtain⟨rfl,rfl⟩:=h;refine⟨he,?_⟩;have hi1:Inv ⟨w,S,λb=>∃id,own ρ id (H.get id) b,ρ⟩ S w ρ H.get:=⟨ChgP.refl _ _,λ_ h=>h,λ_ h=>.inl h,λid b hb=>.inl ⟨id,hb⟩,λ_ _ h=>h⟩;refine yh hf hb hl hr hi1 hx (HK Z hm k _ _ _ _ _ _ _ ?_);rw[J];intro S' w' ρ' a' O hi' hF';obtain⟨rl,U⟩:∃l:List ResultVar,fn.results=l.toArray:=⟨fn.results.toList,by simp⟩;rw[U]at G;refine ret_go Z (rs:=rl) (by cases e<;>simp) U O hF' (by simpa using G) λx hvx=>?_;have hLR:=EM hvx;obtain⟨ys,hys,rfl⟩:=hLR;exact⟨S',ρ',ys,rfl,O,hi',hys⟩
     ·cases h
    ·cases h
   ·cases h
  ·cases h
 ·cases h
end
def AQ:List (List UInt8)→List V→Bool
 |[],[]=>true
 |s::r,.str l::q=>lEq s l&&AQ r q
 |_,_=>false
def BX(ls:List (List UInt8)):V→Bool
 |.nils=>ls.isEmpty
 |.row sz els=>Nat.beq sz 1&&AQ ls els
 |_=>false
mutual
def treeB:Tree→V→Bool
 |.node k s ls ks,v=>match v with
  |.agg [.int .i64 k',.str s',l,r]=>iEq k k'&&lEq s s'&&BX ls l&&(match r with
   |.nils=>ks.isEmpty
   |.row sz els=>Nat.beq sz 4&&kidsB ks els
   |_=>false)
  |_=>false
def kidsB:List Tree→List V→Bool
 |[],vs=>match vs with
  |[]=>true
  |_=>false
 |t::r,vs=>match vs with
  |v::q=>treeB t v&&kidsB r q
  |[]=>false
end
section
variable{S:Nat→Prop}{w:World}
theorem BQ{ρ:Nat→Option Value}:∀{ls:List (List UInt8)} {els:List V} {xs:List Value},AQ ls els=true→CRel S w ρ 1 els xs→els.length=ls.length∧xs=ls.map eW
 |[],[],xs,_,G=>by simp only[CRel]at G;subst G;exact⟨rfl,rfl⟩
 |s::r,v::q,xs,hb,G=>by
  cases v<;>simp only[AQ]at hb<;>first|(cases hb;done)|skip
  rename_i l;simp only[Bool.and_eq_true]at hb;have J:=hb.1;rw[tT]at J;simp only[beq_iff_eq]at J;subst J;simp only[CRel]at G;obtain⟨x,ys,rfl,_,O,U⟩:=G;simp only[VRel]at O;subst O;obtain⟨Z,h6⟩:=BQ hb.2 U;exact⟨by simp[Z],by simp[h6,Value.cells]⟩
 |[],_::_,_,hb,_=>by cases hb
 |_::_,[],_,hb,_=>by cases hb
theorem Hb{ρ:Nat→Option Value}{ls:List (List UInt8)}{v:V}{x:Value}(hb:BX ls v=true)(hx:VRel S w ρ v x):∃A m,x=.slice A ls.length m∧ls.length≤m∧m≤maxLen∧RowIn S w 1 A ls.length (ls.map eW):=by
 cases v<;>simp only[BX]at hb<;>first|(cases hb;done)|skip
 ·simp only[List.isEmpty_iff]at hb;subst hb;simp only[VRel]at hx;subst hx;exact⟨none,0,rfl,Nat.le_refl _,by decide,RowIn.none_⟩
 ·rename_i sz els;simp only[Bool.and_eq_true,Nat.beq_eq]at hb;obtain⟨rfl,hb⟩:=hb;simp only[VRel]at hx;obtain⟨A,c,xs,rfl,G,O,U,J⟩:=hx;obtain⟨Z,rfl⟩:=BQ hb U;rw[Z]at G J⊢;exact⟨A,c,rfl,G,O,J⟩
mutual
theorem treeB_ok{ρ:Nat→Option Value}:∀{t:Tree} {v:V} {x:Value},treeB t v=true→VRel S w ρ v x→∃c,x=.agg c.toArray∧TreeIs S w t c
 | .node k s ls ks,v,x,hb,hx=>by
  unfold treeB at hb;split at hb
  ·rename_i k' s' l r;simp only[Bool.and_eq_true]at hb;obtain⟨⟨⟨hb1,hb2⟩,hb3⟩,hb4⟩:=hb;rw[vM]at hb1;rw[tT]at hb2;simp only[beq_iff_eq]at hb1 hb2;subst hb1 hb2;simp only[VRel]at hx;obtain⟨xs,rfl,hl⟩:=hx;simp only[LRel]at hl;obtain⟨x0,_,rfl,h0,x1,_,rfl,h1,x2,_,rfl,h2,x3,_,rfl,h3,rfl⟩:=hl;simp only[VRel]at h0 h1;subst h0 h1;obtain⟨A,m,rfl,g1,g2,g3⟩:=Hb hb3 h2;have kk:∃B n,x3=.slice B ks.length n∧ks.length≤n∧n≤maxLen∧∃cs,KidsAre S w ks cs∧RowIn S w 4 B ks.length cs:=by
    split at hb4
    ·simp only[List.isEmpty_iff]at hb4;subst hb4;simp only[VRel]at h3;subst h3;exact⟨none,0,rfl,Nat.le_refl _,by decide,[],by simp only[KidsAre],RowIn.none_⟩
    ·rename_i sz els;simp only[Bool.and_eq_true,Nat.beq_eq]at hb4;obtain⟨rfl,hb4⟩:=hb4;simp only[VRel]at h3;obtain⟨B,c,ys,rfl,q3,q4,q5,q6⟩:=h3;obtain⟨q7,q8⟩:=kidsB_ok hb4 q5;rw[q7]at q3 q6⊢;exact⟨B,c,rfl,q3,q4,ys,q8,q6⟩
    ·cases hb4
   obtain⟨B,n,rfl,k1,k2,cs,k3,k4⟩:=kk;exact⟨_,rfl,zK g1 g2 k1 k2 g3 k3 k4⟩
  ·cases hb
theorem kidsB_ok{ρ:Nat→Option Value}:∀{ts:List Tree} {vs:List V} {xs:List Value},kidsB ts vs=true→CRel S w ρ 4 vs xs→vs.length=ts.length∧KidsAre S w ts xs
 |[],vs,xs,hb,hc=>by
  unfold kidsB at hb;split at hb
  ·simp only[CRel]at hc;subst hc;exact⟨rfl,by simp only[KidsAre]⟩
  ·cases hb
 | t::r,vs,xs,hb,hc=>by
  unfold kidsB at hb;split at hb
  ·rename_i v q;simp only[Bool.and_eq_true]at hb;simp only[CRel]at hc;obtain⟨x,ys,rfl,_,h3,h4⟩:=hc;obtain⟨c,rfl,hT⟩:=treeB_ok hb.1 h3;obtain⟨h5,h6⟩:=kidsB_ok hb.2 h4;exact⟨by simp[h5],by simp only[KidsAre];exact⟨c,ys,by simp[Value.cells],hT,h6⟩⟩
  ·cases hb
end
end
def Cp(T:Tab)(k:Nat)(fid:FuncId)(vs:List V):Option (List V):=match Jk T k fid vs ⟨0,[]⟩with
 |some (rs,H1)=>Ck 0 H1 rs λrs' _=>some rs'
 |none=>none
theorem vx(i:Nat):(⟨0,[]⟩:Hp).get i=.free:=by
 unfold Hp.get;have :Nat.blt i 0=false:=by cases i<;>rfl
 simp only[this]
theorem Kw{w:World}(G:SOk S w):HRel S w (λ_=>none) (⟨0,[]⟩:Hp).get:=
 ⟨λi=>by rw[vx];rfl,λi b hb=>by rw[vx]at hb;exact hb.elim,λi j b hb _=>by rw[vx]at hb;exact hb.elim,G⟩
theorem KT{P:Program}{T:Tab}(Z:TabOk P T)(hm:P.follows .mixedOrders=true){k:Nat}{fid:FuncId}{vs rs:List V}(h:Cp T k fid vs=some rs){w:World}{xs:List Value}(hg:SOk S w)(hx:LRel S w (λ_=>none) vs xs):
  Calls P fid xs.toArray w λe w'=>∃S' ρ' ys,e=.returned (oz ys)∧SOk S' w'∧(∀b,S b→S' b)∧(∀b,S' b→S b∨w.heap.size≤b)∧Chg [] w w'∧LRel S' w' ρ' rs ys:=by
 unfold Cp at h;split at h
 ·rename_i O H1 G;obtain⟨rs2,H2,e1,_,e3⟩:=zN 0 O H1;rw[e1]at h;injection h with h;subst h
  refine(Ll Z hm G (Kw hg) hx).2.mono λe w' hR=>?_;obtain⟨S',ρ',ys,rfl,hr,hi,hl⟩:=hR;obtain⟨S2,a1,U,a3,a4⟩:=e3 _ S' w' ρ' ys hr hi hl;have J:∀b,¬∃id,own (λ_=>none) id ((⟨0,[]⟩:Hp).get id) b:=λb ⟨id,hb⟩=>by rw[vx]at hb;exact hb
  refine⟨S2,ρ',ys,rfl,a1.slt,U.s0,λb hb=>?_,⟨hi.chg.os,hi.chg.tape,hi.chg.output,hi.chg.size,λb hb _=>hi.chg.block b hb (J b)⟩,a4⟩;rcases U.s1 b hb with h|h|h
  ·exact .inl h
  ·exact absurd h (J b)
  ·exact .inr h
 ·cases h
def Kf(fid:FuncId)(vs:List V):Option V:=match Nat.beq fid 120 with
 |true=>match vs with
  |[.str s,.int .u8 (.ofNat c)]=>Gv (Lib.indexByte s c.toUInt8) λn=>some (.int .i64 n)
  |_=>none
 |false=>none
noncomputable def Gg:Tab:=⟨true,pO tyL,pO fnL,Kf,λf=>Nat.beq f 47⟩
theorem Lg:TabOk prog Gg:=by
 refine⟨IOx,Mz,λi vs v hv=>?_⟩;replace hv:Kf i vs=some v:=hv;unfold Kf at hv;split at hv
 ·rename_i hb;have :=Nat.eq_of_beq_eq_true hb;subst this;split at hv
  ·rename_i s c;rw[DY]at hv;injection hv with hv;subst hv
   refine⟨by kernel_rfl,λS w ρ xs hx=>?_⟩;simp only[LRel]at hx;obtain⟨J,_,rfl,G,O,_,rfl,h1,rfl⟩:=hx;simp only[VRel]at G h1;subst G h1;exact⟨_,by simp only[VRel];rfl,Gd _ _ _⟩
  ·cases hv
 ·cases hv
def wN(t:Tree):Option (List V)→Bool
 |some [v,.int .i64 a,.int .i64 e]=>treeB t v&&iEq a 0&&iEq e 0
 |_=>false
theorem IL{k:Nat}{l:List UInt8}(h:wN t (Cp Gg k 20 [.str l])=true){w:World}(hg:SOk S w):Calls prog 20 [eW l].toArray w λe w'=>∃S' c0 G J O,e=.returned (.tuple #[.agg #[c0,G,J,O],.int .i64 0,.int .i64 0])∧SOk S' w'∧(∀b,S b→S' b)∧(∀b,S' b→S b∨w.heap.size≤b)∧TreeIs S' w' t [c0,G,J,O]∧Chg [] w w':=by
 unfold wN at h;split at h
 ·rename_i v a e hr;simp only[Bool.and_eq_true,vM,beq_iff_eq]at h;obtain⟨⟨h1,rfl⟩,rfl⟩:=h;refine(KT Lg (by kernel_rfl) hr hg (xs:=[eW l]) ⟨_,[],rfl,by simp only[VRel],rfl⟩).mono λe w' hR=>?_;obtain⟨S',ρ',ys,rfl,g0,g1,g2,g4,Z⟩:=hR;simp only[LRel]at Z;obtain⟨x0,_,rfl,h0,x1,_,rfl,h2,x2,_,rfl,h3,rfl⟩:=Z;simp only[VRel]at h2 h3;subst h2 h3;obtain⟨c,rfl,U⟩:=treeB_ok h1 h0;have h4:=U.four
  match c,h4,U with
  |[c0,G,J,O],_,U=>exact⟨S',c0,G,J,O,rfl,g0,g1,g2,U,g4⟩
 ·cases h
section
variable{S:Nat→Prop}{w:World}{ρ:Nat→Option Value}
theorem Dp:∀ls:List (List UInt8),CRel S w ρ 1 (ls.map .str) (ls.map eW)
 |[]=>by simp[CRel]
 |s::r=>by
  simp only[List.map_cons,CRel];exact⟨eW s,r.map eW,by simp[Value.cells,eW],⟨rfl,rfl⟩,by unfold VRel;rfl,Dp r⟩
theorem Dv:∀ls:List Int,CRel S w ρ 1 (ls.map (V.int .i64)) (ls.map λz=>.int .i64 z)
 |[]=>by simp[CRel]
 |s::r=>by
  simp only[List.map_cons,CRel];exact⟨.int .i64 s,_,by simp[Value.cells],⟨rfl,rfl⟩,by unfold VRel;rfl,Dv r⟩
mutual
theorem TreeIs.vrel:∀{ρ:Nat→Option Value} {t:Tree} {c:List Value},TreeIs S w t c→LRel S w ρ (am t) c
 |ρ,.node k s ls ks,c,h=>by
  simp only[TreeIs]at h;obtain⟨A,m,B,n,rfl,h1,h2,h3,h4,h5,cs,h6,h7⟩:=h;simp only[am,Tree.kind,Tree.text,Tree.leads,Tree.kids,LRel,VRel];exact⟨_,_,rfl,rfl,_,_,rfl,rfl,_,_,rfl,⟨A,m,_,by simp,by simpa using h1,h2,Dp ls,by simpa using h5⟩,_,_,rfl,⟨B,n,cs,by simp[gI],by simpa[gI]using h3,h4,KidsAre.crel h6,by simpa[gI]using h7⟩,rfl⟩
theorem KidsAre.crel:∀{ρ:Nat→Option Value} {ts:List Tree} {cs:List Value},KidsAre S w ts cs→CRel S w ρ 4 (kidsV ts) cs
 |ρ,[],cs,h=>by simp only[KidsAre]at h;simp only[kidsV,CRel];exact h
 |ρ,t::r,cs,h=>by
  simp only[KidsAre]at h;obtain⟨c,d,rfl,h1,h2⟩:=h;simp only[kidsV,CRel,nU];exact⟨.agg c.toArray,d,by simp[Value.cells],⟨by simp[Value.cells,h1.four],by simpa[Value.cells]using h1.one⟩,by simp only[VRel];exact⟨c,rfl,h1.vrel⟩,KidsAre.crel h2⟩
end
end
theorem Lp{k:Nat}{l:List UInt8}(h:wN t (Cp Gg k 20 [.str l])=true):qF prog 20 [.str l] (.tup [.agg (am t),.int .i64 0,.int .i64 0]):=by
 refine⟨rfl,rfl,λS w ρ xs hr hx=>?_⟩;simp only[LRel,VRel]at hx;obtain⟨x,ys,rfl,rfl,rfl⟩:=hx;refine(IL h hr.slt).mono ?_;rintro e w' ⟨S',c0,G,J,O,rfl,Z,g1,g2,hT,U⟩;have g:=hr.chg0 U;refine⟨_,S',ρ,_,⟨0,[]⟩,rfl,rfl,⟨λi=>?_,λi b hb=>?_,λi j b hb _=>?_,Z⟩,⟨ChgP.of0 U,g1,λb hb=>(g2 b hb).elim .inl λh=>.inr (.inr h),λid b hb=>.inl ⟨id,hb⟩,λid x h=>?_⟩,?_⟩
 ·have :=g.ob i;rw[vx]at this⊢;exact this
 ·rw[vx]at hb;exact hb.elim
 ·rw[vx]at hb;exact hb.elim
 ·simp only[tJ]at h;split at h
  ·exact h
  ·cases h
 ·have hk:=TreeIs.vrel (ρ:=ρ) hT;simp only[VRel];exact⟨[.agg #[c0,G,J,O],.int .i64 0,.int .i64 0],rfl,.agg #[c0,G,J,O],_,rfl,by simp only[VRel];exact⟨_,rfl,hk⟩,_,_,rfl,by simp only[VRel],_,_,rfl,by simp only[VRel],rfl⟩
theorem Ff{c:CKr}{n:Nat}(G:c.result_lists=(n:Int))(hb:n≤1000000000):∀(k:Nat) (z:Int) (ks:List Tree) (i:Nat),i+k=n→oP (k+1) c z ks i (bF k (.node z [] [] ks)) 0
 |0,z,ks,i,h=>vh 0 _ _ _ _ _ _ (⟨λh'=>absurd h' (by rw[G];omega),λ_=>⟨rfl,rfl⟩⟩)
 |k+1,z,ks,i,h=>by
  have :=Ff G hb k 8 [.node z [] [] ks] (i+1) (by omega);rw[yk]at this;exact vh (k+1) _ _ _ _ _ _ (⟨λ_=>⟨by omega,this⟩,λh'=>absurd (by rw[G];omega) h'⟩)
def ofN(s:Sv):Tree×Int:=if s.rs=0 then(.node 0 [] [] [],20)else(bF s.rl.toNat (.node s.rs [] [] []),0)
theorem Pm(G:aR p=true)(hb:kbulk p≤10000000)(U:p[m]?=some t)(J:mv t q u true)(hu:dv u.kind=true):∃nm,nq p nm∧∀n:Nat,(eX p nm (m:Int) q).rl=(n:Int)→n≤1000000000→iN p ⟨(m:Int),q⟩ (ofN (eX p nm (m:Int) q)).1 (ofN (eX p nm (m:Int) q)).2:=by
 obtain⟨nm,h1,h2⟩:=sa G hb;obtain⟨_,z,h3⟩:=AY G hb nm (m:Int) q;have hk:10≤u.kind∧u.kind≤22∧u.kind≠17:=by simpa[dv]using hu
 have hlt:m<p.length:=(List.getElem?_eq_some_iff.1 U).1;refine⟨nm,h1,λn Z O=>?_⟩;refine jc (n+2) _ _ _ _ (⟨_,oH p (by omega),λh=>(by rw[G]at h;cases h),λ_=>⟨λh=>absurd h (by simp),λ_=>⟨λh=>absurd h (by simp only;omega),λ_=>⟨m,rfl,t,U,u,true,J,?_⟩⟩⟩⟩);refine nH (n+1) _ _ _ _ _ _ (⟨λh=>(by cases h),λ_=>⟨λh=>absurd h (by omega),λ_=>⟨λh=>absurd h (by omega),λ_=>⟨λh=>absurd h hk.2.2,λ_=>⟨_,h2,_,h3,λh=>?_,λh=>?_⟩⟩⟩⟩⟩)
 ·have h':(eX p nm (m:Int) q).rs=0:=h;unfold ofN;rw[if_pos h'];exact⟨rfl,rfl⟩
 ·have h':¬(eX p nm (m:Int) q).rs=0:=h;unfold ofN;rw[if_neg h',Z];exact Ff Z O n _ [] 0 (by omega)
def NI:List UInt8:=[109,111,100,117,108,101,32,77,32,100,101,102,32,102,40,41,58,32,73,110,116,32,61,32,49,32,43,32,34,97,34,32,100,101,102,32,103,40,120,58,32,66,111,111,108,41,58,32,73,110,116,32,61,32,105,102,32,120,32,116,104,101,110,32,49,32,101,108,115,101,32,103,40,41]
def nc:Tree:=(Mu NI).1
end Go.Proofs.YtomplbgchbfjpaaGreatDoor
