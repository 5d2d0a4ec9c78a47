/- Contracts of the functions that the law reaches, part 5. -/
import Derived.Test.YthnohcipianijaaGreatDoorTy4
set_option linter.unusedVariables false
set_option linter.unusedSimpArgs false
namespace Go.Proofs.YthnohcipianijaaGreatDoor
open _root_.Go.Proofs.Tryz
open Go.RowKit Lx Sx
set_option maxRecDepth 100000
set_option maxHeartbeats 1000000
variable{p:YT}
theorem LD{M:Int}{w:YB}(G:bn p=true)(J:0<=M)(h1:M<p.length)(hb:kbulk p<=100000000)(O:w.length<=1000000000):sQ p M w (aC p M w).1 (aC p M w).2.1 (aC p M w).2.2:=
 rS_link_Lookup 0 _ _ _ _ _ _ ⟨_,CI p (by omega),λh=>(by rw[G]at h;cases h),λh=>⟨_,_,_,Ff J h1 (by omega) O,rfl,rfl,rfl⟩⟩
theorem EA:∀(k:Nat) (z:Int) (ks:YT) (i:Nat),i+k<=1000000000->jt (k+1) z ks i ((i+k:Nat):Int) (en k<|.node z [] [] ks) 0
 |0,z,ks,i,h=>ud 0 _ _ _ _ _ _ ⟨λh=>by omega,λ_=>⟨rfl,rfl⟩⟩
 |k+1,z,ks,i,h=>by have :=EA k 8 [.node z [] [] ks] (i+1) (by omega);rw[EN,show i+1+k=i+(k+1) by omega]at this;exact ud (k+1) _ _ _ _ _ _ ⟨λ_=>⟨by omega,this⟩,λh=>by omega⟩
theorem Be{seen:List<|Int×Int}{l:List<|(Int×Int)×Bool}(h:∀k,aL k l=if k∈seen then some true else none)(a:Int×Int):∀k,aL k (bS a true l)=if k∈a::seen then some true else none:=λk=>by
 rw[iy,h k];by_cases e:k=a
 ·rw[if_pos e,if_pos<|by simp[e]]
 ·rw[if_neg e];by_cases G:k∈seen
  ·rw[if_pos G,if_pos<|by simp[G]]
  ·rw[if_neg G,if_neg<|by simp[e,G]]
variable{i:Nat}{t:Tree}
theorem rW{seen:List<|Int×Int}{d:Nat}{a:Tree}(h:oB p seen)(h1:p[i]?=some t)(h2:t.kids[d]?=some a)(G:((i:Int),(d:Int))∉seen):oB p (((i:Int),(d:Int))::seen):=
 ⟨List.nodup_cons.2 ⟨G,h.1⟩,λx hx=>by
  rcases List.mem_cons.1 hx with rfl|hx
  ·have :=De (j:=0) h1 h2;simpa using this
  ·exact h.2 x hx⟩
theorem Oc{p:YT}(hp:bn p=true)(hb:kbulk p<=10000000):∀(f:Nat) (seen:List<|Int×Int) (n:Nat) (M:Int) (u:Tree) (b:Bool) (a1 a2:Int) (l:List<|(Int×Int)×Bool),oB p seen->kbulk p+1<=f+seen.length->tyK u->u.kind≠8->n<=10000000+iq (sR p) seen->(∀k,aL k l=if k∈seen then some true else none)->(u.kind=9->b=(aC p M u.text).2.2∧(b=true->a1=(aC p M u.text).1∧a2=(aC p M u.text).2.1))->∃m,dT m p (eU p) u n b a1 a2 l (jf p f seen n M u).1 (jf p f seen n M u).2
 |0,seen,n,M,u,b,a1,a2,l,hs,hf,_,_,_,_,_=>by have :=tJ hs;omega
 | f + 1,seen,n,M,u,b,a1,a2,l,hs,hf,hu,h8,hn,hl,hq=>by
  have hss:=zW hs;by_cases h9:u.kind=9
  ·obtain⟨q1,q2⟩:=hq h9;rw[jf,if_pos h9];by_cases hfd:(aC p M u.text).2.2=false
   ·rw[if_pos hfd];rw[hfd]at q1;exact⟨1,lv 0 _ _ _ _ _ _ _ _ _ _ ⟨λ_=>⟨λ_=>⟨rfl,rfl⟩,λh=>(by rw[q1]at h;cases h)⟩,λh=>absurd h9 h⟩⟩
   ·rw [if_neg hfd];have hfd':(aC p M u.text).2.2=true:=by simpa using hfd
    rw[hfd']at q1;obtain⟨e1,e2⟩:=q2 q1;subst q1;obtain⟨i,d,t,a,b',g1,g2,g3,g4,g5,g6,g7⟩:=xT hp h9 hu.1 hfd';rw[g1]at e1⊢;rw[g2]at e2⊢;subst e1 e2;by_cases hm:((i:Int),(d:Int))∈seen
    ·rw[if_pos hm];have hlk:=hl ((i:Int),(d:Int));rw[if_pos hm]at hlk;exact⟨1,lv 0 _ _ _ _ _ _ _ _ _ _ ⟨λ_=>⟨λh=>(by cases h),λ_=>⟨λh=>(by rw[hlk]at h;cases h),λd1 h=>⟨λ_=>⟨rfl,rfl⟩,λh'=>(by rw[hlk]at h;cases h;cases h')⟩⟩⟩,λh=>absurd h9 h⟩⟩
    ·rw[if_neg hm];have hlk:=hl ((i:Int),(d:Int));rw[if_neg hm]at hlk;have hal:=tx g3 g4 g6;rw[hal];obtain⟨t1,t2,_⟩:=py b' g7;have hs':=rW hs g3 g4 hm;have hl':=Be hl ((i:Int),(d:Int));have hsum:iq (sR p) (((i:Int),(d:Int))::seen)=lisK b'+iq (sR p) seen:=by simp only[iq,sR,hal]
     have hss':=zW hs';have hbb:tbulk b'<=1000000000:=by have :=bR g3;have :=aF g4;have :=aF (t:=a) (i:=0) (u:=b') (by rw[g6];rfl);omega
     have hlo:=Cc hp ((i:Int),(d:Int));rw[zX g3 g4 g5,hal]at hlo;have step:∀m,((aL ((i:Int),(d:Int)) (eU p)=none)->dT m p (eU p) (leafK b') ((n:Int)+(lisK b':Nat)) false 0 0 (bS ((i:Int),(d:Int)) true l) (jf p f (((i:Int),(d:Int))::seen) (n+lisK b') i<|leafK b').1 (jf p f (((i:Int),(d:Int))::seen) (n+lisK b') i<|leafK b').2)∧(∀(d3:aA),aL ((i:Int),(d:Int)) (eU p)=some d3->dT m p (eU p) (leafK b') ((n:Int)+(lisK b':Nat)) true d3.module d3.def_ (bS ((i:Int),(d:Int)) true l) (jf p f (((i:Int),(d:Int))::seen) (n+lisK b') i<|leafK b').1 (jf p f (((i:Int),(d:Int))::seen) (n+lisK b') i<|leafK b').2)->∃m,dT m p (eU p) u n true i d l (jf p f (((i:Int),(d:Int))::seen) (n+lisK b') i<|leafK b').1 (jf p f (((i:Int),(d:Int))::seen) (n+lisK b') i<|leafK b').2:=λm hk=>by
      have h2:mq (m+1) p (eU p) u n i d l (jf p f (((i:Int),(d:Int))::seen) (n+lisK b') i<|leafK b').1 (jf p f (((i:Int),(d:Int))::seen) (n+lisK b') i<|leafK b').2:=
       rL2_types_Expand m _ _ _ _ _ _ _ _ _ ⟨i,rfl,t,g3,d,rfl,a,g4,b',by rw[g6];rfl,leafK b',_,BH g7 hbb,by unfold InI;omega,hk.1,hk.2⟩
      exact⟨m+2,lv (m+1) _ _ _ _ _ _ _ _ _ _ ⟨λ_=>⟨λh=>(by cases h),λ_=>⟨λ_=>h2,λd1 h=>⟨λ_=>(by rw[hlk]at h;cases h),λ_=>(by rw[hlk]at h;cases h)⟩⟩⟩,λh=>absurd h9 h⟩⟩
     have ih:=λ(b:Bool) (a1 a2:Int)=>Oc hp hb f (((i:Int),(d:Int))::seen) (n+lisK b') i (leafK b') b a1 a2 _ hs' (by simp only[aac];omega) t1 t2 (by omega) hl';rw[show(n:Int)+((lisK b':Nat):Int)=((n+lisK b':Nat):Int) by omega]at step;cases hmm:aL ((i:Int),(d:Int)) (eU p)with
     | none=>
      rw[hmm]at hlo;obtain⟨m,hm⟩:=ih false 0 0 (λh9'=>⟨(by
       cases hx:(aC p (i:Int) (leafK b').text).2.2 with
       |false=>rfl
       |true=>(rw[if_pos ⟨h9',hx⟩]at hlo;cases hlo)),λh=>(by cases h)⟩)
      rw[hmm]at step;exact step m ⟨λ_=>hm,λd3 h=>(by cases h)⟩
     | some v=>
      rw[hmm]at hlo;simp only[Option.map_some]at hlo;split at hlo
      ·rename_i hc;simp only[aad,Prod.mk.injEq]at hlo;obtain⟨m,hm⟩:=ih true v.module v.def_ λ_=>⟨hc.2.symm,λ_=>hlo⟩;rw[hmm]at step;exact step m ⟨λh=>(by cases h),λd3 h=>(by cases h;exact hm)⟩
      ·cases hlo
  ·rw[jf,if_neg h9];have :=EA n u.kind [] 0 (by omega);rw[Nat.zero_add]at this;exact⟨n+2,lv (n+1) _ _ _ _ _ _ _ _ _ _ ⟨λh=>absurd h h9,λ_=>this⟩⟩
def mA(p:YT)(M:Int)(t:Tree):Tree×Int:=if bn p=true∧0<=M∧M<p.length∧gN t.kind=true∧shapeK t=true then jf p (kbulk p+1) [] (lisK t) M (leafK t)else(rY,5)
theorem MK(hb:kbulk p<=10000000)(M:Int)(ht:tbulk t<=10000000):rI p M t (mA p M t).1 (mA p M t).2:=by
 by_cases G:bn p=true∧0<=M∧M<p.length∧gN t.kind=true∧shapeK t=true
 ·have J:tyK t:=⟨G.2.2.2.2,G.2.2.2.1⟩;have hk:5<=t.kind∧t.kind<=9:=by simpa[gN]using G.2.2.2.1
  obtain⟨t1,t2,_⟩:=py t J;obtain⟨b1,b2⟩:=qd t;have hlx:=cO<|leafK t;rw[mA,if_pos G];have O:oB p []:=⟨List.nodup_nil,λx h=>(by cases h)⟩;by_cases Z:(leafK t).kind=9
  ·obtain⟨m,hm⟩:=Oc G.1 hb (kbulk p+1) [] (lisK t) M (leafK t) (aC p M (leafK t).text).2.2 (aC p M (leafK t).text).1 (aC p M (leafK t).text).2.1 [] O (by simp) t1 t2 (by omega) (λk=>by simp[aL]) (λ_=>⟨rfl,λ_=>⟨rfl,rfl⟩⟩);exact qo m _ _ _ _ _ ⟨_,lM p (by omega),λh=>(by rw[G.1]at h;cases h),λ_=>⟨λh=>by omega,λ_=>⟨λh=>by omega,λ_=>⟨λh=>by omega,λ_=>⟨λh=>by omega,λ_=>⟨_,oV t (by omega),λh=>(by rw[G.2.2.2.2]at h;cases h),λ_=>⟨leafK t,_,BH J (by omega),λ_=>⟨_,_,_,LD G.1 G.2.1 G.2.2.1 (by omega) (by omega),_,Cr G.1 (by omega),hm⟩,λh=>absurd Z h⟩⟩⟩⟩⟩⟩⟩
  ·have :=EA (lisK t) (leafK t).kind [] 0 (by omega);rw[Nat.zero_add]at this;rw[jf,if_neg Z];exact qo (lisK t+1) _ _ _ _ _ ⟨_,lM p (by omega),λh=>(by rw[G.1]at h;cases h),λ_=>⟨λh=>by omega,λ_=>⟨λh=>by omega,λ_=>⟨λh=>by omega,λ_=>⟨λh=>by omega,λ_=>⟨_,oV t (by omega),λh=>(by rw[G.2.2.2.2]at h;cases h),λ_=>⟨leafK t,_,BH J (by omega),λh=>absurd h Z,λ_=>this⟩⟩⟩⟩⟩⟩⟩
 ·rw[mA,if_neg G];refine qo 0 _ _ _ _ _ ⟨_,lM p (by omega),λ_=>⟨I,I⟩,λh1=>⟨λ_=>⟨I,I⟩,λh2=>⟨λ_=>⟨I,I⟩,λh3=>⟨λ_=>⟨I,I⟩,λh4=>⟨λ_=>⟨I,I⟩,λh5=>⟨_,oV t (by omega),λ_=>⟨I,I⟩,λh6=>absurd ⟨h1,by omega,by omega,?_,h6⟩ G⟩⟩⟩⟩⟩⟩;simp[gN];omega
def iX(p:YT)(s:Int×Int):Nat->List (Int×Int)->Option (Int×Int)->Bool
 |0,_,_=>false
 |_+1,_,none=>false
 |f+1,seen,some a=>if a=s then true else if a∈seen then false else iX p s f (a::seen) (dK p a)
theorem Lh{k a:Int×Int}(h:dK p k=some a):∃(i d:Nat) (t x:Tree),a=((i:Int),(d:Int))∧p[i]?=some t∧t.kids[d]?=some x:=by
 unfold dK at h;split at h
 ·split at h
  ·cases h
  ·split at h
   ·cases h
   ·split at h
    ·rename_i G;simp only[aad]at h;obtain⟨i,d,t,u,a1,J,O,Z⟩:=MR G.2.2;exact⟨i,d,t,u,by rw[<-h,a1,J],O,Z⟩
    ·cases h
 ·cases h
theorem Lb{p:YT}(hp:bn p=true)(hb:kbulk p<=10000000)(s1 s2:Int):∀(f:Nat) (seen:List<|Int×Int) (k:Int×Int) (b:Bool) (a1 a2:Int) (l:List<|(Int×Int)×Bool),oB p seen->kbulk p+1<=f+seen.length->(s1,s2)∉seen->(∀k,aL k l=if k∈seen then some true else none)->(if b then some (a1,a2)else none)=dK p k->∃m,cd m s1 s2 (eU p) a1 a2 b l (iX p (s1,s2) f seen<|dK p k)
 |0,seen,k,b,a1,a2,l,hs,hf,_,_,_=>by have :=tJ hs;omega
 | f +1,seen,k,b,a1,a2,l,hs,hf,hns,hl,hq=>by
  cases b with
  |false=>
   simp at hq;rw[<-hq,iX];exact⟨1,jF 0 _ _ _ _ _ _ _ _ ⟨λh=>(by cases h),λ_=>rfl⟩⟩
  | true=>
   simp at hq;obtain⟨i,d,t,x,e,g3,g4⟩:=Lh hq.symm;cases e;rw[<-hq,iX];have hlk:=hl ((i:Int),(d:Int));by_cases hm:((i:Int),(d:Int))∈seen
   ·rw[if_pos hm]at hlk;rw[if_neg (λ(e:((i:Int),(d:Int))=(s1,s2))=>hns (by rw[<-e];exact hm)),if_pos hm];exact⟨1,jF 0 _ _ _ _ _ _ _ _ ⟨λ_=>⟨λh=>(by rw[hlk]at h;cases h),λd1 h=>⟨λh'=>(by rw[hlk]at h;cases h;cases h'),λ_=>rfl⟩⟩,λh=>(by cases h)⟩⟩
   ·rw[if_neg hm]at hlk;by_cases hst:((i:Int),(d:Int))=(s1,s2)
    ·rw[if_pos hst];have h1:kp 1 s1 s2 (eU p) i d l true:=sD 0 _ _ _ _ _ _ _ ⟨λ_=>rfl,λh=>absurd (Prod.mk.inj hst) h⟩;exact⟨2,jF 1 _ _ _ _ _ _ _ _ ⟨λ_=>⟨λ_=>h1,λd1 h=>(by rw[hlk]at h;cases h)⟩,λh=>(by cases h)⟩⟩
    ·rw[if_neg hst,if_neg hm];have hst':¬((i:Int)=s1∧(d:Int)=s2):=λh=>hst (by rw[h.1,h.2]);have hs':=rW hs g3 g4 hm;have hl':=Be hl ((i:Int),(d:Int));have hlo:=Cc hp ((i:Int),(d:Int));have ih:=λ(b:Bool) (a1 a2:Int)=>Lb hp hb s1 s2 f (((i:Int),(d:Int))::seen) ((i:Int),(d:Int)) b a1 a2 _ hs' (by simp only[aac];omega) (λh=>by
      rcases List.mem_cons.1 h with h|h
      ·exact hst h.symm
      ·exact hns h) hl'
     have fin:∀m,((aL ((i:Int),(d:Int)) (eU p)=none)->cd m s1 s2 (eU p) 0 0 false (bS ((i:Int),(d:Int)) true l) (iX p (s1,s2) f (((i:Int),(d:Int))::seen)<|dK p ((i:Int),(d:Int))))∧(∀(d2:aA),aL ((i:Int),(d:Int)) (eU p)=some d2->cd m s1 s2 (eU p) d2.module d2.def_ true (bS ((i:Int),(d:Int)) true l) (iX p (s1,s2) f (((i:Int),(d:Int))::seen)<|dK p ((i:Int),(d:Int))))->∃m,cd m s1 s2 (eU p) i d true l (iX p (s1,s2) f (((i:Int),(d:Int))::seen)<|dK p ((i:Int),(d:Int))):=λm hk=>
      ⟨m+2,jF (m+1) _ _ _ _ _ _ _ _ ⟨λ_=>⟨λ_=>sD m _ _ _ _ _ _ _ ⟨λh=>absurd h hst',λ_=>hk⟩,λd1 h=>(by rw[hlk]at h;cases h)⟩,λh=>(by cases h)⟩⟩
     cases hmm:aL ((i:Int),(d:Int)) (eU p)with
     |none=>
      rw[hmm]at hlo fin;obtain⟨m,hm⟩:=ih false 0 0 (by rw[<-hlo];rfl);exact fin m ⟨λ_=>hm,λd3 h=>(by cases h)⟩
     |some v=>
      rw[hmm]at hlo fin;obtain⟨m,hm⟩:=ih true v.module v.def_ (by rw[<-hlo];rfl);exact fin m ⟨λh=>(by cases h),λd3 h=>(by cases h;exact hm)⟩
def oK(p:YT)(M D:Int):Bool:=if bn p=true∧0<=M∧0<=D then iX p (M,D) (kbulk p+1) [] (dK p (M,D))else false
theorem Gi(hb:kbulk p<=10000000)(M D:Int):lz p M D (oK p M D):=by
 have nn:(∀t x,0<=M->0<=D->p[M.toNat]?=some t->t.kids[D.toNat]?=some x->False)->oK p M D=false:=λh=>by
  unfold oK;split
  ·rename_i hc;have :dK p (M,D)=none:=by
    unfold dK;rw[if_pos ⟨hc.2.1,hc.2.2⟩];split
    ·rfl
    ·rename_i t ht;split
     ·rfl
     ·rename_i x hx;exact(h t x hc.2.1 hc.2.2 ht hx).elim
   rw[this,iX]
  ·rfl
 have hlen:=λ(t:Tree) (ht:p[M.toNat]?=some t)=>(List.getElem?_eq_some_iff.1 ht).1;by_cases hp:bn p=true
 ·by_cases h0:M<0
  ·rw[nn λ_ _ h _ _ _=>by omega];exact rS_types_Circular 0 _ _ _ _ ⟨_,lM p (by omega),λ_=>I,λ_=>⟨λ_=>I,λh=>absurd h0 h⟩⟩
  by_cases h1:((p.length:Nat):Int)<=M
  ·rw[nn λt _ _ _ ht _=>by have :=hlen t ht;omega];exact rS_types_Circular 0 _ _ _ _ ⟨_,lM p (by omega),λ_=>I,λ_=>⟨λ_=>I,λ_=>⟨λ_=>I,λh=>absurd h1 h⟩⟩⟩
  by_cases h2:D<0
  ·rw[nn λ_ _ _ h _ _=>by omega];exact rS_types_Circular 0 _ _ _ _ ⟨_,lM p (by omega),λ_=>I,λ_=>⟨λ_=>I,λ_=>⟨λ_=>I,λ_=>⟨λ_=>I,λh=>absurd h2 h⟩⟩⟩⟩
  obtain⟨t,ht,_⟩|h':=aV p M.toNat
  ·by_cases h3:((t.kids.length:Nat):Int)<=D
   ·rw[nn λt' x _ _ ht' hx=>by
     rw[ht]at ht';cases ht';have :=(List.getElem?_eq_some_iff.1 hx).1;omega]
    exact rS_types_Circular 0 _ _ _ _ ⟨_,lM p (by omega),λ_=>I,λ_=>⟨λ_=>I,λ_=>⟨λ_=>I,λ_=>⟨λ_=>I,λ_=>⟨M.toNat,by omega,t,ht,λ_=>I,λh=>absurd h3 h⟩⟩⟩⟩⟩
   ·rw[oK,if_pos ⟨hp,by omega,by omega⟩];have hlo:=Cc hp (M,D);have hc:=λ(b:Bool) (a1 a2:Int)=>Lb hp hb M D (kbulk p+1) [] (M,D) b a1 a2 [] ⟨List.nodup_nil,λx h=>(by cases h)⟩ (by simp) (by simp) (λk=>by simp[aL]);have fin:∀m,((aL (M,D) (eU p)=none)->cd m M D (eU p) 0 0 false [] (iX p (M,D) (kbulk p+1) []<|dK p (M,D)))∧(∀(d2:aA),aL (M,D) (eU p)=some d2->cd m M D (eU p) d2.module d2.def_ true [] (iX p (M,D) (kbulk p+1) []<|dK p (M,D)))->lz p M D (iX p (M,D) (kbulk p+1) []<|dK p (M,D)):=λm hk=>
     rS_types_Circular m _ _ _ _ ⟨_,lM p (by omega),λh=>(by rw[hp]at h;cases h),λ_=>⟨λh=>absurd h h0,λ_=>⟨λh=>absurd h h1,λ_=>⟨λh=>absurd h h2,λ_=>⟨M.toNat,by omega,t,ht,λh=>absurd h h3,λ_=>⟨_,Cr hp (by omega),hk⟩⟩⟩⟩⟩⟩
    cases hmm:aL (M,D) (eU p)with
    |none=>
     rw[hmm]at hlo fin;obtain⟨m,hm⟩:=hc false 0 0 (by rw[<-hlo];rfl);exact fin m ⟨λ_=>hm,λd3 h=>(by cases h)⟩
    |some v=>
     rw[hmm]at hlo fin;obtain⟨m,hm⟩:=hc true v.module v.def_ (by rw[<-hlo];rfl);exact fin m ⟨λh=>(by cases h),λd3 h=>(by cases h;exact hm)⟩
  ·omega
 ·have hp':bn p=false:=by simpa using hp
  rw[oK,if_neg λh=>hp h.1];exact rS_types_Circular 0 _ _ _ _ ⟨_,lM p (by omega),λ_=>I,λh=>absurd h hp⟩
def Il(B:Nat)(x:Tree×Int):Prop:=∃(n:Nat) (k:Int),x.1=en n (.node k [] [] [])∧k≠8∧k≠9∧(x.2=0->5<=k∧k<=7)∧n<=B
variable{B:Nat}
theorem JZ{e:Int}(G:e≠0):Il B (rY,e):=⟨0,0,rfl,by decide,by decide,λh=>absurd h G,aar _⟩
theorem CA{p:YT}(hp:bn p=true){B:Nat}:∀(f:Nat) (seen:List<|Int×Int) (n:Nat) (M:Int) (u:Tree),oB p seen->kbulk p+1<=f+seen.length->tyK u->u.kind≠8->n<=B+iq (sR p) seen->Il (B+kbulk p) (jf p f seen n M u)
 |0,seen,n,M,u,hs,hf,_,_,_=>by have :=tJ hs;omega
 | f +1,seen,n,M,u,hs,hf,hu,h8,hn=>by
  have hss:=zW hs;by_cases h9:u.kind=9
  ·rw[jf,if_pos h9];by_cases hfd:(aC p M u.text).2.2=false
   ·rw[if_pos hfd];exact JZ (by decide)
   ·rw[if_neg hfd];have hfd':(aC p M u.text).2.2=true:=by simpa using hfd
    obtain⟨i,d,t,a,b',g1,g2,g3,g4,g5,g6,g7⟩:=xT hp h9 hu.1 hfd';rw[g1,g2];by_cases hm:((i:Int),(d:Int))∈seen
    ·rw[if_pos hm];exact JZ (by decide)
    ·rw[if_neg hm];have hal:=tx g3 g4 g6;rw[hal];obtain⟨t1,t2,_⟩:=py b' g7;exact CA hp f (((i:Int),(d:Int))::seen) (n+lisK b') i (leafK b') (rW hs g3 g4 hm) (by simp only[aac];omega) t1 t2 (by simp only[iq,sR,hal];omega)
  ·rw[jf,if_neg h9];have :=hu.2;have hk:5<=u.kind∧u.kind<=9:=by simpa[gN]using hu.2
   exact⟨n,u.kind,I,h8,h9,λ_=>by omega,by omega⟩
theorem DV(p:YT)(M:Int)(t:Tree):Il (tbulk t+kbulk p) (mA p M t):=by
 unfold mA;split
 ·rename_i G;obtain⟨J,O,_⟩:=py t ⟨G.2.2.2.2,G.2.2.2.1⟩;obtain⟨Z,b2⟩:=qd t;exact CA G.1 _ _ _ _ _ ⟨List.nodup_nil,λx h=>by cases h⟩ (by simp) J O (by simp only[iq];omega)
 ·exact JZ (by decide)
def noG:al:=⟨[],⟨0,0⟩⟩
variable{u:Tree}
theorem wl{l:YT}(h:l[i]?=some u):kbulk (l.drop i)=tbulk u+kbulk (l.drop<|i+1):=by rw[aX h,kbulk]
theorem yR{l:YT}(h:l[i]?=some u):uNs (l.drop i)=uN u+uNs (l.drop<|i+1):=by rw[aX h,uNs]
mutual
theorem tgs_uN(p:YT)(m:Int):∀(t:Tree) (q:YI),(ca p m<|nodK t q).length=uN t
 | .node k w ls ks,q=>by
  simp only[nodK,ca,aab,uN,tgs_uNs p m ks q 0,cH,Tree.kind];by_cases h:k=16∨k=9
  ·have h':(k==16||k==9)=true:=by simpa using h
   simp only[h',if_pos h,if_true,aac,aae,Nat.zero_add]
  ·have h':(k==16||k==9)=false:=by simpa using h
   simp only[h',if_neg h,aaA,if_false,aae]
theorem tgs_uNs(p:YT)(m:Int):∀(l:YT) (q:YI) (i:Nat),(ca p m<|nodKs l q i).length=uNs l
 |[],q,i=>by simp[nodKs,ca,uNs]
 |t::r,q,i=>by simp only[nodKs,rQ,aab,uNs,tgs_uN p m t,tgs_uNs p m r]
end
theorem EH(p:YT):∀(l:YT) (i:Nat),(gH p i l).length=uNs l
 |[],i=>rfl
 |t::r,i=>by simp only[gH,aab,uNs,tgs_uN,EH p r]
theorem OZ(ht:tyK t)(hb:tbulk t<=1000000000):kD t (leafK t) (lisK t:Nat):=by
 have loop:∀t,tyK t->∀i,i+tbulk t<=2000000000->jG (lisK t+1) t i (leafK t) ((i+lisK t:Nat):Int):=da λt ih h i hi=>by
  rcases jk h with⟨G,_,u,hu,J⟩|⟨G,hk,_⟩
  ·obtain⟨O,Z⟩:=jo G hu;have h0:t.kids[0]?=some u:=by rw[hu];rfl
   have :=aF h0;rw[O,Z];refine lB (lisK u+1) _ _ _ _ (⟨λ_=>⟨u,h0,by omega,?_⟩,λh=>absurd G h⟩);rw[show i+(lisK u+1)=i+1+lisK u by omega];exact ih 0 u h0 J (i+1) (by omega)
  ·obtain⟨O,Z⟩:=ky G;rw[O,Z];exact lB 0 _ _ _ _<|⟨λh=>absurd h G,λ_=>⟨I,I⟩⟩
 have :=loop t ht 0 (by omega);rw[Nat.zero_add]at this;exact uz (lisK t+1) _ _ _<|this
theorem yS(n:Nat)(t:Tree):(en (n+1) t).kind=8∧(en (n+1) t).kids=[en n t]:=⟨rfl,rfl⟩
theorem Bg{k:Int}(G:k≠8):∀n,leafK (en n<|.node k [] [] [])=.node k [] [] []∧lisK (en n<|.node k [] [] [])=n
 |0=>ky G
 |n+1=>by
  obtain⟨J,O⟩:=jo (yS n<|.node k [] [] []).1 (yS n<|.node k [] [] []).2;obtain⟨Z,g2⟩:=Bg G n;rw[J,O,Z,g2];exact⟨rfl,rfl⟩
theorem NB{k:Int}(G:k≠8)(n:Nat)(J:n<=1000000000):kD (en n<|.node k [] [] []) (.node k [] [] []) (n:Nat):=by
 have loop:∀j i,i+j<=1000000000->jG (j+1) (en j<|.node k [] [] []) i (.node k [] [] []) ((i+j:Nat):Int):=λj=>by
  induction j with
  |zero=>intro i hi;exact lB 0 _ _ _ _<|⟨λh=>absurd h G,λ_=>⟨rfl,rfl⟩⟩
  |succ j ih=>
   intro i hi;refine lB (j+1) _ _ _ _ (⟨λ_=>⟨en j<|.node k [] [] [],I,by omega,?_⟩,λh=>absurd (yS j<|.node k [] [] []).1 h⟩);rw[show i+(j+1)=i+1+j by omega];exact ih (i+1) (by omega)
 have :=loop n 0 (by omega);rw[Nat.zero_add]at this;exact uz (n+1) _ _ _<|this
def knK(t:Tree):Kn:=⟨(leafK t).kind,(lisK t:Nat)⟩
def nmK(p:YT)(m:Int)(w:YB):Kn:=if(mA p m<|.node 9 w [] []).2=0 then knK (mA p m<|.node 9 w [] []).1 else⟨0,0⟩
def tyN(p:YT)(m:Int)(t:Tree):Kn:=if(leafK t).kind=9 then(if(nmK p m (leafK t).text).simple=0 then nmK p m (leafK t).text else⟨(nmK p m (leafK t).text).simple,(nmK p m (leafK t).text).lists+(lisK t:Nat)⟩)else knK t
variable{m:Int}
theorem Nf(O:tyK u)(J:u.kind=9):mA p m u=mA p m (.node 9 u.text [] []):=by
 obtain⟨k,w,ls,ks⟩:=u;simp only[Tree.kind]at J;subst J;have G:ks=[]:=by
  rcases jk O with⟨Z,_⟩|⟨_,G,_⟩
  ·simp[Tree.kind]at Z
  ·exact G
 subst G;unfold mA;have e1:leafK (.node 9 w ls [])=.node 9 w ls []:=(ky<|by simp[Tree.kind]).1;have e2:leafK (.node 9 w [] [])=.node 9 w [] []:=(ky<|by simp[Tree.kind]).1;have e3:lisK (.node 9 w ls [])=0:=(ky<|by simp[Tree.kind]).2;have e4:lisK (.node 9 w [] [])=0:=(ky<|by simp[Tree.kind]).2;simp only[Tree.text,e1,e2,e3,e4,Tree.kind,shapeK,jf]
theorem GK(p:YT)(m:Int)(w:YB):0<=(nmK p m w).lists∧(nmK p m w).lists<=((w.length+1+kbulk p:Nat):Int)∧((mA p m<|.node 9 w [] []).2=0->∃(n:Nat) (k:Int),(mA p m<|.node 9 w [] []).1=en n (.node k [] [] [])∧5<=k∧k<=7∧nmK p m w=⟨k,(n:Int)⟩∧n<=w.length+1+kbulk p):=by
 obtain⟨n,k,h1,h2,h3,J,O⟩:=DV p m<|.node 9 w [] [];have hb:tbulk (.node 9 w [] [])=w.length+1:=by simp[tbulk,kbulk,ep]
 rw[hb]at O;unfold nmK;by_cases G:(mA p m<|.node 9 w [] []).2=0
 ·obtain⟨Z,g2⟩:=Bg h2 n;rw[if_pos G,h1];have e:knK (en n<|.node k [] [] [])=⟨k,(n:Int)⟩:=by unfold knK;rw[Z,g2];rfl
  rw[e];exact⟨by simp,by simp only;omega,λ_=>⟨n,k,rfl,(J G).1,(J G).2,rfl,by omega⟩⟩
 ·rw[if_neg G];exact⟨Int.le_refl _,by simp only;omega,λh=>absurd h G⟩
def oX(p:YT)(nm:List<|(Int×YB)×ah):Prop:=∀m w k,aL (m,w) nm=some k->k=nmK p m w
theorem oX.put{nm:List<|(Int×YB)×ah}(h:oX p nm)(m:Int)(w:YB):oX p (bS (m,w) (nmK p m w) nm):=λJ w' k G=>by
 rw[iy]at G;split at G
 ·rename_i e;simp only[Prod.mk.injEq]at e;obtain⟨rfl,rfl⟩:=e;injection G with G;exact G.symm
 ·exact h J w' k G
theorem Ft{c:CKr}(hc:c.p=p)(hb:kbulk p<=10000000)(hn:oX p c.names)(m:Int)(ht:tyK t)(hbt:tbulk t<=10000000):∃nm,oX p nm∧fI c m t (tyN p m t) {c with names:=nm}:=by
 obtain⟨l1,l2,_⟩:=py t ht;obtain⟨b1,b2⟩:=qd t;have hs:=OZ ht (by omega);by_cases h9:(leafK t).kind=9
 ·obtain⟨f1,f2,f3⟩:=GK p m (leafK t).text;have hw:=cO<|leafK t;have hx:=Nf (p:=p) (m:=m) l1 h9;cases hl:aL (m,(leafK t).text) c.names with
  |some k=>
   have hk:=hn _ _ _ hl;subst hk;refine⟨c.names,hn,iH 1 _ _ _ _ _<|⟨_,_,hs,λh=>absurd h9 h,λ_=>⟨λh=>(by rw[hl]at h;cases h),λd h=>?_⟩⟩⟩;rw[hl]at h;injection h with h;subst h
   refine mw 0 _ _ _ _ _ _ _ _ _ (⟨λh=>(by cases h),λ_=>⟨λhz=>⟨⟨by omega,by omega⟩,?_,rfl⟩,λhz=>⟨?_,rfl⟩⟩⟩)
   ·unfold tyN;rw[if_pos h9,if_neg hz]
   ·unfold tyN;rw[if_pos h9,if_pos hz]
  | none=>
   have he:=MK hb m (t:=leafK t) (by omega);rw[hx]at he;refine⟨bS (m,(leafK t).text) (nmK p m (leafK t).text) c.names,hn.put m _,iH 2 _ _ _ _ _<|⟨_,_,hs,λh=>absurd h9 h,λ_=>⟨λ_=>?_,λd h=>(by rw[hl]at h;cases h)⟩⟩⟩;refine mw 1 _ _ _ _ _ _ _ _ _ (⟨λ_=>⟨_,_,by rw[hc];exact he,?_⟩,λh=>(by cases h)⟩);refine tf 0 _ _ _ _ _ _ _ _ _ _<|⟨λh0=>?_,λh0=>⟨λh=>absurd I h,λ_=>?_⟩⟩
   ·obtain⟨n,k,g1,g2,g3,g4,g5⟩:=f3 h0;rw[g1];refine⟨_,_,NB (by omega) n (by omega),λhz=>⟨⟨by omega,by omega⟩,?_,?_⟩,λhz=>absurd hz (by simp only[Tree.kind];omega)⟩
    ·unfold tyN;rw[if_pos h9,g4,if_neg (by simp only;omega)];rfl
    ·rw[g4];rfl
   ·have e:nmK p m (leafK t).text=⟨0,0⟩:=by unfold nmK;rw[if_neg h0]
    rw[e];refine⟨?_,I⟩;unfold tyN;rw[if_pos h9,e,if_pos rfl]
 ·exact⟨c.names,hn,iH 0 _ _ _ _ _<|⟨_,_,hs,λ_=>⟨by unfold tyN;rw[if_neg h9];rfl,I⟩,λh=>absurd h h9⟩⟩
def cF(p:YT)(m:Int)(f:Tree):al:=⟨(f.kids.take<|f.kids.length-2).map λk=>tyN p m<|aM k 0,tyN p m<|aM f<|f.kids.length-2⟩
variable{f:Tree}
theorem Rw{c:CKr}(hc:c.p=p)(hb:kbulk p<=10000000)(hn:oX p c.names)(m:Int)(hs:shapeK f=true)(h2:f.kind=2)(hbf:tbulk f<=10000000):∃nm,oX p nm∧kC c m f (cF p m f) {c with names:=nm}:=by
 obtain⟨s1,s2,s3,_⟩:=mE hs h2;have hkl:=bw f;obtain⟨n,hnn⟩:∃n,n+2=f.kids.length:=⟨f.kids.length-2,by omega⟩;have hlt:(f.kids.take n).length=n:=by rw[aak];omega
 obtain⟨r,hr⟩:∃r,f.kids[n]?=some r:=⟨_,List.getElem?_eq_getElem<|by omega⟩;have hrt:=s3 r (by rw[show f.kids.length-2=n by omega];exact hr);have hkr:aM f (f.kids.length-2)=r:=by rw[show f.kids.length-2=n by omega];exact ce hr
 have hbr:=aF hr;have loop:∀(k i:Nat) (c:CKr),c.p=p->oX p c.names->k+i=n->∃nm,oX p nm∧gk (k+1) m f n c ((f.kids.take i).map λk=>tyN p m<|aM k 0) i ⟨(f.kids.take n).map λk=>tyN p m<|aM k 0,tyN p m r⟩ {c with names:=nm}:=λk=>by
  induction k with
  |zero=>
   intro i c hc hn hi;have e:i=n:=by omega
   subst e;obtain⟨nm,g1,g2⟩:=Ft hc hb hn m hrt (by omega);exact⟨nm,g1,ny 0 _ _ _ _ _ _ _ _<|⟨λh=>absurd h (by rw[hlt];omega),λ_=>⟨i,by omega,r,hr,_,_,g2,I,I⟩⟩⟩
  | succ k ih=>
   intro i c hc hn hi;obtain⟨u,hu⟩:∃u,f.kids[i]?=some u:=⟨_,List.getElem?_eq_getElem (by omega)⟩;obtain⟨v,hv4,hv,hvt⟩:=s2 i u hu (by omega);have hv0:u.kids[0]?=some v:=by rw[hv];rfl
   have hb1:=aF hu;have hb2:=aF hv0;obtain⟨nm,g1,g2⟩:=Ft hc hb hn m hvt (by omega);obtain⟨nm',g3,g4⟩:=ih (i+1) {c with names:=nm} hc g1 (by omega);have e:((f.kids.take i).map λk=>tyN p m<|aM k 0)++[tyN p m v]=(f.kids.take<|i+1).map λk=>tyN p m (aM k 0):=by rw[List.take_add_one,hu,aaw];simp[ce hv0]
   exact⟨nm',g3,ny (k+1) _ _ _ _ _ _ _ _<|⟨λ_=>⟨u,by rw[List.getElem?_take,if_pos<|by omega];exact hu,v,hv0,_,_,g2,by rw[e];simp;omega,by omega,by rw[e];exact g4⟩,λh=>absurd (by rw[hlt];omega) h⟩⟩
 obtain⟨nm,g1,g2⟩:=loop n 0 c hc hn (by omega);refine⟨nm,g1,vr (n+1) _ _ _ _ _<|⟨n,by omega,by omega,?_⟩⟩;unfold cF;rw[hkr,show f.kids.length-2=n by omega];simpa using g2
def sgD(p:YT)(m:Int):YT->Nat->List ((Int×Int)×al)->List ((Int×Int)×al)
 |[],_,l=>l
 |f::r,d,l=>sgD p m r (d+1)<|if f.kind=2 then bS (m,(d:Int)) (cF p m f) l else l
def sgM(p:YT):YT->Nat->List ((Int×Int)×al)->List ((Int×Int)×al)
 |[],_,l=>l
 |t::r,m,l=>sgM p r (m+1)<|sgD p (m:Int) t.kids 0 l
theorem EQ{p:YT}{t:Tree}{m:Nat}(hm:m<=1000000000)(hb:kbulk p<=10000000)(hok:∀(d:Nat) (f:Tree),t.kids[d]?=some f->shapeK f=true)(hbt:tbulk t<=10000000):∀(k d:Nat) (c:CKr),c.p=p->oX p c.names->k+d=t.kids.length->∃nm,oX p nm∧∀M r,fq M p (m+1) {c with names:=nm,signatures:=sgD p (m:Int) (t.kids.drop d) d c.signatures} r->∃M',ft M' p t d c m m r
 |0,d,c,hc,hn,hk=>by
  have hd:t.kids.drop d=[]:=List.drop_of_length_le (by omega);rw[hd];exact⟨c.names,hn,λM r h=>⟨M+1,lc M _ _ _ _ _ _ _<|⟨λh=>absurd h (by omega),λ_=>⟨by omega,h⟩⟩⟩⟩
 | k+1,d,c,hc,hn,hk=>by
  have hlt:d<t.kids.length:=by omega
  have hkl:=bw t;obtain⟨f,hf⟩:∃f,t.kids[d]?=some f:=⟨_,lh hlt⟩;have hbf:=aF hf;rw[aX hf,sgD];by_cases h2:f.kind=2
  ·obtain⟨nm,g1,g2⟩:=Rw hc hb hn (m:Int) (hok d f hf) h2 (by omega);obtain⟨nm',g3,g4⟩:=EQ (m:=m) hm hb hok hbt k (d+1) {c with names:=nm,signatures:=bS ((m:Int),(d:Int)) (cF p m f) c.signatures} hc g1 (by omega);rw[if_pos h2];refine⟨nm',g3,λM r h=>?_⟩;obtain⟨M',hM⟩:=g4 M r h;exact⟨M'+2,lc (M'+1) _ _ _ _ _ _ _<|⟨λ_=>⟨f,hf,λ_=>⟨_,_,g2,wc M' _ _ _ _ _ _ _<|⟨by omega,hM⟩⟩,λh=>absurd h2 h⟩,λh=>absurd hlt h⟩⟩
  ·obtain⟨nm',g3,g4⟩:=EQ (m:=m) hm hb hok hbt k (d+1) c hc hn (by omega);rw[if_neg h2];refine⟨nm',g3,λM r h=>?_⟩;obtain⟨M',hM⟩:=g4 M r h;exact⟨M'+1,lc M' _ _ _ _ _ _ _<|⟨λ_=>⟨f,hf,λh=>absurd h h2,λ_=>⟨by omega,hM⟩⟩,λh=>absurd hlt h⟩⟩
theorem KE{p:YT}(G:∀(m:Nat) (t:Tree) (d:Nat) (f:Tree),p[m]?=some t->t.kids[d]?=some f->shapeK f=true)(hb:kbulk p<=10000000):∀(k m:Nat) (c:CKr),c.p=p->oX p c.names->k+m=p.length->∃nm,oX p nm∧∃M,fq M p m c {c with names:=nm,signatures:=sgM p (p.drop m) m c.signatures}
 |0,m,c,O,Z,hk=>by
  have hd:p.drop m=[]:=List.drop_of_length_le (by omega);rw[hd];exact⟨c.names,Z,1,po 0 _ _ _ _<|⟨λh=>absurd h (by omega),λ_=>I⟩⟩
 |k+1,m,c,O,Z,hk=>by
  have J:m<p.length:=by omega
  obtain⟨t,ht⟩:∃t,p[m]?=some t:=⟨_,List.getElem?_eq_getElem J⟩;have hbt:=bR ht;have hl:=fD p;rw[aX ht,sgM];obtain⟨nm,g1,g2⟩:=EQ (p:=p) (t:=t) (m:=m) (by omega) hb (λd f hf=>G m t d f ht hf) (by omega) t.kids.length 0 c O Z (by omega);obtain⟨nm',g3,M,g4⟩:=KE G hb k (m+1) {c with names:=nm,signatures:=sgD p (m:Int) t.kids 0 c.signatures} O g1 (by omega);obtain⟨M',hM⟩:=g2 M _ (by simpa using g4);exact⟨nm',g3,M'+1,po M' _ _ _ _<|⟨λ_=>⟨t,ht,hM⟩,λh=>absurd J h⟩⟩
theorem uC(J:bn p=true):∀(m:Nat) (t:Tree) (d:Nat) (f:Tree),p[m]?=some t->t.kids[d]?=some f->shapeK f=true:=λm t d f h1 h2=>by have G:=(dk J h1).2;rw[aY,aaa]at G;exact(cf G.2 h2).2
def cxN(p:YT)(nm:List<|(Int×YB)×ah)(wm:Int)(wp:YI):Cx:=⟨p,nm,sgM p p 0 [],0,[],wm,wp⟩
theorem FD(G:bn p=true)(hb:kbulk p<=10000000):∃nm,oX p nm∧lW p (mkC (cxN p nm 0 []) ⟨bC p,[],0,0⟩):=by
 obtain⟨nm,h1,M,h2⟩:=KE (uC G) hb p.length 0 (CKr.mk p (bC p) [] [] 0 [] [] 0 [] 0 0) rfl (λm w k h=>by cases h) (by omega);exact⟨nm,h1,xg M _ _<|⟨_,yq p (by omega),h2⟩⟩
theorem wI(p:YT)(m:Nat)(key:Int×Int):∀(ks:YT) (d:Nat) (l:List<|(Int×Int)×al),aL key (sgD p (m:Int) ks d l)=(if key.1=(m:Int)∧(d:Int)<=key.2∧key.2<((d+ks.length:Nat):Int)then(match ks[(key.2-(d:Int)).toNat]? with|some f=>if f.kind=2 then some (cF p m f)else aL key l|none=>aL key l)else aL key l)
 |[],d,l=>by rw[sgD,if_neg];rintro⟨_,h1,h2⟩;simp only[aae]at h2;omega
 | f ::r,d,l=>by
  obtain⟨k1,k2⟩:=key;rw[sgD,wI p m (k1,k2) r (d+1) _];by_cases h1:k1=(m:Int)
  ·by_cases h2:k2=(d:Int)
   ·subst h1 h2;obtain⟨l',hl'⟩:∃l',l'=(if f.kind=2 then bS ((m:Int),(d:Int)) (cF p m f) l else l):=⟨_,rfl⟩;rw[<-hl',if_neg (by simp only;omega)];have hc:((m:Int)=(m:Int)∧(d:Int)<=(d:Int)∧(d:Int)<((d+(f::r).length:Nat):Int)):=⟨rfl,Int.le_refl _,by simp;omega⟩;have hg:(f::r)[((d:Int)-(d:Int)).toNat]?=some f:=by simp
    by_cases hf:f.kind=2
    ·rw[if_pos hf]at hl';simp only[hg,if_pos hf];rw[if_pos ⟨trivial,hc.2⟩,hl',iy,if_pos rfl]
    ·rw[if_neg hf]at hl';simp only[hg,if_neg hf];rw[if_pos ⟨trivial,hc.2⟩,hl']
   ·have hne:aL (k1,k2) (if f.kind=2 then bS ((m:Int),(d:Int)) (cF p m f) l else l)=aL (k1,k2) l:=by
     split
     ·rw[iy,if_neg λe=>h2<|by simpa using(Prod.mk.inj e).2]
     ·rfl
    rw[hne];by_cases h3:(d:Int)<k2∧k2<((d+1+r.length:Nat):Int)
    ·rw[if_pos ⟨h1,by simp only;omega,h3.2⟩,if_pos ⟨h1,by simp only;omega,by simp;omega⟩];simp only;rw[show(k2-(d:Int)).toNat=(k2-((d+1:Nat):Int)).toNat+1 by omega,List.getElem?_cons_succ]
    ·rw[if_neg (λh=>h3 ⟨by have :=h.2.1;simp only at this;omega,h.2.2⟩),if_neg λh=>h3 ⟨by have :=h.2.1;simp only at this;omega,by have :=h.2.2;simp at this;omega⟩]
  ·have hne:aL (k1,k2) (if f.kind=2 then bS ((m:Int),(d:Int)) (cF p m f) l else l)=aL (k1,k2) l:=by
    split
    ·rw[iy,if_neg λe=>h1<|by simpa using(Prod.mk.inj e).1]
    ·rfl
   rw[hne,if_neg λh=>h1 h.1,if_neg λh=>h1 h.1]
theorem Es{P:YT}(key:Int×Int):∀(p:YT) (m:Nat) (l:List<|(Int×Int)×al) (q:al),aL key (sgM P p m l)=some q->(∃(i:Nat) (t:Tree) (d:Nat) (f:Tree),p[i]?=some t∧t.kids[d]?=some f∧f.kind=2∧key=(((m+i:Nat):Int),(d:Int))∧q=cF P ((m+i:Nat):Int) f)∨aL key l=some q
 |[],m,l,q,h=>.inr h
 | t ::r,m,l,q,h=>by
  rw[sgM]at h;rcases Es key r (m+1) _ q h with⟨i,t',d,f,h1,h2,h0,h3,h4⟩|h
  ·exact .inl ⟨i+1,t',d,f,h1,h2,h0,by rw[h3,show m+1+i=m+(i+1) by omega],by rw[h4,show m+1+i=m+(i+1) by omega]⟩
  ·rw [wI]at h;split at h
   ·rename_i hc;split at h
    ·rename_i f hf;split at h
     ·rename_i h0;injection h with h;subst h
      obtain⟨k1,k2⟩:=key;simp only at hc hf;exact .inl ⟨0,t,(k2-((0:Nat):Int)).toNat,f,rfl,hf,h0,by simp only[Prod.mk.injEq];omega,rfl⟩
     ·exact .inr h
    ·exact .inr h
   ·exact .inr h
theorem DY{P:YT}{key:Int×Int}:∀(r:YT) (m:Nat) (l:List<|(Int×Int)×al),key.1<(m:Int)->aL key (sgM P r m l)=aL key l
 |[],_,_,_=>rfl
 |t::r,m,l,h=>by rw[sgM,DY r (m+1) _ (by omega),wI,if_neg (λh'=>by have :=h'.1;omega)]
theorem zq{P:YT}{key:Int×Int}:∀(p:YT) (m i d:Nat) (l:List<|(Int×Int)×al) (t f:Tree),p[i]?=some t->t.kids[d]?=some f->f.kind=2->key=(((m+i:Nat):Int),(d:Int))->aL key (sgM P p m l)=some (cF P ((m+i:Nat):Int) f)
 |[],m,i,d,l,t,f,h,_,_,_=>by simp at h
 |O::r,m,0,d,l,t,f,h1,h2,J,G=>by simp only[List.getElem?_cons_zero,aad]at h1;subst h1;have Z:=(List.getElem?_eq_some_iff.1 h2).1;rw[sgM,DY r (m+1) _ (by rw[G];simp only;omega),wI,if_pos (by rw[G];simp only;omega),G];simp only;rw[show((d:Int)-((0:Nat):Int)).toNat=d by omega,h2];simp only[J,if_true];rfl
 |O::r,m,i+1,d,l,t,f,h1,h2,J,G=>by rw[sgM];have :=zq (P:=P) (key:=key) r (m+1) i d (sgD P (m:Int) O.kids 0 l) t f (by simpa using h1) h2 J (by rw[G,show m+1+i=m+(i+1) by omega]);rw[this,show m+1+i=m+(i+1) by omega]
theorem NN(hb:tbulk t<=B):KOk (2*B+kbulk p+2) (tyN p m t):=by
 obtain⟨J,O⟩:=qd t;have Z:=cO<|leafK t;obtain⟨G,f2,_⟩:=GK p m (leafK t).text;unfold tyN;split
 ·split
  ·exact⟨G,by omega⟩
  ·exact⟨by simp only;omega,by simp only;omega⟩
 ·exact⟨by simp[knK],by simp only[knK];omega⟩
theorem yy(t:Tree)(i:Nat):tbulk (aM t i)<=tbulk t:=by
 by_cases h:i<t.kids.length
 ·have :=aF<|lh h;omega
 ·have G:aM t i=.node 0 [] [] []:=by simp only[aM,List.getD_eq_getElem?_getD,List.getElem?_eq_none<|Nat.le_of_not_lt h];rfl
  have h1:=bw t;rw[G];simp[tbulk,kbulk,ep];omega
theorem KY(hb:tbulk f<=B):KOk (2*B+kbulk p+2) (cF p m f).result∧∀q∈(cF p m f).params,KOk (2*B+kbulk p+2) q:=by
 refine⟨NN<|aao (yy f _) hb,λq J=>?_⟩;obtain⟨k,O,rfl⟩:=List.mem_map.1 J;have G:=List.mem_of_mem_take O;obtain⟨i,hi⟩:=List.getElem?_of_mem G;have :=aF hi;exact NN (by have :=yy k 0;omega)
def Cx.md(x:Cx)(m:Int):Cx:={x with mo:=m}
def JA(x:Cx)(d:Nat)(f:Tree)(s:Sv):Sv:=eC (tbulk f) (x.go ((0:Nat):Int)) (aM f 0)<|if oK x.p x.mo (d:Int)=true then faP x 5 [] s else s
def oZ(x:Cx)(d:Nat)(f:Tree)(s:Sv):Sv:=if f.kind=2 then vj (x.go (d:Int)) f ((aL (x.mo,(d:Int)) x.sg).getD noG) s else JA (x.go (d:Int)) d f s
def kq(x:Cx):YT->Nat->Sv->Sv
 |[],_,s=>s
 |f::r,d,s=>kq x r (d+1)<|oZ x d f s
def lw(x:Cx):YT->Nat->Sv->Sv
 |[],_,s=>s
 |t::r,m,s=>lw x r (m+1)<|kq (x.md (m:Int)) t.kids 0 s
def moF(z:Int):YT->Nat->Int
 |[],_=>z
 |_::r,m=>moF (m:Int) r<|m+1
structure DefOk (sg:List ((Int×Int)×al)) (L:Nat) (m d:Nat) (f:Tree):Prop where
 s:shapeK f=true
 k:f.kind=2->∃g,aL ((m:Int),(d:Int)) sg=some g∧f.kids.length=g.params.length+2∧∀q∈g.params,KOk L q
 a:f.kind≠2->∃b,f.kids=[b]∧tyK b
theorem KF{x:Cx}{P0:CKr}{t:Tree}{m L:Nat}(hx:x.mo=m)(hpb:kbulk x.p<=10000000)(hm:m<=1000000000)(hok:∀(d:Nat) (f:Tree),t.kids[d]?=some f->DefOk x.sg L m d f)(h16:∀(d:Nat) (f:Tree),t.kids[d]?=some f->f.kind=2∨f.kind=3)(hsg:∀k q,aL k x.sg=some q->KOk L q.result)(hkl:t.kids.length<=100000000):∀(k d:Nat) (s:Sv),k+d=t.kids.length->x.pa.length+kbulk (t.kids.drop d)+4<=100000000->s.fa.length+4*kbulk (t.kids.drop d)+1<=900000000->uNs (t.kids.drop d)<=s.tg.length->L+kbulk (t.kids.drop d)<=900000000->
  Sst (kbulk<|t.kids.drop d) (uNs<|t.kids.drop d) s (kq x (t.kids.drop d) d s)∧∀(M:Nat) (q:CKr),(∀s1,s1=kq x (t.kids.drop d) d s->eL M P0 (mkC x s1) (m+1) q)->∃M',cp M' P0 t (mkC x s) d m m q
 |0,d,s,hk,_,_,_,_=>by
  have hd:t.kids.drop d=[]:=List.drop_of_length_le (by omega);rw[hd];exact⟨⟨by simp[kq,uNs],by simp[kq]⟩,λM q h=>⟨M+1,jV M _ _ _ _ _ _ _<|⟨λh=>absurd h (by omega),λ_=>⟨by omega,h _ rfl⟩⟩⟩⟩
 | k +1,d,s,hk,h1,h2,h3,h4=>by
  have hlt:d<t.kids.length:=by omega
  obtain⟨f,hf⟩:∃f,t.kids[d]?=some f:=⟨_,lh hlt⟩;obtain⟨o1,o2,o3⟩:=hok d f hf;have e1:=wl hf;have e2:=yR hf;have hxm:∀z,(x.go z).mo=m:=λz=>hx;have eD:kq x (t.kids.drop d) d s=kq x (t.kids.drop<|d+1) (d+1) (oZ x d f s):=by rw[aX hf,kq]
  rw[eD];have key:Sst (tbulk f) (uN f) s (oZ x d f s)∧∀M q,cp M P0 t (mkC x<|oZ x d f s) (d+1) m m q->∃M',cp M' P0 t (mkC x s) d m m q:=by
   by_cases h2':f.kind=2
   ·obtain⟨g,g1,g2,g3⟩:=o2 h2';have eF:oZ x d f s=vj (x.go (d:Int)) f g s:=by unfold oZ;rw[if_pos h2',hx,g1];rfl
    rw[eF];obtain⟨a1,a2⟩:=IN (x:=x.go (d:Int)) (s:=s) (L:=L) (g:=g) o1 h2' g2 (by simp[Cx.go];omega) (by omega) (by omega) (by omega) g3 hsg;refine⟨a2,λM q h=>⟨M+2,jV (M+1) _ _ _ _ _ _ _<|⟨λ_=>⟨f,hf,_,kP (x:=x) (s:=s) (d:Int) (by omega),λ_=>⟨λh=>absurd (h.symm.trans g1) (by simp),λg' hg'=>?_⟩,λh=>absurd h2' h⟩,λh=>absurd hlt h⟩⟩⟩;have hg'':aL ((m:Int),(d:Int)) x.sg=some g':=hg';rw[g1]at hg'';injection hg'' with hg''
    subst hg'';exact⟨_,a1,vk M _ _ _ _ _ _ _<|⟨_,jn (x:=x) (d:Int),by omega,h⟩⟩
   ·obtain⟨b,hb,hty⟩:=o3 h2';have hb0:f.kids[0]?=some b:=by rw[hb];rfl
    have hbb:=aF hb0;have hf3:f.kind≠16∧f.kind≠9:=by rcases h16 d f hf with h|h<;>omega
    have hu:uN f=uN b:=by rw[di,if_neg (by omega),hb];simp[uNs]
    have hc:=Gi hpb (m:Int) (d:Int);obtain⟨sf,hsf⟩:∃sf,sf=(if oK x.p (m:Int) (d:Int)=true then faP (x.go (d:Int)) 5 [] s else s):=⟨_,rfl⟩;have hsl:sf.fa.length<=s.fa.length+1∧sf.tg=s.tg:=by rw[hsf];split<;>simp[faP]
    have eA:oZ x d f s=eC (tbulk f) ((x.go (d:Int)).go ((0:Nat):Int)) b sf:=by unfold oZ JA;rw[if_neg h2',ce hb0,hxm,hsf];rfl
    rw[eA];obtain⟨a1,a2⟩:=Bw (tbulk f) b (by omega) hty f 0 (x.go (d:Int)) sf hb0 (by simp[Cx.go];omega) (by omega) (by rw[hsl.2];omega);refine⟨⟨by rw[a2.tg,hsl.2,hu],by have :=a2.fa;omega⟩,λM q h=>⟨M+1,jV M _ _ _ _ _ _ _<|⟨λ_=>⟨f,hf,_,kP (x:=x) (s:=s) (d:Int) (by omega),λh=>absurd h h2',λ_=>⟨_,hc,λhcc=>?_,λhcc=>?_⟩⟩,λh=>absurd hlt h⟩⟩⟩
    ·rw[if_pos hcc]at hsf;subst hsf;exact⟨_,dX (x:=x.go (d:Int)) (s:=s) 5 [] (by simp[Cx.go];omega) (by omega),_,a1,_,jn (x:=x) (d:Int),by omega,h⟩
    ·rw[if_neg (by rw[hcc];simp)]at hsf;subst hsf;exact⟨_,a1,_,jn (x:=x) (d:Int),by omega,h⟩
  obtain⟨k1,k2⟩:=key;generalize oZ x d f s=s1 at k1 k2;have q1:=k1.fa;have q2:=k1.tg;obtain⟨b1,b2⟩:=KF (P0:=P0) hx hpb hm hok h16 hsg hkl k (d+1) s1 (by omega) (by omega) (by omega) (by rw[q2,aal];omega) (by omega);refine⟨⟨by rw[b1.tg,q2,List.drop_drop,e2],by have :=b1.fa;omega⟩,λM q h=>?_⟩;obtain⟨M',hM⟩:=b2 M q h;exact k2 M' q hM
theorem LF{x:Cx}{P0:CKr}{L:Nat}(hP0:P0.p=x.p)(hpb:kbulk x.p<=10000000)(hok:∀(m:Nat) (t:Tree) (d:Nat) (f:Tree),x.p[m]?=some t->t.kids[d]?=some f->DefOk x.sg L m d f∧(f.kind=2∨f.kind=3))(hsg:∀k q,aL k x.sg=some q->KOk L q.result):∀(k m:Nat) (z:Int) (s:Sv),k+m=x.p.length->x.pa.length+kbulk (x.p.drop m)+4<=100000000->s.fa.length+4*kbulk (x.p.drop m)+1<=900000000->(∀(m:Nat) (t:Tree),x.p[m]?=some t->t.kind=1)->uNs (x.p.drop m)<=s.tg.length->L+kbulk (x.p.drop m)<=900000000->
  Sst (kbulk<|x.p.drop m) (uNs<|x.p.drop m) s (lw x (x.p.drop m) m s)∧∃M,eL M P0 (mkC (x.md z) s) m<|mkC (x.md<|moF z (x.p.drop m) m)<|lw x (x.p.drop m) m s
 |0,m,z,s,hk,_,_,_,_,_=>by
  have hd:x.p.drop m=[]:=List.drop_of_length_le (by omega);rw[hd];exact⟨⟨by simp[lw,uNs],by simp[lw]⟩,1,oy 0 _ _ _ _<|⟨λh=>absurd h (by rw[hP0];omega),λ_=>rfl⟩⟩
 | k+1,m,z,s,hk,h1,h2,hk1,h3,h4=>by
  have hlt:m<x.p.length:=by omega
  obtain⟨t,ht⟩:∃t,x.p[m]?=some t:=⟨_,List.getElem?_eq_getElem hlt⟩;have e1:=wl ht;have e2:=yR ht;have hB:=bm t;have hU:uN t=uNs t.kids:=by rw[di,hk1 m t ht];simp
  have hkl:=bw t;have hbt:=bR ht;have hlp:=fD x.p;obtain⟨a1,a2⟩:=KF (x:=x.md (m:Int)) (P0:=P0) (t:=t) (m:=m) (L:=L) rfl hpb (by omega) (λd f hf=>(hok m t d f ht hf).1) (λd f hf=>(hok m t d f ht hf).2) hsg (by omega) t.kids.length 0 s (by omega) (by simp[Cx.md];omega) (by simp;omega) (by simp;omega) (by simp;omega);simp only[List.drop_zero]at a1 a2;have q1:=a1.fa;have q2:=a1.tg;obtain⟨s1,hs1⟩:∃s1,s1=kq (x.md (m:Int)) t.kids 0 s:=⟨_,rfl⟩;rw[<-hs1]at a1 q1 q2;obtain⟨b1,M,hM⟩:=LF hP0 hpb hok hsg k (m+1) (m:Int) s1 (by omega) (by omega) (by omega) hk1 (by rw[q2,aal];omega) (by omega);have e:lw x (x.p.drop m) m s=lw x (x.p.drop<|m+1) (m+1) s1:=by rw[aX ht,lw,<-hs1]
  have e':moF z (x.p.drop m) m=moF (m:Int) (x.p.drop<|m+1) (m+1):=by rw[aX ht,moF]
  rw[e,e'];obtain⟨M',hM'⟩:=a2 M (mkC (x.md<|moF (m:Int) (x.p.drop<|m+1)<|m+1)<|lw x (x.p.drop<|m+1) (m+1) s1) λs2 hs2=>by rw[<-hs1]at hs2;subst hs2;exact hM
  refine⟨⟨by rw[b1.tg,q2,List.drop_drop,e2,hU],by have :=b1.fa;omega⟩,M'+1,oy M' _ _ _ _<|⟨λ_=>⟨t,by rw[hP0];exact ht,hM'⟩,λh=>absurd (by rw[hP0];exact hlt) h⟩⟩
def yQ(p:YT)(nm:List<|(Int×YB)×ah)(wm:Int)(wp:YI):Sv:=lw (cxN p nm wm wp) p 0 ⟨bC p,[],0,0⟩
theorem OG(O:bn p=true):∀(m:Nat) (t:Tree) (d:Nat) (f:Tree),p[m]?=some t->t.kids[d]?=some f->DefOk (sgM p p 0 []) (3*kbulk p+2) m d f∧(f.kind=2∨f.kind=3):=λm t d f h1 h2=>by
 have hs:=uC O m t d f h1 h2;obtain⟨k1,k2⟩:=dk O h1;have hw:=mz k1 k2 h2;have hb1:=bR h1;have hb2:=aF h2;have G:f.kind=2∨f.kind=3:=by rcases hw with h|h;exact .inl h.1;exact .inr h.1
 refine⟨⟨hs,λJ=>?_,λJ=>qt O h1 h2 (by rcases G with h|h;exact absurd h J;exact h)⟩,G⟩;obtain⟨q1,_⟩:=mE hs J;have Z:=zq (P:=p) (key:=((m:Int),(d:Int))) p 0 m d [] t f h1 h2 J (by simp);rw[Nat.zero_add]at Z;refine⟨_,Z,by simp[cF];omega,λq hq=>?_⟩;have :=(KY (p:=p) (m:=(m:Int)) (f:=f) (B:=kbulk p)<|by omega).2 q hq;exact this.mono (by omega)
theorem Od(G:bn p=true)(hb:kbulk p<=10000000)(nm:List<|(Int×YB)×ah)(wm:Int)(wp:YI):Sst (kbulk p) (uNs p) ⟨bC p,[],0,0⟩ (yQ p nm wm wp)∧∃z,lE (mkC (cxN p nm wm wp) ⟨bC p,[],0,0⟩) (mkC ((cxN p nm wm wp).md z)<|yQ p nm wm wp):=by
 have ht:(bC p).length=uNs p:=by rw[bC,if_pos G,EH]
 obtain⟨J,M,O⟩:=LF (x:=cxN p nm wm wp) (P0:=mkC (cxN p nm wm wp) ⟨bC p,[],0,0⟩) (L:=3*kbulk p+2) rfl hb (OG G) (λk q Z=>by
  rcases Es k p 0 [] q Z with⟨i,t,d,f,h1,h2,J,_,rfl⟩|h
  ·have hb1:=bR h1;have hb2:=aF h2;exact(KY (B:=kbulk p)<|by omega).1.mono (by omega)
  ·cases h) p.length 0 0 ⟨bC p,[],0,0⟩ (by simp[cxN]) (by simp[cxN];omega) (by simp[cxN];omega) (λm t h=>(dk G h).1) (by simp[cxN];omega) (by simp[cxN];omega)
 exact⟨J,_,ww M _ _<|O⟩
theorem IE(p:YT)(hb:kbulk p<=1000000000):pm p (bn p):=by
 have J:=fD p;have loop:∀k i,k+i=p.length->kr (k+1) p i (bn<|p.drop i):=λk=>by
  induction k with
  |zero=>
   intro i hi;have G:p.drop i=[]:=List.drop_of_length_le (by omega);rw[G];exact ss 0 _ _ _ (⟨λh=>absurd h (by omega),λ_=>I⟩)
  |succ k ih=>
   intro i hi;obtain⟨t,ht⟩:∃t,p[i]?=some t:=⟨_,List.getElem?_eq_getElem (by omega)⟩;have :=bR ht;rw[aX ht,bn];refine ss (k+1) _ _ _ (⟨λ_=>⟨t,ht,λh=>by simp[h],λh=>⟨_,oV t (by omega),λh'=>by simp[h'],λh'=>⟨by omega,?_⟩⟩⟩,λh=>absurd (by omega) h⟩);have :=ih (i+1) (by omega);simpa[h,h']using this
 have :=loop p.length 0 (by omega);exact zL (p.length+1) _ _ (by simpa using this)
theorem Ni(hb:kbulk p<=10000000):(bn p=false->mr p [])∧(bn p=true->∃nm,oX p nm∧∀r,fJ (yQ p nm 0 []).fa r->mr p r):=by
 have J:=IE p (by omega);refine⟨λG=>tB 0 _ _ (⟨_,J,λ_=>rfl,λh=>(by rw[G]at h;cases h)⟩),λG=>?_⟩;obtain⟨nm,h1,h2⟩:=FD G hb;obtain⟨_,z,O⟩:=Od G hb nm 0 [];exact⟨nm,h1,λr hs=>tB 0 _ _<|⟨_,J,λh=>(by rw[G]at h;cases h),λ_=>⟨_,h2,_,O,_,hs,rfl⟩⟩⟩
def wS:Nat->Int->ac->Prop
 |0,s,d=>d.Kind=s-4
 |n+1,s,d=>d.Kind=4∧∀y∈d.L,wS n s y
def KnK(k:Kn):Prop:=(k.simple=5∨k.simple=6∨k.simple=7)∧0<=k.lists
def ik(k:Kn)(d:ac):Prop:=wS k.lists.toNat k.simple d
variable{k:Kn}{d:ac}
theorem yK(h:ik k d):d.Kind=if k.lists.toNat=0 then k.simple-4 else 4:=by
 unfold ik at h;cases G:k.lists.toNat with
 |zero=>rw[G]at h;simpa[wS]using h
 |succ n=>rw[G]at h;simp only[wS]at h;rw[if_neg<|by omega];exact h.1
theorem mN{s:Int}(h:ik ⟨s,0⟩ d):d.Kind=s-4:=yK h
theorem Db(G:0<=k.lists){l:List ac}(h:∀y∈l,ik k y):ik ⟨k.simple,k.lists+1⟩ ⟨4,0,[],l⟩:=by unfold ik;rw[show(k.lists+1).toNat=k.lists.toNat+1 by omega];exact⟨I,h⟩
inductive WT (p:List Tree):Int->Env->Tree->Kn->Prop
 |num {m env t}:t.kind=10->WT p m env t ⟨5,0⟩
 |text {m env t}:t.kind=11->WT p m env t ⟨6,0⟩
 |true_ {m env t}:t.kind=13->WT p m env t ⟨7,0⟩
 |false_ {m env t}:t.kind=14->WT p m env t ⟨7,0⟩
 |var {m env t k}:t.kind=12->ji t.text env=some k->WT p m env t k
 |paren {m env t k}:t.kind=22->WT p m env (aM t 0) k->WT p m env t k
 |let_ {m env t a k}:t.kind=20->WT p m env (aM t 0) a->WT p m (⟨t.text,a⟩::env) (aM t 1) k->WT p m env t k
 |if_ {m env t k}:t.kind=19->WT p m env (aM t 0) ⟨7,0⟩->WT p m env (aM t 1) k->WT p m env (aM t 2) k->WT p m env t k
 |list {m env t k}:t.kind=18->0<=k.lists->(∀(i:Nat) (u:Tree),t.kids[i]?=some u->u.kind≠17)->(∀(i:Nat) (u:Tree),t.kids[i]?=some u->WT p m env u k)->WT p m env t ⟨k.simple,k.lists+1⟩
 |call {m env t f}:t.kind=16->(aC p m t.text).2.2=true->fm p (aC p m t.text).1 (aC p m t.text).2.1=f->f.kind=2->f.kids.length=t.kids.length+2->(cF p (aC p m t.text).1 f).params.length=t.kids.length->
  (∀(i:Nat) (u:Tree),t.kids[i]?=some u->u.kind=17)->(∀(i:Nat) (u:Tree) (q:Kn),t.kids[i]?=some u->(cF p (aC p m t.text).1 f).params[i]?=some q->WT p m env (aM u 0) q)->WT p m env t (cF p (aC p m t.text).1 f).result
 |sum {m env t u v s}:t.kind=21->t.kids=[u,v]->u.kind≠17->v.kind≠17->t.text=[43]->(s=5∨s=6)->WT p m env u ⟨s,0⟩->WT p m env v ⟨s,0⟩->WT p m env t ⟨s,0⟩
 |same {m env t u v k}:t.kind=21->t.kids=[u,v]->u.kind≠17->v.kind≠17->t.text=[61,61]->WT p m env u k->WT p m env v k->WT p m env t ⟨7,0⟩
 |less {m env t u v}:t.kind=21->t.kids=[u,v]->u.kind≠17->v.kind≠17->t.text=[60]->WT p m env u ⟨5,0⟩->WT p m env v ⟨5,0⟩->WT p m env t ⟨7,0⟩
 |arith {m env t u v}:t.kind=21->t.kids=[u,v]->u.kind≠17->v.kind≠17->t.text=[45]∨t.text=[42]->WT p m env u ⟨5,0⟩->WT p m env v ⟨5,0⟩->WT p m env t ⟨5,0⟩
def tR:Env->List Bnd->Prop
 |[],[]=>True
 |b::r,e::q=>e.1=b.name∧ik b.typ e.2∧tR r q
 |_,_=>False
theorem tR.get{w:YB}:∀{env:Env} {ve:List Bnd},tR env ve->ji w env=some k->∃d,pd ve w=some d∧ik k d
 |[],[],h,e=>by simp[ji]at e
 | b::r,x::q,h,e=>by
  obtain⟨h1,h2,h3⟩:=h;simp only[ji]at e;simp only[pd,h1];by_cases hn:b.name=w
  ·rw[if_pos hn]at e;rw[if_pos hn];exact⟨x.2,I,by rw[<-Option.some.inj e];exact h2⟩
  ·rw[if_neg hn]at e;rw[if_neg hn];exact h3.get e
 |[],_::_,h,e=>by exact h.elim
 |_::_,[],h,e=>by exact h.elim
def Af(k:Kn)(r:ac×Int×Nat):Prop:=(r.2.1=0->ik k r.1)∧(r.2.1=0∨r.2.1=3∨r.2.1=21)
theorem wU(f:Tree->Nat->ac×Int×Nat):∀(ts:YT) (ks:List Kn) (r:Nat),ts.length=ks.length->(∀(i:Nat) (u:Tree) (k:Kn),ts[i]?=some u->ks[i]?=some k->∀r,Af k<|f (fF u) r)->
  ((evL f ts r).2.1=0->(evL f ts r).1.length=ks.length∧∀(i:Nat) (k:Kn),ks[i]?=some k->∃d,(evL f ts r).1[i]?=some d∧ik k d)∧((evL f ts r).2.1=0∨(evL f ts r).2.1=3∨(evL f ts r).2.1=21)
 |[],[],r,_,_=>⟨λ_=>⟨rfl,λi k h=>by simp at h⟩,.inl rfl⟩
 |[],_::_,r,h,_=>by simp at h
 |_::_,[],r,h,_=>by simp at h
 | t ::ts,k::ks,r,h,hf=>by
  have h0:=hf 0 t k rfl rfl r;simp only[evL];cases hq:f (fF t) r with
  | mk d er=>
   obtain⟨e,r'⟩:=er;rw[hq]at h0;obtain⟨h1,h2⟩:=h0;by_cases he:e=0
   ·have ih:=wU f ts ks r' (by simpa using h) λi u k a b=>hf (i+1) u k (by simpa using a) (by simpa using b);simp only[he,if_true];cases hq2:evL f ts r' with
    | mk l er2=>
     obtain⟨e',r''⟩:=er2;rw[hq2]at ih;obtain⟨i1,i2⟩:=ih;by_cases he':e'=0
     ·simp only[he',if_true];obtain⟨j1,j2⟩:=i1 he';refine⟨λ_=>⟨by simp[j1],λi q hi=>?_⟩,.inl trivial⟩;cases i with
      |zero=>simp only[List.getElem?_cons_zero,aad]at hi;subst hi;exact⟨d,rfl,h1 he⟩
      |succ i=>simpa using j2 i q (by simpa using hi)
     ·simp only[if_neg he'];exact⟨λh=>absurd h he',i2⟩
   ·simp only[if_neg he];exact⟨λh=>absurd h he,h2⟩
def PW(p:YT):Prop:=∀(m:Int) (w:YB) (f:Tree),(aC p m w).2.2=true->fm p (aC p m w).1 (aC p m w).2.1=f->f.kind=2->WT p (aC p m w).1 (fY (f.kids.take<|f.kids.length-2) (cF p (aC p m w).1 f).params) (aM f<|f.kids.length-1) (cF p (aC p m w).1 f).result
theorem tR.args:∀{ks:YT} {qs:List Kn} {l:List ac},qs.length<=ks.length->l.length=qs.length->(∀(i:Nat) (k:Kn),qs[i]?=some k->∃d,l[i]?=some d∧ik k d)->tR (fY (ks.take qs.length) qs) (fZ ks l)
 |ks,[],[],h,_,_=>by cases ks<;>simp[fY,fZ,tR]
 |[],_::_,_,h,_,_=>by simp at h
 |_::_,_::_,[],h,G,_=>by simp at G
 |t::ks,k::qs,d::l,h,G,J=>by have O:=J 0 k rfl;simp only[List.getElem?_cons_zero,aad]at O;obtain⟨Z,rfl,h1⟩:=O;simp only[aac,List.take_succ_cons,fY,fZ,List.zipWith_cons_cons,tR];exact⟨trivial,h1,tR.args (by simpa using h) (by simpa using G) λi q hi=>by simpa using J (i+1) q (by simpa using hi)⟩
theorem BZ(h:t.kind≠17):fF t=t:=by unfold fF;rw[if_neg h]
theorem Pq(h:t.kind=17):fF t=aM t 0:=by unfold fF;rw[if_pos h]
variable{a b:Kn}
theorem xx{f:Tree->Nat->ac×Int×Nat}{v:Tree}(Z:u.kind≠17)(hv:v.kind≠17)(h1:∀r,Af a<|f u r)(h2:∀r,Af b<|f v r)(r:Nat):
  ((evL f [u,v] r).2.1=0->ik a ((evL f [u,v] r).1.getD 0 GD0)∧ik b ((evL f [u,v] r).1.getD 1 GD0))∧((evL f [u,v] r).2.1=0∨(evL f [u,v] r).2.1=3∨(evL f [u,v] r).2.1=21):=by
 obtain⟨g1,g2⟩:=wU f [u,v] [a,b] r rfl λi w k G J=>by
  match i,G,J with
  |0,G,J=>simp only[List.getElem?_cons_zero,aad]at G J;subst G J;rw[BZ Z];exact h1
  |1,G,J=>simp only[List.getElem?_cons_succ,List.getElem?_cons_zero,aad]at G J;subst G J;rw[BZ hv];exact h2
  |i+2,G,J=>simp at G
 refine⟨λh=>?_,g2⟩;obtain⟨_,O⟩:=g1 h;obtain⟨d0,e0,k0⟩:=O 0 a rfl;obtain⟨d1,e1,k1⟩:=O 1 b rfl;rw[List.getD_eq_getElem?_getD,List.getD_eq_getElem?_getD,e0,e1];exact⟨k0,k1⟩
theorem gQ{e:Int}{r:Nat}(h:e=3∨e=21):Af k (d,e,r):=⟨λG=>by simp only at G;omega,.inr h⟩
theorem jl{r:Nat}(h:ik k d):Af k (d,0,r):=⟨λ_=>h,.inl rfl⟩
theorem FK{p:YT}(hP:PW p):∀(g:Nat) (m:Int) (env:Env) (t:Tree) (k:Kn) (ve:List Bnd) (r:Nat),WT p m env t k->tR env ve->Af k (evG p g m t ve r)
 |0,m,env,t,k,ve,r,hw,he=>by rw[evG];exact gQ<|.inr rfl
 |g+1,m,env,t,k,ve,0,hw,he=>by rw[evG];exact gQ<|.inr rfl
 | g +1,m,env,t,k,ve,r+1,hw,he=>by
  have ih:=FK hP g;rw[evG];cases hw with
  |num h=>rw[if_pos h];exact jl rfl
  |text h=>rw[if_neg (by omega),if_pos h];exact jl rfl
  |true_ h=>rw[if_neg (by omega),if_neg (by omega),if_pos h];exact jl rfl
  |false_ h=>rw[if_neg (by omega),if_neg (by omega),if_neg (by omega),if_pos h];exact jl rfl
  |paren h h1=>rw[if_neg (by omega),if_neg (by omega),if_neg (by omega),if_neg (by omega),if_pos h];exact ih m env _ k ve r h1 he
  |var h h1=>
   rw[if_neg (by omega),if_neg (by omega),if_neg (by omega),if_neg (by omega),if_neg (by omega),if_pos h];obtain⟨d,e1,e2⟩:=he.get h1;rw[e1];exact jl e2
  | let_ h h1 h2=>
   rw[if_neg (by omega),if_neg (by omega),if_neg (by omega),if_neg (by omega),if_neg (by omega),if_neg (by omega),if_pos h];have i1:=ih m env _ _ ve r h1 he;cases hq:evG p g m (aM t 0) ve r with
   | mk d er=>
    obtain⟨e,r'⟩:=er;rw[hq]at i1;by_cases h0:e=0
    ·simp only[h0,if_true];exact ih m _ _ k _ r' h2 ⟨I,i1.1 h0,he⟩
    ·simp only[if_neg h0];exact gQ (by have :=i1.2;simp only at this;omega)
  | if_ h h1 h2 h3=>
   rw[if_neg (by omega),if_neg (by omega),if_neg (by omega),if_neg (by omega),if_neg (by omega),if_neg (by omega),if_neg (by omega),if_pos h];have i1:=ih m env _ _ ve r h1 he;cases hq:evG p g m (aM t 0) ve r with
   | mk d er=>
    obtain⟨e,r'⟩:=er;rw[hq]at i1;by_cases h0:e=0
    ·have hk:=mN<|i1.1 h0;simp only[h0,if_true];rw[if_pos<|by simpa using hk];split
     ·exact ih m env _ k ve r' h2 he
     ·exact ih m env _ k ve r' h3 he
    ·simp only[if_neg h0];exact gQ (by have :=i1.2;simp only at this;omega)
  | @list _ _ k h hk h1 h2=>
   rw[if_neg (by omega),if_neg (by omega),if_neg (by omega),if_neg (by omega),if_neg (by omega),if_neg (by omega),if_neg (by omega),if_neg (by omega),if_pos h];have hl:=wU (λk r=>evG p g m k ve r) t.kids (List.replicate t.kids.length k) r (by simp) λi u q hu hq r=>by
    obtain⟨_,rfl⟩:i<t.kids.length∧q=k:=by
     rw[List.getElem?_replicate]at hq;split at hq
     ·exact⟨by assumption,(Option.some.inj hq).symm⟩
     ·cases hq
    rw[BZ<|h1 i u hu];exact ih m env u q ve r (h2 i u hu) he
   cases hq:evL (λk r=>evG p g m k ve r) t.kids r with
   | mk l er=>
    obtain⟨e,r'⟩:=er;rw[hq]at hl;by_cases h0:e=0
    ·simp only[h0,if_true];split
     ·exact gQ<|.inl I
     ·obtain⟨g1,g2⟩:=hl.1 h0;refine jl<|Db hk λy hy=>?_;obtain⟨i,hi,rfl⟩:=aat hy;obtain⟨d,e1,e2⟩:=g2 i k (by rw[List.getElem?_replicate,if_pos];simp only[List.length_replicate]at g1;omega);simp only at e1;rw[List.getElem?_eq_getElem hi]at e1;rw[Option.some.inj e1];exact e2
    ·simp only[if_neg h0];exact gQ (by have :=hl.2;simp only at this;omega)
  | @call _ _ f h h1 h2 hk2 h3 h4 h5 h6=>
   rw[if_neg (by omega),if_neg (by omega),if_neg (by omega),if_neg (by omega),if_neg (by omega),if_neg (by omega),if_neg (by omega),if_neg (by omega),if_neg (by omega),if_pos h];have hl:=wU (λk r=>evG p g m k ve r) t.kids (cF p (aC p m t.text).1 f).params r (by omega) λi u q hu hq r=>by
    rw[Pq<|h5 i u hu];exact ih m env _ q ve r (h6 i u q hu hq) he
   cases hq:evL (λk r=>evG p g m k ve r) t.kids r with
   | mk l er=>
    obtain⟨e,r'⟩:=er;rw[hq]at hl;by_cases h0:e=0
    ·obtain⟨g1,g2⟩:=hl.1 h0;simp only at g1 g2;simp only[h0,if_true,h1,h2];rw[if_pos<|by omega];have e1:(l.length+1)=f.kids.length-1:=by omega
     have e2:f.kids.length-2=(cF p (aC p m t.text).1 f).params.length:=by omega
     rw[e1];refine ih _ _ _ _ _ r' (hP m t.text f h1 h2 hk2) ?_;rw[e2];exact tR.args (by omega) g1 g2
    ·simp only[if_neg h0];exact gQ (by have :=hl.2;simp only at this;omega)
  | @sum _ _ u v s h hkids hu hv htx hs w1 w2=>
   rw[if_neg (by omega),if_neg (by omega),if_neg (by omega),if_neg (by omega),if_neg (by omega),if_neg (by omega),if_neg (by omega),if_neg (by omega),if_neg (by omega),if_neg (by omega),if_pos h,hkids];have hl:=xx (f:=λk r=>evG p g m k ve r) hu hv (λr=>ih m env u _ ve r w1 he) (λr=>ih m env v _ ve r w2 he) r;cases hq:evL (λk r=>evG p g m k ve r) [u,v] r with
   | mk l er=>
    obtain⟨e,r'⟩:=er;rw[hq]at hl;by_cases h0:e=0
    ·obtain⟨k1,k2⟩:=hl.1 h0;simp only at k1 k2;have b1:=mN k1;have b2:=mN k2;simp only[h0,if_true];unfold fV;rw[if_neg (by rw[htx];decide)];rcases hs with rfl|rfl
     ·rw[if_neg (by omega),if_neg (by omega),if_pos htx];exact jl rfl
     ·rw[if_pos ⟨htx,b1,b2⟩];split
      ·exact gQ<|.inl I
      ·exact jl I
    ·simp only[if_neg h0];exact gQ (by have :=hl.2;simp only at this;omega)
  | @same _ _ u v k h hkids hu hv htx w1 w2=>
   rw[if_neg (by omega),if_neg (by omega),if_neg (by omega),if_neg (by omega),if_neg (by omega),if_neg (by omega),if_neg (by omega),if_neg (by omega),if_neg (by omega),if_neg (by omega),if_pos h,hkids];have hl:=xx (f:=λk r=>evG p g m k ve r) hu hv (λr=>ih m env u _ ve r w1 he) (λr=>ih m env v _ ve r w2 he) r;cases hq:evL (λk r=>evG p g m k ve r) [u,v] r with
   | mk l er=>
    obtain⟨e,r'⟩:=er;rw[hq]at hl;by_cases h0:e=0
    ·obtain⟨k1,k2⟩:=hl.1 h0;simp only at k1 k2;simp only[h0,if_true];unfold fV;rw[if_pos htx,if_pos<|by rw[yK k1,yK k2]];exact jl I
    ·simp only[if_neg h0];exact gQ (by have :=hl.2;simp only at this;omega)
  | @less _ _ u v h hkids hu hv htx w1 w2=>
   rw[if_neg (by omega),if_neg (by omega),if_neg (by omega),if_neg (by omega),if_neg (by omega),if_neg (by omega),if_neg (by omega),if_neg (by omega),if_neg (by omega),if_neg (by omega),if_pos h,hkids];have hl:=xx (f:=λk r=>evG p g m k ve r) hu hv (λr=>ih m env u _ ve r w1 he) (λr=>ih m env v _ ve r w2 he) r;cases hq:evL (λk r=>evG p g m k ve r) [u,v] r with
   | mk l er=>
    obtain⟨e,r'⟩:=er;rw[hq]at hl;by_cases h0:e=0
    ·obtain⟨k1,k2⟩:=hl.1 h0;simp only at k1 k2;have b1:=mN k1;have b2:=mN k2;simp only[h0,if_true];unfold fV;rw[if_neg (by rw[htx];decide),if_neg (by omega),if_neg (by omega),if_neg (by rw[htx];decide),if_neg (by rw[htx];decide),if_neg (by rw[htx];decide)];exact jl I
    ·simp only[if_neg h0];exact gQ (by have :=hl.2;simp only at this;omega)
  | @arith _ _ u v h hkids hu hv htx w1 w2=>
   rw[if_neg (by omega),if_neg (by omega),if_neg (by omega),if_neg (by omega),if_neg (by omega),if_neg (by omega),if_neg (by omega),if_neg (by omega),if_neg (by omega),if_neg (by omega),if_pos h,hkids];have hl:=xx (f:=λk r=>evG p g m k ve r) hu hv (λr=>ih m env u _ ve r w1 he) (λr=>ih m env v _ ve r w2 he) r;cases hq:evL (λk r=>evG p g m k ve r) [u,v] r with
   | mk l er=>
    obtain⟨e,r'⟩:=er;rw[hq]at hl;by_cases h0:e=0
    ·obtain⟨k1,k2⟩:=hl.1 h0;simp only at k1 k2;have b1:=mN k1;have b2:=mN k2;simp only[h0,if_true];unfold fV;rcases htx with htx|htx
     ·rw[if_neg (by rw[htx];decide),if_neg (by omega),if_neg (by omega),if_neg (by rw[htx];decide),if_pos htx];exact jl rfl
     ·rw[if_neg (by rw[htx];decide),if_neg (by omega),if_neg (by omega),if_neg (by rw[htx];decide),if_neg (by rw[htx];decide),if_pos htx];exact jl rfl
    ·simp only[if_neg h0];exact gQ (by have :=hl.2;simp only at this;omega)
def FaB(B:Nat)(s:Sv):Prop:=∀e∈s.fa,e.At.Path.length<=B
variable{x:Cx}{s:Sv}
theorem mV{k:Int}{b:YI}(h:FaB B s)(hb:x.pa.length+b.length<=B):FaB B (faP x k b s):=λe G=>by
 rcases List.mem_append.1 G with G|G
 ·exact h e G
 ·simp only[List.mem_singleton]at G;subst G;simpa using hb
theorem QY(h:FaB B s):FaB B (knS x i k s):=by unfold FaB;rw[AS];exact h
def ExF(B:Nat)(E:Ev)(n:Nat):Prop:=∀(t:Tree) (x:Cx) (env:Env) (s:Sv),FaB B s->x.pa.length+2*n+3<=B->FaB B (E x t env s).2
theorem zn{n:Nat}{E:Ev}(h:ExF B E n)(t:Tree)(x:Cx)(i:Nat)(env:Env)(s:Sv)(hs:FaB B s)(hb:x.pa.length+2*n+4<=B):FaB B (bh E x t i env s).2:=by
 have :=h (aM t i) (x.go i) env s hs (by simp[Cx.go];omega);unfold bh;cases G:E (x.go i) (aM t i) env s with
 |mk k s1=>
  rw[G]at this;exact QY this
theorem lS{c:Prop}[Decidable c]{a b:Sv}(G:FaB B a)(hb:FaB B b):FaB B (if c then a else b):=by split<;>assumption
theorem Ey{B n:Nat}{E:Ev}(h:ExF B E n)(x:Cx)(ps:List Kn)(env:Env)(hb:x.pa.length+2*n+5<=B):∀(l:YT) (i:Nat) (s:Sv),FaB B s->FaB B (fj E x ps env l i s)
 |[],i,s,hs=>hs
 | a::r,i,s,hs=>by
  have h1:=zn h a (x.go (i:Int)) 0 env s hs (by simp[Cx.go];omega);simp only[fj];refine Ey h x ps env hb r (i+1) _ ?_;cases hq:bh E (x.go (i:Int)) a 0 env s with
  |mk k s1=>
   rw[hq]at h1;simp only[sL];split
   ·exact lS (mV h1 (by simp;omega)) h1
   ·exact h1
theorem HP{B n:Nat}{E:Ev}(h:ExF B E n)(x:Cx)(t:Tree)(env:Env)(hb:x.pa.length+2*n+4<=B):∀(k i:Nat) (r:Kn×Sv),FaB B r.2->FaB B (fc E x t env k i r).2
 |0,i,r,hs=>hs
 | k+1,i,(f,s),hs=>by
  have h1:=zn h t x i env s hs hb;simp only[fc];refine HP h x t env hb k (i+1) _ ?_;cases hq:bh E x t i env s with
  |mk a s1=>
   rw[hq]at h1;simp only[Fz];exact lS (mV h1 (by simp;omega)) h1
theorem Qu{w:YB}(h:FaB B s)(hb:x.pa.length+1<=B):FaB B (opQ x w a (b,s)).2:=by
 have f:∀(k:Int) (z:Int) (s:Sv),FaB B s->FaB B (faP x k [z] s):=λk z s hs=>mV hs (by simpa using hb);unfold opQ;by_cases h1:w=[43]
 ·simp only[if_pos h1];unfold nM
  repeat' split
  all_goals first|exact f _ _ _ (f _ _ _ h)|exact f _ _ _ h|exact h
 ·simp only[if_neg h1];by_cases h2:w=[61,61]
  ·simp only[if_pos h2];split
   ·exact f _ _ _ h
   ·exact h
  ·simp only[if_neg h2];unfold rK
   repeat' split
   all_goals first|exact f _ _ _ (f _ _ _ h)|exact f _ _ _ h|exact h
theorem EY{B:Nat}:∀n:Nat,ExF B (ib n) n
 |0=>λt x env s hs _=>hs
 | n+1=>λt x env s hs hb=>by
  have h:=EY (B:=B) n;have K:=λ(i:Nat) (env:Env) (s:Sv) (hs:FaB B s)=>zn h t x i env s hs (by omega);simp only[ib,bA];split;· exact hs
  split;· exact hs
  split;· exact hs
  split;· exact hs
  split
  ·cases ji t.text env with
   |none=>exact mV hs (by simp;omega)
   |some k=>exact hs
  split
  ·unfold se;refine Ey h x _ env (by omega) t.kids 0 _ ?_;unfold wN;have hu:FaB B (cS s):=hs;exact lS (mV hu (by simp;omega)) (lS hu<|mV hu (by simp;omega))
  split
  ·have :=HP h x t env (by omega) t.kids.length 0 (⟨0,0⟩,s) hs;cases hq:fc (ib n) x t env t.kids.length 0 (⟨0,0⟩,s)with
   |mk a s1=>rw[hq]at this;exact this
  split
  ·unfold ifP;have h0:=K 0 env s hs;have h1:FaB B (ifS x<|bh (ib n) x t 0 env s):=by
    cases hq:bh (ib n) x t 0 env s with
    |mk a s1=>rw[hq]at h0;exact lS (mV h0 (by simp;omega)) h0
   have h2:=K 1 env _ h1;cases hq:bh (ib n) x t 1 env (ifS x<|bh (ib n) x t 0 env s)with
   |mk a s1=>
    rw[hq]at h2;have h3:=K 2 env s1 h2;simp only[ifR];cases hq2:bh (ib n) x t 2 env s1 with
    |mk b s2=>rw[hq2]at h3;exact lS (mV h3 (by simp;omega)) h3
  split
  ·have h0:=K 0 env s hs;cases hq:bh (ib n) x t 0 env s with
   |mk a s1=>rw[hq]at h0;exact K 1 _ s1 h0
  split
  ·have h0:=K 0 env s hs;cases hq:bh (ib n) x t 0 env s with
   |mk a s1=>
    rw[hq]at h0;have h1:=K 1 env s1 h0;simp only[yI];cases hq2:bh (ib n) x t 1 env s1 with
    |mk b s2=>rw[hq2]at h1;exact Qu h1 (by omega)
  split
  ·exact K 0 env s hs
  ·exact hs
theorem zj{B:Nat}:∀(n:Nat) (x:Cx) (u:Tree) (s:Sv),FaB B s->x.pa.length+n<=B->FaB B (eC n x u s)
 |0,x,u,s,hs,_=>hs
 |n+1,x,u,s,hs,hb=>by have G:FaB B (cS s):=hs;simp only[eC];exact lS (lS (mV G (by simp;omega)) G) (lS (zj n _ _ s hs (by simp[Cx.go];omega)) hs)
theorem GG{B L:Nat}(x:Cx):∀(l:YT) (i:Nat) (s:Sv),(∀a∈l,tbulk a<=L)->FaB B s->x.pa.length+2+L<=B->FaB B (mf x l i s)
 |[],i,s,_,hs,_=>hs
 |k::r,i,s,G,hs,hb=>by
  have :=G k (by simp);have :=yy k 0;exact GG x r (i+1) _ (λa J=>G a<|by simp[J]) (zj _ _ _ _ hs (by simp[Cx.go];omega)) hb
theorem Ph(x:Cx)(d:Nat)(f:Tree)(s:Sv)(hs:FaB B s)(hb:x.pa.length+2*tbulk f+6<=B):FaB B (oZ x d f s):=by
 unfold oZ;refine lS ?_ ?_
 ·obtain⟨g,J⟩:∃g,g=(aL (x.mo,(d:Int)) x.sg).getD noG:=⟨_,rfl⟩;rw[<-J];unfold vj;have h1:FaB B (mf (x.go (d:Int)) (f.kids.take (f.kids.length-2)) 0 s):=GG (L:=tbulk f) _ _ 0 s (λa O=>by
   obtain⟨i,hi⟩:=List.getElem?_of_mem (List.mem_of_mem_take O);have :=aF hi;omega) hs (by simp[Cx.go];omega)
  have h2:=zj (B:=B) (tbulk f) ((x.go (d:Int)).go ((f.kids.length-2:Nat):Int)) (aM f<|f.kids.length-2) _ h1 (by simp[Cx.go];omega);have G:=zn (EY (B:=B)<|tbulk f) f (x.go (d:Int)) (f.kids.length-1) (fY (f.kids.take<|f.kids.length-2) g.params) _ h2 (by simp[Cx.go];omega);cases Z:bh (ib<|tbulk f) (x.go (d:Int)) f (f.kids.length-1) (fY (f.kids.take<|f.kids.length-2) g.params) (eC (tbulk f) ((x.go (d:Int)).go ((f.kids.length-2:Nat):Int)) (aM f<|f.kids.length-2)<|mf (x.go (d:Int)) (f.kids.take<|f.kids.length-2) 0 s)with
  |mk k s1=>
   rw[Z]at G;exact lS (mV G (by simp[Cx.go];omega)) G
 ·unfold JA;exact zj _ _ _ _ (lS (mV hs (by simp[Cx.go];omega)) hs) (by simp[Cx.go];omega)
theorem Ef{B L:Nat}(x:Cx)(hb:x.pa.length+2*L+6<=B):∀(l:YT) (d:Nat) (s:Sv),(∀f∈l,tbulk f<=L)->FaB B s->FaB B (kq x l d s)
 |[],d,s,_,hs=>hs
 |f::r,d,s,G,hs=>by
  have :=G f (by simp);exact Ef x hb r (d+1) _ (λa J=>G a<|by simp[J]) (Ph x d f s hs<|by omega)
theorem fab_mods{B L:Nat}(x:Cx)(hb:x.pa.length+2*L+6<=B):∀(l:YT) (m:Nat) (s:Sv),(∀t∈l,tbulk t<=L)->FaB B s->FaB B (lw x l m s)
 |[],m,s,_,hs=>hs
 | t::r,m,s,hl,hs=>by
  have ht:=hl t (by simp);exact fab_mods x hb r (m+1) _ (λa ha=>hl a (by simp[ha])) (Ef (x.md (m:Int)) hb t.kids 0 s (λf hf=>by obtain⟨i,hi⟩:=List.getElem?_of_mem hf;have :=aF hi;omega) hs)
theorem PD(nm:List<|(Int×YB)×ah)(wm:Int)(wp:YI):FaB (2*kbulk p+6) (yQ p nm wm wp):=
 fab_mods (L:=kbulk p) (cxN p nm wm wp) (by simp[cxN]) p 0 _ (λt ht=>by obtain⟨i,hi⟩:=List.getElem?_of_mem ht;exact bR hi) (λe G=>by simp at G)
theorem Li(hp:bn p=true)(h9:u.kind=16)(hu:shapeK u=true)(h:(aC p m u.text).2.2=true):∃(i d:Nat) (t f:Tree),(aC p m u.text).1=(i:Int)∧(aC p m u.text).2.1=(d:Int)∧p[i]?=some t∧t.kids[d]?=some f∧f.kind=2∧shapeK f=true:=by
 have G:bi u.text=1∨bi u.text=3:=by rw[aY,h9]at hu;simp only[aaa]at hu;have :=hu.1.2;simp only[iQ]at this;simp at this;omega
 have fin:∀(i d:Nat) (t a:Tree),p[i]?=some t->t.kids[d]?=some a->shapeK a=true:=λi d t a ht ha=>by obtain⟨t1,J⟩:=dk hp ht;rw[aY]at J;simp only[aaa]at J;exact(cf J.2 ha).2
 unfold aC at h⊢;rcases G with G|G
 ·have hd:fo u.text 0=-1:=Av _ _ (DL G<|.inl rfl).1;rw[if_neg<|by omega]at h⊢;obtain⟨i,d,t,a,_,a1,a2,O,Z,a5,_⟩:=sn h;obtain⟨t1,J⟩:=dk hp O;refine⟨i,d,t,a,a1,a2,O,Z,?_,fin i d t a O Z⟩;rcases mz t1 J Z with⟨k,_⟩|⟨_,k⟩
  ·exact k
  ·rw[a5,G]at k;cases k
 ·have hd:=Hc G<|.inl rfl;rw[if_pos<|by omega]at h⊢;obtain⟨i,d,t,a,_,a1,a2,O,Z,a5,_⟩:=sn h;obtain⟨t1,J⟩:=dk hp O;refine⟨i,d,t,a,a1,a2,O,Z,?_,fin i d t a O Z⟩;rcases mz t1 J Z with⟨k,_⟩|⟨_,k⟩
  ·exact k
  ·have g:=(DL k<|.inr rfl).2;have g3:=(IY G<|.inl rfl).2.2.1 rfl;rw[a5,hd,Int.toNat_natCast]at g;have e:(u.text.drop<|spanN bc u.text+1).getD 0 0=u.text.getD (spanN bc u.text+1) 0:=by
    simp[List.getD_eq_getElem?_getD,List.getElem?_drop]
   rw[e]at g;have :=g.2 g3;cases this
theorem CF(q:YI):∀(a b:YT) (i:Nat),nodKs (a++b) q i=nodKs a q i++nodKs b q (i+a.length)
 |[],b,i=>rfl
 |t::r,b,i=>by
  simp only[aay,nodKs,CF q r b<|i+1,aac,aaq];rw[show i+1+r.length=i+(r.length+1) by omega]
structure CX (x:Cx):Prop where
 ok:bn x.p=true
 sg:x.sg=sgM x.p x.p 0 []
 m0:0<=x.mo
 m1:x.mo<x.p.length
 sig:∀(m d:Nat) (t f:Tree),x.p[m]?=some t->t.kids[d]?=some f->f.kind=2->KnK (cF x.p m f).result∧∀q∈(cF x.p m f).params,KnK q
theorem CX.go(h:CX x)(i:Int):CX (x.go i):=⟨h.ok,h.sg,h.m0,h.m1,h.sig⟩
def NoH(t:Tree):Prop:=∀q u,atK t q=some u->u.kind≠15
theorem NoH.kid(h:NoH t)(G:t.kids[i]?=some u):NoH u:=λq v hv=>h ((i:Int)::q) v (by rw[atK,if_neg (by omega),Int.toNat_natCast,G];exact hv)
def QT(x:Cx)(t:Tree)(s:Sv):Prop:=∃rest,s.tg=ca x.p x.mo (nodK t x.pa)++rest
theorem eK{a:Tree}{r:YT}{l rest:List ar}(h:l=ca x.p x.mo (nodKs (a::r) x.pa i)++rest):l=ca x.p x.mo (nodK a<|x.pa++[(i:Int)])++(ca x.p x.mo (nodKs r x.pa<|i+1)++rest):=by rw[h,nodKs,rQ,aaq]
theorem ng{a:Tree}{r:YT}{l G rest:List ar}(h:l=ca x.p x.mo (nodKs (a::r) x.pa i)++rest)(h':G=l.drop (uN a)):G=ca x.p x.mo (nodKs r x.pa<|i+1)++rest:=by rw[h',eK h,<-tgs_uN x.p x.mo a (x.pa++[(i:Int)]),List.drop_left]
theorem uU(h:QT x t s)(G:cH t=false):∃rest,s.tg=ca x.p x.mo (nodKs t.kids x.pa 0)++rest:=by obtain⟨r,h⟩:=h;refine⟨r,?_⟩;rw[h,kY,ca,G];rfl
structure RunC (x:Cx) (t:Tree) (env:Env) (s:Sv) (r:Kn×Sv):Prop where
 tg:r.2.tg=s.tg.drop (uN t)
 mo:s.fa.length<=r.2.fa.length
 wt:r.2.fa.length<=s.fa.length->NoH t->CX x->(∀b∈env,KnK b.typ)->QT x t s->WT x.p x.mo env t r.1∧KnK r.1
def Cl(E:Ev)(N:Nat):Prop:=∀t,tbulk t<=N->exT t->∀x env s,RunC x t env s<|E x t env s
theorem mG{E:Ev}{N:Nat}(G:Cl E N){env:Env}(J:t.kids[i]?=some u)(hb:tbulk u<=N)(hx:exT u):RunC (x.go (i:Int)) u env s (bh E x t i env s):=by
 have h:=G u hb hx (x.go i) env s;have e:bh E x t i env s=Mp x i (E (x.go i) u env s):=by unfold bh;rw[ce J]
 rw[e];generalize E (x.go i) u env s=r at h⊢;obtain⟨k,s'⟩:=r;exact⟨(Lc _ _ _ _).trans h.tg,by show _<=(knS x i k s').fa.length;rw[AS];exact h.mo,λh1=>h.wt (by have :(knS x i k s').fa.length<=s.fa.length:=h1;rwa [AS]at this)⟩
theorem rj(h:bZ a b=false)(G:KnK a)(hb:KnK b):a=b:=by
 obtain⟨a1,a2⟩:=a;obtain⟨J,b2⟩:=b;have h1:=G.1;have h2:=hb.1;simp only[bZ]at h;simp only at h1 h2;have O:(a1 !=0)=true:=by simp;omega
 have Z:(J !=0)=true:=by simp;omega
 rw[O,Z]at h;simp only[Bool.true_and,Bool.not_eq_false',aaa,aap]at h;rw[h.1,h.2]
theorem Ay{z:Int}(h:z=5∨z=6∨z=7):KnK ⟨z,0⟩:=⟨h,Int.le_refl _⟩
theorem KnK.ne(h:KnK k):k.simple≠0:=by have :=h.1;omega
theorem sd{k:Int}{b:YI}{c:Prop}[Decidable c](h:(if c then faP x k b s else s).fa.length<=s.fa.length):¬c:=λG=>by rw[if_pos G,bL]at h;omega
theorem ti{k:Int}{b:YI}{c:Prop}[Decidable c]:(if c then faP x k b s else s).tg=s.tg∧s.fa.length<=(if c then faP x k b s else s).fa.length:=by
 split
 ·exact⟨I,by rw[bL];omega⟩
 ·exact⟨I,aaf _⟩
theorem Fl(hx:exT t)(h1:10<=t.kind)(h2:t.kind<=15):uN t=0:=by
 have hs:=hx.1;rw[aY]at hs;simp only[aaa,aaj]at hs;have G:=hs.1.1;have O:(t.kids.length:Int)<=0:=by
  have :t.kind=10∨t.kind=11∨t.kind=12∨t.kind=13∨t.kind=14∨t.kind=15:=by omega
  rcases this with e|e|e|e|e|e<;>(rw[e]at G;exact(qm (show 0<=f0 t.kids.length 0 1 0 0 from G)).2 (by omega))
 have J:t.kids=[]:=List.length_eq_zero_iff.1 (by omega);rw[di,J,if_neg<|by omega];simp[uNs]
theorem Hs{w:YB}{k:Kn}:∀{l:Env},ji w l=some k->∃b∈l,b.typ=k
 |[],h=>by cases h
 |b::r,h=>by
  unfold ji at h;split at h
  ·injection h with h;exact⟨b,List.mem_cons_self,h⟩
  ·obtain⟨c,G,J⟩:=Hs h;exact⟨c,List.mem_cons_of_mem _ G,J⟩
section
variable{E:Ev}{N:Nat}{x:Cx}{env:Env}{s:Sv}{t:Tree}
theorem Nd(Z:Cl E N)(hb:tbulk t<=N+1)(hx:exT t)(J:t.kind=22):RunC x t env s (bh E x t 0 env s):=by
 obtain⟨a,e⟩:=AP<|(pQ hx).1 J;have G:t.kids[0]?=some a:=by rw[e];rfl
 have hba:=aF G;have h:=mG Z (x:=x) (env:=env) (s:=s) G (by omega) (dj hx G<|by omega).1;have hU:uN t=uN a:=by rw[di,e,if_neg<|by omega];simp[uNs]
 refine⟨by rw[hU];exact h.tg,h.mo,λh1 h2 h3 h4 h5=>?_⟩;obtain⟨rest,O⟩:=uU h5 (by simp[cH,J]);rw[e]at O;obtain⟨w1,w2⟩:=h.wt h1 (h2.kid G) (h3.go _) h4 ⟨_,eK O⟩;exact⟨.paren J (by rw[ce G];exact w1),w2⟩
theorem RP(hE:Cl E N)(hb:tbulk t<=N+1)(hx:exT t)(O:t.kind=20):RunC x t env s (Jg E x t env<|bh E x t 0 env s):=by
 obtain⟨a,b,e⟩:=DK<|(pQ hx).2.1 O;have J:t.kids[0]?=some a:=by rw[e];rfl
 have G:t.kids[1]?=some b:=by rw[e];rfl
 have hba:=aF J;have hbb:=aF G;have hU:uN t=uN a+uN b:=by rw[di,e,if_neg<|by omega];simp[uNs]
 have h:=mG hE (x:=x) (env:=env) (s:=s) J (by omega) (dj hx J (by omega)).1;generalize bh E x t 0 env s=r at h⊢;obtain⟨k1,s1⟩:=r;have g:=mG hE (x:=x) (env:=⟨t.text,k1⟩::env) (s:=s1) G (by omega) (dj hx G (by omega)).1;have Z:=h.tg;have q2:=h.mo;have q3:=g.mo;simp only at Z q2;show RunC x t env s (bh E x t 1 (⟨t.text,k1⟩::env) s1);refine⟨by rw[g.tg,Z,List.drop_drop,hU],by omega,λh1 h2 h3 h4 h5=>?_⟩;obtain⟨rest,hq⟩:=uU h5 (by simp[cH,O]);rw[e]at hq;obtain⟨w1,w2⟩:=h.wt (by simp only;omega) (h2.kid J) (h3.go _) h4 ⟨_,eK hq⟩;have hq1:=ng hq Z;obtain⟨w3,w4⟩:=g.wt (by omega) (h2.kid G) (h3.go _) (λc hc=>by
  rcases List.mem_cons.1 hc with rfl|hc
  ·exact w2
  ·exact h4 c hc) ⟨_,eK hq1⟩
 exact⟨.let_ O (by rw[ce J];exact w1) (by rw[ce G];exact w3),w4⟩
theorem Su(hE:Cl E N)(hb:tbulk t<=N+1)(hx:exT t)(hk:t.kind=19):RunC x t env s (ifP E x t env s):=by
 obtain⟨a,b,c,e⟩:=NT<|(pQ hx).2.2.1 hk;have ha:t.kids[0]?=some a:=by rw[e];rfl
 have J:t.kids[1]?=some b:=by rw[e];rfl
 have hc:t.kids[2]?=some c:=by rw[e];rfl
 have hba:=aF ha;have hbb:=aF J;have hbc:=aF hc;have hU:uN t=uN a+(uN b+uN c):=by rw[di,e,if_neg<|by omega];simp[uNs]
 have h:=mG hE (x:=x) (env:=env) (s:=s) ha (by omega) (dj hx ha<|by omega).1;unfold ifP;generalize bh E x t 0 env s=r at h⊢;obtain⟨k1,s1⟩:=r;simp only[ifS];obtain⟨Z,O⟩:∃Z,Z=(if bZ k1 ⟨7,0⟩then faP x 4 [0] s1 else s1):=⟨_,rfl⟩;have i2:Z.tg=s1.tg∧s1.fa.length<=Z.fa.length:=by rw[O];exact ti
 have d2:Z.fa.length<=s1.fa.length->bZ k1 ⟨7,0⟩=false:=λh=>by rw[O]at h;simpa using sd h
 rw[<-O];clear O;have g:=mG hE (x:=x) (env:=env) (s:=Z) J (by omega) (dj hx J<|by omega).1;generalize bh E x t 1 env Z=r at g⊢;obtain⟨k2,s3⟩:=r;simp only[ifR];have f:=mG hE (x:=x) (env:=env) (s:=s3) hc (by omega) (dj hx hc<|by omega).1;generalize bh E x t 2 env s3=r at f⊢;obtain⟨k3,G⟩:=r;simp only[ifQ];have i5:(if bZ k2 k3 then faP x 6 [2] G else G).tg=G.tg∧G.fa.length<=(if bZ k2 k3 then faP x 6 [2] G else G).fa.length:=ti;have q1:=h.tg;have q2:=g.tg;have q3:=f.tg;have m1:=h.mo;have m2:=g.mo;have m3:=f.mo;simp only at q1 q2 q3 m1 m2 m3;refine⟨by show(if bZ k2 k3 then faP x 6 [2] G else G).tg=_;rw[i5.1,q3,q2,i2.1,q1,List.drop_drop,List.drop_drop,hU],by show _<=(if bZ k2 k3 then faP x 6 [2] G else G).fa.length;omega,λh1 h2 h3 h4 h5=>?_⟩;have h1':(if bZ k2 k3 then faP x 6 [2] G else G).fa.length<=s.fa.length:=h1;obtain⟨rest,hq⟩:=uU h5 (by simp[cH,hk]);rw[e]at hq;have hq1:=ng hq (show Z.tg=_ by rw[i2.1,q1]);have hq2:=ng hq1 q2;obtain⟨w1,w2⟩:=h.wt (by simp only;omega) (h2.kid ha) (h3.go _) h4 ⟨_,eK hq⟩;obtain⟨w3,w4⟩:=g.wt (by simp only;omega) (h2.kid J) (h3.go _) h4 ⟨_,eK hq1⟩;obtain⟨w5,w6⟩:=f.wt (by simp only;omega) (h2.kid hc) (h3.go _) h4 ⟨_,eK hq2⟩;have e1:=rj (d2<|by omega) w2 (Ay<|by omega);have e2:k2=k3:=rj (by simpa using sd (show(if bZ k2 k3 then faP x 6 [2] G else G).fa.length<=G.fa.length by omega)) w4 w6;simp only at w1 w3 w5;rw[if_neg w4.ne];exact⟨.if_ hk (by rw[ce ha,<-e1];exact w1) (by rw[ce J];exact w3) (by rw[ce hc,e2];exact w5),w4⟩
theorem RK(h:bad k=false)(G:KnK k):k=⟨5,0⟩∨k=⟨6,0⟩:=by
 obtain⟨a,b⟩:=k;have h1:=G.ne;simp only at h1;unfold bad okB at h;simp only[Bool.and_eq_false_iff,Bool.not_eq_false',aaB,aaa,aap,bne_eq_false_iff_eq]at h;rcases h with(⟨h,h'⟩|⟨h,h'⟩)|h
 ·exact .inl (by rw[h,h'])
 ·exact .inr (by rw[h,h'])
 ·exact absurd h h1
theorem Rg(h:(nM x a b s).fa.length<=s.fa.length)(J:KnK a)(hb:KnK b):a=b∧(a=⟨5,0⟩∨a=⟨6,0⟩)∧tH a b=a:=by
 unfold nM at h;split at h
 ·split at h<;>simp only[bL]at h<;>omega
 ·rename_i h1;split at h
  ·simp only[bL]at h;omega
  ·rename_i h2;have O:=sd h;have e:=rj (by simpa using O) J hb;have G:=RK (by simpa using h1) J;refine⟨e,G,?_⟩;rw[<-e];rcases G with G|G<;>rw[G]<;>rfl
theorem QA(h:(rK x a b s).fa.length<=s.fa.length)(G:KnK a)(hb:KnK b):a=⟨5,0⟩∧b=⟨5,0⟩:=by
 unfold rK at h;split at h
 ·rename_i h1;split at h<;>simp only[bL]at h<;>omega
 ·rename_i h1;have h2:=sd h;exact⟨rj (by simpa using h2) G (Ay<|by omega),rj (by simpa using h1) hb<|Ay<|by omega⟩
theorem RZ(a b:Kn):s.fa.length<=(nM x a b s).fa.length:=by
 unfold nM
 repeat' split
 all_goals (try simp only[bL])
 all_goals omega
theorem QG(a b:Kn):s.fa.length<=(rK x a b s).fa.length:=by
 unfold rK
 repeat' split
 all_goals (try simp only[bL])
 all_goals omega
theorem RS(hE:Cl E N)(hb:tbulk t<=N+1)(hx:exT t)(Z:t.kind=21):RunC x t env s (yI E x t env<|bh E x t 0 env s):=by
 obtain⟨a,b,e⟩:=DK<|(pQ hx).2.2.2 Z;have ha:t.kids[0]?=some a:=by rw[e];rfl
 have G:t.kids[1]?=some b:=by rw[e];rfl
 have hba:=aF ha;have hbb:=aF G;have n1:=(dj hx ha<|by omega).2;have n2:=(dj hx G<|by omega).2;have hU:uN t=uN a+uN b:=by rw[di,e,if_neg<|by omega];simp[uNs]
 have h:=mG hE (x:=x) (env:=env) (s:=s) ha (by omega) (dj hx ha<|by omega).1;generalize bh E x t 0 env s=r at h⊢;obtain⟨k1,s1⟩:=r;have g:=mG hE (x:=x) (env:=env) (s:=s1) G (by omega) (dj hx G<|by omega).1;show RunC x t env s (opQ x t.text k1<|bh E x t 1 env s1);generalize bh E x t 1 env s1=r at g⊢;obtain⟨k2,s2⟩:=r;have q1:=h.tg;have q2:=g.tg;have m1:=h.mo;have m2:=g.mo;simp only at q1 q2 m1 m2;have hop:uH t.text=true:=by have hs:=hx.1;rw[aY,Z]at hs;simp only[aaa]at hs;simpa[iQ]using hs.1.2
 have hmo:s2.fa.length<=(opQ x t.text k1 (k2,s2)).2.fa.length∧(opQ x t.text k1 (k2,s2)).2.tg=s2.tg:=by
  unfold opQ;simp only[];split
  ·exact⟨RZ _ _,(GN ..).1⟩
  ·split
   ·exact⟨ti.2,ti.1⟩
   ·exact⟨QG _ _,(Ic ..).1⟩
 refine⟨by rw[hmo.2,q2,q1,List.drop_drop,hU],by omega,λh1 h2 h3 h4 h5=>?_⟩;obtain⟨rest,hq⟩:=uU h5 (by simp[cH,Z]);rw[e]at hq;have hq1:=ng hq q1;obtain⟨w1,w2⟩:=h.wt (by simp only;omega) (h2.kid ha) (h3.go _) h4 ⟨_,eK hq⟩;obtain⟨J,w4⟩:=g.wt (by simp only;omega) (h2.kid G) (h3.go _) h4 ⟨_,eK hq1⟩;simp only at w1 w2 J w4;have O:(opQ x t.text k1 (k2,s2)).2.fa.length<=s2.fa.length:=by omega
 unfold opQ at O⊢;simp only[]at O⊢;by_cases t1:t.text=[43]
 ·rw[if_pos t1]at O⊢;obtain⟨e1,e2,e3⟩:=Rg O w2 w4;rw[e3];refine⟨?_,w2⟩;rcases e2 with e2|e2
  ·rw[e2]at w1 e1⊢;rw[<-e1]at J;exact .sum Z e n1 n2 t1 (.inl I) w1 J
  ·rw[e2]at w1 e1⊢;rw[<-e1]at J;exact .sum Z e n1 n2 t1 (.inr I) w1 J
 ·rw[if_neg t1]at O⊢;by_cases t2:t.text=[61,61]
  ·rw[if_pos t2]at O⊢;have e1:=rj (by simpa using sd O) w2 w4;rw[<-e1]at J;exact⟨.same Z e n1 n2 t2 w1 J,Ay<|by omega⟩
  ·rw[if_neg t2]at O⊢;obtain⟨e1,e2⟩:=QA O w2 w4;rw[e1]at w1;rw[e2]at J;by_cases t3:t.text=[60]
   ·rw[if_pos t3];exact⟨.less Z e n1 n2 t3 w1 J,Ay<|by omega⟩
   ·rw[if_neg t3];refine⟨.arith Z e n1 n2 ?_ w1 J,Ay<|by omega⟩;simp only[uH]at hop
    simp_all
theorem Lk(hE:Cl E N)(hb:tbulk t<=N+1)(hx:exT t)(hk:t.kind=18):∀(n i:Nat) (f:Kn) (s:Sv),n+i=t.kids.length->
  (fc E x t env n i (f,s)).2.tg=s.tg.drop (uNs<|t.kids.drop i)∧s.fa.length<=(fc E x t env n i (f,s)).2.fa.length∧
  ((fc E x t env n i (f,s)).2.fa.length<=s.fa.length->NoH t->CX x->(∀b∈env,KnK b.typ)->(∃rest,s.tg=ca x.p x.mo (nodKs (t.kids.drop i) x.pa i)++rest)->(f.simple=0∨KnK f)->
   (n=0->(fc E x t env n i (f,s)).1=f)∧(0<n->KnK (fc E x t env n i (f,s)).1∧(KnK f->(fc E x t env n i (f,s)).1=f)∧∀(j:Nat) (u:Tree),i<=j->t.kids[j]?=some u->WT x.p x.mo env u (fc E x t env n i (f,s)).1))
 |0,i,f,s,hn=>by simp only[fc];have e:t.kids.drop i=[]:=List.drop_of_length_le (by omega);refine⟨by rw[e];simp[uNs],aaf _,λ_ _ _ _ _ _=>⟨λ_=>trivial,λh=>by omega⟩⟩
 | n+1,i,f,s,hn=>by
  have hu:=lh (t:=t) (i:=i) (by omega);generalize aM t i=u at hu;have hbu:=aF hu;have h:=mG hE (x:=x) (env:=env) (s:=s) hu (by omega) (dj hx hu<|by omega).1;simp only[fc];generalize bh E x t i env s=r at h⊢;obtain⟨k,s1⟩:=r;simp only[Fz];obtain⟨f',hf'⟩:∃f',f'=(if f.simple=0 then k else f):=⟨_,rfl⟩;rw[<-hf'];obtain⟨s2,hs2⟩:∃s2,s2=(if bZ k f' then faP x 6 [(i:Int)] s1 else s1):=⟨_,rfl⟩;have i2:s2.tg=s1.tg∧s1.fa.length<=s2.fa.length:=by rw[hs2];exact ti
  have d2:s2.fa.length<=s1.fa.length->bZ k f'=false:=λh=>by rw[hs2]at h;simpa using sd h
  rw[<-hs2];clear hs2;obtain⟨g1,g2,g3⟩:=Lk hE hb hx hk n (i+1) f' s2 (by omega);have q1:=h.tg;have m1:=h.mo;simp only at q1 m1;have hdr:t.kids.drop i=u::t.kids.drop (i+1):=by rw[aX hu]
  refine⟨by rw[g1,i2.1,q1,List.drop_drop,hdr,uNs],by omega,λh1 h2 h3 h4 h5 h6=>⟨λh=>by omega,λ_=>?_⟩⟩;obtain⟨rest,hq⟩:=h5;rw[hdr]at hq;have hq1:=ng hq (show s2.tg=_ by rw[i2.1,q1]);obtain⟨w1,w2⟩:=h.wt (by simp only;omega) (h2.kid hu) (h3.go _) h4 ⟨_,eK hq⟩;simp only at w1 w2;have hkf:KnK f':=by
   rw[hf'];split
   ·exact w2
   ·rename_i hne;exact h6.elim (λh=>absurd h hne) id
  have e1:k=f':=rj (d2<|by omega) w2 hkf;obtain⟨r1,r2⟩:=g3 (by omega) h2 h3 h4 ⟨_,hq1⟩<|.inr hkf;have efin:(fc E x t env n (i+1) (f',s2)).1=f':=by
   rcases Nat.eq_zero_or_pos n with h0|h0
   ·exact r1 h0
   ·exact(r2 h0).2.1 hkf
  rw[efin];refine⟨hkf,λhkf0=>by rw[hf',if_neg hkf0.ne],λj v hj hv=>?_⟩;rcases Nat.lt_or_ge i j with hj'|hj'
  ·have h0:0<n:=by have :=(List.getElem?_eq_some_iff.1 hv).1;omega
   have :=(r2 h0).2.2 j v (by omega) hv
   rwa [efin]at this
  ·have :j=i:=by omega
   subst this;rw[hu]at hv;rw[<-Option.some.inj hv,<-e1];exact w1
theorem PJ(hE:Cl E N)(hb:tbulk t<=N+1)(hx:exT t)(J:t.kind=18):RunC x t env s (lI<|fc E x t env t.kids.length 0 (⟨0,0⟩,s)):=by
 obtain⟨O,g2,g3⟩:=Lk hE (x:=x) (env:=env) hb hx J t.kids.length 0 ⟨0,0⟩ s (by omega);have G:0<t.kids.length:=by
  have hs:=hx.1;rw[aY,J]at hs;simp only[aaa,aaj]at hs;have :=hs.1.1;simp only[dJ,f0]at this
  repeat' split at this
  all_goals omega
 rw[List.drop_zero]at O;have hU:uN t=uNs t.kids:=by rw[di,if_neg<|by omega];simp
 generalize fc E x t env t.kids.length 0 (⟨0,0⟩,s)=r at O g2 g3⊢;obtain⟨k,s1⟩:=r;simp only at O g2 g3;refine⟨by rw[hU];exact O,g2,λh1 h2 h3 h4 h5=>?_⟩;obtain⟨r1,r2⟩:=g3 h1 h2 h3 h4 (by rw[List.drop_zero];exact uU h5<|by simp[cH,J])<|.inl trivial;obtain⟨Z,_,e2⟩:=r2 G;simp only[lI];rw[if_neg Z.ne];exact⟨.list J Z.2 (λi u hu=>(dj hx hu<|by omega).2) (λi u hu=>e2 i u (by omega) hu),⟨Z.1,by have :=Z.2;simp only;omega⟩⟩
theorem HJ(hE:Cl E N)(hb:tbulk t<=N+1)(hx:exT t)(hk:t.kind=16)(ps:List Kn):∀(l:YT) (i:Nat) (s:Sv),l=t.kids.drop i->
  (fj E x ps env l i s).tg=s.tg.drop (uNs l)∧s.fa.length<=(fj E x ps env l i s).fa.length∧
  ((fj E x ps env l i s).fa.length<=s.fa.length->NoH t->CX x->(∀b∈env,KnK b.typ)->(∃rest,s.tg=ca x.p x.mo (nodKs l x.pa i)++rest)->
   ∀(j:Nat) (u:Tree) (q:Kn),i<=j->t.kids[j]?=some u->ps[j]?=some q->KnK q->WT x.p x.mo env (aM u 0) q)
 |[],i,s,hl=>by simp only[fj];refine⟨by simp[uNs],aaf _,λ_ _ _ _ _ j u q hj hu=>?_⟩;have h1:=(List.getElem?_eq_some_iff.1 hu).1;have h2:=congrArg List.length hl;rw[aal,aae]at h2;omega
 | a::r,i,s,hl=>by
  have ha:t.kids[i]?=some a:=by
   have :(t.kids.drop i)[0]?=some a:=by rw[<-hl];rfl
   simpa using this
  have hr:r=t.kids.drop (i+1):=by have :=congrArg List.tail hl;simpa using this
  have hba:=aF ha;obtain⟨a1,a2,a3⟩:=BI hx ha hk;obtain⟨u0,e0⟩:=AP a2;have hu0:a.kids[0]?=some u0:=by rw[e0];rfl
  have hbu:=aF hu0;rw[ce hu0]at a3;have hUa:uN a=uN u0:=by rw[di,e0,if_neg<|by omega];simp[uNs]
  have h:=mG hE (x:=x.go (i:Int)) (env:=env) (s:=s) hu0 (by omega) a3;simp only[fj];generalize bh E (x.go (i:Int)) a 0 env s=r1 at h⊢;obtain⟨k,s1⟩:=r1;have q1:=h.tg;have m1:=h.mo;simp only at q1 m1;obtain⟨s2,hs2⟩:∃s2,s2=sL x ps i (k,s1):=⟨_,rfl⟩;have i2:s2.tg=s1.tg∧s1.fa.length<=s2.fa.length:=by
   rw[hs2];simp only[sL];split
   ·exact ti
   ·exact⟨I,aaf _⟩
  have d2:s2.fa.length<=s1.fa.length->∀q,ps[i]?=some q->bZ k q=false:=λh q hq=>by rw[hs2]at h;simp only[sL,hq]at h;simpa using sd h
  rw[<-hs2];clear hs2;obtain⟨g1,g2,g3⟩:=HJ hE hb hx hk ps r (i+1) s2 hr;refine⟨by rw[g1,i2.1,q1,List.drop_drop,uNs,hUa],by omega,λh1 h2 h3 h4 h5 j u q hj hu hq hkq=>?_⟩;obtain⟨rest,hqt⟩:=h5;have hq1:=ng hqt (show s2.tg=_ by rw[i2.1,q1,hUa]);rcases Nat.lt_or_ge i j with hj'|hj'
  ·exact g3 (by omega) h2 h3 h4 ⟨_,hq1⟩ j u q (by omega) hu hq hkq
  ·have :j=i:=by omega
   subst this;rw[ha]at hu;have :=Option.some.inj hu;subst this;have hh:=eK hqt;rw[kY,ca,show cH a=false by simp[cH,a1],e0,nodKs,nodKs,aau]at hh;obtain⟨w1,w2⟩:=h.wt (by simp only;omega) ((h2.kid ha).kid hu0) ((h3.go _).go _) h4 ⟨_,by simpa[Cx.go]using hh⟩;have e1:=rj (d2 (by omega) q hq) w2 hkq;simp only at w1;rw[ce hu0,<-e1];exact w1
theorem OB(hE:Cl E N)(hb:tbulk t<=N+1)(hx:exT t)(O:t.kind=16):RunC x t env s (se E x t env s):=by
 have hU:uN t=1+uNs t.kids:=by rw[di,if_pos<|.inl O]
 unfold se;obtain⟨g,hg⟩:∃g,g=s.tg.headD noT:=⟨_,rfl⟩;rw[<-hg];obtain⟨G,J⟩:∃G,G=wN x t g (mv x g) (cS s):=⟨_,rfl⟩;have i2:G.tg=s.tg.drop 1∧s.fa.length<=G.fa.length:=by
  rw[J];unfold wN;split
  ·exact⟨I,by rw[bL];exact Nat.le_succ _⟩
  ·split
   ·exact⟨I,aaf _⟩
   ·exact⟨I,by rw[bL];exact Nat.le_succ _⟩
 have d2:G.fa.length<=s.fa.length->g.Free=false∧(mv x g).params.length=t.kids.length:=λh=>by
  rw[J]at h;unfold wN at h;split at h
  ·rw[bL]at h;exact absurd h<|Nat.not_succ_le_self _
  ·rename_i h1;split at h
   ·rename_i h2;exact⟨by simpa using h1,h2⟩
   ·rw[bL]at h;exact absurd h<|Nat.not_succ_le_self _
 rw[<-J];clear J;obtain⟨g1,g2,g3⟩:=HJ hE (x:=x) (env:=env) hb hx O (mv x g).params t.kids 0 G (by simp);refine⟨by show(fj E x (mv x g).params env t.kids 0 G).tg=_;rw[g1,i2.1,List.drop_drop,hU],by show _<=(fj E x (mv x g).params env t.kids 0 G).fa.length;omega,λh1 h2 h3 h4 h5=>?_⟩;have h1':(fj E x (mv x g).params env t.kids 0 G).fa.length<=s.fa.length:=h1;obtain⟨rest,Z⟩:=h5;have hq':s.tg=tgK x.p x.mo x.pa t::(ca x.p x.mo (nodKs t.kids x.pa 0)++rest):=by rw[Z,kY,ca,show cH t=true by simp[cH,O]];rfl
 have hgt:g=tgK x.p x.mo x.pa t:=by rw[hg,hq'];rfl
 obtain⟨d3,d4⟩:=d2 (by omega);have hfd:(aC x.p x.mo t.text).2.2=true:=by rw[hgt]at d3;simpa[tgK]using d3
 obtain⟨i,d,tt,f,a1,a2,a3,a4,a5,a6⟩:=Li h3.ok O hx.1 hfd;have hcg:mv x g=cF x.p (i:Int) f:=by unfold mv;rw[if_neg (by rw[d3];decide),h3.sg,hgt];have :=zq (P:=x.p) (key:=((i:Int),(d:Int))) x.p 0 i d [] tt f a3 a4 a5 (by simp);rw[show((tgK x.p x.mo x.pa t).Module,(tgK x.p x.mo x.pa t).Def)=((i:Int),(d:Int)) by simp[tgK,a1,a2],this];simp
 obtain⟨f1,_⟩:=mE a6 a5;have hpl:(cF x.p (i:Int) f).params.length=f.kids.length-2:=by simp[cF]
 have h1s:(fj E x (mv x g).params env t.kids 0 G).fa.length<=G.fa.length:=by omega
 rw[hcg]at d4 g3 h1s⊢;obtain⟨s1,s2'⟩:=h3.sig i d tt f a3 a4 a5;have hdef:fm x.p (aC x.p x.mo t.text).1 (aC x.p x.mo t.text).2.1=f:=by unfold fm;rw[a1,a2,Int.toNat_natCast,Int.toNat_natCast,List.getD_eq_getElem?_getD,a3];exact ce a4
 have hwt:=WT.call (p:=x.p) (m:=x.mo) (env:=env) O hfd hdef a5 (by rw[hpl]at d4;omega) (by rw[a1];exact d4) (λj u hu=>(BI hx hu O).1) (λj u q hu Z=>by rw[a1]at Z;exact g3 h1s h2 h3 h4 ⟨rest,by rw[i2.1,hq'];rfl⟩ j u q (by omega) hu Z (s2' q (List.mem_of_getElem? Z)))
 rw[a1]at hwt;exact⟨hwt,s1⟩
end
theorem ON{E:Ev}{N:Nat}(G:Cl E N):Cl (bA E) (N+1):=λt hb hx x env s=>by
 have hk':10<=t.kind∧t.kind<=22∧t.kind≠17:=by simpa[fv]using hx.2
 have leaf:∀z:Int,t.kind<=15->bA E x t env s=(⟨z,0⟩,s)->(z=5∨z=6∨z=7)->(WT x.p x.mo env t ⟨z,0⟩)->RunC x t env s (bA E x t env s):=λz h1 h2 h3 O=>by rw[h2];exact⟨by rw[Fl hx (by omega) h1];rfl,aaf _,λ_ _ _ _ _=>⟨O,Ay h3⟩⟩
 by_cases h:t.kind=10
 ·exact leaf 5 (by omega) (by simp[bA,h]) (by omega)<|.num h
 by_cases h:t.kind=11
 ·exact leaf 6 (by omega) (by simp[bA,h]) (by omega)<|.text h
 by_cases h:t.kind=13
 ·exact leaf 7 (by omega) (by simp[bA,h]) (by omega)<|.true_ h
 by_cases h:t.kind=14
 ·exact leaf 7 (by omega) (by simp[bA,h]) (by omega)<|.false_ h
 by_cases h:t.kind=12
 ·have e:bA E x t env s=vo x s (ji t.text env):=by simp[bA,h]
  have h0:=Fl hx (by omega) (by omega);rw[e];cases hv:ji t.text env with
  |none=>exact⟨by rw[h0];rfl,by show _<=(faP x 1 [] s).fa.length;rw[bL];omega,λh1=>by have :(faP x 1 [] s).fa.length<=s.fa.length:=h1;rw[bL]at this;omega⟩
  |some k=>
   refine⟨by rw[h0];rfl,aaf _,λ_ _ _ O _=>⟨.var h hv,?_⟩⟩;obtain⟨b,Z,hb2⟩:=Hs hv;have :=O b Z
   rwa [hb2]at this
 by_cases h:t.kind=16
 ·have e:bA E x t env s=se E x t env s:=by simp[bA,h]
  rw[e];exact OB G hb hx h
 by_cases h:t.kind=18
 ·have e:bA E x t env s=lI (fc E x t env t.kids.length 0 (⟨0,0⟩,s)):=by simp[bA,h]
  rw[e];exact PJ G hb hx h
 by_cases h:t.kind=19
 ·have e:bA E x t env s=ifP E x t env s:=by simp[bA,h]
  rw[e];exact Su G hb hx h
 by_cases h:t.kind=20
 ·have e:bA E x t env s=Jg E x t env (bh E x t 0 env s):=by simp[bA,h]
  rw[e];exact RP G hb hx h
 by_cases h:t.kind=21
 ·have e:bA E x t env s=yI E x t env (bh E x t 0 env s):=by simp[bA,h]
  rw[e];exact RS G hb hx h
 by_cases h:t.kind=22
 ·have e:bA E x t env s=bh E x t 0 env s:=by simp[bA,h]
  rw[e];exact Nd G hb hx h
 ·have J:t.kind=15:=by omega
  have e:bA E x t env s=(⟨0,0⟩,s):=by simp[bA,J]
  rw[e];exact⟨by rw[Fl hx (by omega)<|by omega];rfl,aaf _,λ_ h2=>absurd J<|h2 [] t I⟩
theorem Km:∀n,Cl (ib n) n
 |0=>λt hb=>by have :=bw t;omega
 |n+1=>ON<|Km n
theorem CZ{p:YT}{s:Int×Int}:∀(L:List<|Int×Int) (f:Nat) (seen:List<|Int×Int) (b:Int×Int),L.length+1<=f->(b::L).Nodup->(∀y∈b::L,y∉seen)->s∉b::L->
  (∀(i:Nat) (y z:Int×Int),(b::L)[i]?=some y->(b::L)[i+1]?=some z->dK p y=some z)->(∀y,(b::L).getLast?=some y->dK p y=some s)->iX p s f.succ seen (some b)=true
 |[],f,seen,b,hf,J,hs,hb,G,O=>by have h1:b≠s:=λe=>hb (by simp[e]);have h2:b∉seen:=hs b (by simp);obtain⟨f',rfl⟩:∃k,f=k+1:=⟨f-1,by simp at hf;omega⟩;rw[iX,if_neg h1,if_neg h2,O b (by simp),iX,if_pos rfl]
 |c::L,f,seen,b,hf,J,hs,hb,G,O=>by
  have h1:b≠s:=λe=>hb (by simp[e]);have h2:b∉seen:=hs b (by simp);obtain⟨f',rfl⟩:∃k,f=k+1:=⟨f-1,by simp at hf;omega⟩;rw[iX,if_neg h1,if_neg h2,G 0 b c rfl rfl];refine CZ L f' (b::seen) c (by simp only[aac]at hf;omega) (List.nodup_cons.1 J).2 (λy hy Z=>?_) (λh=>hb<|List.mem_cons_of_mem _ h) (λi y z a b=>G (i+1) y z (by simpa using a)<|by simpa using b) (λy hy=>O y<|by simpa using hy);rcases List.mem_cons.1 Z with e|Z
  ·rw[e]at hy;exact(List.nodup_cons.1 J).1 hy
  ·exact hs y (List.mem_cons_of_mem _ hy) Z
def Tu(p:YT)(a:Int×Int):Prop:=∃(i d:Nat) (t x:Tree),a=((i:Int),(d:Int))∧p[i]?=some t∧t.kids[d]?=some x∧x.kind=3
def Jt(p:YT):Prop:=∀(i d:Nat) (t x:Tree),p[i]?=some t->t.kids[d]?=some x->x.kind=3->oK p i d=false∧((leafK<|na p i d).kind=9->(aC p i (leafK<|na p i d).text).2.2=true)
def Oi(p:YT)(l:List<|Int×Int):Prop:=∀(k:Nat) (y z:Int×Int),l[k+1]?=some y->l[k]?=some z->dK p y=some z
theorem FQ{α:Type}{a:α}:∀{l:List α} {j:Nat},l.Nodup->l[j]?=some a->a∉l.take j
 |[],j,h,O=>by simp at O
 |x::l,0,h,O=>by simp
 |x::l,j+1,h,O=>λG=>by
  obtain⟨h1,h2⟩:=List.nodup_cons.1 h;have J:l[j]?=some a:=by simpa using O
  simp only[List.take_succ_cons,aah]at G;rcases G with G|G
  ·exact h1 (by rw[<-G];exact List.mem_of_getElem? J)
  ·exact FQ h2 J G
theorem Kt{seen:List<|Int×Int}{a:Int×Int}(hs:oB p seen)(hc:Oi p seen)(hm:a∈seen)(hh:∀h,seen[0]?=some h->dK p h=some a):iX p a (kbulk p+1) [] (dK p a)=true:=by
 obtain⟨j,hj,e⟩:=aat hm;have hja:seen[j]?=some a:=by rw[List.getElem?_eq_getElem hj,e]
 cases j with
 |zero=>rw[hh a hja,iX,if_pos rfl]
 | succ j=>
  have hb:seen[j]?=some seen[j]:=List.getElem?_eq_getElem (by omega);have hlen:=tJ hs;have hrev:∀i,((seen.take<|j+1).reverse)[i]?=if i<j+1 then seen[j-i]? else none:=λi=>by
   have hl:(seen.take<|j+1).length=j+1:=by rw[aak];omega
   split
   ·rename_i hi;rw[List.getElem?_reverse (by omega),hl,List.getElem?_take,if_pos (by omega),show j+1-1-i=j-i by omega]
   ·rw[List.getElem?_eq_none (by rw[List.length_reverse];omega)]
  obtain⟨b,L,hL⟩:∃b L,(seen.take (j+1)).reverse=b::L:=by
   cases hq:(seen.take (j+1)).reverse with
   |nil=>have :=congrArg List.length hq;rw[List.length_reverse,aak,aae]at this;omega
   |cons b L=>exact⟨b,L,rfl⟩
  have hb0:b=seen[j]:=by have :=hrev 0;rw[hL,if_pos (by omega),Nat.sub_zero,hb]at this;simpa using this
  rw[hc j a b hja (by rw[hb0];exact hb)];have hlL:L.length+1=j+1:=by have :=congrArg List.length hL;rw[List.length_reverse,aak,aac]at this;omega
  refine CZ L (kbulk p) [] b (by omega) (by rw[<-hL];exact List.pairwise_reverse.2 ((List.Pairwise.sublist (List.take_sublist _ _) hs.1).imp λh=>h.symm)) (λy _ h=>by cases h) (λh=>FQ hs.1 hja (by rw[<-List.mem_reverse,hL];exact h)) (λi y z hy hz=>?_) λy hy=>?_
  ·rw[<-hL,hrev]at hy hz;split at hz
   ·rw[if_pos<|by omega]at hy;exact hc (j-(i+1)) y z (by rw[show j-(i+1)+1=j-i by omega];exact hy) hz
   ·cases hz
  ·rw[<-hL,List.getLast?_reverse]at hy;refine hh y ?_;rw[List.head?_eq_getElem?,List.getElem?_take,if_pos<|by omega]at hy;exact hy
theorem HK{p:YT}(hp:bn p=true)(hA:Jt p):∀(f:Nat) (seen:List<|Int×Int) (n:Nat) (M:Int) (u:Tree),oB p seen->kbulk p+1<=f+seen.length->tyK u->u.kind≠8->Oi p seen->
  (∀h,seen[0]?=some h->∃(i d:Nat) (t x:Tree),h=((i:Int),(d:Int))∧p[i]?=some t∧t.kids[d]?=some x∧x.kind=3∧M=(i:Int)∧u=leafK (na p i d))->(u.kind=9->(aC p M u.text).2.2=true)->(∀a∈seen,Tu p a)->(jf p f seen n M u).2=0
 |0,seen,n,M,u,hs,hf,_,_,_,_,_,_=>by have :=tJ hs;omega
 | f +1,seen,n,M,u,hs,hf,hu,h8,hc,hh,hl,hI=>by
  by_cases h9:u.kind=9
  ·have hfd:=hl h9;rw[jf,if_pos h9,if_neg (by rw[hfd];decide)];obtain⟨i,d,t,a,b',g1,g2,g3,g4,g5,g6,g7⟩:=xT hp h9 hu.1 hfd;rw[g1,g2];have hnx:∀h,seen[0]?=some h->dK p h=some ((i:Int),(d:Int)):=λh h0=>by
    obtain⟨i',d',t',x',e1,e2,e3,e4,e5,e6⟩:=hh h h0;rw[e1,zX e2 e3 e4,<-e6,<-e5,if_pos ⟨h9,hfd⟩,g1,g2]
   by_cases hm:((i:Int),(d:Int))∈seen
   ·have h1:=Kt hs hc hm hnx;have h2:=(hA i d t a g3 g4 g5).1;unfold oK at h2;rw[if_pos ⟨hp,Int.natCast_nonneg i,Int.natCast_nonneg d⟩,h1]at h2;cases h2
   ·rw[if_neg hm];have hal:=tx g3 g4 g6;have hA2:=(hA i d t a g3 g4 g5).2;rw[hal]at hA2⊢;obtain⟨t1,t2,_⟩:=py b' g7;refine HK hp hA f (((i:Int),(d:Int))::seen) (n+lisK b') i (leafK b') (rW hs g3 g4 hm) (by simp only[aac];omega) t1 t2 (λk y z hy hz=>?_) (λh h0=>?_) hA2 (λy hy=>?_)
    ·cases k with
     |zero=>
      simp only[List.getElem?_cons_zero,aad]at hz;rw[<-hz];exact hnx y (by simpa using hy)
     |succ k=>exact hc k y z (by simpa using hy) (by simpa using hz)
    ·simp only[List.getElem?_cons_zero,aad]at h0;exact⟨i,d,t,a,h0.symm,g3,g4,g5,I,by rw[hal]⟩
    ·rcases List.mem_cons.1 hy with rfl|hy
     ·exact⟨i,d,t,a,I,g3,g4,g5⟩
     ·exact hI y hy
  ·rw[jf,if_neg h9]
def Res(x:Cx)(u:Tree):Prop:=(leafK u).kind=9->(aC x.p x.mo (leafK u).text).2.2=true
structure Step (u:Nat) (s s':Sv):Prop where
 tg:s'.tg=s.tg.drop u
 mo:s.fa.length<=s'.fa.length
theorem Step.trans{u v:Nat}{s1 G:Sv}(h:Step u s s1)(g:Step v s1 G):Step (u+v) s G:=⟨by rw[g.tg,h.tg,List.drop_drop],by have :=h.mo;have :=g.mo;omega⟩
theorem Step.refl(s:Sv):Step 0 s s:=⟨by simp,aaf _⟩
theorem rE(h:t.kind≠8):leafK t=t:=by cases t;simp only[Tree.kind]at h;simp only[leafK,if_neg h]
theorem zi:∀(n:Nat) (u:Tree),tbulk u<=n->tyK u->∀(x:Cx) (s:Sv),Step (uN u) s (eC n x u s)∧((eC n x u s).fa.length<=s.fa.length->QT x u s->Res x u)
 |0,u,hb,_,_,_=>by have :=bw u;omega
 | n+1,u,hb,hu,x,s=>by
  have hbu:=bm u;rcases jk hu with⟨h8,_,v,hv,hvt⟩|⟨h8,hk,_⟩
  ·rw[hv]at hbu;simp only[kbulk]at hbu;have hU:uN u=uN v:=by rw[di,hv,h8];simp[uNs]
   have hv0:u.kids[0]?=some v:=by rw[hv];rfl
   have e:eC (n+1) x u s=eC n (x.go ((0:Nat):Int)) v s:=by simp[eC,h8,ce hv0]
   obtain⟨a1,a2⟩:=zi n v (by omega) hvt (x.go ((0:Nat):Int)) s;rw[e];refine⟨by rw[hU];exact a1,λh1 h2=>?_⟩;obtain⟨rest,hq⟩:=uU h2 (by simp[cH,h8]);rw[hv]at hq;have :=a2 h1 ⟨_,eK hq⟩;have hl:leafK u=leafK v:=(jo h8 hv).1;unfold Res;rw[hl];exact this
  ·by_cases h9:u.kind=9
   ·have hU:uN u=1:=by rw[di,hk,h9];simp[uNs]
    have e:eC (n+1) x u s=if(s.tg.headD noT).Free then faP x 1 [] (cS s)else cS s:=by simp[eC,h9]
    rw[e];have st:Step 1 s (cS s):=⟨rfl,aaf _⟩;have i2:(if(s.tg.headD noT).Free then faP x 1 [] (cS s)else cS s).tg=(cS s).tg∧(cS s).fa.length<=(if(s.tg.headD noT).Free then faP x 1 [] (cS s)else cS s).fa.length:=ti;refine⟨⟨by rw[i2.1,hU];rfl,i2.2⟩,λh1 h2=>?_⟩;obtain⟨rest,hq⟩:=h2;rw[kY,ca,show cH u=true by simp[cH,h9]]at hq;have hhd:s.tg.headD noT=tgK x.p x.mo x.pa u:=by rw[hq];rfl
    have :=sd<|show(if(s.tg.headD noT).Free then faP x 1 [] (cS s)else cS s).fa.length<=(cS s).fa.length from h1;rw[hhd]at this;intro _;rw[rE h8];simpa[tgK]using this
   ·have hU:uN u=0:=by rw[di,hk,if_neg];simp[uNs];have :=hu.2;simp[gN]at this;omega
    have e:eC (n+1) x u s=s:=by simp[eC,h9,h8]
    rw[e];refine⟨by rw[hU];exact Step.refl s,λ_ _ h=>?_⟩;rw[rE h8]at h;exact absurd h h9
theorem Ib{x:Cx}:∀(l:YT) (i:Nat) (s:Sv),(∀k∈l,∃v,k.kind=4∧k.kids=[v]∧tyK v)->
  Step (uNs l) s (mf x l i s)∧((mf x l i s).fa.length<=s.fa.length->(∃rest,s.tg=ca x.p x.mo (nodKs l x.pa i)++rest)->∀k∈l,Res x<|aM k 0)
 |[],i,s,_=>⟨by simpa[mf,uNs]using Step.refl s,λ_ _ k hk=>by cases hk⟩
 |k::r,i,s,h=>by
  obtain⟨v,h4,hv,O⟩:=h k (by simp);have Z:k.kids[0]?=some v:=by rw[hv];rfl
  have G:=ce Z;have hU:uN k=uN v:=by rw[di,hv,if_neg<|by omega];simp[uNs]
  obtain⟨a1,a2⟩:=zi (tbulk v) v (aaf _) O ((x.go i).go ((0:Nat):Int)) s;simp only[mf,G];generalize eC (tbulk v) ((x.go (i:Int)).go ((0:Nat):Int)) v s=s1 at a1 a2⊢;obtain⟨b1,b2⟩:=Ib r (i+1) s1 λc J=>h c<|List.mem_cons_of_mem _ J;have m1:=a1.mo;have m2:=b1.mo;refine⟨by rw[uNs,hU];exact a1.trans b1,λh1 h2=>?_⟩;obtain⟨rest,hq⟩:=h2;have hh:=eK hq;rw[kY,ca,show cH k=false by simp[cH,h4],hv,nodKs,nodKs,aau]at hh;have r1:=a2 (by omega) ⟨_,by simpa[Cx.go]using hh⟩;have hq1:=ng hq (show s1.tg=_ by rw[a1.tg,hU]);have r2:=b2 (by omega) ⟨_,hq1⟩;intro c J;rcases List.mem_cons.1 J with rfl|J
  ·rw[G];exact r1
  ·exact r2 c J
theorem Hn:∀(a b:YT),uNs (a++b)=uNs a+uNs b
 |[],b=>by simp[uNs]
 |t::r,b=>by simp only[aay,uNs,Hn r b];omega
theorem EV(p:YT)(m:Int)(l:YT)(q:YI)(i:Nat):(ca p m<|nodKs l q i).length=uNs l:=tgs_uNs p m l q i
def Cj(x:Cx)(f:Tree)(g:al):Prop:=(∀k∈f.kids.take (f.kids.length-2),Res x<|aM k 0)∧Res x (aM f<|f.kids.length-2)∧
 (NoH f->CX x->KnK g.result->(∀q∈g.params,KnK q)->WT x.p x.mo (fY (f.kids.take<|f.kids.length-2) g.params) (aM f<|f.kids.length-1) g.result)
theorem GV:∀{l:YT} {q:List Kn},(∀k∈q,KnK k)->∀b∈fY l q,KnK b.typ
 |[],_,h,b,hb=>by simp[fY]at hb
 |_::_,[],h,b,hb=>by simp[fY]at hb
 |t::l,k::q,h,b,hb=>by
  simp only[fY,aah]at hb;rcases hb with rfl|hb
  ·exact h k (by simp)
  ·exact GV (λc G=>h c<|List.mem_cons_of_mem _ G) b hb
theorem Pv{g:al}(hs:shapeK f=true)(h2:f.kind=2):Step (uN f) s (vj x f g s)∧((vj x f g s).fa.length<=s.fa.length->QT x f s->Cj x f g):=by
 obtain⟨s1,s2,s3,s4⟩:=mE hs h2;obtain⟨n,hn⟩:∃n,n+2=f.kids.length:=⟨f.kids.length-2,by omega⟩;have e2:f.kids.length-2=n:=by omega
 have e1:f.kids.length-1=n+1:=by omega
 obtain⟨r,hr⟩:∃r,f.kids[n]?=some r:=⟨_,List.getElem?_eq_getElem<|by omega⟩;obtain⟨b,hb⟩:∃b,f.kids[n+1]?=some b:=⟨_,List.getElem?_eq_getElem<|by omega⟩;have Z:=s3 r (by rw[e2];exact hr);have hbt:=s4 b (by rw[e1];exact hb);have hsplit:f.kids=f.kids.take n++[r,b]:=by
  have h1:f.kids.drop n=[r,b]:=by
   rw[aX hr,aX hb,List.drop_of_length_le<|by omega]
  rw[<-h1,aas]
 have G:(f.kids.take n).length=n:=by rw[aak];omega
 have J:∀k∈f.kids.take n,∃v,k.kind=4∧k.kids=[v]∧tyK v:=λk hk=>by
  obtain⟨i,hi,rfl⟩:=aat hk;rw[G]at hi;rw[List.getElem_take];exact s2 i _ (List.getElem?_eq_getElem<|by omega) (by omega)
 have hU:uN f=uNs (f.kids.take n)+(uN r+uN b):=by rw[di,if_neg (by omega),show uNs f.kids=uNs (f.kids.take n++[r,b])from congrArg uNs hsplit,Hn];simp[uNs]
 unfold vj Cj;rw[e1,e2,ce hr,ce hb];obtain⟨a1,a2⟩:=Ib (x:=x) (f.kids.take n) 0 s J;generalize mf x (f.kids.take n) 0 s=sA at a1 a2⊢;have hbr:=aF hr;obtain⟨O,b2⟩:=zi (tbulk f) r (by omega) Z (x.go (n:Int)) sA;generalize eC (tbulk f) (x.go (n:Int)) r sA=sB at O b2⊢;have hbb:=aF hb;have c:=mG (Km<|tbulk f) (x:=x) (env:=fY (f.kids.take n) g.params) (s:=sB) hb (by omega) hbt;generalize bh (ib<|tbulk f) x f (n+1) (fY (f.kids.take n) g.params) sB=rc at c⊢;obtain⟨k,sC⟩:=rc;simp only[funQ];have i4:(if bZ k g.result then faP x 4 [((n+1:Nat):Int)] sC else sC).tg=sC.tg∧sC.fa.length<=(if bZ k g.result then faP x 4 [((n+1:Nat):Int)] sC else sC).fa.length:=ti;have q3:=c.tg;have m1:=a1.mo;have m2:=O.mo;have m3:=c.mo;simp only at q3 m3;refine⟨⟨by rw[i4.1,q3,O.tg,a1.tg,List.drop_drop,List.drop_drop,hU],by omega⟩,λh1 h5=>?_⟩;obtain⟨rest,hq⟩:=uU h5 (by simp[cH,h2]);rw[hsplit,CF,rQ,G,Nat.zero_add,aaq]at hq;have r1:=a2 (by omega) ⟨_,hq⟩;have hqA:sA.tg=ca x.p x.mo (nodKs [r,b] x.pa n)++rest:=by rw[a1.tg,hq,<-EV x.p x.mo (f.kids.take n) x.pa 0,List.drop_left]
 have r2:=b2 (by omega) ⟨_,by simpa[Cx.go]using eK hqA⟩;have hqB:=ng hqA<|show sB.tg=_ from O.tg;refine⟨r1,r2,λh6 h7 h8 h9=>?_⟩;obtain⟨w1,w2⟩:=c.wt (by simp only;omega) (h6.kid hb) (h7.go _) (GV h9) ⟨_,by simpa[Cx.go]using eK hqB⟩;simp only at w1 w2;have e3:k=g.result:=rj (by simpa using sd (show(if bZ k g.result then faP x 4 [((n+1:Nat):Int)] sC else sC).fa.length<=sC.fa.length by omega)) w2 h8;rw[<-e3];exact w1
def JF(x:Cx)(d:Nat)(f:Tree):Prop:=(f.kind=3->oK x.p x.mo (d:Int)=false∧Res x (aM f 0))∧(f.kind=2->Cj x f ((aL (x.mo,(d:Int)) x.sg).getD noG))
theorem Cj.go{g:al}{i:Int}(h:Cj (x.go i) f g):Cj x f g:=⟨h.1,h.2.1,λa b=>h.2.2 a (b.go i)⟩
theorem Px{d:Nat}(hs:shapeK f=true)(hk:f.kind=2∨(f.kind=3∧∃v,f.kids=[v]∧tyK v)):Step (uN f) s (oZ x d f s)∧((oZ x d f s).fa.length<=s.fa.length->QT (x.go (d:Int)) f s->JF x d f):=by
 unfold oZ;rcases hk with h2|⟨h3,v,hv,O⟩
 ·rw[if_pos h2];obtain⟨a1,Z⟩:=Pv (x:=x.go (d:Int)) (g:=(aL (x.mo,(d:Int)) x.sg).getD noG) (s:=s) hs h2;exact⟨a1,λh4 h5=>⟨λh=>by omega,λ_=>(Z h4 h5).go⟩⟩
 ·rw[if_neg<|by omega];have G:f.kids[0]?=some v:=by rw[hv];rfl
  have hbv:=aF G;have hU:uN f=uN v:=by rw[di,hv,if_neg<|by omega];simp[uNs]
  unfold JA;rw[ce G];obtain⟨s1,J⟩:∃s1,s1=(if oK (x.go (d:Int)).p (x.go (d:Int)).mo (d:Int)=true then faP (x.go (d:Int)) 5 [] s else s):=⟨_,rfl⟩;have i1:s1.tg=s.tg∧s.fa.length<=s1.fa.length:=by rw[J];exact ti
  have d1:s1.fa.length<=s.fa.length->oK x.p x.mo (d:Int)=false:=λh=>by rw[J]at h;have :=sd h;exact(Bool.not_eq_true _).mp this
  rw[<-J];obtain⟨a1,Z⟩:=zi (tbulk f) v (by omega) O ((x.go (d:Int)).go ((0:Nat):Int)) s1;have m1:=a1.mo;refine⟨⟨by rw[a1.tg,i1.1,hU],by omega⟩,λh4 h5=>⟨λ_=>⟨d1 (by omega),?_⟩,λh=>by omega⟩⟩;obtain⟨rest,hq⟩:=uU h5 (by simp[cH,h3]);rw[hv]at hq;rw[ce G];exact Z (by omega) ⟨_,by rw[i1.1];exact eK hq⟩
def DOk(f:Tree):Prop:=shapeK f=true∧(f.kind=2∨(f.kind=3∧∃v,f.kids=[v]∧tyK v))
theorem FI{x:Cx}:∀(l:YT) (d:Nat) (s:Sv),(∀f∈l,DOk f)->Step (uNs l) s (kq x l d s)∧((kq x l d s).fa.length<=s.fa.length->(∃rest,s.tg=ca x.p x.mo (nodKs l x.pa d)++rest)->∀(j:Nat) (f:Tree),l[j]?=some f->JF x (d+j) f)
 |[],d,s,_=>⟨by simpa[kq,uNs]using Step.refl s,λ_ _ j f hf=>by simp at hf⟩
 | f::r,d,s,h=>by
  obtain⟨h1,h2⟩:=h f (by simp);obtain⟨a1,a2⟩:=Px (x:=x) (d:=d) (s:=s) h1 h2;simp only[kq];generalize oZ x d f s=s1 at a1 a2⊢;obtain⟨b1,b2⟩:=FI r (d+1) s1 λc hc=>h c<|List.mem_cons_of_mem _ hc;have m1:=a1.mo;have m2:=b1.mo;refine⟨by rw[uNs];exact a1.trans b1,λh3 h4 j g hg=>?_⟩;obtain⟨rest,hq⟩:=h4;cases j with
  |zero=>
   simp only[List.getElem?_cons_zero,aad]at hg;subst hg;exact a2 (by omega) ⟨_,by simpa[Cx.go]using eK hq⟩
  |succ j=>
   have :=b2 (by omega) ⟨_,ng hq a1.tg⟩ j g (by simpa using hg)
   rwa [show d+1+j=d+(j+1) by omega]at this
theorem Fo{x:Cx}(hpa:x.pa=[]):∀(l:YT) (m:Nat) (s:Sv),(∀t∈l,cH t=false∧(t.kind≠16∧t.kind≠9)∧∀f∈t.kids,DOk f)->Step (uNs l) s (lw x l m s)∧((lw x l m s).fa.length<=s.fa.length->(∃rest,s.tg=gH x.p m l++rest)->
  ∀(j d:Nat) (t f:Tree),l[j]?=some t->t.kids[d]?=some f->JF (x.md ((m+j:Nat):Int)) d f)
 |[],m,s,_=>⟨by simpa[lw,uNs]using Step.refl s,λ_ _ j d t f hf=>by simp at hf⟩
 | t::r,m,s,h=>by
  obtain⟨h1,h2,h3⟩:=h t (by simp);obtain⟨a1,a2⟩:=FI (x:=x.md (m:Int)) t.kids 0 s h3;simp only[lw];generalize kq (x.md (m:Int)) t.kids 0 s=s1 at a1 a2⊢;obtain⟨b1,b2⟩:=Fo hpa r (m+1) s1 λc hc=>h c<|List.mem_cons_of_mem _ hc;have hU:uN t=uNs t.kids:=by rw[di,if_neg<|by omega];simp
  have m1:=a1.mo;have m2:=b1.mo;refine⟨by rw[uNs,hU];exact a1.trans b1,λh4 h5 j d t' f ht hf=>?_⟩;obtain⟨rest,hq⟩:=h5;simp only[gH]at hq;rw[kY,ca,h1]at hq;have hq0:s.tg=ca (x.md (m:Int)).p (x.md (m:Int)).mo (nodKs t.kids (x.md (m:Int)).pa 0)++(gH x.p (m+1) r++rest):=by rw[hq];show _=ca x.p (m:Int) (nodKs t.kids x.pa 0)++_;rw[hpa];simp
  cases j with
  |zero=>
   simp only[List.getElem?_cons_zero,aad]at ht;subst ht;have :=a2 (by omega) ⟨_,hq0⟩ d f hf;rw[Nat.zero_add]at this;exact this
  | succ j=>
   have hq1:s1.tg=gH x.p (m+1) r++rest:=by rw[a1.tg,hq0,<-EV (x.md (m:Int)).p (x.md (m:Int)).mo t.kids (x.md (m:Int)).pa 0,List.drop_left]
   have :=b2 (by omega) ⟨_,hq1⟩ j d t' f (by simpa using ht) hf
   rwa [show m+1+j=m+(j+1) by omega]at this
theorem Bl:∀(n:Nat) (t:Tree),t.kind≠8->leafK (en n t)=t∧lisK (en n t)=n
 |0,t,h=>⟨rE h,by cases t;simp only[Tree.kind]at h;simp only[en,lisK,if_neg h]⟩
 |n+1,t,h=>by obtain⟨h1,h2⟩:=Bl n t h;obtain⟨G,J⟩:=jo (t:=en (n+1) t) (u:=en n t) (r:=[]) rfl rfl;exact⟨G.trans h1,by rw[J,h2]⟩
theorem CB(hp:bn p=true)(hA:Jt p){m:Nat}(hm:m<p.length)(ht:tyK t)(hr:(leafK t).kind=9->(aC p (m:Int) (leafK t).text).2.2=true):KnK (tyN p (m:Int) t):=by
 obtain⟨Z,l2,_⟩:=py t ht;unfold tyN;by_cases O:(leafK t).kind=9
 ·rw[if_pos O];obtain⟨u,G⟩:∃u,u=Tree.node 9 (leafK t).text [] []:=⟨_,rfl⟩;have hk:(leafK t).kids=[]:=by
   rcases jk Z with⟨h8,_⟩|⟨_,hk,_⟩
   ·omega
   ·exact hk
  have J:tyK u:=by refine⟨?_,by rw[G];rfl⟩;have h1:=Z.1;rw[aY,O,hk]at h1;rw[G,aY];exact h1
  have hl:leafK u=u:=rE (by rw[G];simp[Tree.kind]);have hls:lisK u=0:=by rw[G];rfl
  have he:(mA p (m:Int) u).2=0:=by unfold mA;rw[if_pos ⟨hp,Int.natCast_nonneg m,by omega,J.2,J.1⟩];refine HK hp hA (kbulk p+1) [] _ _ _ ⟨List.nodup_nil,λx h=>by cases h⟩ (by simp) (by rw[hl];exact J) (by rw[hl,G];simp[Tree.kind]) (λk y z h=>by simp at h) (λh e=>by simp at e) (λ_=>?_) (λa h=>by cases h);rw[hl,G];exact hr O
  obtain⟨n,k,e1,e2,e3,e4,_⟩:=DV p (m:Int) u;have hk5:=e4 he;have hkn:knK (mA p (m:Int) u).1=⟨k,(n:Nat)⟩:=by obtain⟨g1,g2⟩:=Bl n (.node k [] [] []) e2;rw[e1,knK,g1,g2];rfl
  have hnm:nmK p (m:Int) (leafK t).text=⟨k,(n:Nat)⟩:=by unfold nmK;rw[<-G,if_pos he,hkn]
  rw[hnm];rw[if_neg<|show¬k=0 by omega];exact⟨by simp only;omega,by simp only;omega⟩
 ·rw[if_neg O];have :=Z.2;simp only[gN,aaa,aaj]at this;exact⟨by simp only[knK];omega,by simp only[knK];omega⟩
theorem PE{w:YB}(h:(aC p m w).2.2=true):∃(i d:Nat) (t f:Tree),(aC p m w).1=(i:Int)∧(aC p m w).2.1=(d:Int)∧p[i]?=some t∧t.kids[d]?=some f:=by
 unfold aC at h⊢;split at h
 ·rename_i G;rw[if_pos G];obtain⟨i,d,t,u,_,h1,h2,J,O,_⟩:=sn h;exact⟨i,d,t,u,h1,h2,J,O⟩
 ·rename_i G;rw[if_neg G];obtain⟨i,d,t,u,_,h1,h2,J,O,_⟩:=sn h;exact⟨i,d,t,u,h1,h2,J,O⟩
structure Typed (p:List Tree):Prop where
 wt:∀(m d:Nat) (t f:Tree),p[m]?=some t->t.kids[d]?=some f->f.kind=2->WT p (m:Int) (fY (f.kids.take (f.kids.length-2)) (cF p (m:Int) f).params) (aM f (f.kids.length-1)) (cF p (m:Int) f).result
 kn:∀(m d:Nat) (t f:Tree),p[m]?=some t->t.kids[d]?=some f->f.kind=2->KnK (cF p (m:Int) f).result∧∀q∈(cF p (m:Int) f).params,KnK q
theorem Typed.pw(h:Typed p):PW p:=λm w f h1 h2 O=>by
 obtain⟨i,d,t,g,a1,Z,G,J⟩:=PE h1;have :fm p (aC p m w).1 (aC p m w).2.1=g:=by unfold fm;rw[a1,Z,Int.toNat_natCast,Int.toNat_natCast,List.getD_eq_getElem?_getD,G];exact ce J
 rw[this]at h2;subst h2;rw[a1];exact h.wt i d t g G J O
theorem NJ(G:bn p=true){nm:List<|(Int×YB)×ah}{wm:Int}(hc:(yQ p nm wm []).fa=[])(hh:∀t∈p,NoH t):Typed p:=by
 have O:∀(m d:Nat) (t f:Tree),p[m]?=some t->t.kids[d]?=some f->DOk f∧t.kind=1:=λm d t f h1 h2=>by
  have hs:=uC G m t d f h1 h2;obtain⟨k1,k2⟩:=dk G h1;rcases mz k1 k2 h2 with⟨k,_⟩|⟨k,_⟩
  ·exact⟨⟨hs,.inl k⟩,k1⟩
  ·exact⟨⟨hs,.inr ⟨k,qt G h1 h2 k⟩⟩,k1⟩
 have hrun:=(Fo (x:=cxN p nm wm []) rfl p 0 ⟨bC p,[],0,0⟩ (λt ht=>by
  obtain⟨m,hm,rfl⟩:=aat ht;have h1:=List.getElem?_eq_getElem hm;obtain⟨k1,_⟩:=dk G h1;refine⟨by simp[cH,k1],⟨by omega,by omega⟩,λf hf=>?_⟩;obtain⟨d,hd,rfl⟩:=aat hf;exact(O m d _ _ h1 (List.getElem?_eq_getElem hd)).1)).2 (by
   have :=congrArg List.length hc;show(yQ p nm wm []).fa.length<=_;rw[this];exact aar _) ⟨[],by rw[aau];show bC p=_;rw[bC,if_pos G];rfl⟩
 have hD:∀(m d:Nat) (t f:Tree),p[m]?=some t->t.kids[d]?=some f->JF ((cxN p nm wm []).md (m:Int)) d f:=λm d t f h1 h2=>by
  have :=hrun m d t f h1 h2
  rwa [Nat.zero_add]at this
 have hA:Jt p:=λm d t f h1 h2 J=>by obtain⟨g1,g2⟩:=(hD m d t f h1 h2).1 J;obtain⟨b,hb,hbt⟩:=qt G h1 h2 J;refine⟨g1,λh9=>?_⟩;rw[tx h1 h2 hb]at h9⊢;rw[ce (show f.kids[0]?=some b by rw[hb];rfl)]at g2;exact g2 h9
 have Z:∀(m d:Nat) (t f:Tree),p[m]?=some t->t.kids[d]?=some f->f.kind=2->KnK (cF p (m:Int) f).result∧∀q∈(cF p (m:Int) f).params,KnK q:=λm d t f h1 h2 J=>by
  obtain⟨g1,g2,_⟩:=(hD m d t f h1 h2).2 J;have hml:=(List.getElem?_eq_some_iff.1 h1).1;obtain⟨s1,s2,s3,s4⟩:=mE (O m d t f h1 h2).1.1 J;refine⟨?_,λq hq=>?_⟩
  ·have hr:=lh (t:=f) (i:=f.kids.length-2) (by omega);exact CB G hA hml (s3 _ hr) g2
  ·simp only[cF,List.mem_map]at hq;obtain⟨k,hk,rfl⟩:=hq;obtain⟨i,hi,e⟩:=aat hk;rw[aak]at hi;rw[List.getElem_take]at e;obtain⟨v,_,hv,hvt⟩:=s2 i k (by rw[<-e];exact List.getElem?_eq_getElem<|by omega) (by omega);have hk0:=ce (show k.kids[0]?=some v by rw[hv];rfl);have :=g1 k hk;rw[hk0]at this⊢;exact CB G hA hml hvt this
 refine⟨λm d t f h1 h2 J=>?_,Z⟩;obtain⟨_,_,g3⟩:=(hD m d t f h1 h2).2 J;have hml:=(List.getElem?_eq_some_iff.1 h1).1;have hg:(aL (((cxN p nm wm []).md (m:Int)).mo,(d:Int)) ((cxN p nm wm []).md (m:Int)).sg).getD noG=cF p (m:Int) f:=by
  have :=zq (P:=p) (key:=((m:Int),(d:Int))) p 0 m d [] t f h1 h2 J (by simp);show(aL ((m:Int),(d:Int))<|sgM p p 0 []).getD noG=_;rw[this];simp
 rw[hg]at g3;obtain⟨k1,k2⟩:=Z m d t f h1 h2 J;exact g3 ((hh t<|List.mem_of_getElem? h1).kid h2) ⟨G,I,Int.natCast_nonneg m,by show(m:Int)<(p.length:Int);omega,λm' d' t' f' a b c=>Z m' d' t' f' a b c⟩ k1 k2
theorem Is(h:Typed p){d:Nat}(h1:p[i]?=some t)(h2:t.kids[d]?=some f)(J:f.kind=2)(hs:shapeK f=true){l:List ac}(hl:l.length+2=f.kids.length)
  (O:∀(k:Nat) (q:Kn),(cF p (i:Int) f).params[k]?=some q->∃x,l[k]?=some x∧ik q x) (g r:Nat):Af (cF p (i:Int) f).result (evG p g (i:Int) (aM f<|l.length+1) (fZ f.kids l) r):=by
 have Z:=h.wt i d t f h1 h2 J;have G:(cF p (i:Int) f).params.length=f.kids.length-2:=by simp[cF]
 rw[show l.length+1=f.kids.length-1 by omega];refine FK h.pw g _ _ _ _ _ r Z ?_;rw[<-G];exact tR.args (by omega) (by omega) O
set_option maxHeartbeats 4000000
structure ae where
 kind:Int
 module:Int
 def_:Int
 free:Bool
 text:(List UInt8)
 kids:(List ae)
mutual
def ae.v:ae->V
 |.mk a0 a1 a2 a3 a4 a5=>.agg [.int .i64 a0,.int .i64 a1,.int .i64 a2,.bool a3,.str a4,.row 6<|ae.vs a5]
def ae.vs:List ae->List V
 |[]=>[]
 |t::r=>ae.v t::ae.vs r
end
abbrev ae.c(x:ae):List V:=[.int .i64 x.kind,.int .i64 x.module,.int .i64 x.def_,.bool x.free,.str x.text,.row 6 (ae.vs x.kids)]
abbrev ae.w(x:ae):V:=.agg x.c
theorem ae.v_eq(x:ae):x.v=x.w:=by cases x;simp[ae.v]
theorem ae.vs_map:∀l:List ae,ae.vs l=l.map ae.w
 |[]=>by simp[ae.vs]
 |t::r=>by simp[ae.vs,ae.v_eq,ae.vs_map r]
theorem ae.vlen(l:List ae):(ae.vs l).length=l.length:=by rw[ae.vs_map,aaD]
theorem ae.vget{l:List ae}{u:ae}(h:l[i]?=some u):(ae.vs l)[i]?=some u.w:=by rw[ae.vs_map,List.getElem?_map,h];rfl
theorem ae.vapp(a b:List ae):ae.vs (a++b)=ae.vs a++ae.vs b:=by simp[ae.vs_map]
theorem ae.vset(l:List ae)(i:Nat)(x:ae):(ae.vs l).set i x.w=ae.vs (l.set i x):=by rw[ae.vs_map,ae.vs_map,List.map_set]
theorem ae.vren(σ:YN)(l:List ae):renL σ (ae.vs l)=ae.vs l:=by rw[ae.vs_map];exact mL σ ae.w (λ_=>rfl) l
theorem ae.vpure(l:List ae):pureL (ae.vs l)=true:=by rw[ae.vs_map];exact iV ae.w (λ_=>rfl) l
theorem ae.vone(x:ae):[x.w]=ae.vs [x]:=by rw[ae.vs_map];rfl
structure aq where
 name:(List UInt8)
 value:ac
abbrev aq.c(x:aq):List V:=[.str x.name,.int .i64 x.value.Kind,.int .i64 x.value.N,.str x.value.S,.row 4 (ac.vs x.value.L)]
abbrev vC(a0:V)(a1:Int)(a2:Int):Ob:=.var 69 [a0,.int .i64 a1,.int .i64 a2]
def mX(G:YB)(p1 p2 J:Int)(O:Unit):Prop:=qS 102 [.str G,qi p1,qi p2]<|.tup [qi J,.raw .nilIface]
def ml(G:Tree)(a:List ar)(J:ae)(b:List ar):Prop:=bv [] prog 44 [.agg<|ao G,.ptr 0 0] ⟨1,[(0,.var 64 [.row 5<|List.map ar.w a])]⟩<|z6 (.agg<|ae.c J) ⟨2,[(0,.var 64 [.row 5<|List.map ar.w b])]⟩
def qy(G:YT)(p1 p2 p3:Int)(J:Bool):Prop:=qS 42 [.row 4<|kidsV G,qi p1,qi p2,qi p3]<|.bool J
def iE(G:Bool)(J:ac):Prop:=qS 103 [.bool G]<|.agg<|ac.c J
def S_eval_runner_value(a:List ae)(d e:Int)(p1:ae)(p2:List aq)(G:ac)(J:Int)(b:List ae)(f g:Int):Prop:=bv [] prog 69 [.ptr 0 0,.box (ae.c p1) 0,.lk<|List.map aq.c p2] ⟨1,[(0,vC (.row 6<|ae.vs a) d e)]⟩<|z6 (.tup [.agg<|ac.c G,qi J]) ⟨2,[(0,vC (.row 6<|ae.vs b) f g)]⟩
def S_eval_runner_all(a:List ae)(d e:Int)(p1:ae)(p2:List aq)(G:List ac)(J:Int)(b:List ae)(f g:Int):Prop:=bv [] prog 152 [.ptr 0 0,.box (ae.c p1) 0,.lk<|List.map aq.c p2] ⟨1,[(0,vC (.row 6<|ae.vs a) d e)]⟩<|z6 (.tup [.row 4<|ac.vs G,qi J]) ⟨1,[(0,vC (.row 6<|ae.vs b) f g)]⟩
def qQ(a:List ae)(d e:Int)(p1:ae)(p2:List aq)(G:ac)(J:Int)(b:List ae)(f g:Int):Prop:=bv [] prog 104 [.ptr 0 0,.box (ae.c p1) 0,.lk<|List.map aq.c p2] ⟨1,[(0,vC (.row 6<|ae.vs a) d e)]⟩<|z6 (.tup [.agg<|ac.c G,qi J]) ⟨2,[(0,vC (.row 6<|ae.vs b) f g)]⟩
def sw(a:List ae)(d e:Int)(p1:ae)(p2:List aq)(G:ac)(J:Int)(b:List ae)(f g:Int):Prop:=bv [] prog 105 [.ptr 0 0,.box (ae.c p1) 0,.lk<|List.map aq.c p2] ⟨1,[(0,vC (.row 6<|ae.vs a) d e)]⟩<|z6 (.tup [.agg<|ac.c G,qi J]) ⟨2,[(0,vC (.row 6<|ae.vs b) f g)]⟩
def nJ(a:List ae)(d e:Int)(p1:ae)(p2:List aq)(G:ac)(J:Int)(b:List ae)(f g:Int):Prop:=bv [] prog 107 [.ptr 0 0,.box (ae.c p1) 0,.lk<|List.map aq.c p2] ⟨1,[(0,vC (.row 6<|ae.vs a) d e)]⟩<|z6 (.tup [.agg<|ac.c G,qi J]) ⟨2,[(0,vC (.row 6<|ae.vs b) f g)]⟩
def S_eval_runner_enter(a:List ae)(d e:Int)(p1:ae)(p2:List ac)(G:ac)(J:Int)(b:List ae)(f g:Int):Prop:=bv [] prog 45 [.ptr 0 0,.box (ae.c p1) 0,.row 4<|ac.vs p2] ⟨1,[(0,vC (.row 6<|ae.vs a) d e)]⟩<|z6 (.tup [.agg<|ac.c G,qi J]) ⟨2,[(0,vC (.row 6<|ae.vs b) f g)]⟩
def sy(a:List ae)(d e:Int)(p1:ae)(p2:List aq)(G:ac)(J:Int)(b:List ae)(f g:Int):Prop:=bv [] prog 106 [.ptr 0 0,.box (ae.c p1) 0,.lk<|List.map aq.c p2] ⟨1,[(0,vC (.row 6<|ae.vs a) d e)]⟩<|z6 (.tup [.agg<|ac.c G,qi J]) ⟨2,[(0,vC (.row 6<|ae.vs b) f g)]⟩
def rf(G:YT)(p1 p2:Int)(p3:List ac)(J:Int)(O:ac)(Z r2:Int):Prop:=qS 22 [.row 4<|kidsV G,qi p1,qi p2,.row 4<|ac.vs p3,qi J]<|.tup [.agg<|ac.c O,qi Z,qi r2]
def lC(m:Nat)(G:Tree)(a:List ar)(b:Bool)(J:ae)(d:List ar):Prop:=z8 [0] f44 (z6 (.agg<|ae.c J) ⟨2,[(0,.var 64 [.row 5<|List.map ar.w d])]⟩) (cB<|cA<|xA<|aj f44) [.seq<|xH<|aj f44] 59 [(1,.ptr 0 0),(2,.box (ao G) 0),(4,.ptr 1 0),(5,.ptr 2 0),(21,.bool b)] ⟨3,[(2,.var 71 [qi G.kind,qi 0,qi 0,.bool false,.str G.text,.nils]),(1,.var 71 [qi 0,qi 0,qi 0,.bool false,.str [],.nils]),(0,.var 64 [.row 5<|List.map ar.w a])]⟩
def iI(m:Nat)(G:Tree)(a:List ar)(b d:Int)(e:Bool)(f:List ae)(g:Nat)(J:ae)(i:List ar):Prop:=z7 m [0] f44 (z6 (.agg<|ae.c J) ⟨2,[(0,.var 64 [.row 5<|List.map ar.w i])]⟩) (xI<|cB<|aj f44) [.blk 0,.seq<|xJ<|aj f44] 59 [(1,.ptr 0 0),(4,.ptr 1 0),(5,.ptr 2 0),(43,.row 4<|kidsV G.kids),(44,qi (G.kids.length:Int)),(45,qi (g:Int))] ⟨4,[(3,.row 71 6<|ae.vs f),(2,.var 71 [qi G.kind,qi b,qi d,.bool e,.str G.text,.sl 3]),(1,.var 71 [qi 0,qi 0,qi 0,.bool false,.str [],.nils]),(0,.var 64 [.row 5<|List.map ar.w a])]⟩
theorem AH(m:Nat)(G:Tree)(a:List ar)(O:ae)(b:List ar)(h:y8 G.kind 16 (lC m G a true O b)<|lC m G a (G.kind==9) O b):ml G a O b:=by
 refine qA 59 [0] func44 λK J=>?_;refine gR 3 rfl<|gFP 1 rfl rfl rfl rfl<|gR 21 rfl<|qBeZ 17 16 rfl rfl rfl rfl h ?_ ?_<;>intro h;exact gR 6 I<|qJ J (h K J) [0,2,3];exact gR 6 I<|qJ J (h K J) [0,2,3]
theorem zG(m:Nat)(p0:Tree)(a:List ar)(c:Bool)(r0:ae)(d:List ar)(h:y6 c (∃b,a[0]?=some b∧1<=a.length∧iI m p0 (a.drop 1) b.Module b.Def b.Free ([]:List ae) 0 r0 d)<|iI m p0 a 0 0 false ([]:List ae) 0 r0 d):lC (m+1) p0 a c r0 d:=by
 intro K hK;refine qXi 21 rfl rfl rfl h ?_ ?_<;>intro hd h;refine gR 6 I ?_;obtain⟨b,e,h⟩:=h;refine gY (aI (aB (f:=ar.w) e) ai I I I I) I I<|gR 11 I ?_;obtain⟨hb,h⟩:=h;exact gY (Kh (aQ ar.w a) ai I I (yr I) BO hb (aaf _) ((QV _ _ _ _).trans (congrArg _ (AC _ _)))) I I<|gR 4 I<|qDs [3] 11 12<|qDr ((0,2)::(1,3)::(2,2)::(3,3)::(4,2)::(5,3)::(qR 6 5 0 [(11,1)])) I I<|qDe<|gR 7 I<|gV 44 (qi (p0.kids.length:Int)) I (aP (aJ _)) I<|gLB 43 I (aJ _) λg=>gR 4 I<|go_loop m<|gNC 2 5 71 6 I I I I<|qW hK h [0,1,2,4];exact gR 9 I<|gV 44 (qi (p0.kids.length:Int)) I (aP<|aJ _) I<|gLB 43 I (aJ _) λi=>gR 4 I<|go_loop m<|gNC 2 5 71 6 I I I I<|qW hK h [0,1,2,3]
theorem sW(m:Nat)(G:Tree)(g:List ar)(b c:Int)(d:Bool)(a:List ae)(f:Nat)(J:ae)(i:List ar)(h:y5 (f<G.kids.length) (∃j,G.kids[f]?=some j∧∃e k,ml j g e k∧(a++[e]).length<=1000000000∧f+1<=9223372036854775807∧iI m G k b c d (a++[e]) (f+1) J i)<|(ae.mk G.kind b c d G.text a)=J∧g=i):iI (m+1) G g b c d a f J i:=by
 refine qj λK Z O o=>?_;refine gR 6 rfl<|qXh 46 rfl rfl rfl h cg ch ?_ ?_<;>intro hd h;refine gR 7 I ?_;obtain⟨j,l,h⟩:=h;refine gY (aI (ay l) ai I I I I) I I<|gR 5 I<|qDs [2,4] 8 9<|qDr [(0,2),(1,3),(2,3),(3,0)] I I ?_;obtain⟨e,k,n,h⟩:=h;refine qDC 4 n [0] I ?_;refine qDr [(5,0)] I I<|gHR 7 (ae.vs [e]) I (ae.vone e) I ?_;obtain⟨hb,h⟩:=h;refine bo 6 (.repl 3<|.row 71 6<|ae.vs<|a++[e]) I (by kernel_rfl) (bI ai I I I I I (ae.vapp a [e]).symm (by rw[ae.vlen];exact hb)) (okR I) I (by kernel_rfl) I I ?_;refine qDr [(7,0),(8,1)] I I<|qDe<|gR 3 I ?_;obtain⟨hb,h⟩:=h;exact gR 1 I<|gV 57 (qi ((f+1:Nat):Int)) I (am (by omega)<|by omega) I<|gR 2 I<|go_xloop<|qJH O (h K _ O<|by omega) [0,1,2,8] ⟨⟨_,I,⟨I,I,(ae.vren _<|a++[e]).symm⟩⟩,⟨⟨_,I,⟨I,aD.rfl⟩⟩,⟨⟨_,I,⟨I,aD.rfl⟩⟩,⟨⟨_,I,⟨I,aD.rfl⟩⟩,trivial⟩⟩⟩⟩;refine gR 3 I<|go_xloopE<|gR 9 I<|gFR 3 I (ae.vpure _) I I ?_;obtain⟨rfl,rfl⟩:=h;exact gE O [(1,.var 71<|ae.c<|ae.mk G.kind b c d G.text a)] [(4,.ptr 1 0)] [0,1] [.cell 4 71]
def iF(m:Nat)(G:YT)(p1 p2 p3:Int)(a:Nat)(J:Bool):Prop:=z7 m [] f42 (q9<|.bool J) (cL<|xE<|cB<|aj f42) [.blk 0,.seq<|xA<|aj f42] 68 [(0,.row 4<|kidsV G),(1,qi p1),(2,qi p2),(3,qi p3),(12,.row 4<|kidsV G),(13,qi (G.length:Int)),(14,qi (a:Int))] ⟨0,[]⟩
theorem Ax(m:Nat)(p0:YT)(p1 p2 p3:Int)(r0:Bool)(h:iF m p0 p1 p2 p3 0 r0):qy p0 p1 p2 p3 r0:=by
 refine⟨I,I,?_⟩;refine qA 68 [] func42 λK hK=>?_;exact gR 10 I<|gV 13 (qi (p0.length:Int)) I (aP<|aJ _) I<|gLB 12 I (aJ _) λa=>gR 4 I<|go_loop m<|qW hK h []
theorem sV(m:Nat)(J:YT)(p1 p2 p3:Int)(a:Nat)(G:Bool)(h:y5 (a<J.length) (∃c,J[a]?=some c∧y9 c.kind 1 (false=G) (∃e,dW c e∧y7 e (false=G) (a+1<=9223372036854775807∧iF m J p1 p2 p3 (a+1) G)))<|y5 (p1<0) (false=G)<|y5 ((J.length:Int)<=p1) (false=G)<|y5 (p2<0) (false=G) (∃f,p1=((f:Nat):Int)∧∃d,J[f]?=some d∧y5 ((d.kids.length:Int)<=p2) (false=G) (∃g,p1=((g:Nat):Int)∧∃j,J[g]?=some j∧∃i,p2=((i:Nat):Int)∧∃b,j.kids[i]?=some b∧y8 b.kind 2 (InI (p3+2)∧((b.kids.length:Int)==(p3+2))=G) (false=G)))):iF (m+1) J p1 p2 p3 a G:=by
 refine qj λK j1 Z x=>?_;refine gR 6 rfl<|qXh 15 rfl rfl rfl h cg ch ?_ ?_<;>intro O h;refine gR 7 I ?_;obtain⟨c,k,h⟩:=h;refine gY (aI (ay k) ai rfl rfl rfl rfl) rfl rfl<|gR 11 rfl<|qXhZ 21 20 rfl rfl rfl rfl h cz bH ?_ ?_<;>intro O h;refine gR 15 I<|go_xloopR<|gR 2 I ?_;subst h;exact qN [.tmp 8];refine gR 1 I ?_;obtain⟨e,s,h⟩:=h;refine qC0 s rfl<|gR 4 rfl<|qXh 25 rfl rfl rfl h cv cu ?_ ?_<;>intro O h;refine gR 9 I<|go_xloopR<|gR 2 I ?_;subst h;exact qN [.tmp 8];refine gR 5 I ?_;obtain⟨hb,h⟩:=h;exact gR 1 I<|gV 26 (qi ((a+1:Nat):Int)) I (am (by omega)<|by omega) I<|gR 2 I<|go_xloop<|qW Z h [];refine gR 3 rfl<|go_xloopE<|gR 8 rfl<|qXdZ 29 28 rfl rfl rfl rfl h ?_ ?_<;>intro O h;refine gR 29 I ?_;subst h;exact qN [.tmp 8];refine gR 3 rfl<|gV 32 (qi (J.length:Int)) rfl (aP<|aJ _) rfl<|gLB 31 rfl (aJ _) λt=>gR 3 rfl<|qXdZ 35 34 rfl rfl rfl rfl h ?_ ?_<;>intro O h;refine gR 23 I ?_;subst h;exact qN [.tmp 8];refine gR 4 rfl<|qXdZ 39 38 rfl rfl rfl rfl h ?_ ?_<;>intro O h;refine gR 19 I ?_;subst h;exact qN [.tmp 8];refine gR 3 I ?_;obtain⟨f,p,h⟩:=h;refine gV 42 (qi ((f:Nat):Int)) I (bd p) I ?_;obtain⟨d,l,h⟩:=h;refine gY (aI (ay l) ai rfl rfl rfl rfl) rfl rfl<|gR 3 rfl<|gV 46 (qi (d.kids.length:Int)) rfl (aP<|aJ _) rfl<|gLB 45 rfl (aJ _) λv=>gR 4 rfl<|qXd 48 rfl rfl rfl h ?_ ?_<;>intro O h;refine gR 8 I ?_;subst h;exact qN [.tmp 8];refine gR 7 I ?_;obtain⟨g,q,h⟩:=h;refine gV 50 (qi ((g:Nat):Int)) I (bd q) I ?_;obtain⟨j,n,h⟩:=h;refine gY (aI (ay n) ai I I I I) I I<|gR 3 I ?_;obtain⟨i,r,h⟩:=h;refine gV 54 (qi ((i:Nat):Int)) I (bd r) I ?_;obtain⟨b,o,h⟩:=h;refine gY (aI (ay o) ai rfl rfl rfl rfl) rfl rfl<|gR 11 rfl<|qXeZ 60 59 rfl rfl rfl rfl h ?_ ?_<;>intro O h;refine gR 3 I<|gV 63 (qi (b.kids.length:Int)) I (aP<|aJ _) I<|gLB 62 I (aJ _) λw=>gR 1 I ?_;obtain⟨hb,h⟩:=h;refine gR 1 I<|gV 65 (qi<|p3+2) I (am hb I) I<|gR 6 I ?_;subst h;exact qN [.tmp 8];refine gR 11 I ?_;subst h;exact qN [.tmp 8]
theorem Bj(m:Nat)(G:Bool)(J:ac)(h:((G=true)->(ac.mk 3 1 [] [])=J)∧((G=false)->(ac.mk 3 0 [] [])=J)):iE G J:=by
 refine⟨I,I,?_⟩;refine qA 8 [] func103 λK O=>?_;refine gR 18 rfl<|qBiZ 5 0 rfl rfl rfl rfl h ?_ ?_<;>intro h;refine gR 13 I ?_;subst h;exact go_sub (F':=(mkF 8 0 [(2,.ptr 0 0)])) (H':=⟨1,[(0,vF ((ac.mk 3 1 [] []).Kind) ((ac.mk 3 1 [] []).N) ((ac.mk 3 1 [] []).S)<|.row 4<|ac.vs<|(ac.mk 3 1 [] []).L)]⟩) [0] [] I O pq1 ⟨⟨_,I,I,(.cons .rfl<|.cons .rfl<|.cons .rfl<|.cons (.nil 4) .nil)⟩,trivial⟩ I<|qN [.cell 2 24];refine gR 10 I ?_;subst h;exact go_sub (F':=(mkF 8 0 [(2,.ptr 0 0)])) (H':=⟨1,[(0,vF ((ac.mk 3 0 [] []).Kind) ((ac.mk 3 0 [] []).N) ((ac.mk 3 0 [] []).S)<|.row 4<|ac.vs<|(ac.mk 3 0 [] []).L)]⟩) [0] [] I O pq1 ⟨⟨_,I,I,(.cons .rfl<|.cons .rfl<|.cons .rfl<|.cons (.nil 4) .nil)⟩,trivial⟩ I<|qN [.cell 2 24]
def qK(m:Nat)(a:List ae)(d e:Int)(p1:ae)(G:ac)(J:Int)(b:List ae)(f g:Int):Prop:=z8 [0] f69 (z6 (.tup [.agg<|ac.c G,qi J]) ⟨2,[(0,vC (.row 6<|ae.vs b) f g)]⟩) (xK<|xF<|cB<|aj f69) [.blk 0,.seq<|xJ<|aj f69] 167 [(1,.box (ae.c p1) 0),(6,.ptr 1 0)] ⟨2,[(1,vG 0 0 []),(0,vC (.row 6<|ae.vs a) d<|e+1)]⟩
def qr(m:Nat)(a:List ae)(d e:Int)(p1:ae)(p2:List aq)(G:ac)(J:Int)(b:List ae)(f g:Int):Prop:=z8 [0] f69 (z6 (.tup [.agg<|ac.c G,qi J]) ⟨2,[(0,vC (.row 6<|ae.vs b) f g)]⟩) (xM<|cB<|aj f69) [.blk 0,.seq<|xJ<|aj f69] 167 [(0,.ptr 0 0),(1,.box (ae.c p1) 0),(2,.lk<|List.map aq.c p2),(6,.ptr 1 0),(33,qi p1.kind)] ⟨2,[(1,vG 0 0 []),(0,vC (.row 6<|ae.vs a) d<|e+1)]⟩
def qV(m:Nat)(a:List ae)(d e:Int)(p1:ae)(G:ac)(J:Int)(b:List ae)(f g:Int):Prop:=z8 [0] f69 (z6 (.tup [.agg<|ac.c G,qi J]) ⟨2,[(0,vC (.row 6<|ae.vs b) f g)]⟩) (xK<|xM<|cB<|aj f69) [.blk 0,.seq<|xJ<|aj f69] 167 [(1,.box (ae.c p1) 0),(6,.ptr 1 0)] ⟨2,[(1,vG 0 0 []),(0,vC (.row 6<|ae.vs a) d<|e+1)]⟩
def qZ(m:Nat)(a:List ae)(d e:Int)(p1:ae)(p2:List aq)(G:ac)(J:Int)(b:List ae)(f g:Int):Prop:=z8 [0] f69 (z6 (.tup [.agg<|ac.c G,qi J]) ⟨2,[(0,vC (.row 6<|ae.vs b) f g)]⟩) (xC<|xF<|cB<|aj f69) [.blk 0,.seq<|xJ<|aj f69] 167 [(0,.ptr 0 0),(1,.box (ae.c p1) 0),(2,.lk<|List.map aq.c p2),(6,.ptr 1 0),(33,qi p1.kind)] ⟨2,[(1,vG 0 0 []),(0,vC (.row 6<|ae.vs a) d<|e+1)]⟩
def qc(m:Nat)(a:List ae)(d e:Int)(p1:ae)(p2:List aq)(G:ac)(J:Int)(b:List ae)(f g:Int):Prop:=z8 [0] f69 (z6 (.tup [.agg<|ac.c G,qi J]) ⟨2,[(0,vC (.row 6<|ae.vs b) f g)]⟩) (xC<|xM<|cB<|aj f69) [.blk 0,.seq<|xJ<|aj f69] 167 [(0,.ptr 0 0),(1,.box (ae.c p1) 0),(2,.lk<|List.map aq.c p2),(6,.ptr 1 0),(33,qi p1.kind)] ⟨2,[(1,vG 0 0 []),(0,vC (.row 6<|ae.vs a) d<|e+1)]⟩
def rk(m:Nat)(a:List ae)(d e:Int)(p1:ae)(p2:List aq)(G:ac)(J:Int)(b:List ae)(f g:Int):Prop:=z8 [0] f69 (z6 (.tup [.agg<|ac.c G,qi J]) ⟨2,[(0,vC (.row 6<|ae.vs b) f g)]⟩) (xG<|xF<|cB<|aj f69) [.blk 0,.seq<|xJ<|aj f69] 167 [(0,.ptr 0 0),(1,.box (ae.c p1) 0),(2,.lk<|List.map aq.c p2),(6,.ptr 1 0),(33,qi p1.kind)] ⟨2,[(1,vG 0 0 []),(0,vC (.row 6<|ae.vs a) d<|e+1)]⟩
def ip(m:Nat)(a:List ae)(d e:Int)(p1:ae)(i:List aq)(G:ac)(J:Int)(b:List ae)(f g:Int):Prop:=z7 m [0] f69 (z6 (.tup [.agg<|ac.c G,qi J]) ⟨2,[(0,vC (.row 6<|ae.vs b) f g)]⟩) (cL<|xD<|xK<|xG<|xF<|cB<|aj f69) [.blk 1,.blk 0,.seq<|xJ<|aj f69] 167 [(1,.box (ae.c p1) 0),(6,.ptr 1 0),(10,.lk<|List.map aq.c i)] ⟨2,[(1,vG 0 0 []),(0,vC (.row 6<|ae.vs a) d<|e+1)]⟩
def qD(m:Nat)(a:List ae)(d e:Int)(p1:ae)(p2:List aq)(G:ac)(J:Int)(b:List ae)(f g:Int):Prop:=z8 [0] f69 (z6 (.tup [.agg<|ac.c G,qi J]) ⟨2,[(0,vC (.row 6<|ae.vs b) f g)]⟩) (xG<|xM<|cB<|aj f69) [.blk 0,.seq<|xJ<|aj f69] 167 [(0,.ptr 0 0),(1,.box (ae.c p1) 0),(2,.lk<|List.map aq.c p2),(6,.ptr 1 0),(33,qi p1.kind)] ⟨2,[(1,vG 0 0 []),(0,vC (.row 6<|ae.vs a) d<|e+1)]⟩
def qa(m:Nat)(a:List ae)(d e:Int)(p1:ae)(p2:List aq)(G:ac)(J:Int)(b:List ae)(f g:Int):Prop:=z8 [0] f69 (z6 (.tup [.agg<|ac.c G,qi J]) ⟨2,[(0,vC (.row 6<|ae.vs b) f g)]⟩) (xK<|xG<|xM<|cB<|aj f69) [.blk 0,.seq<|xJ<|aj f69] 167 [(0,.ptr 0 0),(1,.box (ae.c p1) 0),(2,.lk<|List.map aq.c p2),(6,.ptr 1 0)] ⟨2,[(1,vG 0 0 []),(0,vC (.row 6<|ae.vs a) d<|e+1)]⟩
def ra(m:Nat)(a:List ae)(d e:Int)(p1:ae)(p2:List aq)(G:ac)(J:Int)(b:List ae)(f g:Int):Prop:=z8 [0] f69 (z6 (.tup [.agg<|ac.c G,qi J]) ⟨2,[(0,vC (.row 6<|ae.vs b) f g)]⟩) (xG<|xC<|xF<|cB<|aj f69) [.blk 0,.seq<|xJ<|aj f69] 167 [(0,.ptr 0 0),(1,.box (ae.c p1) 0),(2,.lk<|List.map aq.c p2),(6,.ptr 1 0),(33,qi p1.kind)] ⟨2,[(1,vG 0 0 []),(0,vC (.row 6<|ae.vs a) d<|e+1)]⟩
def pV(m:Nat)(a:List ae)(d e:Int)(p1:ae)(p2:List aq)(G:ac)(J:Int)(b:List ae)(f g:Int):Prop:=z8 [0] f69 (z6 (.tup [.agg<|ac.c G,qi J]) ⟨2,[(0,vC (.row 6<|ae.vs b) f g)]⟩) (xK<|xG<|xC<|xF<|cB<|aj f69) [.blk 0,.seq<|xJ<|aj f69] 167 [(0,.ptr 0 0),(1,.box (ae.c p1) 0),(2,.lk<|List.map aq.c p2),(6,.ptr 1 0)] ⟨2,[(1,vG 0 0 []),(0,vC (.row 6<|ae.vs a) d<|e+1)]⟩
def pr(m:Nat)(a:List ae)(d e:Int)(p1:ae)(p2:List aq)(G:ac)(J:Int)(b:List ae)(f g:Int):Prop:=z8 [0] f69 (z6 (.tup [.agg<|ac.c G,qi J]) ⟨2,[(0,vC (.row 6<|ae.vs b) f g)]⟩) (xG<|xC<|xM<|cB<|aj f69) [.blk 0,.seq<|xJ<|aj f69] 167 [(0,.ptr 0 0),(1,.box (ae.c p1) 0),(2,.lk<|List.map aq.c p2),(6,.ptr 1 0),(33,qi p1.kind)] ⟨2,[(1,vG 0 0 []),(0,vC (.row 6<|ae.vs a) d<|e+1)]⟩
def pU(m:Nat)(a:List ae)(d e:Int)(p1:ae)(p2:List aq)(G:ac)(J:Int)(b:List ae)(f g:Int):Prop:=z8 [0] f69 (z6 (.tup [.agg<|ac.c G,qi J]) ⟨2,[(0,vC (.row 6<|ae.vs b) f g)]⟩) (xN<|xF<|cB<|aj f69) [.blk 0,.seq<|xJ<|aj f69] 167 [(0,.ptr 0 0),(1,.box (ae.c p1) 0),(2,.lk<|List.map aq.c p2),(6,.ptr 1 0),(33,qi p1.kind)] ⟨2,[(1,vG 0 0 []),(0,vC (.row 6<|ae.vs a) d<|e+1)]⟩
def pJ(m:Nat)(a:List ae)(d e:Int)(p1:ae)(p2:List aq)(G:ac)(J:Int)(b:List ae)(f g:Int):Prop:=z8 [0] f69 (z6 (.tup [.agg<|ac.c G,qi J]) ⟨2,[(0,vC (.row 6<|ae.vs b) f g)]⟩) (xN<|xM<|cB<|aj f69) [.blk 0,.seq<|xJ<|aj f69] 167 [(0,.ptr 0 0),(1,.box (ae.c p1) 0),(2,.lk<|List.map aq.c p2),(6,.ptr 1 0),(33,qi p1.kind)] ⟨2,[(1,vG 0 0 []),(0,vC (.row 6<|ae.vs a) d<|e+1)]⟩
def pO(m:Nat)(a:List ae)(d e:Int)(p1:ae)(p2:List aq)(G:ac)(J:Int)(b:List ae)(f g:Int):Prop:=z8 [0] f69 (z6 (.tup [.agg<|ac.c G,qi J]) ⟨2,[(0,vC (.row 6<|ae.vs b) f g)]⟩) (xN<|xC<|xF<|cB<|aj f69) [.blk 0,.seq<|xJ<|aj f69] 167 [(0,.ptr 0 0),(1,.box (ae.c p1) 0),(2,.lk<|List.map aq.c p2),(6,.ptr 1 0),(33,qi p1.kind)] ⟨2,[(1,vG 0 0 []),(0,vC (.row 6<|ae.vs a) d<|e+1)]⟩
theorem qg(m:Nat)(b:List ae)(d a:Int)(p1:ae)(p2:List aq)(J:ac)(O:Int)(c:List ae)(e f:Int)(h:y8 a d ((ac.mk 0 0 [] [])=J∧21=O∧b=c∧d=e∧a=f)<|InI (a+1)∧y8 p1.kind 10 (qK m b d a p1 J O c e f) (qr m b d a p1 p2 J O c e f)):S_eval_runner_value b d a p1 p2 J O c e f:=by
 refine qA 167 [0] func69 λK G=>?_;refine gR 8 rfl<|qDs [0] 8 9<|qDr (qR 0 3 2<|(3,3)::(qR 4 4 0 [(8,1)])) rfl rfl<|qDe<|gR 1 rfl<|qBe 21 rfl rfl rfl h ?_ ?_<;>intro h;refine gR 10 I ?_;obtain⟨rfl,rfl,rfl,rfl,rfl⟩:=h;exact gE G [(1,vF ((ac.mk 0 0 [] []).Kind) ((ac.mk 0 0 [] []).N) ((ac.mk 0 0 [] []).S)<|.row 4<|ac.vs<|(ac.mk 0 0 [] []).L)] [(6,.ptr 1 0),(7,qi 21)] [0,1] [.cell 6 24,.tmp 7] (hH:=⟨⟨_,I,⟨I,(.cons .rfl<|.cons .rfl<|.cons .rfl<|.cons (.nil 4) .nil)⟩⟩,⟨⟨_,I,⟨I,aD.rfl⟩⟩,trivial⟩⟩);refine gR 9 I ?_;obtain⟨hb,h⟩:=h;refine gR 1 rfl<|gV 27 (qi<|a+1) rfl (am hb rfl) rfl<|gR 21 rfl<|qBeZ 34 35 rfl rfl rfl rfl h ?_ ?_<;>intro h;exact gR 1 I<|qJ G (h K G) [0,1];exact gR 1 I<|qJ G (h K G) [0,1]
theorem wn(m:Nat)(a:List ae)(d e:Int)(p1:ae)(G:ac)(J:Int)(b:List ae)(f g:Int)(h:∃c i,mX p1.text 10 64 c i∧(ac.mk 1 c [] [])=G∧0=J∧a=b∧d=f∧(e+1)=g):qK (m+1) a d e p1 G J b f g:=by
 intro K O;refine gR 6 I ?_;obtain⟨c,i,j,h⟩:=h;refine qC0 j I<|gR 18 I ?_;obtain⟨rfl,rfl,rfl,rfl,rfl⟩:=h;exact gE O [(1,vF ((ac.mk 1 c [] []).Kind) ((ac.mk 1 c [] []).N) ((ac.mk 1 c [] []).S) (.row 4 (ac.vs ((ac.mk 1 c [] []).L))))] [(6,.ptr 1 0),(7,qi 0)] [0,1] [.cell 6 24,.tmp 7] (hH:=⟨⟨_,I,⟨I,(.cons .rfl (.cons .rfl (.cons .rfl (.cons (.nil 4) .nil))))⟩⟩,⟨⟨_,I,⟨I,aD.rfl⟩⟩,trivial⟩⟩)
theorem wg(m:Nat)(a:List ae)(c d:Int)(p1:ae)(p2:List aq)(J:ac)(O:Int)(b:List ae)(e f:Int)(h:y8 p1.kind 11 (qV m a c d p1 J O b e f)<|qZ m a c d p1 p2 J O b e f):qr (m+1) a c d p1 p2 J O b e f:=by
 intro K G;refine gR 6 rfl<|qBeZ 46 47 rfl rfl rfl rfl h ?_ ?_<;>intro h;exact gR 1 I<|qJ G (h K G) [0,1];exact gR 1 I<|qJ G (h K G) [0,1]
theorem vQ(m:Nat)(b:List ae)(d e:Int)(p1:ae)(J:ac)(O:Int)(c:List ae)(f g:Int)(h:InI ((p1.text.length:Int)-1)∧∃a,((p1.text.length:Int)-1)=((a:Nat):Int)∧1<=a∧a<=p1.text.length∧(ac.mk 2 0 ((p1.text.drop 1).take<|a-1) [])=J∧0=O∧b=c∧d=f∧(e+1)=g):qV (m+1) b d e p1 J O c f g:=by
 intro K Z;refine gR 1 I<|qDs [] 12 14<|qDr (qR 0 4 2 (qR 4 5 0 [])) I I ?_;obtain⟨hb,h⟩:=h;refine qDr [(9,0)] I I<|gV 57 (qi ((p1.text.length:Int)-1)) I (am hb I) I ?_;obtain⟨a,i,h⟩:=h;refine gV 57 (qi ((a:Nat):Int)) I (bd i) I ?_;obtain⟨hb,h⟩:=h;obtain⟨G,h⟩:=h;refine cw 10 I (by kernel_rfl) (ySS ai I I (yr I) (yr I) hb G I) I I ?_;refine qDr [(11,0),(12,1),(13,1)] I I<|qDe<|gR 4 I ?_;obtain⟨rfl,rfl,rfl,rfl,rfl⟩:=h;exact gE Z [(1,vF ((ac.mk 2 0 ((p1.text.drop 1).take (a-1)) []).Kind) ((ac.mk 2 0 ((p1.text.drop 1).take (a-1)) []).N) ((ac.mk 2 0 ((p1.text.drop 1).take (a-1)) []).S) (.row 4 (ac.vs ((ac.mk 2 0 ((p1.text.drop 1).take (a-1)) []).L))))] [(6,.ptr 1 0),(7,qi 0)] [0,1] [.cell 6 24,.tmp 7] (hH:=⟨⟨_,I,⟨I,(.cons .rfl (.cons .rfl (.cons .rfl (.cons (.nil 4) .nil))))⟩⟩,⟨⟨_,I,⟨I,aD.rfl⟩⟩,trivial⟩⟩)
theorem wC(m:Nat)(a:List ae)(c d:Int)(p1:ae)(p2:List aq)(G:ac)(J:Int)(b:List ae)(e f:Int)(h:y8 p1.kind 13 (∃g,iE true g∧g=G∧0=J∧a=b∧c=e∧(d+1)=f)<|qc m a c d p1 p2 G J b e f):qZ (m+1) a c d p1 p2 G J b e f:=by
 intro K O;refine gR 6 rfl<|qBeZ 60 61 rfl rfl rfl rfl h ?_ ?_<;>intro h;refine gR 3 I ?_;obtain⟨g,i,h⟩:=h;refine qC0 i I<|gR 7 I ?_;obtain⟨rfl,rfl,rfl,rfl,rfl⟩:=h;exact gE O [(1,.var 24 (ac.c g))] [(6,.ptr 1 0),(7,qi 0)] [0,1] [.cell 6 24,.tmp 7];exact gR 1 I<|qJ O (h K O) [0,1]
theorem vT(m:Nat)(a:List ae)(c d:Int)(p1:ae)(p2:List aq)(G:ac)(J:Int)(b:List ae)(e f:Int)(h:y8 p1.kind 14 (∃g,iE false g∧g=G∧0=J∧a=b∧c=e∧(d+1)=f)<|rk m a c d p1 p2 G J b e f):qc (m+1) a c d p1 p2 G J b e f:=by
 intro K O;refine gR 6 rfl<|qBeZ 63 64 rfl rfl rfl rfl h ?_ ?_<;>intro h;refine gR 3 I ?_;obtain⟨g,i,h⟩:=h;refine qC0 i I<|gR 7 I ?_;obtain⟨rfl,rfl,rfl,rfl,rfl⟩:=h;exact gE O [(1,.var 24 (ac.c g))] [(6,.ptr 1 0),(7,qi 0)] [0,1] [.cell 6 24,.tmp 7];exact gR 1 I<|qJ O (h K O) [0,1]
theorem wE(m:Nat)(a:List ae)(c d:Int)(p1:ae)(p2:List aq)(r0:ac)(r1:Int)(b:List ae)(e f:Int)(h:y8 p1.kind 12 (ip m a c d p1 p2 r0 r1 b e f)<|qD m a c d p1 p2 r0 r1 b e f):rk (m+1) a c d p1 p2 r0 r1 b e f:=by
 intro K hK;refine gR 6 rfl<|qXeZ 66 67 rfl rfl rfl rfl h ?_ ?_<;>intro hd h;exact gR 8 I<|go_loop m<|qW hK h [0,1];exact gR 1 I<|qJ hK (h K hK) [0,1]
theorem px(m:Nat)(b:List ae)(e f:Int)(p1:ae)(k:List aq)(G:ac)(J:Int)(d:List ae)(g i:Int)(h:((k=[])->(ac.mk 0 0 [] [])=G∧7=J∧b=d∧e=g∧(f+1)=i)∧(∀(a:aq) (j:List aq),k=a::j->y8 a.name p1.text (a.value=G∧0=J∧b=d∧e=g∧(f+1)=i) (ip m b e f p1 j G J d g i))):ip (m+1) b e f p1 k G J d g i:=by
 refine qj λK Z O l=>?_;refine gR 4 I ?_;rcases k with _|⟨a,j⟩
 replace h:=h.1 rfl;refine gS 10 (.nilp) I Kd I<|gS 69 (.nilp) I Kd I<|gY (RR underlying118 I) I I<|gR 5 I<|go_xloopE<|gR 11 I ?_;obtain⟨rfl,rfl,rfl,rfl,rfl⟩:=h;exact gE O [(1,vF ((ac.mk 0 0 [] []).Kind) ((ac.mk 0 0 [] []).N) ((ac.mk 0 0 [] []).S)<|.row 4<|ac.vs<|(ac.mk 0 0 [] []).L)] [(6,.ptr 1 0),(7,qi 7)] [0,1] [.cell 6 24,.tmp 7] (hH:=⟨⟨_,I,⟨I,(.cons .rfl<|.cons .rfl<|.cons .rfl<|.cons (.nil 4) .nil)⟩⟩,⟨⟨_,I,⟨I,aD.rfl⟩⟩,trivial⟩⟩);replace h:=h.2 a j rfl;refine gS 10 (.box [.str a.name,qi a.value.Kind,qi a.value.N,.str a.value.S,.row 4<|ac.vs a.value.L,.lk<|List.map aq.c j] 0) rfl (IM rfl) rfl<|gS 69 (.box [.str a.name,qi a.value.Kind,qi a.value.N,.str a.value.S,.row 4<|ac.vs a.value.L,.lk<|List.map aq.c j] 0) rfl (IM rfl) rfl<|gY (Rm underlying118 rfl) rfl rfl<|gR 8 rfl<|qDs [] 9 9<|qDr (qR 0 4 2<|qR 4 5 0 []) rfl rfl<|qDe<|gR 1 rfl<|qXe 83 rfl rfl rfl h ?_ ?_<;>intro hd h;refine gR 14 I<|go_xloopR<|gR 3 I ?_;obtain⟨rfl,rfl,rfl,rfl,rfl⟩:=h;exact gE O [(1,.var 24<|ac.c a.value)] [(6,.ptr 1 0),(7,qi 0)] [0,1] [.cell 6 24,.tmp 7];exact gR 11 I<|go_xloop<|qW O h [0,1]
theorem wb(m:Nat)(a:List ae)(c d:Int)(p1:ae)(p2:List aq)(J:ac)(O:Int)(b:List ae)(e f:Int)(h:y8 p1.kind 22 (qa m a c d p1 p2 J O b e f)<|ra m a c d p1 p2 J O b e f):qD (m+1) a c d p1 p2 J O b e f:=by
 intro K G;refine gR 6 rfl<|qBeZ 88 89 rfl rfl rfl rfl h ?_ ?_<;>intro h;exact gR 1 I<|qJ G (h K G) [0,1];exact gR 1 I<|qJ G (h K G) [0,1]
theorem wj(m:Nat)(a:List ae)(d e:Int)(p1:ae)(p2:List aq)(G:ac)(J:Int)(b:List ae)(f g:Int)(h:∃j,p1.kids[0]?=some j∧∃c i k l n,S_eval_runner_value a d (e+1) j p2 c i k l n∧c=G∧i=J∧k=b∧l=f∧n=g):qa (m+1) a d e p1 p2 G J b f g:=by
 intro K O;refine gR 7 I ?_;obtain⟨j,o,h⟩:=h;refine gY (aI (ae.vget o) ai I I I I) I I<|gR 1 I ?_;obtain⟨c,i,k,l,n,p,h⟩:=h;refine qC p [0] ?_;refine gR 9 I ?_;obtain⟨rfl,rfl,rfl,rfl,rfl⟩:=h;exact gE O [(1,.var 24 (ac.c c))] [(6,.ptr 1 0),(7,qi i)] [0,1] [.cell 6 24,.tmp 7]
theorem vZ(m:Nat)(a:List ae)(c d:Int)(p1:ae)(p2:List aq)(J:ac)(O:Int)(b:List ae)(e f:Int)(h:y8 p1.kind 20 (pV m a c d p1 p2 J O b e f)<|pr m a c d p1 p2 J O b e f):ra (m+1) a c d p1 p2 J O b e f:=by
 intro K G;refine gR 6 rfl<|qBeZ 100 101 rfl rfl rfl rfl h ?_ ?_<;>intro h;exact gR 1 I<|qJ G (h K G) [0,1];exact gR 1 I<|qJ G (h K G) [0,1]
theorem vv(m:Nat)(d:List ae)(p q:Int)(p1:ae)(p2:List aq)(G:ac)(J:Int)(a:List ae)(e f:Int)(h:∃r,p1.kids[0]?=some r∧∃s c g i j,S_eval_runner_value d p (q+1) r p2 s c g i j∧y9 c 0 ((ac.mk 0 0 [] [])=G∧c=J∧g=a∧i=e∧j=f) (∃t,p1.kids[1]?=some t∧∃b k l n o,S_eval_runner_value g i j t (aq.mk p1.text s::p2) b k l n o∧b=G∧k=J∧l=a∧n=e∧o=f)):pV (m+1) d p q p1 p2 G J a e f:=by
 intro K O;refine gR 7 I ?_;obtain⟨r,v,h⟩:=h;refine gY (aI (ae.vget v) ai I I I I) I I<|gR 1 I ?_;obtain⟨s,c,g,i,j,x,h⟩:=h;refine qC x [0] ?_;refine gR 15 rfl<|qBh 114 rfl rfl rfl h cz bH ?_ ?_<;>intro h;refine gR 13 I ?_;obtain⟨rfl,rfl,rfl,rfl,rfl⟩:=h;exact gE O [(1,vF ((ac.mk 0 0 [] []).Kind) ((ac.mk 0 0 [] []).N) ((ac.mk 0 0 [] []).S) (.row 4 (ac.vs ((ac.mk 0 0 [] []).L))))] [(6,.ptr 1 0),(7,qi c)] [0,1] [.cell 6 24,.tmp 7] (hH:=⟨⟨_,I,⟨I,(.cons .rfl (.cons .rfl (.cons .rfl (.cons (.nil 4) .nil))))⟩⟩,⟨⟨_,I,⟨I,aD.rfl⟩⟩,trivial⟩⟩);refine gR 4 I<|qDs [4] 17 19<|qDr (qR 0 5 2 []) I I ?_;obtain⟨t,w,h⟩:=h;refine gYd 5 I (by kernel_rfl) (aI (ae.vget w) ai I I I I) I I<|qDr (qR 6 4 2 ((10,3)::(qR 11 3 0 []))) I I<|gFP 5 I I I I ?_;obtain⟨b,k,l,n,o,y,h⟩:=h;refine qDC 14 y [0] I (hs:=(.cons .rfl (.cons .rfl (.cons (lkC I) .nil)))) ?_;refine qDr [(15,2),(16,0),(17,1),(18,1)] I I<|qDe<|gR 4 I ?_;obtain⟨rfl,rfl,rfl,rfl,rfl⟩:=h;exact gE O [(1,.var 24 (ac.c b))] [(6,.ptr 1 0),(7,qi k)] [0,1] [.cell 6 24,.tmp 7]
theorem vq(m:Nat)(a:List ae)(d e:Int)(p1:ae)(p2:List aq)(G:ac)(J:Int)(b:List ae)(f g:Int)(h:y8 p1.kind 19 (∃c i j k l,qQ a d (e+1) p1 p2 c i j k l∧c=G∧i=J∧j=b∧k=f∧l=g)<|pU m a d e p1 p2 G J b f g):pr (m+1) a d e p1 p2 G J b f g:=by
 intro K O;refine gR 6 rfl<|qBeZ 134 135 rfl rfl rfl rfl h ?_ ?_<;>intro h;refine gR 6 I ?_;obtain⟨c,i,j,k,l,n,h⟩:=h;refine qC n [0] ?_;refine gR 9 I ?_;obtain⟨rfl,rfl,rfl,rfl,rfl⟩:=h;exact gE O [(1,.var 24 (ac.c c))] [(6,.ptr 1 0),(7,qi i)] [0,1] [.cell 6 24,.tmp 7];exact gR 1 I<|qJ O (h K O) [0,1]
theorem vL(m:Nat)(a:List ae)(d e:Int)(p1:ae)(p2:List aq)(G:ac)(J:Int)(b:List ae)(f g:Int)(h:y8 p1.kind 18 (∃c i j k l,sw a d (e+1) p1 p2 c i j k l∧c=G∧i=J∧j=b∧k=f∧l=g)<|pJ m a d e p1 p2 G J b f g):pU (m+1) a d e p1 p2 G J b f g:=by
 intro K O;refine gR 6 rfl<|qBeZ 142 143 rfl rfl rfl rfl h ?_ ?_<;>intro h;refine gR 6 I ?_;obtain⟨c,i,j,k,l,n,h⟩:=h;refine qC n [0] ?_;refine gR 9 I ?_;obtain⟨rfl,rfl,rfl,rfl,rfl⟩:=h;exact gE O [(1,.var 24 (ac.c c))] [(6,.ptr 1 0),(7,qi i)] [0,1] [.cell 6 24,.tmp 7];exact gR 1 I<|qJ O (h K O) [0,1]
theorem vK(m:Nat)(a:List ae)(d e:Int)(p1:ae)(p2:List aq)(G:ac)(J:Int)(b:List ae)(f g:Int)(h:y8 p1.kind 16 (∃c i j k l,sy a d (e+1) p1 p2 c i j k l∧c=G∧i=J∧j=b∧k=f∧l=g)<|pO m a d e p1 p2 G J b f g):pJ (m+1) a d e p1 p2 G J b f g:=by
 intro K O;refine gR 6 rfl<|qBeZ 150 151 rfl rfl rfl rfl h ?_ ?_<;>intro h;refine gR 6 I ?_;obtain⟨c,i,j,k,l,n,h⟩:=h;refine qC n [0] ?_;refine gR 9 I ?_;obtain⟨rfl,rfl,rfl,rfl,rfl⟩:=h;exact gE O [(1,.var 24 (ac.c c))] [(6,.ptr 1 0),(7,qi i)] [0,1] [.cell 6 24,.tmp 7];exact gR 1 I<|qJ O (h K O) [0,1]
theorem vf(m:Nat)(a:List ae)(d e:Int)(p1:ae)(p2:List aq)(G:ac)(J:Int)(b:List ae)(f g:Int)(h:y8 p1.kind 21 (∃c i j k l,nJ a d (e+1) p1 p2 c i j k l∧c=G∧i=J∧j=b∧k=f∧l=g)<|(ac.mk 0 0 [] [])=G∧7=J∧a=b∧d=f∧(e+1)=g):pO (m+1) a d e p1 p2 G J b f g:=by
 intro K O;refine gR 6 rfl<|qBeZ 158 159 rfl rfl rfl rfl h ?_ ?_<;>intro h;refine gR 6 I ?_;obtain⟨c,i,j,k,l,n,h⟩:=h;refine qC n [0] ?_;refine gR 9 I ?_;obtain⟨rfl,rfl,rfl,rfl,rfl⟩:=h;exact gE O [(1,.var 24 (ac.c c))] [(6,.ptr 1 0),(7,qi i)] [0,1] [.cell 6 24,.tmp 7];refine gR 12 I ?_;obtain⟨rfl,rfl,rfl,rfl,rfl⟩:=h;exact gE O [(1,vF ((ac.mk 0 0 [] []).Kind) ((ac.mk 0 0 [] []).N) ((ac.mk 0 0 [] []).S) (.row 4 (ac.vs ((ac.mk 0 0 [] []).L))))] [(6,.ptr 1 0),(7,qi 7)] [0,1] [.cell 6 24,.tmp 7] (hH:=⟨⟨_,I,⟨I,(.cons .rfl (.cons .rfl (.cons .rfl (.cons (.nil 4) .nil))))⟩⟩,⟨⟨_,I,⟨I,aD.rfl⟩⟩,trivial⟩⟩)
def jp(m:Nat)(p1:ae)(p2:List aq)(e:List ae)(f g:Int)(i:List ac)(j:Nat)(G:List ac)(J:Int)(a:List ae)(b d:Int):Prop:=z7 m [0] f152 (z6 (.tup [.row 4<|ac.vs G,qi J]) ⟨1,[(0,vC (.row 6<|ae.vs a) b d)]⟩) (xI<|aj f152) [.blk 0,.seq<|xH<|aj f152] 53 [(0,.ptr 0 0),(1,.box (ae.c p1) 0),(2,.lk<|List.map aq.c p2),(8,.sl 1),(17,qi (p1.kids.length:Int)),(18,qi (j:Int))] ⟨2,[(1,.row 24 4<|ac.vs i),(0,vC (.row 6<|ae.vs e) f g)]⟩
def jC(m:Nat)(p1:ae)(p2:List aq)(e:ae)(f:List ae)(g i:Int)(j:List ac)(k:Nat)(J:List ac)(O:Int)(a:List ae)(b d:Int):Prop:=∀(K:Ctx) (G:Nat),aw K [0]->m<=G->qLG K f152 (z6 (.tup [.row 4<|ac.vs J,qi O]) ⟨1,[(0,vC (.row 6<|ae.vs a) b d)]⟩) (xH<|xL<|xA<|xI<|aj f152) [.blk 1,.seq<|xH<|xI<|aj f152,.loop (xI<|aj f152) G,.blk 0,.seq<|xH<|aj f152] 53 (mkF 53 0 [(0,.ptr 0 0),(1,.box (ae.c p1) 0),(2,.lk<|List.map aq.c p2),(8,.sl 1),(10,.box (ae.c e) 0),(17,qi (p1.kids.length:Int)),(18,qi (k:Int))]) ⟨2,[(1,.row 24 4<|ac.vs j),(0,vC (.row 6<|ae.vs f) g i)]⟩
theorem yW(m:Nat)(a:List ae)(c d:Int)(p1:ae)(p2:List aq)(r0:List ac)(r1:Int)(b:List ae)(e f:Int)(h:jp m p1 p2 a c d ([]:List ac) 0 r0 r1 b e f):S_eval_runner_all a c d p1 p2 r0 r1 b e f:=by
 refine qA 53 [0] func152 λK hK=>?_;exact gR 19 I<|gV 17 (qi (p1.kids.length:Int)) I (aP<|ae.vlen _) I<|gLB 16 I (ae.vlen _) λg=>gR 4 I<|go_loop m<|gNS 8 24 4 I I I I<|qW hK h [0,1]
theorem ry(m:Nat)(p1:ae)(p2:List aq)(g:List ae)(i j:Int)(d:List ac)(e:Nat)(J:List ac)(O:Int)(a:List ae)(b c:Int)(h:y5 (e<p1.kids.length) (∃f,p1.kids[e]?=some f∧y8 f.kind 17 (∃k,f.kids[0]?=some k∧jC m p1 p2 k g i j d e J O a b c) (jC m p1 p2 f g i j d e J O a b c))<|d=J∧0=O∧g=a∧i=b∧j=c):jp (m+1) p1 p2 g i j d e J O a b c:=by
 refine qj λK j1 G o=>?_;refine gR 6 rfl<|qXh 19 rfl rfl rfl h cg ch ?_ ?_<;>intro Z h;refine gR 18 I ?_;obtain⟨f,l,h⟩:=h;refine gY (aI (ae.vget l) ai rfl rfl rfl rfl) rfl rfl<|gR 13 rfl<|qXe 31 rfl rfl rfl h ?_ ?_<;>intro Z h;refine gR 6 I ?_;obtain⟨k,n,h⟩:=h;exact gY (aI (ae.vget n) ai I I I I) I I<|gR 3 I<|qJH G (h K _ G<|by omega) [0,1] ⟨⟨_,I,⟨I,I,(ac.vren _ d).symm⟩⟩,⟨⟨_,I,⟨I,aD.rfl⟩⟩,trivial⟩⟩;exact gR 3 I<|qJH G (h K _ G<|by omega) [0,1] ⟨⟨_,I,⟨I,I,(ac.vren _ d).symm⟩⟩,⟨⟨_,I,⟨I,aD.rfl⟩⟩,trivial⟩⟩;refine gR 3 I<|go_xloopE<|gR 10 I<|gFR 1 I (ac.vpure _) I I ?_;obtain⟨rfl,rfl,rfl,rfl,rfl⟩:=h;exact gE G [] [(6,.row 4<|ac.vs d),(7,qi 0)] [0] [.tmp 6,.tmp 7]
theorem yg(m:Nat)(p1:ae)(p2:List aq)(l:ae)(n:List ae)(o p:Int)(e:List ac)(g:Nat)(G:List ac)(J:Int)(a:List ae)(c d:Int)(h:∃b f i j k,S_eval_runner_value n o p l p2 b f i j k∧y9 f 0 ([]=G∧f=J∧i=a∧j=c∧k=d) ((e++[b]).length<=1000000000∧g+1<=9223372036854775807∧jp m p1 p2 i j k (e++[b]) (g+1) G J a c d)):jC (m+1) p1 p2 l n o p e g G J a c d:=by
 refine qj λK Z O r=>?_;refine gR 5 I ?_;obtain⟨b,f,i,j,k,q,h⟩:=h;refine qC q [0] ?_;refine gR 15 rfl<|qXh 45 rfl rfl rfl h cz bH ?_ ?_<;>intro hd h;refine gR 12 I<|go_xloopR<|gR 2 I ?_;obtain⟨rfl,rfl,rfl,rfl,rfl⟩:=h;exact gE O [] [(6,.row 4<|ac.vs []),(7,qi f)] [0] [.tmp 6,.tmp 7] ⟨⟨_,I,(.nil 4)⟩,⟨_,I,.rfl⟩,trivial⟩;refine gR 7 I<|gHR 5 (ac.vs [b]) I (ac.vone b) I ?_;obtain⟨hb,h⟩:=h;refine gDo (.repl 1<|.row 24 4<|ac.vs<|e++[b]) (bI ai I I I I I (ac.vapp e [b]).symm (by rw[ac.vlen];exact hb)) (okR I) I I I<|gR 5 I ?_;obtain⟨hb,h⟩:=h;exact gR 1 I<|gV 51 (qi ((g+1:Nat):Int)) I (am (by omega)<|by omega) I<|gR 2 I<|go_xloop<|qJH O (h K _ O<|by omega) [0,6] ⟨⟨_,I,⟨I,I,(ac.vren _<|e++[b]).symm⟩⟩,⟨⟨_,I,⟨I,aD.rfl⟩⟩,trivial⟩⟩
theorem wh(m:Nat)(e:List ae)(o p:Int)(p1:ae)(p2:List aq)(G:ac)(J:Int)(a:List ae)(b c:Int)(h:∃z,p1.kids[0]?=some z∧∃g i j k l,S_eval_runner_value e o p z p2 g i j k l∧y9 i 0 ((ac.mk 0 0 [] [])=G∧i=J∧j=a∧k=b∧l=c) (y9 g.Kind 3 ((ac.mk 0 0 [] [])=G∧20=J∧j=a∧k=b∧l=c)<|y8 g.N 1 (∃α,p1.kids[1]?=some α∧∃f y q r s,S_eval_runner_value j k l α p2 f y q r s∧f=G∧y=J∧q=a∧r=b∧s=c) (∃t,p1.kids[2]?=some t∧∃d n v w x,S_eval_runner_value j k l t p2 d n v w x∧d=G∧n=J∧v=a∧w=b∧x=c))):qQ e o p p1 p2 G J a b c:=by
 refine qA 55 [0] func104 λK O=>?_;refine gR 13 I ?_;obtain⟨z,γ,h⟩:=h;refine gY (aI (ae.vget γ) ai I I I I) I I<|gR 1 I ?_;obtain⟨g,i,j,k,l,ε,h⟩:=h;refine qC ε [0] ?_;refine gR 17 rfl<|qBhZ 21 23 rfl rfl rfl rfl h cz bH ?_ ?_<;>intro h;refine gR 12 I ?_;obtain⟨rfl,rfl,rfl,rfl,rfl⟩:=h;exact gE O [(1,vF ((ac.mk 0 0 [] []).Kind) ((ac.mk 0 0 [] []).N) ((ac.mk 0 0 [] []).S)<|.row 4<|ac.vs<|(ac.mk 0 0 [] []).L)] [(6,.ptr 1 0),(7,qi i)] [0,1] [.cell 6 24,.tmp 7] (hH:=⟨⟨_,I,⟨I,(.cons .rfl<|.cons .rfl<|.cons .rfl<|.cons (.nil 4) .nil)⟩⟩,⟨⟨_,I,⟨I,aD.rfl⟩⟩,trivial⟩⟩);refine gR 9 rfl<|qBhZ 26 29 rfl rfl rfl rfl h cz bH ?_ ?_<;>intro h;refine gR 11 I ?_;obtain⟨rfl,rfl,rfl,rfl,rfl⟩:=h;exact gE O [(1,vF ((ac.mk 0 0 [] []).Kind) ((ac.mk 0 0 [] []).N) ((ac.mk 0 0 [] []).S)<|.row 4<|ac.vs<|(ac.mk 0 0 [] []).L)] [(6,.ptr 1 0),(7,qi 20)] [0,1] [.cell 6 24,.tmp 7] (hH:=⟨⟨_,I,⟨I,(.cons .rfl<|.cons .rfl<|.cons .rfl<|.cons (.nil 4) .nil)⟩⟩,⟨⟨_,I,⟨I,aD.rfl⟩⟩,trivial⟩⟩);refine gR 9 rfl<|qBeZ 31 34 rfl rfl rfl rfl h ?_ ?_<;>intro h;refine gR 8 I ?_;obtain⟨α,δ,h⟩:=h;refine gY (aI (ae.vget δ) ai I I I I) I I<|gR 1 I ?_;obtain⟨f,y,q,r,s,ζ,h⟩:=h;refine qC ζ [0] ?_;refine gR 9 I ?_;obtain⟨rfl,rfl,rfl,rfl,rfl⟩:=h;exact gE O [(1,.var 24<|ac.c f)] [(6,.ptr 1 0),(7,qi y)] [0,1] [.cell 6 24,.tmp 7];refine gR 11 I ?_;obtain⟨t,β,h⟩:=h;refine gY (aI (ae.vget β) ai I I I I) I I<|gR 1 I ?_;obtain⟨d,n,v,w,x,η,h⟩:=h;refine qC η [0] ?_;refine gR 7 I ?_;obtain⟨rfl,rfl,rfl,rfl,rfl⟩:=h;exact gE O [(1,.var 24<|ac.c d)] [(6,.ptr 1 0),(7,qi n)] [0,1] [.cell 6 24,.tmp 7]
theorem yb(m:Nat)(d:List ae)(g i:Int)(p1:ae)(p2:List aq)(G:ac)(J:Int)(a:List ae)(b c:Int)(h:∃e f j k l,S_eval_runner_all d g i p1 p2 e f j k l∧y9 f 0 ((ac.mk 0 0 [] [])=G∧f=J∧j=a∧k=b∧l=c) (∃n,oM (ac.mk 4 0 [] e) n∧y5 (4096<n) ((ac.mk 0 0 [] [])=G∧3=J∧j=a∧k=b∧l=c) ((ac.mk 4 0 [] e)=G∧0=J∧j=a∧k=b∧l=c))):sw d g i p1 p2 G J a b c:=by
 refine qA 29 [0] func105 λK O=>?_;refine gR 11 I ?_;obtain⟨e,f,j,k,l,o,h⟩:=h;refine qC o [0] ?_;refine gR 14 rfl<|qBh 19 rfl rfl rfl h cz bH ?_ ?_<;>intro h;refine gR 11 I ?_;obtain⟨rfl,rfl,rfl,rfl,rfl⟩:=h;exact gE O [(1,vF ((ac.mk 0 0 [] []).Kind) ((ac.mk 0 0 [] []).N) ((ac.mk 0 0 [] []).S)<|.row 4<|ac.vs<|(ac.mk 0 0 [] []).L)] [(6,.ptr 1 0),(7,qi f)] [0,1] [.cell 6 24,.tmp 7] (hH:=⟨⟨_,I,⟨I,(.cons .rfl<|.cons .rfl<|.cons .rfl<|.cons (.nil 4) .nil)⟩⟩,⟨⟨_,I,⟨I,aD.rfl⟩⟩,trivial⟩⟩);refine gR 15 I ?_;obtain⟨n,p,h⟩:=h;refine qC0 p rfl<|gR 3 rfl<|qBd 26 rfl rfl rfl h ?_ ?_<;>intro h;refine gR 10 I ?_;obtain⟨rfl,rfl,rfl,rfl,rfl⟩:=h;exact gE O [(1,vF ((ac.mk 0 0 [] []).Kind) ((ac.mk 0 0 [] []).N) ((ac.mk 0 0 [] []).S)<|.row 4<|ac.vs<|(ac.mk 0 0 [] []).L)] [(6,.ptr 1 0),(7,qi 3)] [0,1] [.cell 6 24,.tmp 7] (hH:=⟨⟨_,I,⟨I,(.cons .rfl<|.cons .rfl<|.cons .rfl<|.cons (.nil 4) .nil)⟩⟩,⟨⟨_,I,⟨I,aD.rfl⟩⟩,trivial⟩⟩);refine gR 11 I ?_;obtain⟨rfl,rfl,rfl,rfl,rfl⟩:=h;exact gE O [(1,vF ((ac.mk 4 0 [] e).Kind) ((ac.mk 4 0 [] e).N) ((ac.mk 4 0 [] e).S)<|.row 4<|ac.vs<|(ac.mk 4 0 [] e).L)] [(6,.ptr 1 0),(7,qi 0)] [0,1] [.cell 6 24,.tmp 7]
def L0_eval_runner_operation(m:Nat)(p1:ae)(e:List ae)(f g:Int)(i j G:ac)(J:Int)(a:List ae)(b d:Int):Prop:=y4 [0] f107 (z6 (.tup [.agg<|ac.c G,qi J]) ⟨2,[(0,vC (.row 6<|ae.vs a) b d)]⟩) [.seq<|xJ<|aj f107] 118 [(1,.box (ae.c p1) 0),(6,.ptr 1 0),(10,.ptr 2 0),(11,.ptr 3 0)] ⟨4,[(3,.var 24<|ac.c j),(2,.var 24<|ac.c i),(1,vG 0 0 []),(0,vC (.row 6<|ae.vs e) f g)]⟩
def L1_eval_runner_operation(m:Nat)(p1:ae)(e:List ae)(f g:Int)(i j:ac)(k:Bool)(G:ac)(J:Int)(a:List ae)(b d:Int):Prop:=z8 [0] f107 (z6 (.tup [.agg<|ac.c G,qi J]) ⟨2,[(0,vC (.row 6<|ae.vs a) b d)]⟩) (cB<|cA<|xA<|xH<|aj f107) [.seq<|xJ<|xA<|aj f107] 118 [(1,.box (ae.c p1) 0),(6,.ptr 1 0),(10,.ptr 2 0),(11,.ptr 3 0),(58,.bool k)] ⟨4,[(3,.var 24<|ac.c j),(2,.var 24<|ac.c i),(1,vG 0 0 []),(0,vC (.row 6<|ae.vs e) f g)]⟩
theorem tG(m:Nat)(b:List ae)(f g:Int)(p1:ae)(p2:List aq)(J:ac)(O:Int)(a:List ae)(c d:Int)(h:∃k e l n o,S_eval_runner_all b f g p1 p2 k e l n o∧y9 e 0 ((ac.mk 0 0 [] [])=J∧e=O∧l=a∧n=c∧o=d) (∃p,k[0]?=some p∧∃q,k[1]?=some q∧L0_eval_runner_operation m p1 l n o p q J O a c d)):nJ b f g p1 p2 J O a c d:=by
 refine qA 118 [0] func107 λK G=>?_;refine gR 11 I ?_;obtain⟨k,e,l,n,o,t,h⟩:=h;refine qC t [0] ?_;refine gR 14 rfl<|qBh 20 rfl rfl rfl h cz bH ?_ ?_<;>intro h;refine gR 11 I ?_;obtain⟨rfl,rfl,rfl,rfl,rfl⟩:=h;exact gE G [(1,vF ((ac.mk 0 0 [] []).Kind) ((ac.mk 0 0 [] []).N) ((ac.mk 0 0 [] []).S)<|.row 4<|ac.vs<|(ac.mk 0 0 [] []).L)] [(6,.ptr 1 0),(7,qi e)] [0,1] [.cell 6 24,.tmp 7] (hH:=⟨⟨_,I,⟨I,(.cons .rfl<|.cons .rfl<|.cons .rfl<|.cons (.nil 4) .nil)⟩⟩,⟨⟨_,I,⟨I,aD.rfl⟩⟩,trivial⟩⟩);refine gR 4 I<|qDs [] 8 10<|qDr [(0,2)] I I ?_;obtain⟨p,r,h⟩:=h;refine gYd 1 I (by kernel_rfl) (aI (ac.vget r) ai I I I I) I I<|qDr [(2,2),(3,2)] I I ?_;obtain⟨q,s,h⟩:=h;refine gYd 4 I (by kernel_rfl) (aI (ac.vget s) ai I I I I) I I<|qDr [(5,2)] I I ?_;apply bf (i:=6) (j:=7) (by kernel_rfl) rfl rfl rfl rfl;exact(aG ai I I);exact(aG ai I I);exact qDr [(7,0),(8,1),(9,1)] I I<|qDe<|qJ G (h K G) [0,1,3,4];exact qDr [(6,0),(8,1),(9,1)] I I<|qDe<|qJ G (h K G) [0,1,4,3]
theorem te(m:Nat)(p1:ae)(g:List ae)(i j:Int)(d e J:ac)(O:Int)(a:List ae)(b c:Int)(h:y8 p1.text [61,61] (y9 d.Kind e.Kind ((ac.mk 0 0 [] [])=J∧20=O∧g=a∧i=b∧j=c) (∃k,nX d e k∧∃f,iE k f∧f=J∧0=O∧g=a∧i=b∧j=c))<|y8 p1.text [43] (y8 d.Kind 2 (L1_eval_runner_operation m p1 g i j d e (e.Kind==2) J O a b c)<|L1_eval_runner_operation m p1 g i j d e false J O a b c)<|L1_eval_runner_operation m p1 g i j d e false J O a b c):L0_eval_runner_operation (m+1) p1 g i j d e J O a b c:=by
 intro K G;refine gR 11 rfl<|qBe 33 rfl rfl rfl h ?_ ?_<;>intro h;refine gR 11 rfl<|qBh 38 rfl rfl rfl h cz bH ?_ ?_<;>intro h;refine gR 11 I ?_;obtain⟨rfl,rfl,rfl,rfl,rfl⟩:=h;exact gE G [(1,vF ((ac.mk 0 0 [] []).Kind) ((ac.mk 0 0 [] []).N) ((ac.mk 0 0 [] []).S) (.row 4 (ac.vs ((ac.mk 0 0 [] []).L))))] [(6,.ptr 1 0),(7,qi 20)] [0,1] [.cell 6 24,.tmp 7] (hH:=⟨⟨_,I,⟨I,(.cons .rfl (.cons .rfl (.cons .rfl (.cons (.nil 4) .nil))))⟩⟩,⟨⟨_,I,⟨I,aD.rfl⟩⟩,trivial⟩⟩);refine gR 7 I ?_;obtain⟨k,l,h⟩:=h;refine qC0 l I ?_;obtain⟨f,n,h⟩:=h;refine qC0 n I<|gR 6 I ?_;obtain⟨rfl,rfl,rfl,rfl,rfl⟩:=h;exact gE G [(1,.var 24 (ac.c f))] [(6,.ptr 1 0),(7,qi 0)] [0,1] [.cell 6 24,.tmp 7];refine gR 12 rfl<|qBeZ 49 48 rfl rfl rfl rfl h ?_ ?_<;>intro h;refine gR 5 rfl<|qBeZ 54 53 rfl rfl rfl rfl h ?_ ?_<;>intro h;exact gR 6 I<|qJ G (h K G) [0,1,2,3];exact gR 6 I<|qJ G (h K G) [0,1,2,3];exact gR 11 I<|qJ G (h K G) [0,1,2,3]
theorem tl(m:Nat)(p1:ae)(f:List ae)(g i:Int)(a b:ac)(k:Bool)(G:ac)(J:Int)(c:List ae)(d e:Int)(h:y6 k (y5 (4096<(IntKind.i64.wrap<|(IntKind.i64.wrap<|(a.S.length:Int)+(b.S.length:Int))+1)) ((ac.mk 0 0 [] [])=G∧3=J∧f=c∧g=d∧i=e)<|a.S.length+b.S.length<=9223372036854775807∧(ac.mk 2 0 (a.S++b.S) [])=G∧0=J∧f=c∧g=d∧i=e)<|y9 a.Kind 1 ((ac.mk 0 0 [] [])=G∧20=J∧f=c∧g=d∧i=e)<|y9 b.Kind 1 ((ac.mk 0 0 [] [])=G∧20=J∧f=c∧g=d∧i=e)<|y8 p1.text [43] ((ac.mk 1 (IntKind.i64.wrap<|a.N+b.N) [] [])=G∧0=J∧f=c∧g=d∧i=e)<|y8 p1.text [45] ((ac.mk 1 (IntKind.i64.wrap<|a.N-b.N) [] [])=G∧0=J∧f=c∧g=d∧i=e)<|y8 p1.text [42] ((ac.mk 1 (IntKind.i64.wrap<|a.N*b.N) [] [])=G∧0=J∧f=c∧g=d∧i=e)<|∃j,iE (decide<|a.N<b.N) j∧j=G∧0=J∧f=c∧g=d∧i=e):L1_eval_runner_operation (m+1) p1 f g i a b k G J c d e:=by
 intro K O;refine qBi 58 rfl rfl rfl h ?_ ?_<;>intro h;refine gR 11 rfl<|gV 65 (qi (IntKind.i64.wrap ((a.S.length:Int)+(b.S.length:Int)))) rfl (rfl) rfl<|gR 1 rfl<|gV 66 (qi (IntKind.i64.wrap ((IntKind.i64.wrap ((a.S.length:Int)+(b.S.length:Int)))+1))) rfl (rfl) rfl<|gR 3 rfl<|qBd 67 rfl rfl rfl h ?_ ?_<;>intro h;refine gR 11 I ?_;obtain⟨rfl,rfl,rfl,rfl,rfl⟩:=h;exact gE O [(1,vF ((ac.mk 0 0 [] []).Kind) ((ac.mk 0 0 [] []).N) ((ac.mk 0 0 [] []).S) (.row 4 (ac.vs ((ac.mk 0 0 [] []).L))))] [(6,.ptr 1 0),(7,qi 3)] [0,1] [.cell 6 24,.tmp 7] (hH:=⟨⟨_,I,⟨I,(.cons .rfl (.cons .rfl (.cons .rfl (.cons (.nil 4) .nil))))⟩⟩,⟨⟨_,I,⟨I,aD.rfl⟩⟩,trivial⟩⟩);refine gR 9 I ?_;obtain⟨hb,h⟩:=h;refine gY (vm I I hb) I I<|gR 7 I ?_;obtain⟨rfl,rfl,rfl,rfl,rfl⟩:=h;exact gE O [(1,vF ((ac.mk 2 0 (a.S++b.S) []).Kind) ((ac.mk 2 0 (a.S++b.S) []).N) ((ac.mk 2 0 (a.S++b.S) []).S) (.row 4 (ac.vs ((ac.mk 2 0 (a.S++b.S) []).L))))] [(6,.ptr 1 0),(7,qi 0)] [0,1] [.cell 6 24,.tmp 7] (hH:=⟨⟨_,I,⟨I,(.cons .rfl (.cons .rfl (.cons .rfl (.cons (.nil 4) .nil))))⟩⟩,⟨⟨_,I,⟨I,aD.rfl⟩⟩,trivial⟩⟩);refine gR 10 rfl<|qBhZ 78 77 rfl rfl rfl rfl h cz bH ?_ ?_<;>intro h;refine gR 16 I ?_;obtain⟨rfl,rfl,rfl,rfl,rfl⟩:=h;exact gE O [(1,vF ((ac.mk 0 0 [] []).Kind) ((ac.mk 0 0 [] []).N) ((ac.mk 0 0 [] []).S) (.row 4 (ac.vs ((ac.mk 0 0 [] []).L))))] [(6,.ptr 1 0),(7,qi 20)] [0,1] [.cell 6 24,.tmp 7] (hH:=⟨⟨_,I,⟨I,(.cons .rfl (.cons .rfl (.cons .rfl (.cons (.nil 4) .nil))))⟩⟩,⟨⟨_,I,⟨I,aD.rfl⟩⟩,trivial⟩⟩);refine gR 6 rfl<|qBh 82 rfl rfl rfl h cz bH ?_ ?_<;>intro h;refine gR 10 I ?_;obtain⟨rfl,rfl,rfl,rfl,rfl⟩:=h;exact gE O [(1,vF ((ac.mk 0 0 [] []).Kind) ((ac.mk 0 0 [] []).N) ((ac.mk 0 0 [] []).S) (.row 4 (ac.vs ((ac.mk 0 0 [] []).L))))] [(6,.ptr 1 0),(7,qi 20)] [0,1] [.cell 6 24,.tmp 7] (hH:=⟨⟨_,I,⟨I,(.cons .rfl (.cons .rfl (.cons .rfl (.cons (.nil 4) .nil))))⟩⟩,⟨⟨_,I,⟨I,aD.rfl⟩⟩,trivial⟩⟩);refine gR 19 rfl<|qBeZ 88 89 rfl rfl rfl rfl h ?_ ?_<;>intro h;refine gR 8 I<|gV 94 (qi (IntKind.i64.wrap (a.N+b.N))) I (I) I<|gR 8 I ?_;obtain⟨rfl,rfl,rfl,rfl,rfl⟩:=h;exact gE O [(1,vF ((ac.mk 1 (IntKind.i64.wrap (a.N+b.N)) [] []).Kind) ((ac.mk 1 (IntKind.i64.wrap (a.N+b.N)) [] []).N) ((ac.mk 1 (IntKind.i64.wrap (a.N+b.N)) [] []).S) (.row 4 (ac.vs ((ac.mk 1 (IntKind.i64.wrap (a.N+b.N)) [] []).L))))] [(6,.ptr 1 0),(7,qi 0)] [0,1] [.cell 6 24,.tmp 7] (hH:=⟨⟨_,I,⟨I,(.cons .rfl (.cons .rfl (.cons .rfl (.cons (.nil 4) .nil))))⟩⟩,⟨⟨_,I,⟨I,aD.rfl⟩⟩,trivial⟩⟩);refine gR 7 rfl<|qBeZ 96 97 rfl rfl rfl rfl h ?_ ?_<;>intro h;refine gR 8 I<|gV 102 (qi (IntKind.i64.wrap (a.N-b.N))) I (I) I<|gR 8 I ?_;obtain⟨rfl,rfl,rfl,rfl,rfl⟩:=h;exact gE O [(1,vF ((ac.mk 1 (IntKind.i64.wrap (a.N-b.N)) [] []).Kind) ((ac.mk 1 (IntKind.i64.wrap (a.N-b.N)) [] []).N) ((ac.mk 1 (IntKind.i64.wrap (a.N-b.N)) [] []).S) (.row 4 (ac.vs ((ac.mk 1 (IntKind.i64.wrap (a.N-b.N)) [] []).L))))] [(6,.ptr 1 0),(7,qi 0)] [0,1] [.cell 6 24,.tmp 7] (hH:=⟨⟨_,I,⟨I,(.cons .rfl (.cons .rfl (.cons .rfl (.cons (.nil 4) .nil))))⟩⟩,⟨⟨_,I,⟨I,aD.rfl⟩⟩,trivial⟩⟩);refine gR 7 rfl<|qBeZ 104 105 rfl rfl rfl rfl h ?_ ?_<;>intro h;refine gR 7 I<|gY (Sp I I) I I<|gR 8 I ?_;obtain⟨rfl,rfl,rfl,rfl,rfl⟩:=h;exact gE O [(1,vF ((ac.mk 1 (IntKind.i64.wrap (a.N*b.N)) [] []).Kind) ((ac.mk 1 (IntKind.i64.wrap (a.N*b.N)) [] []).N) ((ac.mk 1 (IntKind.i64.wrap (a.N*b.N)) [] []).S) (.row 4 (ac.vs ((ac.mk 1 (IntKind.i64.wrap (a.N*b.N)) [] []).L))))] [(6,.ptr 1 0),(7,qi 0)] [0,1] [.cell 6 24,.tmp 7] (hH:=⟨⟨_,I,⟨I,(.cons .rfl (.cons .rfl (.cons .rfl (.cons (.nil 4) .nil))))⟩⟩,⟨⟨_,I,⟨I,aD.rfl⟩⟩,trivial⟩⟩);refine gR 11 I ?_;obtain⟨j,l,h⟩:=h;refine qC0 l I<|gR 5 I ?_;obtain⟨rfl,rfl,rfl,rfl,rfl⟩:=h;exact gE O [(1,.var 24 (ac.c j))] [(6,.ptr 1 0),(7,qi 0)] [0,1] [.cell 6 24,.tmp 7]
def hV(m:Nat)(a:List ae)(d e:Int)(p1:ae)(p2:List ac)(i:List aq)(j:Int)(G:ac)(J:Int)(b:List ae)(f g:Int):Prop:=z7 m [0] f45 (z6 (.tup [.agg<|ac.c G,qi J]) ⟨2,[(0,vC (.row 6<|ae.vs b) f g)]⟩) (xI<|aj f45) [.blk 0,.seq<|xH<|aj f45] 45 [(0,.ptr 0 0),(1,.box (ae.c p1) 0),(2,.row 4<|ac.vs p2),(6,.ptr 1 0),(8,.lk<|List.map aq.c i),(9,qi j)] ⟨2,[(1,vG 0 0 []),(0,vC (.row 6<|ae.vs a) d e)]⟩
theorem xc(m:Nat)(a:List ae)(c d:Int)(p1:ae)(p2:List ac)(r0:ac)(r1:Int)(b:List ae)(e f:Int)(h:hV m a c d p1 p2 [] ((p2.length:Int)-1) r0 r1 b e f):S_eval_runner_enter a c d p1 p2 r0 r1 b e f:=by
 refine qA 45 [0] func45 λK hK=>?_;exact gR 16 I<|gV 11 (qi (p2.length:Int)) I (aP<|ac.vlen _) I<|gLB 10 I (ac.vlen _) λg=>gR 1 I<|gV 12 (qi<|(p2.length:Int)-1) I (am (by have :=g;omega) I) I<|gR 4 I<|go_loop m<|qJ hK (h K _ hK<|by omega) [0,1] ⟨⟨_,I,.rfl⟩,⟨_,I,.rfl⟩,⟨_,I,.rfl⟩,⟨_,I,.rfl⟩,⟨_,I,lkN⟩,⟨_,I,.rfl⟩,trivial⟩
theorem pP(m:Nat)(a:List ae)(d e:Int)(p1:ae)(p2:List ac)(o:List aq)(c:Int)(G:ac)(J:Int)(b:List ae)(f g:Int)(h:y5 (0<=c) (∃k,c=((k:Nat):Int)∧∃p,p1.kids[k]?=some p∧∃l,c=((l:Nat):Int)∧∃q,p2[l]?=some q∧InI (c-1)∧hV m a d e p1 p2 (aq.mk p.text q::o) (c-1) G J b f g) (p2.length+1<=9223372036854775807∧∃r,p1.kids[p2.length+1]?=some r∧∃i n s t j,S_eval_runner_value a d e r o i n s t j∧i=G∧n=J∧s=b∧t=f∧j=g)):hV (m+1) a d e p1 p2 o c G J b f g:=by
 refine qj λK Z O β=>?_;refine gR 7 rfl<|qXd 14 rfl rfl rfl h ?_ ?_<;>intro hd h;refine gR 5 I<|qDs [] 16 16<|qDr (qR 0 5 2 []) I I ?_;obtain⟨k,y,h⟩:=h;refine gV 21 (qi ((k:Nat):Int)) I (bd y) I ?_;obtain⟨p,v,h⟩:=h;refine gYd 5 I (by kernel_rfl) (aI (ae.vget v) ai I I I I) I I<|qDr (qR 6 4 2 []) I I ?_;obtain⟨l,z,h⟩:=h;refine gV 26 (qi ((l:Nat):Int)) I (bd z) I ?_;obtain⟨q,w,h⟩:=h;refine gYd 10 I (by kernel_rfl) (aI (ac.vget w) ai I I I I) I I<|qDr ((11,2)::(qR 12 4 0 [])) I I<|qDe<|gR 4 I ?_;obtain⟨hb,h⟩:=h;exact gR 1 I<|gV 16 (qi<|c-1) I (am hb I) I<|gR 2 I<|go_xloop<|gFP 2 I I I I<|qJ O (h K _ O<|by omega) [0,1] ⟨⟨_,I,.rfl⟩,⟨_,I,.rfl⟩,⟨_,I,.rfl⟩,⟨_,I,.rfl⟩,⟨_,I,(lkC I)⟩,⟨_,I,.rfl⟩,trivial⟩;refine gR 3 I<|go_xloopE<|gR 11 I<|gV 38 (qi (p2.length:Int)) I (aP<|ac.vlen _) I<|gLB 37 I (ac.vlen _) λγ=>?_;obtain⟨hb,h⟩:=h;refine gR 1 I<|gV 39 (qi ((p2.length+1:Nat):Int)) I (am (by omega)<|by omega) I ?_;obtain⟨r,x,h⟩:=h;refine gY (aI (ae.vget x) ai I I I I) I I<|gR 1 I ?_;obtain⟨i,n,s,t,j,α,h⟩:=h;refine qC α [0] ?_;refine gR 7 I ?_;obtain⟨rfl,rfl,rfl,rfl,rfl⟩:=h;exact gE O [(1,.var 24<|ac.c i)] [(6,.ptr 1 0),(7,qi n)] [0,1] [.cell 6 24,.tmp 7]
theorem yi(m:Nat)(i:List ae)(p q:Int)(p1:ae)(p2:List aq)(J:ac)(O:Int)(a:List ae)(b d:Int)(h:∃f n g j k,S_eval_runner_all i p q p1 p2 f n g j k∧y9 n 0 ((ac.mk 0 0 [] [])=J∧n=O∧g=a∧j=b∧k=d) (y6 p1.free ((ac.mk 0 0 [] [])=J∧7=O∧g=a∧j=b∧k=d) (∃v,p1.module=((v:Nat):Int)∧∃x,g[v]?=some x∧∃w,p1.def_=((w:Nat):Int)∧∃l,x.kids[w]?=some l∧f.length+2<=9223372036854775807∧y9 l.kids.length (f.length+2) ((ac.mk 0 0 [] [])=J∧5=O∧g=a∧j=b∧k=d) (∃e o r s t,S_eval_runner_enter g j k l f e o r s t∧e=J∧o=O∧r=a∧s=b∧t=d)))):sy i p q p1 p2 J O a b d:=by
 refine qA 59 [0] func106 λK G=>?_;refine gR 11 I ?_;obtain⟨f,n,g,j,k,γ,h⟩:=h;refine qC γ [0] ?_;refine gR 14 rfl<|qXh 19 rfl rfl rfl h cz bH ?_ ?_<;>intro Z h;refine gR 11 I ?_;obtain⟨rfl,rfl,rfl,rfl,rfl⟩:=h;exact gE G [(1,vF ((ac.mk 0 0 [] []).Kind) ((ac.mk 0 0 [] []).N) ((ac.mk 0 0 [] []).S)<|.row 4<|ac.vs<|(ac.mk 0 0 [] []).L)] [(6,.ptr 1 0),(7,qi n)] [0,1] [.cell 6 24,.tmp 7] (hH:=⟨⟨_,I,⟨I,(.cons .rfl<|.cons .rfl<|.cons .rfl<|.cons (.nil 4) .nil)⟩⟩,⟨⟨_,I,⟨I,aD.rfl⟩⟩,trivial⟩⟩);refine gR 12 rfl<|qXi 25 rfl rfl rfl h ?_ ?_<;>intro Z h;refine gR 10 I ?_;obtain⟨rfl,rfl,rfl,rfl,rfl⟩:=h;exact gE G [(1,vF ((ac.mk 0 0 [] []).Kind) ((ac.mk 0 0 [] []).N) ((ac.mk 0 0 [] []).S)<|.row 4<|ac.vs<|(ac.mk 0 0 [] []).L)] [(6,.ptr 1 0),(7,qi 7)] [0,1] [.cell 6 24,.tmp 7] (hH:=⟨⟨_,I,⟨I,(.cons .rfl<|.cons .rfl<|.cons .rfl<|.cons (.nil 4) .nil)⟩⟩,⟨⟨_,I,⟨I,aD.rfl⟩⟩,trivial⟩⟩);refine gR 4 I<|qDs [0] 8 17<|qDr (qR 0 3 2<|(3,3)::(qR 4 4 2<|qR 11 4 2 [])) I I ?_;obtain⟨v,α,h⟩:=h;refine gV 34 (qi ((v:Nat):Int)) I (bd α) I ?_;obtain⟨x,y,h⟩:=h;refine cw 8 I (by kernel_rfl) (aI (ae.vget y) ai I I I I) I I ?_;refine qDr [(9,1),(10,1)] I I ?_;obtain⟨w,β,h⟩:=h;refine gV 41 (qi ((w:Nat):Int)) I (bd β) I ?_;obtain⟨l,z,h⟩:=h;refine cw 15 I (by kernel_rfl) (aI (ae.vget z) ai I I I I) I I ?_;refine qDr [(16,1)] I I<|qDe<|gR 9 I<|gV 47 (qi (l.kids.length:Int)) I (aP<|ae.vlen _) I<|gLB 46 I (ae.vlen _) λε=>gR 2 I<|gV 49 (qi (f.length:Int)) I (aP<|ac.vlen _) I<|gLB 48 I (ac.vlen _) λζ=>?_;obtain⟨hb,h⟩:=h;refine gR 1 rfl<|gV 50 (qi ((f.length+2:Nat):Int)) rfl (am (by omega)<|by omega) rfl<|gR 3 rfl<|qXh 51 rfl rfl rfl h JL Ix ?_ ?_<;>intro Z h;refine gR 1 I<|go_sub (F':=(mkF 59 0 [(6,.ptr 1 0)])) (H':=⟨2,[(1,vG 0 0 []),(0,vC (.row 6<|ae.vs g) j k)]⟩) [0,1] [0] I G pq1 (pqo2 I I I I) I<|gR 9 I ?_;obtain⟨rfl,rfl,rfl,rfl,rfl⟩:=h;exact gE G [(1,vF ((ac.mk 0 0 [] []).Kind) ((ac.mk 0 0 [] []).N) ((ac.mk 0 0 [] []).S)<|.row 4<|ac.vs<|(ac.mk 0 0 [] []).L)] [(6,.ptr 1 0),(7,qi 5)] [0,1] [.cell 6 24,.tmp 7] (hH:=⟨⟨_,I,⟨I,(.cons .rfl<|.cons .rfl<|.cons .rfl<|.cons (.nil 4) .nil)⟩⟩,⟨⟨_,I,⟨I,aD.rfl⟩⟩,trivial⟩⟩);refine gR 3 I<|go_sub (F':=(mkF 59 0 [(0,.ptr 0 0),(6,.ptr 1 0),(8,.row 4<|ac.vs f),(10,.box (ae.c l) 0)])) (H':=⟨2,[(1,vG 0 0 []),(0,vC (.row 6<|ae.vs g) j k)]⟩) [0,1] [0] I G pq4 (pqo2 I I I I) I<|gR 5 I ?_;obtain⟨e,o,r,s,t,δ,h⟩:=h;refine qC δ [0] ?_;refine gR 7 I ?_;obtain⟨rfl,rfl,rfl,rfl,rfl⟩:=h;exact gE G [(1,.var 24<|ac.c e)] [(6,.ptr 1 0),(7,qi o)] [0,1] [.cell 6 24,.tmp 7]
def oF(m:Nat)(G:YT)(p1 p2:Int)(p3:List ac)(J:Int)(a:Nat)(O:ac)(Z r2:Int):Prop:=z7 m [] f22 (q9<|.tup [.agg<|ac.c O,qi Z,qi r2]) (xI<|aj f22) [.blk 0,.seq<|xH<|aj f22] 102 [(0,.row 4<|kidsV G),(1,qi p1),(2,qi p2),(3,.row 4<|ac.vs p3),(4,qi J),(10,.ptr 0 0),(37,.row 4<|ac.vs p3),(38,qi (p3.length:Int)),(39,qi (a:Int))] ⟨1,[(0,vG 0 0 [])]⟩
def oC(m:Nat)(G:YT)(p1 p2:Int)(p3:List ac)(J:Int)(a:List ar)(b:List ae)(d:Nat)(O:ac)(Z r2:Int):Prop:=z7 m [] f22 (q9<|.tup [.agg<|ac.c O,qi Z,qi r2]) (xI<|xH<|aj f22) [.blk 2,.seq<|xJ<|xA<|aj f22] 102 [(1,qi p1),(2,qi p2),(3,.row 4<|ac.vs p3),(10,.ptr 0 0),(15,.ptr 1 0),(16,.ptr 2 0),(53,.row 4<|kidsV G),(54,qi (G.length:Int)),(55,qi (d:Int))] ⟨4,[(3,.row 71 6<|ae.vs b),(2,.var 69 [.sl 3,qi J,qi 0]),(1,.var 64 [.row 5<|List.map ar.w a]),(0,vG 0 0 [])]⟩
def zS(m:Nat)(G:YT)(p1 p2:Int)(p3:List ac)(O:Int)(a:List ar)(b:List ae)(d:Nat)(Z:ac)(r1 r2:Int):Prop:=∀(K:Ctx) (J:Nat),aw K []->m<=J->Go prog K (bodyPost prog f22<|SP K<|q9<|.tup [.agg<|ac.c Z,qi r1,qi r2]) (.ex .normal) [.blk 3,.seq<|xH<|xI<|xH<|aj f22,.loop (xI<|xH<|aj f22) J,.blk 2,.seq<|xJ<|xA<|aj f22] 102 (mkF 102 0 [(1,qi p1),(2,qi p2),(3,.row 4<|ac.vs p3),(10,.ptr 0 0),(15,.ptr 1 0),(16,.ptr 2 0),(53,.row 4<|kidsV G),(54,qi (G.length:Int)),(55,qi (d:Int))]) ⟨4,[(3,.row 71 6<|ae.vs b),(2,.var 69 [.sl 3,qi O,qi 0]),(1,.var 64 [.row 5<|List.map ar.w a]),(0,vG 0 0 [])]⟩
theorem zN(m:Nat)(p0:YT)(p1 p2:Int)(p3:List ac)(p4:Int)(r0:ac)(r1 r2:Int)(h:∃a,qy p0 p1 p2 (p3.length:Int) a∧((a=false)->(ac.mk 0 0 [] [])=r0∧0=r1∧5=r2)∧((a=true)->((p4<0)->(ac.mk 0 0 [] [])=r0∧0=r1∧5=r2)∧((¬p4<0)->((16384<p4)->(ac.mk 0 0 [] [])=r0∧0=r1∧5=r2)∧((¬16384<p4)->oF m p0 p1 p2 p3 p4 0 r0 r1 r2)))):rf p0 p1 p2 p3 p4 r0 r1 r2:=by
 refine⟨I,I,?_⟩;refine qA 102 [] func22 λK hK=>?_;refine gR 15 I<|gV 25 (qi (p3.length:Int)) I (aP<|ac.vlen _) I<|gLB 24 I (ac.vlen _) λc=>?_;obtain⟨a,b,h⟩:=h;refine qC0 b rfl<|gR 2 rfl<|qXhZ 28 27 rfl rfl rfl rfl h cv cu ?_ ?_<;>intro hd h;refine gR 20 I ?_;obtain⟨rfl,rfl,rfl⟩:=h;exact go_sub (F':=(mkF 102 0 [(10,.ptr 0 0),(11,qi 0),(12,qi 5)])) (H':=⟨1,[(0,vF ((ac.mk 0 0 [] []).Kind) ((ac.mk 0 0 [] []).N) ((ac.mk 0 0 [] []).S)<|.row 4<|ac.vs<|(ac.mk 0 0 [] []).L)]⟩) [0] [] I hK pq3 ⟨⟨_,I,I,(.cons .rfl<|.cons .rfl<|.cons .rfl<|.cons (.nil 4) .nil)⟩,trivial⟩ I<|qN [.cell 10 24,.tmp 11,.tmp 12];refine gR 4 rfl<|qXdZ 32 31 rfl rfl rfl rfl h ?_ ?_<;>intro hd h;refine gR 16 I ?_;obtain⟨rfl,rfl,rfl⟩:=h;exact go_sub (F':=(mkF 102 0 [(10,.ptr 0 0),(11,qi 0),(12,qi 5)])) (H':=⟨1,[(0,vF ((ac.mk 0 0 [] []).Kind) ((ac.mk 0 0 [] []).N) ((ac.mk 0 0 [] []).S)<|.row 4<|ac.vs<|(ac.mk 0 0 [] []).L)]⟩) [0] [] I hK pq3 ⟨⟨_,I,I,(.cons .rfl<|.cons .rfl<|.cons .rfl<|.cons (.nil 4) .nil)⟩,trivial⟩ I<|qN [.cell 10 24,.tmp 11,.tmp 12];refine gR 5 rfl<|qXd 35 rfl rfl rfl h ?_ ?_<;>intro hd h;refine gR 11 I ?_;obtain⟨rfl,rfl,rfl⟩:=h;exact go_sub (F':=(mkF 102 0 [(10,.ptr 0 0),(11,qi 0),(12,qi 5)])) (H':=⟨1,[(0,vF ((ac.mk 0 0 [] []).Kind) ((ac.mk 0 0 [] []).N) ((ac.mk 0 0 [] []).S)<|.row 4<|ac.vs<|(ac.mk 0 0 [] []).L)]⟩) [0] [] I hK pq3 ⟨⟨_,I,I,(.cons .rfl<|.cons .rfl<|.cons .rfl<|.cons (.nil 4) .nil)⟩,trivial⟩ I<|qN [.cell 10 24,.tmp 11,.tmp 12];exact gR 8 I<|gV 38 (qi (p3.length:Int)) I (aP<|ac.vlen _) I<|gR 4 I<|go_loop m<|qW hK h [0]
theorem yP(m:Nat)(p0:YT)(p1 p2:Int)(p3:List ac)(p4:Int)(a:Nat)(r0:ac)(r1 r2:Int)(h:y5 (a<p3.length) (∃c,p3[a]?=some c∧∃b,qU c b∧y7 b ((ac.mk 0 0 [] [])=r0∧0=r1∧5=r2) (a+1<=9223372036854775807∧oF m p0 p1 p2 p3 p4 (a+1) r0 r1 r2))<|∃d,ld p0 d∧oC m p0 p1 p2 p3 p4 d ([]:List ae) 0 r0 r1 r2):oF (m+1) p0 p1 p2 p3 p4 a r0 r1 r2:=by
 refine qj λK j1 hK j=>?_;refine gR 6 rfl<|qXh 40 rfl rfl rfl h cg ch ?_ ?_<;>intro hd h;refine gR 7 I ?_;obtain⟨c,e,h⟩:=h;refine gY (aI (ac.vget e) ai I I I I) I I<|gR 8 I ?_;obtain⟨b,f,h⟩:=h;refine qC0 f rfl<|gR 3 rfl<|qXh 45 rfl rfl rfl h cv cu ?_ ?_<;>intro hd h;refine gR 12 I<|go_xloopR<|gR 2 I ?_;obtain⟨rfl,rfl,rfl⟩:=h;exact go_sub (F':=(mkF 102 0 [(10,.ptr 0 0),(11,qi 0),(12,qi 5)])) (H':=⟨1,[(0,vF ((ac.mk 0 0 [] []).Kind) ((ac.mk 0 0 [] []).N) ((ac.mk 0 0 [] []).S)<|.row 4<|ac.vs<|(ac.mk 0 0 [] []).L)]⟩) [0] [] I hK pq3 ⟨⟨_,I,I,(.cons .rfl<|.cons .rfl<|.cons .rfl<|.cons (.nil 4) .nil)⟩,trivial⟩ I<|qN [.cell 10 24,.tmp 11,.tmp 12];refine gR 5 I ?_;obtain⟨hb,h⟩:=h;exact gR 1 I<|gV 47 (qi ((a+1:Nat):Int)) I (am (by omega)<|by omega) I<|gR 2 I<|go_xloop<|qW hK h [0];refine gR 3 I<|go_xloopE<|gR 5 I ?_;obtain⟨d,g,h⟩:=h;exact qC0 g I<|gR 17 I<|gV 54 (qi (p0.length:Int)) I (aP<|aJ _) I<|gLB 53 I (aJ _) λi=>gR 4 I<|go_loop m<|gNC 2 0 71 6 I I I I<|qW hK h [0,1,2,3]
theorem yB(m:Nat)(J:YT)(p1 p2:Int)(p3:List ac)(O:Int)(p:List ar)(a:List ae)(g:Nat)(Z:ac)(r1 r2:Int)(h:y5 (g<J.length) (∃k,J[g]?=some k∧∃b q,ml k p b q∧(a++[(ae.mk 0 0 0 false [] [])]).length<=1000000000∧∃r,(a++[(ae.mk 0 0 0 false [] [])])[a.length]?=some r∧zS m J p1 p2 p3 O q ((a++[(ae.mk 0 0 0 false [] [])]).set a.length b) g Z r1 r2) (∃l,p1=((l:Nat):Int)∧∃s,a[l]?=some s∧∃n,p2=((n:Nat):Int)∧∃t,s.kids[n]?=some t∧∃v e x y f,S_eval_runner_enter a O 0 t p3 v e x y f∧y9 e 0 ((ac.mk 0 0 [] [])=Z∧f=r1∧e=r2) (∃d,oP v d∧d=Z∧f=r1∧0=r2))):oC (m+1) J p1 p2 p3 O p a g Z r1 r2:=by
 refine qj λK j1 G θ=>?_;refine gR 6 rfl<|qXh 56 rfl rfl rfl h cg ch ?_ ?_<;>intro hd h;refine gR 7 I ?_;obtain⟨k,z,h⟩:=h;refine gY (aI (ay z) ai I I I I) I I<|gR 5 I<|qDs [2,4] 8 14<|qDr (qR 0 3 2 [(3,3),(4,3),(6,2)]) I I<|gV 65 (qi (a.length:Int)) I (aP<|ae.vlen _) I<|gLO 3 I (ae.vlen _) λη=>?_;obtain⟨b,q,β,h⟩:=h;apply bf (i:=5) (j:=7) (by kernel_rfl) rfl rfl rfl rfl;exact(cb (L':=[2,4]) (by kernel_rfl) I I (pS (H:=⟨5,[(4,.var 35<|ao k),(3,.row 71 6<|ae.vs a),(2,.var 69 [.sl 3,qi O,qi 0]),(1,.var 64 [.row 5<|List.map ar.w p]),(0,vG 0 0 [])]⟩) β [1] .rfl ⟨⟨_,I,⟨I,aD.rfl⟩⟩,trivial⟩ I [2,4] I)<|.inl I);exact(aG ai I I);refine qDr [(7,0)] I I<|gHX 7 [.agg [qi 0,qi 0,qi 0,.bool false,.str [],.row 6<|ae.vs []]] I (.cons (.agg<|.cons .rfl<|.cons .rfl<|.cons .rfl<|.cons .rfl<|.cons .rfl<|.cons (.nil 6) .nil) .nil) I<|gHR 7 (ae.vs [(ae.mk 0 0 0 false [] [])]) I (ae.vone<|ae.mk 0 0 0 false [] []) I ?_;obtain⟨hb,h⟩:=h;refine bo 8 (.repl 3<|.row 71 6<|ae.vs<|a++[(ae.mk 0 0 0 false [] [])]) I (by kernel_rfl) (bI ai I I I I I (ae.vapp a [(ae.mk 0 0 0 false [] [])]).symm (by rw[ae.vlen];exact hb)) (okR I) I (by kernel_rfl) I I ?_;obtain⟨r,c,h⟩:=h;refine gYd 9 I (by kernel_rfl) (yIO ai I I I I (by have :=(ae.vget c);exact(List.getElem?_eq_some_iff.1 this).1)) I I ?_;refine qDr [(11,2),(12,2)] I I ?_;apply bf (i:=10) (j:=13) (by kernel_rfl) rfl rfl rfl rfl;exact(pD (.set 8<|.row 71 6<|ae.vs<|(a++[(ae.mk 0 0 0 false [] [])]).set a.length b) (dSe ai I I I I (ae.vget c) I<|ae.vset (a++[(ae.mk 0 0 0 false [] [])]) a.length b) (okS I)<|by kernel_rfl);exact(aG ai I I);exact qDr [(13,1)] I I<|qDe<|qJH G (h K _ G<|by omega) [0,1,2,8] ⟨⟨_,I,⟨I,I,(ae.vren _<|(a++[(ae.mk 0 0 0 false [] [])]).set a.length b).symm⟩⟩,⟨⟨_,I,⟨I,aD.rfl⟩⟩,⟨⟨_,I,⟨I,aD.rfl⟩⟩,⟨⟨_,I,⟨I,aD.rfl⟩⟩,trivial⟩⟩⟩⟩;refine bo 10 (.set 8<|.row 71 6<|ae.vs<|(a++[(ae.mk 0 0 0 false [] [])]).set a.length b) I (by kernel_rfl) (dSe ai I I I I (ae.vget c) I<|ae.vset (a++[(ae.mk 0 0 0 false [] [])]) a.length b) (okS I) I (by kernel_rfl) I I ?_;exact qDe<|qJH G (h K _ G<|by omega) [0,1,2,8] ⟨⟨_,I,⟨I,I,(ae.vren _<|(a++[(ae.mk 0 0 0 false [] [])]).set a.length b).symm⟩⟩,⟨⟨_,I,⟨I,aD.rfl⟩⟩,⟨⟨_,I,⟨I,aD.rfl⟩⟩,⟨⟨_,I,⟨I,aD.rfl⟩⟩,trivial⟩⟩⟩⟩;refine gHX 5 [.agg [qi 0,qi 0,qi 0,.bool false,.str [],.row 6<|ae.vs []]] I (.cons (.agg<|.cons .rfl<|.cons .rfl<|.cons .rfl<|.cons .rfl<|.cons .rfl<|.cons (.nil 6) .nil) .nil) I ?_;refine gHR 5 (ae.vs [(ae.mk 0 0 0 false [] [])]) I (ae.vone<|ae.mk 0 0 0 false [] []) I<|qDC 5 β [1] I ?_;obtain⟨hb,h⟩:=h;refine bo 8 (.repl 3<|.row 71 6<|ae.vs<|a++[(ae.mk 0 0 0 false [] [])]) I (by kernel_rfl) (bI ai I I I I I (ae.vapp a [(ae.mk 0 0 0 false [] [])]).symm (by rw[ae.vlen];exact hb)) (okR I) I (by kernel_rfl) I I ?_;obtain⟨r,c,h⟩:=h;refine gYd 9 I (by kernel_rfl) (yIO ai I I I I (by have :=(ae.vget c);exact(List.getElem?_eq_some_iff.1 this).1)) I I ?_;refine qDr [(11,2),(12,2)] I I ?_;apply bf (i:=10) (j:=13) (by kernel_rfl) rfl rfl rfl rfl;exact(pD (.set 8<|.row 71 6<|ae.vs<|(a++[(ae.mk 0 0 0 false [] [])]).set a.length b) (dSe ai I I I I (ae.vget c) I<|ae.vset (a++[(ae.mk 0 0 0 false [] [])]) a.length b) (okS I)<|by kernel_rfl);exact(aG ai I I);exact qDr [(13,1)] I I<|qDe<|qJH G (h K _ G<|by omega) [0,1,2,8] ⟨⟨_,I,⟨I,I,(ae.vren _<|(a++[(ae.mk 0 0 0 false [] [])]).set a.length b).symm⟩⟩,⟨⟨_,I,⟨I,aD.rfl⟩⟩,⟨⟨_,I,⟨I,aD.rfl⟩⟩,⟨⟨_,I,⟨I,aD.rfl⟩⟩,trivial⟩⟩⟩⟩;refine bo 10 (.set 8<|.row 71 6<|ae.vs<|(a++[(ae.mk 0 0 0 false [] [])]).set a.length b) I (by kernel_rfl) (dSe ai I I I I (ae.vget c) I<|ae.vset (a++[(ae.mk 0 0 0 false [] [])]) a.length b) (okS I) I (by kernel_rfl) I I ?_;exact qDe<|qJH G (h K _ G<|by omega) [0,1,2,8] ⟨⟨_,I,⟨I,I,(ae.vren _<|(a++[(ae.mk 0 0 0 false [] [])]).set a.length b).symm⟩⟩,⟨⟨_,I,⟨I,aD.rfl⟩⟩,⟨⟨_,I,⟨I,aD.rfl⟩⟩,⟨⟨_,I,⟨I,aD.rfl⟩⟩,trivial⟩⟩⟩⟩;refine gR 3 I<|go_xloopE<|gR 10 I ?_;obtain⟨l,γ,h⟩:=h;refine gV 78 (qi ((l:Nat):Int)) I (bd γ) I ?_;obtain⟨s,o,h⟩:=h;refine gY (yIO ai I I I I (by have :=(ae.vget o);exact(List.getElem?_eq_some_iff.1 this).1)) I I ?_;refine gR 1 I<|gDo (.nop) (dLe ai I I I (ae.vget o) I) trivial I I I<|gR 1 I ?_;obtain⟨n,δ,h⟩:=h;refine gV 82 (qi ((n:Nat):Int)) I (bd δ) I ?_;obtain⟨t,α,h⟩:=h;refine gY (aI (ae.vget α) ai I I I I) I I<|gR 1 I<|gFR 3 I (ae.vpure _) I I ?_;obtain⟨v,e,x,y,f,ε,h⟩:=h;refine qC ε [2] ?_;refine gR 15 rfl<|qXh 89 rfl rfl rfl h cz bH ?_ ?_<;>intro hd h;refine gR 2 I<|qDs [2] 7 9<|qDr (qR 0 4 2 [(4,3),(5,2),(6,0),(7,1),(8,1)]) I I<|qDe<|gR 3 I ?_;obtain⟨rfl,rfl,rfl⟩:=h;exact go_sub (F':=(mkF 102 0 [(10,.ptr 0 0),(11,qi f),(12,qi e)])) (H':=⟨1,[(0,vF ((ac.mk 0 0 [] []).Kind) ((ac.mk 0 0 [] []).N) ((ac.mk 0 0 [] []).S)<|.row 4<|ac.vs<|(ac.mk 0 0 [] []).L)]⟩) [0] [] I G pq3 ⟨⟨_,I,I,(.cons .rfl<|.cons .rfl<|.cons .rfl<|.cons (.nil 4) .nil)⟩,trivial⟩ I<|qN [.cell 10 24,.tmp 11,.tmp 12];refine gR 4 I<|qDs [6,2] 7 9<|qDr ((0,3)::(qR 2 3 2 [(5,3)])) I I ?_;obtain⟨d,ζ,h⟩:=h;refine bg 1 ζ (by kernel_rfl) I (by kernel_rfl) I I .rfl I I ?_;refine qDr [(6,0),(7,1),(8,1)] I I<|qDe<|gR 2 I ?_;obtain⟨rfl,rfl,rfl⟩:=h;exact go_sub (F':=(mkF 102 0 [(10,.ptr 0 0),(11,qi f),(12,qi 0)])) (H':=⟨1,[(0,.var 24<|ac.c d)]⟩) [0] [] I G pq3 (pqo1 I I) I<|qN [.cell 10 24,.tmp 11,.tmp 12]
theorem FV(m:Nat)(G:YT)(p1 p2:Int)(p3:List ac)(J:Int)(c:List ar)(b:List ae)(a:Nat)(O:ac)(Z r2:Int)(h:a+1<=9223372036854775807∧oC m G p1 p2 p3 J c b (a+1) O Z r2):zS (m+1) G p1 p2 p3 J c b a O Z r2:=by
 refine qj λK j1 hK d=>?_;refine gR 3 I ?_;obtain⟨hb,h⟩:=h;exact gR 1 I<|gV 71 (qi ((a+1:Nat):Int)) I (am (by omega)<|by omega) I<|gR 2 I<|go_xloop<|qJH hK (h K _ hK<|by omega) [0,1,2,3] ⟨⟨_,I,⟨I,I,(ae.vren _ b).symm⟩⟩,⟨⟨_,I,⟨I,aD.rfl⟩⟩,⟨⟨_,I,⟨I,aD.rfl⟩⟩,⟨⟨_,I,⟨I,aD.rfl⟩⟩,trivial⟩⟩⟩⟩
end Go.Proofs.YthnohcipianijaaGreatDoor
