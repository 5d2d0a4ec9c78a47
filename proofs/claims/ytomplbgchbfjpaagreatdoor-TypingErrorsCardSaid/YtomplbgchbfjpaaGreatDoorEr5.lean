/- Contracts of the functions that the law reaches, part 5. -/
import Derived.Test.YtomplbgchbfjpaaGreatDoorEr4
set_option linter.unusedVariables false
set_option linter.unusedSimpArgs false
namespace Go.Proofs.YtomplbgchbfjpaaGreatDoor
open _root_.Go.Proofs.Tryz
open Go.RowKit Lx Sx
set_option maxRecDepth 100000
set_option maxHeartbeats 1000000
variable{t:Tree}{i:Nat}
theorem fv(h:i<t.kids.length):t.kids[i]?=some (cP t i):=by
 simp only[cP,List.getD_eq_getElem?_getD];rw[List.getElem?_eq_getElem h];rfl
variable{u:Tree}
theorem eo(h:t.kids[i]?=some u):cP t i=u:=by simp only[cP,List.getD_eq_getElem?_getD,h];rfl
def exT(t:Tree):Prop:=shapeK t=true∧ia t.kind=true
theorem tu{n:Int}{a b c:Nat}{z:Int}(h:0≤f0 n a b c z):(a:Int)≤n∧(0≤z→n≤z):=by
 unfold f0 at h;split at h
 ·omega
 ·split at h
  ·omega
  ·exact⟨by omega,λG=>by omega⟩
theorem qQ(h:exT t):(t.kind=22→t.kids.length=1)∧(t.kind=20→t.kids.length=2)∧(t.kind=19→t.kids.length=3)∧(t.kind=21→t.kids.length=2):=by
 obtain⟨hs,J⟩:=h;rw[cp]at hs;simp only[Bool.and_eq_true,decide_eq_true_eq]at hs;have G:=hs.1.1;refine⟨λe=>?_,λe=>?_,λe=>?_,λe=>?_⟩
 ·rw[e]at G;have :=tu (show 0≤f0 t.kids.length 1 2 0 1 from G);omega
 ·rw[e]at G;have :=tu (show 0≤f0 t.kids.length 2 4 0 2 from G);omega
 ·rw[e]at G;have :=tu (show 0≤f0 t.kids.length 3 3 0 3 from G);omega
 ·rw[e]at G;have :=tu (show 0≤f0 t.kids.length 2 1 0 2 from G);omega
theorem cV(h:exT t)(hu:t.kids[i]?=some u)(h16:t.kind≠16):exT u∧u.kind≠17:=by
  obtain⟨hs,hk⟩:=h;rw[cp]at hs;simp only[Bool.and_eq_true,decide_eq_true_eq]at hs;obtain⟨g1,g2⟩:=ej hs.2 hu;have hk':10≤t.kind∧t.kind≤22∧t.kind≠17:=by simpa[ia]using hk
  have e:ia u.kind=true:=by
    simp only[iX]at g1;rw[if_neg (by omega),if_neg (by omega),if_neg (by omega),if_neg h16]at g1;split at g1
    · simp only[Bool.or_eq_true,Bool.and_eq_true,beq_iff_eq,yp]at g1;rcases g1 with g|⟨_,g⟩
      ·exact g.1
      ·rw[g];rfl
    ·exact g1
  exact ⟨⟨g2, e⟩, by have :10≤u.kind∧u.kind≤22∧u.kind≠17:=by simpa[ia   ]using e
                     exact this.2.2⟩
theorem Ci(h:exT t)(hu:t.kids[i]?=some u)(J:t.kind=16):u.kind=17∧u.kids.length=1∧exT (cP u 0):=by
 obtain⟨hs,hk⟩:=h;rw[cp]at hs;simp only[Bool.and_eq_true,decide_eq_true_eq]at hs;obtain⟨O,G⟩:=ej hs.2 hu;have e:u.kind=17:=by
  rw[J]at O;simpa[iX]using O
 rw[cp]at G;simp only[Bool.and_eq_true,decide_eq_true_eq]at G;have U:=G.1.1;rw[e]at U;have :=tu (show 0≤f0 u.kids.length 1 0 0 1 from U);have h1:u.kids.length=1:=by omega
 obtain⟨Z,g4⟩:=ej G.2 (fv (t:=u) (i:=0) (by omega));rw[e]at Z;exact⟨e,h1,g4,by simpa[iX]using Z⟩
mutual
def uN:Tree→Nat
 |.node k w ls ks=>(if k=16∨k=9 then 1 else 0)+uNs ks
def uNs:List Tree→Nat
 |[]=>0
 |t::r=>uN t+uNs r
end
theorem gG(t:Tree):uN t=(if t.kind=16∨t.kind=9 then 1 else 0)+uNs t.kids:=by cases t;simp only[uN];rfl
def KOk(L:Nat)(k:Kn):Prop:=0≤k.lists∧k.lists≤(L:Int)
variable{L:Nat}{k:Kn}
theorem KOk.mono{M:Nat}(h:KOk L k)(G:L≤M):KOk M k:=⟨h.1,by have :=h.2;omega⟩
theorem tH(z:Int):KOk L ⟨z,0⟩:=⟨Int.le_refl _,by simp⟩
structure Hyp (x:Cx) (env:Env) (s:Sv) (L B u:Nat):Prop where
 pa:x.pa.length+B≤100000000
 fa:s.fa.length+4*B≤900000000
 tg:u≤s.tg.length
 lb:L+B≤900000000
 env:∀b∈env,KOk L b.typ
 sg:∀k g,aI k x.sg=some g→KOk L g.result
structure Pst (L B u:Nat) (s:Sv) (r:Kn×Sv):Prop where
 k:KOk (L+B) r.1
 tg:r.2.tg=s.tg.drop u
 fa:r.2.fa.length+1≤s.fa.length+4*B
variable{x:Cx}{env:Env}{s:Sv}{B:Nat}
theorem Hyp.to{s1:Sv}{u B' u':Nat}(h:Hyp x env s L B u)(G:B'≤B)(hf:s1.fa.length+4*B'≤s.fa.length+4*B)(ht:u'≤s1.tg.length):Hyp x env s1 L B' u':=
 ⟨by have :=h.pa;omega,by have :=h.fa;omega,ht,by have :=h.lb;omega,h.env,h.sg⟩
def nB(E:Ev)(N:Nat):Prop:=∀t,tbulk t≤N→exT t→∀x env s L,Hyp x env s L (tbulk t) (uN t)→ckE x s t env (E x t env s).1 (E x t env s).2∧Pst L (tbulk t) (uN t) s (E x t env s)
theorem Qy(x:Cx)(i:Nat)(k:Kn)(s:Sv):(knS x i k s).tg=s.tg:=by unfold knS;split<;>rfl
theorem BA(x:Cx)(i:Nat)(k:Kn)(s:Sv):(knS x i k s).fa=s.fa:=by unfold knS;split<;>rfl
variable{E:Ev}{N:Nat}
theorem ds(J:nB E N)(G:t.kids[i]?=some u)(hb:tbulk u≤N)(hx:exT u)(hy:Hyp x env s L (tbulk u+1) (uN u)):
  ckK x s t i env (aO E x t i env s).1 (aO E x t i env s).2∧Pst L (tbulk u) (uN u) s (aO E x t i env s):=by
 have O:=hy.pa;obtain⟨h1,h2⟩:=J u hb hx (x.go i) env s L ⟨by simp[Cx.go];omega,by have :=hy.fa;omega,hy.tg,by have :=hy.lb;omega,hy.env,hy.sg⟩;have e:aO E x t i env s=zq x i (E (x.go i) u env s):=by unfold aO;rw[eo G]
 rw[e];generalize E (x.go i) u env s=r at h1 h2⊢;obtain⟨k,s'⟩:=r;exact⟨PW G (by omega) h1,h2.k,(Qy _ _ _ _).trans h2.tg,by show(knS x i k s').fa.length+1≤_;rw[BA];exact h2.fa⟩
theorem eR(x:Cx)(k:Int)(b:List Int)(s:Sv):(faP x k b s).fa.length=s.fa.length+1:=by simp[faP]
theorem Sc(a b:Kn)(h1:x.pa.length+1≤1000000000)(h2:s.fa.length+3≤1000000000):ckS x s (a,b) (tE a b) (qw x a b s):=by
 have L4:∀s0:Sv,s0.fa.length+1≤1000000000→∀(w:Bool) (f:Kn),dQ 1 (a,b) f.simple f.lists (mkC x s0) w f (mkC x (if w=false∧aZ a b=true then faP x 6 [1] s0 else s0)):=λs0 h0 w f=>by
  refine ww 0 _ _ _ _ _ _ _ (⟨λU=>⟨_,kR a b,λhd=>?_,λhd=>?_⟩,λU=>?_⟩)
  ·rw[if_pos ⟨U,hd⟩];exact⟨_,eT (x:=x) (s:=s0) 6 [1] h1 h0,rfl,rfl⟩
  ·rw[if_neg (λh=>by rw[hd]at h;cases h.2)];exact⟨rfl,rfl⟩
  ·rw[if_neg (λh=>by rw[U]at h;cases h.1)];exact⟨rfl,rfl⟩
 have L3:∀s0:Sv,s0.fa.length+2≤1000000000→∀(w:Bool) (f:Kn) (v:Bool),v=okB b→iG 2 (a,b) (mkC x s0) w f.simple f.lists v (if okB b then(if f.simple=0 then b else f)else f) (mkC x (if bad b then faP x 4 [1] s0 else if w=false∧aZ a b=true then faP x 6 [1] s0 else s0)):=λs0 h0 w f v hv=>by
  refine wA 1 _ _ _ _ _ _ _ _ (⟨λU=>?_,λU=>⟨λZ=>?_,λZ=>?_⟩⟩)
  ·have G:okB b=true:=hv▸U;have J:¬(bad b=true):=by simp[bad,G]
   rw[if_neg J,if_pos G];refine⟨λhz=>?_,λhz=>?_⟩
   ·rw[if_pos hz];exact L4 s0 (by omega) w b
   ·rw[if_neg hz];exact L4 s0 (by omega) w f
  ·have O:=Z;simp only at O;have G:okB b=false:=hv▸U;have J:bad b=true:=by simp[bad,G,O]
   rw[if_pos J,if_neg (by rw[G];decide)];have :=L4 (faP x 4 [1] s0) (by rw[eR];omega) true f;rw[if_neg (λh=>by cases h.1)]at this;exact⟨_,eT (x:=x) (s:=s0) 4 [1] h1 (by omega),this⟩
  ·have O:=Z;simp only at O;have G:okB b=false:=hv▸U;have J:¬(bad b=true):=by simp[bad,G,O]
   rw[if_neg J,if_neg (by rw[G];decide)];exact L4 s0 (by omega) w f
 have L2:∀s0:Sv,s0.fa.length+2≤1000000000→∀(w:Bool) (f:Kn),fx 3 (a,b) (mkC x s0) w f.simple f.lists (if okB b then(if f.simple=0 then b else f)else f) (mkC x (if bad b then faP x 4 [1] s0 else if w=false∧aZ a b=true then faP x 6 [1] s0 else s0)):=λs0 h0 w f=>
  rL2_typing_checker_sum 2 _ _ _ _ _ _ _ (⟨λh=>L3 s0 h0 w f true (by have h':b.simple=5∧b.lists=0:=h;simp[okB,h'.1,h'.2]),λh=>L3 s0 h0 w f _ (by
   by_cases e1:b.simple=5
   ·by_cases e2:b.lists=0
    ·exact absurd ⟨e1,e2⟩ h
    ·simp[okB,e1,e2]
   ·simp[okB,e1])⟩)
 have L1:∀v:Bool,v=okB a→iz 4 (mkC x s) (a,b) v (tE a b) (mkC x (qw x a b s)):=λv hv=>by
  refine wt 3 _ _ _ _ _ (⟨λU=>?_,λU=>⟨λZ=>?_,λZ=>?_⟩⟩)
  ·have G:okB a=true:=hv▸U;have J:¬(bad a=true):=by simp[bad,G]
   have :=L2 s (by omega) false a;simp only[true_and]at this;unfold tE qw uq;rw[if_neg J,if_pos G];exact this
  ·have O:=Z;simp only at O;have G:okB a=false:=hv▸U;have J:bad a=true:=by simp[bad,G,O]
   have :=L2 (faP x 4 [0] s) (by rw[eR];omega) true ⟨0,0⟩;rw[show(if bad b then faP x 4 [1] (faP x 4 [0] s)else if true=false∧aZ a b=true then faP x 6 [1] (faP x 4 [0] s)else faP x 4 [0] s)=(if bad b then faP x 4 [1] (faP x 4 [0] s)else faP x 4 [0] s) by rw[if_neg (c:=true=false∧aZ a b=true) (λh=>by cases h.1)]]at this;unfold tE qw uq;rw[if_pos J,if_neg (c:=okB a=true) (by rw[G];decide)];exact⟨_,eT (x:=x) (s:=s) 4 [0] h1 (by omega),this⟩
  ·have O:=Z;simp only at O;have G:okB a=false:=hv▸U;have J:¬(bad a=true):=by simp[bad,G,O]
   have :=L2 s (by omega) false ⟨0,0⟩;simp only[true_and]at this;unfold tE qw uq;rw[if_neg J,if_neg (c:=okB a=true) (by rw[G];decide)];exact this
 refine xb 5 _ _ _ _ (?_);exact wC 4 _ _ _ _ (⟨λh=>L1 true (by have h':a.simple=5∧a.lists=0:=h;simp[okB,h'.1,h'.2]),λh=>L1 _ (by
  by_cases e1:a.simple=5
  ·by_cases e2:a.lists=0
   ·exact absurd ⟨e1,e2⟩ h
   ·simp[okB,e1,e2]
  ·simp[okB,e1])⟩)
theorem Sl(t:Tree)(a b:Kn)(h1:x.pa.length+1≤1000000000)(h2:s.fa.length+3≤1000000000):ir 4 t a b (mkC x s) (opQ x t.text a (b,s)).1 (mkC x (opQ x t.text a (b,s)).2):=by
 have L3:∀s0:Sv,t.text≠[43]→t.text≠[61,61]→eP 1 t a b (mkC x s0) (if t.text=[60]then⟨7,0⟩else⟨5,0⟩) (mkC x s0):=λs0 _ _=>
  rL3_typing_checker_operation 0 _ _ _ _ _ _ (⟨λh=>by rw[if_pos h];exact⟨rfl,rfl⟩,λh=>by rw[if_neg h];exact⟨rfl,rfl⟩⟩)
 have L2:∀s0:Sv,s0.fa.length+1≤1000000000→t.text≠[43]→t.text≠[61,61]→eQ 2 t a b (mkC x s0) (if t.text=[60]then⟨7,0⟩else⟨5,0⟩) (mkC x (if aZ b ⟨5,0⟩then faP x 4 [1] s0 else s0)):=λs0 O G J=>
  rL2_typing_checker_operation 1 _ _ _ _ _ _ (⟨_,kR b ⟨5,0⟩,λh=>by rw[if_pos h];exact⟨_,eT (x:=x) (s:=s0) 4 [1] h1 O,L3 _ G J⟩,λh=>by rw[if_neg (c:=aZ b ⟨5,0⟩=true) (by rw[h];decide)];exact L3 _ G J⟩)
 refine sH 3 _ _ _ _ _ _ (⟨λh=>?_,λG=>⟨λh=>?_,λJ=>?_⟩⟩)
 ·rw[show opQ x t.text a (b,s)=(tE a b,qw x a b s)from if_pos h];exact⟨_,_,Sc (x:=x) (s:=s) a b h1 h2,rfl,rfl⟩
 ·rw[show opQ x t.text a (b,s)=(⟨7,0⟩,if aZ a b then faP x 6 [1] s else s)from(if_neg G).trans (if_pos h)];refine⟨_,kR a b,λh=>?_,λh=>?_⟩
  ·rw[if_pos h];exact⟨_,eT (x:=x) (s:=s) 6 [1] h1 (by omega),rfl,rfl⟩
  ·rw[if_neg (by rw[h];decide)];exact⟨rfl,rfl⟩
 ·rw[show opQ x t.text a (b,s)=(if t.text=[60]then⟨7,0⟩else⟨5,0⟩,wq x a b s)from(if_neg G).trans (if_neg J)];refine sT 2 _ _ _ _ _ _ (⟨_,kR a ⟨5,0⟩,λh=>?_,λh=>?_⟩)
  ·have :=L2 (faP x 4 [0] s) (by rw[eR];omega) G J;unfold wq;rw[if_pos (c:=aZ a ⟨5,0⟩=true) h];exact⟨_,eT (x:=x) (s:=s) 4 [0] h1 (by omega),this⟩
  ·have :=L2 s (by omega) G J;unfold wq;rw[if_neg (c:=aZ a ⟨5,0⟩=true) (by rw[h];decide)];exact this
variable{a:Kn}
theorem QW{b:Kn}(G:KOk L a)(hb:KOk L b):KOk L (tE a b):=by
 have h1:KOk L (uq a):=by unfold uq;split;exact G;exact tH 0
 unfold tE;split
 ·split
  ·exact hb
  ·exact h1
 ·exact h1
theorem OB(x:Cx)(a b:Kn)(s:Sv):(qw x a b s).tg=s.tg∧(qw x a b s).fa.length≤s.fa.length+2:=by
 unfold qw
 repeat' split
 all_goals exact⟨rfl,by first|(simp only[eR];omega)|omega⟩
theorem NP(x:Cx)(a b:Kn)(s:Sv):(wq x a b s).tg=s.tg∧(wq x a b s).fa.length≤s.fa.length+2:=by
 unfold wq
 repeat' split
 all_goals exact⟨rfl,by first|(simp only[eR];omega)|omega⟩
theorem Ps{w:List UInt8}{b:Kn}(G:KOk L a)(hb:KOk L b):KOk L (opQ x w a (b,s)).1∧(opQ x w a (b,s)).2.tg=s.tg∧(opQ x w a (b,s)).2.fa.length≤s.fa.length+2:=by
 by_cases h1:w=[43]
 ·rw[show opQ x w a (b,s)=(tE a b,qw x a b s)from if_pos h1];exact⟨QW G hb,OB x a b s⟩
 ·by_cases h2:w=[61,61]
  ·rw[show opQ x w a (b,s)=(⟨7,0⟩,if aZ a b then faP x 6 [1] s else s)from(if_neg h1).trans (if_pos h2)];refine⟨tH _,?_⟩;simp only[];split
   ·exact⟨rfl,by rw[eR];omega⟩
   ·exact⟨rfl,by omega⟩
  ·rw[show opQ x w a (b,s)=(if w=[60]then⟨7,0⟩else⟨5,0⟩,wq x a b s)from(if_neg h1).trans (if_neg h2)];refine⟨?_,NP x a b s⟩;simp only[];split<;>exact tH _
theorem DH(h:t.kids.length=2):∃a b,t.kids=[a,b]:=by
 match e:t.kids,h with
 |[a,b],_=>exact⟨a,b,rfl⟩
theorem Nc(h:t.kids.length=3):∃a b c,t.kids=[a,b,c]:=by
 match e:t.kids,h with
 |[a,b,c],_=>exact⟨a,b,c,rfl⟩
theorem zP(h:t.kids.length=1):∃a,t.kids=[a]:=by
 match e:t.kids,h with
 |[a],_=>exact⟨a,rfl⟩
theorem sE{s1:Sv}{u u' v:Nat}(h:s1.tg=s.tg.drop u)(G:u+u'≤v)(hv:v≤s.tg.length):u'≤s1.tg.length:=by rw[h,List.length_drop];omega
theorem MI(J:nB E N)(hb:tbulk t≤N+1)(hx:exT t)(O:t.kind=21)(hy:Hyp x env s L (tbulk t) (uN t)):
  ckO x s t env (wI E x t env (aO E x t 0 env s)).1 (wI E x t env (aO E x t 0 env s)).2∧Pst L (tbulk t) (uN t) s (wI E x t env (aO E x t 0 env s)):=by
 obtain⟨a,b,e⟩:=DH ((qQ hx).2.2.2 O);have U:t.kids[0]?=some a:=by rw[e];rfl
 have G:t.kids[1]?=some b:=by rw[e];rfl
 have Z:=aV t;rw[e]at Z;simp only[kbulk]at Z;have hU:uN t=uN a+uN b:=by rw[gG,e,O];simp[uNs]
 have p0:=hy.pa;have p1:=hy.fa;have p2:=hy.tg;have p3:=hy.lb;obtain⟨A1,A2⟩:=ds J (s:=s) (env:=env) (x:=x) (L:=L) U (by omega) (cV hx U (by omega)).1 (hy.to (by omega) (by omega) (by omega));generalize aO E x t 0 env s=r at A1 A2⊢;obtain⟨k1,s1⟩:=r;have q1:=A2.fa;simp only at q1;obtain⟨B1,B2⟩:=ds J (s:=s1) (env:=env) (x:=x) (L:=L) G (by omega) (cV hx G (by omega)).1 (hy.to (by omega) (by omega) (sE (v:=uN t) A2.tg (by omega) p2));show ckO x s t env (opQ x t.text k1 (aO E x t 1 env s1)).1 (opQ x t.text k1 (aO E x t 1 env s1)).2∧Pst L (tbulk t) (uN t) s (opQ x t.text k1 (aO E x t 1 env s1));generalize aO E x t 1 env s1=r at B1 B2⊢;obtain⟨k2,s2⟩:=r;have q2:=B2.fa;simp only at q2;refine⟨th 4 _ _ _ _ _ (⟨_,_,A1,_,_,B1,Sl (x:=x) (s:=s2) t k1 k2 (by omega) (by omega)⟩),?_⟩;obtain⟨g1,g2,g3⟩:=Ps (x:=x) (w:=t.text) (s:=s2) (a:=k1) (b:=k2) (L:=L+tbulk t) (A2.k.mono (by omega)) (B2.k.mono (by omega));exact⟨g1,by rw[g2,B2.tg,A2.tg,List.drop_drop,hU],by omega⟩
theorem OM(hE:nB E N)(hb:tbulk t≤N+1)(hx:exT t)(hk:t.kind=19)(hy:Hyp x env s L (tbulk t) (uN t)):
  ckB x s t env (ifP E x t env s).1 (ifP E x t env s).2∧Pst L (tbulk t) (uN t) s (ifP E x t env s):=by
 obtain⟨a,b,c,e⟩:=Nc ((qQ hx).2.2.1 hk);have ha:t.kids[0]?=some a:=by rw[e];rfl
 have hb':t.kids[1]?=some b:=by rw[e];rfl
 have hc:t.kids[2]?=some c:=by rw[e];rfl
 have hB:=aV t;rw[e]at hB;simp only[kbulk]at hB;have hU:uN t=uN a+uN b+uN c:=by rw[gG,e,hk];simp[uNs];omega
 have p0:=hy.pa;have p1:=hy.fa;have p2:=hy.tg;have p3:=hy.lb;obtain⟨A1,A2⟩:=ds hE (s:=s) (env:=env) (x:=x) (L:=L) ha (by omega) (cV hx ha (by omega)).1 (hy.to (by omega) (by omega) (by omega));unfold ifP;generalize aO E x t 0 env s=r at A1 A2⊢;obtain⟨k1,s1⟩:=r;have q1:=A2.fa;simp only at q1;obtain⟨G,Z⟩:∃G,G=ifS x (k1,s1):=⟨_,rfl⟩;have f1:G.tg=s1.tg∧G.fa.length≤s1.fa.length+1:=by
  rw[Z];unfold ifS;simp only[];split
  ·exact⟨rfl,by rw[eR];omega⟩
  ·exact⟨rfl,by omega⟩
 rw[←Z];obtain⟨B1,B2⟩:=ds hE (s:=G) (env:=env) (x:=x) (L:=L) hb' (by omega) (cV hx hb' (by omega)).1 (hy.to (by omega) (by omega) (sE (v:=uN t) (f1.1.trans A2.tg) (by omega) p2));generalize aO E x t 1 env G=r at B1 B2⊢;obtain⟨J,s2⟩:=r;have q2:=B2.fa;simp only at q2;have hd2:s2.tg=s.tg.drop (uN a+uN b):=by have :=B2.tg;simp only at this;rw[this,f1.1,A2.tg,List.drop_drop]
 obtain⟨C1,C2⟩:=ds hE (s:=s2) (env:=env) (x:=x) (L:=L) hc (by omega) (cV hx hc (by omega)).1 (hy.to (by omega) (by omega) (sE (v:=uN t) hd2 (by omega) p2));show ckB x s t env (ifQ x J (aO E x t 2 env s2)).1 (ifQ x J (aO E x t 2 env s2)).2∧Pst L (tbulk t) (uN t) s (ifQ x J (aO E x t 2 env s2));generalize aO E x t 2 env s2=r at C1 C2⊢;obtain⟨O,U⟩:=r;have q3:=C2.fa;simp only at q3;have hd3:U.tg=s.tg.drop (uN t):=by have :=C2.tg;simp only at this;rw[this,hd2,List.drop_drop,hU]
 have fin:fh 1 t env (mkC x G) (ifQ x J (O,U)).1 (mkC x (ifQ x J (O,U)).2):=by
  refine te 0 _ _ _ _ _ (⟨_,_,B1,_,_,C1,_,kR J O,λh=>?_,λh=>?_⟩)
  ·rw[show ifQ x J (O,U)=(if J.simple=0 then O else J,if aZ J O then faP x 6 [2] U else U)from rfl];rw[if_pos (c:=aZ J O=true) h];refine⟨_,eT (x:=x) (s:=U) 6 [2] (by simp;omega) (by omega),λhz=>?_,λhz=>?_⟩
   ·rw[if_pos hz];exact⟨rfl,rfl⟩
   ·rw[if_neg hz];exact⟨rfl,rfl⟩
  ·rw[show ifQ x J (O,U)=(if J.simple=0 then O else J,if aZ J O then faP x 6 [2] U else U)from rfl];rw[if_neg (c:=aZ J O=true) (by rw[h];decide)];refine⟨λhz=>?_,λhz=>?_⟩
   ·rw[if_pos hz];exact⟨rfl,rfl⟩
   ·rw[if_neg hz];exact⟨rfl,rfl⟩
 refine⟨tP 1 _ _ _ _ _ (⟨_,_,A1,_,kR k1 ⟨7,0⟩,λh=>?_,λh=>?_⟩),?_⟩
 ·have e1:G=faP x 4 [0] s1:=Z.trans (if_pos h);rw[e1]at fin;exact⟨_,eT (x:=x) (s:=s1) 4 [0] (by simp;omega) (by omega),fin⟩
 ·have e1:G=s1:=Z.trans (if_neg (by rw[h];decide));rw[e1]at fin;exact fin
 ·refine⟨?_,?_,?_⟩<;>unfold ifQ<;>simp only[]
  ·split
   ·exact C2.k.mono (by omega)
   ·exact B2.k.mono (by omega)
  ·split<;>exact hd3
  ·split
   ·rw[eR];omega
   ·omega
theorem Jn{E:Ev}{N:Nat}(hE:nB E N){x:Cx}{env:Env}{L M:Nat}{t:Tree}(hkl:t.kids.length≤1000000000)(ht:∀(i:Nat) (u:Tree),t.kids[i]?=some u→tbulk u≤N∧tbulk u≤M∧exT u):∀(n i:Nat) (f:Kn) (s:Sv),n+i=t.kids.length→KOk (L+M) f→Hyp x env s L (kbulk (t.kids.drop i)+1) (uNs (t.kids.drop i))→L+M≤900000000→
  L0_typing_checker_list (n+1) t env (mkC x s) f.simple f.lists i (jC (iq E x t env n i (f,s))).1 (mkC x (jC (iq E x t env n i (f,s))).2)∧
  KOk (L+M+1) (jC (iq E x t env n i (f,s))).1∧(jC (iq E x t env n i (f,s))).2.tg=s.tg.drop (uNs (t.kids.drop i))∧(jC (iq E x t env n i (f,s))).2.fa.length≤s.fa.length+4*kbulk (t.kids.drop i)
 | 0,i,f,s,hn,hf,hy,hl=>by
  have h0:=hf.1;have h1:=hf.2;have hd:t.kids.drop i=[]:=List.drop_of_length_le (by omega);rw[show iq E x t env 0 i (f,s)=(f,s)from rfl];refine⟨oY 0 _ _ _ _ _ _ _ _ (⟨λh=>absurd h (by omega),λ_=>⟨λhz=>?_,λhz=>?_⟩⟩),?_,?_,?_⟩
  ·rw[show jC (f,s)=(⟨f.simple,f.lists+1⟩,s) by unfold jC;simp only[if_neg hz]];exact⟨⟨by omega,by omega⟩,rfl,rfl⟩
  ·rw[show jC (f,s)=(f,s) by unfold jC;simp only[if_pos hz]];exact⟨rfl,rfl⟩
  ·show KOk (L+M+1) (if f.simple=0 then f else⟨f.simple,f.lists+1⟩);split
   ·exact hf.mono (by omega)
   ·exact⟨by simp only[];omega,by simp only[];omega⟩
  ·rw[hd];simp[uNs,jC]
  ·rw[hd];simp[jC]
 | n+1,i,f,s,hn,hf,hy,hl=>by
  have hlt:i<t.kids.length:=by omega
  obtain⟨u,hu⟩:∃u,t.kids[i]?=some u:=⟨_,fv hlt⟩;have hd:=aU hu;obtain⟨b1,b2,b3⟩:=ht i u hu;have p1:=hy.pa;have p2:=hy.fa;have p3:=hy.tg;have p4:=hy.lb;rw[hd]at p1 p2 p3 p4 hy⊢;simp only[kbulk,uNs]at p1 p2 p3 p4 hy⊢;obtain⟨A1,A2⟩:=ds hE (s:=s) (env:=env) (x:=x) (L:=L) hu b1 b3 (hy.to (by omega) (by omega) (by omega));rw[show iq E x t env (n+1) i (f,s)=iq E x t env n (i+1) (AL x i f (aO E x t i env s))from rfl];generalize aO E x t i env s=r at A1 A2⊢;obtain⟨k,s1⟩:=r;have q1:=A2.fa;have q2:=A2.tg;have q3:=A2.k;simp only at q1 q2 q3;obtain⟨f1,hf1⟩:∃f1,f1=if f.simple=0 then k else f:=⟨_,rfl⟩
  have hk1:KOk (L+M) f1:=by
   rw[hf1];split
   ·exact q3.mono (by omega)
   ·exact hf
  have next:∀s2:Sv,s2.tg=s1.tg→s2.fa.length≤s1.fa.length+1→Hyp x env s2 L (kbulk (t.kids.drop (i+1))+1) (uNs (t.kids.drop (i+1))):=λs2 e1 e2=>
   hy.to (by omega) (by omega) (by rw[e1,q2,List.length_drop];omega)
  rw[show AL x i f (k,s1)=(if f.simple=0 then k else f,if aZ k (if f.simple=0 then k else f)then faP x 6 [(i:Int)] s1 else s1)from rfl,←hf1];have fin:∀s2:Sv,s2.tg=s1.tg→s2.fa.length≤s1.fa.length+1→KOk (L+M+1) (jC (iq E x t env n (i+1) (f1,s2))).1∧(jC (iq E x t env n (i+1) (f1,s2))).2.tg=s.tg.drop (uN u+uNs (t.kids.drop (i+1)))∧(jC (iq E x t env n (i+1) (f1,s2))).2.fa.length≤s.fa.length+4*(tbulk u+kbulk (t.kids.drop (i+1))):=λs2 e1 e2=>by
   obtain⟨_,g2,g3,g4⟩:=Jn hE hkl ht n (i+1) f1 s2 (by omega) hk1 (next s2 e1 e2) hl;exact⟨g2,by rw[g3,e1,q2,List.drop_drop],by omega⟩
  have run:∀s2:Sv,s2.tg=s1.tg→s2.fa.length≤s1.fa.length+1→_:=λs2 e1 e2=>(Jn hE hkl ht n (i+1) f1 s2 (by omega) hk1 (next s2 e1 e2) hl).1;refine⟨oY (n+1) _ _ _ _ _ _ _ _ (⟨λ_=>⟨_,_,A1,λhz=>⟨_,kR k k,λh=>?_,λh=>?_⟩,λhz=>⟨_,kR k f,λh=>?_,λh=>?_⟩⟩,λh=>absurd hlt h⟩),?_⟩
  ·have e:f1=k:=hf1.trans (if_pos hz);rw[e]at run⊢;rw[if_pos (c:=aZ k k=true) h];exact⟨_,eT (x:=x) (s:=s1) 6 [(i:Int)] (by simp;omega) (by omega),by omega,run _ rfl (by rw[eR];omega)⟩
  ·have e:f1=k:=hf1.trans (if_pos hz);rw[e]at run⊢;rw[if_neg (c:=aZ k k=true) (by rw[h];decide)];exact⟨by omega,run s1 rfl (by omega)⟩
  ·have e:f1=f:=hf1.trans (if_neg hz);rw[e]at run⊢;rw[if_pos (c:=aZ k f=true) h];exact⟨_,eT (x:=x) (s:=s1) 6 [(i:Int)] (by simp;omega) (by omega),by omega,run _ rfl (by rw[eR];omega)⟩
  ·have e:f1=f:=hf1.trans (if_neg hz);rw[e]at run⊢;rw[if_neg (c:=aZ k f=true) (by rw[h];decide)];exact⟨by omega,run s1 rfl (by omega)⟩
  ·split
   ·exact fin _ rfl (by rw[eR];omega)
   ·exact fin _ rfl (by omega)
theorem Eb{E:Ev}{N:Nat}(hE:nB E N){x:Cx}{env:Env}{L:Nat}{t:Tree}(ps:List Kn)(z1 z2:Int)(hkl:t.kids.length≤1000000000)(ht:∀(i:Nat) (a:Tree),t.kids[i]?=some a→∃u,a.kids[0]?=some u∧tbulk u<tbulk a∧tbulk u≤N∧exT u∧uN a=uN u):∀(n i:Nat) (s:Sv),n+i=t.kids.length→x.pa.length+kbulk (t.kids.drop i)+1≤100000000→Hyp x env s L (kbulk (t.kids.drop i)) (uNs (t.kids.drop i))→
  L0_typing_checker_call (n+1) t env (mkC x s) ps z1 z2 i ⟨z1,z2⟩ (mkC x (iF E x ps env (t.kids.drop i) i s))∧
  (iF E x ps env (t.kids.drop i) i s).tg=s.tg.drop (uNs (t.kids.drop i))∧(iF E x ps env (t.kids.drop i) i s).fa.length≤s.fa.length+4*kbulk (t.kids.drop i)
 |0,i,s,hn,hpa,hy=>by
  have hd:t.kids.drop i=[]:=List.drop_of_length_le (by omega);rw[hd];exact⟨pu 0 _ _ _ _ _ _ _ _ _ (⟨λh=>absurd h (by omega),λ_=>⟨rfl,rfl⟩⟩),by simp[uNs,iF],by simp[iF]⟩
 | n +1,i,s,hn,hpa,hy=>by
  have hlt:i<t.kids.length:=by omega
  obtain⟨a,ha⟩:∃a,t.kids[i]?=some a:=⟨_,fv hlt⟩;have hd:=aU ha;obtain⟨u,hu,b1,b2,b3,b4⟩:=ht i a ha;have p1:=hy.pa;have p2:=hy.fa;have p3:=hy.tg;have p4:=hy.lb;rw[hd]at p1 p2 p3 p4 hy hpa⊢;simp only[kbulk,uNs]at p1 p2 p3 p4 hy hpa⊢;obtain⟨A1,A2⟩:=ds hE (s:=s) (env:=env) (x:=x.go i) (L:=L) hu b2 b3 ⟨by simp[Cx.go];omega,by omega,by omega,by omega,hy.env,hy.sg⟩;rw[show iF E x ps env (a::t.kids.drop (i+1)) i s=iF E x ps env (t.kids.drop (i+1)) (i+1) (sO x ps i (aO E (x.go i) a 0 env s))from rfl];generalize aO E (x.go i) a 0 env s=r at A1 A2⊢;obtain⟨k,s1⟩:=r;have q1:=A2.fa;have q2:=A2.tg;simp only at q1 q2;have next:∀s2:Sv,s2.tg=s1.tg→s2.fa.length≤s1.fa.length+1→Hyp x env s2 L (kbulk (t.kids.drop (i+1))) (uNs (t.kids.drop (i+1))):=λs2 e1 e2=>
   hy.to (by omega) (by omega) (by rw[e1,q2,List.length_drop];omega)
  have fin:∀s2:Sv,s2.tg=s1.tg→s2.fa.length≤s1.fa.length+1→(iF E x ps env (t.kids.drop (i+1)) (i+1) s2).tg=s.tg.drop (uN a+uNs (t.kids.drop (i+1)))∧(iF E x ps env (t.kids.drop (i+1)) (i+1) s2).fa.length≤s.fa.length+4*(tbulk a+kbulk (t.kids.drop (i+1))):=λs2 e1 e2=>by
   obtain⟨_,g3,g4⟩:=Eb hE ps z1 z2 hkl ht n (i+1) s2 (by omega) (by omega) (next s2 e1 e2);exact⟨by rw[g3,e1,q2,List.drop_drop,b4],by omega⟩
  have run:∀s2:Sv,s2.tg=s1.tg→s2.fa.length≤s1.fa.length+1→_:=λs2 e1 e2=>(Eb hE ps z1 z2 hkl ht n (i+1) s2 (by omega) (by omega) (next s2 e1 e2)).1;refine⟨pu (n+1) _ _ _ _ _ _ _ _ _ (⟨λ_=>⟨a,ha,_,lS (x:=x) (s:=s) (i:Int) (by omega),_,_,A1,_,ko (x:=x) (s:=s1) (i:Int),λhi=>?_,λhi=>⟨by omega,?_⟩⟩,λh=>absurd hlt h⟩),?_⟩
  ·obtain⟨q,hq⟩:∃q,ps[i]?=some q:=⟨ps[i],List.getElem?_eq_getElem hi⟩;rw[show sO x ps i (k,s1)=if aZ k q then faP x 4 [(i:Int),0] s1 else s1 by unfold sO;simp only[hq]];refine⟨q,hq,_,kR k q,λh=>?_,λh=>?_⟩
   ·rw[if_pos h];exact⟨_,eT (x:=x) (s:=s1) 4 [(i:Int),0] (by simp;omega) (by omega),run _ rfl (by rw[eR];omega)⟩
   ·rw[if_neg (by rw[h];decide)];exact run s1 rfl (by omega)
  ·have hq:ps[i]?=none:=List.getElem?_eq_none (by omega);rw[show sO x ps i (k,s1)=s1 by unfold sO;simp only[hq]];exact run s1 rfl (by omega)
  ·have e:∀r,sO x ps i (k,s1)=r→r.tg=s1.tg∧r.fa.length≤s1.fa.length+1:=λr hr=>by
    subst hr;unfold sO;simp only[];split
    ·split
     ·exact⟨rfl,by rw[eR];omega⟩
     ·exact⟨rfl,by omega⟩
    ·exact⟨rfl,by omega⟩
   exact fin _ (e _ rfl).1 (e _ rfl).2
theorem Lz(hE:nB E N)(hb:tbulk t≤N+1)(hx:exT t)(hk:t.kind=16)(hy:Hyp x env s L (tbulk t) (uN t)):
  ckC x s t env (oT E x t env s).1 (oT E x t env s).2∧Pst L (tbulk t) (uN t) s (oT E x t env s):=by
 have hB:=aV t;have hU:uN t=1+uNs t.kids:=by rw[gG,hk];simp
 have p1:=hy.pa;have p2:=hy.fa;have p3:=hy.tg;have p4:=hy.lb;have hkl:=bB t;have ht:∀(i:Nat) (a:Tree),t.kids[i]?=some a→∃u,a.kids[0]?=some u∧tbulk u<tbulk a∧tbulk u≤N∧exT u∧uN a=uN u:=λi a ha=>by
  obtain⟨h1,h2,h3⟩:=Ci hx ha hk;obtain⟨u,e⟩:=zP h2;have hu:a.kids[0]?=some u:=by rw[e];rfl
  have h4:=aF hu;have h5:=aF ha;rw[eo hu]at h3;exact⟨u,hu,h4,by omega,h3,by rw[gG a,h1,e];simp[uNs]⟩
 obtain⟨g,hg⟩:∃g,g=s.tg.headD noT:=⟨_,rfl⟩;have O:=Nd (x:=x) (s:=s) (by omega);rw[←hg]at O;obtain⟨q,U⟩:∃q,q=qn x g:=⟨_,rfl⟩;have hqr:KOk L q.result:=by
  rw[U];unfold qn;split
  ·exact tH 0
  ·cases Z:aI (g.Module,g.Def) x.sg with
   |none=>exact tH 0
   |some d=>exact hy.sg _ d Z
 obtain⟨s1,J⟩:∃s1,s1=tc x t g q (bT s):=⟨_,rfl⟩;have f1:s1.tg=s.tg.drop 1∧s1.fa.length≤s.fa.length+1:=by
  rw[J];unfold tc;split
  ·exact⟨rfl,by rw[eR];simp[bT]⟩
  ·split
   ·exact⟨rfl,by simp[bT]⟩
   ·exact⟨rfl,by rw[eR];simp[bT]⟩
 have e0:oT E x t env s=(q.result,iF E x q.params env t.kids 0 s1):=by rw[J,U,hg];rfl
 obtain⟨A1,A2,A3⟩:=Eb hE (x:=x) (env:=env) (L:=L) (t:=t) q.params q.result.simple q.result.lists (by omega) ht t.kids.length 0 s1 (by omega) (by simp;omega) (hy.to (by simp;omega) (by simp;omega) (by rw[f1.1,List.length_drop];simp;omega));simp only[List.drop_zero]at A1 A2 A3;rw[e0];refine⟨wy (t.kids.length+1) _ _ _ _ _ (⟨_,_,O,λh=>?_,λh=>⟨λZ=>⟨λhn=>?_,λhn=>?_⟩,λd Z=>⟨λhn=>?_,λhn=>?_⟩⟩⟩),?_⟩
 ·have eq:q=⟨[],⟨0,0⟩⟩:=U.trans (if_pos h);have es:s1=faP x 1 [] (bT s):=J.trans (if_pos h);rw[es,eq]at A1;rw[es,eq];exact⟨_,eT (x:=x) (s:=bT s) 1 [] (by simp;omega) (by simp[bT];omega),A1⟩
 ·have eq:q=⟨[],⟨0,0⟩⟩:=U.trans ((if_neg (by rw[h];decide)).trans (by have G:=Z;simp only[mkC]at G;rw[G];rfl));have es:s1=faP x 3 [] (bT s):=J.trans ((if_neg (by rw[h];decide)).trans (if_neg (by rw[eq];intro e;have e':0=t.kids.length:=e;exact hn (by omega))));rw[es,eq]at A1;rw[es,eq];exact⟨_,eT (x:=x) (s:=bT s) 3 [] (by simp;omega) (by simp[bT];omega),A1⟩
 ·have eq:q=⟨[],⟨0,0⟩⟩:=U.trans ((if_neg (by rw[h];decide)).trans (by have G:=Z;simp only[mkC]at G;rw[G];rfl));have es:s1=bT s:=J.trans ((if_neg (by rw[h];decide)).trans (if_pos (by rw[eq];show 0=t.kids.length;omega)));rw[es,eq]at A1;rw[es,eq];exact A1
 ·have eq:q=d:=U.trans ((if_neg (by rw[h];decide)).trans (by have G:=Z;simp only[mkC]at G;rw[G];rfl));have es:s1=faP x 3 [] (bT s):=J.trans ((if_neg (by rw[h];decide)).trans (if_neg (by rw[eq];exact hn)));rw[es,eq]at A1;rw[es,eq];exact⟨_,eT (x:=x) (s:=bT s) 3 [] (by simp;omega) (by simp[bT];omega),A1⟩
 ·have eq:q=d:=U.trans ((if_neg (by rw[h];decide)).trans (by have G:=Z;simp only[mkC]at G;rw[G];rfl));have es:s1=bT s:=J.trans ((if_neg (by rw[h];decide)).trans (if_pos (by rw[eq];exact hn)));rw[es,eq]at A1;rw[es,eq];exact A1
 ·exact⟨hqr.mono (by omega),by simp only[];rw[A2,f1.1,List.drop_drop,hU],by simp only[];omega⟩
theorem Kh(hE:nB E N):nB (bC E) (N+1):=λt hb hx x env s L hy=>by
 have p1:=hy.pa;have p2:=hy.fa;have p3:=hy.tg;have p4:=hy.lb;have hB:=aV t;have leaf:∀z:Int,uN t=uN t→Pst L (tbulk t) 0 s (⟨z,0⟩,s):=λz _=>⟨tH _,by simp,by simp only[];omega⟩;have hkl:=bB t;have run:∀(b:Bool) (k:Kn) (s':Sv),ep 1 (mkC x s) t env b k (mkC x s')→t.kind≠10→t.kind≠11→(b=true↔t.kind=13∨t.kind=14)→ckE x s t env k s':=λb k s' h n1 n2 hb=>by
  refine hV 1 _ _ _ _ _ (⟨λh=>absurd h n1,λ_=>⟨λh=>absurd h n2,λ_=>⟨λh13=>?_,λh13=>?_⟩⟩⟩)
  ·have :b=true:=hb.2 (.inl h13);subst this;exact h
  ·have :b=(t.kind==14):=by
    by_cases h14:t.kind=14
    ·rw[hb.2 (.inr h14)];simp[h14]
    ·have :b≠true:=λe=>(hb.1 e).elim h13 h14;simp[this,h14]
   subst this;exact h
 have hk:=hx.2;have hk':10≤t.kind∧t.kind≤22∧t.kind≠17:=by simpa[ia]using hk
 have leafU:10≤t.kind→t.kind≤15→uN t=0:=λh1 h2=>by
  have hs:=hx.1;rw[cp]at hs;simp only[Bool.and_eq_true,decide_eq_true_eq]at hs;have hl:=hs.1.1;have h0:(t.kids.length:Int)≤0:=by
   have :t.kind=10∨t.kind=11∨t.kind=12∨t.kind=13∨t.kind=14∨t.kind=15:=by omega
   rcases this with e|e|e|e|e|e<;>(rw[e]at hl;exact(tu (show 0≤f0 t.kids.length 0 1 0 0 from hl)).2 (by omega))
  have h3:t.kids=[]:=List.length_eq_zero_iff.1 (by omega);rw[gG,h3,if_neg (by omega)];simp[uNs]
 have drp:∀k,KOk (L+tbulk t) k→bC E x t env s=(k,s)→uN t=0→Pst L (tbulk t) (uN t) s (bC E x t env s):=λk h1 h2 h3=>by rw[h2,h3];exact⟨h1,by simp,by simp only[];omega⟩
 by_cases h:t.kind=10
 ·have e:bC E x t env s=(⟨5,0⟩,s):=by simp[bC,h]
  refine⟨?_,drp _ (tH _) e (leafU (by omega) (by omega))⟩;rw[e];exact hV 0 _ _ _ _ _ (⟨λ_=>⟨rfl,rfl⟩,λh'=>absurd h h'⟩)
 by_cases h:t.kind=11
 ·have e:bC E x t env s=(⟨6,0⟩,s):=by simp[bC,h]
  refine⟨?_,drp _ (tH _) e (leafU (by omega) (by omega))⟩;rw[e];exact hV 0 _ _ _ _ _ (⟨λh'=>absurd h' (by omega),λ_=>⟨λ_=>⟨rfl,rfl⟩,λh'=>absurd h h'⟩⟩)
 by_cases h:t.kind=13∨t.kind=14
 ·have e:bC E x t env s=(⟨7,0⟩,s):=by rcases h with h|h<;>simp[bC,h]
  refine⟨?_,drp _ (tH _) e (leafU (by omega) (by omega))⟩;rw[e];exact run true _ _ (bm 0 _ _ _ _ _ _ (⟨λ_=>⟨rfl,rfl⟩,λh'=>(by cases h')⟩)) (by omega) (by omega) ⟨λ_=>h,λ_=>rfl⟩
 by_cases h:t.kind=12
 ·have e:bC E x t env s=tN x s (jc t.text env):=by simp[bC,h]
  have h0:=leafU (by omega) (by omega);have v:=RI (x:=x) (s:=s) t env (by omega) (by omega);rw[e];refine⟨run false _ _ (bm 0 _ _ _ _ _ _ (⟨λh'=>(by cases h'),λ_=>⟨λ_=>⟨_,_,v,rfl,rfl⟩,λh'=>absurd h h'⟩⟩)) (by omega) (by omega) (by constructor<;>intro h'<;>first|(cases h';done)|omega),?_⟩;cases hv:jc t.text env with
  |none=>exact⟨tH _,by rw[h0];simp[tN,faP],by show(faP x 1 [] s).fa.length+1≤_;rw[eR];omega⟩
  | some k=>
   have :∀l:Env,jc t.text l=some k→∃b∈l,b.typ=k:=λl=>by
    induction l with
    |nil=>intro h;cases h
    |cons b r ih=>
     intro hh;unfold jc at hh;split at hh
     ·injection hh with hh;exact⟨b,List.mem_cons_self,hh⟩
     ·obtain⟨c,c1,c2⟩:=ih hh;exact⟨c,List.mem_cons_of_mem _ c1,c2⟩
   obtain⟨b,hb1,hb2⟩:=this env hv;exact⟨by show KOk _ k;rw[←hb2];exact(hy.env b hb1).mono (by omega),by rw[h0];simp[tN],by simp only[tN];omega⟩
 by_cases h:t.kind=16
 ·have e:bC E x t env s=oT E x t env s:=by simp[bC,h]
  obtain⟨c1,c2⟩:=Lz hE hb hx h hy;rw[e];exact⟨run false _ _ (bm 0 _ _ _ _ _ _ (⟨λh'=>(by cases h'),λ_=>⟨λh'=>absurd h' (by omega),λ_=>⟨λ_=>⟨_,_,c1,rfl,rfl⟩,λh'=>absurd h h'⟩⟩⟩)) (by omega) (by omega) (by constructor<;>intro h'<;>first|(cases h';done)|omega),c2⟩
 by_cases h:t.kind=18
 ·have e:bC E x t env s=jC (iq E x t env t.kids.length 0 (⟨0,0⟩,s)):=by simp[bC,h]
  have hU:uN t=uNs t.kids:=by rw[gG,h];simp
  obtain⟨c1,c2,c3,c4⟩:=Jn hE (x:=x) (env:=env) (L:=L) (M:=kbulk t.kids) (t:=t) (by omega) (λi u hu=>by
   have h1:=aF hu;exact⟨by omega,bt hu,(cV hx hu (by omega)).1⟩) t.kids.length 0 ⟨0,0⟩ s (by omega) (tH _) (hy.to (by simp;omega) (by simp;omega) (by simp;omega)) (by omega)
  simp only[List.drop_zero]at c3 c4;rw[e];refine⟨run false _ _ (bm 0 _ _ _ _ _ _ (⟨λh'=>(by cases h'),λ_=>⟨λh'=>absurd h' (by omega),λ_=>⟨λh'=>absurd h' (by omega),λ_=>⟨λ_=>⟨_,_,wz (t.kids.length+1) _ _ _ _ _ (c1),rfl,rfl⟩,λh'=>absurd h h'⟩⟩⟩⟩)) (by omega) (by omega) (by constructor<;>intro h'<;>first|(cases h';done)|omega),c2.mono (by omega),by rw[c3,hU],by omega⟩
 by_cases h:t.kind=19
 ·have e:bC E x t env s=ifP E x t env s:=by simp[bC,h]
  obtain⟨c1,c2⟩:=OM hE hb hx h hy;rw[e];exact⟨run false _ _ (bm 0 _ _ _ _ _ _ (⟨λh'=>(by cases h'),λ_=>⟨λh'=>absurd h' (by omega),λ_=>⟨λh'=>absurd h' (by omega),λ_=>⟨λh'=>absurd h' (by omega),λ_=>⟨λ_=>⟨_,_,c1,rfl,rfl⟩,λh'=>absurd h h'⟩⟩⟩⟩⟩)) (by omega) (by omega) (by constructor<;>intro h'<;>first|(cases h';done)|omega),c2⟩
 by_cases h:t.kind=20
 ·have e:bC E x t env s=Ga E x t env (aO E x t 0 env s):=by simp[bC,h]
  obtain⟨a,b,ek⟩:=DH ((qQ hx).2.1 h);have ha:t.kids[0]?=some a:=by rw[ek];rfl
  have hb':t.kids[1]?=some b:=by rw[ek];rfl
  rw[ek]at hB;simp only[kbulk]at hB;have hU:uN t=uN a+uN b:=by rw[gG,ek,h];simp[uNs]
  rw[e];obtain⟨A1,A2⟩:=ds hE (s:=s) (env:=env) (x:=x) (L:=L) ha (by omega) (cV hx ha (by omega)).1 (hy.to (by omega) (by omega) (by omega));generalize aO E x t 0 env s=r at A1 A2⊢;obtain⟨k1,s1⟩:=r;have q1:=A2.fa;have q2:=A2.k;simp only at q1 q2;show ckE x s t env (aO E x t 1 (⟨t.text,k1⟩::env) s1).1 (aO E x t 1 (⟨t.text,k1⟩::env) s1).2∧Pst L (tbulk t) (uN t) s (aO E x t 1 (⟨t.text,k1⟩::env) s1);obtain⟨B1,B2⟩:=ds hE (s:=s1) (env:=⟨t.text,k1⟩::env) (x:=x) (L:=L+tbulk a) hb' (by omega) (cV hx hb' (by omega)).1 ⟨by omega,by omega,sE (v:=uN t) A2.tg (by omega) p3,by omega,λc hc=>by
   rcases List.mem_cons.1 hc with rfl|hc
   ·exact q2
   ·exact(hy.env c hc).mono (by omega),λk g hg=>(hy.sg k g hg).mono (by omega)⟩
  refine⟨run false _ _ (bm 0 _ _ _ _ _ _ (⟨λh'=>(by cases h'),λ_=>⟨λh'=>absurd h' (by omega),λ_=>⟨λh'=>absurd h' (by omega),λ_=>⟨λh'=>absurd h' (by omega),λ_=>⟨λh'=>absurd h' (by omega),λ_=>⟨λ_=>⟨_,_,A1,_,_,B1,rfl,rfl⟩,λh'=>absurd h h'⟩⟩⟩⟩⟩⟩)) (by omega) (by omega) (by constructor<;>intro h'<;>first|(cases h';done)|omega),B2.k.mono (by omega),by rw[B2.tg,A2.tg,List.drop_drop,hU],by have :=B2.fa;omega⟩
 by_cases h:t.kind=21
 ·have e:bC E x t env s=wI E x t env (aO E x t 0 env s):=by simp[bC,h]
  obtain⟨c1,c2⟩:=MI hE hb hx h hy;rw[e];exact⟨run false _ _ (bm 0 _ _ _ _ _ _ (⟨λh'=>(by cases h'),λ_=>⟨λh'=>absurd h' (by omega),λ_=>⟨λh'=>absurd h' (by omega),λ_=>⟨λh'=>absurd h' (by omega),λ_=>⟨λh'=>absurd h' (by omega),λ_=>⟨λh'=>absurd h' (by omega),λ_=>⟨λ_=>⟨_,_,c1,rfl,rfl⟩,λh'=>absurd h h'⟩⟩⟩⟩⟩⟩⟩)) (by omega) (by omega) (by constructor<;>intro h'<;>first|(cases h';done)|omega),c2⟩
 by_cases h:t.kind=22
 ·have e:bC E x t env s=aO E x t 0 env s:=by simp[bC,h]
  obtain⟨a,ek⟩:=zP ((qQ hx).1 h);have ha:t.kids[0]?=some a:=by rw[ek];rfl
  rw[ek]at hB;simp only[kbulk]at hB;have hU:uN t=uN a:=by rw[gG,ek,h];simp[uNs]
  obtain⟨A1,A2⟩:=ds hE (s:=s) (env:=env) (x:=x) (L:=L) ha (by omega) (cV hx ha (by omega)).1 (hy.to (by omega) (by omega) (by omega));rw[e];exact⟨run false _ _ (bm 0 _ _ _ _ _ _ (⟨λh'=>(by cases h'),λ_=>⟨λh'=>absurd h' (by omega),λ_=>⟨λh'=>absurd h' (by omega),λ_=>⟨λh'=>absurd h' (by omega),λ_=>⟨λh'=>absurd h' (by omega),λ_=>⟨λh'=>absurd h' (by omega),λ_=>⟨λh'=>absurd h' (by omega),λ_=>⟨λ_=>⟨_,_,A1,rfl,rfl⟩,λh'=>absurd h h'⟩⟩⟩⟩⟩⟩⟩⟩)) (by omega) (by omega) (by constructor<;>intro h'<;>first|(cases h';done)|omega),A2.k.mono (by omega),by rw[A2.tg,hU],by have :=A2.fa;omega⟩
 ·have e:bC E x t env s=(⟨0,0⟩,s):=by
   have :t.kind=15:=by omega
   simp[bC,this]
  refine⟨?_,drp _ (tH _) e (leafU (by omega) (by omega))⟩;rw[e];exact run false _ _ (bm 0 _ _ _ _ _ _ (⟨λh'=>(by cases h'),λ_=>⟨λh'=>absurd h' (by omega),λ_=>⟨λh'=>absurd h' (by omega),λ_=>⟨λh'=>absurd h' (by omega),λ_=>⟨λh'=>absurd h' (by omega),λ_=>⟨λh'=>absurd h' (by omega),λ_=>⟨λh'=>absurd h' (by omega),λ_=>⟨λh'=>absurd h' (by omega),λ_=>⟨rfl,rfl⟩⟩⟩⟩⟩⟩⟩⟩⟩)) (by omega) (by omega) (by constructor<;>intro h'<;>first|(cases h';done)|omega)
theorem uI:∀n,nB (cG n) n
 |0=>λt hb=>by have :=bB t;omega
 |n+1=>Kh (uI n)
set_option maxHeartbeats 4000000
def iW(G q0:CKr):Prop:=bv [] prog 25 [.ptr 0 0] ⟨5,(CKr.y G 3)⟩ (CKr.v q0)
def dC(m:Nat)(p1:Tree)(p2:am)(b:Nat)(a:CKr)(d:Nat)(q0:CKr):Prop:=∀(K:Ctx) (G:Nat),aw K [2,1,0]→m≤G→qLG K f55 (CKr.v q0) (xL (aj f55)) [.loop (xL (aj f55)) G,.blk 0,.seq (xF (aj f55))] 72 (mkF 72 0 [(0,.ptr 0 0),(4,.box (al p1) 0),(5,.box (am.c p2) 0),(6,qi ((p1.kids.length:Int)-2)),(18,.row 4 (kidsV (p1.kids.take b))),(19,qi (((p1.kids.take b).length:Nat):Int)),(20,qi (d:Int))]) ⟨5,(CKr.y a 3)⟩
def cU(m:Nat)(p1:Tree)(p2:am)(a:CKr)(b:List ay)(d:Int)(q0:CKr):Prop:=∀(K:Ctx) (G:Nat),aw K [2,1,0]→m≤G→qLG K f55 (CKr.v q0) (xL (xF (aj f55))) [.loop (xL (xF (aj f55))) G,.blk 2,.seq (xH (xA (aj f55)))] 72 (mkF 72 0 [(0,.ptr 0 0),(4,.box (al p1) 0),(5,.box (am.c p2) 0),(6,qi ((p1.kids.length:Int)-2)),(9,.lk (List.map ay.c b)),(10,qi d)]) ⟨5,(CKr.y a 3)⟩
theorem tJ(m:Nat)(p0:CKr)(p1:Tree)(p2:am)(q0:CKr)(h:∃a,((p1.kids.length:Int)-2)=((a:Nat):Int)∧a≤p1.kids.length∧dC m p1 p2 a p0 0 q0):fO p0 p1 p2 q0:=by
 refine qA 72 [2,1,0] func55 λK hK=>?_;refine gR 3 rfl<|gFP 5 rfl rfl rfl rfl<|gR 1 rfl<|gFP 6 rfl rfl rfl rfl<|gR 7 rfl<|gV 13 (qi (p1.kids.length:Int)) rfl (aJ (aD _)) rfl<|gLB 12 rfl (aD _) λc=>gR 1 rfl<|gV 14 (qi ((p1.kids.length:Int)-2)) rfl (ao (by have :=c;omega) rfl) rfl<|gR 9 rfl ?_;obtain⟨a,b,h⟩:=h;refine gV 17 (qi ((a:Nat):Int)) rfl (aL b) rfl ?_;obtain⟨hb',h⟩:=h;exact gY (MZ (aD p1.kids) ai rfl rfl AR (AY rfl) (Nat.zero_le _) hb' (((QN _ _ _).trans (congrArg _ (xy _ _))))) rfl rfl<|gR 1 rfl<|gV 19 (qi (((p1.kids.take a).length:Nat):Int)) rfl (aJ (aD _)) rfl<|gLB 18 rfl (aD _) λd=>gR 4 rfl<|go_loop m<|qW hK h [0,1,2,3,4]
theorem mn(m:Nat)(p1:Tree)(p2:am)(g:Nat)(i:CKr)(a:Nat)(q0:CKr)(h:((a<((p1.kids.take g).length))→∃f,(p1.kids.take g)[a]?=some f∧∃b,de i (a:Int) b∧∃c,dz b f 0 c∧∃d,bb c d∧a+1≤9223372036854775807∧dC m p1 p2 g d (a+1) q0)∧((¬a<((p1.kids.take g).length))→∃e,dz i p1 ((p1.kids.length:Int)-2) e∧InI (((p1.kids.length:Int)-2)-1)∧cU m p1 p2 e [] (((p1.kids.length:Int)-2)-1) q0)):dC (m+1) p1 p2 g i a q0:=by
 refine qj λK j1 hK q=>?_;refine gR 6 rfl<|qXh 21 rfl rfl rfl h bX bY ?_ ?_<;>intro hd h;refine gR 8 rfl ?_;obtain⟨f,j,h⟩:=h;refine gY (aC (aq j) ai rfl rfl rfl rfl) rfl rfl<|gR 10 rfl ?_;obtain⟨b,k,h⟩:=h;refine qC k [0,1,2,3,4] ?_;refine qHX ⟨11,(CKr.z b [(5,.var 29 (al f))] 9)⟩<|gR 6 rfl ?_;obtain⟨c,l,h⟩:=h;refine qC l [0,1,2,9,10] ?_;refine qHX ⟨16,(CKr.z c [(5,.var 29 (al f))] 14)⟩<|gR 4 rfl ?_;obtain⟨d,n,h⟩:=h;refine qC n [0,1,2,14,15] ?_;refine qHX ⟨21,(CKr.z d [(5,.var 29 (al f))] 19)⟩<|gR 4 rfl ?_;obtain⟨hb,h⟩:=h;exact gR 1 rfl<|gV 33 (qi ((a+1:Nat):Int)) rfl (ao (by omega) (by omega)) rfl<|gR 2 rfl<|go_xloop<|qW hK h [0,1,2,19,20];refine gR 3 rfl<|go_xloopE<|gR 7 rfl ?_;obtain⟨e,p,h⟩:=h;refine qC p [0,1,2,3,4] ?_;refine qHX ⟨10,(CKr.y e 8)⟩<|gR 11 rfl ?_;obtain⟨hb,h⟩:=h;exact gR 1 rfl<|gV 39 (qi (((p1.kids.length:Int)-2)-1)) rfl (ao hb rfl) rfl<|gR 4 rfl<|go_loop m<|qJ hK (h K _ hK (by omega)) [0,1,2,8,9] ⟨⟨_,rfl,.rfl⟩,⟨_,rfl,.rfl⟩,⟨_,rfl,.rfl⟩,⟨_,rfl,.rfl⟩,⟨_,rfl,lkN⟩,⟨_,rfl,.rfl⟩,trivial⟩
theorem mq(m:Nat)(p1:Tree)(p2:am)(i:CKr)(j:List ay)(b:Int)(q0:CKr)(h:((0≤b)→∃d,b=((d:Nat):Int)∧∃k,p1.kids[d]?=some k∧∃e,b=((e:Nat):Int)∧∃l,p2.params[e]?=some l∧InI (b-1)∧cU m p1 p2 i (ay.mk k.text l::j) (b-1) q0)∧((¬0≤b)→InI (((p1.kids.length:Int)-2)+1)∧∃n a,br i p1 (((p1.kids.length:Int)-2)+1) j n a∧∃g,cz n p2.result g∧((g=true)→InI (((p1.kids.length:Int)-2)+1)∧∃c,aG a 4 [(((p1.kids.length:Int)-2)+1)] c∧c=q0)∧((g=false)→a=q0))):cU (m+1) p1 p2 i j b q0:=by
 refine qj λK O G y=>?_;refine gR 7 rfl<|qXd 41 rfl rfl rfl h ?_ ?_<;>intro J h;refine gR 5 rfl<|qDs [] 15 15<|qDr (qR 0 3 2 []) rfl rfl ?_;obtain⟨d,r,h⟩:=h;refine gV 46 (qi ((d:Nat):Int)) rfl (aL r) rfl ?_;obtain⟨k,p,h⟩:=h;refine gYd 3 rfl (by kernel_rfl) (aC (aq p) ai rfl rfl rfl rfl) rfl rfl<|qDr (qR 4 5 2 []) rfl rfl ?_;obtain⟨e,s,h⟩:=h;refine gV 52 (qi ((e:Nat):Int)) rfl (aL s) rfl ?_;obtain⟨l,q,h⟩:=h;refine gYd 9 rfl (by kernel_rfl) (aC (ar (f:=ac.w) q) ai rfl rfl rfl rfl) rfl rfl<|qDr ((10,2)::(qR 11 4 0 [])) rfl rfl<|qDe<|gR 4 rfl ?_;obtain⟨hb,h⟩:=h;exact gR 1 rfl<|gV 43 (qi (b-1)) rfl (ao hb rfl) rfl<|gR 2 rfl<|go_xloop<|gFP 5 rfl rfl rfl rfl<|qJ G (h K _ G (by omega)) [0,1,2,3,4] ⟨⟨_,rfl,.rfl⟩,⟨_,rfl,.rfl⟩,⟨_,rfl,.rfl⟩,⟨_,rfl,.rfl⟩,⟨_,rfl,(lkC rfl)⟩,⟨_,rfl,.rfl⟩,trivial⟩;refine gR 3 rfl<|go_xloopE<|gR 3 rfl<|qDs [] 9 9<|qDr (qR 0 3 2 []) rfl rfl ?_;obtain⟨hb,h⟩:=h;refine qDr [(3,2)] rfl rfl<|gV 61 (qi (((p1.kids.length:Int)-2)+1)) rfl (ao hb rfl) rfl<|qDr [(4,2),(6,2),(7,2)] rfl rfl ?_;obtain⟨n,a,t,h⟩:=h;refine qDC 5 t [0,1,2,3,4] rfl ?_;refine qHX ⟨11,(CKr.y a 8)⟩ ?_;obtain⟨g,v,h⟩:=h;refine bz 8 v (by kernel_rfl) rfl (by kernel_rfl) rfl rfl .rfl rfl rfl ?_;refine qDe<|gR 1 rfl<|qXi 66 rfl rfl rfl h ?_ ?_<;>intro J h;refine gR 4 rfl ?_;obtain⟨hb,h⟩:=h;refine gR 1 rfl<|gV 69 (qi (((p1.kids.length:Int)-2)+1)) rfl (ao hb rfl) rfl<|gR 1 rfl<|gFR 11 rfl rfl rfl rfl ?_;obtain⟨c,x,h⟩:=h;refine qC x [0,1,2,8,9] ?_;refine qHX ⟨17,(CKr.y c 15)⟩<|gR 1 rfl ?_;subst h;exact gE G [] [] [0,1,2,15,16] [];refine gR 2 rfl ?_;subst h;exact gE G [] [] [0,1,2,8,9] []
def fJ(m:Nat)(G a:CKr)(b:Nat)(q0:CKr):Prop:=∀(K:Ctx) (J:Nat),aw K [2,1,0]→m≤J→qLG K f25 (CKr.v q0) (cL (xD (aj f25))) [.loop (cL (xD (aj f25))) J,.blk 0] 61 (mkF 61 0 [(0,.ptr 0 0),(9,.row 4 (kidsV G.p)),(10,qi (G.p.length:Int)),(11,qi (b:Int))]) ⟨5,(CKr.y a 3)⟩
def cI(m:Nat)(G:CKr)(b:Tree)(a:CKr)(c d e:Nat)(q0:CKr):Prop:=∀(K:Ctx) (J O:Nat),aw K [2,1,0]→m≤J→m≤O→qLG K f25 (CKr.v q0) (xM (xF (cK (cA (xA (cL (xD (aj f25)))))))) [.loop (xM (xF (cK (cA (xA (cL (xD (aj f25)))))))) J,.blk 2,.blk 1,.seq (xF (cL (xD (aj f25)))),.loop (cL (xD (aj f25))) O,.blk 0] 61 (mkF 61 0 [(0,.ptr 0 0),(2,qi (d:Int)),(9,.row 4 (kidsV G.p)),(10,qi (G.p.length:Int)),(11,qi (e:Int)),(21,.row 4 (kidsV b.kids)),(22,qi (b.kids.length:Int)),(23,qi (c:Int))]) ⟨5,(CKr.y a 3)⟩
def me(m:Nat)(G:CKr)(b:Tree)(a:CKr)(c d e:Nat)(q0:CKr):Prop:=∀(K:Ctx) (J O:Nat),aw K [2,1,0]→m≤J→m≤O→Go prog K (bodyPost prog f25 (SP K (CKr.v q0))) (.ex .normal) [.seq (xF (cK (cA (xA (xM (xF (cK (cA (xA (cL (xD (aj f25)))))))))))),.blk 3,.seq (xF (xM (xF (cK (cA (xA (cL (xD (aj f25))))))))),.loop (xM (xF (cK (cA (xA (cL (xD (aj f25)))))))) J,.blk 2,.blk 1,.seq (xF (cL (xD (aj f25)))),.loop (cL (xD (aj f25))) O,.blk 0] 61 (mkF 61 0 [(0,.ptr 0 0),(2,qi (c:Int)),(9,.row 4 (kidsV G.p)),(10,qi (G.p.length:Int)),(11,qi (d:Int)),(21,.row 4 (kidsV b.kids)),(22,qi (b.kids.length:Int)),(23,qi (e:Int))]) ⟨5,(CKr.y a 3)⟩
theorem xd(m:Nat)(p0 q0:CKr)(h:fJ m p0 p0 0 q0):iW p0 q0:=by
 refine qA 61 [2,1,0] func25 λK hK=>?_;exact gR 7 rfl<|gV 10 (qi (p0.p.length:Int)) rfl (aJ (aD _)) rfl<|gLB 9 rfl (aD _) λa=>gR 4 rfl<|go_loop m<|qW hK h [0,1,2,3,4]
theorem pT(m:Nat)(p0 c:CKr)(a:Nat)(q0:CKr)(h:((a<p0.p.length)→∃b,p0.p[a]?=some b∧cI m p0 b ({c with module:=(a:Int)}) 0 a a q0)∧((¬a<p0.p.length)→c=q0)):fJ (m+1) p0 c a q0:=by
 refine qj λK j1 hK f=>?_;refine gR 6 rfl<|qXh 12 rfl rfl rfl h bX bY ?_ ?_<;>intro hd h;refine gR 8 rfl ?_;obtain⟨b,d,h⟩:=h;exact gY (aC (aq d) ai rfl rfl rfl rfl) rfl rfl<|gR 20 rfl<|gV 22 (qi (b.kids.length:Int)) rfl (aJ (aD _)) rfl<|gLB 21 rfl (aD _) λe=>gR 4 rfl<|go_loop m<|qJ hK (h K _ _ hK (by omega) (by omega)) [0,1,2,3,4];refine gR 3 rfl<|go_xloopE<|gR 1 rfl ?_;subst h;exact gE hK [] [] [0,1,2,3,4] []
theorem lf(m:Nat)(J:CKr)(r:Tree)(δ:CKr)(a g s:Nat)(q0:CKr)(h:((a<r.kids.length)→∃d,r.kids[a]?=some d∧∃b,de δ (a:Int) b∧((d.kind=2)→((aI ((g:Int),(a:Int)) b.signatures=none)→∃e,fO b d (am.mk [] (ac.mk 0 0)) e∧me m J r e g s a q0)∧(∀(z:am),aI ((g:Int),(a:Int)) b.signatures=some z→∃f,fO b d z f∧me m J r f g s a q0))∧((d.kind≠2)→∃β,mB b.p (g:Int) (a:Int) β∧((β=true)→∃t,aG b 5 [] t∧∃x,dz t d 0 x∧∃y,bb x y∧a+1≤9223372036854775807∧cI m J r y (a+1) g s q0)∧((β=false)→∃n,dz b d 0 n∧∃q,bb n q∧a+1≤9223372036854775807∧cI m J r q (a+1) g s q0)))∧((¬a<r.kids.length)→s+1≤9223372036854775807∧fJ m J δ (s+1) q0)):cI (m+1) J r δ a g s q0:=by
 intro K O U G χ ψ;obtain⟨O,rfl⟩:∃j,O=j+1:=⟨O-1,by omega⟩;obtain⟨U,rfl⟩:∃j,U=j+1:=⟨U-1,by omega⟩;refine gR 6 rfl<|qXh 24 rfl rfl rfl h bX bY ?_ ?_<;>intro Z h;refine gR 8 rfl ?_;obtain⟨d,ε,h⟩:=h;refine gY (aC (aq ε) ai rfl rfl rfl rfl) rfl rfl<|gR 10 rfl ?_;obtain⟨b,ζ,h⟩:=h;refine qC ζ [0,1,2,3,4] ?_;refine qHX ⟨11,(CKr.z b [(5,.var 29 (al d))] 9)⟩<|gR 10 rfl<|qXe 33 rfl rfl rfl h ?_ ?_<;>intro Z h;refine gR 1 rfl<|qDs [] 11 11<|qDr ((0,2)::(qR 2 3 2 (qR 6 3 2 []))) rfl rfl ?_;apply bR (i:=1) (j:=5) (by kernel_rfl) rfl rfl rfl rfl;exact(bn ai rfl rfl);exact(bn ai rfl rfl);refine qDr [(5,0)] rfl rfl ?_;rcases γ:aI ((g:Int),(a:Int)) b.signatures with _|z
 replace h:=h.1 γ;refine bh (v:=some (.agg [.nils,qi 0,qi 0])) 9 (.nop) rfl (by kernel_rfl) (va dE (encV:=am.w) (k:=((g:Int),(a:Int))) (l:=b.signatures) (zv:=.agg [.nils,qi 0,qi 0]) γ underlying56 zeroValue97 (by kernel_rfl) rfl rfl rfl rfl) trivial rfl (by kernel_rfl) rfl rfl ?_;obtain⟨e,η,h⟩:=h;refine qDC 10 η [0,1,2,9,10] rfl (hs:=(.cons .rfl (.cons .rfl (.cons (.agg (.cons (.nil 2) (.cons .rfl (.cons .rfl .nil)))) .nil)))) ?_;exact qHX ⟨16,(CKr.z e [(5,.var 29 (al d))] 14)⟩<|qDe<|qJ G (h K _ _ G (by omega) (by omega)) [0,1,2,14,15];replace h:=h.2 z γ;refine bh (v:=some (.agg (am.c z))) 9 (.nop) rfl (by kernel_rfl) (vg dE (encV:=am.w) (k:=((g:Int),(a:Int))) (l:=b.signatures) (zv:=.agg [.nils,qi 0,qi 0]) γ underlying56 zeroValue97 (by kernel_rfl) rfl rfl rfl rfl) trivial rfl (by kernel_rfl) rfl rfl ?_;obtain⟨f,θ,h⟩:=h;refine qDC 10 θ [0,1,2,9,10] rfl ?_;exact qHX ⟨16,(CKr.z f [(5,.var 29 (al d))] 14)⟩<|qDe<|qJ G (h K _ _ G (by omega) (by omega)) [0,1,2,14,15];rcases α:aI ((g:Int),(a:Int)) b.signatures with _|z
 replace h:=h.1 α;apply bR (i:=1) (j:=9) (by kernel_rfl) rfl rfl rfl rfl;exact(bn ai rfl rfl);exact(tk (.nop) (va dE (encV:=am.w) (k:=((g:Int),(a:Int))) (l:=b.signatures) (zv:=.agg [.nils,qi 0,qi 0]) α underlying56 zeroValue97 (by kernel_rfl) rfl rfl rfl rfl) trivial (by kernel_rfl));refine bh 9 (.nop) rfl (by kernel_rfl) (va dE (encV:=am.w) (k:=((g:Int),(a:Int))) (l:=b.signatures) (zv:=.agg [.nils,qi 0,qi 0]) α underlying56 zeroValue97 (by kernel_rfl) rfl rfl rfl rfl) trivial rfl (by kernel_rfl) rfl rfl ?_;obtain⟨e,ι,h⟩:=h;refine qDC 10 ι [0,1,2,9,10] rfl (hs:=(.cons .rfl (.cons .rfl (.cons (.agg (.cons (.nil 2) (.cons .rfl (.cons .rfl .nil)))) .nil)))) ?_;exact qHX ⟨16,(CKr.z e [(5,.var 29 (al d))] 14)⟩<|qDe<|qJ G (h K _ _ G (by omega) (by omega)) [0,1,2,14,15];refine qDr [(1,0)] rfl rfl ?_;obtain⟨e,κ,h⟩:=h;refine qDC 10 κ [0,1,2,9,10] rfl (hs:=(.cons .rfl (.cons .rfl (.cons (.agg (.cons (.nil 2) (.cons .rfl (.cons .rfl .nil)))) .nil)))) ?_;exact qHX ⟨16,(CKr.z e [(5,.var 29 (al d))] 14)⟩<|qDe<|qJ G (h K _ _ G (by omega) (by omega)) [0,1,2,14,15];replace h:=h.2 z α;apply bR (i:=1) (j:=9) (by kernel_rfl) rfl rfl rfl rfl;exact(bn ai rfl rfl);exact(tk (.nop) (vg dE (encV:=am.w) (k:=((g:Int),(a:Int))) (l:=b.signatures) (zv:=.agg [.nils,qi 0,qi 0]) α underlying56 zeroValue97 (by kernel_rfl) rfl rfl rfl rfl) trivial (by kernel_rfl));refine bh 9 (.nop) rfl (by kernel_rfl) (vg dE (encV:=am.w) (k:=((g:Int),(a:Int))) (l:=b.signatures) (zv:=.agg [.nils,qi 0,qi 0]) α underlying56 zeroValue97 (by kernel_rfl) rfl rfl rfl rfl) trivial rfl (by kernel_rfl) rfl rfl ?_;obtain⟨f,μ,h⟩:=h;refine qDC 10 μ [0,1,2,9,10] rfl ?_;exact qHX ⟨16,(CKr.z f [(5,.var 29 (al d))] 14)⟩<|qDe<|qJ G (h K _ _ G (by omega) (by omega)) [0,1,2,14,15];refine qDr [(1,0)] rfl rfl ?_;obtain⟨f,ν,h⟩:=h;refine qDC 10 ν [0,1,2,9,10] rfl ?_;exact qHX ⟨16,(CKr.z f [(5,.var 29 (al d))] 14)⟩<|qDe<|qJ G (h K _ _ G (by omega) (by omega)) [0,1,2,14,15];refine gR 10 rfl ?_;obtain⟨β,ξ,h⟩:=h;refine qC0 ξ rfl<|gR 2 rfl<|qXi 51 rfl rfl rfl h ?_ ?_<;>intro Z h;refine gR 3 rfl ?_;obtain⟨t,ο,h⟩:=h;refine qC ο [0,1,2,9,10] (hs:=(.cons .rfl (.cons .rfl (.cons (.nil 1) .nil)))) ?_;refine qHX ⟨16,(CKr.z t [(5,.var 29 (al d))] 14)⟩<|gR 5 rfl ?_;obtain⟨x,π,h⟩:=h;refine qC π [0,1,2,14,15] ?_;refine qHX ⟨21,(CKr.z x [(5,.var 29 (al d))] 19)⟩<|gR 4 rfl ?_;obtain⟨y,τ,h⟩:=h;refine qC τ [0,1,2,19,20] ?_;refine qHX ⟨26,(CKr.z y [(5,.var 29 (al d))] 24)⟩<|gR 4 rfl ?_;obtain⟨hb,h⟩:=h;exact gR 1 rfl<|gV 59 (qi ((a+1:Nat):Int)) rfl (ao (by omega) (by omega)) rfl<|gR 2 rfl<|go_xloop<|qJ G (h K _ _ G (by omega) (by omega)) [0,1,2,24,25];refine gR 6 rfl ?_;obtain⟨n,υ,h⟩:=h;refine qC υ [0,1,2,9,10] ?_;refine qHX ⟨16,(CKr.z n [(5,.var 29 (al d))] 14)⟩<|gR 4 rfl ?_;obtain⟨q,φ,h⟩:=h;refine qC φ [0,1,2,14,15] ?_;refine qHX ⟨21,(CKr.z q [(5,.var 29 (al d))] 19)⟩<|gR 4 rfl ?_;obtain⟨hb,h⟩:=h;exact gR 1 rfl<|gV 59 (qi ((a+1:Nat):Int)) rfl (ao (by omega) (by omega)) rfl<|gR 2 rfl<|go_xloop<|qJ G (h K _ _ G (by omega) (by omega)) [0,1,2,19,20];refine gR 3 rfl<|go_xloopE<|gR 4 rfl ?_;obtain⟨hb,h⟩:=h;exact gR 1 rfl<|gV 60 (qi ((s+1:Nat):Int)) rfl (ao (by omega) (by omega)) rfl<|gR 2 rfl<|go_xloop<|qW G h [0,1,2,3,4]
theorem wD(m:Nat)(O:CKr)(c:Tree)(d:CKr)(e f b:Nat)(q0:CKr)(h:∃a,bb d a∧b+1≤9223372036854775807∧cI m O c a (b+1) e f q0):me (m+1) O c d e f b q0:=by
 intro K G J U i k;obtain⟨G,rfl⟩:∃j,G=j+1:=⟨G-1,by omega⟩;obtain⟨J,rfl⟩:∃j,J=j+1:=⟨J-1,by omega⟩;refine gR 3 rfl ?_;obtain⟨a,g,h⟩:=h;refine qC g [0,1,2,3,4] ?_;refine qHX ⟨10,(CKr.y a 8)⟩<|gR 4 rfl ?_;obtain⟨hb,h⟩:=h;exact gR 1 rfl<|gV 59 (qi ((b+1:Nat):Int)) rfl (ao (by omega) (by omega)) rfl<|gR 2 rfl<|go_xloop<|qJ U (h K _ _ U (by omega) (by omega)) [0,1,2,8,9]
mutual
def leafK:Tree→Tree
 |.node k s ls ks=>if k=8 then leafH (.node k s ls ks) ks else .node k s ls ks
def leafH(d:Tree):List Tree→Tree
 |[]=>d
 |t::_=>leafK t
end
mutual
def lisK:Tree→Nat
 |.node k s ls ks=>if k=8 then lisH ks+1 else 0
def lisH:List Tree→Nat
 |[]=>0
 |t::_=>lisK t
end
def cb:Nat→Tree→Tree
 |0,t=>t
 |n+1,t=>.node 8 [] [] [cb n t]
mutual
def bareK:Tree→Tree
 |.node k s _ ks=>.node k s [] (baresK ks)
def baresK:List Tree→List Tree
 |[]=>[]
 |t::r=>bareK t::baresK r
end
theorem qU{r:List Tree}(G:t.kind=8)(J:t.kids=u::r):leafK t=leafK u∧lisK t=lisK u+1:=by
 cases t;simp only[Tree.kind,Tree.kids]at G J;subst G J;constructor
 ·rw[leafK,if_pos rfl,leafH]
 ·rw[lisK,if_pos rfl,lisH]
theorem jB(h:t.kind≠8):leafK t=t∧lisK t=0:=by
 cases t;simp only[Tree.kind]at h;constructor
 ·rw[leafK,if_neg h]
 ·rw[lisK,if_neg h]
theorem Bb(t:Tree):bareK t=.node t.kind t.text [] (baresK t.kids):=by cases t;simp only[bareK];rfl
def tyK(t:Tree):Prop:=shapeK t=true∧jr t.kind=true
theorem ni(h:tyK t):(t.kind=8∧t.text=[]∧∃u,t.kids=[u]∧tyK u)∨(t.kind≠8∧t.kids=[]∧(t.kind≠9→t.text=[])):=by
 obtain⟨hs,hk⟩:=h;rw[cp]at hs;simp only[Bool.and_eq_true,decide_eq_true_eq]at hs;have hk':5≤t.kind∧t.kind≤9:=by simpa[jr]using hk
 by_cases O:t.kind=8
 ·refine .inl ⟨O,?_,?_⟩
  ·have :=hs.1.2;rw[O]at this;simpa[oW]using this
  ·have J:=hs.1.1;have e:eK t.kind t.kids.length=f0 t.kids.length 1 2 0 1:=by rw[O];rfl
   rw[e]at J;have hn:t.kids.length=1:=by
    unfold f0 at J;split at J
    ·omega
    ·split at J
     ·omega
     ·omega
   obtain⟨u,U⟩:∃u,t.kids=[u]:=by
    match hkk:t.kids,hn with
    |[u],_=>exact⟨u,rfl⟩
   refine⟨u,U,?_⟩;have G:=hs.2;rw[U]at G;simp only[shapeKs,Bool.and_eq_true]at G;refine⟨G.1.2,?_⟩;have :=G.1.1;rw[O]at this;simpa[iX]using this
 ·refine .inr ⟨O,?_,λh9=>?_⟩
  ·have J:=hs.1.1;have e:eK t.kind t.kids.length=f0 t.kids.length 0 1 0 0:=by
    have :t.kind=5∨t.kind=6∨t.kind=7∨t.kind=9:=by omega
    rcases this with e|e|e|e<;>rw[e]<;>rfl
   rw[e]at J;have :t.kids.length=0:=by
    unfold f0 at J;split at J
    ·omega
    ·omega
   exact List.length_eq_zero_iff.1 this
  ·have :t.kind=5∨t.kind=6∨t.kind=7:=by omega
   have Z:=hs.1.2;rcases this with e|e|e<;>(rw[e]at Z;simpa[oW]using Z)
theorem lU:∀t,tyK t→tyK (leafK t)∧(leafK t).kind≠8∧bareK t=cb (lisK t) (.node (leafK t).kind (leafK t).text [] []):=dZ λt ih h=>by
 rcases ni h with⟨G,hx,u,J,O⟩|⟨G,hk,_⟩
 ·obtain⟨U,Z⟩:=qU G J;obtain⟨g1,g2,g3⟩:=ih 0 u (by rw[J];rfl) O;rw[U,Z];refine⟨g1,g2,?_⟩;rw[Bb,G,hx,J,cb];simp only[baresK,g3]
 ·obtain⟨U,Z⟩:=jB G;rw[U,Z];refine⟨h,G,?_⟩;rw[Bb,hk,cb,baresK]
theorem kL:∀t,tbulk (leafK t)≤tbulk t∧lisK t≤tbulk t:=dZ λt ih=>by
 by_cases G:t.kind=8
 ·cases J:t.kids with
  |nil=>
   have hp:=bV t;cases t;simp only[Tree.kind,Tree.kids]at G J;subst G J;rw[leafK,if_pos rfl,leafH,lisK,if_pos rfl,lisH];exact⟨Nat.le_refl _,hp⟩
  |cons u r=>
   obtain⟨O,U⟩:=qU G J;have Z:t.kids[0]?=some u:=by rw[J];rfl
   obtain⟨g1,g2⟩:=ih 0 u Z;have :=aF Z;rw[O,U];omega
 ·obtain⟨O,U⟩:=jB G;rw[O,U];exact⟨Nat.le_refl _,Nat.zero_le _⟩
variable{d:Nat}
theorem sD(ht:t.kind=1)(hs:shapeK t=true)(J:t.kids[d]?=some u):(u.kind=2∧bJ u.text=1)∨(u.kind=3∧bJ u.text=2):=by
 rw[cp]at hs;simp only[Bool.and_eq_true]at hs;obtain⟨h1,h2⟩:=ej hs.2 J;rw[ht]at h1;simp[iX]at h1;rw[cp]at h2;simp only[Bool.and_eq_true]at h2;have G:=h2.1.2;rcases h1 with e|e
 ·rw[e]at G;simp[oW]at G;exact .inl ⟨e,by omega⟩
 ·rw[e]at G;simp[oW]at G;exact .inr ⟨e,by omega⟩
theorem Hq{w:List UInt8}{k:Nat}(h:bJ w=k)(G:k=3∨k=4):dD w 0=((spanN bg w:Nat):Int):=by
 obtain⟨h1,h2,_⟩:=Ip h G;have :=Kx w 0 h1 h2;simpa using this
variable{p:List Tree}{m:Int}
theorem rW(hp:bi p=true)(h9:u.kind=9)(hu:shapeK u=true)(h:(ba p m u.text).2.2=true):∃(i d:Nat) (t a b:Tree),(ba p m u.text).1=(i:Int)∧(ba p m u.text).2.1=(d:Int)∧p[i]?=some t∧t.kids[d]?=some a∧a.kind=3∧a.kids=[b]∧tyK b:=by
 have O:bJ u.text=2∨bJ u.text=4:=by
  rw[cp,h9]at hu;simp only[Bool.and_eq_true]at hu;have :=hu.1.2;simp only[oW]at this;simp at this;omega
 have fin:∀(i d:Nat) (t a:Tree),p[i]?=some t→t.kids[d]?=some a→¬a.kind=2→a.kind=3∧∃b,a.kids=[b]∧tyK b:=λi d t a ht ha hn=>by
  obtain⟨t1,J⟩:=fw hp ht;rcases sD t1 J ha with⟨k2,_⟩|⟨k3,_⟩
  ·exact absurd k2 hn
  ·refine⟨k3,?_⟩;rw[cp]at J;simp only[Bool.and_eq_true]at J;obtain⟨_,g2⟩:=ej J.2 ha;rw[cp,k3]at g2;simp only[Bool.and_eq_true,decide_eq_true_eq]at g2;have hl:=g2.1.1;have e:eK 3 a.kids.length=f0 a.kids.length 1 3 0 1:=rfl;rw[e]at hl;have hn:a.kids.length=1:=by
    unfold f0 at hl;split at hl
    ·omega
    ·split at hl
     ·omega
     ·omega
   match hkk:a.kids,hn with
   |[b],_=>
    have G:=g2.2;rw[hkk]at G;simp only[shapeKs,Bool.and_eq_true]at G;exact⟨b,rfl,G.1.2,by have :=G.1.1;simpa[iX]using this⟩
 unfold ba at h⊢;rcases O with O|O
 ·have hd:dD u.text 0=-1:=AG _ _ (DE O (.inr rfl)).1;rw[if_neg (by omega)]at h⊢;obtain⟨i,d,t,a,_,a1,a2,U,Z,a5,_⟩:=xn h;obtain⟨t1,J⟩:=fw hp U;obtain⟨f1,b,f2,f3⟩:=fin i d t a U Z λk2=>by
   rcases sD t1 J Z with⟨_,k⟩|⟨k,_⟩
   ·rw[a5,O]at k;cases k
   ·omega
  exact⟨i,d,t,a,b,a1,a2,U,Z,f1,f2,f3⟩
 ·have hd:=Hq O (.inr rfl);rw[if_pos (by omega)]at h⊢;obtain⟨i,d,t,a,_,a1,a2,U,Z,a5,_⟩:=xn h;obtain⟨t1,J⟩:=fw hp U;obtain⟨f1,b,f2,f3⟩:=fin i d t a U Z λk2=>by
   rcases sD t1 J Z with⟨_,k⟩|⟨k,_⟩
   ·have g:=(DE k (.inl rfl)).2.1 rfl;have g3:=(Ip O (.inr rfl)).2.2;rw[a5,hd,Int.toNat_natCast]at g;have e:(u.text.drop (spanN bg u.text+1)).getD 0 0=u.text.getD (spanN bg u.text+1) 0:=by
     simp[List.getD_eq_getElem?_getD,List.getElem?_drop]
    rw[e]at g;have :=g3.2 g;cases this
   ·omega
  exact⟨i,d,t,a,b,a1,a2,U,Z,f1,f2,f3⟩
def fc:Nat→Cx→Tree→Sv→Sv
 |0,_,_,s=>s
 |n+1,x,u,s=>if u.kind=9 then(if(s.tg.headD noT).Free then faP x 1 [] (bT s)else bT s)else if u.kind=8 then fc n (x.go ((0:Nat):Int)) (cP u 0) s else s
abbrev ckT(x:Cx)(s:Sv)(t:Tree)(i:Int)(s':Sv):Prop:=dz (mkC x s) t i (mkC x s')
structure Sst (B u:Nat) (s s':Sv):Prop where
 tg:s'.tg=s.tg.drop u
 fa:s'.fa.length≤s.fa.length+4*B
theorem BD:∀(n:Nat) (u:Tree),tbulk u≤n→tyK u→∀(t:Tree) (i:Nat) (x:Cx) (s:Sv),t.kids[i]?=some u→x.pa.length+tbulk u+1≤100000000→s.fa.length+1≤900000000→uN u≤s.tg.length→ckT x s t i (fc n (x.go i) u s)∧Sst (tbulk u) (uN u) s (fc n (x.go i) u s)
 |0,u,hb,_,_,_,_,_,_,_,_,_=>by have :=bB u;omega
 | n +1,u,hb,hu,t,i,x,s,ht,h1,h2,h3=>by
  have hbu:=aV u;have hlen:x.pa.length+1≤1000000000:=by omega
  rcases ni hu with⟨h8,_,v,hv,hvt⟩|⟨h8,hk,_⟩
  ·rw[hv]at hbu;simp only[kbulk]at hbu;have hU:uN u=uN v:=by rw[gG,hv,h8];simp[uNs]
   have hv0:u.kids[0]?=some v:=by rw[hv];rfl
   have e:fc (n+1) (x.go i) u s=fc n ((x.go i).go ((0:Nat):Int)) v s:=by simp[fc,h8,eo hv0]
   obtain⟨a1,a2⟩:=BD n v (by omega) hvt u 0 (x.go i) s hv0 (by simp[Cx.go];omega) h2 (by omega);rw[e];refine⟨ix 0 _ _ _ _ (⟨_,lS (x:=x) (s:=s) (i:Int) hlen,i,rfl,u,ht,λh=>absurd h (by omega),λ_=>⟨λ_=>⟨_,a1,_,ko (x:=x) (i:Int),rfl⟩,λh=>absurd h8 h⟩⟩),?_⟩;exact⟨by rw[a2.tg,hU],by have :=a2.fa;omega⟩
  ·by_cases h9:u.kind=9
   ·have hU:uN u=1:=by rw[gG,hk,h9];simp[uNs]
    have huse:=Nd (x:=x.go i) (s:=s) (by omega);have e:fc (n+1) (x.go i) u s=if(s.tg.headD noT).Free then faP (x.go i) 1 [] (bT s)else bT s:=by simp[fc,h9]
    rw[e];by_cases hf:(s.tg.headD noT).Free=true
    ·rw[if_pos hf];refine⟨ix 0 _ _ _ _ (⟨_,lS (x:=x) (s:=s) (i:Int) hlen,i,rfl,u,ht,λ_=>⟨_,_,huse,λ_=>⟨_,eT (x:=x.go i) (s:=bT s) 1 [] (by simp[Cx.go];omega) (by simp[bT];omega),_,ko (x:=x) (s:=faP (x.go i) 1 [] (bT s)) (i:Int),rfl⟩,λh=>absurd hf (by rw[h];decide)⟩,λh=>absurd h9 h⟩),?_⟩;exact⟨by rw[hU];rfl,by rw[eR];simp[bT];omega⟩
    ·rw[if_neg hf];refine⟨ix 0 _ _ _ _ (⟨_,lS (x:=x) (s:=s) (i:Int) hlen,i,rfl,u,ht,λ_=>⟨_,_,huse,λh=>absurd h hf,λ_=>⟨_,ko (x:=x) (s:=bT s) (i:Int),rfl⟩⟩,λh=>absurd h9 h⟩),?_⟩;exact⟨by rw[hU];rfl,by simp[bT]⟩
   ·have hU:uN u=0:=by rw[gG,hk,if_neg];simp[uNs];have :=hu.2;simp[jr]at this;omega
    have e:fc (n+1) (x.go i) u s=s:=by simp[fc,h9,h8]
    rw[e];exact⟨ix 0 _ _ _ _ (⟨_,lS (x:=x) (s:=s) (i:Int) hlen,i,rfl,u,ht,λh=>absurd h h9,λ_=>⟨λh=>absurd h h8,λ_=>⟨_,ko (x:=x) (s:=s) (i:Int),rfl⟩⟩⟩),by rw[hU];rfl,by omega⟩
def lR(x:Cx):List Tree→Nat→Sv→Sv
 |[],_,s=>s
 |k::r,i,s=>lR x r (i+1) (fc (tbulk (cP k 0)) ((x.go i).go ((0:Nat):Int)) (cP k 0) s)
def eY:List Tree→List Kn→Env
 |k::r,q::l=>⟨k.text,q⟩::eY r l
 |_,_=>[]
def funQ(x:Cx)(i:Nat)(r:Kn):Kn×Sv→Sv
 |(k,s)=>if aZ k r then faP x 4 [(i:Int)] s else s
def rV(x:Cx)(f:Tree)(g:am)(s:Sv):Sv:=
 funQ x (f.kids.length-1) g.result (aO (cG (tbulk f)) x f (f.kids.length-1) (eY (f.kids.take (f.kids.length-2)) g.params) (fc (tbulk f) (x.go ((f.kids.length-2:Nat):Int)) (cP f (f.kids.length-2)) (lR x (f.kids.take (f.kids.length-2)) 0 s)))
abbrev ckU(x:Cx)(s:Sv)(f:Tree)(g:am)(s':Sv):Prop:=fO (mkC x s) f g (mkC x s')
variable{f:Tree}
theorem tC(hs:shapeK f=true)(h2:f.kind=2):2≤f.kids.length∧(∀(i:Nat) (u:Tree),f.kids[i]?=some u→i+2<f.kids.length→∃v,u.kind=4∧u.kids=[v]∧tyK v)∧(∀u,f.kids[f.kids.length-2]?=some u→tyK u)∧(∀u,f.kids[f.kids.length-1]?=some u→exT u):=by
 rw[cp]at hs;simp only[Bool.and_eq_true,decide_eq_true_eq]at hs;have hl:=hs.1.1;rw[h2]at hl;have h1:=(tu (show 0≤f0 f.kids.length 2 6 2 (-1)from hl)).1;refine⟨by omega,λi u O hi=>?_,λu O=>?_,λu O=>?_⟩
 ·obtain⟨G,J⟩:=ej hs.2 O;rw[h2]at G;simp only[iX]at G;rw[if_neg (by omega),if_pos trivial,if_neg (by omega),if_neg (by omega)]at G;have Z:u.kind=4:=by simpa using G
  rw[cp]at J;simp only[Bool.and_eq_true,decide_eq_true_eq]at J;have U:=J.1.1;rw[Z]at U;have :=tu (show 0≤f0 u.kids.length 1 2 0 1 from U);obtain⟨v,ev⟩:=zP (t:=u) (by omega);have hv:u.kids[0]?=some v:=by rw[ev];rfl
  obtain⟨g3,g4⟩:=ej J.2 hv;rw[Z]at g3;exact⟨v,Z,ev,g4,by simpa[iX]using g3⟩
 ·obtain⟨G,J⟩:=ej hs.2 O;rw[h2]at G;simp only[iX]at G;rw[if_neg (by omega),if_pos trivial,if_neg (by omega),if_pos (by omega)]at G;exact⟨J,G⟩
 ·obtain⟨G,J⟩:=ej hs.2 O;rw[h2]at G;simp only[iX]at G;rw[if_neg (by omega),if_pos trivial,if_pos (by omega)]at G;exact⟨J,G⟩
theorem LF{f:Tree}{g:am}{x:Cx}{n:Nat}(hn:n≤f.kids.length)(hf:∀(i:Nat) (u:Tree),(f.kids.take n)[i]?=some u→∃v,u.kind=4∧u.kids=[v]∧tyK v)(hl:f.kids.length≤100000000):∀(k i:Nat) (s:Sv),k+i=n→x.pa.length+kbulk ((f.kids.take n).drop i)+2≤100000000→s.fa.length+4*kbulk ((f.kids.take n).drop i)+1≤900000000→uNs ((f.kids.take n).drop i)≤s.tg.length→
  Sst (kbulk ((f.kids.take n).drop i)) (uNs ((f.kids.take n).drop i)) s (lR x ((f.kids.take n).drop i) i s)∧∀(m:Nat) (s':Sv),(∀s1,s1=lR x ((f.kids.take n).drop i) i s→dC m f g n (mkC x s1) n (mkC x s'))→∃m',dC m' f g n (mkC x s) i (mkC x s')
 |0,i,s,hk,_,_,_=>by
  have hd:(f.kids.take n).drop i=[]:=List.drop_of_length_le (by simp;omega);have hi:i=n:=by omega
  subst hi;rw[hd];exact⟨⟨by simp[lR,uNs],by simp[lR]⟩,λm s' h=>⟨m,h _ rfl⟩⟩
 | k+1,i,s,hk,h1,h2,h3=>by
  have hlt:i<(f.kids.take n).length:=by simp;omega
  obtain⟨u,hu⟩:∃u,(f.kids.take n)[i]?=some u:=⟨_,List.getElem?_eq_getElem hlt⟩;obtain⟨v,hv4,hv,hvt⟩:=hf i u hu;have hd:=aU hu;have hbu:=aV u;rw[hv]at hbu;rw[hd]at h1 h2 h3⊢;simp only[kbulk,uNs]at h1 h2 h3 hbu⊢;have hv0:u.kids[0]?=some v:=by rw[hv];rfl
  have hU:uN u=uN v:=by rw[gG,hv,hv4];simp[uNs]
  obtain⟨a1,a2⟩:=BD (tbulk v) v (Nat.le_refl _) hvt u 0 (x.go i) s hv0 (by simp[Cx.go];omega) (by omega) (by omega);have e:lR x (u::(f.kids.take n).drop (i+1)) i s=lR x ((f.kids.take n).drop (i+1)) (i+1) (fc (tbulk v) ((x.go i).go ((0:Nat):Int)) v s):=by
   rw[lR,eo hv0]
  rw[e];generalize fc (tbulk v) ((x.go i).go ((0:Nat):Int)) v s=s1 at a1 a2;have q1:=a2.fa;have q2:=a2.tg;obtain⟨b1,b2⟩:=LF (g:=g) (x:=x) hn hf hl k (i+1) s1 (by omega) (by omega) (by omega) (by rw[q2,List.length_drop];omega);refine⟨⟨by rw[b1.tg,q2,List.drop_drop,hU],by have :=b1.fa;omega⟩,λm s' h=>?_⟩;obtain⟨m',hm⟩:=b2 m s' h;exact⟨m'+1,mn m' _ _ _ _ _ _ (⟨λ_=>⟨u,hu,_,lS (x:=x) (s:=s) (i:Int) (by omega),_,a1,_,ko (x:=x) (s:=s1) (i:Int),by omega,hm⟩,λh=>absurd hlt h⟩)⟩
theorem Nf{f:Tree}{g:am}{x:Cx}{s s':Sv}{n:Nat}(U:n+2=f.kids.length)(Z:n≤g.params.length)(hl:f.kids.length≤100000000){m0:Nat}(fin:cU m0 f g (mkC x s) (eY (f.kids.take n) g.params) (-1) (mkC x s')):∀k,k≤n→cU (m0+k) f g (mkC x s) (eY ((f.kids.take n).drop k) (g.params.drop k)) ((k:Int)-1) (mkC x s')
 |0,_=>by simpa using fin
 |k+1,hk=>by
  have ih:=Nf U Z hl fin k (by omega);obtain⟨u,J⟩:∃u,f.kids[k]?=some u:=⟨_,List.getElem?_eq_getElem (by omega)⟩;obtain⟨q,O⟩:∃q,g.params[k]?=some q:=⟨_,List.getElem?_eq_getElem (by omega)⟩;have G:(f.kids.take n)[k]?=some u:=by rw[List.getElem?_take,if_pos (by omega)];exact J
  rw[aU G,aU O]at ih;have e:(((k+1:Nat):Int)-1)=(k:Int):=by omega
  rw[e];exact mq (m0+k) _ _ _ _ _ _ (⟨λ_=>⟨k,rfl,u,J,k,rfl,q,O,⟨by omega,by omega⟩,ih⟩,λh=>absurd (by omega) h⟩)
theorem JB{g:am}(hs:shapeK f=true)(h2:f.kind=2)(hg:f.kids.length=g.params.length+2)(hp:x.pa.length+tbulk f+2≤100000000)(hf:s.fa.length+4*tbulk f+1≤900000000)(ht:uN f≤s.tg.length)(hL:L+tbulk f≤900000000)(hgp:∀q∈g.params,KOk L q)(hsg:∀k q,aI k x.sg=some q→KOk L q.result):
  ckU x s f g (rV x f g s)∧Sst (tbulk f) (uN f) s (rV x f g s):=by
 obtain⟨s1,s2,s3,s4⟩:=tC hs h2;have hkl:=bB f;have hB:=aV f;obtain⟨n,hn⟩:∃n,n+2=f.kids.length:=⟨f.kids.length-2,by omega⟩;obtain⟨r,hr⟩:∃r,f.kids[n]?=some r:=⟨_,List.getElem?_eq_getElem (by omega)⟩;obtain⟨b,hb⟩:∃b,f.kids[n+1]?=some b:=⟨_,List.getElem?_eq_getElem (by omega)⟩;have hrt:=s3 r (by rw[show f.kids.length-2=n by omega];exact hr);have hbx:=s4 b (by rw[show f.kids.length-1=n+1 by omega];exact hb);have hsplit:f.kids=f.kids.take n++[r,b]:=by
  have e1:f.kids.drop n=[r,b]:=by
   rw[aU hr,aU hb,List.drop_of_length_le (by omega)]
  rw[←e1,List.take_append_drop]
 have hKB:kbulk f.kids=kbulk (f.kids.take n)+tbulk r+tbulk b:=by
  have :∀a c:List Tree,kbulk (a++c)=kbulk a+kbulk c:=λa c=>by induction a with
   |nil=>simp[kbulk]
   |cons y l ih=>simp only[List.cons_append,kbulk,ih];omega
  conv=>lhs;rw[hsplit,this]
  simp[kbulk];omega
 have hUU:uN f=uNs (f.kids.take n)+uN r+uN b:=by
  have :∀a c:List Tree,uNs (a++c)=uNs a+uNs c:=λa c=>by induction a with
   |nil=>simp[uNs]
   |cons y l ih=>simp only[List.cons_append,uNs,ih];omega
  rw[gG,h2]
  conv=>lhs;rw[hsplit,this]
  simp[uNs];omega
 have hpar:∀(i:Nat) (u:Tree),(f.kids.take n)[i]?=some u→∃v,u.kind=4∧u.kids=[v]∧tyK v:=λi u hu=>by
  rw[List.getElem?_take]at hu;split at hu
  ·exact s2 i u hu (by omega)
  ·cases hu
 obtain⟨A1,A2⟩:=LF (f:=f) (g:=g) (x:=x) (n:=n) (by omega) hpar (by omega) n 0 s (by omega) (by simp;omega) (by simp;omega) (by simp;omega);simp only[List.drop_zero]at A1 A2;obtain⟨sA,hsA⟩:∃sA,sA=lR x (f.kids.take n) 0 s:=⟨_,rfl⟩;rw[←hsA]at A1;have qA:=A1.fa;have qT:=A1.tg;obtain⟨B1,B2⟩:=BD (tbulk f) r (by omega) hrt f n x sA hr (by omega) (by omega) (by rw[qT,List.length_drop];omega);obtain⟨sB,hsB⟩:∃sB,sB=fc (tbulk f) (x.go (n:Int)) r sA:=⟨_,rfl⟩;rw[←hsB]at B1 B2;have rA:=B2.fa;have rT:=B2.tg;obtain⟨C1,C2⟩:=ds (uI (tbulk f)) (x:=x) (env:=eY (f.kids.take n) g.params) (s:=sB) (L:=L) hb (by omega) hbx ⟨by omega,by omega,by rw[rT,qT,List.drop_drop,List.length_drop];omega,by omega,λc hc=>by
  have :∀(ks:List Tree) (ps:List Kn),(∀q∈ps,KOk L q)→∀c∈eY ks ps,KOk L c.typ:=λks=>by
   induction ks with
   |nil=>intro ps _ c hc;simp[eY]at hc
   | cons k r ih=>
    intro ps hps c hc;cases ps with
    |nil=>simp[eY]at hc
    |cons q l=>
     simp only[eY,List.mem_cons]at hc;rcases hc with rfl|hc
     ·exact hps q List.mem_cons_self
     ·exact ih l (λq hq=>hps q (List.mem_cons_of_mem _ hq)) c hc
  exact this _ _ hgp c hc,hsg⟩
 have e0:rV x f g s=funQ x (n+1) g.result (aO (cG (tbulk f)) x f (n+1) (eY (f.kids.take n) g.params) sB):=by
  unfold rV;rw[show f.kids.length-1=n+1 by omega,show f.kids.length-2=n by omega,eo hr,←hsA,←hsB]
 rw[e0];generalize aO (cG (tbulk f)) x f (n+1) (eY (f.kids.take n) g.params) sB=w at C1 C2⊢;obtain⟨k,sC⟩:=w;have cA:=C2.fa;have cT:=C2.tg;simp only at cA cT;have ei:(((f.kids.length:Nat):Int)-2+1)=((n+1:Nat):Int):=by omega
 have fin:∀s',s'=funQ x (n+1) g.result (k,sC)→cU 1 f g (mkC x sB) (eY (f.kids.take n) g.params) (-1) (mkC x s'):=λs' hs'=>by
  refine mq 0 _ _ _ _ _ _ (⟨λh=>absurd h (by omega),λ_=>⟨⟨by omega,by omega⟩,_,_,by rw[ei];exact C1,_,kR k g.result,λh=>⟨⟨by omega,by omega⟩,?_⟩,λh=>?_⟩⟩)
  ·have :s'=faP x 4 [((n+1:Nat):Int)] sC:=by rw[hs'];unfold funQ;simp only[if_pos h]
   subst this;exact⟨_,by rw[ei];exact eT (x:=x) (s:=sC) 4 [((n+1:Nat):Int)] (by simp;omega) (by omega),rfl⟩
  ·have :s'=sC:=by rw[hs'];unfold funQ;simp only[h];simp
   subst this;exact rfl
 have st:Sst (tbulk f) (uN f) s (funQ x (n+1) g.result (k,sC)):=by
  have :(funQ x (n+1) g.result (k,sC)).tg=sC.tg∧(funQ x (n+1) g.result (k,sC)).fa.length≤sC.fa.length+1:=by
   unfold funQ;simp only[];split
   ·exact⟨rfl,by rw[eR];omega⟩
   ·exact⟨rfl,by omega⟩
  exact⟨by rw[this.1,cT,rT,qT,List.drop_drop,List.drop_drop,hUU,Nat.add_assoc],by have :=this.2;omega⟩
 refine⟨?_,st⟩;obtain⟨m',hm⟩:=A2 (1+n+1) (funQ x (n+1) g.result (k,sC)) λs1 hs1=>by
  rw[←hsA]at hs1;subst hs1;refine mn (1+n) _ _ _ _ _ _ (⟨λh=>absurd h (by rw[List.length_take];omega),λ_=>⟨_,by rw[show((f.kids.length:Nat):Int)-2=(n:Int) by omega];exact B1,⟨by omega,by omega⟩,?_⟩⟩);have :=Nf (x:=x) (s:=sB) (g:=g) hn (by omega) (by omega) (fin _ rfl) n (Nat.le_refl _);rw[List.drop_of_length_le (by simp;omega)]at this;rw[show((f.kids.length:Nat):Int)-2-1=(n:Int)-1 by omega];simpa[eY]using this
 exact tJ m' _ _ _ _ (⟨n,by omega,by omega,hm⟩)
def yW(G:Tree)(p1:List Int)(J:Tree)(O:Bool):Prop:=qS 23 [.agg (al G),.row 1 (List.map (V.int .i64) p1)] (.tup [.agg (al J),.bool O])
def gm(J:List Tree)(O:List ae):Prop:=bv [] prog 14 [.row 4 (kidsV J)] ⟨0,[]⟩ (λu G=>u=.sl 0∧G=⟨1,[(0,.row 47 3 (List.map ae.w O))]⟩)
def wv(G:List Tree)(p1:dL)(J:Tree)(O:Int):Prop:=qS 10 [.row 4 (kidsV G),.agg (dL.c p1)] (.tup [.agg (al J),qi O])
theorem uJ(m:Nat)(G:List Tree)(J:List ae)(h:∃c,mP G c∧((c=false)→([]:List ae)=J)∧((c=true)→∃b,jP G b∧∃a,iW b a∧∃d,eG a.faults d∧d=J)):gm G J:=by
 refine qA 20 [] func14 λK O=>?_;refine gR 9 rfl ?_;obtain⟨c,e,h⟩:=h;refine qC0 e rfl<|gR 3 rfl<|qBh 6 rfl rfl rfl h bF bG ?_ ?_<;>intro h;refine gR 8 rfl<|gNS 2 47 3 rfl rfl rfl rfl ?_;subst h;exact gE O [] [(2,.sl 0)] [0] [.tmp 2];refine gR 6 rfl ?_;obtain⟨b,f,h⟩:=h;refine qC f [] ?_;refine qHX ⟨5,(CKr.y b 3)⟩<|gR 6 rfl ?_;obtain⟨a,g,h⟩:=h;refine qC g [0,1,2,3,4] ?_;refine qHX ⟨10,(CKr.y a 8)⟩<|gR 8 rfl ?_;obtain⟨d,i,h⟩:=h;refine qC i [9] ?_;refine qHX ⟨11,[(9,.row 47 3 (List.map ae.w d)),(8,CKr.path_o a),(2,CKr.signatures_o a),(1,CKr.names_o a),(0,CKr.o a 1 2 8 9)]⟩<|gR 12 rfl ?_;subst h;exact gE O [] [(2,.sl 0)] [9] [.tmp 2]
def zg(m:Nat)(G:List Tree)(p1:dL)(a:Tree)(b:Bool)(J:Tree)(O:Int):Prop:=∀(K:Ctx),aw K []→Go prog K (bodyPost prog f10 (SP K (λu _=>u=.tup [.agg (al J),qi O]))) (.ex .normal) [.seq (xF (aj f10))] 88 (mkF 88 0 [(0,.row 4 (kidsV G)),(3,.box (dL.c p1) 0),(4,.ptr 0 0),(6,.ptr 1 0),(7,.bool b)]) ⟨2,[(1,.var 29 (al a)),(0,vE 0 [])]⟩
def rj(m:Nat)(a:CKr)(b:Int)(c:List Tree)(d:Nat)(J:Tree)(O:Int):Prop:=∀(K:Ctx) (G:Nat),aw K []→m≤G→qLG K f10 (λu _=>u=.tup [.agg (al J),qi O]) (xG (xH (xA (xF (aj f10))))) [.loop (xG (xH (xA (xF (aj f10))))) G,.blk 0,.seq (xH (xH (xA (aj f10))))] 88 (mkF 88 0 [(4,.ptr 0 0),(9,.ptr 1 0),(80,qi a.result_lists),(81,qi (d:Int))]) ⟨3,[(2,.row 29 4 (kidsV c)),(1,.var 29 [qi b,.str [],.nils,.sl 2]),(0,vE 0 [])]⟩
theorem FK(m:Nat)(G:List Tree)(p1:dL)(O:Tree)(U:Int)(h:∃a,mP G a∧((a=false)→(Tree.node 0 [] [] [])=O∧5=U)∧((a=true)→((p1.Module<0)→(Tree.node 0 [] [] [])=O∧5=U)∧((¬p1.Module<0)→(((G.length:Int)≤p1.Module)→(Tree.node 0 [] [] [])=O∧5=U)∧((¬(G.length:Int)≤p1.Module)→∃b,p1.Module=((b:Nat):Int)∧∃c,G[b]?=some c∧∃d e,yW c p1.Path d e∧zg m G p1 d e O U)))):wv G p1 O U:=by
 refine⟨rfl,rfl,?_⟩;refine qA 88 [] func10 λK J=>?_;refine gR 3 rfl<|gFP 0 rfl rfl rfl rfl<|gR 8 rfl ?_;obtain⟨a,l,h⟩:=h;refine qC0 l rfl<|gR 2 rfl<|qBhZ 13 12 rfl rfl rfl rfl h bF bG ?_ ?_<;>intro h;refine gR 23 rfl ?_;obtain⟨rfl,rfl⟩:=h;exact go_sub (F':=(mkF 88 0 [(4,.ptr 0 0),(5,qi 5)])) (H':=⟨1,[(0,vD ((Tree.node 0 [] [] []).kind) ((Tree.node 0 [] [] []).text) ((Tree.node 0 [] [] []).leads) ((Tree.node 0 [] [] []).kids))]⟩) [1] [] rfl J pq2 ⟨⟨_,rfl,rfl,(.cons .rfl (.cons .rfl (.cons (.nil 1) (.cons (.nil 4) .nil))))⟩,trivial⟩ rfl<|qN [.cell 4 29,.tmp 5];refine gR 5 rfl<|qBdZ 18 17 rfl rfl rfl rfl h ?_ ?_<;>intro h;refine gR 18 rfl ?_;obtain⟨rfl,rfl⟩:=h;exact go_sub (F':=(mkF 88 0 [(4,.ptr 0 0),(5,qi 5)])) (H':=⟨1,[(0,vD ((Tree.node 0 [] [] []).kind) ((Tree.node 0 [] [] []).text) ((Tree.node 0 [] [] []).leads) ((Tree.node 0 [] [] []).kids))]⟩) [1] [] rfl J pq2 ⟨⟨_,rfl,rfl,(.cons .rfl (.cons .rfl (.cons (.nil 1) (.cons (.nil 4) .nil))))⟩,trivial⟩ rfl<|qN [.cell 4 29,.tmp 5];refine gR 4 rfl<|gV 22 (qi (G.length:Int)) rfl (aJ (aD _)) rfl<|gLB 21 rfl (aD _) λn=>gR 4 rfl<|qBd 24 rfl rfl rfl h ?_ ?_<;>intro h;refine gR 10 rfl ?_;obtain⟨rfl,rfl⟩:=h;exact go_sub (F':=(mkF 88 0 [(4,.ptr 0 0),(5,qi 5)])) (H':=⟨1,[(0,vD ((Tree.node 0 [] [] []).kind) ((Tree.node 0 [] [] []).text) ((Tree.node 0 [] [] []).leads) ((Tree.node 0 [] [] []).kids))]⟩) [1] [] rfl J pq2 ⟨⟨_,rfl,rfl,(.cons .rfl (.cons .rfl (.cons (.nil 1) (.cons (.nil 4) .nil))))⟩,trivial⟩ rfl<|qN [.cell 4 29,.tmp 5];refine gR 4 rfl<|qDs [] 12 14<|qDr (qR 0 3 2 []) rfl rfl ?_;obtain⟨b,k,h⟩:=h;refine gV 29 (qi ((b:Nat):Int)) rfl (aL k) rfl ?_;obtain⟨c,f,h⟩:=h;refine gYd 3 rfl (by kernel_rfl) (aC (aq f) ai rfl rfl rfl rfl) rfl rfl<|qDr (qR 4 3 2 []) rfl rfl ?_;obtain⟨d,e,g,h⟩:=h;apply bR (i:=7) (j:=11) (by kernel_rfl) rfl rfl rfl rfl;exact(cy (L':=[]) (by kernel_rfl) rfl rfl (sV g .rfl [] rfl) (.inl rfl));exact(bn ai rfl rfl);exact qDr (qR 8 3 2 [(11,0),(12,1),(13,1)]) rfl rfl<|qDe<|qJ J (h K J) [1,2];refine bz 7 g (by kernel_rfl) rfl (by kernel_rfl) rfl rfl .rfl rfl rfl ?_;exact qDr [(8,0),(9,2),(10,2),(12,1),(13,1)] rfl rfl<|qDe<|qJ J (h K J) [1,2]
theorem Dy(m:Nat)(p0:List Tree)(p1:dL)(b:Tree)(d:Bool)(r0:Tree)(r1:Int)(h:((d=false)→(Tree.node 0 [] [] [])=r0∧5=r1)∧((d=true)→((b.kind<10)→(Tree.node 0 [] [] [])=r0∧5=r1)∧((¬b.kind<10)→((22<b.kind)→(Tree.node 0 [] [] [])=r0∧5=r1)∧((¬22<b.kind)→((b.kind=17)→(Tree.node 0 [] [] [])=r0∧5=r1)∧((b.kind≠17)→∃c,jP p0 c∧∃a,iW ({c with wanted_Module:=p1.Module,wanted_Path:=p1.Path}) a∧((a.result_simple=0)→(Tree.node 0 [] [] [])=r0∧20=r1)∧((a.result_simple≠0)→rj m a a.result_simple ([]:List Tree) 0 r0 r1)))))):zg (m+1) p0 p1 b d r0 r1:=by
 intro K hK;refine gR 7 rfl<|qXhZ 39 38 rfl rfl rfl rfl h bF bG ?_ ?_<;>intro hd h;refine gR 26 rfl ?_;obtain⟨rfl,rfl⟩:=h;exact go_sub (F':=(mkF 88 0 [(4,.ptr 0 0),(5,qi 5)])) (H':=⟨1,[(0,vD ((Tree.node 0 [] [] []).kind) ((Tree.node 0 [] [] []).text) ((Tree.node 0 [] [] []).leads) ((Tree.node 0 [] [] []).kids))]⟩) [0] [] rfl hK pq2 ⟨⟨_,rfl,rfl,(.cons .rfl (.cons .rfl (.cons (.nil 1) (.cons (.nil 4) .nil))))⟩,trivial⟩ rfl<|qN [.cell 4 29,.tmp 5];refine gR 5 rfl<|qXdZ 44 43 rfl rfl rfl rfl h ?_ ?_<;>intro hd h;refine gR 21 rfl ?_;obtain⟨rfl,rfl⟩:=h;exact go_sub (F':=(mkF 88 0 [(4,.ptr 0 0),(5,qi 5)])) (H':=⟨1,[(0,vD ((Tree.node 0 [] [] []).kind) ((Tree.node 0 [] [] []).text) ((Tree.node 0 [] [] []).leads) ((Tree.node 0 [] [] []).kids))]⟩) [0] [] rfl hK pq2 ⟨⟨_,rfl,rfl,(.cons .rfl (.cons .rfl (.cons (.nil 1) (.cons (.nil 4) .nil))))⟩,trivial⟩ rfl<|qN [.cell 4 29,.tmp 5];refine gR 5 rfl<|qXdZ 49 48 rfl rfl rfl rfl h ?_ ?_<;>intro hd h;refine gR 16 rfl ?_;obtain⟨rfl,rfl⟩:=h;exact go_sub (F':=(mkF 88 0 [(4,.ptr 0 0),(5,qi 5)])) (H':=⟨1,[(0,vD ((Tree.node 0 [] [] []).kind) ((Tree.node 0 [] [] []).text) ((Tree.node 0 [] [] []).leads) ((Tree.node 0 [] [] []).kids))]⟩) [0] [] rfl hK pq2 ⟨⟨_,rfl,rfl,(.cons .rfl (.cons .rfl (.cons (.nil 1) (.cons (.nil 4) .nil))))⟩,trivial⟩ rfl<|qN [.cell 4 29,.tmp 5];refine gR 6 rfl<|qXe 53 rfl rfl rfl h ?_ ?_<;>intro hd h;refine gR 10 rfl ?_;obtain⟨rfl,rfl⟩:=h;exact go_sub (F':=(mkF 88 0 [(4,.ptr 0 0),(5,qi 5)])) (H':=⟨1,[(0,vD ((Tree.node 0 [] [] []).kind) ((Tree.node 0 [] [] []).text) ((Tree.node 0 [] [] []).leads) ((Tree.node 0 [] [] []).kids))]⟩) [0] [] rfl hK pq2 ⟨⟨_,rfl,rfl,(.cons .rfl (.cons .rfl (.cons (.nil 1) (.cons (.nil 4) .nil))))⟩,trivial⟩ rfl<|qN [.cell 4 29,.tmp 5];refine gR 6 rfl ?_;obtain⟨c,e,h⟩:=h;refine qC e [] ?_;refine qHX ⟨7,[(6,CKr.faults_o c),(5,CKr.path_o c),(4,CKr.signatures_o c),(3,CKr.names_o c),(2,CKr.o c 3 4 5 6),(1,.var 29 (al b)),(0,vE 0 [])]⟩<|gR 15 rfl ?_;obtain⟨a,f,h⟩:=h;refine qC f [2,3,4,5,6] ?_;refine qHX ⟨12,[(11,CKr.faults_o a),(10,CKr.path_o a),(4,CKr.signatures_o a),(3,CKr.names_o a),(2,CKr.o a 3 4 10 11),(1,.var 29 (al b)),(0,vE 0 [])]⟩<|gR 13 rfl<|qXe 68 rfl rfl rfl h ?_ ?_<;>intro hd h;refine gR 10 rfl ?_;obtain⟨rfl,rfl⟩:=h;exact go_sub (F':=(mkF 88 0 [(4,.ptr 0 0),(5,qi 20)])) (H':=⟨1,[(0,vD ((Tree.node 0 [] [] []).kind) ((Tree.node 0 [] [] []).text) ((Tree.node 0 [] [] []).leads) ((Tree.node 0 [] [] []).kids))]⟩) [0] [] rfl hK pq2 ⟨⟨_,rfl,rfl,(.cons .rfl (.cons .rfl (.cons (.nil 1) (.cons (.nil 4) .nil))))⟩,trivial⟩ rfl<|qN [.cell 4 29,.tmp 5];exact gR 15 rfl<|go_sub (F':=(mkF 88 0 [(4,.ptr 0 0),(8,.ptr 1 0),(9,.ptr 2 0)])) (H':=⟨7,[(6,CKr.faults_o a),(5,CKr.path_o a),(4,CKr.signatures_o a),(3,CKr.names_o a),(2,vE a.result_simple []),(1,CKr.o a 3 4 5 6),(0,vE 0 [])]⟩) [0,2,12,3,4,10,11] [] rfl hK pq3 ⟨⟨_,rfl,rfl,rfl,(vH _ a.faults).symm⟩,⟨_,rfl,rfl,rfl,(vG _ a.path).symm⟩,⟨_,rfl,rfl,rfl,rfl,rfl⟩,⟨_,rfl,rfl,rfl,rfl,rfl⟩,(pqo3 rfl rfl rfl rfl rfl rfl)⟩ rfl<|gR 12 rfl<|go_loop m<|gNC 2 3 29 4 rfl rfl rfl rfl<|qW hK h [0,2,7]
theorem yv(m:Nat)(d:CKr)(a:Int)(b:List Tree)(c:Nat)(G:Tree)(J:Int)(h:(((c:Int)<d.result_lists)→c+1≤9223372036854775807∧rj m d 8 [(Tree.node a [] [] b)] (c+1) G J)∧((¬(c:Int)<d.result_lists)→(Tree.node a [] [] b)=G∧0=J)):rj (m+1) d a b c G J:=by
 refine qj λK U O e=>?_;refine gR 6 rfl<|qXd 82 rfl rfl rfl h ?_ ?_<;>intro Z h;refine gR 7 rfl<|gFR 2 rfl (dn _) rfl rfl<|gS 83 (.agg [qi a,.str [],.row 1 [],.row 4 (kidsV b)]) rfl (.agg (.cons .rfl (.cons .rfl (.cons (.nil 1) (.cons .rfl .nil))))) rfl<|gR 1 rfl<|gHR 3 (kidsV [(Tree.node a [] [] b)]) rfl (mS (Tree.node a [] [] b)) rfl<|gR 6 rfl ?_;obtain⟨hb,h⟩:=h;exact gR 1 rfl<|gV 86 (qi ((c+1:Nat):Int)) rfl (ao (by omega) (by omega)) rfl<|gR 2 rfl<|go_xloop<|qW O h [0,1,3];refine gR 3 rfl<|go_xloopE<|gR 10 rfl<|gFR 2 rfl (dn _) rfl rfl ?_;obtain⟨rfl,rfl⟩:=h;exact go_sub (F':=(mkF 88 0 [(4,.ptr 0 0),(5,qi 0)])) (H':=⟨1,[(0,vD ((Tree.node a [] [] b).kind) ((Tree.node a [] [] b).text) ((Tree.node a [] [] b).leads) ((Tree.node a [] [] b).kids))]⟩) [0] [] rfl O pq2 ⟨⟨_,rfl,rfl,(.cons .rfl (.cons .rfl (.cons (.nil 1) (.cons .rfl .nil))))⟩,trivial⟩ rfl<|qN [.cell 4 29,.tmp 5]
def sX:Tree:=.node 0 [] [] []
def rR(p:List Tree)(i d:Int):Tree:=match p[i.toNat]? with
 |none=>sX
 |some t=>match t.kids[d.toNat]? with
  |none=>sX
  |some a=>match a.kids with
   |[]=>sX
   |b::_=>b
def dO(p:List Tree):Nat→List (Int×Int)→Nat→Int→Tree→Tree×Int
 |0,_,_,_,_=>(sX,0)
 | f+1,seen,n,m,u=>
  if u.kind=9 then
   if(ba p m u.text).2.2=false then(sX,7)
   else if((ba p m u.text).1,(ba p m u.text).2.1)∈seen then(sX,19)
   else dO p f (((ba p m u.text).1,(ba p m u.text).2.1)::seen) (n+lisK (rR p (ba p m u.text).1 (ba p m u.text).2.1)) (ba p m u.text).1 (leafK (rR p (ba p m u.text).1 (ba p m u.text).2.1))
  else(cb n (.node u.kind [] [] []),0)
theorem De{α:Type}[BEq α][LawfulBEq α]:∀(l m:List α),l.Nodup→(∀x∈l,x∈m)→l.length≤m.length
 |[],m,_,_=>Nat.zero_le _
 | x::l,m,hn,hs=>by
  obtain⟨h1,h2⟩:=List.nodup_cons.1 hn;have hx:x∈m:=hs x (by simp);have ih:=De l (m.erase x) h2 λy hy=>by
   have hne:y≠x:=λe=>h1 (e▸hy);exact(List.mem_erase_of_ne hne).2 (hs y (by simp[hy]))
  rw[List.length_erase_of_mem hx]at ih;have :=List.length_pos_of_mem hx;simp only[List.length_cons];omega
def za(i:Nat)(l:List Tree):List (Int×Int):=(List.range l.length).map λ(d:Nat)=>((i:Int),(d:Int))
def uw:Nat→List Tree→List (Int×Int)
 |_,[]=>[]
 |i,t::r=>za i t.kids++uw (i+1) r
theorem CU:∀(i:Nat) (p:List Tree),(uw i p).length≤kbulk p
 |_,[]=>Nat.le_refl _
 |i,t::r=>by
  have :=CU (i+1) r;have :=bB t;simp only[uw,List.length_append,za,List.length_map,List.length_range,kbulk];omega
theorem CL:∀{j:Nat} {p:List Tree} {i d:Nat} {t a:Tree},p[i]?=some t→t.kids[d]?=some a→(((j+i:Nat):Int),(d:Int))∈uw j p
 |j,[],i,d,t,a,h,_=>by simp at h
 |j,u::r,0,d,t,a,h,G=>by
  simp only[List.getElem?_cons_zero,Option.some.injEq]at h;subst h;have :=(List.getElem?_eq_some_iff.1 G).1;simp only[uw,List.mem_append,za,List.mem_map,List.mem_range];exact .inl ⟨d,this,rfl⟩
 |j,u::r,i+1,d,t,a,h,G=>by
  have :=CL (j:=j+1) (p:=r) (i:=i) (by simpa using h) G;simp only[uw,List.mem_append];rw[show j+(i+1)=j+1+i by omega];exact .inr this
theorem sv{a b:Tree}(h1:p[i]?=some t)(h2:t.kids[d]?=some a)(G:a.kids=[b]):rR p i d=b:=by
 unfold rR;rw[Int.toNat_natCast,h1];simp only[Int.toNat_natCast,h2,G]
def oA(p:List Tree)(l:List (Int×Int)):Prop:=l.Nodup∧∀x∈l,x∈uw 0 p
theorem oK{l:List (Int×Int)}(h:oA p l):l.length≤kbulk p:=Nat.le_trans (De _ _ h.1 h.2) (CU 0 p)
theorem GU{p:List Tree}{M:Int}:∀{a:List (List Int×Tree)} {x:aA},x∈bx p M a↔∃q u,(q,u)∈a∧dP u=true∧x=tgK p M q u
 |[],x=>by simp[bx]
 | (q,u)::r,x=>by
  have ih:=GU (p:=p) (M:=M) (a:=r) (x:=x);simp only[bx,List.mem_append,ih];constructor
  ·rintro(h|⟨q',u',h1,h2,h3⟩)
   ·split at h
    ·rename_i hu;rw[List.mem_singleton]at h;exact⟨q,u,by simp,hu,h⟩
    ·cases h
   ·exact⟨q',u',by simp[h1],h2,h3⟩
  ·rintro⟨q',u',h1,h2,h3⟩;rcases List.mem_cons.1 h1 with h1|h1
   ·cases h1;exact .inl (by rw[if_pos h2];simp[h3])
   ·exact .inr ⟨q',u',h1,h2,h3⟩
theorem Bk{p:List Tree}:∀{i:Nat} {l:List Tree} {x:aA},x∈ku p i l↔∃j t q u,l[j]?=some t∧(q,u)∈nodK t []∧dP u=true∧x=tgK p ((i+j:Nat):Int) q u
 |i,[],x=>by simp[ku]
 | i,t::r,x=>by
  have ih:=Bk (p:=p) (i:=i+1) (l:=r) (x:=x);simp only[ku,List.mem_append,ih,GU];constructor
  ·rintro(⟨q,u,h1,h2,h3⟩|⟨j,t',q,u,h0,h1,h2,h3⟩)
   ·exact⟨0,t,q,u,rfl,h1,h2,h3⟩
   ·exact⟨j+1,t',q,u,by simpa using h0,h1,h2,by rw[h3];congr 2;omega⟩
  ·rintro⟨j,t',q,u,h0,h1,h2,h3⟩;cases j with
   |zero=>simp at h0;subst h0;exact .inl ⟨q,u,h1,h2,h3⟩
   |succ j=>exact .inr ⟨j,t',q,u,by simpa using h0,h1,h2,by rw[h3];congr 2;omega⟩
theorem CV{u:Tree}{x:List Int×Tree}:∀{l:List Tree} {q:List Int} {i j:Nat},l[j]?=some u→x∈nodK u (q++[((i+j:Nat):Int)])→x∈nodKs l q i
 |[],q,i,j,h,_=>by simp at h
 |t::r,q,i,0,h,hx=>by
  simp only[List.getElem?_cons_zero,Option.some.injEq]at h;subst h;simp only[nodKs,List.mem_append];exact .inl (by simpa using hx)
 |t::r,q,i,j+1,h,hx=>by
  simp only[nodKs,List.mem_append];refine .inr (CV (i:=i+1) (j:=j) (by simpa using h) ?_);rw[show i+1+j=i+(j+1) by omega];exact hx
theorem EO:∀(r:List Int) {t u:Tree} {q:List Int},atK t r=some u→(q++r,u)∈nodK t q
 |[],t,u,q,h=>by
  simp only[atK,Option.some.injEq]at h;subst h;rw[fG];simp
 | z::r,t,u,q,h=>by
  simp only[atK]at h;split at h
  ·cases h
  ·rename_i hz;cases hu:t.kids[z.toNat]? with
   |none=>rw[hu]at h;cases h
   |some v=>
    rw[hu]at h;have :=EO r (q:=q++[z]) h;rw[fG,List.mem_cons];refine .inr (CV (j:=z.toNat) hu ?_);rw[Nat.zero_add,show((z.toNat:Nat):Int)=z by omega];simpa using this
theorem Ov:∀t,tyK t→∃q,atK t q=some (leafK t):=dZ λt ih h=>by
 rcases ni h with⟨G,_,u,J,O⟩|⟨G,_⟩
 ·obtain⟨U,_⟩:=qU G J;obtain⟨q,Z⟩:=ih 0 u (by rw[J];rfl) O;exact⟨0::q,by simp[atK,J,Z,U]⟩
 ·exact⟨[],by rw[(jB G).1];rfl⟩
theorem Lj:∀t,tyK t→∀q u,atK t q=some u→dP u=true→u=leafK t:=dZ λt ih h q u hq hu=>by
 rcases ni h with⟨h8,_,v,hv,hty⟩|⟨h8,hk,_⟩
 ·obtain⟨e1,_⟩:=qU h8 hv;cases q with
  |nil=>
   simp only[atK,Option.some.injEq]at hq;subst hq;simp[dP,h8]at hu
  | cons z q=>
   simp only[atK,hv]at hq;split at hq
   ·cases hq
   ·cases hz:z.toNat with
    |zero=>
     rw[hz]at hq;simp only[List.getElem?_cons_zero]at hq;rw[e1];exact ih 0 v (by rw[hv];rfl) hty q u hq hu
    |succ n=>rw[hz]at hq;simp at hq
 ·rw[(jB h8).1];cases q with
  |nil=>simp only[atK,Option.some.injEq]at hq;exact hq.symm
  |cons z q=>
   simp only[atK,hk]at hq;split at hq<;>simp at hq
def fP (p:List Tree) (a:Int×Int):Option (Int×Int):=if 0≤a.1∧0≤a.2 then match p[a.1.toNat]? with
    |none=>none
    | some t=>match t.kids[a.2.toNat]? with
      |none=>none
      |some x=>if x.kind=3∧(leafK (rR p a.1 a.2)).kind=9∧(ba p a.1 (leafK (rR p a.1 a.2)).text).2.2=true then some ((ba p a.1 (leafK (rR p a.1 a.2)).text).1,(ba p a.1 (leafK (rR p a.1 a.2)).text).2.1)else none
  else none
theorem AF{x:Tree}(h1:p[i]?=some t)(h2:t.kids[d]?=some x)(G:x.kind=3):fP p ((i:Int),(d:Int))=if(leafK (rR p i d)).kind=9∧(ba p i (leafK (rR p i d)).text).2.2=true then some ((ba p i (leafK (rR p i d)).text).1,(ba p i (leafK (rR p i d)).text).2.1)else none:=by
 unfold fP;rw[if_pos ⟨Int.natCast_nonneg i,Int.natCast_nonneg d⟩];simp only[Int.toNat_natCast,h1,h2,G,true_and]
theorem ug{x:Tree}(hp:bi p=true)(h1:p[i]?=some t)(h2:t.kids[d]?=some x)(h3:x.kind=3):∃b,x.kids=[b]∧tyK b:=by
 obtain⟨g1,U⟩:=fw hp h1;have G:shapeK x=true:=by
  rw[cp]at U;simp only[Bool.and_eq_true]at U;exact(ej U.2 h2).2
 rw[cp,h3]at G;simp only[Bool.and_eq_true,decide_eq_true_eq]at G;have O:=G.1.1;have e:eK 3 x.kids.length=f0 x.kids.length 1 3 0 1:=rfl;rw[e]at O;have hn:x.kids.length=1:=by
  unfold f0 at O;split at O
  ·omega
  ·split at O
   ·omega
   ·omega
 match Z:x.kids,hn with
 |[b],_=>
  have J:=G.2;rw[Z]at J;simp only[shapeKs,Bool.and_eq_true]at J;exact⟨b,rfl,J.1.2,by have :=J.1.1;simpa[iX]using this⟩
def NB(p:List Tree)(x:aA):Bool:=!x.Free&&(match p[x.Use.Module.toNat]? with|none=>false|some t=>match t.kids[(x.Use.Path.getD 0 0).toNat]? with|none=>false|some a=>a.kind==3)
def fY(p:List Tree)(l:List ((Int×Int)×az))(x:aA):List ((Int×Int)×az):=
 if NB p x=true then bZ (x.Use.Module,x.Use.Path.getD 0 0) (az.mk x.Module x.Def) l else l
def fU(p:List Tree):List ((Int×Int)×az):=(bW p).foldl (fY p) []
theorem KS{x:aA}(hp:bi p=true)(h:x∈bW p):∃(i d:Nat) (t a u:Tree) (q:List Int),p[i]?=some t∧t.kids[d]?=some a∧x.Use.Module=(i:Int)∧x.Use.Path=(d:Int)::q∧atK a q=some u∧dP u=true∧x=tgK p (i:Int) ((d:Int)::q) u:=by
 unfold bW at h;rw[if_pos hp]at h;obtain⟨j,t,q,u,hj,hq,hu,rfl⟩:=Bk.1 h;rw[Nat.zero_add];have hat:=nodK_at t t [] rfl _ hq;simp only at hat;obtain⟨hk,_⟩:=fw hp hj;cases q with
 |nil=>
  simp only[atK,Option.some.injEq]at hat;subst hat;simp[dP,hk]at hu
 | cons z q=>
  simp only[atK]at hat;split at hat
  ·cases hat
  ·rename_i hz;cases ha:t.kids[z.toNat]? with
   |none=>rw[ha]at hat;cases hat
   |some a=>
    rw[ha]at hat;have e:((z.toNat:Nat):Int)=z:=by omega
    exact⟨j,z.toNat,t,a,u,q,hj,ha,rfl,by rw[e];rfl,hat,hu,by rw[e]⟩
variable{q:List Int}
theorem wn{x:aA}{a:Tree}(l:List ((Int×Int)×az))(h1:p[i]?=some t)(h2:t.kids[d]?=some a)(G:x.Use.Module=(i:Int))(J:x.Use.Path=(d:Int)::q):fY p l x=if x.Free=false∧a.kind=3 then bZ ((i:Int),(d:Int)) (az.mk x.Module x.Def) l else l:=by
 unfold fY NB;rw[G,J];simp only[List.getD_cons_zero,Int.toNat_natCast,h1,h2,beq_iff_eq,Bool.and_eq_true,Bool.not_eq_true']
theorem Bx {p:List Tree} (hp:bi p=true):∀(T:List aA) (l:List ((Int×Int)×az)),(∀x∈T,x∈bW p)→(∀k v,aI k l=some v→fP p k=some (v.module,v.def_))→∀k v,aI k (T.foldl (fY p) l)=some v→fP p k=some (v.module,v.def_)
 |[],l,_,hl,k,v,h=>hl k v h
 | x :: T,l,hT,hl,k,v,h=>by
  refine Bx hp T (fY p l x) (λy hy=>hT y (by simp[hy])) (λk v hkv=>?_) k v h;obtain⟨i,d,t,a,u,q,h1,h2,h3,h4,h5,h6,h7⟩:=KS hp (hT x (by simp));rw[wn l h1 h2 h3 h4]at hkv;split at hkv
  ·rename_i hc;rw[ja]at hkv;split at hkv
   ·rename_i hk;simp only[Option.some.injEq]at hkv;subst hkv hk;obtain⟨b,hb,hty⟩:=ug hp h1 h2 hc.2;have hlf:u=leafK b:=by
     cases q with
     |nil=>
      simp only[atK,Option.some.injEq]at h5;subst h5;have :=hc.2;simp[dP,this]at h6
     | cons z q=>
      simp only[atK,hb]at h5;split at h5
      ·cases h5
      ·cases hz:z.toNat with
       |zero=>
        rw[hz]at h5;simp only[List.getElem?_cons_zero]at h5;exact Lj b hty q u h5 h6
       |succ n=>rw[hz]at h5;simp at h5
    have hal:=sv h1 h2 hb;have hk9:(leafK b).kind=9:=by
     obtain⟨g1,g2,_⟩:=lU b hty;have :=g1.2;simp only[jr,Bool.and_eq_true,decide_eq_true_eq]at this;rw[hlf]at h6;simp only[dP,Bool.or_eq_true,beq_iff_eq]at h6;omega
    have hfr:=hc.1;rw[h7]at hfr⊢;simp only[tgK,Bool.not_eq_false']at hfr⊢;rw[AF h1 h2 hc.2,hal,←hlf,if_pos ⟨by rw[hlf];exact hk9,hfr⟩]
   ·exact hl k v hkv
  ·exact hl k v hkv
theorem CH{p:List Tree}(k:Int×Int):∀(T:List aA) (l:List ((Int×Int)×az)),aI k l≠none→aI k (T.foldl (fY p) l)≠none
 |[],l,h=>h
 | x::T,l,h=>by
  refine CH k T (fY p l x) ?_;unfold fY;split
  ·rw[ja];split
   ·simp
   ·exact h
  ·exact h
theorem Gc{p:List Tree}{k:Int×Int}{x:aA}(hx:∀l,aI k (fY p l x)≠none):∀(T:List aA) (l:List ((Int×Int)×az)),x∈T→aI k (T.foldl (fY p) l)≠none
 |[],l,h=>by cases h
 |y::T,l,h=>by
  rcases List.mem_cons.1 h with rfl|h
  ·exact CH k T _ (hx l)
  ·exact Gc hx T _ h
theorem Cg {p:List Tree} (hp:bi p=true) (k:Int×Int):(aI k (fU p)).map (λv=>(v.module,v.def_))=fP p k:=by
 have hs:=Bx hp (bW p) [] (λ_ h=>h) (λk v h=>by cases h) k;cases hm:aI k (fU p)with
 |some v=>rw[hs v hm];rfl
 | none =>
  rw[Option.map_none];cases hn:fP p k with
  |none=>rfl
  | some v=>
   exfalso;have hn':=hn;unfold fP at hn;split at hn
   ·rename_i h0;cases h1:p[k.1.toNat]? with
    |none=>rw[h1]at hn;cases hn
    | some t=>
     cases h2:t.kids[k.2.toNat]? with
     |none=>rw[h1]at hn;simp only[h2]at hn;cases hn
     | some a=>
      rw[h1]at hn;simp only[h2]at hn;split at hn
      ·rename_i hc;obtain⟨b,hb,hty⟩:=ug hp h1 h2 hc.1;have e1:((k.1.toNat:Nat):Int)=k.1:=by omega
       have e2:((k.2.toNat:Nat):Int)=k.2:=by omega
       have hal:=sv h1 h2 hb;rw[e1,e2]at hal;rw[hal]at hc;obtain⟨q,hq⟩:=Ov b hty;have hat:atK t (k.2::0::q)=some (leafK b):=by
        simp[atK,h2,hb,hq,show¬k.2<0 by omega]
       have hx:tgK p k.1 (k.2::0::q) (leafK b)∈bW p:=by
        unfold bW;rw[if_pos hp];exact Bk.2 ⟨k.1.toNat,t,_,_,h1,by simpa using EO _ (q:=[]) hat,by simp[dP,hc.2.1],by rw[Nat.zero_add,e1]⟩
       refine Gc (k:=k) (λl=>?_) (bW p) [] hx hm;rw[wn (i:=k.1.toNat) (d:=k.2.toNat) (q:=0::q) l h1 h2 (by rw[e1];rfl) (by rw[e2];rfl),if_pos ⟨by simp[tgK,hc.2.2],hc.1⟩,ja,if_pos (by rw[e1,e2])];simp
      ·cases hn
   ·cases hn
def iZ{α:Type}(f:α→Nat):List α→Nat
 |[]=>0
 |x::r=>f x+iZ f r
theorem Fg{α:Type}(f:α→Nat):∀a b:List α,iZ f (a++b)=iZ f a+iZ f b
 |[],b=>by simp[iZ]
 |x::a,b=>by simp only[List.cons_append,iZ,Fg f a b];omega
theorem Bs{α:Type}[BEq α][LawfulBEq α](f:α→Nat){x:α}:∀{m:List α},x∈m→iZ f m=f x+iZ f (m.erase x)
 |[],h=>by cases h
 | y::m,h=>by
  rw[List.erase_cons];split
  ·rename_i e;rw[eq_of_beq e];rfl
  ·rename_i e;rcases List.mem_cons.1 h with rfl|h
   ·simp at e
   ·simp only[iZ,Bs f h];omega
theorem Ef{α:Type}[BEq α][LawfulBEq α](f:α→Nat):∀(l m:List α),l.Nodup→(∀x∈l,x∈m)→iZ f l≤iZ f m
 |[],m,_,_=>Nat.zero_le _
 |x::l,m,G,hs=>by
  obtain⟨h1,h2⟩:=List.nodup_cons.1 G;rw[Bs f (hs x (by simp)),iZ];have :=Ef f l (m.erase x) h2 λy hy=>(List.mem_erase_of_ne (λ(e:y=x)=>h1 (by rw[←e];exact hy))).2 (hs y (by simp[hy]));omega
def tG(p:List Tree)(k:Int×Int):Nat:=lisK (rR p k.1 k.2)
theorem Jj{P:List Tree}{j:Nat}(h:P[j]?=some t):iZ (tG P) (za j t.kids)≤kbulk t.kids:=by
 have go:∀(l:List Tree) (k:Nat),t.kids.drop k=l→iZ (tG P) ((List.range' k l.length).map λ(d:Nat)=>((j:Int),(d:Int)))≤kbulk l:=λl=>by
  induction l with
  |nil=>intro k _;exact Nat.zero_le _
  | cons x r ih=>
   intro k hk;have hx:t.kids[k]?=some x:=by
    have :(t.kids.drop k)[0]?=some x:=by rw[hk];rfl
    simpa using this
   have hr:t.kids.drop (k+1)=r:=by
    have :(t.kids.drop k).drop 1=r:=by rw[hk];rfl
    simpa[List.drop_drop]using this
   have :=ih (k+1) hr;simp only[List.length_cons,List.range'_succ,List.map_cons,iZ,kbulk];have e:tG P ((j:Int),(k:Int))≤tbulk x:=by
    unfold tG rR;simp only[Int.toNat_natCast,h,hx];cases hxk:x.kids with
    |nil=>
     have :lisK sX=0:=by unfold sX;rw[lisK,if_neg (by decide)]
     simp only[this];omega
    |cons b _=>
     simp only[];have :=(kL b).2;have :=aF (t:=x) (i:=0) (u:=b) (by rw[hxk];rfl);omega
   omega
 have :=go t.kids 0 rfl;unfold za;rw[List.range_eq_range'];exact this
theorem Ed(P:List Tree):∀(j:Nat) (r:List Tree),(∀i,P[j+i]?=r[i]?)→iZ (tG P) (uw j r)≤kbulk r
 |j,[],_=>Nat.zero_le _
 |j,t::r,h=>by
  have G:P[j]?=some t:=by have :=h 0;simpa using this
  have :=Jj G;have :=Ed P (j+1) r λi=>by have :=h (i+1);rw[show j+1+i=j+(i+1) by omega];simpa using this
  have :=aV t;simp only[uw,Fg,kbulk];omega
theorem Ar{l:List (Int×Int)}(h:oA p l):iZ (tG p) l≤kbulk p:=Nat.le_trans (Ef _ _ _ h.1 h.2) (Ed p 0 p (λi=>by simp))
theorem AP(t:Tree):∀n,cb n (.node 8 [] [] [t])=.node 8 [] [] [cb n t]
 |0=>rfl
 |n+1=>by simp only[cb,AP t n]
theorem Cd(ht:tyK t)(hb:tbulk t≤1000000000):qq t (leafK t) (lisK t):=by
 have loop:∀t,tyK t→∀i,i+tbulk t≤2000000000→oQ (lisK t+1) t i (leafK t) ((i+lisK t:Nat):Int):=dZ λt ih h i hi=>by
  rcases ni h with⟨G,_,u,hu,J⟩|⟨G,hk,_⟩
  ·obtain⟨O,U⟩:=qU G hu;have Z:t.kids[0]?=some u:=by rw[hu];rfl
   have :=aF Z;rw[O,U];refine vP _ _ _ _ _ ⟨λ_=>⟨u,Z,by omega,?_⟩,λh=>absurd G h⟩;rw[show i+(lisK u+1)=i+1+lisK u by omega];exact ih 0 u Z J (i+1) (by omega)
  ·obtain⟨O,U⟩:=jB G;rw[O,U];exact vP _ _ _ _ _ ⟨λh=>absurd h G,λ_=>⟨rfl,rfl⟩⟩
 have :=loop t ht 0 (by omega);rw[Nat.zero_add]at this;exact Cm _ _ _ _ this
theorem mG(p:List Tree)(hp:kbulk p≤1000000000):nW p (bi p):=by
 have hl:=gw p;have loop:∀m i,p.length-i≤m→my (m+1) p i (bi (p.drop i)):=λm=>by
  induction m with
  |zero=>
   intro i hi;refine tV 0 _ _ _ ⟨λh=>by omega,λh=>?_⟩;rw[List.drop_of_length_le (by omega),bi]
  | succ m ihm=>
   intro i hi;refine tV (m+1) _ _ _ ⟨λh=>?_,λh=>?_⟩
   ·obtain⟨u,hu,_⟩|h':=be p i
    ·rw[aU hu,bi];have :=bt hu;refine⟨u,hu,λh1=>by simp[h1],λh1=>⟨_,sx u (by omega),λh2=>by simp[h1,h2],λh2=>⟨by omega,?_⟩⟩⟩;simp only[h1,h2,beq_self_eq_true,Bool.true_and];exact ihm (i+1) (by omega)
    ·exact absurd h h'
   ·rw[List.drop_of_length_le (by omega),bi]
 exact An _ _ _ (loop p.length 0 (by omega))
theorem Dx(p:List Tree):(bW p).length≤kbulk p:=by
 unfold bW;split
 ·exact CG p 0 p
 ·exact Nat.zero_le _
theorem Di(hp:bi p=true)(hb:kbulk p≤100000000):nU p (fU p):=by
 have hl:=Dx p;have hu:∀x∈bW p,_:=λx hx=>KS hp hx;obtain⟨T,hT⟩:∃T,T=bW p:=⟨_,rfl⟩;have loop:∀m i l,T.length-i≤m→hO (m+1) p T l i ((T.drop i).foldl (fY p) l):=λm=>by
  induction m with
  |zero=>
   intro i l hi;refine tZ 0 _ _ _ _ _ ⟨λh=>by omega,λh=>?_⟩;rw[List.drop_of_length_le (by omega)];rfl
  | succ m ihm=>
   intro i l hi;refine tZ (m+1) _ _ _ _ _ ⟨λh=>?_,λh=>?_⟩
   ·obtain⟨x,hx,_⟩|h':=be T i
    ·rw[aU hx,List.foldl_cons];obtain⟨j,d,t,a,u,q,h1,h2,h3,h4,h5,h6,h7⟩:=hu x (hT▸List.mem_of_getElem? hx);have hs:=wn l h1 h2 h3 h4;rw[←hT]at hl;refine⟨x,hx,(d:Int),by rw[h4];rfl,λhf=>⟨j,h3,t,h1,d,rfl,a,h2,λh3'=>⟨by omega,?_⟩,λh3'=>⟨by omega,?_⟩⟩,λhf=>⟨by omega,?_⟩⟩
     ·have :=ihm (i+1) (fY p l x) (by omega);rw[hs,if_pos ⟨hf,h3'⟩]at this⊢;rw[h3];exact this
     ·have :=ihm (i+1) (fY p l x) (by omega);rw[hs,if_neg (λhc=>h3' hc.2)]at this⊢;exact this
     ·have :=ihm (i+1) (fY p l x) (by omega);rw[hs,if_neg (λhc=>by rw[hf]at hc;cases hc.1)]at this⊢;exact this
    ·exact absurd h h'
   ·rw[List.drop_of_length_le (by omega)];rfl
 refine Bi (T.length+1) _ _ ⟨T,hT▸Dk p hb,?_⟩;have :=loop T.length 0 [] (by omega);rw[List.drop_zero,hT]at this;rw[hT];exact this
theorem Kg{M:Int}{w:List UInt8}(G:bi p=true)(J:0≤M)(h1:M<p.length)(hb:kbulk p≤100000000)(O:w.length≤1000000000):tL p M w (ba p M w).1 (ba p M w).2.1 (ba p M w).2.2:=
 rS_link_Lookup 0 _ _ _ _ _ _ ⟨_,CK p (by omega),λh=>(by rw[G]at h;cases h),λh=>⟨_,_,_,FH J h1 (by omega) O,rfl,rfl,rfl⟩⟩
theorem FY:∀(k:Nat) (z:Int) (ks:List Tree) (i:Nat),i+k≤1000000000→kH (k+1) z ks i ((i+k:Nat):Int) (cb k (.node z [] [] ks)) 0
 |0,z,ks,i,h=>uF 0 _ _ _ _ _ _ ⟨λh=>by omega,λ_=>⟨rfl,rfl⟩⟩
 |k+1,z,ks,i,h=>by
  have :=FY k 8 [.node z [] [] ks] (i+1) (by omega);rw[AP,show i+1+k=i+(k+1) by omega]at this;exact uF (k+1) _ _ _ _ _ _ ⟨λ_=>⟨by omega,this⟩,λh=>by omega⟩
theorem BY{seen:List (Int×Int)}{l:List ((Int×Int)×Bool)}(h:∀k,aI k l=if k∈seen then some true else none)(a:Int×Int):∀k,aI k (bZ a true l)=if k∈a::seen then some true else none:=λk=>by
 rw[ja,h k];by_cases e:k=a
 ·rw[if_pos e,if_pos (by simp[e])]
 ·rw[if_neg e];by_cases G:k∈seen
  ·rw[if_pos G,if_pos (by simp[G])]
  ·rw[if_neg G,if_neg (by simp[e,G])]
theorem nj{seen:List (Int×Int)}{a:Tree}(h:oA p seen)(h1:p[i]?=some t)(h2:t.kids[d]?=some a)(G:((i:Int),(d:Int))∉seen):oA p (((i:Int),(d:Int))::seen):=
 ⟨List.nodup_cons.2 ⟨G,h.1⟩,λx hx=>by
  rcases List.mem_cons.1 hx with rfl|hx
  ·have :=CL (j:=0) h1 h2;simpa using this
  ·exact h.2 x hx⟩
theorem Nz{p:List Tree}(hp:bi p=true)(hb:kbulk p≤10000000):∀(f:Nat) (seen:List (Int×Int)) (n:Nat) (M:Int) (u:Tree) (b:Bool) (a1 a2:Int) (l:List ((Int×Int)×Bool)),oA p seen→kbulk p+1≤f+seen.length→tyK u→u.kind≠8→n≤10000000+iZ (tG p) seen→(∀k,aI k l=if k∈seen then some true else none)→(u.kind=9→b=(ba p M u.text).2.2∧(b=true→a1=(ba p M u.text).1∧a2=(ba p M u.text).2.1))→∃m,eO m p (fU p) u n b a1 a2 l (dO p f seen n M u).1 (dO p f seen n M u).2
 |0,seen,n,M,u,b,a1,a2,l,hs,hf,_,_,_,_,_=>by
  have :=oK hs;omega
 | f + 1,seen,n,M,u,b,a1,a2,l,hs,hf,hu,h8,hn,hl,hq=>by
  have hss:=Ar hs;by_cases h9:u.kind=9
  ·obtain⟨q1,q2⟩:=hq h9;rw[dO,if_pos h9];by_cases hfd:(ba p M u.text).2.2=false
   ·rw[if_pos hfd];rw[hfd]at q1;exact⟨1,mQ 0 _ _ _ _ _ _ _ _ _ _ ⟨λ_=>⟨λ_=>⟨rfl,rfl⟩,λh=>(by rw[q1]at h;cases h)⟩,λh=>absurd h9 h⟩⟩
   ·rw [if_neg hfd];have hfd':(ba p M u.text).2.2=true:=by simpa using hfd
    rw[hfd']at q1;obtain⟨e1,e2⟩:=q2 q1;subst q1;obtain⟨i,d,t,a,b',g1,g2,g3,g4,g5,g6,g7⟩:=rW hp h9 hu.1 hfd';rw[g1]at e1⊢;rw[g2]at e2⊢;subst e1 e2;by_cases hm:((i:Int),(d:Int))∈seen
    ·rw[if_pos hm];have hlk:=hl ((i:Int),(d:Int));rw[if_pos hm]at hlk;exact⟨1,mQ 0 _ _ _ _ _ _ _ _ _ _ ⟨λ_=>⟨λh=>(by cases h),λ_=>⟨λh=>(by rw[hlk]at h;cases h),λd1 h=>⟨λ_=>⟨rfl,rfl⟩,λh'=>(by rw[hlk]at h;cases h;cases h')⟩⟩⟩,λh=>absurd h9 h⟩⟩
    ·rw[if_neg hm];have hlk:=hl ((i:Int),(d:Int));rw[if_neg hm]at hlk;have hal:=sv g3 g4 g6;rw[hal];obtain⟨t1,t2,_⟩:=lU b' g7;have hs':=nj hs g3 g4 hm;have hl':=BY hl ((i:Int),(d:Int));have hsum:iZ (tG p) (((i:Int),(d:Int))::seen)=lisK b'+iZ (tG p) seen:=by simp only[iZ,tG,hal]
     have hss':=Ar hs';have hbb:tbulk b'≤1000000000:=by
      have :=bt g3;have :=aF g4;have :=aF (t:=a) (i:=0) (u:=b') (by rw[g6];rfl);omega
     have hlo:=Cg hp ((i:Int),(d:Int));rw[AF g3 g4 g5,hal]at hlo;have step:∀m,((aI ((i:Int),(d:Int)) (fU p)=none)→eO m p (fU p) (leafK b') ((n:Int)+(lisK b':Nat)) false 0 0 (bZ ((i:Int),(d:Int)) true l) (dO p f (((i:Int),(d:Int))::seen) (n+lisK b') i (leafK b')).1 (dO p f (((i:Int),(d:Int))::seen) (n+lisK b') i (leafK b')).2)∧(∀(d3:az),aI ((i:Int),(d:Int)) (fU p)=some d3→eO m p (fU p) (leafK b') ((n:Int)+(lisK b':Nat)) true d3.module d3.def_ (bZ ((i:Int),(d:Int)) true l) (dO p f (((i:Int),(d:Int))::seen) (n+lisK b') i (leafK b')).1 (dO p f (((i:Int),(d:Int))::seen) (n+lisK b') i (leafK b')).2)→∃m,eO m p (fU p) u n true i d l (dO p f (((i:Int),(d:Int))::seen) (n+lisK b') i (leafK b')).1 (dO p f (((i:Int),(d:Int))::seen) (n+lisK b') i (leafK b')).2:=λm hk=>by
      have h2:nL (m+1) p (fU p) u n i d l (dO p f (((i:Int),(d:Int))::seen) (n+lisK b') i (leafK b')).1 (dO p f (((i:Int),(d:Int))::seen) (n+lisK b') i (leafK b')).2:=
       rL2_types_Expand m _ _ _ _ _ _ _ _ _ ⟨i,rfl,t,g3,d,rfl,a,g4,b',by rw[g6];rfl,leafK b',_,Cd g7 hbb,by unfold InI;omega,hk.1,hk.2⟩
      exact⟨m+2,mQ (m+1) _ _ _ _ _ _ _ _ _ _ ⟨λ_=>⟨λh=>(by cases h),λ_=>⟨λ_=>h2,λd1 h=>⟨λ_=>(by rw[hlk]at h;cases h),λ_=>(by rw[hlk]at h;cases h)⟩⟩⟩,λh=>absurd h9 h⟩⟩
     have ih:=λ(b:Bool) (a1 a2:Int)=>Nz hp hb f (((i:Int),(d:Int))::seen) (n+lisK b') i (leafK b') b a1 a2 _ hs' (by simp only[List.length_cons];omega) t1 t2 (by omega) hl';rw[show(n:Int)+((lisK b':Nat):Int)=((n+lisK b':Nat):Int) by omega]at step;cases hmm:aI ((i:Int),(d:Int)) (fU p)with
     | none=>
      rw[hmm]at hlo;obtain⟨m,hm⟩:=ih false 0 0 (λh9'=>⟨(by
       cases hx:(ba p (i:Int) (leafK b').text).2.2 with
       |false=>rfl
       |true=>(rw[if_pos ⟨h9',hx⟩]at hlo;cases hlo)),λh=>(by cases h)⟩)
      rw[hmm]at step;exact step m ⟨λ_=>hm,λd3 h=>(by cases h)⟩
     | some v=>
      rw[hmm]at hlo;simp only[Option.map_some]at hlo;split at hlo
      ·rename_i hc;simp only[Option.some.injEq,Prod.mk.injEq]at hlo;obtain⟨m,hm⟩:=ih true v.module v.def_ (λ_=>⟨hc.2.symm,λ_=>hlo⟩);rw[hmm]at step;exact step m ⟨λh=>(by cases h),λd3 h=>(by cases h;exact hm)⟩
      ·cases hlo
  ·rw[dO,if_neg h9];have :=FY n u.kind [] 0 (by omega);rw[Nat.zero_add]at this;exact⟨n+2,mQ (n+1) _ _ _ _ _ _ _ _ _ _ ⟨λh=>absurd h h9,λ_=>this⟩⟩
def oN(p:List Tree)(M:Int)(t:Tree):Tree×Int:=if bi p=true∧0≤M∧M<p.length∧jr t.kind=true∧shapeK t=true then dO p (kbulk p+1) [] (lisK t) M (leafK t)else(sX,5)
theorem Ms(hb:kbulk p≤10000000)(M:Int)(ht:tbulk t≤10000000):sI p M t (oN p M t).1 (oN p M t).2:=by
 by_cases G:bi p=true∧0≤M∧M<p.length∧jr t.kind=true∧shapeK t=true
 ·have J:tyK t:=⟨G.2.2.2.2,G.2.2.2.1⟩;have hk:5≤t.kind∧t.kind≤9:=by simpa[jr]using G.2.2.2.1
  obtain⟨Z,t2,_⟩:=lU t J;obtain⟨b1,b2⟩:=kL t;have hlx:=cx (leafK t);rw[oN,if_pos G];have O:oA p []:=⟨List.nodup_nil,λx h=>(by cases h)⟩;by_cases U:(leafK t).kind=9
  ·obtain⟨m,hm⟩:=Nz G.1 hb (kbulk p+1) [] (lisK t) M (leafK t) (ba p M (leafK t).text).2.2 (ba p M (leafK t).text).1 (ba p M (leafK t).text).2.1 [] O (by simp) Z t2 (by omega) (λk=>by simp[aI]) (λ_=>⟨rfl,λ_=>⟨rfl,rfl⟩⟩);exact rZ m _ _ _ _ _ ⟨_,mG p (by omega),λh=>(by rw[G.1]at h;cases h),λ_=>⟨λh=>by omega,λ_=>⟨λh=>by omega,λ_=>⟨λh=>by omega,λ_=>⟨λh=>by omega,λ_=>⟨_,sx t (by omega),λh=>(by rw[G.2.2.2.2]at h;cases h),λ_=>⟨leafK t,_,Cd J (by omega),λ_=>⟨_,_,_,Kg G.1 G.2.1 G.2.2.1 (by omega) (by omega),_,Di G.1 (by omega),hm⟩,λh=>absurd U h⟩⟩⟩⟩⟩⟩⟩
  ·have :=FY (lisK t) (leafK t).kind [] 0 (by omega);rw[Nat.zero_add]at this;rw[dO,if_neg U];exact rZ (lisK t+1) _ _ _ _ _ ⟨_,mG p (by omega),λh=>(by rw[G.1]at h;cases h),λ_=>⟨λh=>by omega,λ_=>⟨λh=>by omega,λ_=>⟨λh=>by omega,λ_=>⟨λh=>by omega,λ_=>⟨_,sx t (by omega),λh=>(by rw[G.2.2.2.2]at h;cases h),λ_=>⟨leafK t,_,Cd J (by omega),λh=>absurd h U,λ_=>this⟩⟩⟩⟩⟩⟩⟩
 ·rw[oN,if_neg G];refine rZ 0 _ _ _ _ _ ⟨_,mG p (by omega),λ_=>⟨rfl,rfl⟩,λh1=>⟨λ_=>⟨rfl,rfl⟩,λh2=>⟨λ_=>⟨rfl,rfl⟩,λh3=>⟨λ_=>⟨rfl,rfl⟩,λh4=>⟨λ_=>⟨rfl,rfl⟩,λh5=>⟨_,sx t (by omega),λ_=>⟨rfl,rfl⟩,λh6=>absurd ⟨h1,by omega,by omega,?_,h6⟩ G⟩⟩⟩⟩⟩⟩;simp[jr];omega
def kB(p:List Tree)(s:Int×Int):Nat→List (Int×Int)→Option (Int×Int)→Bool
 |0,_,_=>false
 |_+1,_,none=>false
 |f+1,seen,some a=>if a=s then true else if a∈seen then false else kB p s f (a::seen) (fP p a)
theorem KD{k a:Int×Int}(h:fP p k=some a):∃(i d:Nat) (t x:Tree),a=((i:Int),(d:Int))∧p[i]?=some t∧t.kids[d]?=some x:=by
 unfold fP at h;split at h
 ·split at h
  ·cases h
  ·split at h
   ·cases h
   ·split at h
    ·rename_i G;simp only[Option.some.injEq]at h;obtain⟨i,d,t,u,a1,J,O,U⟩:=MO G.2.2;exact⟨i,d,t,u,by rw[←h,a1,J],O,U⟩
    ·cases h
 ·cases h
theorem LI{p:List Tree}(hp:bi p=true)(hb:kbulk p≤10000000)(s1 s2:Int):∀(f:Nat) (seen:List (Int×Int)) (k:Int×Int) (b:Bool) (a1 a2:Int) (l:List ((Int×Int)×Bool)),oA p seen→kbulk p+1≤f+seen.length→(s1,s2)∉seen→(∀k,aI k l=if k∈seen then some true else none)→(if b then some (a1,a2)else none)=fP p k→∃m,cr m s1 s2 (fU p) a1 a2 b l (kB p (s1,s2) f seen (fP p k))
 |0,seen,k,b,a1,a2,l,hs,hf,_,_,_=>by
  have :=oK hs;omega
 | f +1,seen,k,b,a1,a2,l,hs,hf,hns,hl,hq=>by
  cases b with
  |false=>
   simp at hq;rw[←hq,kB];exact⟨1,kA 0 _ _ _ _ _ _ _ _ ⟨λh=>(by cases h),λ_=>rfl⟩⟩
  | true=>
   simp at hq;obtain⟨i,d,t,x,e,g3,g4⟩:=KD hq.symm;cases e;rw[←hq,kB];have hlk:=hl ((i:Int),(d:Int));by_cases hm:((i:Int),(d:Int))∈seen
   ·rw[if_pos hm]at hlk;rw[if_neg (λ(e:((i:Int),(d:Int))=(s1,s2))=>hns (by rw[←e];exact hm)),if_pos hm];exact⟨1,kA 0 _ _ _ _ _ _ _ _ ⟨λ_=>⟨λh=>(by rw[hlk]at h;cases h),λd1 h=>⟨λh'=>(by rw[hlk]at h;cases h;cases h'),λ_=>rfl⟩⟩,λh=>(by cases h)⟩⟩
   ·rw[if_neg hm]at hlk;by_cases hst:((i:Int),(d:Int))=(s1,s2)
    ·rw[if_pos hst];have h1:ly 1 s1 s2 (fU p) i d l true:=tn 0 _ _ _ _ _ _ _ ⟨λ_=>rfl,λh=>absurd (Prod.mk.inj hst) h⟩;exact⟨2,kA 1 _ _ _ _ _ _ _ _ ⟨λ_=>⟨λ_=>h1,λd1 h=>(by rw[hlk]at h;cases h)⟩,λh=>(by cases h)⟩⟩
    ·rw[if_neg hst,if_neg hm];have hst':¬((i:Int)=s1∧(d:Int)=s2):=λh=>hst (by rw[h.1,h.2]);have hs':=nj hs g3 g4 hm;have hl':=BY hl ((i:Int),(d:Int));have hlo:=Cg hp ((i:Int),(d:Int));have ih:=λ(b:Bool) (a1 a2:Int)=>LI hp hb s1 s2 f (((i:Int),(d:Int))::seen) ((i:Int),(d:Int)) b a1 a2 _ hs' (by simp only[List.length_cons];omega) (λh=>by
      rcases List.mem_cons.1 h with h|h
      ·exact hst h.symm
      ·exact hns h) hl'
     have fin:∀m,((aI ((i:Int),(d:Int)) (fU p)=none)→cr m s1 s2 (fU p) 0 0 false (bZ ((i:Int),(d:Int)) true l) (kB p (s1,s2) f (((i:Int),(d:Int))::seen) (fP p ((i:Int),(d:Int)))))∧(∀(d2:az),aI ((i:Int),(d:Int)) (fU p)=some d2→cr m s1 s2 (fU p) d2.module d2.def_ true (bZ ((i:Int),(d:Int)) true l) (kB p (s1,s2) f (((i:Int),(d:Int))::seen) (fP p ((i:Int),(d:Int)))))→∃m,cr m s1 s2 (fU p) i d true l (kB p (s1,s2) f (((i:Int),(d:Int))::seen) (fP p ((i:Int),(d:Int)))):=λm hk=>
      ⟨m+2,kA (m+1) _ _ _ _ _ _ _ _ ⟨λ_=>⟨λ_=>tn m _ _ _ _ _ _ _ ⟨λh=>absurd h hst',λ_=>hk⟩,λd1 h=>(by rw[hlk]at h;cases h)⟩,λh=>(by cases h)⟩⟩
     cases hmm:aI ((i:Int),(d:Int)) (fU p)with
     |none=>
      rw[hmm]at hlo fin;obtain⟨m,hm⟩:=ih false 0 0 (by rw[←hlo];rfl);exact fin m ⟨λ_=>hm,λd3 h=>(by cases h)⟩
     |some v=>
      rw[hmm]at hlo fin;obtain⟨m,hm⟩:=ih true v.module v.def_ (by rw[←hlo];rfl);exact fin m ⟨λh=>(by cases h),λd3 h=>(by cases h;exact hm)⟩
def hZ(p:List Tree)(M D:Int):Bool:=if bi p=true∧0≤M∧0≤D then kB p (M,D) (kbulk p+1) [] (fP p (M,D))else false
theorem GL(hb:kbulk p≤10000000)(M D:Int):mB p M D (hZ p M D):=by
 have nn:(∀t x,0≤M→0≤D→p[M.toNat]?=some t→t.kids[D.toNat]?=some x→False)→hZ p M D=false:=λh=>by
  unfold hZ;split
  ·rename_i hc;have :fP p (M,D)=none:=by
    unfold fP;rw[if_pos ⟨hc.2.1,hc.2.2⟩];split
    ·rfl
    ·rename_i t ht;split
     ·rfl
     ·rename_i x hx;exact(h t x hc.2.1 hc.2.2 ht hx).elim
   rw[this,kB]
  ·rfl
 have hlen:=λ(t:Tree) (ht:p[M.toNat]?=some t)=>(List.getElem?_eq_some_iff.1 ht).1;by_cases hp:bi p=true
 ·by_cases h0:M<0
  ·rw[nn λ_ _ h _ _ _=>by omega];exact rS_types_Circular 0 _ _ _ _ ⟨_,mG p (by omega),λ_=>rfl,λ_=>⟨λ_=>rfl,λh=>absurd h0 h⟩⟩
  by_cases h1:((p.length:Nat):Int)≤M
  ·rw[nn λt _ _ _ ht _=>by have :=hlen t ht;omega];exact rS_types_Circular 0 _ _ _ _ ⟨_,mG p (by omega),λ_=>rfl,λ_=>⟨λ_=>rfl,λ_=>⟨λ_=>rfl,λh=>absurd h1 h⟩⟩⟩
  by_cases h2:D<0
  ·rw[nn λ_ _ _ h _ _=>by omega];exact rS_types_Circular 0 _ _ _ _ ⟨_,mG p (by omega),λ_=>rfl,λ_=>⟨λ_=>rfl,λ_=>⟨λ_=>rfl,λ_=>⟨λ_=>rfl,λh=>absurd h2 h⟩⟩⟩⟩
  obtain⟨t,ht,_⟩|h':=be p M.toNat
  ·by_cases h3:((t.kids.length:Nat):Int)≤D
   ·rw[nn λt' x _ _ ht' hx=>by
     rw[ht]at ht';cases ht';have :=(List.getElem?_eq_some_iff.1 hx).1;omega]
    exact rS_types_Circular 0 _ _ _ _ ⟨_,mG p (by omega),λ_=>rfl,λ_=>⟨λ_=>rfl,λ_=>⟨λ_=>rfl,λ_=>⟨λ_=>rfl,λ_=>⟨M.toNat,by omega,t,ht,λ_=>rfl,λh=>absurd h3 h⟩⟩⟩⟩⟩
   ·rw[hZ,if_pos ⟨hp,by omega,by omega⟩];have hlo:=Cg hp (M,D);have hc:=λ(b:Bool) (a1 a2:Int)=>LI hp hb M D (kbulk p+1) [] (M,D) b a1 a2 [] ⟨List.nodup_nil,λx h=>(by cases h)⟩ (by simp) (by simp) (λk=>by simp[aI]);have fin:∀m,((aI (M,D) (fU p)=none)→cr m M D (fU p) 0 0 false [] (kB p (M,D) (kbulk p+1) [] (fP p (M,D))))∧(∀(d2:az),aI (M,D) (fU p)=some d2→cr m M D (fU p) d2.module d2.def_ true [] (kB p (M,D) (kbulk p+1) [] (fP p (M,D))))→mB p M D (kB p (M,D) (kbulk p+1) [] (fP p (M,D))):=λm hk=>
     rS_types_Circular m _ _ _ _ ⟨_,mG p (by omega),λh=>(by rw[hp]at h;cases h),λ_=>⟨λh=>absurd h h0,λ_=>⟨λh=>absurd h h1,λ_=>⟨λh=>absurd h h2,λ_=>⟨M.toNat,by omega,t,ht,λh=>absurd h h3,λ_=>⟨_,Di hp (by omega),hk⟩⟩⟩⟩⟩⟩
    cases hmm:aI (M,D) (fU p)with
    |none=>
     rw[hmm]at hlo fin;obtain⟨m,hm⟩:=hc false 0 0 (by rw[←hlo];rfl);exact fin m ⟨λ_=>hm,λd3 h=>(by cases h)⟩
    |some v=>
     rw[hmm]at hlo fin;obtain⟨m,hm⟩:=hc true v.module v.def_ (by rw[←hlo];rfl);exact fin m ⟨λh=>(by cases h),λd3 h=>(by cases h;exact hm)⟩
  ·omega
 ·have hp':bi p=false:=by simpa using hp
  rw[hZ,if_neg (λh=>hp h.1)];exact rS_types_Circular 0 _ _ _ _ ⟨_,mG p (by omega),λ_=>rfl,λh=>absurd h hp⟩
theorem vO(t:Tree):∀n m,cb n (cb m t)=cb (n+m) t
 |0,m=>by rw[cb,Nat.zero_add]
 |n+1,m=>by rw[cb,vO t n m,show n+1+m=n+m+1 by omega,cb]
theorem NX:∀t,tyK t→fH t (leafK t):=λt ht=>by
 have loop:∀t,tyK t→gO (lisK t+1) t (leafK t):=dZ λt ih h=>by
  rcases ni h with⟨G,_,u,Z,J⟩|⟨G,hk,_⟩
  ·obtain⟨O,U⟩:=qU G Z;have h0:t.kids[0]?=some u:=by rw[Z];rfl
   rw[O,U];exact jn _ _ _ ⟨λ_=>⟨u,h0,ih 0 u h0 J⟩,λh=>absurd G h⟩
  ·obtain⟨O,U⟩:=jB G;rw[O,U];exact jn _ _ _ ⟨λh=>absurd h G,λ_=>rfl⟩
 exact sm _ _ _ (loop t ht)
theorem Ou(G:u.kind≠8)(n:Nat):fH (cb n u) u:=by
 have loop:∀n,gO (n+1) (cb n u) u:=λn=>by
  induction n with
  |zero=>exact jn _ _ _ ⟨λh=>absurd h G,λ_=>rfl⟩
  |succ n ih=>exact jn _ _ _ ⟨λ_=>⟨cb n u,rfl,ih⟩,λh=>absurd rfl h⟩
 exact sm _ _ _ (loop n)
theorem Qx{u v:Tree}(G:u.kind≠8):∀n,mM (cb n u) v (cb n v)
 |0=>tX 0 _ _ _ ⟨λ_=>rfl,λh=>absurd h G⟩
 |n+1=>tX 0 _ _ _ ⟨λh=>absurd rfl h,λ_=>⟨cb n u,rfl,_,Qx G n,rfl⟩⟩
theorem Nw(l:List (Int×Int))(x:Int×Int):lC l x (decide (x∈l)):=by
 have loop:∀m i,l.length-i≤m→kx (m+1) l x i (decide (x∈l.drop i)):=λm=>by
  induction m with
  |zero=>
   intro i hi;refine sn 0 _ _ _ _ ⟨λh=>by omega,λh=>?_⟩;rw[List.drop_of_length_le (by omega)];simp
  | succ m ihm=>
   intro i hi;refine sn (m+1) _ _ _ _ ⟨λh=>?_,λh=>?_⟩
   ·obtain⟨u,hu,_⟩|h':=be l i
    ·rw[aU hu];refine⟨u,hu,λh1=>?_,λh1=>?_⟩
     ·have :x=u:=(Prod.ext h1.1 h1.2).symm;simp[this]
     ·have :x≠u:=λe=>h1 (by rw[e];exact⟨rfl,rfl⟩);have e:decide (x∈u::l.drop (i+1))=decide (x∈l.drop (i+1)):=by simp[this]
      rw[e];exact ihm (i+1) (by omega)
    ·exact absurd h h'
   ·rw[List.drop_of_length_le (by omega)];simp
 have :=loop l.length 0 (by omega);exact yO _ _ _ _ this
theorem Kj:∀t:Tree,tbulk t≤1000000000→ij t (bareK t):=dZ λt ih hb=>by
 have hk:=bB t;have loop:∀m i l,t.kids.length-i≤m→l.length=i→i≤t.kids.length→jS (m+1) t l i (.node t.kind t.text [] (l++baresK (t.kids.drop i))):=λm=>by
  induction m with
  |zero=>
   intro i l hi hl hle;refine rP 0 _ _ _ _ ⟨λh=>by omega,λh=>?_⟩;rw[List.drop_of_length_le (by omega),baresK,List.append_nil]
  | succ m ihm=>
   intro i l hi hl hle;refine rP (m+1) _ _ _ _ ⟨λh=>?_,λh=>?_⟩
   ·obtain⟨u,hu,_⟩|h':=be t.kids i
    ·have :=aF hu;rw[aU hu,baresK];refine⟨u,hu,_,ih i u hu (by omega),by simp;omega,?_⟩;have :=ihm (i+1) (l++[bareK u]) (by omega) (by simp[hl]) (by omega);rw[List.append_assoc]at this;exact this
    ·exact absurd h h'
   ·rw[List.drop_of_length_le (by omega),baresK,List.append_nil]
 have :=loop t.kids.length 0 [] (by omega) rfl (by omega);rw[List.nil_append,List.drop_zero,←Bb]at this;exact yH _ _ _ this
theorem EA{p:List Tree}(hp:bi p=true)(hb:kbulk p≤10000000):∀(f:Nat) (seen sl:List (Int×Int)) (n:Nat) (M:Int) (u:Tree),oA p seen→kbulk p+1≤f+seen.length→(∀k,k∈sl↔k∈seen)→sl.length=seen.length→tyK u→u.kind≠8→0≤M→M<p.length→u.text.length≤1000000000→∃m,jp m p M (cb n (.node u.kind u.text [] [])) sl (dO p f seen n M u).1 (dO p f seen n M u).2
 |0,seen,sl,n,M,u,hs,hf,_,_,_,_,_,_,_=>by
  have :=oK hs;omega
 | f +1,seen,sl,n,M,u,hs,hf,hsl,hll,hu,h8,h0,h1,hux=>by
  have hsn:=oK hs;have hleaf:=Ou (u:=.node u.kind u.text [] []) h8 n;by_cases h9:u.kind=9
  ·rw [dO,if_pos h9];have hfind:=BL (p:=p) (w:=u.text) h0 h1 (by omega) hux;by_cases hfd:(ba p M u.text).2.2=false
   ·rw[if_pos hfd];exact⟨1,iI 0 _ _ _ _ _ _ ⟨_,hleaf,λ_=>⟨_,hleaf,_,_,_,hfind,λ_=>⟨rfl,rfl⟩,λh=>(by rw[hfd]at h;cases h)⟩,λh=>absurd h9 h⟩⟩
   ·rw[if_neg hfd];have hfd':(ba p M u.text).2.2=true:=by simpa using hfd
    obtain⟨i,d,t,a,b',g1,g2,g3,g4,g5,g6,g7⟩:=rW hp h9 hu.1 hfd';rw[hfd']at hfind;rw[g1,g2]at hfind⊢;have hmet:=Nw sl ((i:Int),(d:Int));by_cases hm:((i:Int),(d:Int))∈seen
    ·rw[if_pos hm];rw[decide_eq_true ((hsl _).2 hm)]at hmet;exact⟨1,iI 0 _ _ _ _ _ _ ⟨_,hleaf,λ_=>⟨_,hleaf,_,_,_,hfind,λh=>(by cases h),λ_=>⟨_,hmet,λ_=>⟨rfl,rfl⟩,λh=>(by cases h)⟩⟩,λh=>absurd h9 h⟩⟩
    ·rw[if_neg hm];rw[decide_eq_false (λh=>hm ((hsl _).1 h))]at hmet;have hal:=sv g3 g4 g6;rw[hal];obtain⟨t1,t2,t3⟩:=lU b' g7;have hs':=nj hs g3 g4 hm;have hil:=(List.getElem?_eq_some_iff.1 g3).1;have hbb:tbulk b'≤10000000:=by
      have :=bt g3;have :=aF g4;have :=aF (t:=a) (i:=0) (u:=b') (by rw[g6];rfl);omega
     have hbare:=Kj b' (by omega);rw[t3]at hbare;have hin:=Qx (u:=.node u.kind u.text [] []) (v:=cb (lisK b') (.node (leafK b').kind (leafK b').text [] [])) h8 n;rw[vO]at hin;have hlb:=(kL b').1;have htl:=cx (leafK b');obtain⟨m,hm'⟩:=EA hp hb f (((i:Int),(d:Int))::seen) (sl++[((i:Int),(d:Int))]) (n+lisK b') i (leafK b') hs' (by simp only[List.length_cons];omega) (λk=>by simp[hsl k];exact Or.comm) (by simp[hll]) t1 t2 (by omega) (by omega) (by omega);exact⟨m+1,iI m _ _ _ _ _ _ ⟨_,hleaf,λ_=>⟨_,hleaf,_,_,_,hfind,λh=>(by cases h),λ_=>⟨_,hmet,λh=>(by cases h),λ_=>⟨by simp;omega,i,rfl,t,g3,d,rfl,a,g4,b',(by rw[g6];rfl),_,hbare,_,hin,hm'⟩⟩⟩,λh=>absurd h9 h⟩⟩
  ·rw[dO,if_neg h9];have hx:u.text=[]:=by
    rcases ni hu with⟨h,_⟩|⟨_,_,h⟩
    ·exact absurd h h8
    ·exact h h9
   refine⟨1,iI 0 _ _ _ _ _ _ ⟨_,hleaf,λh=>absurd h h9,λ_=>⟨by rw[hx],rfl⟩⟩⟩
theorem Ib{p:List Tree}(hp:bi p=true)(hb:kbulk p≤10000000)(s1 s2:Int):∀(f:Nat) (seen sl:List (Int×Int)) (i d:Nat) (t a:Tree),oA p seen→kbulk p+1≤f+seen.length→(∀k,k∈sl↔k∈seen)→sl.length=seen.length→p[i]?=some t→t.kids[d]?=some a→a.kind=3→∃m,eJ m p s1 s2 i d sl (kB p (s1,s2) f seen (fP p ((i:Int),(d:Int))))
 |0,seen,sl,i,d,t,a,hs,hf,_,_,_,_,_=>by
  have :=oK hs;omega
 | f +1,seen,sl,i,d,t,a,hs,hf,hsl,hll,g3,g4,g5=>by
  have hsn:=oK hs;obtain⟨b,hbk,hty⟩:=ug hp g3 g4 g5;have hal:=sv g3 g4 hbk;have hil:=(List.getElem?_eq_some_iff.1 g3).1;have hbb:tbulk b≤10000000:=by
   have :=bt g3;have :=aF g4;have :=aF (t:=a) (i:=0) (u:=b) (by rw[hbk];rfl);omega
  obtain⟨t1,t2,_⟩:=lU b hty;have hlb:=(kL b).1;have htl:=cx (leafK b);have fin:∀m r,jZ m p s1 s2 (leafK b) i d sl r→∃m,eJ m p s1 s2 i d sl r:=λm r h=>
   ⟨m+1,uZ m _ _ _ _ _ _ _ ⟨i,rfl,t,g3,d,rfl,a,g4,b,(by rw[hbk];rfl),_,NX b hty,h⟩⟩
  rw[AF g3 g4 g5,hal];by_cases h9:(leafK b).kind=9
  ·have hfind:=BL (p:=p) (m:=(i:Int)) (w:=(leafK b).text) (by omega) (by omega) (by omega) (by omega);by_cases hfd:(ba p i (leafK b).text).2.2=true
   ·rw[if_pos ⟨h9,hfd⟩,kB];obtain⟨i',d',t',a',b',e1,e2,e3,e4,e5,e6,e7⟩:=rW hp h9 t1.1 hfd;rw[hfd,e1,e2]at hfind;rw[e1,e2];by_cases hst:((i':Int),(d':Int))=(s1,s2)
    ·rw[if_pos hst];exact fin 1 _ (dX 0 _ _ _ _ _ _ _ _ ⟨λh=>absurd h9 h,λ_=>⟨_,_,_,hfind,λh=>(by cases h),λ_=>⟨λ_=>rfl,λh=>absurd (Prod.mk.inj hst) h⟩⟩⟩)
    ·rw[if_neg hst];have hst':¬((i':Int)=s1∧(d':Int)=s2):=λh=>hst (by rw[h.1,h.2]);have hmet:=Nw sl ((i':Int),(d':Int));by_cases hm:((i':Int),(d':Int))∈seen
     ·rw[if_pos hm];rw[decide_eq_true ((hsl _).2 hm)]at hmet;exact fin 1 _ (dX 0 _ _ _ _ _ _ _ _ ⟨λh=>absurd h9 h,λ_=>⟨_,_,_,hfind,λh=>(by cases h),λ_=>⟨λh=>absurd h hst',λ_=>⟨_,hmet,λ_=>rfl,λh=>(by cases h)⟩⟩⟩⟩)
     ·rw[if_neg hm];rw[decide_eq_false (λh=>hm ((hsl _).1 h))]at hmet;obtain⟨m,hm'⟩:=Ib hp hb s1 s2 f (((i':Int),(d':Int))::seen) (sl++[((i':Int),(d':Int))]) i' d' t' a' (nj hs e3 e4 hm) (by simp only[List.length_cons];omega) (λk=>by simp[hsl k];exact Or.comm) (by simp[hll]) e3 e4 e5;exact fin (m+1) _ (dX m _ _ _ _ _ _ _ _ ⟨λh=>absurd h9 h,λ_=>⟨_,_,_,hfind,λh=>(by cases h),λ_=>⟨λh=>absurd h hst',λ_=>⟨_,hmet,λh=>(by cases h),λ_=>⟨by simp;omega,hm'⟩⟩⟩⟩⟩)
   ·rw[if_neg (λh=>hfd h.2),kB];have hfd':(ba p i (leafK b).text).2.2=false:=by simpa using hfd
    rw[hfd']at hfind;exact fin 1 _ (dX 0 _ _ _ _ _ _ _ _ ⟨λh=>absurd h9 h,λ_=>⟨_,_,_,hfind,λ_=>rfl,λh=>(by cases h)⟩⟩)
  ·rw[if_neg (λh=>h9 h.1),kB];exact fin 1 _ (dX 0 _ _ _ _ _ _ _ _ ⟨λ_=>rfl,λh=>absurd h h9⟩)
theorem Gx(hb:kbulk p≤10000000)(M D:Int):lr p M D (hZ p M D):=by
 have nn:(∀t x,0≤M→0≤D→p[M.toNat]?=some t→t.kids[D.toNat]?=some x→x.kind=3→False)→hZ p M D=false:=λh=>by
  unfold hZ;split
  ·rename_i hc;have :fP p (M,D)=none:=by
    unfold fP;rw[if_pos ⟨hc.2.1,hc.2.2⟩];split
    ·rfl
    ·rename_i t ht;split
     ·rfl
     ·rename_i x hx;exact if_neg λhcc=>h t x hc.2.1 hc.2.2 ht hx hcc.1
   rw[this,kB]
  ·rfl
 have hlen:=λ(t:Tree) (ht:p[M.toNat]?=some t)=>(List.getElem?_eq_some_iff.1 ht).1;by_cases hp:bi p=true
 ·by_cases h0:M<0
  ·rw[nn λ_ _ h _ _ _ _=>by omega];exact cQ 0 _ _ _ _ ⟨_,kz p (by omega),λ_=>rfl,λ_=>⟨λ_=>rfl,λh=>absurd h0 h⟩⟩
  by_cases h1:((p.length:Nat):Int)≤M
  ·rw[nn λt _ _ _ ht _ _=>by have :=hlen t ht;omega];exact cQ 0 _ _ _ _ ⟨_,kz p (by omega),λ_=>rfl,λ_=>⟨λ_=>rfl,λ_=>⟨λ_=>rfl,λh=>absurd h1 h⟩⟩⟩
  by_cases h2:D<0
  ·rw[nn λ_ _ _ h _ _ _=>by omega];exact cQ 0 _ _ _ _ ⟨_,kz p (by omega),λ_=>rfl,λ_=>⟨λ_=>rfl,λ_=>⟨λ_=>rfl,λ_=>⟨λ_=>rfl,λh=>absurd h2 h⟩⟩⟩⟩
  obtain⟨t,ht,_⟩|h':=be p M.toNat
  ·by_cases h3:((t.kids.length:Nat):Int)≤D
   ·rw[nn λt' x _ _ ht' hx _=>by
     rw[ht]at ht';cases ht';have :=(List.getElem?_eq_some_iff.1 hx).1;omega]
    exact cQ 0 _ _ _ _ ⟨_,kz p (by omega),λ_=>rfl,λ_=>⟨λ_=>rfl,λ_=>⟨λ_=>rfl,λ_=>⟨λ_=>rfl,λ_=>⟨M.toNat,by omega,t,ht,λ_=>rfl,λh=>absurd h3 h⟩⟩⟩⟩⟩
   ·obtain⟨a,ha,_⟩|h':=be t.kids D.toNat
    ·have eM:((M.toNat:Nat):Int)=M:=by omega
     have eD:((D.toNat:Nat):Int)=D:=by omega
     by_cases hk:a.kind=3
     ·rw[hZ,if_pos ⟨hp,by omega,by omega⟩];obtain⟨m,hm⟩:=Ib hp hb M D (kbulk p+1) [] [] M.toNat D.toNat t a ⟨List.nodup_nil,λx h=>by cases h⟩ (by simp) (λk=>Iff.rfl) rfl ht ha hk;rw[eM,eD]at hm;exact cQ m _ _ _ _ ⟨_,kz p (by omega),λh=>(by rw[hp]at h;cases h),λ_=>⟨λh=>absurd h h0,λ_=>⟨λh=>absurd h h1,λ_=>⟨λh=>absurd h h2,λ_=>⟨M.toNat,by omega,t,ht,λh=>absurd h h3,λ_=>⟨M.toNat,by omega,t,ht,D.toNat,by omega,a,ha,λh=>absurd hk h,λ_=>hm⟩⟩⟩⟩⟩⟩
     ·rw[nn λt' x _ _ ht' hx hk'=>by
       rw[ht]at ht';cases ht';rw[ha]at hx;cases hx;exact hk hk']
      exact cQ 0 _ _ _ _ ⟨_,kz p (by omega),λ_=>rfl,λ_=>⟨λ_=>rfl,λ_=>⟨λ_=>rfl,λ_=>⟨λ_=>rfl,λ_=>⟨M.toNat,by omega,t,ht,λ_=>rfl,λ_=>⟨M.toNat,by omega,t,ht,D.toNat,by omega,a,ha,λ_=>rfl,λh=>absurd h hk⟩⟩⟩⟩⟩⟩
    ·omega
  ·omega
 ·have hp':bi p=false:=by simpa using hp
  rw[hZ,if_neg (λh=>hp h.1)];exact cQ 0 _ _ _ _ ⟨_,kz p (by omega),λ_=>rfl,λh=>absurd h hp⟩
def IY(B:Nat)(x:Tree×Int):Prop:=∃(n:Nat) (k:Int),x.1=cb n (.node k [] [] [])∧k≠8∧k≠9∧(x.2=0→5≤k∧k≤7)∧n≤B
theorem Iq{e:Int}(G:e≠0):IY B (sX,e):=⟨0,0,rfl,by decide,by decide,λh=>absurd h G,Nat.zero_le _⟩
theorem Dn{p:List Tree}(hp:bi p=true){B:Nat}:∀(f:Nat) (seen:List (Int×Int)) (n:Nat) (M:Int) (u:Tree),oA p seen→kbulk p+1≤f+seen.length→tyK u→u.kind≠8→n≤B+iZ (tG p) seen→IY (B+kbulk p) (dO p f seen n M u)
 |0,seen,n,M,u,hs,hf,_,_,_=>by
  have :=oK hs;omega
 | f +1,seen,n,M,u,hs,hf,hu,h8,hn=>by
  have hss:=Ar hs;by_cases h9:u.kind=9
  ·rw[dO,if_pos h9];by_cases hfd:(ba p M u.text).2.2=false
   ·rw[if_pos hfd];exact Iq (by decide)
   ·rw[if_neg hfd];have hfd':(ba p M u.text).2.2=true:=by simpa using hfd
    obtain⟨i,d,t,a,b',g1,g2,g3,g4,g5,g6,g7⟩:=rW hp h9 hu.1 hfd';rw[g1,g2];by_cases hm:((i:Int),(d:Int))∈seen
    ·rw[if_pos hm];exact Iq (by decide)
    ·rw[if_neg hm];have hal:=sv g3 g4 g6;rw[hal];obtain⟨t1,t2,_⟩:=lU b' g7;exact Dn hp f (((i:Int),(d:Int))::seen) (n+lisK b') i (leafK b') (nj hs g3 g4 hm) (by simp only[List.length_cons];omega) t1 t2 (by simp only[iZ,tG,hal];omega)
  ·rw[dO,if_neg h9];have :=hu.2;have hk:5≤u.kind∧u.kind≤9:=by simpa[jr]using hu.2
   exact⟨n,u.kind,rfl,h8,h9,λ_=>by omega,by omega⟩
theorem Mj(p:List Tree)(M:Int)(t:Tree):IY (tbulk t+kbulk p) (oN p M t):=by
 unfold oN;split
 ·rename_i G;obtain⟨J,O,_⟩:=lU t ⟨G.2.2.2.2,G.2.2.2.1⟩;obtain⟨U,Z⟩:=kL t;exact Dn G.1 _ _ _ _ _ ⟨List.nodup_nil,λx h=>by cases h⟩ (by simp) J O (by simp only[iZ];omega)
 ·exact Iq (by decide)
def noG:am:=⟨[],⟨0,0⟩⟩
theorem wT{l:List Tree}(h:l[i]?=some u):kbulk (l.drop i)=tbulk u+kbulk (l.drop (i+1)):=by rw[aU h,kbulk]
theorem zb{l:List Tree}(h:l[i]?=some u):uNs (l.drop i)=uN u+uNs (l.drop (i+1)):=by rw[aU h,uNs]
mutual
theorem tgs_uN(p:List Tree)(m:Int):∀(t:Tree) (q:List Int),(bx p m (nodK t q)).length=uN t
 | .node k w ls ks,q=>by
  simp only[nodK,bx,List.length_append,uN,tgs_uNs p m ks q 0,dP,Tree.kind];by_cases h:k=16∨k=9
  ·have h':(k==16||k==9)=true:=by simpa using h
   simp only[h',if_pos h,if_true,List.length_cons,List.length_nil,Nat.zero_add]
  ·have h':(k==16||k==9)=false:=by simpa using h
   simp only[h',if_neg h,Bool.false_eq_true,if_false,List.length_nil]
theorem tgs_uNs(p:List Tree)(m:Int):∀(l:List Tree) (q:List Int) (i:Nat),(bx p m (nodKs l q i)).length=uNs l
 |[],q,i=>by simp[nodKs,bx,uNs]
 |t::r,q,i=>by simp only[nodKs,sr,List.length_append,uNs,tgs_uN p m t,tgs_uNs p m r]
end
theorem FC(p:List Tree):∀(l:List Tree) (i:Nat),(ku p i l).length=uNs l
 |[],i=>rfl
 |t::r,i=>by simp only[ku,List.length_append,uNs,tgs_uN,FC p r]
theorem ND(ht:tyK t)(hb:tbulk t≤1000000000):mf t (leafK t) (lisK t:Nat):=by
 have loop:∀t,tyK t→∀i,i+tbulk t≤2000000000→ky (lisK t+1) t i (leafK t) ((i+lisK t:Nat):Int):=dZ λt ih h i hi=>by
  rcases ni h with⟨G,_,u,hu,J⟩|⟨G,hk,_⟩
  ·obtain⟨O,U⟩:=qU G hu;have Z:t.kids[0]?=some u:=by rw[hu];rfl
   have :=aF Z;rw[O,U];refine mJ (lisK u+1) _ _ _ _ (⟨λ_=>⟨u,Z,by omega,?_⟩,λh=>absurd G h⟩);rw[show i+(lisK u+1)=i+1+lisK u by omega];exact ih 0 u Z J (i+1) (by omega)
  ·obtain⟨O,U⟩:=jB G;rw[O,U];exact mJ 0 _ _ _ _ (⟨λh=>absurd h G,λ_=>⟨rfl,rfl⟩⟩)
 have :=loop t ht 0 (by omega);rw[Nat.zero_add]at this;exact vZ (lisK t+1) _ _ _ (this)
theorem zl(n:Nat)(t:Tree):(cb (n+1) t).kind=8∧(cb (n+1) t).kids=[cb n t]:=⟨rfl,rfl⟩
theorem Bm{k:Int}(G:k≠8):∀n,leafK (cb n (.node k [] [] []))=.node k [] [] []∧lisK (cb n (.node k [] [] []))=n
 |0=>jB G
 |n+1=>by
  obtain⟨J,O⟩:=qU (zl n (.node k [] [] [])).1 (zl n (.node k [] [] [])).2;obtain⟨U,Z⟩:=Bm G n;rw[J,O,U,Z];exact⟨rfl,rfl⟩
theorem MG{k:Int}(G:k≠8)(n:Nat)(J:n≤1000000000):mf (cb n (.node k [] [] [])) (.node k [] [] []) (n:Nat):=by
 have loop:∀j i,i+j≤1000000000→ky (j+1) (cb j (.node k [] [] [])) i (.node k [] [] []) ((i+j:Nat):Int):=λj=>by
  induction j with
  |zero=>intro i hi;exact mJ 0 _ _ _ _ (⟨λh=>absurd h G,λ_=>⟨rfl,rfl⟩⟩)
  |succ j ih=>
   intro i hi;refine mJ (j+1) _ _ _ _ (⟨λ_=>⟨cb j (.node k [] [] []),rfl,by omega,?_⟩,λh=>absurd (zl j (.node k [] [] [])).1 h⟩);rw[show i+(j+1)=i+1+j by omega];exact ih (i+1) (by omega)
 have :=loop n 0 (by omega);rw[Nat.zero_add]at this;exact vZ (n+1) _ _ _ (this)
def knK(t:Tree):Kn:=⟨(leafK t).kind,(lisK t:Nat)⟩
def nmK(p:List Tree)(m:Int)(w:List UInt8):Kn:=if(oN p m (.node 9 w [] [])).2=0 then knK (oN p m (.node 9 w [] [])).1 else⟨0,0⟩
def tyN(p:List Tree)(m:Int)(t:Tree):Kn:=if(leafK t).kind=9 then(if(nmK p m (leafK t).text).simple=0 then nmK p m (leafK t).text else⟨(nmK p m (leafK t).text).simple,(nmK p m (leafK t).text).lists+(lisK t:Nat)⟩)else knK t
theorem DV(O:tyK u)(J:u.kind=9):oN p m u=oN p m (.node 9 u.text [] []):=by
 obtain⟨k,w,ls,ks⟩:=u;simp only[Tree.kind]at J;subst J;have G:ks=[]:=by
  rcases ni O with⟨U,_⟩|⟨_,G,_⟩
  ·simp[Tree.kind]at U
  ·exact G
 subst G;unfold oN;have Z:leafK (.node 9 w ls [])=.node 9 w ls []:=(jB (by simp[Tree.kind])).1;have e2:leafK (.node 9 w [] [])=.node 9 w [] []:=(jB (by simp[Tree.kind])).1;have e3:lisK (.node 9 w ls [])=0:=(jB (by simp[Tree.kind])).2;have e4:lisK (.node 9 w [] [])=0:=(jB (by simp[Tree.kind])).2;simp only[Tree.text,Z,e2,e3,e4,Tree.kind,shapeK,dO]
theorem Cl(p:List Tree)(m:Int)(w:List UInt8):0≤(nmK p m w).lists∧(nmK p m w).lists≤((w.length+1+kbulk p:Nat):Int)∧((oN p m (.node 9 w [] [])).2=0→∃(n:Nat) (k:Int),(oN p m (.node 9 w [] [])).1=cb n (.node k [] [] [])∧5≤k∧k≤7∧nmK p m w=⟨k,(n:Int)⟩∧n≤w.length+1+kbulk p):=by
 obtain⟨n,k,h1,h2,h3,J,O⟩:=Mj p m (.node 9 w [] []);have hb:tbulk (.node 9 w [] [])=w.length+1:=by simp[tbulk,kbulk,fp]
 rw[hb]at O;unfold nmK;by_cases G:(oN p m (.node 9 w [] [])).2=0
 ·obtain⟨U,Z⟩:=Bm h2 n;rw[if_pos G,h1];have e:knK (cb n (.node k [] [] []))=⟨k,(n:Int)⟩:=by unfold knK;rw[U,Z];rfl
  rw[e];exact⟨by simp,by simp only;omega,λ_=>⟨n,k,rfl,(J G).1,(J G).2,rfl,by omega⟩⟩
 ·rw[if_neg G];exact⟨Int.le_refl _,by simp only;omega,λh=>absurd h G⟩
def pH(p:List Tree)(nm:List ((Int×List UInt8)×ac)):Prop:=∀m w k,aI (m,w) nm=some k→k=nmK p m w
theorem pH.put{nm:List ((Int×List UInt8)×ac)}(h:pH p nm)(m:Int)(w:List UInt8):pH p (bZ (m,w) (nmK p m w) nm):=λJ w' k G=>by
 rw[ja]at G;split at G
 ·rename_i e;simp only[Prod.mk.injEq]at e;obtain⟨rfl,rfl⟩:=e;injection G with G;exact G.symm
 ·exact h J w' k G
theorem FJ{c:CKr}(hc:c.p=p)(hb:kbulk p≤10000000)(hn:pH p c.names)(m:Int)(ht:tyK t)(hbt:tbulk t≤10000000):∃nm,pH p nm∧gy c m t (tyN p m t) {c with names:=nm}:=by
 obtain⟨l1,l2,_⟩:=lU t ht;obtain⟨b1,b2⟩:=kL t;have hs:=ND ht (by omega);by_cases h9:(leafK t).kind=9
 ·obtain⟨f1,f2,f3⟩:=Cl p m (leafK t).text;have hw:=cx (leafK t);have hx:=DV (p:=p) (m:=m) l1 h9;cases hl:aI (m,(leafK t).text) c.names with
  |some k=>
   have hk:=hn _ _ _ hl;subst hk;refine⟨c.names,hn,jK 1 _ _ _ _ _ (⟨_,_,hs,λh=>absurd h9 h,λ_=>⟨λh=>(by rw[hl]at h;cases h),λd h=>?_⟩⟩)⟩;rw[hl]at h;injection h with h;subst h
   refine nP 0 _ _ _ _ _ _ _ _ _ (⟨λh=>(by cases h),λ_=>⟨λhz=>⟨⟨by omega,by omega⟩,?_,rfl⟩,λhz=>⟨?_,rfl⟩⟩⟩)
   ·unfold tyN;rw[if_pos h9,if_neg hz]
   ·unfold tyN;rw[if_pos h9,if_pos hz]
  | none=>
   have he:=Ms hb m (t:=leafK t) (by omega);rw[hx]at he;refine⟨bZ (m,(leafK t).text) (nmK p m (leafK t).text) c.names,hn.put m _,jK 2 _ _ _ _ _ (⟨_,_,hs,λh=>absurd h9 h,λ_=>⟨λ_=>?_,λd h=>(by rw[hl]at h;cases h)⟩⟩)⟩;refine nP 1 _ _ _ _ _ _ _ _ _ (⟨λ_=>⟨_,_,by rw[hc];exact he,?_⟩,λh=>(by cases h)⟩);refine uc 0 _ _ _ _ _ _ _ _ _ _ (⟨λh0=>?_,λh0=>⟨λh=>absurd rfl h,λ_=>?_⟩⟩)
   ·obtain⟨n,k,g1,g2,g3,g4,g5⟩:=f3 h0;rw[g1];refine⟨_,_,MG (by omega) n (by omega),λhz=>⟨⟨by omega,by omega⟩,?_,?_⟩,λhz=>absurd hz (by simp only[Tree.kind];omega)⟩
    ·unfold tyN;rw[if_pos h9,g4,if_neg (by simp only;omega)];rfl
    ·rw[g4];rfl
   ·have e:nmK p m (leafK t).text=⟨0,0⟩:=by unfold nmK;rw[if_neg h0]
    rw[e];refine⟨?_,rfl⟩;unfold tyN;rw[if_pos h9,e,if_pos rfl]
 ·exact⟨c.names,hn,jK 0 _ _ _ _ _ (⟨_,_,hs,λ_=>⟨by unfold tyN;rw[if_neg h9];rfl,rfl⟩,λh=>absurd h h9⟩)⟩
def fe(p:List Tree)(m:Int)(f:Tree):am:=⟨(f.kids.take (f.kids.length-2)).map λk=>tyN p m (cP k 0),tyN p m (cP f (f.kids.length-2))⟩
theorem Rf{c:CKr}(hc:c.p=p)(hb:kbulk p≤10000000)(hn:pH p c.names)(m:Int)(hs:shapeK f=true)(h2:f.kind=2)(hbf:tbulk f≤10000000):∃nm,pH p nm∧lP c m f (fe p m f) {c with names:=nm}:=by
 obtain⟨s1,s2,s3,_⟩:=tC hs h2;have hkl:=bB f;obtain⟨n,hnn⟩:∃n,n+2=f.kids.length:=⟨f.kids.length-2,by omega⟩;have hlt:(f.kids.take n).length=n:=by rw[List.length_take];omega
 obtain⟨r,hr⟩:∃r,f.kids[n]?=some r:=⟨_,List.getElem?_eq_getElem (by omega)⟩;have hrt:=s3 r (by rw[show f.kids.length-2=n by omega];exact hr);have hkr:cP f (f.kids.length-2)=r:=by rw[show f.kids.length-2=n by omega];exact eo hr
 have hbr:=aF hr;have loop:∀(k i:Nat) (c:CKr),c.p=p→pH p c.names→k+i=n→∃nm,pH p nm∧ie (k+1) m f n c ((f.kids.take i).map λk=>tyN p m (cP k 0)) i ⟨(f.kids.take n).map λk=>tyN p m (cP k 0),tyN p m r⟩ {c with names:=nm}:=λk=>by
  induction k with
  |zero=>
   intro i c hc hn hi;have e:i=n:=by omega
   subst e;obtain⟨nm,g1,g2⟩:=FJ hc hb hn m hrt (by omega);exact⟨nm,g1,px 0 _ _ _ _ _ _ _ _ (⟨λh=>absurd h (by rw[hlt];omega),λ_=>⟨i,by omega,r,hr,_,_,g2,rfl,rfl⟩⟩)⟩
  | succ k ih=>
   intro i c hc hn hi;obtain⟨u,hu⟩:∃u,f.kids[i]?=some u:=⟨_,List.getElem?_eq_getElem (by omega)⟩;obtain⟨v,hv4,hv,hvt⟩:=s2 i u hu (by omega);have hv0:u.kids[0]?=some v:=by rw[hv];rfl
   have hb1:=aF hu;have hb2:=aF hv0;obtain⟨nm,g1,g2⟩:=FJ hc hb hn m hvt (by omega);obtain⟨nm',g3,g4⟩:=ih (i+1) {c with names:=nm} hc g1 (by omega);have e:((f.kids.take i).map λk=>tyN p m (cP k 0))++[tyN p m v]=(f.kids.take (i+1)).map λk=>tyN p m (cP k 0):=by
    rw[List.take_add_one,hu,List.map_append];simp[eo hv0]
   exact⟨nm',g3,px (k+1) _ _ _ _ _ _ _ _ (⟨λ_=>⟨u,by rw[List.getElem?_take,if_pos (by omega)];exact hu,v,hv0,_,_,g2,by rw[e];simp;omega,by omega,by rw[e];exact g4⟩,λh=>absurd (by rw[hlt];omega) h⟩)⟩
 obtain⟨nm,g1,g2⟩:=loop n 0 c hc hn (by omega);refine⟨nm,g1,wB (n+1) _ _ _ _ _ (⟨n,by omega,by omega,?_⟩)⟩;unfold fe;rw[hkr,show f.kids.length-2=n by omega];simpa using g2
def sgD(p:List Tree)(m:Int):List Tree→Nat→List ((Int×Int)×am)→List ((Int×Int)×am)
 |[],_,l=>l
 |f::r,d,l=>sgD p m r (d+1) (if f.kind=2 then bZ (m,(d:Int)) (fe p m f) l else l)
def sgM(p:List Tree):List Tree→Nat→List ((Int×Int)×am)→List ((Int×Int)×am)
 |[],_,l=>l
 |t::r,m,l=>sgM p r (m+1) (sgD p (m:Int) t.kids 0 l)
theorem FT{p:List Tree}{t:Tree}{m:Nat}(hm:m≤1000000000)(hb:kbulk p≤10000000)(hok:∀(d:Nat) (f:Tree),t.kids[d]?=some f→shapeK f=true)(hbt:tbulk t≤10000000):∀(k d:Nat) (c:CKr),c.p=p→pH p c.names→k+d=t.kids.length→∃nm,pH p nm∧∀M r,gk M p (m+1) {c with names:=nm,signatures:=sgD p (m:Int) (t.kids.drop d) d c.signatures} r→∃M',gf M' p t d c m m r
 |0,d,c,hc,hn,hk=>by
  have hd:t.kids.drop d=[]:=List.drop_of_length_le (by omega);rw[hd];exact⟨c.names,hn,λM r h=>⟨M+1,lJ M _ _ _ _ _ _ _ (⟨λh=>absurd h (by omega),λ_=>⟨by omega,h⟩⟩)⟩⟩
 | k+1,d,c,hc,hn,hk=>by
  have hlt:d<t.kids.length:=by omega
  have hkl:=bB t;obtain⟨f,hf⟩:∃f,t.kids[d]?=some f:=⟨_,fv hlt⟩;have hbf:=aF hf;rw[aU hf,sgD];by_cases h2:f.kind=2
  ·obtain⟨nm,g1,g2⟩:=Rf hc hb hn (m:Int) (hok d f hf) h2 (by omega);obtain⟨nm',g3,g4⟩:=FT (m:=m) hm hb hok hbt k (d+1) {c with names:=nm,signatures:=bZ ((m:Int),(d:Int)) (fe p m f) c.signatures} hc g1 (by omega);rw[if_pos h2];refine⟨nm',g3,λM r h=>?_⟩;obtain⟨M',hM⟩:=g4 M r h;exact⟨M'+2,lJ (M'+1) _ _ _ _ _ _ _ (⟨λ_=>⟨f,hf,λ_=>⟨_,_,g2,wX M' _ _ _ _ _ _ _ (⟨by omega,hM⟩)⟩,λh=>absurd h2 h⟩,λh=>absurd hlt h⟩)⟩
  ·obtain⟨nm',g3,g4⟩:=FT (m:=m) hm hb hok hbt k (d+1) c hc hn (by omega);rw[if_neg h2];refine⟨nm',g3,λM r h=>?_⟩;obtain⟨M',hM⟩:=g4 M r h;exact⟨M'+1,lJ M' _ _ _ _ _ _ _ (⟨λ_=>⟨f,hf,λh=>absurd h h2,λ_=>⟨by omega,hM⟩⟩,λh=>absurd hlt h⟩)⟩
theorem Ly{p:List Tree}(G:∀(m:Nat) (t:Tree) (d:Nat) (f:Tree),p[m]?=some t→t.kids[d]?=some f→shapeK f=true)(hb:kbulk p≤10000000):∀(k m:Nat) (c:CKr),c.p=p→pH p c.names→k+m=p.length→∃nm,pH p nm∧∃M,gk M p m c {c with names:=nm,signatures:=sgM p (p.drop m) m c.signatures}
 |0,m,c,O,U,Z=>by
  have hd:p.drop m=[]:=List.drop_of_length_le (by omega);rw[hd];exact⟨c.names,U,1,qY 0 _ _ _ _ (⟨λh=>absurd h (by omega),λ_=>rfl⟩)⟩
 |k+1,m,c,O,U,Z=>by
  have J:m<p.length:=by omega
  obtain⟨t,ht⟩:∃t,p[m]?=some t:=⟨_,List.getElem?_eq_getElem J⟩;have hbt:=bt ht;have hl:=gw p;rw[aU ht,sgM];obtain⟨nm,g1,g2⟩:=FT (p:=p) (t:=t) (m:=m) (by omega) hb (λd f hf=>G m t d f ht hf) (by omega) t.kids.length 0 c O U (by omega);obtain⟨nm',g3,M,g4⟩:=Ly G hb k (m+1) {c with names:=nm,signatures:=sgD p (m:Int) t.kids 0 c.signatures} O g1 (by omega);obtain⟨M',hM⟩:=g2 M _ (by simpa using g4);exact⟨nm',g3,M'+1,qY M' _ _ _ _ (⟨λ_=>⟨t,ht,hM⟩,λh=>absurd J h⟩)⟩
theorem Dj(J:bi p=true):∀(m:Nat) (t:Tree) (d:Nat) (f:Tree),p[m]?=some t→t.kids[d]?=some f→shapeK f=true:=λm t d f h1 h2=>by
 have G:=(fw J h1).2;rw[cp,Bool.and_eq_true]at G;exact(ej G.2 h2).2
def cxN(p:List Tree)(nm:List ((Int×List UInt8)×ac))(wm:Int)(wp:List Int):Cx:=⟨p,nm,sgM p p 0 [],0,[],wm,wp⟩
theorem zp(G:bi p=true)(hb:kbulk p≤10000000):∃nm,pH p nm∧jP p (mkC (cxN p nm 0 []) ⟨bW p,[],0,0⟩):=by
 obtain⟨nm,h1,M,h2⟩:=Ly (Dj G) hb p.length 0 (CKr.mk p (bW p) [] [] 0 [] [] 0 [] 0 0) rfl (λm w k h=>by cases h) (by omega);exact⟨nm,h1,yl M _ _ (⟨_,Dk p (by omega),h2⟩)⟩
theorem xw(p:List Tree)(m:Nat)(key:Int×Int):∀(ks:List Tree) (d:Nat) (l:List ((Int×Int)×am)),aI key (sgD p (m:Int) ks d l)=(if key.1=(m:Int)∧(d:Int)≤key.2∧key.2<((d+ks.length:Nat):Int)then(match ks[(key.2-(d:Int)).toNat]? with|some f=>if f.kind=2 then some (fe p m f)else aI key l|none=>aI key l)else aI key l)
 |[],d,l=>by
  rw[sgD,if_neg];rintro⟨_,h1,h2⟩;simp only[List.length_nil]at h2;omega
 | f ::r,d,l=>by
  obtain⟨k1,k2⟩:=key;rw[sgD,xw p m (k1,k2) r (d+1) _];by_cases h1:k1=(m:Int)
  ·by_cases h2:k2=(d:Int)
   ·subst h1 h2;obtain⟨l',hl'⟩:∃l',l'=(if f.kind=2 then bZ ((m:Int),(d:Int)) (fe p m f) l else l):=⟨_,rfl⟩;rw[←hl',if_neg (by simp only;omega)];have hc:((m:Int)=(m:Int)∧(d:Int)≤(d:Int)∧(d:Int)<((d+(f::r).length:Nat):Int)):=⟨rfl,Int.le_refl _,by simp;omega⟩;have hg:(f::r)[((d:Int)-(d:Int)).toNat]?=some f:=by simp
    by_cases hf:f.kind=2
    ·rw[if_pos hf]at hl';simp only[hg,if_pos hf];rw[if_pos ⟨trivial,hc.2⟩,hl',ja,if_pos rfl]
    ·rw[if_neg hf]at hl';simp only[hg,if_neg hf];rw[if_pos ⟨trivial,hc.2⟩,hl']
   ·have hne:aI (k1,k2) (if f.kind=2 then bZ ((m:Int),(d:Int)) (fe p m f) l else l)=aI (k1,k2) l:=by
     split
     ·rw[ja,if_neg (λe=>h2 (by simpa using(Prod.mk.inj e).2))]
     ·rfl
    rw[hne];by_cases h3:(d:Int)<k2∧k2<((d+1+r.length:Nat):Int)
    ·rw[if_pos ⟨h1,by simp only;omega,h3.2⟩,if_pos ⟨h1,by simp only;omega,by simp;omega⟩];simp only;rw[show(k2-(d:Int)).toNat=(k2-((d+1:Nat):Int)).toNat+1 by omega,List.getElem?_cons_succ]
    ·rw[if_neg (λh=>h3 ⟨by have :=h.2.1;simp only at this;omega,h.2.2⟩),if_neg (λh=>h3 ⟨by have :=h.2.1;simp only at this;omega,by have :=h.2.2;simp at this;omega⟩)]
  ·have hne:aI (k1,k2) (if f.kind=2 then bZ ((m:Int),(d:Int)) (fe p m f) l else l)=aI (k1,k2) l:=by
    split
    ·rw[ja,if_neg (λe=>h1 (by simpa using(Prod.mk.inj e).1))]
    ·rfl
   rw[hne,if_neg (λh=>h1 h.1),if_neg (λh=>h1 h.1)]
theorem Bf{P:List Tree}(key:Int×Int):∀(p:List Tree) (m:Nat) (l:List ((Int×Int)×am)) (q:am),aI key (sgM P p m l)=some q→(∃(i:Nat) (t:Tree) (d:Nat) (f:Tree),p[i]?=some t∧t.kids[d]?=some f∧f.kind=2∧key=(((m+i:Nat):Int),(d:Int))∧q=fe P ((m+i:Nat):Int) f)∨aI key l=some q
 |[],m,l,q,h=>.inr h
 | t ::r,m,l,q,h=>by
  rw[sgM]at h;rcases Bf key r (m+1) _ q h with⟨i,t',d,f,h1,h2,h0,h3,h4⟩|h
  ·exact .inl ⟨i+1,t',d,f,h1,h2,h0,by rw[h3,show m+1+i=m+(i+1) by omega],by rw[h4,show m+1+i=m+(i+1) by omega]⟩
  ·rw [xw]at h;split at h
   ·rename_i hc;split at h
    ·rename_i f hf;split at h
     ·rename_i h0;injection h with h;subst h
      obtain⟨k1,k2⟩:=key;simp only at hc hf;exact .inl ⟨0,t,(k2-((0:Nat):Int)).toNat,f,rfl,hf,h0,by simp only[Prod.mk.injEq];omega,rfl⟩
     ·exact .inr h
    ·exact .inr h
   ·exact .inr h
theorem EY{P:List Tree}{key:Int×Int}:∀(r:List Tree) (m:Nat) (l:List ((Int×Int)×am)),key.1<(m:Int)→aI key (sgM P r m l)=aI key l
 |[],_,_,_=>rfl
 |t::r,m,l,h=>by rw[sgM,EY r (m+1) _ (by omega),xw,if_neg (λh'=>by have :=h'.1;omega)]
theorem zD{P:List Tree}{key:Int×Int}:∀(p:List Tree) (m i d:Nat) (l:List ((Int×Int)×am)) (t f:Tree),p[i]?=some t→t.kids[d]?=some f→f.kind=2→key=(((m+i:Nat):Int),(d:Int))→aI key (sgM P p m l)=some (fe P ((m+i:Nat):Int) f)
 |[],m,i,d,l,t,f,h,_,_,_=>by simp at h
 |O::r,m,0,d,l,t,f,h1,h2,J,G=>by
  simp only[List.getElem?_cons_zero,Option.some.injEq]at h1;subst h1;have U:=(List.getElem?_eq_some_iff.1 h2).1;rw[sgM,EY r (m+1) _ (by rw[G];simp only;omega),xw,if_pos (by rw[G];simp only;omega),G];simp only;rw[show((d:Int)-((0:Nat):Int)).toNat=d by omega,h2];simp only[J,if_true];rfl
 |O::r,m,i+1,d,l,t,f,h1,h2,J,G=>by
  rw[sgM];have :=zD (P:=P) (key:=key) r (m+1) i d (sgD P (m:Int) O.kids 0 l) t f (by simpa using h1) h2 J (by rw[G,show m+1+i=m+(i+1) by omega]);rw[this,show m+1+i=m+(i+1) by omega]
theorem Nq(hb:tbulk t≤B):KOk (2*B+kbulk p+2) (tyN p m t):=by
 obtain⟨J,O⟩:=kL t;have U:=cx (leafK t);obtain⟨G,Z,_⟩:=Cl p m (leafK t).text;unfold tyN;split
 ·split
  ·exact⟨G,by omega⟩
  ·exact⟨by simp only;omega,by simp only;omega⟩
 ·exact⟨by simp[knK],by simp only[knK];omega⟩
theorem vX(t:Tree)(i:Nat):tbulk (cP t i)≤tbulk t:=by
 by_cases h:i<t.kids.length
 ·have :=aF (fv h);omega
 ·have G:cP t i=.node 0 [] [] []:=by simp only[cP,List.getD_eq_getElem?_getD,List.getElem?_eq_none (Nat.le_of_not_lt h)];rfl
  have h1:=bB t;rw[G];simp[tbulk,kbulk,fp];omega
theorem BF(hb:tbulk f≤B):KOk (2*B+kbulk p+2) (fe p m f).result∧∀q∈(fe p m f).params,KOk (2*B+kbulk p+2) q:=by
 refine⟨Nq (Nat.le_trans (vX f _) hb),λq J=>?_⟩;obtain⟨k,O,rfl⟩:=List.mem_map.1 J;have G:=List.mem_of_mem_take O;obtain⟨i,hi⟩:=List.getElem?_of_mem G;have :=aF hi;exact Nq (by have :=vX k 0;omega)
def Cx.md(x:Cx)(m:Int):Cx:={x with mo:=m}
def wF(x:Cx)(d:Nat)(f:Tree)(s:Sv):Sv:=fc (tbulk f) (x.go ((0:Nat):Int)) (cP f 0) (if hZ x.p x.mo (d:Int)=true then faP x 5 [] s else s)
def ke(x:Cx)(d:Nat)(f:Tree)(s:Sv):Sv:=if f.kind=2 then rV (x.go (d:Int)) f ((aI (x.mo,(d:Int)) x.sg).getD noG) s else wF (x.go (d:Int)) d f s
def iK(x:Cx):List Tree→Nat→Sv→Sv
 |[],_,s=>s
 |f::r,d,s=>iK x r (d+1) (ke x d f s)
def nS(x:Cx):List Tree→Nat→Sv→Sv
 |[],_,s=>s
 |t::r,m,s=>nS x r (m+1) (iK (x.md (m:Int)) t.kids 0 s)
def moF(z:Int):List Tree→Nat→Int
 |[],_=>z
 |_::r,m=>moF (m:Int) r (m+1)
structure DefOk (sg:List ((Int×Int)×am)) (L:Nat) (m d:Nat) (f:Tree):Prop where
 s:shapeK f=true
 k:f.kind=2→∃g,aI ((m:Int),(d:Int)) sg=some g∧f.kids.length=g.params.length+2∧∀q∈g.params,KOk L q
 a:f.kind≠2→∃b,f.kids=[b]∧tyK b
theorem Ky{x:Cx}{P0:CKr}{t:Tree}{m L:Nat}(hx:x.mo=m)(hpb:kbulk x.p≤10000000)(hm:m≤1000000000)(hok:∀(d:Nat) (f:Tree),t.kids[d]?=some f→DefOk x.sg L m d f)(h16:∀(d:Nat) (f:Tree),t.kids[d]?=some f→f.kind=2∨f.kind=3)(hsg:∀k q,aI k x.sg=some q→KOk L q.result)(hkl:t.kids.length≤100000000):∀(k d:Nat) (s:Sv),k+d=t.kids.length→x.pa.length+kbulk (t.kids.drop d)+4≤100000000→s.fa.length+4*kbulk (t.kids.drop d)+1≤900000000→uNs (t.kids.drop d)≤s.tg.length→L+kbulk (t.kids.drop d)≤900000000→
  Sst (kbulk (t.kids.drop d)) (uNs (t.kids.drop d)) s (iK x (t.kids.drop d) d s)∧∀(M:Nat) (q:CKr),(∀s1,s1=iK x (t.kids.drop d) d s→fJ M P0 (mkC x s1) (m+1) q)→∃M',cI M' P0 t (mkC x s) d m m q
 |0,d,s,hk,_,_,_,_=>by
  have hd:t.kids.drop d=[]:=List.drop_of_length_le (by omega);rw[hd];exact⟨⟨by simp[iK,uNs],by simp[iK]⟩,λM q h=>⟨M+1,lf M _ _ _ _ _ _ _ (⟨λh=>absurd h (by omega),λ_=>⟨by omega,h _ rfl⟩⟩)⟩⟩
 | k +1,d,s,hk,h1,h2,h3,h4=>by
  have hlt:d<t.kids.length:=by omega
  obtain⟨f,hf⟩:∃f,t.kids[d]?=some f:=⟨_,fv hlt⟩;obtain⟨o1,o2,o3⟩:=hok d f hf;have e1:=wT hf;have e2:=zb hf;have hxm:∀z,(x.go z).mo=m:=λz=>hx;have eD:iK x (t.kids.drop d) d s=iK x (t.kids.drop (d+1)) (d+1) (ke x d f s):=by rw[aU hf,iK]
  rw[eD];have key:Sst (tbulk f) (uN f) s (ke x d f s)∧∀M q,cI M P0 t (mkC x (ke x d f s)) (d+1) m m q→∃M',cI M' P0 t (mkC x s) d m m q:=by
   by_cases h2':f.kind=2
   ·obtain⟨g,g1,g2,g3⟩:=o2 h2';have eF:ke x d f s=rV (x.go (d:Int)) f g s:=by unfold ke;rw[if_pos h2',hx,g1];rfl
    rw[eF];obtain⟨a1,a2⟩:=JB (x:=x.go (d:Int)) (s:=s) (L:=L) (g:=g) o1 h2' g2 (by simp[Cx.go];omega) (by omega) (by omega) (by omega) g3 hsg;refine⟨a2,λM q h=>⟨M+2,lf (M+1) _ _ _ _ _ _ _ (⟨λ_=>⟨f,hf,_,lS (x:=x) (s:=s) (d:Int) (by omega),λ_=>⟨λh=>absurd (h.symm.trans g1) (by simp),λg' hg'=>?_⟩,λh=>absurd h2' h⟩,λh=>absurd hlt h⟩)⟩⟩;have hg'':aI ((m:Int),(d:Int)) x.sg=some g':=hg';rw[g1]at hg'';injection hg'' with hg''
    subst hg'';exact⟨_,a1,wD M _ _ _ _ _ _ _ (⟨_,ko (x:=x) (d:Int),by omega,h⟩)⟩
   ·obtain⟨b,hb,hty⟩:=o3 h2';have hb0:f.kids[0]?=some b:=by rw[hb];rfl
    have hbb:=aF hb0;have hf3:f.kind≠16∧f.kind≠9:=by rcases h16 d f hf with h|h<;>omega
    have hu:uN f=uN b:=by rw[gG,if_neg (by omega),hb];simp[uNs]
    have hc:=GL hpb (m:Int) (d:Int);obtain⟨sf,hsf⟩:∃sf,sf=(if hZ x.p (m:Int) (d:Int)=true then faP (x.go (d:Int)) 5 [] s else s):=⟨_,rfl⟩;have hsl:sf.fa.length≤s.fa.length+1∧sf.tg=s.tg:=by rw[hsf];split<;>simp[faP]
    have eA:ke x d f s=fc (tbulk f) ((x.go (d:Int)).go ((0:Nat):Int)) b sf:=by
     unfold ke wF;rw[if_neg h2',eo hb0,hxm,hsf];rfl
    rw[eA];obtain⟨a1,a2⟩:=BD (tbulk f) b (by omega) hty f 0 (x.go (d:Int)) sf hb0 (by simp[Cx.go];omega) (by omega) (by rw[hsl.2];omega);refine⟨⟨by rw[a2.tg,hsl.2,hu],by have :=a2.fa;omega⟩,λM q h=>⟨M+1,lf M _ _ _ _ _ _ _ (⟨λ_=>⟨f,hf,_,lS (x:=x) (s:=s) (d:Int) (by omega),λh=>absurd h h2',λ_=>⟨_,hc,λhcc=>?_,λhcc=>?_⟩⟩,λh=>absurd hlt h⟩)⟩⟩
    ·rw[if_pos hcc]at hsf;subst hsf;exact⟨_,eT (x:=x.go (d:Int)) (s:=s) 5 [] (by simp[Cx.go];omega) (by omega),_,a1,_,ko (x:=x) (d:Int),by omega,h⟩
    ·rw[if_neg (by rw[hcc];simp)]at hsf;subst hsf;exact⟨_,a1,_,ko (x:=x) (d:Int),by omega,h⟩
  obtain⟨k1,k2⟩:=key;generalize ke x d f s=s1 at k1 k2;have q1:=k1.fa;have q2:=k1.tg;obtain⟨b1,b2⟩:=Ky (P0:=P0) hx hpb hm hok h16 hsg hkl k (d+1) s1 (by omega) (by omega) (by omega) (by rw[q2,List.length_drop];omega) (by omega);refine⟨⟨by rw[b1.tg,q2,List.drop_drop,e2],by have :=b1.fa;omega⟩,λM q h=>?_⟩;obtain⟨M',hM⟩:=b2 M q h;exact k2 M' q hM
theorem Le{x:Cx}{P0:CKr}{L:Nat}(hP0:P0.p=x.p)(hpb:kbulk x.p≤10000000)(hok:∀(m:Nat) (t:Tree) (d:Nat) (f:Tree),x.p[m]?=some t→t.kids[d]?=some f→DefOk x.sg L m d f∧(f.kind=2∨f.kind=3))(hsg:∀k q,aI k x.sg=some q→KOk L q.result):∀(k m:Nat) (z:Int) (s:Sv),k+m=x.p.length→x.pa.length+kbulk (x.p.drop m)+4≤100000000→s.fa.length+4*kbulk (x.p.drop m)+1≤900000000→(∀(m:Nat) (t:Tree),x.p[m]?=some t→t.kind=1)→uNs (x.p.drop m)≤s.tg.length→L+kbulk (x.p.drop m)≤900000000→
  Sst (kbulk (x.p.drop m)) (uNs (x.p.drop m)) s (nS x (x.p.drop m) m s)∧∃M,fJ M P0 (mkC (x.md z) s) m (mkC (x.md (moF z (x.p.drop m) m)) (nS x (x.p.drop m) m s))
 |0,m,z,s,hk,_,_,_,_,_=>by
  have hd:x.p.drop m=[]:=List.drop_of_length_le (by omega);rw[hd];exact⟨⟨by simp[nS,uNs],by simp[nS]⟩,1,pT 0 _ _ _ _ (⟨λh=>absurd h (by rw[hP0];omega),λ_=>rfl⟩)⟩
 | k+1,m,z,s,hk,h1,h2,hk1,h3,h4=>by
  have hlt:m<x.p.length:=by omega
  obtain⟨t,ht⟩:∃t,x.p[m]?=some t:=⟨_,List.getElem?_eq_getElem hlt⟩;have e1:=wT ht;have e2:=zb ht;have hB:=aV t;have hU:uN t=uNs t.kids:=by rw[gG,hk1 m t ht];simp
  have hkl:=bB t;have hbt:=bt ht;have hlp:=gw x.p;obtain⟨a1,a2⟩:=Ky (x:=x.md (m:Int)) (P0:=P0) (t:=t) (m:=m) (L:=L) rfl hpb (by omega) (λd f hf=>(hok m t d f ht hf).1) (λd f hf=>(hok m t d f ht hf).2) hsg (by omega) t.kids.length 0 s (by omega) (by simp[Cx.md];omega) (by simp;omega) (by simp;omega) (by simp;omega);simp only[List.drop_zero]at a1 a2;have q1:=a1.fa;have q2:=a1.tg;obtain⟨s1,hs1⟩:∃s1,s1=iK (x.md (m:Int)) t.kids 0 s:=⟨_,rfl⟩;rw[←hs1]at a1 q1 q2;obtain⟨b1,M,hM⟩:=Le hP0 hpb hok hsg k (m+1) (m:Int) s1 (by omega) (by omega) (by omega) hk1 (by rw[q2,List.length_drop];omega) (by omega);have e:nS x (x.p.drop m) m s=nS x (x.p.drop (m+1)) (m+1) s1:=by rw[aU ht,nS,←hs1]
  have e':moF z (x.p.drop m) m=moF (m:Int) (x.p.drop (m+1)) (m+1):=by rw[aU ht,moF]
  rw[e,e'];obtain⟨M',hM'⟩:=a2 M (mkC (x.md (moF (m:Int) (x.p.drop (m+1)) (m+1))) (nS x (x.p.drop (m+1)) (m+1) s1)) λs2 hs2=>by
   rw[←hs1]at hs2;subst hs2;exact hM
  refine⟨⟨by rw[b1.tg,q2,List.drop_drop,e2,hU],by have :=b1.fa;omega⟩,M'+1,pT M' _ _ _ _ (⟨λ_=>⟨t,by rw[hP0];exact ht,hM'⟩,λh=>absurd (by rw[hP0];exact hlt) h⟩)⟩
def qv(p:List Tree)(nm:List ((Int×List UInt8)×ac))(wm:Int)(wp:List Int):Sv:=nS (cxN p nm wm wp) p 0 ⟨bW p,[],0,0⟩
theorem HP(O:bi p=true):∀(m:Nat) (t:Tree) (d:Nat) (f:Tree),p[m]?=some t→t.kids[d]?=some f→DefOk (sgM p p 0 []) (3*kbulk p+2) m d f∧(f.kind=2∨f.kind=3):=λm t d f h1 h2=>by
 have hs:=Dj O m t d f h1 h2;obtain⟨k1,Z⟩:=fw O h1;have hw:=sD k1 Z h2;have hb1:=bt h1;have hb2:=aF h2;have G:f.kind=2∨f.kind=3:=by rcases hw with h|h;exact .inl h.1;exact .inr h.1
 refine⟨⟨hs,λJ=>?_,λJ=>ug O h1 h2 (by rcases G with h|h;exact absurd h J;exact h)⟩,G⟩;obtain⟨q1,_⟩:=tC hs J;have U:=zD (P:=p) (key:=((m:Int),(d:Int))) p 0 m d [] t f h1 h2 J (by simp);rw[Nat.zero_add]at U;refine⟨_,U,by simp[fe];omega,λq hq=>?_⟩;have :=(BF (p:=p) (m:=(m:Int)) (f:=f) (B:=kbulk p) (by omega)).2 q hq;exact this.mono (by omega)
theorem Jw(G:bi p=true)(hb:kbulk p≤10000000)(nm:List ((Int×List UInt8)×ac))(wm:Int)(wp:List Int):Sst (kbulk p) (uNs p) ⟨bW p,[],0,0⟩ (qv p nm wm wp)∧∃z,iW (mkC (cxN p nm wm wp) ⟨bW p,[],0,0⟩) (mkC ((cxN p nm wm wp).md z) (qv p nm wm wp)):=by
 have ht:(bW p).length=uNs p:=by rw[bW,if_pos G,FC]
 obtain⟨J,M,O⟩:=Le (x:=cxN p nm wm wp) (P0:=mkC (cxN p nm wm wp) ⟨bW p,[],0,0⟩) (L:=3*kbulk p+2) rfl hb (HP G) (λk q U=>by
  rcases Bf k p 0 [] q U with⟨i,t,d,f,h1,h2,J,_,rfl⟩|h
  ·have Z:=bt h1;have hb2:=aF h2;exact(BF (B:=kbulk p) (by omega)).1.mono (by omega)
  ·cases h) p.length 0 0 ⟨bW p,[],0,0⟩ (by simp[cxN]) (by simp[cxN];omega) (by simp[cxN];omega) (λm t h=>(fw G h).1) (by simp[cxN];omega) (by simp[cxN];omega)
 exact⟨J,_,xd M _ _ (O)⟩
theorem Bo(p:List Tree)(hb:kbulk p≤1000000000):mP p (bi p):=by
 have J:=gw p;have loop:∀k i,k+i=p.length→lx (k+1) p i (bi (p.drop i)):=λk=>by
  induction k with
  |zero=>
   intro i hi;have G:p.drop i=[]:=List.drop_of_length_le (by omega);rw[G];exact tw 0 _ _ _ (⟨λh=>absurd h (by omega),λ_=>rfl⟩)
  |succ k ih=>
   intro i hi;obtain⟨t,ht⟩:∃t,p[i]?=some t:=⟨_,List.getElem?_eq_getElem (by omega)⟩;have :=bt ht;rw[aU ht,bi];refine tw (k+1) _ _ _ (⟨λ_=>⟨t,ht,λh=>by simp[h],λh=>⟨_,sx t (by omega),λh'=>by simp[h'],λh'=>⟨by omega,?_⟩⟩⟩,λh=>absurd (by omega) h⟩);have :=ih (i+1) (by omega);simpa[h,h']using this
 have :=loop p.length 0 (by omega);exact Ae (p.length+1) _ _ (by simpa using this)
theorem Av(hb:kbulk p≤10000000):(bi p=false→gm p [])∧(bi p=true→∃nm,pH p nm∧∀r,eG (qv p nm 0 []).fa r→gm p r):=by
 have J:=Bo p (by omega);refine⟨λG=>uJ 0 _ _ (⟨_,J,λ_=>rfl,λh=>(by rw[G]at h;cases h)⟩),λG=>?_⟩;obtain⟨nm,h1,h2⟩:=zp G hb;obtain⟨_,z,O⟩:=Jw G hb nm 0 [];exact⟨nm,h1,λr hs=>uJ 0 _ _ (⟨_,J,λh=>(by rw[G]at h;cases h),λ_=>⟨_,h2,_,O,_,hs,rfl⟩⟩)⟩
abbrev Ty:=ah
abbrev Bd:=ak
def lfT(k:Int)(n:Nat):Tree:=cb n (.node k [] [] [])
def noY:Ty:=⟨false,.node 0 [] [] []⟩
def TyR(k:Kn)(y:Ty):Prop:=(k.simple=0∧y.Known=false)∨(y.Known=true∧5≤k.simple∧k.simple≤7∧∃n:Nat,k.lists=(n:Int)∧y.T=lfT k.simple n)
theorem TyR.no:TyR ⟨0,0⟩ noY:=.inl ⟨rfl,rfl⟩
theorem TyR.leaf{k:Int}(h1:5≤k)(h2:k≤7):TyR ⟨k,0⟩ ⟨true,.node k [] [] []⟩:=.inr ⟨rfl,h1,h2,0,rfl,rfl⟩
theorem TyR.known{y:Ty}(h:TyR k y):y.Known=(k.simple !=0):=by
 rcases h with⟨h1,h2⟩|⟨h1,h2,_⟩
 ·rw[h2,h1];rfl
 ·rw[h1];have :k.simple≠0:=by omega
  simp[this]
theorem TyR.kn{y:Ty}(h:TyR k y)(hy:y.Known=true):k.simple≠0:=by
 have :=h.known;rw[hy]at this;simpa using this.symm
theorem TyR.un{y:Ty}(h:TyR k y)(hy:y.Known=false):k.simple=0:=by
 have :=h.known;rw[hy]at this;simpa using this.symm
theorem Kf{k k':Int}(h8:k≠8)(h8':k'≠8):∀n n':Nat,kG (lfT k n) (lfT k' n') (decide (k=k'∧n=n'))
 | 0,0=>by
  by_cases e:k=k'
  ·subst e;exact hJ 1 _ _ _ (⟨λh=>absurd rfl h,λ_=>⟨λh=>absurd rfl h,λ_=>⟨_,Aj [],λh=>(by cases h),λ_=>⟨λh=>absurd rfl h,λ_=>mz 0 _ _ _ _ (⟨λh=>by simp[lfT,cb,Tree.kids]at h,λ_=>by simp⟩)⟩⟩⟩⟩)
  ·exact hJ 0 _ _ _ (⟨λ_=>by simp[e],λh=>absurd h e⟩)
 |0,n'+1=>hJ 0 _ _ _ (⟨λ_=>by simp,λh=>absurd h h8⟩)
 |n+1,0=>hJ 0 _ _ _ (⟨λ_=>by simp,λh=>absurd h.symm h8'⟩)
 |n+1,n'+1=>by
  have h2:=Kf h8 h8' n n';have e:decide (k=k'∧n+1=n'+1)=decide (k=k'∧n=n'):=by simp
  rw[e];refine hJ 2 _ _ _ (⟨λh=>absurd rfl h,λ_=>⟨λh=>absurd rfl h,λ_=>⟨_,Aj [],λh=>(by cases h),λ_=>⟨λh=>absurd rfl h,λ_=>mz 1 _ _ _ _ (⟨λ_=>⟨_,rfl,_,rfl,_,h2,λh=>h.symm,λh=>?_⟩,λh=>by simp[lfT,cb,Tree.kids]at h⟩)⟩⟩⟩⟩);exact mz 0 _ _ _ _ (⟨λh=>by simp[lfT,cb,Tree.kids]at h,λ_=>h.symm⟩)
theorem nq{b:Kn}{y z:Ty}(O:TyR a y)(hb:TyR b z):bq y z (aZ a b):=by
 refine wZ 0 _ _ _ (⟨λh1=>⟨λh2=>?_,λh2=>?_⟩,λh1=>?_⟩)
 ·rcases O with⟨_,h⟩|⟨_,a1,a2,n,Z,a4⟩
  ·rw[h]at h1;cases h1
  rcases hb with⟨_,h⟩|⟨_,b1,b2,G,b3,b4⟩
  ·rw[h]at h2;cases h2
  refine⟨_,by rw[a4,b4];exact Kf (by omega) (by omega) n G,?_⟩;have e1:(a.simple !=0)=true:=by simp;omega
  have e2:(b.simple !=0)=true:=by simp;omega
  unfold aZ;rw[e1,e2,Z,b3];by_cases J:a.simple=b.simple
  ·by_cases U:n=G
   ·simp[J,U]
   ·have :¬((n:Int)=(G:Int)):=by omega
    simp[J,U,this]
  ·simp[J]
 ·simp[aZ,hb.un h2]
 ·simp[aZ,O.un h1]
theorem iO(k:Int):bp k ⟨true,.node k [] [] []⟩:=yk 0 _ _ (rfl)
theorem wa{y:Ty}(G:TyR a y){k:Int}(h1:5≤k)(h2:k≤7):db y k (a.simple==k&&a.lists==0):=by
 refine Ac 0 _ _ _ (⟨λh=>?_,λh=>?_⟩)
 ·rcases G with⟨_,h'⟩|⟨_,a1,Z,n,J,O⟩
  ·rw[h']at h;cases h
  rw[O,J];cases n with
  |zero=>simp[lfT,cb,Tree.kind]
  |succ n=>
   have e:¬(8=k):=by omega
   have U:¬((n+1:Nat):Int)=0:=by omega
   show(8==k)=(a.simple==k&&((n+1:Nat):Int)==0);rw[beq_eq_false_iff_ne.2 e,beq_eq_false_iff_ne.2 U,Bool.and_false]
 ·have :=G.un h;have e:¬(0=k):=by omega
  rw[this,beq_eq_false_iff_ne.2 e,Bool.false_and]
theorem ET{p:List Tree}(hp:bi p=true)(k:Nat):∀(f:Nat) (seen:List (Int×Int)) (n:Nat) (M:Int) (u:Tree),oA p seen→kbulk p+1≤f+seen.length→tyK u→u.kind≠8→
  (dO p f seen (k+n) M u).2=(dO p f seen n M u).2∧((dO p f seen n M u).2=0→(dO p f seen (k+n) M u).1=cb k (dO p f seen n M u).1)
 |0,seen,n,M,u,hs,hf,_,_=>by
  have :=oK hs;omega
 | f +1,seen,n,M,u,hs,hf,hu,h8=>by
  by_cases h9:u.kind=9
  ·rw[dO,dO,if_pos h9,if_pos h9];by_cases hfd:(ba p M u.text).2.2=false
   ·rw[if_pos hfd,if_pos hfd];exact⟨rfl,λh=>(by cases h)⟩
   ·rw[if_neg hfd,if_neg hfd];have hfd':(ba p M u.text).2.2=true:=by simpa using hfd
    obtain⟨i,d,t,a,b',g1,g2,g3,g4,g5,g6,g7⟩:=rW hp h9 hu.1 hfd';rw[g1,g2];by_cases hm:((i:Int),(d:Int))∈seen
    ·rw[if_pos hm,if_pos hm];exact⟨rfl,λh=>(by cases h)⟩
    ·rw[if_neg hm,if_neg hm,sv g3 g4 g6];obtain⟨t1,t2,t3⟩:=lU b' g7;have :=ET hp k f (((i:Int),(d:Int))::seen) (n+lisK b') i (leafK b') (nj hs g3 g4 hm) (by simp only[List.length_cons];omega) t1 t2;rw[←Nat.add_assoc]at this;exact this
  ·rw[dO,dO,if_neg h9,if_neg h9];exact⟨rfl,λ_=>(vO _ _ _).symm⟩
def wrY(p:List Tree)(m:Int)(t:Tree):Ty:=⟨(dO p (kbulk p+1) [] (lisK t) m (leafK t)).2==0,(dO p (kbulk p+1) [] (lisK t) m (leafK t)).1⟩
theorem yT(G:bi p=true)(hb:kbulk p≤10000000)(J:0≤m)(h1:m<p.length)(ht:tyK t)(O:tbulk t≤10000000){c:CHr}(U:c.P=p):bj c m t (wrY p m t) c:=by
 obtain⟨Z,l2,l3⟩:=lU t ht;obtain⟨b1,b2⟩:=kL t;have hx:=cx (leafK t);obtain⟨M,hM⟩:=EA G hb (kbulk p+1) [] [] (lisK t) m (leafK t) ⟨List.nodup_nil,by simp⟩ (by simp) (by simp) rfl Z l2 J h1 (by omega);have hbare:=Kj t (by omega);rw[l3]at hbare;exact sp 1 _ _ _ _ _ (⟨_,_,by rw[U];exact yt M _ _ _ _ _ (⟨_,hbare,hM⟩),sa 0 _ _ _ _ _ (⟨rfl,rfl⟩)⟩)
theorem BK(Z:bi p=true)(h0:0≤m)(h1:m<p.length)(ht:tyK t):TyR (tyN p m t) (wrY p m t):=by
 obtain⟨G,l2,l3⟩:=lU t ht;have hk:5≤(leafK t).kind∧(leafK t).kind≤9:=by simpa[jr]using G.2
 obtain⟨e1,e2⟩:=jB l2;by_cases O:(leafK t).kind=9
 ·have hx:=DV (p:=p) (m:=m) G O;have hg:oN p m (leafK t)=dO p (kbulk p+1) [] 0 m (leafK t):=by
   unfold oN;rw[if_pos ⟨Z,h0,h1,G.2,G.1⟩,e1,e2]
  have U:=ET Z (lisK t) (kbulk p+1) [] 0 m (leafK t) ⟨List.nodup_nil,by simp⟩ (by simp) G l2;rw[show lisK t+0=lisK t from rfl,←hg,hx]at U;obtain⟨f1,f2,f3⟩:=Cl p m (leafK t).text;unfold tyN wrY;rw[if_pos O,U.1];by_cases J:(oN p m (.node 9 (leafK t).text [] [])).2=0
  ·obtain⟨n,k,g1,g2,g3,g4,g5⟩:=f3 J;rw[U.2 J,g1,g4,if_neg (by simp only;omega),J,vO];exact .inr ⟨rfl,g2,g3,lisK t+n,by simp only;omega,rfl⟩
  ·have e:nmK p m (leafK t).text=⟨0,0⟩:=by unfold nmK;rw[if_neg J]
   rw[e,if_pos rfl];exact .inl ⟨rfl,by simpa using J⟩
 ·unfold tyN wrY;rw[if_neg O,dO,if_neg O];exact .inr ⟨rfl,hk.1,by simp only[knK];omega,lisK t,rfl,rfl⟩
abbrev FE:=ae
def js(a b:Int):Int:=if a<b then-1 else if b<a then 1 else 0
def dv:List Int→List Int→Int
 |[],[]=>0
 |[],_::_=>-1
 |_::_,[]=>1
 |a::r,b::s=>if js a b≠0 then js a b else dv r s
def iS(a b:FE):Int:=if js a.At.Module b.At.Module≠0 then js a.At.Module b.At.Module else if dv a.At.Path b.At.Path≠0 then dv a.At.Path b.At.Path else js a.Kind b.Kind
theorem ifz{c d:Int}(h:c=0):(if c≠0 then c else d)=d:=if_neg (by simp[h])
theorem ifn{c d:Int}(h:c≠0):(if c≠0 then c else d)=c:=if_pos h
structure Tot {α:Type} (c:α→α→Int):Prop where
 eq:∀a b,c a b=0↔a=b
 an:∀a b,c a b<0↔0<c b a
 tr:∀a b d,c a b<0→c b d<0→c a d<0
theorem tQ:Tot js:=⟨λa b=>by unfold js;split<;>(try split)<;>omega,λa b=>by unfold js;(repeat' split)<;>omega,λa b d=>by unfold js;(repeat' split)<;>omega⟩
theorem GQ:∀a b:List Int,dv a b=0↔a=b
 |[],[]=>by simp[dv]
 |[],_::_=>by simp[dv]
 |_::_,[]=>by simp[dv]
 | a::r,b::s=>by
  simp only[dv,List.cons.injEq];have h1:=tQ.eq a b;have h2:=GQ r s;split
  ·rename_i h;exact⟨λe=>absurd e h,λe=>absurd (h1.2 e.1) h⟩
  ·rename_i h;have h':js a b=0:=Decidable.not_not.1 h;exact⟨λe=>⟨h1.1 h',h2.1 e⟩,λe=>h2.2 e.2⟩
theorem HU:∀a b:List Int,dv a b<0↔0<dv b a
 |[],[]=>by simp[dv]
 |[],_::_=>by simp[dv]
 |_::_,[]=>by simp[dv]
 | a::r,b::s=>by
  have h1:=tQ.an a b;have h2:=tQ.eq a b;have h3:=tQ.eq b a;have h4:=HU r s;simp only[dv];by_cases h:a=b
  ·subst h;rw[ifz (h2.2 rfl),ifz (h2.2 rfl)];exact h4
  ·rw[ifn (λe=>h (h2.1 e)),ifn (λe=>h (h3.1 e).symm)];exact h1
theorem Hm:∀a b d:List Int,dv a b<0→dv b d<0→dv a d<0
 |[],[],d,h,_=>by simp[dv]at h
 |[],_::_,[],_,h=>by simp[dv]at h
 |[],_::_,_::_,_,_=>by simp[dv]
 |_::_,[],d,h,_=>by simp[dv]at h
 |_::_,_::_,[],_,h=>by simp[dv]at h
 | a::r,b::s,d::t,h,k=>by
  simp only[dv]at h k⊢;have h1:=tQ.eq a b;have h2:=tQ.eq b d;have h3:=tQ.eq a d;have h4:=tQ.tr a b d;by_cases e:a=b
  ·subst e;rw[ifz (h1.2 rfl)]at h;by_cases e2:a=d
   ·subst e2;rw[ifz (h1.2 rfl)]at k⊢;exact Hm r s t h k
   ·rw[ifn (λx=>e2 (h3.1 x))]at k⊢;exact k
  ·rw[ifn (λx=>e (h1.1 x))]at h;by_cases e2:b=d
   ·subst e2;rw[ifn (λx=>e (h1.1 x))];exact h
   ·rw[ifn (λx=>e2 (h2.1 x))]at k;have :=h4 h k;rw[ifn (c:=js a d) (by omega)];exact this
theorem Ss:Tot dv:=⟨GQ,HU,Hm⟩
theorem tK:Tot iS:=by
 have z:=tQ;have l:=Ss;refine⟨λa b=>?_,λa b=>?_,λa b d=>?_⟩
 ·obtain⟨⟨m,p⟩,k⟩:=a;obtain⟨⟨m',p'⟩,k'⟩:=b;simp only[iS,ae.mk.injEq,dL.mk.injEq];have h1:=z.eq m m';have h2:=l.eq p p';have h3:=z.eq k k';by_cases e1:js m m'=0
  ·rw[ifz e1];by_cases e2:dv p p'=0
   ·rw[ifz e2];exact⟨λe=>⟨⟨h1.1 e1,h2.1 e2⟩,h3.1 e⟩,λe=>h3.2 e.2⟩
   ·rw[ifn e2];exact⟨λe=>absurd e e2,λe=>absurd (h2.2 e.1.2) e2⟩
  ·rw[ifn e1];exact⟨λe=>absurd e e1,λe=>absurd (h1.2 e.1.1) e1⟩
 ·simp only[iS];have h1:=z.eq a.At.Module b.At.Module;have h1':=z.eq b.At.Module a.At.Module;have h2:=l.eq a.At.Path b.At.Path;have h2':=l.eq b.At.Path a.At.Path;have g1:=z.an a.At.Module b.At.Module;have g2:=l.an a.At.Path b.At.Path;have g3:=z.an a.Kind b.Kind;by_cases e1:a.At.Module=b.At.Module
  ·rw[ifz (h1.2 e1),ifz (h1'.2 e1.symm)];by_cases e2:a.At.Path=b.At.Path
   ·rw[ifz (h2.2 e2),ifz (h2'.2 e2.symm)];exact g3
   ·rw[ifn (λe=>e2 (h2.1 e)),ifn (λe=>e2 (h2'.1 e).symm)];exact g2
  ·rw[ifn (λe=>e1 (h1.1 e)),ifn (λe=>e1 (h1'.1 e).symm)];exact g1
 ·simp only[iS];have h1:=z.eq a.At.Module b.At.Module;have h2:=z.eq b.At.Module d.At.Module;have h3:=z.eq a.At.Module d.At.Module;have p1:=l.eq a.At.Path b.At.Path;have p2:=l.eq b.At.Path d.At.Path;have p3:=l.eq a.At.Path d.At.Path;have t1:=z.tr a.At.Module b.At.Module d.At.Module;have t2:=l.tr a.At.Path b.At.Path d.At.Path;have t3:=z.tr a.Kind b.Kind d.Kind;intro h k;by_cases e1:a.At.Module=b.At.Module
  ·rw [ifz (h1.2 e1)]at h;by_cases e2:b.At.Module=d.At.Module
   ·rw[ifz (h2.2 e2)]at k;rw[ifz (h3.2 (e1.trans e2))];by_cases f1:a.At.Path=b.At.Path
    ·rw[ifz (p1.2 f1)]at h;by_cases f2:b.At.Path=d.At.Path
     ·rw[ifz (p2.2 f2)]at k;rw[ifz (p3.2 (f1.trans f2))];exact t3 h k
     ·rw[ifn (λe=>f2 (p2.1 e))]at k;rw[f1,ifn (λe=>f2 (p2.1 e))];exact k
    ·rw[ifn (λe=>f1 (p1.1 e))]at h;by_cases f2:b.At.Path=d.At.Path
     ·rw[←f2,ifn (λe=>f1 (p1.1 e))];exact h
     ·rw[ifn (λe=>f2 (p2.1 e))]at k;have :=t2 h k;rw[ifn (c:=dv a.At.Path d.At.Path) (by omega)];exact this
   ·rw[ifn (λe=>e2 (h2.1 e))]at k;rw[e1,ifn (λe=>e2 (h2.1 e))];exact k
  ·rw[ifn (λe=>e1 (h1.1 e))]at h;by_cases e2:b.At.Module=d.At.Module
   ·rw[←e2,ifn (λe=>e1 (h1.1 e))];exact h
   ·rw[ifn (λe=>e2 (h2.1 e))]at k;have :=t1 h k;rw[ifn (c:=js a.At.Module d.At.Module) (by omega)];exact this
def leE(a b:FE):Prop:=¬iS b a<0
variable{b:FE}
theorem nZ{a:FE}(h:iS a b<0):leE a b:=λk=>by have :=(tK.an a b).1 h;omega
theorem AV(a:FE):leE a a:=λh=>by have :=(tK.eq a a).2 rfl;omega
theorem Ge{a:FE}(h:leE a b)(k:leE b a):a=b:=by
 have h1:=tK.an a b;have h2:=tK.an b a;unfold leE at h k;exact(tK.eq a b).1 (by omega)
theorem ms{a d:FE}(h:leE a b)(k:leE b d):leE a d:=by
 by_cases G:a=b
 ·rw[G];exact k
 by_cases J:b=d
 ·rw[←J];exact h
 have h1:=tK.an a b;have h2:=tK.an b a;have Z:=tK.an b d;have h4:=tK.an d b;have O:=tK.eq a b;have U:=tK.eq b d;unfold leE at h k;exact nZ (tK.tr a b d (by have :iS a b≠0:=λe=>G (O.1 e);omega) (by have :iS b d≠0:=λe=>J (U.1 e);omega))
abbrev cS(l:List FE):Prop:=l.Pairwise leE
theorem yx:∀{a b:List FE},cS a→cS b→a.Perm b→a=b
 |[],b,_,_,h=>(List.Perm.nil_eq h)
 |x::r,[],_,_,h=>by have :=h.length_eq;simp at this
 | x::r,y::s,ha,hb,h=>by
  rw[cS,List.pairwise_cons]at ha hb;have e:x=y:=by
   have hx:x∈y::s:=h.mem_iff.1 (by simp);have hy:y∈x::r:=h.mem_iff.2 (by simp);rcases List.mem_cons.1 hx with hx|hx
   ·exact hx
   ·rcases List.mem_cons.1 hy with hy|hy
    ·exact hy.symm
    ·exact Ge (ha.1 y hy) (hb.1 x hx)
  subst e;rw[yx ha.2 hb.2 (List.Perm.cons_inv h)]
theorem DX(a b:Int):nh a b (js a b):=by
 have G:∀z,ta z false:=λz=>EL 0 _ _ (by simp);unfold js;refine Cp 0 _ _ _ (⟨_,G a,_,G b,λh=>(by cases h),λ_=>⟨λh=>(by cases h),λ_=>⟨λh=>?_,λh=>⟨λh'=>?_,λh'=>?_⟩⟩⟩⟩)
 ·rw[if_pos h]
 ·rw[if_neg h,if_pos h']
 ·rw[if_neg h,if_neg h']
theorem nk{α:Type}(l:List α)(i:Nat):(∃x r,l.drop i=x::r∧l[i]?=some x∧l.drop (i+1)=r∧i<l.length)∨(l.drop i=[]∧l.length≤i):=by
 by_cases h:i<l.length
 ·exact .inl ⟨l[i],l.drop (i+1),List.drop_eq_getElem_cons h,List.getElem?_eq_getElem h,rfl,h⟩
 ·exact .inr ⟨List.drop_of_length_le (by omega),by omega⟩
theorem Rk(p q:List Int)(hp:p.length≤1000000000):qE p q (dv p q):=by
 have loop:∀k i,p.length-i≤k→i≤p.length→lF (k+1) p q i (dv (p.drop i) (q.drop i)):=λk=>by
  induction k with
  | zero=>
   intro i hi hip;have e:p.drop i=[]:=List.drop_of_length_le (by omega);rw[e];refine ou 0 _ _ _ _ (⟨λh=>absurd h (by omega),λ_=>⟨λh=>?_,λh=>?_⟩⟩)
   ·rcases nk q i with⟨x,r,e1,_⟩|⟨e1,e2⟩
    ·rw[e1];rfl
    ·omega
   ·rcases nk q i with⟨x,r,e1,_,_,e2⟩|⟨e1,e2⟩
    ·omega
    ·rw[e1];rfl
  | succ k ih=>
   intro i hi hip;rcases nk p i with⟨x,r,e1,e2,e3,e4⟩|⟨e1,e2⟩
   ·refine ou (k+1) _ _ _ _ (⟨λh=>⟨x,e2,λh'=>?_,λh'=>?_⟩,λh=>absurd e4 h⟩)
    ·have :q.drop i=[]:=List.drop_of_length_le h';rw[e1,this];rfl
    ·rcases nk q i with⟨y,s,g1,g2,g3,g4⟩|⟨g1,g2⟩
     ·refine⟨y,g2,_,DX x y,λhz=>?_,λhz=>⟨by omega,?_⟩⟩
      ·rw[e1,g1,dv,ifn hz]
      ·rw[e1,g1,dv,ifz hz,←e3,←g3];exact ih (i+1) (by omega) (by omega)
     ·omega
   ·rw[e1];refine ou (k+1) _ _ _ _ (⟨λh=>absurd h (by omega),λ_=>⟨λh=>?_,λh=>?_⟩⟩)
    ·rcases nk q i with⟨y,s,g1,_⟩|⟨g1,g2⟩
     ·rw[g1];rfl
     ·omega
    ·rcases nk q i with⟨y,s,g1,_,_,g4⟩|⟨g1,g2⟩
     ·omega
     ·rw[g1];rfl
 have :=loop p.length 0 (by omega) (by omega);exact Af (p.length+1) _ _ _ (by simpa using this)
abbrev PbE(a:FE):Prop:=a.At.Path.length≤1000000000
theorem yX{a:FE}(h:PbE a):gr a b (iS a b):=by
 unfold iS;refine zj 0 _ _ _ (⟨_,DX _ _,λh1=>?_,λh1=>⟨_,Rk _ _ h,λh2=>?_,λh2=>⟨_,DX _ _,?_⟩⟩⟩)
 ·rw[ifn h1]
 ·rw[ifz h1,ifn h2]
 ·rw[ifz h1,ifz h2]
variable{n:Nat}
theorem fq{α:Type}{pre post:List α}{x:α}(h:pre.length=n):(pre++x::post)[n]?=some x:=by
 subst h;rw[List.getElem?_append_right (Nat.le_refl _)];simp
theorem nr{α:Type}{pre post:List α}{x y:α}(h:pre.length=n):(pre++x::post).set n y=pre++y::post:=by
 subst h;rw[List.set_append_right _ _ (Nat.le_refl _)];simp
theorem Hf:∀(X Y pre mid post:List FE) (i:Nat) (p1 p2 p3:Int),X.length=Y.length→p1+(i:Int)=(pre.length:Nat)→p2+(i:Int)=(pre.length+X.length+mid.length:Nat)→p3=((i+X.length:Nat):Int)→pre.length+X.length+X.length+mid.length+Y.length+i≤1000000000→
  L0_slices_swapRangeCmpFunc (X.length+1) p1 p2 p3 (pre++X++mid++Y++post) i (pre++Y++mid++X++post)
 |[],[],pre,mid,post,i,p1,p2,p3,_,h1,h2,h3,_=>ml 0 _ _ _ _ _ _ (⟨λh=>absurd h (by simp at h3;omega),λ_=>by simp⟩)
 |[],_::_,_,_,_,_,_,_,_,h,_,_,_,_=>by simp at h
 |_::_,[],_,_,_,_,_,_,_,h,_,_,_,_=>by simp at h
 | x::X,y::Y,pre,mid,post,i,p1,p2,p3,hl,h1,h2,h3,hb=>by
  simp only[List.length_cons]at hl h2 h3 hb;have ih:=Hf X Y (pre++[y]) (mid++[x]) post (i+1) p1 p2 p3 (by omega) (by simp;omega) (by simp;omega) (by omega) (by simp;omega);have e0:pre++(x::X)++mid++(y::Y)++post=(pre++x::X++mid)++y::(Y++post):=by simp
  have e1:pre++(x::X)++mid++(y::Y)++post=pre++x::(X++mid++y::Y++post):=by simp
  have s1:(pre++(x::X)++mid++(y::Y)++post).set pre.length y=(pre++y::X++mid)++y::(Y++post):=by rw[e1,nr rfl];simp
  have s2:((pre++(x::X)++mid++(y::Y)++post).set pre.length y).set (pre.length+(X.length+1)+mid.length) x=pre++[y]++X++(mid++[x])++Y++post:=by
   rw[s1,nr (by simp;omega)];simp
  have g1:(pre++(x::X)++mid++(y::Y)++post)[pre.length+(X.length+1)+mid.length]?=some y:=by rw[e0];exact fq (by simp;omega)
  have g2:(pre++(x::X)++mid++(y::Y)++post)[pre.length]?=some x:=by rw[e1];exact fq rfl
  have g3:((pre++(x::X)++mid++(y::Y)++post).set pre.length y)[pre.length+(X.length+1)+mid.length]?=some y:=by rw[s1];exact fq (by simp;omega)
  refine ml (X.length+1) _ _ _ _ _ _ (⟨λ_=>⟨⟨by omega,by omega⟩,⟨by omega,by omega⟩,⟨by omega,by omega⟩,pre.length+(X.length+1)+mid.length,by omega,y,g1,⟨by omega,by omega⟩,pre.length,h1,x,g2,pre.length,h1,x,g2,pre.length+(X.length+1)+mid.length,by omega,y,g3,by omega,?_⟩,λh=>absurd (by omega) h⟩);rw[s2];simpa using ih
theorem FD(pre X mid Y post:List FE)(G:X.length=Y.length)(hb:pre.length+X.length+mid.length+Y.length≤400000000){p1 p2 p3:Int}(h1:p1=(pre.length:Nat))(h2:p2=(pre.length+X.length+mid.length:Nat))(J:p3=(X.length:Nat)):dM (pre++X++mid++Y++post) p1 p2 p3 (pre++Y++mid++X++post):=
 rS_slices_swapRangeCmpFunc (X.length+1) _ _ _ _ _ (Hf X Y pre mid post 0 p1 p2 p3 G (by omega) (by omega) (by omega) (by omega))
theorem FR:∀(n:Nat) (X Y pre post:List FE) (p2:Int),X.length+Y.length≤n→0<X.length→0<Y.length→p2=(pre.length+X.length:Nat)→pre.length+X.length+Y.length≤400000000→
  ∃M,ew M p2 (pre++X++Y++post) (X.length:Nat) (Y.length:Nat) (pre++Y++X++post)
 |0,X,Y,pre,post,p2,hn,hx,hy,_,_=>by omega
 | n+1,X,Y,pre,post,p2,hn,hx,hy,h2,hb=>by
  rcases Nat.lt_trichotomy X.length Y.length with h|h|h
  ·obtain⟨Y1,Y2,rfl,hl1,hl2⟩:∃Y1 Y2,Y=Y1++Y2∧Y1.length=Y.length-X.length∧Y2.length=X.length:=⟨Y.take (Y.length-X.length),Y.drop (Y.length-X.length),by simp,by simp,by simp;omega⟩;simp only[List.length_append]at hl1 h hn hb hy;obtain⟨M,hM⟩:=FR n Y2 Y1 pre (X++post) p2 (by omega) (by omega) (by omega) (by omega) (by omega);have hs:=FD pre X Y1 Y2 post (by omega) (by omega) (p1:=p2-(X.length:Nat)) (p2:=p2+((Y1.length+Y2.length:Nat):Int)-(X.length:Nat)) (p3:=(X.length:Nat)) (by omega) (by omega) rfl;refine⟨M+1,jF M _ _ _ _ _ (⟨λ_=>⟨λh'=>absurd h' (by simp;omega),λ_=>⟨⟨by omega,by omega⟩,⟨by simp;omega,by simp;omega⟩,⟨by simp;omega,by simp;omega⟩,_,by simpa using hs,⟨by simp;omega,by simp;omega⟩,?_⟩⟩,λh'=>absurd h' (by simp;omega)⟩)⟩;have e:((Y1++Y2).length:Int)-(X.length:Nat)=(Y1.length:Nat):=by simp;omega
   rw[e,show((X.length:Nat):Int)=(Y2.length:Nat) by omega];simpa using hM
  ·have hs:=FD pre X [] Y post h (by simp;omega) (p1:=p2-(X.length:Nat)) (p2:=p2) (p3:=(X.length:Nat)) (by omega) (by simp;omega) rfl;exact⟨1,jF 0 _ _ _ _ _ (⟨λh'=>absurd (by omega) h',λ_=>⟨⟨by omega,by omega⟩,_,by simpa using hs,rfl⟩⟩)⟩
  ·obtain⟨X1,X2,rfl,hl1,hl2⟩:∃X1 X2,X=X1++X2∧X1.length=Y.length∧X2.length=X.length-Y.length:=⟨X.take Y.length,X.drop Y.length,by simp,by simp;omega,by simp⟩;simp only[List.length_append]at hl2 h hn hb hx h2;obtain⟨M,hM⟩:=FR n X2 X1 (pre++Y) post p2 (by omega) (by omega) (by omega) (by simp;omega) (by simp;omega);have hs:=FD pre X1 X2 Y post hl1 (by omega) (p1:=p2-((X1.length+X2.length:Nat):Int)) (p2:=p2) (p3:=(Y.length:Nat)) (by omega) (by omega) (by omega);refine⟨M+1,jF M _ _ _ _ _ (⟨λ_=>⟨λ_=>⟨⟨by simp;omega,by simp;omega⟩,_,by simpa using hs,⟨by simp;omega,by simp;omega⟩,?_⟩,λh'=>absurd (by simp;omega) h'⟩,λh'=>absurd h' (by simp;omega)⟩)⟩;have e:((X1++X2).length:Int)-(Y.length:Nat)=(X2.length:Nat):=by simp;omega
   rw[e,show((Y.length:Nat):Int)=(X1.length:Nat) by omega];simpa using hM
theorem RE(pre X Y post:List FE)(hx:0<X.length)(hy:0<Y.length)(hb:pre.length+X.length+Y.length≤400000000){p1 p2 p3:Int}(h1:p1=(pre.length:Nat))(h2:p2=(pre.length+X.length:Nat))(J:p3=(pre.length+X.length+Y.length:Nat)):kZ (pre++X++Y++post) p1 p2 p3 (pre++Y++X++post):=by
 obtain⟨M,G⟩:=FR (X.length+Y.length) X Y pre post p2 (Nat.le_refl _) hx hy h2 hb;refine vo M _ _ _ _ _ (⟨⟨by omega,by omega⟩,⟨by omega,by omega⟩,?_⟩);rw[show p2-p1=(X.length:Nat) by omega,show p3-p2=(Y.length:Nat) by omega];exact G
theorem uD{a b:List FE}(G:cS a)(hb:cS b)(h:∀x∈a,∀y∈b,leE x y):cS (a++b):=List.pairwise_append.2 ⟨G,hb,h⟩
theorem iN{a b:List FE}(h:cS (a++b)):cS a:=(List.pairwise_append.1 h).1
theorem jw{a b:List FE}(h:cS (a++b)):cS b:=(List.pairwise_append.1 h).2.1
theorem mj{a b:List FE}(h:cS (a++b)):∀x∈a,∀y∈b,leE x y:=(List.pairwise_append.1 h).2.2
theorem KU{pre post:List FE}{a b i:Int}(ha:a=(pre.length:Nat))(hi:InI (i+1)):∀(n:Nat) (P Q:List FE) (x:FE),P.length=n→PbE x→cS (P++Q)→(∀q∈Q,leE x q)→pre.length+n+Q.length+1≤1000000000→
  ∃S:List FE,S.Perm (P++x::Q)∧cS S∧∀M r,cm M a b (i+1) (pre++S++post) r→∃M',dN M' a b (pre++(P++x::Q)++post) ((pre.length+n:Nat):Int) i r
 |0,P,Q,x,hl,hx,hs,hq,hb=>by
  have :P=[]:=List.eq_nil_of_length_eq_zero hl;subst this;exact⟨x::Q,List.Perm.refl _,List.pairwise_cons.2 ⟨hq,hs⟩,λM r h=>⟨M+1,fW M _ _ _ _ _ _ (⟨λh'=>absurd h' (by omega),λ_=>⟨hi,h⟩⟩)⟩⟩
 | n+1,P,Q,x,hl,hx,hs,hq,hb=>by
  obtain⟨P',p,rfl⟩:∃P' p,P=P'++[p]:=⟨P.dropLast,P.getLast (λh=>by subst h;simp at hl),(List.dropLast_concat_getLast _).symm⟩;simp only[List.length_append,List.length_cons,List.length_nil]at hl;have hl':P'.length=n:=by omega
  have g1:(pre++(P'++[p]++x::Q)++post)[pre.length+(n+1)]?=some x:=by
   rw[show pre++(P'++[p]++x::Q)++post=(pre++P'++[p])++x::(Q++post) by simp];exact fq (by simp;omega)
  have e2:pre++(P'++[p]++x::Q)++post=(pre++P')++p::(x::Q++post):=by simp
  have g2:(pre++(P'++[p]++x::Q)++post)[pre.length+n]?=some p:=by rw[e2];exact fq (by simp;omega)
  have i1:InI (((pre.length+(n+1):Nat):Int)-1):=⟨by omega,by omega⟩;by_cases hc:iS x p<0
  ·have s1:(pre++(P'++[p]++x::Q)++post).set (pre.length+(n+1)) p=(pre++P')++p::(p::Q++post):=by
    rw[show pre++(P'++[p]++x::Q)++post=(pre++P'++[p])++x::(Q++post) by simp,nr (by simp;omega)];simp
   have s2:((pre++(P'++[p]++x::Q)++post).set (pre.length+(n+1)) p).set (pre.length+n) x=pre++(P'++x::(p::Q))++post:=by
    rw[s1,nr (by simp;omega)];simp
   have g3:((pre++(P'++[p]++x::Q)++post).set (pre.length+(n+1)) p)[pre.length+n]?=some p:=by rw[s1];exact fq (by simp;omega)
   obtain⟨S,h1,h2,h3⟩:=KU (pre:=pre) (post:=post) (b:=b) ha hi n P' (p::Q) x hl' hx (by simpa using hs) (λq hq'=>by
    rcases List.mem_cons.1 hq' with rfl|h
    ·exact nZ hc
    ·exact hq q h) (by simp;omega)
   refine⟨S,h1.trans ?_,h2,λM r h=>?_⟩
   ·rw[List.append_assoc];exact List.Perm.append_left _ (List.Perm.swap _ _ _)
   ·obtain⟨M',hM⟩:=h3 M r h;refine⟨M'+1,fW M' _ _ _ _ _ _ (⟨λ_=>⟨_,rfl,x,g1,i1,pre.length+n,by omega,p,g2,_,yX hx,λ_=>⟨i1,i1,pre.length+n,by omega,p,g2,_,rfl,x,g1,_,rfl,x,g1,pre.length+n,by omega,p,g3,i1,?_⟩,λh=>absurd hc h⟩,λh=>absurd (by omega) h⟩)⟩;rw[s2,show((pre.length+(n+1):Nat):Int)-1=((pre.length+n:Nat):Int) by omega];exact hM
  ·refine⟨P'++[p]++x::Q,List.Perm.refl _,?_,λM r h=>⟨M+1,fW M _ _ _ _ _ _ (⟨λ_=>⟨_,rfl,x,g1,i1,pre.length+n,by omega,p,g2,_,yX hx,λh=>absurd h hc,λ_=>⟨hi,h⟩⟩,λh=>absurd (by omega) h⟩)⟩⟩;refine uD (iN hs) (List.pairwise_cons.2 ⟨hq,jw hs⟩) λu hu v hv=>?_;have hup:leE u p:=by
    rcases List.mem_append.1 hu with h|h
    ·exact mj (iN hs) u h p (by simp)
    ·simp only[List.mem_singleton]at h;rw[h];exact AV p
   rcases List.mem_cons.1 hv with rfl|h
   ·exact ms hup hc
   ·exact mj hs u hu v h
theorem LL{pre post:List FE}{a b:Int}(ha:a=(pre.length:Nat)):∀(R P:List FE),cS P→(∀x∈R,PbE x)→b=(pre.length+P.length+R.length:Nat)→pre.length+P.length+R.length+1≤1000000000→
  ∃S:List FE,S.Perm (P++R)∧cS S∧∃M,cm M a b ((pre.length+P.length:Nat):Int) (pre++P++R++post) (pre++S++post)
 |[],P,hP,_,hb,hl=>⟨P,by simp,hP,1,fV 0 _ _ _ _ _ (⟨λh=>absurd h (by simp at hb;omega),λ_=>by simp⟩)⟩
 | x::R,P,hP,hR,hb,hl=>by
  simp only[List.length_cons]at hb hl;obtain⟨S1,h1,h2,h3⟩:=KU (pre:=pre) (post:=R++post) (a:=a) (b:=b) (i:=((pre.length+P.length:Nat):Int)) ha ⟨by omega,by omega⟩ P.length P [] x rfl (hR x (by simp)) (by simpa using hP) (λq hq=>by simp at hq) (by simp;omega);have hl1:=h1.length_eq;simp only[List.length_append,List.length_cons,List.length_nil]at hl1;obtain⟨S,g1,g2,M,hM⟩:=LL (post:=post) ha R S1 h2 (λy hy=>hR y (by simp[hy])) (b:=b) (by omega) (by omega);obtain⟨M',hM'⟩:=h3 M (pre++S++post) (by
   rw[show((pre.length+P.length:Nat):Int)+1=((pre.length+S1.length:Nat):Int) by omega];simpa using hM)
  refine⟨S,g1.trans ?_,g2,M'+1,fV M' _ _ _ _ _ (⟨λ_=>by simpa using hM',λh=>absurd (by omega) h⟩)⟩;have :=h1.append_right R;simpa using this
theorem It(pre X post:List FE)(J:∀x∈X,PbE x)(G:pre.length+X.length+1≤1000000000){a b:Int}(O:a=(pre.length:Nat))(hb:b=(pre.length+X.length:Nat)):∃S:List FE,S.Perm X∧cS S∧dS (pre++X++post) a b (pre++S++post):=by
 cases X with
 |nil=>
  simp only[List.length_nil]at hb G;exact⟨[],List.Perm.refl _,List.Pairwise.nil,kJ 1 _ _ _ _ (⟨⟨by omega,by omega⟩,fV 0 _ _ _ _ _ (⟨λh=>absurd h (by omega),λ_=>rfl⟩)⟩)⟩
 |cons x R=>
  simp only[List.length_cons]at hb G;obtain⟨S,h1,h2,M,U⟩:=LL (pre:=pre) (post:=post) (a:=a) (b:=b) O R [x] (List.pairwise_singleton _ _) (λy hy=>J y (by simp[hy])) (by simp;omega) (by simp;omega);refine⟨S,h1,h2,kJ M _ _ _ _ (⟨⟨by omega,by omega⟩,?_⟩)⟩;rw[show a+1=((pre.length+[x].length:Nat):Int) by simp;omega];simpa using U
theorem uz{A:List FE}(h:cS A){j:Nat}{u v:FE}(J:A[i]?=some u)(hv:A[j]?=some v)(O:i≤j):leE u v:=by
 obtain⟨h1,rfl⟩:=List.getElem?_eq_some_iff.1 J;obtain⟨h2,rfl⟩:=List.getElem?_eq_some_iff.1 hv;rcases Nat.lt_or_ge i j with G|G
 ·exact List.pairwise_iff_getElem.1 h i j h1 h2 G
 ·have :i=j:=by omega
  subst this;exact AV _
theorem wP{A:List FE}{u:FE}(h:u∈A):∃i:Nat,i<A.length∧A[i]?=some u:=by
 obtain⟨i,hi,rfl⟩:=List.getElem_of_mem h;exact⟨i,hi,List.getElem?_eq_getElem hi⟩
theorem ym{pre A post:List FE}{t:Nat}{u:FE}(h:A[t]?=some u):(pre++(A++post))[pre.length+t]?=some u:=by
 have ht:=(List.getElem?_eq_some_iff.1 h).1;rw[List.getElem?_append_right (by omega),show pre.length+t-pre.length=t by omega,List.getElem?_append_left ht,h]
theorem Ek{l B:List FE}{x:FE}{a z:Nat}(hx:l[a]?=some x)(hB:∀t u,B[t]?=some u→l[z+t]?=some u)(hp:∀u∈B,PbE u)(hz:z+B.length≤400000000):∀(k i j:Nat),j-i≤k→i≤j→j≤B.length→(∀u,0<i→B[i-1]?=some u→leE u x)→(∀u,B[j]?=some u→leE x u)→
  ∃s,s≤B.length∧(∀u,0<s→B[s-1]?=some u→leE u x)∧(∀u,B[s]?=some u→leE x u)∧∀M r,dI M l (a:Nat) ((z+s:Nat):Int) r→∃M',bP M' l (a:Nat) ((z+i:Nat):Int) ((z+j:Nat):Int) r
 |0,i,j,hk,hij,hj,h1,h2=>by
  have :i=j:=by omega
  subst this;exact⟨i,hj,h1,h2,λM r h=>⟨M+1,iR M _ _ _ _ _ (⟨λh'=>absurd h' (by omega),λ_=>h⟩)⟩⟩
 | k +1,i,j,hk,hij,hj,h1,h2=>by
  by_cases e:i=j
  ·subst e;exact⟨i,hj,h1,h2,λM r h=>⟨M+1,iR M _ _ _ _ _ (⟨λh'=>absurd h' (by omega),λ_=>h⟩)⟩⟩
  ·have hq:(z+i+(z+j))/2=z+(i+j)/2:=by omega
   have hlt:(i+j)/2<B.length:=by omega
   obtain⟨u,hu⟩:∃u,B[(i+j)/2]?=some u:=⟨_,List.getElem?_eq_getElem hlt⟩;have hlu:=hB _ u hu;have hpu:=hp u (List.mem_of_getElem? hu);have step:∀{M r},(iS u x<0→bP M l (a:Nat) ((z+((i+j)/2+1):Nat):Int) ((z+j:Nat):Int) r)→(¬iS u x<0→bP M l (a:Nat) ((z+i:Nat):Int) ((z+(i+j)/2:Nat):Int) r)→bP (M+1) l (a:Nat) ((z+i:Nat):Int) ((z+j:Nat):Int) r:=λ{M r} q1 q2=>by
    refine iR M _ _ _ _ _ (⟨λ_=>⟨⟨by omega,by omega⟩,z+i+(z+j),by omega,by omega,by omega,u,by rw[hq];exact hlu,a,rfl,x,hx,_,yX hpu,λh=>⟨by omega,?_⟩,λh=>?_⟩,λh=>absurd (by omega) h⟩)
    ·rw[hq];exact q1 h
    ·rw[hq];exact q2 h
   by_cases hc:iS u x<0
   ·obtain⟨s,g1,g2,g3,g4⟩:=Ek hx hB hp hz k ((i+j)/2+1) j (by omega) (by omega) hj (λv _ hv=>by
     rw[Nat.add_sub_cancel,hu]at hv;cases hv;exact nZ hc) h2
    refine⟨s,g1,g2,g3,λM r h=>?_⟩;obtain⟨M',hM⟩:=g4 M r h;exact⟨M'+1,step (λ_=>hM) (λh=>absurd hc h)⟩
   ·obtain⟨s,g1,g2,g3,g4⟩:=Ek hx hB hp hz k i ((i+j)/2) (by omega) (by omega) (by omega) h1 (λv hv=>by
     rw[hu]at hv;cases hv;exact hc)
    refine⟨s,g1,g2,g3,λM r h=>?_⟩;obtain⟨M',hM⟩:=g4 M r h;exact⟨M'+1,step (λh=>absurd h hc) (λ_=>hM)⟩
theorem Fc{l A:List FE}{x:FE}{a z:Nat}(hx:l[z]?=some x)(hA:∀t u,A[t]?=some u→l[a+t]?=some u)(hp:PbE x)(hz:a+A.length≤400000000):∀(k i j:Nat),j-i≤k→i≤j→j≤A.length→(∀u,0<i→A[i-1]?=some u→leE u x)→(∀u,A[j]?=some u→leE x u)→
  ∃s,s≤A.length∧(∀u,0<s→A[s-1]?=some u→leE u x)∧(∀u,A[s]?=some u→leE x u)∧∀M r,dJ M l (z:Nat) ((a+s:Nat):Int) r→∃M',bQ M' l (z:Nat) ((a+i:Nat):Int) ((a+j:Nat):Int) r
 |0,i,j,hk,hij,hj,h1,h2=>by
  have :i=j:=by omega
  subst this;exact⟨i,hj,h1,h2,λM r h=>⟨M+1,iQ M _ _ _ _ _ (⟨λh'=>absurd h' (by omega),λ_=>h⟩)⟩⟩
 | k +1,i,j,hk,hij,hj,h1,h2=>by
  by_cases e:i=j
  ·subst e;exact⟨i,hj,h1,h2,λM r h=>⟨M+1,iQ M _ _ _ _ _ (⟨λh'=>absurd h' (by omega),λ_=>h⟩)⟩⟩
  ·have hq:(a+i+(a+j))/2=a+(i+j)/2:=by omega
   have hlt:(i+j)/2<A.length:=by omega
   obtain⟨u,hu⟩:∃u,A[(i+j)/2]?=some u:=⟨_,List.getElem?_eq_getElem hlt⟩;have hlu:=hA _ u hu;have step:∀{M r},(¬iS x u<0→bQ M l (z:Nat) ((a+((i+j)/2+1):Nat):Int) ((a+j:Nat):Int) r)→(iS x u<0→bQ M l (z:Nat) ((a+i:Nat):Int) ((a+(i+j)/2:Nat):Int) r)→bQ (M+1) l (z:Nat) ((a+i:Nat):Int) ((a+j:Nat):Int) r:=λ{M r} q1 q2=>by
    refine iQ M _ _ _ _ _ (⟨λ_=>⟨⟨by omega,by omega⟩,a+i+(a+j),by omega,by omega,by omega,z,rfl,x,hx,u,by rw[hq];exact hlu,_,yX hp,λh=>⟨by omega,?_⟩,λh=>?_⟩,λh=>absurd (by omega) h⟩)
    ·rw[hq];exact q1 h
    ·rw[hq];exact q2 h
   by_cases hc:iS x u<0
   ·obtain⟨s,g1,g2,g3,g4⟩:=Fc hx hA hp hz k i ((i+j)/2) (by omega) (by omega) (by omega) h1 (λv hv=>by
     rw[hu]at hv;cases hv;exact nZ hc)
    refine⟨s,g1,g2,g3,λM r h=>?_⟩;obtain⟨M',hM⟩:=g4 M r h;exact⟨M'+1,step (λh=>absurd hc h) (λ_=>hM)⟩
   ·obtain⟨s,g1,g2,g3,g4⟩:=Fc hx hA hp hz k ((i+j)/2+1) j (by omega) (by omega) hj (λv _ hv=>by
     rw[Nat.add_sub_cancel,hu]at hv;cases hv;exact hc) h2
    refine⟨s,g1,g2,g3,λM r h=>?_⟩;obtain⟨M',hM⟩:=g4 M r h;exact⟨M'+1,step (λ_=>hM) (λh=>absurd h hc)⟩
theorem EJ{l:List FE}{p1 p3:Int}{a m k0 lo hi0:Nat}(hp:∀u∈l,PbE u)(hl:l.length≤400000000)(hhi:hi0≤m)(hq:∀c,lo≤c→c<hi0→c<l.length∧c+1≤k0/2+m∧k0/2+m-1-c<l.length):∀(k i j:Nat),j-i≤k→i≤j→lo≤i→j≤hi0→(∀u v,lo<i→l[i-1]?=some u→l[k0/2+m-i]?=some v→leE u v)→(∀u v,j<hi0→l[j]?=some u→l[k0/2+m-1-j]?=some v→leE v u)→
  ∃s,lo≤s∧s≤hi0∧i≤s∧s≤j∧(∀u v,lo<s→l[s-1]?=some u→l[k0/2+m-s]?=some v→leE u v)∧(∀u v,s<hi0→l[s]?=some u→l[k0/2+m-1-s]?=some v→leE v u)∧∀M r,bc M l p1 (m:Nat) p3 k0 (s:Nat) (s:Nat) r→∃M',bc M' l p1 (m:Nat) p3 k0 (i:Nat) (j:Nat) r
 |0,i,j,hk,hij,hi,hj,h1,h2=>by
  have :i=j:=by omega
  subst this;exact⟨i,hi,hj,Nat.le_refl _,Nat.le_refl _,h1,h2,λM r h=>⟨M,h⟩⟩
 | k +1,i,j,hk,hij,hi,hj,h1,h2=>by
  by_cases e:i=j
  ·subst e;exact⟨i,hi,hj,Nat.le_refl _,Nat.le_refl _,h1,h2,λM r h=>⟨M,h⟩⟩
  ·obtain⟨q1,q2,q3⟩:=hq ((i+j)/2) (by omega) (by omega);obtain⟨u,hu⟩:∃u,l[(i+j)/2]?=some u:=⟨_,List.getElem?_eq_getElem q1⟩;obtain⟨v,hv⟩:∃v,l[k0/2+m-1-(i+j)/2]?=some v:=⟨_,List.getElem?_eq_getElem q3⟩;have hpv:=hp v (List.mem_of_getElem? hv);have step:∀{M r},(¬iS v u<0→bc M l p1 (m:Nat) p3 k0 (((i+j)/2+1:Nat):Int) (j:Nat) r)→(iS v u<0→bc M l p1 (m:Nat) p3 k0 (i:Nat) (((i+j)/2:Nat):Int) r)→bc (M+1) l p1 (m:Nat) p3 k0 (i:Nat) (j:Nat) r:=λ{M r} w1 w2=>
    rL2_slices_symMergeCmpFunc M _ _ _ _ _ _ _ _ (⟨λ_=>⟨⟨by omega,by omega⟩,i+j,by omega,by omega,by omega,⟨by omega,by omega⟩,k0/2+m-1-(i+j)/2,by omega,v,hv,u,hu,_,yX hpv,λh=>⟨by omega,w1 h⟩,λh=>w2 h⟩,λh=>absurd (by omega) h⟩)
   by_cases hc:iS v u<0
   ·obtain⟨s,g0,g0',gi,gj,g1,g2,g3⟩:=EJ (p1:=p1) (p3:=p3) (a:=a) hp hl hhi hq k i ((i+j)/2) (by omega) (by omega) hi (by omega) h1 (λu' v' _ hu' hv'=>by
     rw[hu]at hu';rw[hv]at hv';cases hu';cases hv';exact nZ hc)
    refine⟨s,g0,g0',gi,by omega,g1,g2,λM r h=>?_⟩;obtain⟨M',hM⟩:=g3 M r h;exact⟨M'+1,step (λh=>absurd hc h) (λ_=>hM)⟩
   ·obtain⟨s,g0,g0',gi,gj,g1,g2,g3⟩:=EJ (p1:=p1) (p3:=p3) (a:=a) hp hl hhi hq k ((i+j)/2+1) j (by omega) (by omega) (by omega) hj (λu' v' _ hu' hv'=>by
     rw[Nat.add_sub_cancel,hu]at hu';rw[show k0/2+m-((i+j)/2+1)=k0/2+m-1-(i+j)/2 by omega,hv]at hv';cases hu';cases hv';exact hc) h2
    refine⟨s,g0,g0',by omega,gj,g1,g2,λM r h=>?_⟩;obtain⟨M',hM⟩:=g3 M r h;exact⟨M'+1,step (λ_=>hM) (λh=>absurd h hc)⟩
theorem Ke{post:List FE}:∀(B1 B2 pre:List FE) (x:FE) (z e:Int),z=(pre.length:Nat)→e=(pre.length+1+B1.length:Nat)→pre.length+B1.length+B2.length+1≤400000000→dI (B1.length+1) (pre++x::(B1++B2)++post) z e (pre++(B1++x::B2)++post)
 |[],B2,pre,x,z,e,G,J,hb=>by
  simp only[List.length_nil]at J;exact mY 0 _ _ _ _ (⟨⟨by omega,by omega⟩,λh=>absurd h (by omega),λ_=>by simp⟩)
 |y::B1,B2,pre,x,z,e,G,J,hb=>by
  simp only[List.length_cons]at J hb;have ih:=Ke (post:=post) B1 B2 (pre++[y]) x (z+1) e (by simp;omega) (by simp;omega) (by simp;omega);have e0:pre++x::(y::B1++B2)++post=(pre++[x])++y::(B1++B2++post):=by simp
  have U:pre++x::(y::B1++B2)++post=pre++x::(y::B1++B2++post):=by simp
  have g1:(pre++x::(y::B1++B2)++post)[pre.length+1]?=some y:=by rw[e0];exact fq (by simp)
  have Z:(pre++x::(y::B1++B2)++post)[pre.length]?=some x:=by rw[U];exact fq rfl
  have s1:(pre++x::(y::B1++B2)++post).set pre.length y=(pre++[y])++y::(B1++B2++post):=by rw[U,nr rfl];simp
  have g3:((pre++x::(y::B1++B2)++post).set pre.length y)[pre.length+1]?=some y:=by rw[s1];exact fq (by simp)
  have s2:((pre++x::(y::B1++B2)++post).set pre.length y).set (pre.length+1) x=pre++[y]++x::(B1++B2)++post:=by rw[s1,nr (by simp)];simp
  have O:InI (z+1):=⟨by omega,by omega⟩;refine mY (B1.length+1) _ _ _ _ (⟨⟨by omega,by omega⟩,λ_=>⟨O,O,pre.length+1,by omega,y,g1,pre.length,G,x,Z,pre.length,G,x,Z,pre.length+1,by omega,y,g3,O,?_⟩,λh=>absurd (by omega) h⟩);rw[s2];simpa using ih
theorem Kl{post pre:List FE}:∀(n:Nat) (A1 A2 B:List FE) (x:FE) (z e:Int),A2.length=n→z=(pre.length+A1.length+n:Nat)→e=(pre.length+A1.length:Nat)→pre.length+A1.length+A2.length+1≤400000000→dJ (n+1) (pre++(A1++A2++x::B)++post) z e (pre++(A1++x::(A2++B))++post)
 |0,A1,A2,B,x,z,e,J,O,he,hb=>by
  have :A2=[]:=List.eq_nil_of_length_eq_zero J;subst this;exact mX 0 _ _ _ _ (⟨λh=>absurd h (by omega),λ_=>by simp⟩)
 |n+1,A1,A2,B,x,z,e,J,O,he,hb=>by
  obtain⟨A',p,rfl⟩:∃A' p,A2=A'++[p]:=⟨A2.dropLast,A2.getLast (λh=>by subst h;simp at J),(List.dropLast_concat_getLast _).symm⟩;simp only[List.length_append,List.length_cons,List.length_nil]at J hb;have ih:=Kl (post:=post) (pre:=pre) n A1 A' (p::B) x (z-1) e (by omega) (by omega) he (by omega);have e0:pre++(A1++(A'++[p])++x::B)++post=(pre++A1++A'++[p])++x::(B++post):=by simp
  have e1:pre++(A1++(A'++[p])++x::B)++post=(pre++A1++A')++p::(x::B++post):=by simp
  have U:(pre++A1++A').length=pre.length+A1.length+n:=by simp;omega
  have G:(pre++A1++A'++[p]).length=pre.length+A1.length+(n+1):=by simp;omega
  have g1:(pre++(A1++(A'++[p])++x::B)++post)[pre.length+A1.length+(n+1)]?=some x:=by rw[e0];exact fq G
  have g2:(pre++(A1++(A'++[p])++x::B)++post)[pre.length+A1.length+n]?=some p:=by rw[e1];exact fq U
  have s1:(pre++(A1++(A'++[p])++x::B)++post).set (pre.length+A1.length+(n+1)) p=(pre++A1++A')++p::(p::B++post):=by rw[e0,nr G];simp
  have g3:((pre++(A1++(A'++[p])++x::B)++post).set (pre.length+A1.length+(n+1)) p)[pre.length+A1.length+n]?=some p:=by rw[s1];exact fq U
  have s2:((pre++(A1++(A'++[p])++x::B)++post).set (pre.length+A1.length+(n+1)) p).set (pre.length+A1.length+n) x=pre++(A1++A'++x::(p::B))++post:=by rw[s1,nr U];simp
  have Z:InI (z-1):=⟨by omega,by omega⟩;refine mX (n+1) _ _ _ _ (⟨λ_=>⟨Z,Z,pre.length+A1.length+n,by omega,p,g2,pre.length+A1.length+(n+1),O,x,g1,pre.length+A1.length+(n+1),O,x,g1,pre.length+A1.length+n,by omega,p,g3,Z,?_⟩,λh=>absurd (by omega) h⟩);rw[s2];simpa using ih
theorem Dt{A1 B2:List FE}(G:cS A1)(J:cS B2)(h:∀u v,A1[A1.length-1]?=some u→B2[0]?=some v→leE u v):∀u∈A1,∀v∈B2,leE u v:=λu O v hv=>by
 obtain⟨i,hi,gi⟩:=wP O;obtain⟨j,U,gj⟩:=wP hv;obtain⟨x,hx⟩:∃x,A1[A1.length-1]?=some x:=⟨_,List.getElem?_eq_getElem (by omega)⟩;obtain⟨y,hy⟩:∃y,B2[0]?=some y:=⟨_,List.getElem?_eq_getElem (by omega)⟩;exact ms (uz G gi hx (by omega)) (ms (h x y hx hy) (uz J hy gj (by omega)))
theorem LX(A1 A2 B1 B2:List FE):(A1++B1++(A2++B2)).Perm (A1++A2++(B1++B2)):=by
 rw[List.append_assoc,List.append_assoc];refine List.Perm.append_left _ ?_;rw[←List.append_assoc,←List.append_assoc];exact List.Perm.append_right _ List.perm_append_comm
theorem DO:∀(n:Nat) (pre A B post:List FE),A.length+B.length≤n→0<A.length→0<B.length→cS A→cS B→(∀x∈A,PbE x)→(∀x∈B,PbE x)→(∀x∈pre,PbE x)→(∀x∈post,PbE x)→pre.length+A.length+B.length+post.length+1≤100000000→
  ∃C:List FE,C.Perm (A++B)∧cS C∧dt (pre++A++B++post) (pre.length:Nat) ((pre.length+A.length:Nat):Int) ((pre.length+A.length+B.length:Nat):Int) (pre++C++post)
 |0,pre,A,B,post,hn,ha,hb,_,_,_,_,_,_,_=>by omega
 | n + 1,pre,A,B,post,hn,ha,hb,hA,hB,pA,pB,pp,pq,hl=>by
  have i1:InI (((pre.length+A.length:Nat):Int)-((pre.length:Nat):Int)):=⟨by omega,by omega⟩;by_cases a1:A.length=1
  ·obtain⟨x,rfl⟩:∃x,A=[x]:=by
    match A,a1 with
    |[x],_=>exact⟨x,rfl⟩
   obtain⟨s,h1,h2,h3,h4⟩:=Ek (l:=pre++[x]++B++post) (B:=B) (x:=x) (a:=pre.length) (z:=pre.length+1) (by rw[show pre++[x]++B++post=pre++x::(B++post) by simp];exact fq rfl) (λt u hu=>by
    have :=ym (pre:=pre++[x]) (post:=post) hu;simpa[Nat.add_assoc]using this) pB (by omega) B.length 0 B.length (by omega) (by omega) (Nat.le_refl _) (λu h=>by omega) (λu h=>by rw[List.getElem?_eq_none (Nat.le_refl _)]at h;cases h)
   have h5:=Ke (post:=post) (B.take s) (B.drop s) pre x ((pre.length:Nat):Int) ((pre.length+1+s:Nat):Int) rfl (by rw[List.length_take];congr 1;omega) (by rw[List.length_take,List.length_drop];omega);rw[List.take_append_drop]at h5;obtain⟨M,hM⟩:=h4 _ _ (by rw[show pre++[x]++B++post=pre++x::B++post by simp];exact h5);refine⟨B.take s++x::B.drop s,?_,?_,fN M _ _ _ _ _ (⟨i1,λ_=>?_,λh=>absurd (by simp;omega) h⟩)⟩
   ·have :=List.perm_middle (a:=x) (l₁:=B.take s) (l₂:=B.drop s);rw[List.take_append_drop]at this;exact this
   ·have hs:cS (B.take s++B.drop s):=by rw[List.take_append_drop];exact hB
    have hx1:∀u∈B.take s,leE u x:=λu hu=>by
     obtain⟨i,hi,gi⟩:=wP hu;rw[List.length_take]at hi;rw[List.getElem?_take,if_pos (by omega)]at gi;obtain⟨y,hy⟩:∃y,B[s-1]?=some y:=⟨_,List.getElem?_eq_getElem (by omega)⟩;exact ms (uz hB gi hy (by omega)) (h2 y (by omega) hy)
    have hx2:∀u∈B.drop s,leE x u:=λu hu=>by
     obtain⟨i,hi,gi⟩:=wP hu;rw[List.length_drop]at hi;rw[List.getElem?_drop]at gi;obtain⟨y,hy⟩:∃y,B[s]?=some y:=⟨_,List.getElem?_eq_getElem (by omega)⟩;exact ms (h3 y hy) (uz hB hy gi (by omega))
    refine uD (iN hs) (List.pairwise_cons.2 ⟨hx2,jw hs⟩) λu hu v hv=>?_;rcases List.mem_cons.1 hv with rfl|h
    ·exact hx1 u hu
    ·exact mj hs u hu v h
   ·simpa using hM
  by_cases b1:B.length=1
  ·obtain⟨x,rfl⟩:∃x,B=[x]:=by
    match B,b1 with
    |[x],_=>exact⟨x,rfl⟩
   obtain⟨s,h1,h2,h3,h4⟩:=Fc (l:=pre++A++[x]++post) (A:=A) (x:=x) (a:=pre.length) (z:=pre.length+A.length) (by rw[show pre++A++[x]++post=(pre++A)++x::post by simp];exact fq (by simp)) (λt u hu=>by
    have :=ym (pre:=pre) (post:=[x]++post) hu;simpa using this) (pB x (by simp)) (by omega) A.length 0 A.length (by omega) (by omega) (Nat.le_refl _) (λu h=>by omega) (λu h=>by rw[List.getElem?_eq_none (Nat.le_refl _)]at h;cases h)
   have h5:=Kl (post:=post) (pre:=pre) (A.length-s) (A.take s) (A.drop s) [] x ((pre.length+A.length:Nat):Int) ((pre.length+s:Nat):Int) (by rw[List.length_drop]) (by rw[List.length_take];congr 1;omega) (by rw[List.length_take];congr 1;omega) (by rw[List.length_take,List.length_drop];omega);rw[List.take_append_drop,List.append_nil]at h5;obtain⟨M,hM⟩:=h4 _ _ (by rw[show pre++A++[x]++post=pre++(A++[x])++post by simp];exact h5);refine⟨A.take s++x::A.drop s,?_,?_,fN M _ _ _ _ _ (⟨i1,λh=>absurd h (by omega),λ_=>⟨⟨by simp;omega,by simp;omega⟩,λ_=>?_,λh=>absurd (by simp;omega) h⟩⟩)⟩
   ·have :=List.perm_middle (a:=x) (l₁:=A.take s) (l₂:=A.drop s);rw[List.take_append_drop]at this;exact this.trans (List.perm_append_comm (l₁:=[x]) (l₂:=A))
   ·have hs:cS (A.take s++A.drop s):=by rw[List.take_append_drop];exact hA
    have hx1:∀u∈A.take s,leE u x:=λu hu=>by
     obtain⟨i,hi,gi⟩:=wP hu;rw[List.length_take]at hi;rw[List.getElem?_take,if_pos (by omega)]at gi;obtain⟨y,hy⟩:∃y,A[s-1]?=some y:=⟨_,List.getElem?_eq_getElem (by omega)⟩;exact ms (uz hA gi hy (by omega)) (h2 y (by omega) hy)
    have hx2:∀u∈A.drop s,leE x u:=λu hu=>by
     obtain⟨i,hi,gi⟩:=wP hu;rw[List.length_drop]at hi;rw[List.getElem?_drop]at gi;obtain⟨y,hy⟩:∃y,A[s]?=some y:=⟨_,List.getElem?_eq_getElem (by omega)⟩;exact ms (h3 y hy) (uz hA hy gi (by omega))
    refine uD (iN hs) (List.pairwise_cons.2 ⟨hx2,jw hs⟩) λu hu v hv=>?_;rcases List.mem_cons.1 hv with rfl|h
    ·exact hx1 u hu
    ·exact mj hs u hu v h
   ·simpa using hM
  obtain⟨l,hld⟩:∃l,l=pre++A++B++post:=⟨_,rfl⟩;have hpl:∀u∈l,PbE u:=λu hu=>by
   rw[hld]at hu;simp only[List.mem_append]at hu;rcases hu with((h|h)|h)|h
   ·exact pp u h
   ·exact pA u h
   ·exact pB u h
   ·exact pq u h
  have hll:l.length=pre.length+A.length+B.length+post.length:=by rw[hld];simp;omega
  have gA:∀t u,A[t]?=some u→l[pre.length+t]?=some u:=λt u hu=>by
   have :=ym (pre:=pre) (post:=B++post) hu;rw[hld];simpa using this
  have gB:∀t u,B[t]?=some u→l[pre.length+A.length+t]?=some u:=λt u hu=>by
   have :=ym (pre:=pre++A) (post:=post) hu;rw[hld];simpa using this
  obtain⟨a,had⟩:∃a,a=pre.length:=⟨_,rfl⟩;obtain⟨m,hmd⟩:∃m,m=pre.length+A.length:=⟨_,rfl⟩;obtain⟨b,hbd⟩:∃b,b=pre.length+A.length+B.length:=⟨_,rfl⟩;obtain⟨mid,hmid⟩:∃mid,mid=(a+b)/2:=⟨_,rfl⟩;have hm1:a+2≤m:=by omega
  have hm2:m+2≤b:=by omega
  obtain⟨lo,hlo⟩:∃lo,lo=if mid<m then a else a:=⟨_,rfl⟩
  have key:∀lo hi0,(m<mid+1→m=hi0∨True)→lo≤hi0→a≤lo→hi0≤m→hi0≤mid→(∀c,lo≤c→c<hi0→m+c+1≤mid+m∧mid+m-c≤b)→(lo=a∨mid+m-lo=b)→(hi0=m∨hi0=mid)→
    ∃C:List FE,C.Perm (A++B)∧cS C∧∃M,bc M l (a:Nat) (m:Nat) (b:Nat) (a+b) (lo:Nat) (hi0:Nat) (pre++C++post):=λlo hi0 _ hlh hal hhm hhd hq hlo hhi=>by
   obtain⟨s,g0,g1,_,_,g2,g3,g4⟩:=EJ (l:=l) (p1:=(a:Nat)) (p3:=(b:Nat)) (a:=a) (m:=m) (k0:=a+b) (lo:=lo) (hi0:=hi0) hpl (by omega) hhm (λc h1 h2=>by have :=hq c h1 h2;rw[←hmid];omega) (hi0-lo) lo hi0 (Nat.le_refl _) hlh (Nat.le_refl _) (Nat.le_refl _) (λu v h=>by omega) (λu v h=>by omega);rw[←hmid]at g2 g3;have hsm:mid+m-s≤b:=by
    rcases Nat.lt_or_ge s hi0 with h|h
    ·have :=hq s g0 h;omega
    ·by_cases e:lo=s
     ·rcases hlo with h|h<;>omega
     ·have :=hq (s-1) (by omega) (by omega);omega
   have hsm2:m≤mid+m-s:=by omega
   have hA':A=A.take (s-a)++A.drop (s-a):=(List.take_append_drop _ _).symm;have hB':B=B.take (mid-s)++B.drop (mid-s):=(List.take_append_drop _ _).symm;obtain⟨A1,hA1⟩:∃X,X=A.take (s-a):=⟨_,rfl⟩;obtain⟨A2,hA2⟩:∃X,X=A.drop (s-a):=⟨_,rfl⟩;obtain⟨B1,hB1⟩:∃X,X=B.take (mid-s):=⟨_,rfl⟩;obtain⟨B2,hB2⟩:∃X,X=B.drop (mid-s):=⟨_,rfl⟩;rw[←hA1,←hA2]at hA';rw[←hB1,←hB2]at hB';have l1:A1.length=s-a:=by rw[hA1,List.length_take];omega
   have l2:A2.length=m-s:=by rw[hA2,List.length_drop];omega
   have l3:B1.length=mid-s:=by rw[hB1,List.length_take];omega
   have l4:B2.length=b-(mid+m-s):=by rw[hB2,List.length_drop];omega
   have sA:cS (A1++A2):=hA'▸hA;have sB:cS (B1++B2):=hB'▸hB;have cross1:∀u∈A1,∀v∈B2,leE u v:=Dt (iN sA) (jw sB) λu v hu hv=>by
    have h1:0<A1.length:=by have :=(List.getElem?_eq_some_iff.1 hu).1;omega
    have h2:0<B2.length:=(List.getElem?_eq_some_iff.1 hv).1;have hu':A[s-a-1]?=some u:=by rw[hA',List.getElem?_append_left (by omega),←l1];exact hu
    have hv':B[mid-s]?=some v:=by rw[hB',List.getElem?_append_right (by omega),show mid-s-B1.length=0 by omega];exact hv
    have hu2:=gA _ _ hu';have hv2:=gB _ _ hv';refine g2 u v ?_ ?_ ?_
    ·rcases hlo with h|h
     ·omega
     ·rcases Nat.lt_or_ge lo s with h'|h'
      ·exact h'
      ·omega
    ·rw[show s-1=pre.length+(s-a-1) by omega];exact hu2
    ·rw[show mid+m-s=pre.length+A.length+(mid-s) by omega];exact hv2
   have cross2:∀u∈B1,∀v∈A2,leE u v:=Dt (iN sB) (jw sA) λu v hu hv=>by
    have h1:0<B1.length:=by have :=(List.getElem?_eq_some_iff.1 hu).1;omega
    have h2:0<A2.length:=(List.getElem?_eq_some_iff.1 hv).1;have hu':B[mid-s-1]?=some u:=by rw[hB',List.getElem?_append_left (by omega),←l3];exact hu
    have hv':A[s-a]?=some v:=by rw[hA',List.getElem?_append_right (by omega),show s-a-A1.length=0 by omega];exact hv
    have hu2:=gB _ _ hu';have hv2:=gA _ _ hv';refine g3 v u (by rcases hhi with h|h<;>omega) ?_ ?_
    ·rw[show s=pre.length+(s-a) by omega];exact hv2
    ·rw[show mid+m-1-s=pre.length+A.length+(mid-s-1) by omega];exact hu2
   have pA1:∀x∈A1,PbE x:=λx hx=>pA x (by rw[hA'];simp[hx]);have pA2:∀x∈A2,PbE x:=λx hx=>pA x (by rw[hA'];simp[hx]);have pB1:∀x∈B1,PbE x:=λx hx=>pB x (by rw[hB'];simp[hx]);have pB2:∀x∈B2,PbE x:=λx hx=>pB x (by rw[hB'];simp[hx]);have half1:∃C1:List FE,C1.Perm (A1++B1)∧cS C1∧∀M r,dk M (m:Nat) (b:Nat) (a+b) (s:Nat) (pre++C1++(A2++B2++post)) r→dK (M+1) (a:Nat) (m:Nat) (b:Nat) (a+b) (s:Nat) (pre++A1++B1++(A2++B2++post)) r:=by
    by_cases h:0<A1.length∧0<B1.length
    ·obtain⟨C1,c1,c2,c3⟩:=DO n pre A1 B1 (A2++B2++post) (by omega) h.1 h.2 (iN sA) (iN sB) pA1 pB1 pp (λx hx=>by
      simp only[List.mem_append]at hx;rcases hx with(h|h)|h
      ·exact pA2 x h
      ·exact pB2 x h
      ·exact pq x h) (by simp;omega)
     refine⟨C1,c1,c2,λM r hM=>nc M _ _ _ _ _ _ _ (⟨λ_=>⟨λ_=>⟨_,?_,hM⟩,λh'=>absurd (by rw[←hmid];omega) h'⟩,λh'=>absurd (by omega) h'⟩)⟩;rw[←hmid,had,show s=pre.length+A1.length by omega,show mid=pre.length+A1.length+B1.length by omega];exact c3
    ·refine⟨A1++B1,List.Perm.refl _,?_,λM r hM=>?_⟩
     ·rcases(by omega:A1.length=0∨B1.length=0)with h'|h'
      ·rw[List.eq_nil_of_length_eq_zero h',List.nil_append];exact iN sB
      ·rw[List.eq_nil_of_length_eq_zero h',List.append_nil];exact iN sA
     ·rw[←List.append_assoc pre A1 B1]at hM;exact nc M _ _ _ _ _ _ _ (⟨λ_=>⟨λh'=>absurd h' (by rw[←hmid];omega),λ_=>hM⟩,λ_=>hM⟩)
   obtain⟨C1,c1,c2,c3⟩:=half1;have hc1:=c1.length_eq;rw[List.length_append]at hc1;have half2:∃C2:List FE,C2.Perm (A2++B2)∧cS C2∧dk 1 (m:Nat) (b:Nat) (a+b) (s:Nat) (pre++C1++(A2++B2++post)) (pre++C1++C2++post):=by
    have es:(((a+b)/2:Nat):Int)+((m:Nat):Int)-((s:Nat):Int)=((mid+m-s:Nat):Int):=by rw[←hmid];omega
    by_cases h:0<A2.length∧0<B2.length
    ·obtain⟨C2,d1,d2,d3⟩:=DO n (pre++C1) A2 B2 post (by omega) h.1 h.2 (jw sA) (jw sB) pA2 pB2 (λx hx=>by
      rcases List.mem_append.1 hx with h|h
      ·exact pp x h
      ·rcases List.mem_append.1 (c1.mem_iff.1 h)with h|h
       ·exact pA1 x h
       ·exact pB1 x h) pq (by simp;omega)
     refine⟨C2,d1,d2,mV 0 _ _ _ _ _ _ (⟨λ_=>⟨λ_=>⟨_,?_,rfl⟩,λh'=>absurd (by rw[es];omega) h'⟩,λh'=>absurd (by rw[es,←hmid];omega) h'⟩)⟩;rw[es,←hmid];have e1:(pre++C1).length=mid:=by simp;omega
     rw[e1,show mid+A2.length=mid+m-s by omega,show mid+m-s+B2.length=b by omega]at d3;simpa using d3
    ·refine⟨A2++B2,List.Perm.refl _,?_,?_⟩
     ·rcases(by omega:A2.length=0∨B2.length=0)with h'|h'
      ·rw[List.eq_nil_of_length_eq_zero h',List.nil_append];exact jw sB
      ·rw[List.eq_nil_of_length_eq_zero h',List.append_nil];exact jw sA
     ·rw[show pre++C1++(A2++B2++post)=pre++C1++(A2++B2)++post by simp];exact mV 0 _ _ _ _ _ _ (⟨λ_=>⟨λh'=>absurd h' (by rw[es];omega),λ_=>rfl⟩,λ_=>rfl⟩)
   obtain⟨C2,d1,d2,d3⟩:=half2;have hperm:(C1++C2).Perm (A++B):=by
    have :=(List.Perm.append c1 d1).trans (LX A1 A2 B1 B2);rw[hA',hB'];exact this
   refine⟨C1++C2,hperm,uD c2 d2 λu hu v hv=>?_,?_⟩
   ·rcases List.mem_append.1 (c1.mem_iff.1 hu)with h|h<;>rcases List.mem_append.1 (d1.mem_iff.1 hv)with h'|h'
    ·exact mj sA u h v h'
    ·exact cross1 u h v h'
    ·exact cross2 u h v h'
    ·exact mj sB u h v h'
   ·have h5:=c3 1 _ d3;have es:(((a+b)/2:Nat):Int)+((m:Nat):Int)-((s:Nat):Int)=((mid+m-s:Nat):Int):=by rw[←hmid];omega
    have hrot:bc 3 l (a:Nat) (m:Nat) (b:Nat) (a+b) (s:Nat) (s:Nat) (pre++(C1++C2)++post):=by
     have e6:pre++(C1++C2)++post=pre++C1++C2++post:=by simp
     rw[e6];refine rL2_slices_symMergeCmpFunc 2 _ _ _ _ _ _ _ _ (⟨λh=>absurd h (by omega),λ_=>⟨⟨by rw[es];omega,by rw[es];omega⟩,λh=>⟨λh'=>?_,λh'=>?_⟩,λh=>?_⟩⟩)
     ·rw[es]at h'⊢;have hr:=RE (pre++A1) A2 B1 (B2++post) (by omega) (by omega) (by simp;omega) (p1:=(s:Nat)) (p2:=(m:Nat)) (p3:=((mid+m-s:Nat):Int)) (by simp;omega) (by simp;omega) (by simp;omega);refine⟨pre++A1++B1++(A2++B2++post),?_,h5⟩;have e7:l=pre++A1++A2++B1++(B2++post):=by rw[hld,hA',hB'];simp
      rw[e7,show pre++A1++B1++(A2++B2++post)=pre++A1++B1++A2++(B2++post) by simp];exact hr
     ·rw[es]at h';have :B1=[]:=List.eq_nil_of_length_eq_zero (by omega);rw[show l=pre++A1++B1++(A2++B2++post) by rw[hld,hA',hB',this];simp];exact h5
     ·have :A2=[]:=List.eq_nil_of_length_eq_zero (by omega);rw[show l=pre++A1++B1++(A2++B2++post) by rw[hld,hA',hB',this];simp];exact h5
    obtain⟨M,hM⟩:=g4 3 _ hrot;exact⟨M,hM⟩
  rw[←hld,←hbd,←hmd,←had];have ek:((a:Nat):Int)+((b:Nat):Int)=((a+b:Nat):Int):=by omega
  by_cases hc:mid<m
  ·obtain⟨C,k1,k2,M,k3⟩:=key (mid+m-b) mid (λ_=>.inr trivial) (by omega) (by omega) (by omega) (Nat.le_refl _) (λc h1 h2=>by omega) (.inr (by omega)) (.inr rfl);refine⟨C,k1,k2,fN M _ _ _ _ _ (⟨⟨by omega,by omega⟩,λh=>absurd h (by omega),λ_=>⟨⟨by omega,by omega⟩,λh=>absurd h (by omega),λ_=>⟨⟨by omega,by omega⟩,a+b,ek,by omega,by omega,⟨by rw[←hmid];omega,by rw[←hmid];omega⟩,λ_=>⟨⟨by rw[←hmid];omega,by rw[←hmid];omega⟩,⟨by rw[←hmid];omega,by rw[←hmid];omega⟩,?_⟩,λh=>absurd (by rw[←hmid];omega) h⟩⟩⟩)⟩;rw[←hmid,show((mid:Nat):Int)+((m:Nat):Int)-((b:Nat):Int)=((mid+m-b:Nat):Int) by omega];exact k3
  ·obtain⟨C,k1,k2,M,k3⟩:=key a m (λ_=>.inr trivial) (by omega) (Nat.le_refl _) (Nat.le_refl _) (by omega) (λc h1 h2=>by omega) (.inl rfl) (.inl rfl);refine⟨C,k1,k2,fN M _ _ _ _ _ (⟨⟨by omega,by omega⟩,λh=>absurd h (by omega),λ_=>⟨⟨by omega,by omega⟩,λh=>absurd h (by omega),λ_=>⟨⟨by omega,by omega⟩,a+b,ek,by omega,by omega,⟨by rw[←hmid];omega,by rw[←hmid];omega⟩,λh=>absurd h (by rw[←hmid];omega),λ_=>⟨⟨by rw[←hmid];omega,by rw[←hmid];omega⟩,k3⟩⟩⟩⟩)⟩
structure BlkE (s:Nat) (l:List FE) (bs:List (List FE)) (last:List FE):Prop where
 e:l=bs.flatten++last
 b:∀x∈bs,x.length=s∧cS x
 l:last.length<s∧cS last
theorem AO{s:Nat}:∀{bs:List (List FE)},(∀x∈bs,x.length=s∧cS x)→bs.flatten.length=bs.length*s
 |[],_=>by simp
 |b::r,h=>by
  rw[List.flatten_cons,List.length_append,AO (λx hx=>h x (by simp[hx])),(h b (by simp)).1,List.length_cons,Nat.succ_mul];omega
theorem Oz(hn:n≤90000000):∀(k:Nat) (pre R:List FE),R.length≤k→pre.length+R.length=n→(∀x∈R,PbE x)→(∃bs:List (List FE),pre=bs.flatten∧∀x∈bs,x.length=20∧cS x)→
  ∃l' bs last,l'.Perm (pre++R)∧BlkE 20 l' bs last∧∀M r,cO M (n:Nat) l' 20 r→∃M',gD M' (n:Nat) (pre++R) pre.length (pre.length+20) r:=λk=>by
 induction k with
 |zero=>
  intro pre R hk hpn hR ⟨bs,hb1,hb2⟩;have :R=[]:=List.eq_nil_of_length_eq_zero (by omega);subst this;obtain⟨S,h1,h2,h3⟩:=It pre [] [] (by simp) (by simp at hpn⊢;omega) (a:=(pre.length:Nat)) (b:=(n:Nat)) rfl (by simp at hpn⊢;omega);have :S=[]:=List.Perm.eq_nil h1;subst this;refine⟨pre++[],bs,[],List.Perm.refl _,⟨by rw[hb1],hb2,by decide,List.Pairwise.nil⟩,λM r h=>⟨M+1,jD M _ _ _ _ _ (⟨λh'=>absurd h' (by simp at hpn;omega),λ_=>⟨_,by simpa using h3,by simpa using h⟩⟩)⟩⟩
 | succ k ih=>
  intro pre R hk hpn hR hbs;by_cases hc:20≤R.length
  ·obtain⟨Ra,Rb,rfl,g1⟩:∃Ra Rb,R=Ra++Rb∧Ra.length=20:=⟨R.take 20,R.drop 20,by simp,by simp;omega⟩;simp only[List.length_append]at hk hpn hc;obtain⟨S,h1,h2,h3⟩:=It pre Ra Rb (λx hx=>hR x (by simp[hx])) (by omega) (a:=(pre.length:Nat)) (b:=((pre.length+20:Nat):Int)) rfl (by rw[g1]);have hS:=h1.length_eq;obtain⟨bs,hb1,hb2⟩:=hbs;obtain⟨l',bs',last,f1,f2,f3⟩:=ih (pre++S) Rb (by omega) (by simp;omega) (λx hx=>hR x (by simp[hx])) ⟨bs++[S],by rw[hb1];simp,λx hx=>by
    rcases List.mem_append.1 hx with h|h
    ·exact hb2 x h
    ·simp only[List.mem_singleton]at h;subst h;exact⟨by omega,h2⟩⟩
   refine⟨l',bs',last,f1.trans ?_,f2,λM r h=>?_⟩
   ·rw[List.append_assoc];exact List.Perm.append_left _ (List.Perm.append_right _ h1)
   ·obtain⟨M',hM⟩:=f3 M r h;rw[List.length_append,hS,g1]at hM;exact⟨M'+1,jD M' _ _ _ _ _ (⟨λ_=>⟨_,by simpa using h3,by omega,hM⟩,λh'=>absurd (by omega) h'⟩)⟩
  ·obtain⟨S,h1,h2,h3⟩:=It pre R [] hR (by omega) (a:=(pre.length:Nat)) (b:=(n:Nat)) rfl (by omega);have hS:=h1.length_eq;obtain⟨bs,hb1,hb2⟩:=hbs;refine⟨pre++S,bs,S,List.Perm.append_left _ h1,⟨by rw[hb1],hb2,by omega,h2⟩,λM r h=>⟨M+1,jD M _ _ _ _ _ (⟨λh'=>absurd h' (by omega),λ_=>⟨_,by simpa using h3,by simpa using h⟩⟩)⟩⟩
theorem Od{s:Nat}(hn:n≤90000000)(hs:0<s)(hsn:s<n):∀(k:Nat) (bs:List (List FE)) (pre last:List FE),bs.length≤k→pre.length+bs.flatten.length+last.length=n→(∀x∈pre,PbE x)→(∀x∈bs.flatten,PbE x)→(∀x∈last,PbE x)→(∀x∈bs,x.length=s∧cS x)→(last.length<s∧cS last)→(∃ps:List (List FE),pre=ps.flatten∧∀x∈ps,x.length=2*s∧cS x)→
  ∃l' bs' last',l'.Perm (pre++bs.flatten++last)∧BlkE (2*s) l' bs' last'∧∀M r,cO M (n:Nat) l' ((s:Int)*2) r→∃M',gL M' (n:Nat) (pre++bs.flatten++last) (pre.length:Nat) ((pre.length+2*s:Nat):Int) (s:Nat) r:=λk=>by
 induction k with
 |zero=>
  intro bs pre last hk hpn pp pb pl hb hl ⟨ps,hp1,hp2⟩;have :bs=[]:=List.eq_nil_of_length_eq_zero (by omega);subst this;simp only[List.flatten_nil,List.length_nil,Nat.add_zero,List.append_nil]at hpn⊢;exact⟨pre++last,ps,last,List.Perm.refl _,⟨by rw[hp1],hp2,by omega,hl.2⟩,λM r h=>⟨M+1,gb M _ _ _ _ _ _ (⟨λh'=>absurd h' (by omega),λ_=>⟨⟨by omega,by omega⟩,λh'=>absurd h' (by omega),λ_=>⟨⟨by omega,by omega⟩,h⟩⟩⟩)⟩⟩
 | succ k ih=>
  intro bs pre last hk hpn pp pb pl hb hl hps
  match bs,hk,hpn,pb,hb with
  |[],hk,hpn,pb,hb=>exact ih [] pre last (by simp) hpn pp pb pl hb hl hps
  | [b1],hk,hpn,pb,hb=>
   have h1:=hb b1 (by simp);simp only[List.flatten_cons,List.flatten_nil,List.append_nil]at hpn pb⊢;obtain⟨ps,hp1,hp2⟩:=hps;by_cases hl0:last=[]
   ·subst hl0;simp only[List.length_nil,Nat.add_zero,List.append_nil]at hpn⊢;exact⟨pre++b1,ps,b1,List.Perm.refl _,⟨by rw[hp1],hp2,by omega,h1.2⟩,λM r h=>⟨M+1,gb M _ _ _ _ _ _ (⟨λh'=>absurd h' (by omega),λ_=>⟨⟨by omega,by omega⟩,λh'=>absurd h' (by omega),λ_=>⟨⟨by omega,by omega⟩,h⟩⟩⟩)⟩⟩
   ·have hlp:0<last.length:=List.length_pos_iff.2 hl0;obtain⟨C,c1,c2,c3⟩:=DO (b1.length+last.length) pre b1 last [] (Nat.le_refl _) (by omega) hlp h1.2 hl.2 pb pl pp (by simp) (by simp;omega);have hC:=c1.length_eq;rw[List.length_append]at hC;refine⟨pre++C,ps,C,?_,⟨by rw[hp1],hp2,by omega,c2⟩,λM r h=>⟨M+1,gb M _ _ _ _ _ _ (⟨λh'=>absurd h' (by omega),λ_=>⟨⟨by omega,by omega⟩,λh'=>⟨pre++C,?_,⟨by omega,by omega⟩,h⟩,λh'=>absurd (by omega) h'⟩⟩)⟩⟩
    ·rw[List.append_assoc];exact List.Perm.append_left _ c1
    ·rw[h1.1,show pre.length+s+last.length=n by omega]at c3;rw[show((pre.length:Nat):Int)+((s:Nat):Int)=((pre.length+s:Nat):Int) by omega];simpa using c3
  | b1::b2::r0,hk,hpn,pb,hb=>
   have h1:=hb b1 (by simp);have h2:=hb b2 (by simp);simp only[List.flatten_cons,List.length_append,List.length_cons]at hpn hk;have pb':∀x,x∈b1∨x∈b2∨x∈r0.flatten→PbE x:=λx hx=>pb x (by simpa[List.flatten_cons]using hx);obtain⟨C,c1,c2,c3⟩:=DO (b1.length+b2.length) pre b1 b2 (r0.flatten++last) (Nat.le_refl _) (by omega) (by omega) h1.2 h2.2 (λx hx=>pb' x (.inl hx)) (λx hx=>pb' x (.inr (.inl hx))) pp (λx hx=>by
    rcases List.mem_append.1 hx with h|h
    ·exact pb' x (.inr (.inr h))
    ·exact pl x h) (by simp only[List.length_append];omega)
   have hC:=c1.length_eq;rw[List.length_append]at hC;obtain⟨ps,hp1,hp2⟩:=hps;obtain⟨l',bs',last',f1,f2,f3⟩:=ih r0 (pre++C) last (by omega) (by simp only[List.length_append];omega) (λx hx=>by
    rcases List.mem_append.1 hx with h|h
    ·exact pp x h
    ·rcases List.mem_append.1 (c1.mem_iff.1 h)with h|h
     ·exact pb' x (.inl h)
     ·exact pb' x (.inr (.inl h))) (λx hx=>pb' x (.inr (.inr hx))) pl (λx hx=>hb x (by simp[hx])) hl ⟨ps++[C],by rw[hp1];simp,λx hx=>by
    rcases List.mem_append.1 hx with h|h
    ·exact hp2 x h
    ·simp only[List.mem_singleton]at h;subst h;exact⟨by omega,c2⟩⟩
   refine⟨l',bs',last',f1.trans ?_,f2,λM r h=>?_⟩
   ·have :=List.Perm.append_left pre (List.Perm.append_right (r0.flatten++last) c1);simpa[List.flatten_cons]using this
   ·obtain⟨M',hM⟩:=f3 M r h;rw[h1.1,h2.1]at c3;rw[List.length_append,show C.length=2*s by omega]at hM;refine⟨M'+1,gb M' _ _ _ _ _ _ (⟨λ_=>⟨⟨by omega,by omega⟩,pre++C++r0.flatten++last,?_,⟨by omega,by omega⟩,⟨by omega,by omega⟩,?_⟩,λh'=>absurd (by omega) h'⟩)⟩
    ·rw[show((pre.length:Nat):Int)+((s:Nat):Int)=((pre.length+s:Nat):Int) by omega,show pre.length+2*s=pre.length+s+s by omega];simpa[List.flatten_cons]using c3
    ·rw[show((pre.length+2*s:Nat):Int)+2*((s:Nat):Int)=((pre.length+2*s+2*s:Nat):Int) by omega];exact hM
theorem OS(hn:n≤90000000):∀(k s:Nat) (l:List FE) (bs:List (List FE)) (last:List FE),n-s≤k→0<s→s≤180000000→l.length=n→(∀x∈l,PbE x)→BlkE s l bs last→∃r,r.Perm l∧cS r∧∃M,cO M (n:Nat) l (s:Nat) r:=λk=>by
 induction k using Nat.strongRecOn with
 | ind k ih=>
  intro s l bs last hk hs hs2 hl hp hB;have hlen:=congrArg List.length hB.e;rw[List.length_append,AO hB.b]at hlen;by_cases hc:s<n
  ·obtain⟨l',bs',last',f1,f2,f3⟩:=Od hn hs hc bs.length bs [] last (Nat.le_refl _) (by rw[AO hB.b,List.length_nil];omega) (by simp) (λx hx=>hp x (by rw[hB.e];simp only[List.mem_append];exact .inl hx)) (λx hx=>hp x (by rw[hB.e];simp only[List.mem_append];exact .inr hx)) hB.b hB.l ⟨[],rfl,by simp⟩;have f1':l'.Perm l:=by rw[hB.e];simpa using f1
   obtain⟨r,g1,g2,M,g3⟩:=ih (n-2*s) (by omega) (2*s) l' bs' last' (Nat.le_refl _) (by omega) (by omega) (by rw[f1'.length_eq];exact hl) (λx hx=>hp x (f1'.mem_iff.1 hx)) f2;obtain⟨M',hM⟩:=f3 M r (by rw[show((s:Nat):Int)*2=((2*s:Nat):Int) by omega];exact g3);refine⟨r,g1.trans f1',g2,M'+1,oC M' _ _ _ _ (⟨λ_=>⟨⟨by omega,by omega⟩,?_⟩,λh=>absurd (by omega) h⟩)⟩;rw[show 2*((s:Nat):Int)=(([]:List FE).length+2*s:Nat) by simp];rw[hB.e];simpa using hM
  ·refine⟨l,List.Perm.refl _,?_,1,oC 0 _ _ _ _ (⟨λh=>absurd h (by omega),λ_=>rfl⟩)⟩
   match bs,hB,hlen with
   |[],hB,_=>rw[hB.e];simpa using hB.l.2
   |[b],hB,hlen=>
    have h1:=hB.b b (by simp);simp only[List.length_cons,List.length_nil,Nat.zero_add,Nat.one_mul]at hlen;have :last=[]:=List.eq_nil_of_length_eq_zero (by omega);rw[hB.e,this];simpa using h1.2
   |b::b'::r,hB,hlen=>
    simp only[List.length_cons,Nat.succ_mul]at hlen;omega
theorem Qd(l:List FE)(G:l.length≤90000000)(J:∀x∈l,PbE x):∃r,eG l r∧r.Perm l∧cS r:=by
 obtain⟨O,bs,last,h1,h2,U⟩:=Oz G l.length [] l (Nat.le_refl _) (by simp) J ⟨[],rfl,by simp⟩;rw[List.nil_append]at h1;obtain⟨r,Z,g2,M,g3⟩:=OS G l.length 20 O bs last (by omega) (by decide) (by decide) h1.length_eq (λx hx=>J x (h1.mem_iff.1 hx)) h2;obtain⟨M',hM⟩:=U M r g3;exact⟨r,uW 0 _ _ (⟨r,vK M' _ _ _ (by simpa using hM),rfl⟩),Z.trans h1,g2⟩
theorem Fo{l r:List FE}(G:l.length≤90000000)(J:∀x∈l,PbE x)(h1:r.Perm l)(h2:cS r):eG l r:=by
 obtain⟨r',O,U,Z⟩:=Qd l G J;rw[yx h2 Z (h1.trans U.symm)];exact O
theorem Kp(a b:List Int)(ha:a.length≤1000000000):dc a b (decide (a=b)):=by
 by_cases hl:a.length=b.length
 ·have key:∀k i,a.length-i≤k→a.take i=b.take i→eE (k+1) a b i (decide (a=b)):=by
   intro k
   induction k with
   |zero=>
    intro i hi ht;refine gd 0 _ _ _ _ (⟨λh=>by omega,λ_=>?_⟩);rw[List.take_of_length_le (by omega),List.take_of_length_le (by omega)]at ht;simp[ht]
   | succ k ih=>
    intro i hi ht;refine gd (k+1) _ _ _ _ (⟨λh=>?_,λh=>?_⟩)
    ·have h':i<b.length:=by omega
     refine⟨a[i],List.getElem?_eq_getElem h,b[i],List.getElem?_eq_getElem h',λhn=>?_,λhe=>ih (i+1) (by omega) ?_⟩
     ·have :a≠b:=λe=>hn (by subst e;rfl);simp[this]
     ·rw[List.take_add_one,List.take_add_one,ht,List.getElem?_eq_getElem h,List.getElem?_eq_getElem h',he]
    ·rw[List.take_of_length_le (by omega),List.take_of_length_le (by omega)]at ht;simp[ht]
  exact kh (a.length+1) _ _ _ (⟨λh=>absurd hl h,λ_=>key a.length 0 (by omega) rfl⟩)
 ·exact kh 0 _ _ _ (⟨λ_=>by
   have :a≠b:=λe=>hl (by rw[e]);simp[this],λh=>absurd h hl⟩)
theorem rX(i:Int)(h:q.length+1≤1000000000):cn q i (q++[i]):=Ab 0 _ _ _ (⟨by omega,by simp;omega,rfl⟩)
def erC(c:CHr)(q:List Int)(k:Int):CHr:={c with L:=c.L++[⟨⟨c.Module,q⟩,k⟩]}
def erI(b:Bool)(c:CHr)(q:List Int)(k:Int):CHr:=if b=true then erC c q k else c
theorem qp{b:Bool}{c:CHr}{k:Int}(h:b=true):erI b c q k=erC c q k:=if_pos h
theorem nR{b:Bool}{c:CHr}{k:Int}(h:b=false):erI b c q k=c:=if_neg (by rw[h];decide)
theorem it{c:CHr}(k:Int)(h1:q.length≤1000000000)(h2:c.L.length+1≤1000000000):aH c q k (erC c q k):=vl 0 _ _ _ _ (⟨h1,by simp;omega,rfl⟩)
def fE(x:Cx)(b:List Int)(k:Int):FE:=⟨⟨x.mo,x.pa++b⟩,k⟩
def ct(d:Bool)(P:FE→Bool)(f:FE):Nat:=if(d&&P f)=true then 1 else 0
theorem Bt(P:FE→Bool)(d:Bool)(x:Cx)(k:Int)(b:List Int)(s:Sv):(if d=true then faP x k b s else s).fa.countP P=s.fa.countP P+ct d P (fE x b k):=by
 cases d
 ·simp[ct]
 ·simp only[if_true,faP,List.countP_append,ct,Bool.true_and,fE,List.countP_singleton]
theorem Bz(P:FE→Bool)(d:Bool){c:CHr}(G:c.Module=x.mo)(k:Int)(b:List Int):(erI d c (x.pa++b) k).L.countP P=c.L.countP P+ct d P (fE x b k):=by
 cases d
 ·simp[ct,erI]
 ·simp only[erI,if_true,erC,List.countP_append,ct,Bool.true_and,fE,List.countP_singleton,G]
theorem jz(d:Bool)(c:CHr)(q:List Int)(k:Int):(erI d c q k).P=c.P∧(erI d c q k).Module=c.Module∧(erI d c q k).Want=c.Want∧(erI d c q k).L.length≤c.L.length+1:=by
 cases d
 ·exact⟨rfl,rfl,rfl,by simp[erI]⟩
 ·exact⟨rfl,rfl,rfl,by simp[erI,erC]⟩
def goT(c:CHr):Ty:=⟨c.Got_Known,.node c.Got_T_Kind c.Got_T_Text c.Got_T_Leads c.Got_T_Kids⟩
def GR(x:Cx)(s:Sv)(c:CHr):Prop:=c.Want=[]∨(c.Want=x.wp∧x.mo=x.wm∧TyR ⟨s.rs,s.rl⟩ (goT c)∧s.rl≤1000000000)
theorem GR.er{c:CHr}(d:Bool)(q:List Int)(k:Int)(h:GR x s c):GR x s (erI d c q k):=by
 cases d
 ·exact h
 ·exact h
theorem GR.fa{c:CHr}(d:Bool)(b:List Int)(k:Int)(h:GR x s c):GR x (if d=true then faP x k b s else s) c:=by
 cases d
 ·exact h
 ·exact h
structure DR (x:Cx) (s s':Sv) (c c':CHr):Prop where
 P:c'.P=c.P
 M:c'.Module=c.Module
 W:c'.Want=c.Want
 d:∀P:FE→Bool,c'.L.countP P+s.fa.countP P=c.L.countP P+s'.fa.countP P
 g:GR x s c→GR x s' c'
theorem DR.refl(x:Cx)(s:Sv)(c:CHr):DR x s s c c:=⟨rfl,rfl,rfl,λ_=>rfl,id⟩
theorem DR.trans{s1 G:Sv}{c J O:CHr}(h:DR x s s1 c J)(k:DR x s1 G J O):DR x s G c O:=
 ⟨k.P.trans h.P,k.M.trans h.M,k.W.trans h.W,λP=>by have :=h.d P;have :=k.d P;omega,λg=>k.g (h.g g)⟩
theorem DR.er{c:CHr}(G:c.Module=x.mo)(d:Bool)(b:List Int)(k:Int):DR x s (if d=true then faP x k b s else s) c (erI d c (x.pa++b) k):=
 ⟨(jz ..).1,(jz ..).2.1,(jz ..).2.2.1,λP=>by rw[Bt,Bz P d G];omega,λg=>(g.er d _ _).fa d _ _⟩
theorem DR.len{s':Sv}{c G:CHr}(h:DR x s s' c G):G.L.length+s.fa.length=c.L.length+s'.fa.length:=by
 have :=h.d (λ_=>true);simpa[List.countP_true]using this
structure RX (x:Cx) (c:CHr):Prop where
 P:c.P=x.p
 M:c.Module=x.mo
 ok:bi x.p=true
 hb:kbulk x.p≤10000000
 m0:0≤x.mo
 m1:x.mo<x.p.length
 sg:x.sg=sgM x.p x.p 0 []
theorem RX.to{s':Sv}{c G:CHr}(h:RX x c)(d:DR x s s' c G):RX x G:=⟨d.P.trans h.P,d.M.trans h.M,h.ok,h.hb,h.m0,h.m1,h.sg⟩
theorem RX.er{c:CHr}(h:RX x c)(d:Bool)(q:List Int)(k:Int):RX x (erI d c q k):=⟨(jz ..).1.trans h.P,(jz ..).2.1.trans h.M,h.ok,h.hb,h.m0,h.m1,h.sg⟩
def IQ:Env→List Bd→Prop
 |[],[]=>True
 |b::r,e::q=>e.Name=b.name∧TyR b.typ e.T∧IQ r q
 |_,_=>False
def pJ(env:Env)(en:List Bd):Prop:=IQ env en.reverse
theorem pJ.cons{en:List Bd}{w:List UInt8}{y:Ty}(h:pJ env en)(hy:TyR k y):pJ (⟨w,k⟩::env) (en++[⟨w,y⟩]):=by
 unfold pJ;rw[List.reverse_append];exact⟨rfl,hy,h⟩
def QP(x:Cx)(t:Tree)(s:Sv):Prop:=∃rest,s.tg=bx x.p x.mo (nodK t x.pa)++rest
def NA(x:Cx)(t:Tree)(c:CHr):Prop:=∀q u,(q,u)∈nodK t x.pa→u.kind=17→q≠c.Want
def uY(E:Ev)(N:Nat):Prop:=∀t,tbulk t≤N→exT t→∀x env s en c L,Hyp x env s L (tbulk t) (uN t)→RX x c→pJ env en→QP x t s→NA x t c→c.L.length≤s.fa.length→en.length+tbulk t≤100000000→
 ∃y G,aQ c t x.pa en y G∧TyR (E x t env s).1 y∧DR x s (E x t env s).2 c G
theorem Ft(t:Tree):Tree.node t.kind t.text t.leads t.kids=t:=by cases t;rfl
theorem HK{en:List Bd}{c O:CHr}{r:Kn×Sv}{y:Ty}(hl:x.pa.length+1≤1000000000)(h1:aQ c u (x.pa++[(i:Int)]) en y O)(h2:TyR r.1 y)(G:DR x s r.2 c O)(hk:r.1.lists≤1000000000):
  ∃c',dV c u (x.pa++[(i:Int)]) en y c'∧DR x s (zq x i r).2 c c':=by
 obtain⟨k,s1⟩:=r;have hp:=Kp (x.pa++[(i:Int)]) O.Want (by simp;omega);have Z:(zq x i (k,s1)).2.fa=s1.fa:=BA x i k s1;by_cases hw:O.Want=[]
 ·refine⟨O,rS_semvcsref08_Check_expr 0 _ _ _ _ _ _ (⟨_,_,h1,λh=>absurd h (by rw[hw];simp),λ_=>⟨rfl,rfl⟩⟩),G.P,G.M,G.W,λP=>?_,λ_=>.inl hw⟩;rw[Z];exact G.d P
 ·have U:(0:Int)<((O.Want.length:Nat):Int):=by
   have :=List.length_pos_iff.2 hw;omega
  by_cases he:x.pa++[(i:Int)]=O.Want
  ·rw[decide_eq_true he]at hp;refine⟨_,rS_semvcsref08_Check_expr 0 _ _ _ _ _ _ (⟨_,_,h1,λ_=>⟨true,hp,λ_=>⟨rfl,rfl⟩,λh=>(by cases h)⟩,λh=>absurd U h⟩),G.P,G.M,G.W,λP=>?_,λg=>?_⟩
   ·rw[Z];exact G.d P
   ·rcases G.g g with J|⟨J,g2,g3⟩
    ·exact absurd J hw
    ·refine .inr ⟨J,g2,?_⟩;have e:(zq x i (k,s1)).2={s1 with rs:=k.simple,rl:=k.lists}:=if_pos ⟨g2,he.trans J⟩;rw[e];simp only[goT,Ft];exact⟨h2,hk⟩
  ·rw[decide_eq_false he]at hp;refine⟨O,rS_semvcsref08_Check_expr 0 _ _ _ _ _ _ (⟨_,_,h1,λ_=>⟨false,hp,λh=>(by cases h),λ_=>⟨rfl,rfl⟩⟩,λh=>absurd U h⟩),G.P,G.M,G.W,λP=>?_,λg=>?_⟩
   ·rw[Z];exact G.d P
   ·rcases G.g g with J|⟨J,g2,g3⟩
    ·exact absurd J hw
    ·have e:(zq x i (k,s1)).2=s1:=if_neg λh=>he (h.2.trans J.symm);rw[e];exact .inr ⟨J,g2,g3⟩
theorem vd(q:List Int)(hu:t.kids[i]?=some u):∀z,z∈nodK u (q++[(i:Int)])→z∈nodK t q:=by
 have key:∀(l:List Tree) (j i:Nat),l[i]?=some u→∀z,z∈nodK u (q++[((j+i:Nat):Int)])→z∈nodKs l q j:=by
  intro l
  induction l with
  |nil=>intro j i h;simp at h
  | cons a r ih=>
   intro j i h z hz;cases i with
   |zero=>
    simp only[List.getElem?_cons_zero,Option.some.injEq]at h;subst h;simp only[nodKs,List.mem_append];exact .inl hz
   |succ i=>
    simp only[nodKs,List.mem_append];refine .inr (ih (j+1) i (by simpa using h) z ?_);rw[show j+1+i=j+(i+1) by omega];exact hz
 intro z hz;rw[fG];exact List.mem_cons_of_mem _ (key t.kids 0 i hu z (by simpa using hz))
theorem nl(hG:nB E N)(hR:uY E N){en:List Bd}{c:CHr}(U:t.kids[i]?=some u)(hb:tbulk u≤N)(hx:exT u)(hy:Hyp x env s L (tbulk u+1) (uN u))(G:RX x c)(hE:pJ env en)(hQ:∃rest,s.tg=bx x.p x.mo (nodK u (x.pa++[(i:Int)]))++rest)(hN:NA x t c)(hl:c.L.length≤s.fa.length)(Z:en.length+tbulk u≤100000000):
  ∃y J,aX c t x.pa i en y J∧TyR (aO E x t i env s).1 y∧DR x s (aO E x t i env s).2 c J∧J.L.length≤(aO E x t i env s).2.fa.length:=by
 have hp:=hy.pa;have hlb:=hy.lb;have hgk:=(hG u hb hx (x.go i) env s L ⟨by simp[Cx.go];omega,by have :=hy.fa;omega,hy.tg,by have :=hy.lb;omega,hy.env,hy.sg⟩).2.k.2;obtain⟨y,c1,h1,h2,O⟩:=hR u hb hx (x.go i) env s en c L ⟨by simp[Cx.go];omega,by have :=hy.fa;omega,hy.tg,by have :=hy.lb;omega,hy.env,hy.sg⟩ ⟨G.P,G.M,G.ok,G.hb,G.m0,G.m1,G.sg⟩ hE hQ (λq v hm hk=>hN q v (vd x.pa U _ hm) hk) hl Z;have e:aO E x t i env s=zq x i (E (x.go i) u env s):=by unfold aO;rw[eo U]
 rw[e];obtain⟨J,g1,g2⟩:=HK (x:=x) (i:=i) (s:=s) (by omega) h1 h2 ⟨O.P,O.M,O.W,O.d,O.g⟩ (by omega);refine⟨y,J,oG 0 _ _ _ _ _ _ _ (⟨i,rfl,u,U,_,rX i (by omega),_,_,g1,rfl,rfl⟩),?_,g2,?_⟩
 ·generalize E (x.go i) u env s=r at h2⊢;obtain⟨k,s'⟩:=r;exact h2
 ·have :=g2.len;omega
end Go.Proofs.YtomplbgchbfjpaaGreatDoor
