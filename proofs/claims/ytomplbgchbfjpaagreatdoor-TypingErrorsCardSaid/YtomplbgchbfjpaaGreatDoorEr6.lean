/- Contracts of the functions that the law reaches, part 6. -/
import Derived.Test.YtomplbgchbfjpaaGreatDoorEr5
set_option linter.unusedVariables false
set_option linter.unusedSimpArgs false
namespace Go.Proofs.YtomplbgchbfjpaaGreatDoor
open _root_.Go.Proofs.Tryz
open Go.RowKit Lx Sx
set_option maxRecDepth 100000
set_option maxHeartbeats 1000000
theorem zR(d:Bool)(x:Cx)(k:Int)(b:List Int)(s:Sv):(if d=true then faP x k b s else s).tg=s.tg∧(if d=true then faP x k b s else s).fa.length≤s.fa.length+1∧s.fa.length≤(if d=true then faP x k b s else s).fa.length:=by
 cases d
 ·exact⟨rfl,by simp,by simp⟩
 ·exact⟨rfl,by simp[faP],by simp[faP]⟩
variable{x:Cx}{i:Nat}
theorem jy{a:Tree}{r:List Tree}{l rest:List aA}(h:l=bx x.p x.mo (nodKs (a::r) x.pa i)++rest):l=bx x.p x.mo (nodK a (x.pa++[(i:Int)]))++(bx x.p x.mo (nodKs r x.pa (i+1))++rest):=by
 rw[h,nodKs,sr,List.append_assoc]
theorem uA{a:Tree}{r:List Tree}{l G rest:List aA}(h:l=bx x.p x.mo (nodKs (a::r) x.pa i)++rest)(h':G=l.drop (uN a)):G=bx x.p x.mo (nodKs r x.pa (i+1))++rest:=by
 rw[h',jy h,←tgs_uN x.p x.mo a (x.pa++[(i:Int)]),List.drop_left]
variable{t:Tree}{s:Sv}
theorem BX(h:QP x t s)(G:dP t=false):∃rest,s.tg=bx x.p x.mo (nodKs t.kids x.pa 0)++rest:=by
 obtain⟨r,h⟩:=h;refine⟨r,?_⟩;rw[h,fG,bx,G];rfl
variable{en:List Bd}{m:Nat}
theorem k_low{c:CHr}{q:List Int}{y:Ty}{J:CHr}(G:t.kind≠10∧t.kind≠11∧t.kind≠13∧t.kind≠14)(h:dH m c t q en false y J):aQ c t q en y J:=
 rS_semvcsref08_Check_kind m _ _ _ _ _ _ (⟨λh=>absurd h G.1,λ_=>⟨λh=>absurd h G.2.1,λ_=>⟨λh=>absurd h G.2.2.1,λ_=>by rw[beq_eq_false_iff_ne.2 G.2.2.2];exact h⟩⟩⟩)
theorem FF{c:CHr}{t:Tree}{q:List Int}{en:List Bd}(hq:q.length≤1000000000)(hL:c.L.length+1≤1000000000):∀(env:Env) (l tail:List Bd),IQ env l→en=l.reverse++tail→l.length≤1000000000→
  (∀k,jc t.text env=some k→∃y,TyR k y∧dh (env.length+1) c t q en ((l.length:Int)-1) y c)∧(jc t.text env=none→dh (env.length+1) c t q en ((l.length:Int)-1) noY (erC c q 1))
 |[],[],tail,_,he,_=>⟨λk h=>(by cases h),λ_=>fi 0 _ _ _ _ _ _ _ (⟨λh=>absurd h (by simp),λ_=>⟨_,it 1 hq hL,rfl,rfl⟩⟩)⟩
 |[],e::l,tail,h,_,_=>h.elim
 |b::r,[],tail,h,_,_=>h.elim
 | b::r,e::l,tail,h,he,hl=>by
  obtain⟨h1,h2,h3⟩:=h;have hg:en[l.length]?=some e:=by
   rw[he,List.reverse_cons,List.append_assoc,List.getElem?_append_right (by simp)];simp
  have ez:(((e::l).length:Nat):Int)-1=((l.length:Nat):Int):=by simp
  rw[ez];simp only[List.length_cons]at hl;obtain⟨i1,i2⟩:=FF (c:=c) (t:=t) (en:=en) hq hL r l (e::tail) h3 (by rw[he];simp) (by omega);by_cases hb:b.name=t.text
  ·have hv:jc t.text (b::r)=some b.typ:=if_pos hb;rw[hv];refine⟨λk hk=>?_,λh=>(by cases h)⟩;injection hk with hk
   subst hk;exact⟨e.T,h2,fi (r.length+1) _ _ _ _ _ _ _ (⟨λ_=>⟨l.length,rfl,e,hg,λ_=>⟨l.length,rfl,e,hg,rfl,rfl⟩,λhn=>absurd (h1.trans hb) hn⟩,λh=>absurd (by omega) h⟩)⟩
  ·have hv:jc t.text (b::r)=jc t.text r:=if_neg hb;rw[hv];refine⟨λk hk=>?_,λhk=>?_⟩
   ·obtain⟨y,g1,g2⟩:=i1 k hk;exact⟨y,g1,fi (r.length+1) _ _ _ _ _ _ _ (⟨λ_=>⟨l.length,rfl,e,hg,λhn=>absurd (h1.symm.trans hn) hb,λ_=>⟨⟨by omega,by omega⟩,g2⟩⟩,λh=>absurd (by omega) h⟩)⟩
   ·exact fi (r.length+1) _ _ _ _ _ _ _ (⟨λ_=>⟨l.length,rfl,e,hg,λhn=>absurd (h1.symm.trans hn) hb,λ_=>⟨⟨by omega,by omega⟩,i2 hk⟩⟩,λh=>absurd (by omega) h⟩)
variable{env:Env}
theorem NU{s:Sv}{c:CHr}(J:t.kind=12)(O:RX x c)(U:pJ env en)(Z:x.pa.length≤1000000000)(hL:c.L.length+1≤1000000000)(hn:en.length≤1000000000):
  ∃y G,aQ c t x.pa en y G∧TyR (tN x s (jc t.text env)).1 y∧DR x s (tN x s (jc t.text env)).2 c G:=by
 obtain⟨h1,h2⟩:=FF (t:=t) (en:=en) Z hL env en.reverse [] U (by simp) (by simpa using hn);rw[List.length_reverse]at h1 h2;have go:∀y G,dh (env.length+1) c t x.pa en ((en.length:Int)-1) y G→aQ c t x.pa en y G:=λy G h=>
  k_low (m:=env.length+2) (by omega) (bo (env.length+1) _ _ _ _ _ _ _ (⟨λh=>(by cases h),λ_=>⟨λ_=>h,λh=>absurd J h⟩⟩))
 cases hv:jc t.text env with
 |some k=>
  obtain⟨y,g1,g2⟩:=h1 k hv;exact⟨y,c,go _ _ g2,g1,DR.refl ..⟩
 |none=>
  have :=DR.er (s:=s) O.M true [] 1;rw[List.append_nil]at this;exact⟨noY,_,go _ _ (h2 hv),TyR.no,this⟩
def ifY(y z:Ty):Ty:=if y.Known=true then y else z
variable{a b:Kn}
theorem RV{q:List Int}{y z:Ty}{c:CHr}(G:TyR a y)(hb:TyR b z)(J:q.length+1≤1000000000)(O:c.L.length+1≤1000000000)(m:Nat):fM (m+1) q y z c (ifY y z) (erI (aZ a b) c (q++[2]) 6):=by
 refine tM m _ _ _ _ _ _ (⟨_,nq G hb,λh=>⟨_,rX 2 J,_,it 6 (by simp;omega) O,λk=>?_,λk=>?_⟩,λh=>⟨λk=>?_,λk=>?_⟩⟩)
 ·exact⟨(if_pos k).symm,(qp h).symm⟩
 ·exact⟨(if_neg (by rw[k];decide)).symm,(qp h).symm⟩
 ·exact⟨(if_pos k).symm,(nR h).symm⟩
 ·exact⟨(if_neg (by rw[k];decide)).symm,(nR h).symm⟩
theorem QJ{y z:Ty}(G:TyR a y)(hb:TyR b z):TyR (if a.simple=0 then b else a) (ifY y z):=by
 unfold ifY;cases hy:y.Known
 ·rw[if_pos (G.un hy),if_neg (by decide)];exact hb
 ·rw[if_neg (G.kn hy),if_pos rfl];exact G
variable{E:Ev}{N L:Nat}
theorem PR(hG:nB E N)(hR:uY E N){c:CHr}(hb:tbulk t≤N+1)(hx:exT t)(hk:t.kind=19)(hy:Hyp x env s L (tbulk t) (uN t))(hX:RX x c)(hE:pJ env en)(hQ:QP x t s)(hN:NA x t c)(hl:c.L.length≤s.fa.length)(hen:en.length+tbulk t≤100000000):
  ∃y c',aQ c t x.pa en y c'∧TyR (ifP E x t env s).1 y∧DR x s (ifP E x t env s).2 c c':=by
 obtain⟨a,b,d,e⟩:=Nc ((qQ hx).2.2.1 hk);have ha:t.kids[0]?=some a:=by rw[e];rfl
 have J:t.kids[1]?=some b:=by rw[e];rfl
 have hd:t.kids[2]?=some d:=by rw[e];rfl
 have hB:=aV t;rw[e]at hB;simp only[kbulk]at hB;have hU:uN t=uN a+(uN b+uN d):=by rw[gG,e,hk];simp[uNs]
 have p0:=hy.pa;have p1:=hy.fa;have p2:=hy.tg;have p3:=hy.lb;obtain⟨rest,hq⟩:=BX hQ (by simp[dP,hk]);rw[e]at hq;have H0:=hy.to (s1:=s) (B':=tbulk a+1) (u':=uN a) (by omega) (by omega) (by omega);obtain⟨_,A2⟩:=ds hG (s:=s) (env:=env) (x:=x) (L:=L) ha (by omega) (cV hx ha (by omega)).1 H0;obtain⟨y1,c1,R1a,R1b,R1c,R1d⟩:=nl hG hR ha (by omega) (cV hx ha (by omega)).1 H0 hX hE ⟨_,jy hq⟩ hN hl (by omega);have G:=uA hq A2.tg;unfold ifP;generalize aO E x t 0 env s=r at A2 R1b R1c R1d G⊢;obtain⟨k1,s1⟩:=r;simp only at G;have q1:=A2.fa;simp only at q1;obtain⟨v1,v2,v3⟩:=zR (aZ k1 ⟨7,0⟩) x 4 [0] s1;have hs1:ifS x (k1,s1)=(if aZ k1 ⟨7,0⟩=true then faP x 4 [0] s1 else s1):=rfl;rw[←hs1]at v1 v2 v3;have n1:NA x t c1:=λq u h1 h2=>by rw[R1c.W];exact hN q u h1 h2
 have H1:=hy.to (s1:=ifS x (k1,s1)) (B':=tbulk b+1) (u':=uN b) (by omega) (by omega) (by rw[v1];exact sE (v:=uN t) A2.tg (by omega) p2);rw[←v1]at G;obtain⟨_,B2⟩:=ds hG (s:=ifS x (k1,s1)) (env:=env) (x:=x) (L:=L) J (by omega) (cV hx J (by omega)).1 H1;obtain⟨y2,c2,R2a,R2b,R2c,R2d⟩:=nl hG hR J (by omega) (cV hx J (by omega)).1 H1 (hX.to R1c) hE ⟨_,jy G⟩ n1 (by simp only at R1d;omega) (by omega);have U:=uA G B2.tg;generalize aO E x t 1 env (ifS x (k1,s1))=r at B2 R2b R2c R2d U⊢;obtain⟨O,s2⟩:=r;simp only at U;have q2:=B2.fa;simp only at q2;have n2:NA x t c2:=λq u h1 h2=>by rw[R2c.W];exact n1 q u h1 h2
 have H2:=hy.to (s1:=s2) (B':=tbulk d+1) (u':=uN d) (by omega) (by omega) (by have h1:=B2.tg;have h2:=A2.tg;simp only at h1 h2;rw[h1,v1,h2,List.drop_drop,List.length_drop];omega);obtain⟨_,C2⟩:=ds hG (s:=s2) (env:=env) (x:=x) (L:=L) hd (by omega) (cV hx hd (by omega)).1 H2;obtain⟨y3,Z,R3a,R3b,R3c,R3d⟩:=nl hG hR hd (by omega) (cV hx hd (by omega)).1 H2 ((hX.to R1c).to R2c) hE ⟨_,jy U⟩ n2 R2d (by omega);show∃y c',aQ c t x.pa en y c'∧TyR (ifQ x O (aO E x t 2 env s2)).1 y∧DR x s (ifQ x O (aO E x t 2 env s2)).2 c c';generalize aO E x t 2 env s2=r at C2 R3b R3c R3d⊢;obtain⟨k3,s3⟩:=r;simp only at R1b R2b R3b R1d R2d R3d;have q3:=C2.fa;simp only at q3;have X3:=((hX.to R1c).to R2c).to R3c;obtain⟨f1,f2,f3,f4⟩:=jz (aZ k1 ⟨7,0⟩) Z (x.pa++[0]) 4;obtain⟨g1,g2,g3,g4⟩:=jz (aZ O k3) (erI (aZ k1 ⟨7,0⟩) Z (x.pa++[0]) 4) (x.pa++[2]) 6;have hL2:=RV (q:=x.pa) (c:=erI (aZ k1 ⟨7,0⟩) Z (x.pa++[0]) 4) R2b R3b (by omega) (by omega) 0;have l1:=R1c.len;have l2:=R2c.len;have l3:=R3c.len;simp only at l1 l2 l3;refine⟨ifY y2 y3,erI (aZ O k3) (erI (aZ k1 ⟨7,0⟩) Z (x.pa++[0]) 4) (x.pa++[2]) 6,k_low (m:=2) (by omega) (bo 1 _ _ _ _ _ _ _ (⟨λh=>(by cases h),λ_=>⟨λh=>absurd h (by omega),λ_=>⟨λh=>absurd h (by omega),λ_=>⟨λh=>absurd h (by omega),λ_=>⟨λ_=>⟨y1,c1,R1a,y2,c2,R2a,y3,Z,R3a,_,iO 7,_,nq R1b (TyR.leaf (by decide) (by decide)),λh=>⟨_,rX 0 (by omega),_,it 4 (by simp;omega) (by omega),?_⟩,λh=>?_⟩,λh=>absurd hk h⟩⟩⟩⟩⟩)),?_,?_⟩
 ·rw[←qp (c:=Z) (q:=x.pa++[0]) (k:=4) h];exact hL2
 ·rw[nR (c:=Z) (q:=x.pa++[0]) (k:=4) h]at hL2⊢;exact hL2
 ·exact QJ R2b R3b
 ·refine⟨?_,?_,?_,λP=>?_,λg=>?_⟩
  ·rw[g1,f1,R3c.P,R2c.P,R1c.P]
  ·rw[g2,f2,R3c.M,R2c.M,R1c.M]
  ·rw[g3,f3,R3c.W,R2c.W,R1c.W]
  ·have z1:=R1c.d P;have z2:=R2c.d P;have z3:=R3c.d P;have z4:=Bt P (aZ k1 ⟨7,0⟩) x 4 [0] s1;rw[←hs1]at z4;have z5:=Bz P (aZ k1 ⟨7,0⟩) X3.M 4 [0];have z6:=Bz P (aZ O k3) (X3.er (aZ k1 ⟨7,0⟩) (x.pa++[0]) 4).M 6 [2];have z7:=Bt P (aZ O k3) x 6 [2] s3;simp only at z1 z2 z3;show List.countP P _+_=_+List.countP P (if aZ O k3=true then faP x 6 [2] s3 else s3).fa;omega
  ·exact(((R3c.g (R2c.g ((R1c.g g).fa (aZ k1 ⟨7,0⟩) [0] 4))).er _ _ _).er _ _ _).fa (aZ O k3) [2] 6
theorem OI(Z:nB E N)(hR:uY E N){c:CHr}(hb:tbulk t≤N+1)(hx:exT t)(O:t.kind=20)(hy:Hyp x env s L (tbulk t) (uN t))(hX:RX x c)(hE:pJ env en)(hQ:QP x t s)(hN:NA x t c)(hl:c.L.length≤s.fa.length)(hen:en.length+tbulk t≤100000000):
  ∃y c',aQ c t x.pa en y c'∧TyR (Ga E x t env (aO E x t 0 env s)).1 y∧DR x s (Ga E x t env (aO E x t 0 env s)).2 c c':=by
 obtain⟨a,b,e⟩:=DH ((qQ hx).2.1 O);have U:t.kids[0]?=some a:=by rw[e];rfl
 have J:t.kids[1]?=some b:=by rw[e];rfl
 have hB:=aV t;rw[e]at hB;simp only[kbulk]at hB;have hU:uN t=uN a+uN b:=by rw[gG,e,O];simp[uNs]
 have p0:=hy.pa;have p1:=hy.fa;have p2:=hy.tg;have p3:=hy.lb;obtain⟨rest,hq⟩:=BX hQ (by simp[dP,O]);rw[e]at hq;have H0:=hy.to (s1:=s) (B':=tbulk a+1) (u':=uN a) (by omega) (by omega) (by omega);obtain⟨_,A2⟩:=ds Z (s:=s) (env:=env) (x:=x) (L:=L) U (by omega) (cV hx U (by omega)).1 H0;obtain⟨y1,c1,R1a,R1b,R1c,R1d⟩:=nl Z hR U (by omega) (cV hx U (by omega)).1 H0 hX hE ⟨_,jy hq⟩ hN hl (by omega);have G:=uA hq A2.tg;generalize aO E x t 0 env s=r at A2 R1b R1c R1d G⊢;obtain⟨k1,s1⟩:=r;simp only at G R1b R1d;have q1:=A2.fa;have qk:=A2.k;simp only at q1 qk;have n1:NA x t c1:=λq u h1 h2=>by rw[R1c.W];exact hN q u h1 h2
 have H1:Hyp x (⟨t.text,k1⟩::env) s1 (L+tbulk a) (tbulk b+1) (uN b):=⟨by omega,by omega,sE (v:=uN t) A2.tg (by omega) p2,by omega,λc hc=>by
   rcases List.mem_cons.1 hc with rfl|hc
   ·exact qk
   ·exact(hy.env c hc).mono (by omega),λk g hg=>(hy.sg k g hg).mono (by omega)⟩
 obtain⟨y2,c2,R2a,R2b,R2c,R2d⟩:=nl Z hR J (by omega) (cV hx J (by omega)).1 H1 (hX.to R1c) (hE.cons (w:=t.text) R1b) ⟨_,jy G⟩ n1 R1d (by simp;omega);refine⟨y2,c2,k_low (m:=2) (by omega) (bo 1 _ _ _ _ _ _ _ (⟨λh=>(by cases h),λ_=>⟨λh=>absurd h (by omega),λ_=>⟨λh=>absurd h (by omega),λ_=>⟨λh=>absurd h (by omega),λ_=>⟨λh=>absurd h (by omega),λ_=>⟨λ_=>⟨y1,c1,R1a,by omega,by simp;omega,y2,c2,R2a,tR 0 _ _ _ _ (⟨rfl,rfl⟩)⟩,λh=>absurd O h⟩⟩⟩⟩⟩⟩)),R2b,R1c.trans R2c⟩
def vh(a b:Kn)(y z:Ty):Ty:=if okB a=true then y else if okB b=true then z else noY
theorem Qq(h:okB a=true):a.simple≠0:=by
 intro G;simp[okB,G]at h
theorem OO{y z:Ty}(G:TyR a y)(hb:TyR b z):TyR (tE a b) (vh a b y z):=by
 unfold tE vh uq;cases h1:okB a
 ·cases h2:okB b
  ·simp only[Bool.false_eq_true,if_false];exact TyR.no
  ·simp only[Bool.false_eq_true,if_false,if_true];exact hb
 ·have :=Qq h1;simp only[if_true,this,if_false,ite_self];exact G
theorem xP(h:(a.simple==5&&a.lists==0)=false):(a.simple==6&&a.lists==0)=okB a:=by unfold okB;rw[h,Bool.false_or]
theorem DF(h:(a.simple==5&&a.lists==0)=true):okB a=true:=by unfold okB;rw[h,Bool.true_or]
theorem Sf{y z:Ty}{c:CHr}(hb:TyR b z)(m:Nat):ga (m+1) y z c (okB a) (vh a b y z) c:=by
 refine ud m _ _ _ _ _ _ (⟨λh=>⟨by unfold vh;rw[if_pos h],rfl⟩,λh=>⟨_,wa hb (by decide) (by decide),λJ=>⟨?_,rfl⟩,λJ=>⟨_,wa hb (by decide) (by decide),λG=>⟨?_,rfl⟩,λG=>⟨?_,rfl⟩⟩⟩⟩)
 ·unfold vh;rw[if_neg (by rw[h];decide),if_pos (DF J)]
 ·rw[xP J]at G;unfold vh;rw[if_neg (by rw[h];decide),if_pos G]
 ·rw[xP J]at G;unfold vh;rw[if_neg (by rw[h];decide),if_neg (by rw[G];decide)];rfl
theorem MQ{y z:Ty}{c:CHr}(J:TyR a y)(hb:TyR b z)(m:Nat):dT (m+2) y z c (vh a b y z) c:=by
 have G:=Sf (a:=a) (y:=y) (c:=c) hb m;refine ux (m+1) _ _ _ _ _ (⟨_,wa J (by decide) (by decide),λh=>?_,λh=>⟨_,wa J (by decide) (by decide),?_⟩⟩)
 ·rw[DF h]at G;exact G
 ·rw[xP h];exact G
variable{q1:List Int}
theorem IE{y z:Ty}{c:CHr}(G:TyR a y)(hb:TyR b z)(f:Bool)(O:q1.length≤1000000000)(U:c.L.length+1≤1000000000)(m:Nat):dp (m+3) q1 y z c f (vh a b y z) (erI (!f&&aZ a b) c q1 6):=by
 refine uk (m+2) _ _ _ _ _ _ _ (⟨λh=>⟨_,nq G hb,λJ=>⟨_,it 6 O U,?_⟩,λJ=>?_⟩,λh=>?_⟩)
 ·rw[h,J];exact MQ G hb m
 ·rw[h,J];exact MQ G hb m
 ·rw[h];exact MQ G hb m
theorem Jy{y z:Ty}{c:CHr}(O:TyR a y)(hb:TyR b z)(f:Bool)(G:q1.length≤1000000000)(Z:c.L.length+2≤1000000000)(m:Nat):dr (m+4) q1 y z c f (vh a b y z) (erI (!(f||bad b)&&aZ a b) (erI (bad b) c q1 4) q1 6):=by
 have hk:=hb.known;refine ub (m+3) _ _ _ _ _ _ _ (⟨λh=>⟨_,wa hb (by decide) (by decide),λU=>⟨_,wa hb (by decide) (by decide),λJ=>⟨_,it 4 G (by omega),?_⟩,λJ=>?_⟩,λU=>?_⟩,λh=>?_⟩)
 ·rw[xP U]at J;have e:bad b=true:=by unfold bad;rw[J];simp[hb.kn h]
  rw[e,Bool.or_true];exact IE O hb true G (by simp[erC];omega) m
 ·rw[xP U]at J;have e:bad b=false:=by unfold bad;rw[J];rfl
  rw[e,Bool.or_false];exact IE O hb f G (by omega) m
 ·have e:bad b=false:=by unfold bad;rw[DF U];rfl
  rw[e,Bool.or_false];exact IE O hb f G (by omega) m
 ·have e:bad b=false:=by unfold bad;simp[hb.un h]
  rw[e,Bool.or_false];exact IE O hb f G (by omega) m
def MD(w:List UInt8):Ty:=if w=[60]then⟨true,.node 7 [] [] []⟩else⟨true,.node 5 [] [] []⟩
theorem Ql{z:Ty}{c:CHr}(hb:TyR b z)(J:q1.length≤1000000000)(O:c.L.length+1≤1000000000)(m:Nat):gn (m+1) t q1 z c (MD t.text) (erI (aZ b ⟨5,0⟩) c q1 4):=by
 refine ua m _ _ _ _ _ _ (⟨_,iO 5,_,nq hb (TyR.leaf (by decide) (by decide)),λh=>⟨_,it 4 J O,λG=>⟨_,iO 7,?_,?_⟩,λG=>⟨_,iO 5,?_,?_⟩⟩,λh=>⟨λG=>⟨_,iO 7,?_,?_⟩,λG=>⟨_,iO 5,?_,?_⟩⟩⟩)
 ·exact(if_pos G).symm
 ·exact(qp h).symm
 ·exact(if_neg G).symm
 ·exact(qp h).symm
 ·exact(if_pos G).symm
 ·exact(nR h).symm
 ·exact(if_neg G).symm
 ·exact(nR h).symm
def IN(w:List UInt8)(a b:Kn)(y z:Ty):Ty:=if w=[43]then vh a b y z else if w=[61,61]then⟨true,.node 7 [] [] []⟩else MD w
def JY(w:List UInt8)(a b:Kn)(q0 q1:List Int)(c:CHr):CHr:=if w=[43]then erI (!(bad a||bad b)&&aZ a b) (erI (bad b) (erI (bad a) c q0 4) q1 4) q1 6 else if w=[61,61]then erI (aZ a b) c q1 6 else erI (aZ b ⟨5,0⟩) (erI (aZ a ⟨5,0⟩) c q0 4) q1 4
theorem Sq{q0:List Int}{y z:Ty}{c:CHr}(U:TyR a y)(hb:TyR b z)(Z:q0.length≤1000000000)(O:q1.length≤1000000000)(hL:c.L.length+3≤1000000000):jI 6 t q0 q1 y z c (IN t.text a b y z) (JY t.text a b q0 q1 c):=by
 have l1:=(jz (bad a) c q0 4).2.2.2;have l2:=(jz (aZ a ⟨5,0⟩) c q0 4).2.2.2;unfold IN JY;refine uh 5 _ _ _ _ _ _ _ _ (⟨λJ=>⟨λh=>⟨_,wa U (by decide) (by decide),λh5=>⟨_,wa U (by decide) (by decide),λh6=>⟨_,it 4 Z (by omega),?_⟩,λh6=>?_⟩,λh5=>?_⟩,λh=>?_⟩,λJ=>⟨λG=>⟨_,nq U hb,λh=>⟨_,it 6 O (by omega),_,iO 7,?_,?_⟩,λh=>⟨_,iO 7,?_,?_⟩⟩,λG=>⟨_,iO 5,_,nq U (TyR.leaf (by decide) (by decide)),λh=>⟨_,it 4 Z (by omega),?_⟩,λh=>?_⟩⟩⟩)
 ·rw[xP h5]at h6;have e:bad a=true:=by unfold bad;rw[h6];simp[U.kn h]
  rw[if_pos J,if_pos J,e];exact Jy U hb true O (by simp[erC];omega) 1
 ·rw[xP h5]at h6;have e:bad a=false:=by unfold bad;rw[h6];rfl
  rw[if_pos J,if_pos J,e];exact Jy U hb false O (by omega) 1
 ·have e:bad a=false:=by unfold bad;rw[DF h5];rfl
  rw[if_pos J,if_pos J,e];exact Jy U hb false O (by omega) 1
 ·have e:bad a=false:=by unfold bad;simp[U.un h]
  rw[if_pos J,if_pos J,e];exact Jy U hb false O (by omega) 1
 ·rw[if_neg J,if_pos G]
 ·rw[if_neg J,if_pos G];exact(qp h).symm
 ·rw[if_neg J,if_pos G]
 ·rw[if_neg J,if_pos G];exact(nR h).symm
 ·rw[if_neg J,if_neg G,if_neg J,if_neg G,h];exact Ql hb O (by simp[erC];omega) 4
 ·rw[if_neg J,if_neg G,if_neg J,if_neg G,h];exact Ql hb O (by show c.L.length+1≤_;omega) 4
theorem Qt{w:List UInt8}{y z:Ty}(G:TyR a y)(hb:TyR b z):TyR (opQ x w a (b,s)).1 (IN w a b y z):=by
 unfold opQ IN MD;simp only[];split
 ·exact OO G hb
 ·split
  ·exact TyR.leaf (by decide) (by decide)
  ·simp only[];split
   ·exact TyR.leaf (by decide) (by decide)
   ·exact TyR.leaf (by decide) (by decide)
theorem DR.cong{s' G:Sv}{c J:CHr}(h:DR x s s' c J)(hf:∀P:FE→Bool,G.fa.countP P=s'.fa.countP P)(hr:G.rs=s'.rs∧G.rl=s'.rl):DR x s G c J:=
 ⟨h.P,h.M,h.W,λP=>by rw[hf];exact h.d P,λg=>by have :=h.g g;unfold GR at this⊢;rw[hr.1,hr.2];exact this⟩
theorem QX{w:List UInt8}{c:CHr}(G:RX x c):DR x s (opQ x w a (b,s)).2 c (JY w a b (x.pa++[0]) (x.pa++[1]) c):=by
 unfold opQ JY;simp only[];split
 ·have J:=DR.er (s:=s) G.M (bad a) [0] 4;have X1:=G.er (bad a) (x.pa++[0]) 4;have O:=DR.er (s:=if bad a=true then faP x 4 [0] s else s) X1.M (bad b) [1] 4;have X2:=X1.er (bad b) (x.pa++[1]) 4;have U:=DR.er (s:=if bad b=true then faP x 4 [1] (if bad a=true then faP x 4 [0] s else s)else if bad a=true then faP x 4 [0] s else s) X2.M (!(bad a||bad b)&&aZ a b) [1] 6;refine((J.trans O).trans U).cong (λP=>?_) ?_
  ·unfold qw;cases bad a<;>cases bad b<;>cases aZ a b<;>rfl
  ·unfold qw;cases bad a<;>cases bad b<;>cases aZ a b<;>exact⟨rfl,rfl⟩
 ·split
  ·exact DR.er G.M (aZ a b) [1] 6
  ·have J:=DR.er (s:=s) G.M (aZ a ⟨5,0⟩) [0] 4;have X1:=G.er (aZ a ⟨5,0⟩) (x.pa++[0]) 4;exact J.trans (DR.er (s:=if aZ a ⟨5,0⟩=true then faP x 4 [0] s else s) X1.M (aZ b ⟨5,0⟩) [1] 4)
theorem OP(U:nB E N)(hR:uY E N){c:CHr}(hb:tbulk t≤N+1)(hx:exT t)(Z:t.kind=21)(hy:Hyp x env s L (tbulk t) (uN t))(hX:RX x c)(hE:pJ env en)(hQ:QP x t s)(hN:NA x t c)(hl:c.L.length≤s.fa.length)(hen:en.length+tbulk t≤100000000):
  ∃y O,aQ c t x.pa en y O∧TyR (wI E x t env (aO E x t 0 env s)).1 y∧DR x s (wI E x t env (aO E x t 0 env s)).2 c O:=by
 obtain⟨a,b,e⟩:=DH ((qQ hx).2.2.2 Z);have ha:t.kids[0]?=some a:=by rw[e];rfl
 have G:t.kids[1]?=some b:=by rw[e];rfl
 have hB:=aV t;rw[e]at hB;simp only[kbulk]at hB;have hU:uN t=uN a+uN b:=by rw[gG,e,Z];simp[uNs]
 have p0:=hy.pa;have p1:=hy.fa;have p2:=hy.tg;have p3:=hy.lb;obtain⟨rest,hq⟩:=BX hQ (by simp[dP,Z]);rw[e]at hq;have H0:=hy.to (s1:=s) (B':=tbulk a+1) (u':=uN a) (by omega) (by omega) (by omega);obtain⟨_,A2⟩:=ds U (s:=s) (env:=env) (x:=x) (L:=L) ha (by omega) (cV hx ha (by omega)).1 H0;obtain⟨y1,c1,R1a,R1b,R1c,R1d⟩:=nl U hR ha (by omega) (cV hx ha (by omega)).1 H0 hX hE ⟨_,jy hq⟩ hN hl (by omega);have J:=uA hq A2.tg;generalize aO E x t 0 env s=r at A2 R1b R1c R1d J⊢;obtain⟨k1,s1⟩:=r;simp only at J R1b R1d;have q1:=A2.fa;simp only at q1;have n1:NA x t c1:=λq u h1 h2=>by rw[R1c.W];exact hN q u h1 h2
 have H1:=hy.to (s1:=s1) (B':=tbulk b+1) (u':=uN b) (by omega) (by omega) (sE (v:=uN t) A2.tg (by omega) p2);obtain⟨_,B2⟩:=ds U (s:=s1) (env:=env) (x:=x) (L:=L) G (by omega) (cV hx G (by omega)).1 H1;obtain⟨y2,c2,R2a,R2b,R2c,R2d⟩:=nl U hR G (by omega) (cV hx G (by omega)).1 H1 (hX.to R1c) hE ⟨_,jy J⟩ n1 R1d (by omega);show∃y O,aQ c t x.pa en y O∧TyR (opQ x t.text k1 (aO E x t 1 env s1)).1 y∧DR x s (opQ x t.text k1 (aO E x t 1 env s1)).2 c O;generalize aO E x t 1 env s1=r at B2 R2b R2c R2d⊢;obtain⟨k2,s2⟩:=r;simp only at R2b R2d;have q2:=B2.fa;simp only at q2;have hB0:=Sq (t:=t) (q0:=x.pa++[0]) (q1:=x.pa++[1]) (c:=c2) R1b R2b (by simp;omega) (by simp;omega) (by omega);exact⟨_,_,k_low (m:=2) (by omega) (bo 1 _ _ _ _ _ _ _ (⟨λh=>(by cases h),λ_=>⟨λh=>absurd h (by omega),λ_=>⟨λh=>absurd h (by omega),λ_=>⟨λh=>absurd h (by omega),λ_=>⟨λh=>absurd h (by omega),λ_=>⟨λh=>absurd h (by omega),λ_=>⟨λ_=>⟨_,_,uR 6 _ _ _ _ _ _ (⟨_,rX 0 (by omega),_,rX 1 (by omega),y1,c1,R1a,y2,c2,R2a,hB0⟩),rfl,rfl⟩,λh=>absurd Z h⟩⟩⟩⟩⟩⟩⟩)),Qt R1b R2b,(R1c.trans R2c).trans (QX ((hX.to R1c).to R2c))⟩
theorem Po(y:Ty):ah.mk y.Known (Tree.node y.T.kind y.T.text y.T.leads y.T.kids)=y:=by
 obtain⟨k,t⟩:=y;cases t;rfl
def LR(t:Tree)(q:List Int)(en:List Bd)(M:Nat)(c:CHr)(f:Ty)(i:Nat)(y:Ty)(G:CHr):Prop:=cw M t q en c f.Known f.T.kind f.T.text f.T.leads f.T.kids i y G
theorem GV{E:Ev}{N:Nat}(hG:nB E N)(hR:uY E N){x:Cx}{env:Env}{en:List Bd}{L:Nat}{t:Tree}(hx:exT t)(hk:t.kind=18)(hb:tbulk t≤N+1)(hE:pJ env en)(hen:en.length+tbulk t≤100000000)(rest:List aA):∀(n i:Nat) (f:Kn) (yf:Ty) (s:Sv) (c:CHr),n+i=t.kids.length→TyR f yf→Hyp x env s L (kbulk (t.kids.drop i)+1) (uNs (t.kids.drop i))→RX x c→NA x t c→s.tg=bx x.p x.mo (nodKs (t.kids.drop i) x.pa i)++rest→c.L.length≤s.fa.length→
  ∃y c',LR t x.pa en (n+1) c yf i y c'∧TyR (jC (iq E x t env n i (f,s))).1 y∧DR x s (jC (iq E x t env n i (f,s))).2 c c'
 | 0,i,f,yf,s,c,hn,hf,hy,hX,hN,hq,hl=>by
  rw[show iq E x t env 0 i (f,s)=(f,s)from rfl];cases hK:yf.Known
  ·have hz:=hf.un hK;rw[show jC (f,s)=(f,s) by unfold jC;simp only[if_pos hz]];exact⟨noY,c,iU 0 _ _ _ _ _ _ _ _ _ _ _ _ (⟨λh=>absurd h (by omega),λ_=>⟨λ_=>⟨rfl,rfl⟩,λh=>(by rw[hK]at h;cases h)⟩⟩),.inl ⟨hz,rfl⟩,DR.refl ..⟩
  ·have hz:=hf.kn hK;rw[show jC (f,s)=(⟨f.simple,f.lists+1⟩,s) by unfold jC;simp only[if_neg hz]];refine⟨_,c,iU 0 _ _ _ _ _ _ _ _ _ _ _ _ (⟨λh=>absurd h (by omega),λ_=>⟨λh=>(by rw[hK]at h;cases h),λ_=>⟨rfl,rfl⟩⟩⟩),?_,DR.refl ..⟩;rcases hf with⟨h,_⟩|⟨_,h1,h2,k,h3,h4⟩
   ·exact absurd h hz
   ·refine .inr ⟨rfl,h1,h2,k+1,by simp only;omega,?_⟩;simp only[Ft,h4];rfl
 | n+1,i,f,yf,s,c,hn,hf,hy,hX,hN,hq,hl=>by
  have hlt:i<t.kids.length:=by omega
  obtain⟨u,hu⟩:∃u,t.kids[i]?=some u:=⟨_,fv hlt⟩;have hd:=aU hu;have hB:=aV t;have b0:=bt hu;have hxu:=(cV hx hu (by omega)).1;have p1:=hy.pa;have p2:=hy.fa;have p3:=hy.tg;have p4:=hy.lb;rw[hd]at p1 p2 p3 p4 hy hq;simp only[kbulk,uNs]at p1 p2 p3 p4 hy;have H0:=hy.to (s1:=s) (B':=tbulk u+1) (u':=uN u) (by omega) (by omega) (by omega);obtain⟨_,A2⟩:=ds hG (s:=s) (env:=env) (x:=x) (L:=L) hu (by omega) hxu H0;obtain⟨y1,c1,R1a,R1b,R1c,R1d⟩:=nl hG hR hu (by omega) hxu H0 hX hE ⟨_,jy hq⟩ hN hl (by omega);have hq1:=uA hq A2.tg;rw[show iq E x t env (n+1) i (f,s)=iq E x t env n (i+1) (AL x i f (aO E x t i env s))from rfl];generalize aO E x t i env s=r at A2 R1b R1c R1d hq1⊢;obtain⟨k,s1⟩:=r;have q1:=A2.fa;have q2:=A2.tg;simp only at q1 q2 R1b R1d hq1;have n1:NA x t c1:=λq u h1 h2=>by rw[R1c.W];exact hN q u h1 h2
  obtain⟨f1,hf1⟩:∃f1,f1=if f.simple=0 then k else f:=⟨_,rfl⟩
  obtain⟨yf1,hyf1⟩:∃yf1,yf1=if yf.Known=true then yf else y1:=⟨_,rfl⟩
  have hT:TyR f1 yf1:=by
   rw[hf1,hyf1];cases hK:yf.Known
   ·rw[if_pos (hf.un hK),if_neg (by decide)];exact R1b
   ·rw[if_neg (hf.kn hK),if_pos rfl];exact hf
  rw[show AL x i f (k,s1)=(if f.simple=0 then k else f,if aZ k (if f.simple=0 then k else f)then faP x 6 [(i:Int)] s1 else s1)from rfl,←hf1];obtain⟨v1,v2,v3⟩:=zR (aZ k f1) x 6 [(i:Int)] s1;obtain⟨e1,e2,e3,e4⟩:=jz (aZ k f1) c1 (x.pa++[(i:Int)]) 6;have d2:=R1c.trans (DR.er (s:=s1) (hX.to R1c).M (aZ k f1) [(i:Int)] 6);have l2:=d2.len;obtain⟨y,c',g1,g2,g3⟩:=GV hG hR hx hk hb hE hen rest n (i+1) f1 yf1 _ (erI (aZ k f1) c1 (x.pa++[(i:Int)]) 6) (by omega) hT (hy.to (s1:=if aZ k f1=true then faP x 6 [(i:Int)] s1 else s1) (by omega) (by omega) (by rw[v1,q2,List.length_drop];omega)) ((hX.to R1c).er _ _ _) (λq u h1 h2=>by rw[e3];exact n1 q u h1 h2) (v1.trans hq1) (by omega);refine⟨y,c',?_,g2,d2.trans g3⟩;have l1:=R1c.len;refine iU (n+1) _ _ _ _ _ _ _ _ _ _ _ _ (⟨λ_=>⟨y1,c1,R1a,λhK=>?_,λhK=>?_⟩,λh=>absurd hlt h⟩)
  ·have ef:f1=k:=hf1.trans (if_pos (hf.un hK));have ey:yf1=y1:=hyf1.trans (if_neg (by rw[hK];decide));rw[ef,ey]at g1;refine⟨_,nq R1b R1b,λh=>⟨_,rX (i:Int) (by omega),_,it 6 (by simp;omega) (by omega),?_⟩,λh=>?_⟩
   ·rw[qp h]at g1;exact g1
   ·rw[nR h]at g1;exact g1
  ·have ef:f1=f:=hf1.trans (if_neg (hf.kn hK));have ey:yf1=yf:=hyf1.trans (if_pos hK);rw[ef,ey]at g1;refine⟨_,by rw[Po];exact nq R1b hf,λh=>⟨_,rX (i:Int) (by omega),_,it 6 (by simp;omega) (by omega),?_⟩,λh=>?_⟩
   ·rw[qp h]at g1;exact g1
   ·rw[nR h]at g1;exact g1
variable{p:List Tree}
theorem LJ{m:Int}{u:Tree}(hp:bi p=true)(h9:u.kind=16)(hu:shapeK u=true)(h:(ba p m u.text).2.2=true):∃(i d:Nat) (t f:Tree),(ba p m u.text).1=(i:Int)∧(ba p m u.text).2.1=(d:Int)∧p[i]?=some t∧t.kids[d]?=some f∧f.kind=2∧shapeK f=true:=by
 have G:bJ u.text=1∨bJ u.text=3:=by
  rw[cp,h9]at hu;simp only[Bool.and_eq_true]at hu;have :=hu.1.2;simp only[oW]at this;simp at this;omega
 have fin:∀(i d:Nat) (t a:Tree),p[i]?=some t→t.kids[d]?=some a→shapeK a=true:=λi d t a ht ha=>by
  obtain⟨Z,J⟩:=fw hp ht;rw[cp]at J;simp only[Bool.and_eq_true]at J;exact(ej J.2 ha).2
 unfold ba at h⊢;rcases G with G|G
 ·have hd:dD u.text 0=-1:=AG _ _ (DE G (.inl rfl)).1;rw[if_neg (by omega)]at h⊢;obtain⟨i,d,t,a,_,a1,a2,O,U,a5,_⟩:=xn h;obtain⟨Z,J⟩:=fw hp O;refine⟨i,d,t,a,a1,a2,O,U,?_,fin i d t a O U⟩;rcases sD Z J U with⟨k,_⟩|⟨_,k⟩
  ·exact k
  ·rw[a5,G]at k;cases k
 ·have hd:=Hq G (.inl rfl);rw[if_pos (by omega)]at h⊢;obtain⟨i,d,t,a,_,a1,a2,O,U,a5,_⟩:=xn h;obtain⟨Z,J⟩:=fw hp O;refine⟨i,d,t,a,a1,a2,O,U,?_,fin i d t a O U⟩;rcases sD Z J U with⟨k,_⟩|⟨_,k⟩
  ·exact k
  ·have g:=(DE k (.inr rfl)).2;have g3:=(Ip G (.inl rfl)).2.2.1 rfl;rw[a5,hd,Int.toNat_natCast]at g;have e:(u.text.drop (spanN bg u.text+1)).getD 0 0=u.text.getD (spanN bg u.text+1) 0:=by
    simp[List.getD_eq_getElem?_getD,List.getElem?_drop]
   rw[e]at g;have :=g.2 g3;cases this
theorem Oh(hG:nB E N)(hR:uY E N){c:CHr}{a u:Tree}(Z:t.kids[i]?=some a)(hk:a.kind=17)(hu:a.kids[0]?=some u)(hb:tbulk u≤N)(hx:exT u)(hp:x.pa.length+tbulk u+2≤100000000)(hy:Hyp x env s L (tbulk u+1) (uN u))(G:RX x c)(hE:pJ env en)(hQ:∃rest,s.tg=bx x.p x.mo (nodK a (x.pa++[(i:Int)]))++rest)(hka:a.kids=[u])(hN:NA x t c)(hl:c.L.length≤s.fa.length)(hen:en.length+tbulk u≤100000000):
  ∃y c',aX c t x.pa i en y c'∧TyR (aO E (x.go i) a 0 env s).1 y∧DR x s (aO E (x.go i) a 0 env s).2 c c'∧c'.L.length≤(aO E (x.go i) a 0 env s).2.fa.length:=by
 obtain⟨rest,hq⟩:=hQ;have hq':s.tg=bx x.p x.mo (nodKs (u::[]) (x.pa++[(i:Int)]) 0)++rest:=by
  rw[hq,fG,bx,show dP a=false by simp[dP,hk],hka];rfl
 obtain⟨y,J,h1,h2,O,h4⟩:=nl (x:=x.go i) hG hR hu hb hx ⟨by simp[Cx.go];omega,by have :=hy.fa;omega,hy.tg,by have :=hy.lb;omega,hy.env,hy.sg⟩ (c:=c) ⟨G.P,G.M,G.ok,G.hb,G.m0,G.m1,G.sg⟩ hE ⟨_,jy (x:=x.go i) hq'⟩ (λq v hm hk'=>hN q v (vd x.pa Z _ hm) hk') hl hen;have hkd:aQ c a (x.pa++[(i:Int)]) en y J:=
  k_low (m:=1) (by omega) (bo 0 _ _ _ _ _ _ _ (⟨λh=>(by cases h),λ_=>⟨λh=>absurd h (by omega),λ_=>⟨λh=>absurd h (by omega),λ_=>⟨λh=>absurd h (by omega),λ_=>⟨λh=>absurd h (by omega),λ_=>⟨λh=>absurd h (by omega),λ_=>⟨λh=>absurd h (by omega),λ_=>⟨λh=>absurd h (by omega),λ_=>⟨λ_=>⟨y,J,h1,rfl,rfl⟩,λh=>absurd hk h⟩⟩⟩⟩⟩⟩⟩⟩⟩))
 have hne:x.pa++[(i:Int)]≠J.Want:=by
  rw[O.W];exact hN _ a (vd x.pa Z _ (by rw[fG];exact List.mem_cons_self)) hk
 have U:=Kp (x.pa++[(i:Int)]) J.Want (by simp;omega);rw[decide_eq_false hne]at U;have hex:dV c a (x.pa++[(i:Int)]) en y J:=
  rS_semvcsref08_Check_expr 0 _ _ _ _ _ _ (⟨_,_,hkd,λ_=>⟨false,U,λh=>(by cases h),λ_=>⟨rfl,rfl⟩⟩,λ_=>⟨rfl,rfl⟩⟩)
 exact⟨y,J,oG 0 _ _ _ _ _ _ _ (⟨i,rfl,a,Z,_,rX i (by omega),_,_,hex,rfl,rfl⟩),h2,⟨O.P,O.M,O.W,O.d,O.g⟩,h4⟩
def sN(ps:List Kn)(i:Nat)(k:Kn):Bool:=match ps[i]? with
 |some q=>aZ k q
 |none=>false
theorem QI(x:Cx)(ps:List Kn)(i:Nat)(k:Kn)(s:Sv):sO x ps i (k,s)=if sN ps i k=true then faP x 4 [(i:Int),0] s else s:=by
 unfold sO sN;simp only[];cases ps[i]?<;>simp
theorem Bh{E:Ev}{N:Nat}(hG:nB E N)(hR:uY E N){x:Cx}{env:Env}{en:List Bd}{L:Nat}{t:Tree}(ps:List Kn)(bf:Bool)(n1 z:Int)(f:Tree)(yE:Ty)(ht:∀(i:Nat) (a:Tree),t.kids[i]?=some a→∃u,a.kids=[u]∧a.kind=17∧tbulk u<tbulk a∧tbulk u≤N∧exT u∧uN a=uN u)(hE:pJ env en)(hen:en.length+kbulk t.kids≤100000000)(hz:bf=true→z=(ps.length:Int))(hz0:bf=false→ps=[])
  (hps:bf=true→∀(i:Nat) (q:Kn),ps[i]?=some q→∃(pk v:Tree) (yq:Ty),f.kids[i]?=some pk∧pk.kids[0]?=some v∧TyR q yq∧∀c:CHr,c.P=x.p→bj c n1 v yq c) (hend:bf=true→∃rt:Tree,f.kids[ps.length]?=some rt∧∀c:CHr,c.P=x.p→bj c n1 rt yE c) (hend0:bf=false→yE=noY) (rest:List aA):∀(n i:Nat) (s:Sv) (c:CHr),n+i=t.kids.length→x.pa.length+kbulk (t.kids.drop i)+1≤100000000→Hyp x env s L (kbulk (t.kids.drop i)) (uNs (t.kids.drop i))→RX x c→NA x t c→s.tg=bx x.p x.mo (nodKs (t.kids.drop i) x.pa i)++rest→c.L.length≤s.fa.length→
  ∃c',cu (n+1) t x.pa en n1 z c bf i f yE c'∧DR x s (iF E x ps env (t.kids.drop i) i s) c c'
 |0,i,s,c,hn,hpa,hy,hX,hN,hq,hl=>by
  have hd:t.kids.drop i=[]:=List.drop_of_length_le (by omega);rw[hd];refine⟨c,mW 0 _ _ _ _ _ _ _ _ _ _ _ (⟨λh=>absurd h (by omega),λ_=>⟨λh=>⟨(hend0 h).symm,rfl⟩,λh=>?_⟩⟩),DR.refl ..⟩;obtain⟨rt,g1,g2⟩:=hend h;exact⟨ps.length,hz h,rt,g1,_,_,g2 c hX.P,rfl,rfl⟩
 | n+1,i,s,c,hn,hpa,hy,hX,hN,hq,hl=>by
  have hlt:i<t.kids.length:=by omega
  obtain⟨a,ha⟩:∃a,t.kids[i]?=some a:=⟨_,fv hlt⟩;have hd:=aU ha;obtain⟨u,hu',hk17,b1,b2,b3,b4⟩:=ht i a ha;have hu:a.kids[0]?=some u:=by rw[hu'];rfl
  have b0:=bt ha;have p1:=hy.pa;have p2:=hy.fa;have p3:=hy.tg;have p4:=hy.lb;rw[hd]at p1 p2 p3 p4 hpa hq⊢;simp only[kbulk,uNs]at p1 p2 p3 p4 hpa;have HG:Hyp (x.go i) env s L (tbulk u+1) (uN u):=⟨by simp[Cx.go];omega,by omega,by omega,by omega,hy.env,hy.sg⟩;obtain⟨_,A2⟩:=ds hG (s:=s) (env:=env) (x:=x.go i) (L:=L) hu b2 b3 HG;obtain⟨y1,c1,R1a,R1b,R1c,R1d⟩:=Oh hG hR ha hk17 hu b2 b3 (by omega) (s:=s) (L:=L) (env:=env) (x:=x) ⟨by omega,by omega,by omega,by omega,hy.env,hy.sg⟩ hX hE ⟨_,jy hq⟩ hu' hN hl (by omega);have hA2:=A2.tg;rw[←b4]at hA2;have hq1:=uA hq hA2;rw[show iF E x ps env (a::t.kids.drop (i+1)) i s=iF E x ps env (t.kids.drop (i+1)) (i+1) (sO x ps i (aO E (x.go i) a 0 env s))from rfl];generalize aO E (x.go i) a 0 env s=r at A2 hA2 R1b R1c R1d hq1⊢;obtain⟨k,s1⟩:=r;have q1:=A2.fa;simp only at q1 R1b R1d hq1 hA2;rw[QI];have n1':NA x t c1:=λq u h1 h2=>by rw[R1c.W];exact hN q u h1 h2
  obtain⟨v1,v2,v3⟩:=zR (sN ps i k) x 4 [(i:Int),0] s1;obtain⟨e1,e2,e3,e4⟩:=jz (sN ps i k) c1 (x.pa++[(i:Int),0]) 4;have d2:=R1c.trans (DR.er (s:=s1) (hX.to R1c).M (sN ps i k) [(i:Int),0] 4);have l2:=d2.len;have l1:=R1c.len;have X1:=hX.to R1c;obtain⟨c',g1,g3⟩:=Bh hG hR ps bf n1 z f yE ht hE hen hz hz0 hps hend hend0 rest n (i+1) _ (erI (sN ps i k) c1 (x.pa++[(i:Int),0]) 4) (by omega) (by omega) (hy.to (s1:=if sN ps i k=true then faP x 4 [(i:Int),0] s1 else s1) (by rw[hd];simp only[kbulk];omega) (by rw[hd];simp only[kbulk];omega) (by rw[v1,hA2,List.length_drop];omega)) (X1.er _ _ _) (λq u h1 h2=>by rw[e3];exact n1' q u h1 h2) (v1.trans hq1) (by omega);refine⟨c',?_,d2.trans g3⟩;have hpath:x.pa++[(i:Int)]++[(0:Int)]=x.pa++[(i:Int),0]:=by simp
  refine mW (n+1) _ _ _ _ _ _ _ _ _ _ _ (⟨λ_=>⟨_,rX (i:Int) (by omega),_,rX 0 (by simp;omega),y1,c1,R1a,λh=>⟨λhi=>?_,λhi=>?_⟩,λh=>?_⟩,λh=>absurd hlt h⟩)
  ·have hi':i<ps.length:=by rw[hz h]at hi;omega
   obtain⟨q,hqq⟩:∃q,ps[i]?=some q:=⟨ps[i],List.getElem?_eq_getElem hi'⟩;obtain⟨pk,v,yq,w1,w2,w3,w4⟩:=hps h i q hqq;have hD:sN ps i k=aZ k q:=by unfold sN;rw[hqq]
   rw[hD]at g1;rw[h]at g1;refine⟨pk,w1,v,w2,yq,c1,w4 c1 X1.P,_,nq R1b w3,λhb=>⟨_,it 4 (by simp;omega) (by omega),?_⟩,λhb=>?_⟩
   ·rw[qp hb]at g1;rw[hpath];exact g1
   ·rw[nR hb]at g1;exact g1
  ·have hq0:ps[i]?=none:=List.getElem?_eq_none (by rw[hz h]at hi;omega);have hD:sN ps i k=false:=by unfold sN;rw[hq0]
   rw[nR hD,h]at g1;exact g1
  ·have hD:sN ps i k=false:=by unfold sN;rw[hz0 h];rfl
   rw[nR hD,h]at g1;exact g1
theorem EG{a v:Tree}(h:a.kids=[v]):cP a 0=v:=eo (by rw[h];rfl)
theorem LQ(hG:nB E N)(hR:uY E N){c:CHr}(hb:tbulk t≤N+1)(hx:exT t)(hk:t.kind=16)(hy:Hyp x env s L (tbulk t) (uN t))(G:RX x c)(hE:pJ env en)(hQ:QP x t s)(hN:NA x t c)(hl:c.L.length≤s.fa.length)(hen:en.length+tbulk t≤100000000):
  ∃y U,aQ c t x.pa en y U∧TyR (oT E x t env s).1 y∧DR x s (oT E x t env s).2 c U:=by
 have hB:=aV t;have hU:uN t=1+uNs t.kids:=by rw[gG,hk];simp
 have p1:=hy.pa;have p2:=hy.fa;have p3:=hy.tg;have p4:=hy.lb;have hkl:=bB t;have htx:=cx t;have ht:∀(i:Nat) (a:Tree),t.kids[i]?=some a→∃u,a.kids=[u]∧a.kind=17∧tbulk u<tbulk a∧tbulk u≤N∧exT u∧uN a=uN u:=λi a ha=>by
  obtain⟨h1,h2,h3⟩:=Ci hx ha hk;obtain⟨u,e⟩:=zP h2;have hu:a.kids[0]?=some u:=by rw[e];rfl
  have h4:=aF hu;have h5:=aF ha;rw[eo hu]at h3;exact⟨u,e,h1,h4,by omega,h3,by rw[gG a,h1,e];simp[uNs]⟩
 obtain⟨rest,hq⟩:=hQ;have hq':s.tg=tgK x.p x.mo x.pa t::(bx x.p x.mo (nodKs t.kids x.pa 0)++rest):=by
  rw[hq,fG,bx,show dP t=true by simp[dP,hk]];rfl
 have hhd:s.tg.headD noT=tgK x.p x.mo x.pa t:=by rw[hq'];rfl
 have hfind:=BL (p:=x.p) (w:=t.text) G.m0 G.m1 (by have :=G.hb;omega) (by omega);have fin:∀(y:Ty) (U:CHr) (m:Nat),jH c t x.pa en y U→aQ c t x.pa en y U:=λy U m h=>
  k_low (m:=1) (by omega) (bo 0 _ _ _ _ _ _ _ (⟨λh=>(by cases h),λ_=>⟨λh=>absurd h (by omega),λ_=>⟨λ_=>⟨_,_,h,rfl,rfl⟩,λh=>absurd hk h⟩⟩⟩))
 have e0:oT E x t env s=((qn x (tgK x.p x.mo x.pa t)).result,iF E x (qn x (tgK x.p x.mo x.pa t)).params env t.kids 0 (tc x t (tgK x.p x.mo x.pa t) (qn x (tgK x.p x.mo x.pa t)) (bT s))):=by unfold oT;rw[hhd]
 rw[e0];have hU1:(bT s).tg=bx x.p x.mo (nodKs (t.kids.drop 0) x.pa 0)++rest:=by
  show s.tg.drop 1=_;rw[hq'];rfl
 cases J:(ba x.p x.mo t.text).2.2
 ·
  have O:(tgK x.p x.mo x.pa t).Free=true:=by simp[tgK,J]
  have hg:qn x (tgK x.p x.mo x.pa t)=⟨[],⟨0,0⟩⟩:=by unfold qn;rw[if_pos O]
  have hs:tc x t (tgK x.p x.mo x.pa t) ⟨[],⟨0,0⟩⟩ (bT s)=faP x 1 [] (bT s):=by unfold tc;rw[if_pos O]
  rw[hg];simp only[];rw[hs];have d1:=DR.er (s:=bT s) G.M true [] 1;rw[List.append_nil]at d1;have X1:=G.er true x.pa 1;obtain⟨U,g1,g2⟩:=Bh hG hR [] false (ba x.p x.mo t.text).1 0 (.node 0 [] [] []) noY ht hE (by omega) (λh=>(by cases h)) (λ_=>rfl) (λh=>(by cases h)) (λh=>(by cases h)) (λ_=>rfl) rest t.kids.length 0 (faP x 1 [] (bT s)) (erI true c x.pa 1) (by omega) (by simp;omega) (hy.to (by simp;omega) (by simp[faP,bT];omega) (by simp[faP,bT];omega)) X1 hN hU1 (by simp[faP,bT,erI,erC];omega);refine⟨noY,U,fin _ _ 0 (nM (t.kids.length+3) _ _ _ _ _ _ (⟨_,_,_,by rw[G.P,G.M];exact hfind,λ_=>⟨_,it 1 (by omega) (by omega),?_⟩,λh=>(by rw[J]at h;cases h)⟩)),TyR.no,?_⟩
  ·rw[J];exact nf (t.kids.length+2) _ _ _ _ _ _ _ _ _ (⟨λh=>(by cases h),λ_=>iM (t.kids.length+1) _ _ _ _ _ _ _ _ _ _ (g1)⟩)
  ·have :=d1.trans g2;rw[List.drop_zero]at this;exact⟨this.P,this.M,this.W,this.d,this.g⟩
 ·obtain⟨i,d,tt,f,a1,a2,a3,a4,a5,a6⟩:=LJ G.ok hk hx.1 J;obtain⟨f1,f2,f3,f4⟩:=tC a6 a5;have O:(tgK x.p x.mo x.pa t).Free=false:=by simp[tgK,J]
  have hi:=(List.getElem?_eq_some_iff.1 a3).1;have hbf:tbulk f≤10000000:=by
   have :=bt a3;have :=aF a4;have :=G.hb;omega
  have hBf:=aV f;have hg:qn x (tgK x.p x.mo x.pa t)=fe x.p (i:Int) f:=by
   unfold qn;rw[if_neg (by rw[O];decide),G.sg];have :=zD (P:=x.p) (key:=((i:Int),(d:Int))) x.p 0 i d [] tt f a3 a4 a5 (by simp);rw[show((tgK x.p x.mo x.pa t).Module,(tgK x.p x.mo x.pa t).Def)=((i:Int),(d:Int)) by simp[tgK,a1,a2],this];simp
  have hpl:(fe x.p (i:Int) f).params.length=f.kids.length-2:=by simp[fe]
  have hs:tc x t (tgK x.p x.mo x.pa t) (fe x.p (i:Int) f) (bT s)=if(!decide ((fe x.p (i:Int) f).params.length=t.kids.length))=true then faP x 3 [] (bT s)else bT s:=by
   unfold tc;rw[if_neg (by rw[O];decide)];by_cases h:(fe x.p (i:Int) f).params.length=t.kids.length<;>simp[h]
  rw[hg];simp only[];rw[hs];obtain⟨Z,hb3⟩:∃Z,Z=!decide ((fe x.p (i:Int) f).params.length=t.kids.length):=⟨_,rfl⟩;rw[←hb3];obtain⟨v1,v2,v3⟩:=zR Z x 3 [] (bT s);obtain⟨e1,e2,e3,e4⟩:=jz Z c x.pa 3;have d1:=DR.er (s:=bT s) G.M Z [] 3;rw[List.append_nil]at d1;have X1:=G.er Z x.pa 3;have hf2:(bT s).fa.length=s.fa.length:=rfl;have hu2:(bT s).tg.length=s.tg.length-1:=by simp[bT]
  have ldr:=d1.len;obtain⟨rt,hrt⟩:∃rt,f.kids[f.kids.length-2]?=some rt:=⟨_,fv (by omega)⟩;have hrk:=f3 rt hrt;have hrb:=bt hrt;have wr:∀(v:Tree),tyK v→tbulk v≤10000000→∀c:CHr,c.P=x.p→bj c (i:Int) v (wrY x.p (i:Int) v) c:=λv hv hbv c hc=>yT G.ok G.hb (by omega) (by omega) hv hbv hc;have hres:TyR (fe x.p (i:Int) f).result (wrY x.p (i:Int) rt):=by
   simp only[fe];rw[eo hrt];exact BK G.ok (by omega) (by omega) hrk
  obtain⟨U,g1,g2⟩:=Bh hG hR (fe x.p (i:Int) f).params true (ba x.p x.mo t.text).1 ((f.kids.length:Int)-2) f (wrY x.p (i:Int) rt) ht hE (by omega) (λ_=>by omega) (λh=>(by cases h)) (λ_ j q hj=>by
   have hjl:=(List.getElem?_eq_some_iff.1 hj).1;rw[hpl]at hjl;obtain⟨pk,hpk⟩:∃pk,f.kids[j]?=some pk:=⟨_,fv (by omega)⟩;obtain⟨v,g1,g2,g3⟩:=f2 j pk hpk (by omega);have hb1:=bt hpk;have hv0:pk.kids[0]?=some v:=by rw[g2];rfl
   have hb2:=aF hv0;refine⟨pk,v,wrY x.p (i:Int) v,hpk,hv0,?_,by rw[a1];exact wr v g3 (by omega)⟩;have :(fe x.p (i:Int) f).params[j]?=some (tyN x.p (i:Int) v):=by
    simp only[fe,List.getElem?_map,List.getElem?_take];rw[if_pos (by omega),hpk];simp only[Option.map_some];rw[EG g2]
   rw[this]at hj;injection hj with hj
   rw[←hj];exact BK G.ok (by omega) (by omega) g3) (λ_=>⟨rt,by rw[hpl];exact hrt,by rw[a1];exact wr rt hrk (by omega)⟩) (λh=>(by cases h)) rest t.kids.length 0 (if Z=true then faP x 3 [] (bT s)else bT s) (erI Z c x.pa 3) (by omega) (by simp;omega) (hy.to (by simp;omega) (by simp;omega) (by rw[v1];simp;omega)) X1 (λq u h1 h2=>by rw[e3];exact hN q u h1 h2) (v1.trans hU1) (by omega)
  refine⟨_,U,fin _ _ 0 (nM (t.kids.length+3) _ _ _ _ _ _ (⟨_,_,_,by rw[G.P,G.M];exact hfind,λh=>(by rw[J]at h;cases h),λ_=>?_⟩)),hres,?_⟩
  ·rw[J];refine nf (t.kids.length+2) _ _ _ _ _ _ _ _ _ (⟨λ_=>⟨i,a1,tt,by rw[G.P];exact a3,d,a2,f,a4,λhne=>⟨_,it 3 (by omega) (by omega),?_⟩,λhe=>?_⟩,λh=>(by cases h)⟩)
   ·have hb:Z=true:=by rw[hb3,decide_eq_false (by omega)];rfl
    rw[qp hb]at g1;exact iM (t.kids.length+1) _ _ _ _ _ _ _ _ _ _ (g1)
   ·have hb:Z=false:=by rw[hb3,decide_eq_true (by omega)];rfl
    rw[nR hb]at g1;exact iM (t.kids.length+1) _ _ _ _ _ _ _ _ _ _ (g1)
  ·have :=d1.trans g2;rw[List.drop_zero]at this;exact⟨this.P,this.M,this.W,this.d,this.g⟩
theorem Ml(U:nB E N)(Z:uY E N):uY (bC E) (N+1):=λt hb hx x env s en c L hy J O hQ hN hl G=>by
 have p1:=hy.pa;have p2:=hy.fa;have p3:=hy.tg;have p4:=hy.lb;have hB:=aV t;have hkl:=bB t;have hk':10≤t.kind∧t.kind≤22∧t.kind≠17:=by simpa[ia]using hx.2
 by_cases h:t.kind=10
 ·have e:bC E x t env s=(⟨5,0⟩,s):=by simp[bC,h]
  rw[e];exact⟨_,c,rS_semvcsref08_Check_kind 0 _ _ _ _ _ _ (⟨λ_=>⟨_,iO 5,rfl,rfl⟩,λh'=>absurd h h'⟩),TyR.leaf (by decide) (by decide),DR.refl ..⟩
 by_cases h:t.kind=11
 ·have e:bC E x t env s=(⟨6,0⟩,s):=by simp[bC,h]
  rw[e];exact⟨_,c,rS_semvcsref08_Check_kind 0 _ _ _ _ _ _ (⟨λh'=>absurd h' (by omega),λ_=>⟨λ_=>⟨_,iO 6,rfl,rfl⟩,λh'=>absurd h h'⟩⟩),TyR.leaf (by decide) (by decide),DR.refl ..⟩
 by_cases h:t.kind=13∨t.kind=14
 ·have e:bC E x t env s=(⟨7,0⟩,s):=by rcases h with h|h<;>simp[bC,h]
  rw[e];have h0:dH 1 c t x.pa en true ⟨true,.node 7 [] [] []⟩ c:=bo 0 _ _ _ _ _ _ _ (⟨λ_=>⟨_,iO 7,rfl,rfl⟩,λh=>(by cases h)⟩);refine⟨_,c,rS_semvcsref08_Check_kind 1 _ _ _ _ _ _ (⟨λh'=>absurd h' (by omega),λ_=>⟨λh'=>absurd h' (by omega),λ_=>⟨λ_=>h0,λh'=>?_⟩⟩⟩),TyR.leaf (by decide) (by decide),DR.refl ..⟩;have h14:t.kind=14:=by omega
  rw[show(t.kind==14)=true by rw[h14];rfl];exact h0
 by_cases h:t.kind=12
 ·have e:bC E x t env s=tN x s (jc t.text env):=by simp[bC,h]
  rw[e];exact NU h J O (by omega) (by omega) (by omega)
 by_cases h:t.kind=16
 ·have e:bC E x t env s=oT E x t env s:=by simp[bC,h]
  rw[e];exact LQ U Z hb hx h hy J O hQ hN hl G
 by_cases h:t.kind=18
 ·have e:bC E x t env s=jC (iq E x t env t.kids.length 0 (⟨0,0⟩,s)):=by simp[bC,h]
  have hU:uN t=uNs t.kids:=by rw[gG,h];simp
  rw[e];obtain⟨rest,hq⟩:=BX hQ (by simp[dP,h]);obtain⟨y,c',g1,g2,g3⟩:=GV U Z hx h hb O G rest t.kids.length 0 ⟨0,0⟩ noY s c (by omega) TyR.no (hy.to (by simp;omega) (by simp;omega) (by simp;omega)) J hN hq hl;exact⟨y,c',k_low (m:=1) (by omega) (bo 0 _ _ _ _ _ _ _ (⟨λh=>(by cases h),λ_=>⟨λh=>absurd h (by omega),λ_=>⟨λh=>absurd h (by omega),λ_=>⟨λ_=>⟨_,_,ut (t.kids.length+1) _ _ _ _ _ _ (g1),rfl,rfl⟩,λh'=>absurd h h'⟩⟩⟩⟩)),g2,g3⟩
 by_cases h:t.kind=19
 ·have e:bC E x t env s=ifP E x t env s:=by simp[bC,h]
  rw[e];exact PR U Z hb hx h hy J O hQ hN hl G
 by_cases h:t.kind=20
 ·have e:bC E x t env s=Ga E x t env (aO E x t 0 env s):=by simp[bC,h]
  rw[e];exact OI U Z hb hx h hy J O hQ hN hl G
 by_cases h:t.kind=21
 ·have e:bC E x t env s=wI E x t env (aO E x t 0 env s):=by simp[bC,h]
  rw[e];exact OP U Z hb hx h hy J O hQ hN hl G
 by_cases h:t.kind=22
 ·have e:bC E x t env s=aO E x t 0 env s:=by simp[bC,h]
  obtain⟨a,ek⟩:=zP ((qQ hx).1 h);have ha:t.kids[0]?=some a:=by rw[ek];rfl
  rw[ek]at hB;simp only[kbulk]at hB;have hU:uN t=uN a:=by rw[gG,ek,h];simp[uNs]
  rw[e];obtain⟨rest,hq⟩:=BX hQ (by simp[dP,h]);rw[ek]at hq;obtain⟨y,c',g1,g2,g3,g4⟩:=nl U Z (s:=s) (env:=env) (x:=x) (L:=L) ha (by omega) (cV hx ha (by omega)).1 (hy.to (by omega) (by omega) (by omega)) J O ⟨_,jy hq⟩ hN hl (by omega);exact⟨y,c',k_low (m:=1) (by omega) (bo 0 _ _ _ _ _ _ _ (⟨λh=>(by cases h),λ_=>⟨λh=>absurd h (by omega),λ_=>⟨λh=>absurd h (by omega),λ_=>⟨λh=>absurd h (by omega),λ_=>⟨λh=>absurd h (by omega),λ_=>⟨λh=>absurd h (by omega),λ_=>⟨λh=>absurd h (by omega),λ_=>⟨λ_=>⟨_,_,g1,rfl,rfl⟩,λh'=>absurd h h'⟩⟩⟩⟩⟩⟩⟩⟩)),g2,g3⟩
 ·have e:bC E x t env s=(⟨0,0⟩,s):=by
   have :t.kind=15:=by omega
   simp[bC,this]
  rw[e];exact⟨noY,c,k_low (m:=1) (by omega) (bo 0 _ _ _ _ _ _ _ (⟨λh=>(by cases h),λ_=>⟨λh=>absurd h (by omega),λ_=>⟨λh=>absurd h (by omega),λ_=>⟨λh=>absurd h (by omega),λ_=>⟨λh=>absurd h (by omega),λ_=>⟨λh=>absurd h (by omega),λ_=>⟨λh=>absurd h (by omega),λ_=>⟨λh=>absurd h (by omega),λ_=>⟨λh=>absurd h (by omega),λ_=>⟨rfl,rfl⟩⟩⟩⟩⟩⟩⟩⟩⟩⟩)),TyR.no,DR.refl ..⟩
theorem Ht:∀n,uY (cG n) n
 |0=>λt hb=>by have :=bB t;have :=aV t;omega
 |n+1=>Ml (uI n) (Ht n)
def mO(p:List Tree)(mo:Int)(z:List Int×Tree):List FE:=if z.2.kind=9∧(ba p mo z.2.text).2.2=false then[⟨⟨mo,z.1⟩,1⟩]else[]
def cc(p:List Tree)(mo:Int):List (List Int×Tree)→List FE
 |[]=>[]
 |z::r=>mO p mo z++cc p mo r
theorem oq(p:List Tree)(mo:Int):∀a b,cc p mo (a++b)=cc p mo a++cc p mo b
 |[],b=>rfl
 |z::r,b=>by simp only[List.cons_append,cc,oq p mo r b,List.append_assoc]
theorem Ki(p:List Tree)(mo:Int)(z:List Int×Tree):(mO p mo z).length≤1:=by
 unfold mO;split<;>simp
theorem wb(p:List Tree)(mo:Int):∀a,(cc p mo a).length≤a.length
 |[]=>Nat.le_refl _
 |z::r=>by
  have :=Ki p mo z;have :=wb p mo r;simp only[cc,List.length_append,List.length_cons];omega
def apC(c:CHr)(l:List FE):CHr:={c with L:=c.L++l}
theorem NG(c:CHr):apC c []=c:=by simp[apC]
theorem OD(c:CHr)(a b:List FE):apC (apC c a) b=apC c (a++b):=by simp[apC]
theorem Fh{p:List Tree}{m:Nat}{root:Tree}(hm:p[m]?=some root)(hp:kbulk p≤10000000):∀(n:Nat) (t:Tree) (q:List Int) (c:CHr),tbulk t≤n→atK root q=some t→c.P=p→c.Module=(m:Int)→q.length+tbulk t≤100000000→c.L.length+tbulk t≤900000000→du c q (apC c (cc p (m:Int) (nodK t q)))
 |0,t,q,c,hb,_,_,_,_,_=>by have :=bB t;omega
 | n+1,t,q,c,hb,hat,hP,hM,hq,hL=>by
  have hB:=aV t;have hml:=(List.getElem?_eq_some_iff.1 hm).1;have htx:=cx t;have hAt:=Sj root q (by omega);rw[hat]at hAt;have hfind:=BL (p:=p) (m:=(m:Int)) (w:=t.text) (by omega) (by omega) (by omega) (by omega);have loop:∀(k i:Nat) (c:CHr),k+i=t.kids.length→c.P=p→c.Module=(m:Int)→c.L.length+kbulk (t.kids.drop i)≤900000000→dl (k+1) q t c i (apC c (cc p (m:Int) (nodKs (t.kids.drop i) q i))):=by
   intro k
   induction k with
   |zero=>
    intro i c hi h1 h2 h3;have hd:t.kids.drop i=[]:=List.drop_of_length_le (by omega);rw[hd];exact ng 0 _ _ _ _ _ (⟨λh=>absurd h (by omega),λ_=>(NG c).symm⟩)
   |succ k ih=>
    intro i c hi h1 h2 h3;have hlt:i<t.kids.length:=by omega
    obtain⟨u,hu⟩:∃u,t.kids[i]?=some u:=⟨_,fv hlt⟩;have hd:=aU hu;have hku:=aF hu;have hnl:=nodK_len u (q++[(i:Int)]);have hfl:=wb p (m:Int) (nodK u (q++[(i:Int)]));rw[hd]at h3⊢;simp only[kbulk]at h3;have hatu:atK root (q++[(i:Int)])=some u:=by rw[Cz,hat];exact zE hu
    have h4:=Fh hm hp n u (q++[(i:Int)]) c (by omega) hatu h1 h2 (by simp;omega) (by omega);have h5:=ih (i+1) (apC c (cc p (m:Int) (nodK u (q++[(i:Int)])))) (by omega) h1 h2 (by simp only[apC,List.length_append];omega);rw[OD,←oq]at h5;exact ng (k+1) _ _ _ _ _ (⟨λ_=>⟨_,rX (i:Int) (by omega),_,h4,h5⟩,λh=>absurd hlt h⟩)
  have e:nodK t q=(q,t)::nodKs t.kids q 0:=fG t q;rw[e];have hF:cc p (m:Int) ((q,t)::nodKs t.kids q 0)=mO p (m:Int) (q,t)++cc p (m:Int) (nodKs t.kids q 0):=rfl;rw[hF];refine uy (t.kids.length+2) _ _ _ (⟨m,hM,root,by rw[hP];exact hm,_,_,hAt,?_⟩);refine tO (t.kids.length+1) _ _ _ _ (⟨λh9=>⟨_,_,_,by rw[hP,hM];exact hfind,λhf=>?_,λhf=>?_⟩,λh9=>?_⟩)
  ·have e2:mO p (m:Int) (q,t)=[⟨⟨(m:Int),q⟩,1⟩]:=if_pos ⟨h9,hf⟩;have h5:=loop t.kids.length 0 (erC c q 1) (by omega) hP hM (by simp[erC];omega);rw[List.drop_zero]at h5;rw[e2];refine⟨_,it 1 (by omega) (by omega),?_⟩;have e3:apC c ([⟨⟨(m:Int),q⟩,1⟩]++cc p (m:Int) (nodKs t.kids q 0))=apC (erC c q 1) (cc p (m:Int) (nodKs t.kids q 0)):=by simp[apC,erC,hM]
   rw[e3];exact h5
  ·have e2:mO p (m:Int) (q,t)=[]:=if_neg λh=>by have h2:=h.2;simp only at h2 hf;rw[hf]at h2;cases h2
   have h5:=loop t.kids.length 0 c (by omega) hP hM (by simp;omega);rw[List.drop_zero]at h5;rw[e2];exact h5
  ·have e2:mO p (m:Int) (q,t)=[]:=if_neg λh=>h9 h.1;have h5:=loop t.kids.length 0 c (by omega) hP hM (by simp;omega);rw[List.drop_zero]at h5;rw[e2];exact h5
theorem yV{p:List Tree}{mo:Int}:∀(n:Nat) (t:Tree) (q:List Int),tbulk t≤n→exT t→cc p mo (nodK t q)=[]
 |0,t,q,hb,_=>by have :=bB t;omega
 | n +1,t,q,hb,hx=>by
  have hk':10≤t.kind:=(by simpa[ia]using hx.2:10≤t.kind∧t.kind≤22∧t.kind≠17).1;have kid:∀(i:Nat) (u:Tree),t.kids[i]?=some u→cc p mo (nodK u (q++[(i:Int)]))=[]:=λi u hu=>by
   have hku:=aF hu;by_cases h16:t.kind=16
   ·obtain⟨h1,h2,h3⟩:=Ci hx hu h16;obtain⟨v,e⟩:=zP h2;have hv:u.kids[0]?=some v:=by rw[e];rfl
    have hkv:=aF hv;rw[eo hv]at h3;have :=yV (p:=p) (mo:=mo) n v ((q++[(i:Int)])++[((0:Nat):Int)]) (by omega) h3;rw[fG,e];simp only[cc,nodKs,List.append_nil,oq];rw[this];unfold mO;rw[if_neg (λh=>by have :=h.1;simp only at this;omega)];rfl
   ·exact yV n u _ (by omega) (cV hx hu h16).1
  have all:∀(l:List Tree) (i:Nat),(∀(j:Nat) (u:Tree),l[j]?=some u→cc p mo (nodK u (q++[((i+j:Nat):Int)]))=[])→cc p mo (nodKs l q i)=[]:=by
   intro l
   induction l with
   |nil=>intro i _;rfl
   | cons a r ih=>
    intro i h;simp only[nodKs,oq];rw[show cc p mo (nodK a (q++[(i:Int)]))=[]from h 0 a rfl];exact ih (i+1) λj u hu=>by
     have :=h (j+1) u (by simpa using hu);rw[show i+1+j=i+(j+1) by omega];exact this
  rw[fG,cc,all t.kids 0 λj u hu=>by simpa using kid j u hu];unfold mO;rw[if_neg (λh=>by have :=h.1;simp only at this;omega)];rfl
theorem xt:∀(n:Nat) (u:Tree) (x:Cx) (s:Sv) (rest:List aA),tbulk u≤n→tyK u→s.tg=bx x.p x.mo (nodK u x.pa)++rest→fc n x u s={s with tg:=rest,fa:=s.fa++cc x.p x.mo (nodK u x.pa)}
 |0,u,x,s,rest,hb,_,_=>by have :=bB u;omega
 | n +1,u,x,s,rest,hb,hu,hq=>by
  rcases ni hu with⟨h8,_,v,hv,hvt⟩|⟨h8,hk,_⟩
  ·have hv0:u.kids[0]?=some v:=by rw[hv];rfl
   have hkv:=aF hv0;have e:fc (n+1) x u s=fc n (x.go ((0:Nat):Int)) v s:=by simp[fc,h8,eo hv0]
   have hn:nodK u x.pa=(x.pa,u)::nodK v (x.pa++[((0:Nat):Int)]):=by rw[fG,hv];simp[nodKs]
   have hq':s.tg=bx x.p x.mo (nodK v (x.pa++[((0:Nat):Int)]))++rest:=by
    rw[hq,hn,bx,show dP u=false by simp[dP,h8]];rfl
   rw[e,xt n v (x.go ((0:Nat):Int)) s rest (by omega) hvt hq',hn];have :cc x.p x.mo ((x.pa,u)::nodK v (x.pa++[((0:Nat):Int)]))=cc x.p x.mo (nodK v (x.pa++[((0:Nat):Int)])):=by
    rw[cc];unfold mO;rw[if_neg (λh=>by have :=h.1;simp only at this;omega)];rfl
   rw[this];rfl
  ·have hn:nodK u x.pa=[(x.pa,u)]:=by rw[fG,hk];rfl
   by_cases h9:u.kind=9
   ·have hq':s.tg=tgK x.p x.mo x.pa u::rest:=by rw[hq,hn];simp[bx,dP,h9]
    have e:fc (n+1) x u s=if(s.tg.headD noT).Free then faP x 1 [] (bT s)else bT s:=by simp[fc,h9]
    have hhd:s.tg.headD noT=tgK x.p x.mo x.pa u:=by rw[hq'];rfl
    rw[e,hhd,hn];have hu:bT s={s with tg:=rest}:=by simp[bT,hq']
    rw[hu];cases hf:(ba x.p x.mo u.text).2.2
    ·have h1:(tgK x.p x.mo x.pa u).Free=true:=by simp[tgK,hf]
     rw[if_pos h1];simp[faP,cc,mO,h9,hf]
    ·have h1:(tgK x.p x.mo x.pa u).Free=false:=by simp[tgK,hf]
     rw[if_neg (by rw[h1];decide)];simp[cc,mO,h9,hf]
   ·have hk9:u.kind≠16:=by have :=hu.2;simp[jr]at this;omega
    have hq':s.tg=rest:=by rw[hq,hn];simp[bx,dP,h9,hk9]
    have e:fc (n+1) x u s=s:=by simp[fc,h9,h8]
    rw[e,hn];simp[cc,mO,h9,←hq']
def FW(k:Tree):Prop:=∃v,k.kind=4∧k.kids=[v]∧tyK v
theorem GW{k v:Tree}(q:List Int)(J:k.kind=4)(G:k.kids=[v]):nodK k q=(q,k)::nodK v (q++[((0:Nat):Int)]):=by rw[fG,G];simp[nodKs]
theorem EM(x:Cx):∀(ks:List Tree) (i:Nat) (s:Sv) (rest:List aA),(∀k∈ks,FW k)→s.tg=bx x.p x.mo (nodKs ks x.pa i)++rest→lR x ks i s={s with tg:=rest,fa:=s.fa++cc x.p x.mo (nodKs ks x.pa i)}
 |[],i,s,rest,_,hq=>by
  have :s.tg=rest:=by rw[hq];rfl
  simp[lR,nodKs,cc,←this]
 | k::r,i,s,rest,hp,hq=>by
  obtain⟨v,h4,hk,hv⟩:=hp k List.mem_cons_self;have hv0:k.kids[0]?=some v:=by rw[hk];rfl
  have h1:=jy hq;rw[GW _ h4 hk,bx,show dP k=false by simp[dP,h4]]at h1;have h2:=xt (tbulk v) v ((x.go i).go ((0:Nat):Int)) s _ (Nat.le_refl _) hv h1;rw[lR,eo hv0,h2];rw[EM x r (i+1) _ rest (λk' h'=>hp k' (List.mem_cons_of_mem _ h')) rfl];have e:cc x.p x.mo (nodKs (k::r) x.pa i)=cc x.p x.mo (nodK v ((x.pa++[(i:Int)])++[((0:Nat):Int)]))++cc x.p x.mo (nodKs r x.pa (i+1)):=by
   rw[nodKs,oq,GW _ h4 hk,cc];unfold mO;rw[if_neg (λh=>by have :=h.1;simp only at this;omega)];rfl
  rw[e,←List.append_assoc];rfl
def bdP(p:List Tree)(m:Int)(k:Tree):Bd:=⟨k.text,wrY p m (cP k 0)⟩
theorem Gh{p:List Tree}(J:bi p=true){m:Int}(O:0≤m)(h1:m<p.length):∀(ks:List Tree),(∀k∈ks,FW k)→IQ (eY ks (ks.map λk=>tyN p m (cP k 0))) (ks.map (bdP p m))
 |[],_=>trivial
 |k::r,U=>by
  obtain⟨v,Z,G,hv⟩:=U k List.mem_cons_self;refine⟨rfl,?_,Gh J O h1 r λk' h'=>U k' (List.mem_cons_of_mem _ h')⟩;show TyR (tyN p m (cP k 0)) (wrY p m (cP k 0));rw[EG G];exact BK J O h1 hv
theorem Db{x:Cx}{c:CHr}(G:RX x c){f:Tree}{n:Nat}(hn:n+2=f.kids.length)(hb:tbulk f≤10000000)(Z:∀k∈f.kids.take n,FW k){d:Int}{y:Ty}{c':CHr}{M0:Nat}(fin:di M0 d f c ((f.kids.take n).map (bdP x.p x.mo)).reverse (-1) y c'):∀j,j≤n→di (M0+j) d f c (((f.kids.take n).drop j).map (bdP x.p x.mo)).reverse ((j:Int)-1) y c'
 |0,_=>by simpa using fin
 |j+1,hj=>by
  have ih:=Db G hn hb Z fin j (by omega);have hkl:=bB f;obtain⟨u,U⟩:∃u,f.kids[j]?=some u:=⟨_,fv (by omega)⟩;have J:(f.kids.take n)[j]?=some u:=by rw[List.getElem?_take,if_pos (by omega)];exact U
  obtain⟨v,h4,hk,hv⟩:=Z u (List.mem_of_getElem? J);have O:u.kids[0]?=some v:=by rw[hk];rfl
  have b1:=aF U;have b2:=aF O;have e:(((j+1:Nat):Int)-1)=(j:Int):=by omega
  rw[e];have hw:=yT G.ok G.hb G.m0 G.m1 hv (by omega) G.P;rw[aU J,List.map_cons,List.reverse_cons]at ih;have eb:bdP x.p x.mo u=⟨u.text,wrY x.p x.mo v⟩:=by unfold bdP;rw[EG hk]
  rw[eb]at ih;refine rL0_semvcsref08_Check_body (M0+j) _ _ _ _ _ _ _ (⟨λ_=>⟨j,rfl,u,U,j,rfl,u,U,v,O,_,_,by rw[G.M];exact hw,?_,⟨by omega,by omega⟩,ih⟩,λh=>absurd (by omega) h⟩);simp;omega
theorem Na{c:CHr}{s:Sv}{L d:Nat}{root f b:Tree}(G:RX x c)(hmo:x.mo=(m:Int))(Z:x.pa=[])(hm:x.p[m]?=some root)(hd:root.kids[d]?=some f){n:Nat}(hn:n+2=f.kids.length)(O:f.kids[n+1]?=some b)(hbx:exT b)(hp:∀k∈f.kids.take n,FW k)
  (hy:Hyp (x.go (d:Int)) (eY (f.kids.take n) ((f.kids.take n).map λk=>tyN x.p x.mo (cP k 0))) s L (tbulk b+1) (uN b)) (hQ:∃rest,s.tg=bx x.p x.mo (nodK b [(d:Int),((n+1:Nat):Int)])++rest) (hN:∀q u,(q,u)∈nodK b [(d:Int),((n+1:Nat):Int)]→u.kind=17→q≠c.Want) (hl:c.L.length≤s.fa.length):
  ∃y c',gc c d y c'∧TyR (aO (cG (tbulk f)) (x.go (d:Int)) f (n+1) (eY (f.kids.take n) ((f.kids.take n).map λk=>tyN x.p x.mo (cP k 0))) s).1 y∧DR x s (aO (cG (tbulk f)) (x.go (d:Int)) f (n+1) (eY (f.kids.take n) ((f.kids.take n).map λk=>tyN x.p x.mo (cP k 0))) s).2 c c':=by
 have hkl:=bB f;have hbb:=aF O;have hfb:tbulk f≤10000000:=by
  have :=bt hm;have :=aF hd;have :=G.hb;omega
 have J:((x.go (d:Int)).go ((n+1:Nat):Int)).pa=[(d:Int),((n+1:Nat):Int)]:=by simp[Cx.go,Z]
 have hE:pJ (eY (f.kids.take n) ((f.kids.take n).map λk=>tyN x.p x.mo (cP k 0))) ((f.kids.take n).map (bdP x.p x.mo)).reverse:=by
  unfold pJ;rw[List.reverse_reverse];exact Gh G.ok G.m0 G.m1 _ hp
 have p1:=hy.pa;obtain⟨y,c1,h1,h2,h3⟩:=Ht (tbulk f) b (by omega) hbx ((x.go (d:Int)).go ((n+1:Nat):Int)) _ s _ c L ⟨by rw[J];simp;omega,by have :=hy.fa;omega,hy.tg,by have :=hy.lb;omega,hy.env,hy.sg⟩ ⟨G.P,G.M,G.ok,G.hb,G.m0,G.m1,G.sg⟩ hE (by obtain⟨r,hr⟩:=hQ;exact⟨r,by rw[J];exact hr⟩) (λq v hm hk=>hN q v (by rw[J]at hm;exact hm) hk) hl (by simp;omega);have hlb:=hy.lb;have hgk:=(uI (tbulk f) b (by omega) hbx ((x.go (d:Int)).go ((n+1:Nat):Int)) _ s L ⟨by rw[J];simp;omega,by have :=hy.fa;omega,hy.tg,by have :=hy.lb;omega,hy.env,hy.sg⟩).2.k.2;rw[J]at h1;have e:aO (cG (tbulk f)) (x.go (d:Int)) f (n+1) (eY (f.kids.take n) ((f.kids.take n).map λk=>tyN x.p x.mo (cP k 0))) s=zq (x.go (d:Int)) (n+1) (cG (tbulk f) ((x.go (d:Int)).go ((n+1:Nat):Int)) b (eY (f.kids.take n) ((f.kids.take n).map λk=>tyN x.p x.mo (cP k 0))) s):=by unfold aO;rw[eo O]
 rw[e];have U:(x.go (d:Int)).pa=[(d:Int)]:=by simp[Cx.go,Z]
 obtain⟨c',g1,g2⟩:=HK (x:=x.go (d:Int)) (i:=n+1) (s:=s) (u:=b) (en:=((f.kids.take n).map (bdP x.p x.mo)).reverse) (c:=c) (by rw[U];simp) (by rw[U];exact h1) h2 ⟨h3.P,h3.M,h3.W,h3.d,h3.g⟩ (by omega);rw[U]at g1;have ek:(((f.kids.length:Nat):Int)-1)=((n+1:Nat):Int):=by omega
 have fin:di 1 (d:Int) f c ((f.kids.take n).map (bdP x.p x.mo)).reverse (-1) y c':=
  rL0_semvcsref08_Check_body 0 _ _ _ _ _ _ _ (⟨λh=>absurd h (by omega),λ_=>⟨⟨by omega,by omega⟩,n+1,ek,b,O,⟨by omega,by omega⟩,_,_,by rw[ek];exact g1,rfl,rfl⟩⟩)
 have hL:=Db G hn hfb hp fin n (Nat.le_refl _);rw[List.drop_of_length_le (by simp;omega)]at hL;refine⟨y,c',uf (1+n) _ _ _ _ (⟨m,G.M.trans hmo,root,by rw[G.P];exact hm,d,rfl,f,hd,?_⟩),?_,⟨g2.P,g2.M,g2.W,g2.d,g2.g⟩⟩
 ·rw[show((f.kids.length:Nat):Int)-3=(n:Int)-1 by omega];simpa using hL
 ·generalize cG (tbulk f) ((x.go (d:Int)).go ((n+1:Nat):Int)) b (eY (f.kids.take n) ((f.kids.take n).map λk=>tyN x.p x.mo (cP k 0))) s=r at h2⊢;obtain⟨k,s'⟩:=r;exact h2
theorem Do(q:List Int):∀(a b:List Tree) (i:Nat),nodKs (a++b) q i=nodKs a q i++nodKs b q (i+a.length)
 |[],b,i=>rfl
 |t::r,b,i=>by
  simp only[List.cons_append,nodKs,Do q r b (i+1),List.length_cons,List.append_assoc];rw[show i+1+r.length=i+(r.length+1) by omega]
theorem EF{mo:Int}{z:List Int×Tree}{r:List (List Int×Tree)}(h:z.2.kind≠9):cc p mo (z::r)=cc p mo r:=by
 rw[cc];unfold mO;rw[if_neg (λh'=>h h'.1)];rfl
theorem DR.of_x{G:Cx}{s':Sv}{c J:CHr}(h:DR G s s' c J)(h1:G.mo=x.mo)(h2:G.wm=x.wm)(O:G.wp=x.wp):DR x s s' c J:=
 ⟨h.P,h.M,h.W,h.d,λg=>by have :=h.g (by unfold GR at g⊢;rw[h1,h2,O];exact g);unfold GR at this⊢;rw[h1,h2,O]at this;exact this⟩
theorem DR.app{c:CHr}(l:List FE)(tg:List aA):DR x s {s with tg:=tg,fa:=s.fa++l} c (apC c l):=
 ⟨rfl,rfl,rfl,λP=>by simp only[apC,List.countP_append];omega,λg=>g⟩
theorem NH{c:CHr}{s:Sv}{d:Nat}{root f:Tree}{rest:List aA}(hX:RX x c)(hmo:x.mo=(m:Int))(hpa:x.pa=[])(hm:x.p[m]?=some root)(hd:root.kids[d]?=some f)(hk:f.kind=2)(hs:shapeK f=true)
  (hq:s.tg=bx x.p x.mo (nodK f [(d:Int)])++rest) (hN:∀q u,(q,u)∈nodK root []→u.kind=17→q≠c.Want) (hl:c.L.length≤s.fa.length) (hfa:s.fa.length+5*tbulk f+1≤800000000) (hsg:∀k g,aI k x.sg=some g→KOk 100000000 g.result):
  ∃(n:Nat) (rt:Tree) (c1:CHr) (y:Ty) (c2:CHr) (dd:Bool),n+2=f.kids.length∧f.kids[n]?=some rt∧du c [(d:Int)] c1∧gc c1 d y c2∧bj c2 (m:Int) rt (wrY x.p (m:Int) rt) c2∧bq y (wrY x.p (m:Int) rt) dd∧DR x s (rV (x.go (d:Int)) f (fe x.p x.mo f) s) c (erI dd c2 [(d:Int),((n+1:Nat):Int)] 4)∧(rV (x.go (d:Int)) f (fe x.p x.mo f) s).tg=rest∧(rV (x.go (d:Int)) f (fe x.p x.mo f) s).fa.length≤s.fa.length+5*tbulk f∧c2.L.length+1≤1000000000:=by
 obtain⟨s1,s2,s3,s4⟩:=tC hs hk;have hkl:=bB f;have hB:=aV f;obtain⟨n,hn⟩:∃n,n+2=f.kids.length:=⟨f.kids.length-2,by omega⟩;obtain⟨r,hr⟩:∃r,f.kids[n]?=some r:=⟨_,List.getElem?_eq_getElem (by omega)⟩;obtain⟨b,hb⟩:∃b,f.kids[n+1]?=some b:=⟨_,List.getElem?_eq_getElem (by omega)⟩;have hrt:=s3 r (by rw[show f.kids.length-2=n by omega];exact hr);have hbx:=s4 b (by rw[show f.kids.length-1=n+1 by omega];exact hb);have hsplit:f.kids=f.kids.take n++[r,b]:=by
  have e1:f.kids.drop n=[r,b]:=by
   rw[aU hr,aU hb,List.drop_of_length_le (by omega)]
  rw[←e1,List.take_append_drop]
 have hrb:=aF hr;have hbb:=aF hb;have hfb:tbulk f≤10000000:=by
  have :=bt hm;have :=aF hd;have :=hX.hb;omega
 have hp:∀k∈f.kids.take n,FW k:=λk hk=>by
  obtain⟨i,hi⟩:=List.mem_iff_getElem?.1 hk;rw[List.getElem?_take]at hi;split at hi
  ·obtain⟨v,h1,h2,h3⟩:=s2 i k hi (by omega);exact⟨v,h1,h2,h3⟩
  ·cases hi
 have hxd:(x.go (d:Int)).pa=[(d:Int)]:=by simp[Cx.go,hpa]
 have hnod:nodK f [(d:Int)]=([(d:Int)],f)::(nodKs (f.kids.take n) [(d:Int)] 0++(nodK r [(d:Int),(n:Int)]++nodK b [(d:Int),((n+1:Nat):Int)])):=by
  rw[fG]
  conv=>lhs;rw[hsplit]
  rw[Do];have :(f.kids.take n).length=n:=by simp;omega
  rw[this,Nat.zero_add];simp[nodKs]
 have hq':s.tg=bx x.p x.mo (nodKs (f.kids.take n) [(d:Int)] 0)++(bx x.p x.mo (nodK r [(d:Int),(n:Int)])++(bx x.p x.mo (nodK b [(d:Int),((n+1:Nat):Int)])++rest)):=by
  rw[hq,hnod,bx,show dP f=false by simp[dP,hk]];simp[sr]
 obtain⟨X,hXX⟩:∃X,X=cc x.p x.mo (nodKs (f.kids.take n) [(d:Int)] 0):=⟨_,rfl⟩;obtain⟨Y,hYY⟩:∃Y,Y=cc x.p x.mo (nodK r [(d:Int),(n:Int)]):=⟨_,rfl⟩;have hpar:=EM (x.go (d:Int)) (f.kids.take n) 0 s _ hp (by rw[hxd];exact hq');rw[hxd]at hpar;have htyp:=xt (tbulk f) r ((x.go (d:Int)).go (n:Int)) {s with tg:=bx x.p x.mo (nodK r [(d:Int),(n:Int)])++(bx x.p x.mo (nodK b [(d:Int),((n+1:Nat):Int)])++rest),fa:=s.fa++X} (bx x.p x.mo (nodK b [(d:Int),((n+1:Nat):Int)])++rest) (by omega) hrt (by simp[Cx.go,hpa]);have hpr:((x.go (d:Int)).go (n:Int)).pa=[(d:Int),(n:Int)]:=by simp[Cx.go,hpa]
 rw[hpr]at htyp;obtain⟨sB,hsB⟩:∃sB:Sv,sB={s with tg:=bx x.p x.mo (nodK b [(d:Int),((n+1:Nat):Int)])++rest,fa:=s.fa++(X++Y)}:=⟨_,rfl⟩;have hB2:fc (tbulk f) ((x.go (d:Int)).go (n:Int)) r (lR (x.go (d:Int)) (f.kids.take n) 0 s)=sB:=by
  rw[hpar,hsB];refine Eq.trans ?_ (htyp.trans ?_)
  ·rw[hXX];rfl
  ·rw[hYY];simp[Cx.go]
 have hfree:cc x.p x.mo (nodK f [(d:Int)])=X++Y:=by
  rw[hnod,EF (by simp only;omega),oq,oq,yV (tbulk b) b _ (Nat.le_refl _) hbx,List.append_nil,←hXX,←hYY]
 have hXY:(X++Y).length≤tbulk f:=by
  rw[←hfree];exact Nat.le_trans (wb _ _ _) (nodK_len f _)
 have hat:atK root [(d:Int)]=some f:=zE hd;have hcf:=Fh hm hX.hb (tbulk f) f [(d:Int)] c (Nat.le_refl _) hat hX.P (hX.M.trans hmo) (by simp;omega) (by omega);rw[←hmo,hfree]at hcf;have d1:DR x s sB c (apC c (X++Y)):=by rw[hsB];exact DR.app _ _
 have hU:uN b=(bx x.p x.mo (nodK b [(d:Int),((n+1:Nat):Int)])).length:=(tgs_uN x.p x.mo b _).symm;have hgs:fe x.p x.mo f=⟨(f.kids.take n).map λk=>tyN x.p x.mo (cP k 0),tyN x.p x.mo r⟩:=by
  unfold fe;rw[show f.kids.length-2=n by omega,eo hr]
 have hgp:=(BF (p:=x.p) (m:=x.mo) (f:=f) (B:=tbulk f) (Nat.le_refl _)).2;rw[hgs]at hgp;have hKb:=hX.hb;have HY:Hyp (x.go (d:Int)) (eY (f.kids.take n) ((f.kids.take n).map λk=>tyN x.p x.mo (cP k 0))) sB 100000000 (tbulk b+1) (uN b):=
  ⟨by rw[hxd];simp;omega,by rw[hsB];simp only[List.length_append]at hXY⊢;omega,by rw[hsB,hU];simp,by omega,λc hc=>by
   have :∀(ks:List Tree) (ps:List Kn),(∀q∈ps,KOk (2*tbulk f+kbulk x.p+2) q)→∀c∈eY ks ps,KOk (2*tbulk f+kbulk x.p+2) c.typ:=λks=>by
    induction ks with
    |nil=>intro ps _ c hc;simp[eY]at hc
    | cons k r ih=>
     intro ps hps c hc;cases ps with
     |nil=>simp[eY]at hc
     |cons q l=>
      simp only[eY,List.mem_cons]at hc;rcases hc with rfl|hc
      ·exact hps q List.mem_cons_self
      ·exact ih l (λq hq=>hps q (List.mem_cons_of_mem _ hq)) c hc
   exact(this _ _ hgp c hc).mono (by omega),hsg⟩
 have hl1:(apC c (X++Y)).L.length≤sB.fa.length:=by rw[hsB];simp only[apC,List.length_append];omega
 obtain⟨_,C2⟩:=ds (uI (tbulk f)) (x:=x.go (d:Int)) (s:=sB) hb (by omega) hbx HY;obtain⟨y,c2,g1,g2,g3⟩:=Na (c:=apC c (X++Y)) (hX.to d1) hmo hpa hm hd hn hb hbx hp HY ⟨rest,by rw[hsB]⟩ (λq u hm' h17=>by
  have e:(apC c (X++Y)).Want=c.Want:=rfl;rw[e];refine hN q u (vd [] hd _ ?_) h17;have h2:=vd [(d:Int)] hb (q,u) (by simpa using hm');simpa using h2) hl1
 have hfun:rV (x.go (d:Int)) f (fe x.p x.mo f) s=funQ (x.go (d:Int)) (n+1) (tyN x.p x.mo r) (aO (cG (tbulk f)) (x.go (d:Int)) f (n+1) (eY (f.kids.take n) ((f.kids.take n).map λk=>tyN x.p x.mo (cP k 0))) sB):=by
  unfold rV;rw[hgs,show f.kids.length-1=n+1 by omega,show f.kids.length-2=n by omega,eo hr,hB2]
 rw[hfun];generalize aO (cG (tbulk f)) (x.go (d:Int)) f (n+1) (eY (f.kids.take n) ((f.kids.take n).map λk=>tyN x.p x.mo (cP k 0))) sB=w at C2 g2 g3⊢;obtain⟨k,sC⟩:=w;have cA:=C2.fa;have cT:=C2.tg;simp only at cA cT g2 g3;have hwr:=yT hX.ok hX.hb (m:=(m:Int)) (by omega) (by rw[←hmo];exact hX.m1) hrt (by omega) (c:=c2) ((g3.P).trans hX.P);have hT:=BK hX.ok hX.m0 hX.m1 hrt;have d3:=DR.er (x:=x.go (d:Int)) (s:=sC) (c:=c2) (g3.M.trans hX.M) (aZ k (tyN x.p x.mo r)) [((n+1:Nat):Int)] 4;rw[hxd]at d3;have hfq:funQ (x.go (d:Int)) (n+1) (tyN x.p x.mo r) (k,sC)=if aZ k (tyN x.p x.mo r)=true then faP (x.go (d:Int)) 4 [((n+1:Nat):Int)] sC else sC:=rfl
 obtain⟨v1,v2,v3⟩:=zR (aZ k (tyN x.p x.mo r)) (x.go (d:Int)) 4 [((n+1:Nat):Int)] sC;rw[←hfq]at v1 v2 v3 d3;have l3:=g3.len;have hXY2:=hXY;rw[hsB]at l3 cA cT;simp only[apC,List.length_append]at l3 cA hXY2;refine⟨n,r,_,y,c2,aZ k (tyN x.p x.mo r),hn,hr,hcf,g1,hwr,by rw[←hmo];exact nq g2 hT,(d1.trans g3).trans (d3.of_x rfl rfl rfl),?_,?_,?_⟩
 ·rw[v1,cT,hU,List.drop_left]
 ·omega
 ·omega
theorem Pe{c:CHr}{s:Sv}{d:Nat}{root f b:Tree}{rest:List aA}(O:RX x c)(U:x.mo=(m:Int))(Z:x.pa=[])(hm:x.p[m]?=some root)(hd:root.kids[d]?=some f)(hk:f.kind=3)(hkb:f.kids=[b])(hb:tyK b)
  (hq:s.tg=bx x.p x.mo (nodK f [(d:Int)])++rest) (hl:c.L.length≤s.fa.length) (hfa:s.fa.length+5*tbulk f+1≤800000000):
  ∃c1,du c [(d:Int)] c1∧DR x s (wF (x.go (d:Int)) d f s) c (erI (hZ x.p x.mo (d:Int)) c1 [(d:Int)] 5)∧(wF (x.go (d:Int)) d f s).tg=rest∧(wF (x.go (d:Int)) d f s).fa.length≤s.fa.length+5*tbulk f∧c1.L.length+1≤1000000000:=by
 have hB:=aV f;have hb0:f.kids[0]?=some b:=by rw[hkb];rfl
 have hbb:=aF hb0;have hfb:tbulk f≤10000000:=by
  have :=bt hm;have :=aF hd;have :=O.hb;omega
 have hxd:(x.go (d:Int)).pa=[(d:Int)]:=by simp[Cx.go,Z]
 have J:nodK f [(d:Int)]=([(d:Int)],f)::nodK b [(d:Int),((0:Nat):Int)]:=by rw[fG,hkb];simp[nodKs]
 have hq':s.tg=bx x.p x.mo (nodK b [(d:Int),((0:Nat):Int)])++rest:=by
  rw[hq,J,bx,show dP f=false by simp[dP,hk]];rfl
 obtain⟨F,hF⟩:∃F,F=cc x.p x.mo (nodK b [(d:Int),((0:Nat):Int)]):=⟨_,rfl⟩;have hfree:cc x.p x.mo (nodK f [(d:Int)])=F:=by rw[J,EF (by simp only;omega),hF]
 have hFl:F.length≤tbulk f:=by rw[←hfree];exact Nat.le_trans (wb _ _ _) (nodK_len f _)
 have hcf:=Fh hm O.hb (tbulk f) f [(d:Int)] c (Nat.le_refl _) (zE hd) O.P (O.M.trans U) (by simp;omega) (by omega);rw[←U,hfree]at hcf;obtain⟨v1,v2,v3⟩:=zR (hZ x.p x.mo (d:Int)) (x.go (d:Int)) 5 [] s;obtain⟨s1,G⟩:∃s1:Sv,s1=if hZ x.p x.mo (d:Int)=true then faP (x.go (d:Int)) 5 [] s else s:=⟨_,rfl⟩
 rw[←G]at v1 v2 v3;have hp2:((x.go (d:Int)).go ((0:Nat):Int)).pa=[(d:Int),((0:Nat):Int)]:=by simp[Cx.go,Z]
 have ht:=xt (tbulk f) b ((x.go (d:Int)).go ((0:Nat):Int)) s1 rest (by omega) hb (by rw[hp2];exact v1.trans hq');rw[hp2]at ht;have ea:wF (x.go (d:Int)) d f s={s1 with tg:=rest,fa:=s1.fa++F}:=by
  unfold wF;rw[eo hb0,hF];refine Eq.trans ?_ ht;rw[G];rfl
 obtain⟨e1,e2,e3,e4⟩:=jz (hZ x.p x.mo (d:Int)) (apC c F) [(d:Int)] 5;have d1:=DR.er (x:=x.go (d:Int)) (s:=s) (c:=c) O.M (hZ x.p x.mo (d:Int)) [] 5;rw[←G]at d1;have d2:=d1.of_x (x:=x) rfl rfl rfl;rw[ea];refine⟨_,hcf,⟨e1,e2,e3,λP=>?_,λg=>?_⟩,rfl,by simp only[List.length_append];omega,by simp only[apC,List.length_append];omega⟩
 ·have z1:=Bz P (hZ x.p x.mo (d:Int)) (x:=x.go (d:Int)) (c:=apC c F) O.M 5 [];have z2:=Bt P (hZ x.p x.mo (d:Int)) (x.go (d:Int)) 5 [] s;rw[←G]at z2;rw[hxd]at z1;rw[show[(d:Int)]++[]=[(d:Int)]from rfl]at z1;have z3:(apC c F).L.countP P=c.L.countP P+F.countP P:=by simp[apC,List.countP_append]
  simp only[List.countP_append];omega
 ·have h1:=d2.g g;have h2:GR x s1 c:=by
   rw[G];cases hZ x.p x.mo (d:Int)
   ·exact g
   ·exact g
  have h3:GR x s1 (apC c F):=h2;have h4:=h3.er (hZ x.p x.mo (d:Int)) [(d:Int)] 5;exact h4
theorem NW{a b:FE}(hm:a.At.Module=b.At.Module)(ha:PbE a):nA a b (decide (iS a b<0)):=by
 have e:iS a b=if dv a.At.Path b.At.Path≠0 then dv a.At.Path b.At.Path else js a.Kind b.Kind:=by
  unfold iS;rw[ifz ((tQ.eq _ _).2 hm)]
 have kk:decide (a.Kind<b.Kind)=decide (js a.Kind b.Kind<0):=by
  unfold js;by_cases h1:a.Kind<b.Kind
  ·simp[h1]
  ·by_cases h2:b.Kind<a.Kind<;>simp[h1,h2]
 have hp:a.At.Path.length≤1000000000:=ha;have last:∀m,jh (m+1) a b (if a.At.Path.length=b.At.Path.length then decide (js a.Kind b.Kind<0)else decide (((a.At.Path.length:Nat):Int)<((b.At.Path.length:Nat):Int))):=λm=>
  rL1_semvcsref08_ahead m _ _ _ (⟨λh=>(if_neg h).symm,λh=>by rw[if_pos h];exact kk⟩)
 have loop:∀k i,a.At.Path.length-i≤k→i≤a.At.Path.length→i≤b.At.Path.length→jg (k+2) a b i (decide ((if dv (a.At.Path.drop i) (b.At.Path.drop i)≠0 then dv (a.At.Path.drop i) (b.At.Path.drop i)else js a.Kind b.Kind)<0)):=by
  intro k
  induction k with
  | zero=>
   intro i hk h1 h2;have d1:a.At.Path.drop i=[]:=List.drop_of_length_le (by omega);have l1:=last 0;rw[d1];refine iy 1 _ _ _ _ (⟨λh=>absurd h (by omega),λ_=>?_⟩);rcases nk b.At.Path i with⟨y,s,g1,g2,g3,g4⟩|⟨g1,g2⟩
   ·rw[g1];rw[if_neg (by omega),decide_eq_true (by omega:((a.At.Path.length:Nat):Int)<_)]at l1;simpa[dv]using l1
   ·rw[g1];rw[if_pos (by omega)]at l1;simpa[dv]using l1
  | succ k ih=>
   intro i hk h1 h2;have l1:=last (k+1);rcases nk a.At.Path i with⟨x,r,e1,e2,e3,e4⟩|⟨e1,e2⟩
   ·rcases nk b.At.Path i with⟨y,s,g1,g2,g3,g4⟩|⟨g1,g2⟩
    ·refine iy (k+2) _ _ _ _ (⟨λ_=>⟨λ_=>⟨x,e2,y,g2,λhn=>⟨x,e2,y,g2,?_⟩,λhe=>?_⟩,λh=>absurd g4 h⟩,λh=>absurd e4 h⟩)
     ·have hz:js x y≠0:=λh=>hn ((tQ.eq _ _).1 h);rw[e1,g1,dv,ifn hz,ifn hz];unfold js;by_cases h3:x<y
      ·simp[h3]
      ·by_cases h4:y<x<;>simp[h3,h4]
     ·have hz:js x y=0:=(tQ.eq _ _).2 he;have :=ih (i+1) (by omega) (by omega) (by omega);rw[e3,g3]at this;rw[e1,g1,dv,ifz hz];exact this
    ·refine iy (k+2) _ _ _ _ (⟨λ_=>⟨λh=>absurd h (by omega),λ_=>?_⟩,λh=>absurd e4 h⟩);rw[e1,g1];rw[if_neg (by omega),decide_eq_false (by omega:¬((a.At.Path.length:Nat):Int)<_)]at l1;simpa[dv]using l1
   ·refine iy (k+2) _ _ _ _ (⟨λh=>absurd h (by omega),λ_=>?_⟩);rcases nk b.At.Path i with⟨y,s,g1,g2,g3,g4⟩|⟨g1,g2⟩
    ·rw[e1,g1];rw[if_neg (by omega),decide_eq_true (by omega:((a.At.Path.length:Nat):Int)<_)]at l1;simpa[dv]using l1
    ·rw[e1,g1];rw[if_pos (by omega)]at l1;simpa[dv]using l1
 have :=loop a.At.Path.length 0 (by omega) (by omega) (by omega);rw[e];exact xV (a.At.Path.length+2) _ _ _ (by simpa using this)
theorem Hh{p:List Tree}{out post:List FE}{mI i:Nat}(hi:i+1≤1000000000):∀(n:Nat) (P Q:List FE) (x:FE),P.length=n→PbE x→(∀q∈P,x.At.Module=q.At.Module)→cS (P++Q)→(∀q∈Q,leE x q)→n≤1000000000→
  ∃S:List FE,S.Perm (P++x::Q)∧cS S∧∀M r,cH M p out mI (S++post) (i+1) r→∃M',iL M' p out mI ((P++x::Q)++post) i (n:Int) r
 |0,P,Q,x,hl,hx,hmm,hs,hq,hb=>by
  have :P=[]:=List.eq_nil_of_length_eq_zero hl;subst this;exact⟨x::Q,List.Perm.refl _,List.pairwise_cons.2 ⟨hq,hs⟩,λM r h=>⟨M+1,ll M _ _ _ _ _ _ _ (⟨λh'=>absurd h' (by omega),λ_=>⟨by omega,h⟩⟩)⟩⟩
 | n+1,P,Q,x,hl,hx,hmm,hs,hq,hb=>by
  obtain⟨P',p',rfl⟩:∃P' p',P=P'++[p']:=⟨P.dropLast,P.getLast (λh=>by subst h;simp at hl),(List.dropLast_concat_getLast _).symm⟩;simp only[List.length_append,List.length_cons,List.length_nil]at hl;have hl':P'.length=n:=by omega
  have g1:((P'++[p']++x::Q)++post)[n+1]?=some x:=by
   rw[show(P'++[p']++x::Q)++post=(P'++[p'])++x::(Q++post) by simp];exact fq (by simp;omega)
  have e2:(P'++[p']++x::Q)++post=P'++p'::(x::Q++post):=by simp
  have g2:((P'++[p']++x::Q)++post)[n]?=some p':=by rw[e2];exact fq hl'
  have i1:InI (((n+1:Nat):Int)-1):=⟨by omega,by omega⟩;have ei:(((n+1:Nat):Int)-1)=(n:Int):=by omega
  have hah:=NW (hmm p' (by simp)) hx;by_cases hc:iS x p'<0
  ·rw[decide_eq_true hc]at hah;have s1:((P'++[p']++x::Q)++post).set (n+1) p'=P'++p'::(p'::Q++post):=by
    rw[show(P'++[p']++x::Q)++post=(P'++[p'])++x::(Q++post) by simp,nr (by simp;omega)];simp
   have s2:(((P'++[p']++x::Q)++post).set (n+1) p').set n x=(P'++x::(p'::Q))++post:=by
    rw[s1,nr (by omega)];simp
   have g3:(((P'++[p']++x::Q)++post).set (n+1) p')[n]?=some p':=by rw[s1];exact fq (by omega)
   obtain⟨S,h1,h2,h3⟩:=Hh (p:=p) (out:=out) (post:=post) (mI:=mI) hi n P' (p'::Q) x hl' hx (λq hq=>hmm q (by simp[hq])) (by simpa using hs) (λq hq'=>by
    rcases List.mem_cons.1 hq' with rfl|h
    ·exact nZ hc
    ·exact hq q h) (by omega)
   refine⟨S,h1.trans ?_,h2,λM r h=>?_⟩
   ·rw[List.append_assoc];exact List.Perm.append_left _ (List.Perm.swap _ _ _)
   ·obtain⟨M',hM⟩:=h3 M r h;refine⟨M'+1,ll M' _ _ _ _ _ _ _ (⟨λ_=>⟨_,rfl,x,g1,i1,n,ei,p',g2,true,hah,λ_=>⟨i1,i1,n,ei,p',g2,_,rfl,x,g1,_,rfl,x,g1,n,ei,p',g3,i1,?_⟩,λh=>(by cases h)⟩,λh=>absurd (by omega) h⟩)⟩;rw[s2,ei];exact hM
  ·rw[decide_eq_false hc]at hah;refine⟨P'++[p']++x::Q,List.Perm.refl _,?_,λM r h=>⟨M+1,ll M _ _ _ _ _ _ _ (⟨λ_=>⟨_,rfl,x,g1,i1,n,ei,p',g2,false,hah,λh=>(by cases h),λ_=>⟨by omega,h⟩⟩,λh=>absurd (by omega) h⟩)⟩⟩;refine uD (iN hs) (List.pairwise_cons.2 ⟨hq,jw hs⟩) λu hu v hv=>?_;have hup:leE u p':=by
    rcases List.mem_append.1 hu with h|h
    ·exact mj (iN hs) u h p' (by simp)
    ·simp only[List.mem_singleton]at h;rw[h];exact AV p'
   rcases List.mem_cons.1 hv with rfl|h
   ·exact ms hup hc
   ·exact mj hs u hu v h
theorem HH{p:List Tree}{out:List FE}{mI:Nat}{z:Int}:∀(R P:List FE),cS P→(∀x∈P++R,PbE x∧x.At.Module=z)→P.length+R.length+1≤1000000000→
  ∃S:List FE,S.Perm (P++R)∧cS S∧∀M r,fL M p (out++S) (mI+1) r→out.length+(P.length+R.length)≤1000000000→mI+1≤9223372036854775807→∃M',cH M' p out mI (P++R) P.length r
 |[],P,hP,_,hl=>⟨P,by simp,hP,λM r h ho hm=>⟨M+1,lh M _ _ _ _ _ _ (⟨λh=>absurd h (by simp),λ_=>⟨by simp only[List.length_append,List.length_nil]at ho⊢;omega,hm,by simpa using h⟩⟩)⟩⟩
 | x::R,P,hP,hR,hl=>by
  simp only[List.length_cons]at hl;obtain⟨S1,h1,h2,h3⟩:=Hh (p:=p) (out:=out) (post:=R) (mI:=mI) (i:=P.length) (by omega) P.length P [] x rfl (hR x (by simp)).1 (λq hq=>(hR x (by simp)).2.trans (hR q (by simp[hq])).2.symm) (by simpa using hP) (λq hq=>by simp at hq) (by omega);have hl1:=h1.length_eq;simp only[List.length_append,List.length_cons,List.length_nil]at hl1;obtain⟨S,g1,g2,g3⟩:=HH (p:=p) (out:=out) (mI:=mI) (z:=z) R S1 h2 (λy hy=>hR y (by
   rcases List.mem_append.1 hy with h|h
   ·have :=h1.mem_iff.1 h;simp only[List.mem_append,List.mem_cons,List.not_mem_nil,or_false]at this⊢;rcases this with h|h
    ·exact .inl h
    ·exact .inr (.inl h)
   ·simp[h])) (by omega)
  refine⟨S,g1.trans ?_,g2,λM r h ho hm=>?_⟩
  ·have :=h1.append_right R;simpa using this
  ·obtain⟨M1,hM1⟩:=g3 M r h (by simp only[List.length_cons]at ho;omega) hm;rw[show S1.length=P.length+1 by omega]at hM1;obtain⟨M',hM'⟩:=h3 M1 r hM1;exact⟨M'+1,lh M' _ _ _ _ _ _ (⟨λ_=>by simpa using hM',λh=>absurd (by simp) h⟩)⟩
def FaB(B:Nat)(s:Sv):Prop:=∀e∈s.fa,e.At.Path.length≤B
variable{B:Nat}
theorem oF{k:Int}{b:List Int}(h:FaB B s)(hb:x.pa.length+b.length≤B):FaB B (faP x k b s):=λe G=>by
 rcases List.mem_append.1 G with G|G
 ·exact h e G
 ·simp only[List.mem_singleton]at G;subst G;simpa using hb
theorem PH{k:Kn}(h:FaB B s):FaB B (knS x i k s):=by unfold FaB;rw[BA];exact h
def ExF(B:Nat)(E:Ev)(n:Nat):Prop:=∀(t:Tree) (x:Cx) (env:Env) (s:Sv),FaB B s→x.pa.length+2*n+3≤B→FaB B (E x t env s).2
theorem zU{n:Nat}(h:ExF B E n)(t:Tree)(x:Cx)(i:Nat)(env:Env)(s:Sv)(hs:FaB B s)(hb:x.pa.length+2*n+4≤B):FaB B (aO E x t i env s).2:=by
 have :=h (cP t i) (x.go i) env s hs (by simp[Cx.go];omega);unfold aO;cases G:E (x.go i) (cP t i) env s with
 |mk k s1=>
  rw[G]at this;exact PH this
theorem mZ{c:Prop}[Decidable c]{a b:Sv}(G:FaB B a)(hb:FaB B b):FaB B (if c then a else b):=by split<;>assumption
theorem Ej{B n:Nat}{E:Ev}(h:ExF B E n)(x:Cx)(ps:List Kn)(env:Env)(hb:x.pa.length+2*n+5≤B):∀(l:List Tree) (i:Nat) (s:Sv),FaB B s→FaB B (iF E x ps env l i s)
 |[],i,s,hs=>hs
 | a::r,i,s,hs=>by
  have h1:=zU h a (x.go (i:Int)) 0 env s hs (by simp[Cx.go];omega);simp only[iF];refine Ej h x ps env hb r (i+1) _ ?_;cases hq:aO E (x.go (i:Int)) a 0 env s with
  |mk k s1=>
   rw[hq]at h1;simp only[sO];split
   ·exact mZ (oF h1 (by simp;omega)) h1
   ·exact h1
theorem Hz{B n:Nat}{E:Ev}(h:ExF B E n)(x:Cx)(t:Tree)(env:Env)(hb:x.pa.length+2*n+4≤B):∀(k i:Nat) (r:Kn×Sv),FaB B r.2→FaB B (iq E x t env k i r).2
 |0,i,r,hs=>hs
 | k+1,i,(f,s),hs=>by
  have h1:=zU h t x i env s hs hb;simp only[iq];refine Hz h x t env hb k (i+1) _ ?_;cases hq:aO E x t i env s with
  |mk a s1=>
   rw[hq]at h1;simp only[AL];exact mZ (oF h1 (by simp;omega)) h1
theorem PN{w:List UInt8}(h:FaB B s)(hb:x.pa.length+1≤B):FaB B (opQ x w a (b,s)).2:=by
 have f:∀(k:Int) (z:Int) (s:Sv),FaB B s→FaB B (faP x k [z] s):=λk z s hs=>oF hs (by simpa using hb);unfold opQ;by_cases h1:w=[43]
 ·simp only[if_pos h1];unfold qw
  repeat' split
  all_goals first|exact f _ _ _ (f _ _ _ h)|exact f _ _ _ h|exact h
 ·simp only[if_neg h1];by_cases h2:w=[61,61]
  ·simp only[if_pos h2];split
   ·exact f _ _ _ h
   ·exact h
  ·simp only[if_neg h2];unfold wq
   repeat' split
   all_goals first|exact f _ _ _ (f _ _ _ h)|exact f _ _ _ h|exact h
theorem EH{B:Nat}:∀n:Nat,ExF B (cG n) n
 |0=>λt x env s hs _=>hs
 | n+1=>λt x env s hs hb=>by
  have h:=EH (B:=B) n;have K:=λ(i:Nat) (env:Env) (s:Sv) (hs:FaB B s)=>zU h t x i env s hs (by omega);simp only[cG,bC];split;· exact hs
  split;· exact hs
  split;· exact hs
  split;· exact hs
  split
  ·cases jc t.text env with
   |none=>exact oF hs (by simp;omega)
   |some k=>exact hs
  split
  ·unfold oT;refine Ej h x _ env (by omega) t.kids 0 _ ?_;unfold tc;have hu:FaB B (bT s):=hs;exact mZ (oF hu (by simp;omega)) (mZ hu (oF hu (by simp;omega)))
  split
  ·have :=Hz h x t env (by omega) t.kids.length 0 (⟨0,0⟩,s) hs;cases hq:iq (cG n) x t env t.kids.length 0 (⟨0,0⟩,s)with
   |mk a s1=>rw[hq]at this;exact this
  split
  ·unfold ifP;have h0:=K 0 env s hs;have h1:FaB B (ifS x (aO (cG n) x t 0 env s)):=by
    cases hq:aO (cG n) x t 0 env s with
    |mk a s1=>rw[hq]at h0;exact mZ (oF h0 (by simp;omega)) h0
   have h2:=K 1 env _ h1;cases hq:aO (cG n) x t 1 env (ifS x (aO (cG n) x t 0 env s))with
   |mk a s1=>
    rw[hq]at h2;have h3:=K 2 env s1 h2;simp only[ifR];cases hq2:aO (cG n) x t 2 env s1 with
    |mk b s2=>rw[hq2]at h3;exact mZ (oF h3 (by simp;omega)) h3
  split
  ·have h0:=K 0 env s hs;cases hq:aO (cG n) x t 0 env s with
   |mk a s1=>rw[hq]at h0;exact K 1 _ s1 h0
  split
  ·have h0:=K 0 env s hs;cases hq:aO (cG n) x t 0 env s with
   |mk a s1=>
    rw[hq]at h0;have h1:=K 1 env s1 h0;simp only[wI];cases hq2:aO (cG n) x t 1 env s1 with
    |mk b s2=>rw[hq2]at h1;exact PN h1 (by omega)
  split
  ·exact K 0 env s hs
  ·exact hs
theorem zJ{B:Nat}:∀(n:Nat) (x:Cx) (u:Tree) (s:Sv),FaB B s→x.pa.length+n≤B→FaB B (fc n x u s)
 |0,x,u,s,hs,_=>hs
 |n+1,x,u,s,hs,hb=>by
  have G:FaB B (bT s):=hs;simp only[fc];exact mZ (mZ (oF G (by simp;omega)) G) (mZ (zJ n _ _ s hs (by simp[Cx.go];omega)) hs)
theorem Hx{B L:Nat}(x:Cx):∀(l:List Tree) (i:Nat) (s:Sv),(∀a∈l,tbulk a≤L)→FaB B s→x.pa.length+2+L≤B→FaB B (lR x l i s)
 |[],i,s,_,hs,_=>hs
 |k::r,i,s,G,hs,hb=>by
  have :=G k (by simp);have :=vX k 0;exact Hx x r (i+1) _ (λa J=>G a (by simp[J])) (zJ _ _ _ _ hs (by simp[Cx.go];omega)) hb
theorem NZ(x:Cx)(d:Nat)(f:Tree)(s:Sv)(hs:FaB B s)(hb:x.pa.length+2*tbulk f+6≤B):FaB B (ke x d f s):=by
 unfold ke;refine mZ ?_ ?_
 ·obtain⟨g,J⟩:∃g,g=(aI (x.mo,(d:Int)) x.sg).getD noG:=⟨_,rfl⟩;rw[←J];unfold rV;have h1:FaB B (lR (x.go (d:Int)) (f.kids.take (f.kids.length-2)) 0 s):=Hx (L:=tbulk f) _ _ 0 s (λa O=>by
   obtain⟨i,hi⟩:=List.getElem?_of_mem (List.mem_of_mem_take O);have :=aF hi;omega) hs (by simp[Cx.go];omega)
  have h2:=zJ (B:=B) (tbulk f) ((x.go (d:Int)).go ((f.kids.length-2:Nat):Int)) (cP f (f.kids.length-2)) _ h1 (by simp[Cx.go];omega);have G:=zU (EH (B:=B) (tbulk f)) f (x.go (d:Int)) (f.kids.length-1) (eY (f.kids.take (f.kids.length-2)) g.params) _ h2 (by simp[Cx.go];omega);cases U:aO (cG (tbulk f)) (x.go (d:Int)) f (f.kids.length-1) (eY (f.kids.take (f.kids.length-2)) g.params) (fc (tbulk f) ((x.go (d:Int)).go ((f.kids.length-2:Nat):Int)) (cP f (f.kids.length-2)) (lR (x.go (d:Int)) (f.kids.take (f.kids.length-2)) 0 s))with
  |mk k s1=>
   rw[U]at G;exact mZ (oF G (by simp[Cx.go];omega)) G
 ·unfold wF;exact zJ _ _ _ _ (mZ (oF hs (by simp[Cx.go];omega)) hs) (by simp[Cx.go];omega)
theorem Ax{B L:Nat}(x:Cx)(hb:x.pa.length+2*L+6≤B):∀(l:List Tree) (d:Nat) (s:Sv),(∀f∈l,tbulk f≤L)→FaB B s→FaB B (iK x l d s)
 |[],d,s,_,hs=>hs
 |f::r,d,s,G,hs=>by
  have :=G f (by simp);exact Ax x hb r (d+1) _ (λa J=>G a (by simp[J])) (NZ x d f s hs (by omega))
theorem fab_mods{B L:Nat}(x:Cx)(hb:x.pa.length+2*L+6≤B):∀(l:List Tree) (m:Nat) (s:Sv),(∀t∈l,tbulk t≤L)→FaB B s→FaB B (nS x l m s)
 |[],m,s,_,hs=>hs
 | t::r,m,s,hl,hs=>by
  have ht:=hl t (by simp);exact fab_mods x hb r (m+1) _ (λa ha=>hl a (by simp[ha])) (Ax (x.md (m:Int)) hb t.kids 0 s (λf hf=>by
   obtain⟨i,hi⟩:=List.getElem?_of_mem hf;have :=aF hi;omega) hs)
theorem NV(nm:List ((Int×List UInt8)×ac))(wm:Int)(wp:List Int):FaB (2*kbulk p+6) (qv p nm wm wp):=
 fab_mods (L:=kbulk p) (cxN p nm wm wp) (by simp[cxN]) p 0 _ (λt ht=>by
  obtain⟨i,hi⟩:=List.getElem?_of_mem ht;exact bt hi) (λe G=>by simp at G)
def FmB(B:List FE×Int)(s:Sv):Prop:=∃D,s.fa=B.1++D∧∀e∈D,e.At.Module=B.2
theorem nY{B:List FE×Int}{k:Int}{b:List Int}(h:FmB B s)(hb:x.mo=B.2):FmB B (faP x k b s):=by
 obtain⟨D,h1,h2⟩:=h;refine⟨D++[⟨⟨x.mo,x.pa++b⟩,k⟩],by simp[faP,h1],λe G=>?_⟩;rcases List.mem_append.1 G with G|G
 ·exact h2 e G
 ·simp only[List.mem_singleton]at G;subst G;exact hb
theorem Qr{B:List FE×Int}{k:Kn}(h:FmB B s):FmB B (knS x i k s):=by unfold FmB;rw[BA];exact h
def ExM(B:List FE×Int)(E:Ev)(n:Nat):Prop:=∀(t:Tree) (x:Cx) (env:Env) (s:Sv),FmB B s→x.mo=B.2→FmB B (E x t env s).2
theorem zW{B:List FE×Int}{n:Nat}(h:ExM B E n)(t:Tree)(x:Cx)(i:Nat)(env:Env)(s:Sv)(hs:FmB B s)(hb:x.mo=B.2):FmB B (aO E x t i env s).2:=by
 have :=h (cP t i) (x.go i) env s hs hb;unfold aO;cases G:E (x.go i) (cP t i) env s with
 |mk k s1=>
  rw[G]at this;exact Qr this
theorem nb{B:List FE×Int}{c:Prop}[Decidable c]{a b:Sv}(G:FmB B a)(hb:FmB B b):FmB B (if c then a else b):=by split<;>assumption
theorem EQ{B:List FE×Int}{n:Nat}{E:Ev}(h:ExM B E n)(x:Cx)(ps:List Kn)(env:Env)(hb:x.mo=B.2):∀(l:List Tree) (i:Nat) (s:Sv),FmB B s→FmB B (iF E x ps env l i s)
 |[],i,s,hs=>hs
 | a::r,i,s,hs=>by
  have h1:=zW h a (x.go (i:Int)) 0 env s hs hb;simp only[iF];refine EQ h x ps env hb r (i+1) _ ?_;cases hq:aO E (x.go (i:Int)) a 0 env s with
  |mk k s1=>
   rw[hq]at h1;simp only[sO];split
   ·exact nb (nY h1 hb) h1
   ·exact h1
theorem Hu{B:List FE×Int}{n:Nat}{E:Ev}(h:ExM B E n)(x:Cx)(t:Tree)(env:Env)(hb:x.mo=B.2):∀(k i:Nat) (r:Kn×Sv),FmB B r.2→FmB B (iq E x t env k i r).2
 |0,i,r,hs=>hs
 | k+1,i,(f,s),hs=>by
  have h1:=zW h t x i env s hs hb;simp only[iq];refine Hu h x t env hb k (i+1) _ ?_;cases hq:aO E x t i env s with
  |mk a s1=>
   rw[hq]at h1;simp only[AL];exact nb (nY h1 hb) h1
theorem PA{B:List FE×Int}{w:List UInt8}(h:FmB B s)(hb:x.mo=B.2):FmB B (opQ x w a (b,s)).2:=by
 have f:∀(k:Int) (z:Int) (s:Sv),FmB B s→FmB B (faP x k [z] s):=λk z s hs=>nY hs hb;unfold opQ;by_cases h1:w=[43]
 ·simp only[if_pos h1];unfold qw
  repeat' split
  all_goals first|exact f _ _ _ (f _ _ _ h)|exact f _ _ _ h|exact h
 ·simp only[if_neg h1];by_cases h2:w=[61,61]
  ·simp only[if_pos h2];split
   ·exact f _ _ _ h
   ·exact h
  ·simp only[if_neg h2];unfold wq
   repeat' split
   all_goals first|exact f _ _ _ (f _ _ _ h)|exact f _ _ _ h|exact h
theorem FS{B:List FE×Int}:∀n:Nat,ExM B (cG n) n
 |0=>λt x env s hs _=>hs
 | n+1=>λt x env s hs hb=>by
  have h:=FS (B:=B) n;have K:=λ(i:Nat) (env:Env) (s:Sv) (hs:FmB B s)=>zW h t x i env s hs hb;simp only[cG,bC];split;· exact hs
  split;· exact hs
  split;· exact hs
  split;· exact hs
  split
  ·cases jc t.text env with
   |none=>exact nY hs hb
   |some k=>exact hs
  split
  ·unfold oT;refine EQ h x _ env hb t.kids 0 _ ?_;unfold tc;have hu:FmB B (bT s):=hs;exact nb (nY hu hb) (nb hu (nY hu hb))
  split
  ·have :=Hu h x t env hb t.kids.length 0 (⟨0,0⟩,s) hs;cases hq:iq (cG n) x t env t.kids.length 0 (⟨0,0⟩,s)with
   |mk a s1=>rw[hq]at this;exact this
  split
  ·unfold ifP;have h0:=K 0 env s hs;have h1:FmB B (ifS x (aO (cG n) x t 0 env s)):=by
    cases hq:aO (cG n) x t 0 env s with
    |mk a s1=>rw[hq]at h0;exact nb (nY h0 hb) h0
   have h2:=K 1 env _ h1;cases hq:aO (cG n) x t 1 env (ifS x (aO (cG n) x t 0 env s))with
   |mk a s1=>
    rw[hq]at h2;have h3:=K 2 env s1 h2;simp only[ifR];cases hq2:aO (cG n) x t 2 env s1 with
    |mk b s2=>rw[hq2]at h3;exact nb (nY h3 hb) h3
  split
  ·have h0:=K 0 env s hs;cases hq:aO (cG n) x t 0 env s with
   |mk a s1=>rw[hq]at h0;exact K 1 _ s1 h0
  split
  ·have h0:=K 0 env s hs;cases hq:aO (cG n) x t 0 env s with
   |mk a s1=>
    rw[hq]at h0;have h1:=K 1 env s1 h0;simp only[wI];cases hq2:aO (cG n) x t 1 env s1 with
    |mk b s2=>rw[hq2]at h1;exact PA h1 hb
  split
  ·exact K 0 env s hs
  ·exact hs
theorem zT{B:List FE×Int}:∀(n:Nat) (x:Cx) (u:Tree) (s:Sv),FmB B s→x.mo=B.2→FmB B (fc n x u s)
 |0,x,u,s,hs,_=>hs
 |n+1,x,u,s,hs,hb=>by
  have G:FmB B (bT s):=hs;simp only[fc];exact nb (nb (nY G hb) G) (nb (zT n _ _ s hs hb) hs)
theorem GS{B:List FE×Int}{L:Nat}(x:Cx):∀(l:List Tree) (i:Nat) (s:Sv),(∀a∈l,tbulk a≤L)→FmB B s→x.mo=B.2→FmB B (lR x l i s)
 |[],i,s,_,hs,_=>hs
 |k::r,i,s,G,hs,hb=>by
  have :=G k (by simp);have :=vX k 0;exact GS x r (i+1) _ (λa J=>G a (by simp[J])) (zT _ _ _ _ hs hb) hb
theorem Oq{B:List FE×Int}(x:Cx)(d:Nat)(f:Tree)(s:Sv)(hs:FmB B s)(hb:x.mo=B.2):FmB B (ke x d f s):=by
 unfold ke;refine nb ?_ ?_
 ·obtain⟨g,J⟩:∃g,g=(aI (x.mo,(d:Int)) x.sg).getD noG:=⟨_,rfl⟩;rw[←J];unfold rV;have h1:FmB B (lR (x.go (d:Int)) (f.kids.take (f.kids.length-2)) 0 s):=GS (L:=tbulk f) _ _ 0 s (λa O=>by
   obtain⟨i,hi⟩:=List.getElem?_of_mem (List.mem_of_mem_take O);have :=aF hi;omega) hs hb
  have h2:=zT (B:=B) (tbulk f) ((x.go (d:Int)).go ((f.kids.length-2:Nat):Int)) (cP f (f.kids.length-2)) _ h1 hb;have G:=zW (FS (B:=B) (tbulk f)) f (x.go (d:Int)) (f.kids.length-1) (eY (f.kids.take (f.kids.length-2)) g.params) _ h2 hb;cases U:aO (cG (tbulk f)) (x.go (d:Int)) f (f.kids.length-1) (eY (f.kids.take (f.kids.length-2)) g.params) (fc (tbulk f) ((x.go (d:Int)).go ((f.kids.length-2:Nat):Int)) (cP f (f.kids.length-2)) (lR (x.go (d:Int)) (f.kids.take (f.kids.length-2)) 0 s))with
  |mk k s1=>
   rw[U]at G;exact nb (nY G hb) G
 ·unfold wF;exact zT _ _ _ _ (nb (nY hs hb) hs) hb
theorem Fz{B:List FE×Int}{L:Nat}(x:Cx)(hb:x.mo=B.2):∀(l:List Tree) (d:Nat) (s:Sv),(∀f∈l,tbulk f≤L)→FmB B s→FmB B (iK x l d s)
 |[],d,s,_,hs=>hs
 |f::r,d,s,G,hs=>by
  have :=G f (by simp);exact Fz x hb r (d+1) _ (λa J=>G a (by simp[J])) (Oq x d f s hs hb)
theorem Sd(hb:kbulk p≤10000000):∀k g,aI k (sgM p p 0 [])=some g→KOk 100000000 g.result:=λk q G=>by
 rcases Bf k p 0 [] q G with⟨i,t,d,f,h1,h2,U,_,rfl⟩|h
 ·have J:=bt h1;have O:=aF h2;exact(BF (B:=kbulk p) (by omega)).1.mono (by omega)
 ·cases h
theorem Fa{x:Cx}{m:Nat}{root:Tree}(hmo:x.mo=(m:Int))(hpa:x.pa=[])(hm:x.p[m]?=some root)(l:List FE)(rest:List aA):∀(k d:Nat) (s:Sv) (c:CHr),k+d=root.kids.length→RX x c→s.tg=bx x.p x.mo (nodKs (root.kids.drop d) [] d)++rest→(∀q u,(q,u)∈nodK root []→u.kind=17→q≠c.Want)→c.L.length≤s.fa.length→s.fa.length+5*kbulk (root.kids.drop d)+1≤800000000→
  ∃c',(∀M r,cH M x.p l m c'.L 1 r→∃M',ci M' x.p d c l m r)∧DR x s (iK x (root.kids.drop d) d s) c c'∧(iK x (root.kids.drop d) d s).tg=rest∧(iK x (root.kids.drop d) d s).fa.length≤s.fa.length+5*kbulk (root.kids.drop d)
 |0,d,s,c,hk,hX,hq,hN,hl,hfa=>by
  have hd:root.kids.drop d=[]:=List.drop_of_length_le (by omega);rw[hd]at hq⊢;refine⟨c,λM r h=>⟨M+1,kX M _ _ _ _ _ _ (⟨root,hm,λh'=>absurd h' (by omega),λ_=>h⟩)⟩,DR.refl ..,?_,by simp[iK]⟩;show s.tg=rest;rw[hq];rfl
 | k +1,d,s,c,hk,hX,hq,hN,hl,hfa=>by
  have hlt:d<root.kids.length:=by omega
  obtain⟨f,hf⟩:∃f,root.kids[d]?=some f:=⟨_,fv hlt⟩;have hd:=aU hf;rw[hd]at hq hfa⊢;simp only[kbulk]at hfa⊢;have hq1:s.tg=bx x.p x.mo (nodK f [(d:Int)])++(bx x.p x.mo (nodKs (root.kids.drop (d+1)) [] (d+1))++rest):=by
   rw[hq,nodKs,sr,List.append_assoc];rfl
  have hrb:=bt hm;have hfr:=aF hf;have hbb:=hX.hb;obtain⟨hok,h23⟩:=HP hX.ok m root d f hm hf;have eD:iK x (f::root.kids.drop (d+1)) d s=iK x (root.kids.drop (d+1)) (d+1) (ke x d f s):=rfl;rw[eD];have key:∃c1,DR x s (ke x d f s) c c1∧(ke x d f s).tg=bx x.p x.mo (nodKs (root.kids.drop (d+1)) [] (d+1))++rest∧(ke x d f s).fa.length≤s.fa.length+5*tbulk f∧∀M r,ci M x.p (d+1) c1 l m r→∃M',ci M' x.p d c l m r:=by
   by_cases h2:f.kind=2
   ·have hg:=zD (P:=x.p) (key:=((m:Int),(d:Int))) x.p 0 m d [] root f hm hf h2 (by simp);rw[Nat.zero_add]at hg;have e:ke x d f s=rV (x.go (d:Int)) f (fe x.p x.mo f) s:=by
     unfold ke;rw[if_pos h2,hmo,hX.sg,hg];rfl
    rw[e];obtain⟨n,rt,c1,y,c2,dd,hn,hrt,g1,g2,g3,g4,g5,g6,g7,g8⟩:=NH hX hmo hpa hm hf h2 hok.s hq1 hN hl (by omega) (by rw[hX.sg];exact Sd hX.hb);refine⟨_,g5,g6,g7,λM r h=>⟨M+1,kX M _ _ _ _ _ _ (⟨root,hm,λ_=>⟨root,hm,f,hf,c1,g1,λh3=>absurd h3 (by omega),λ_=>⟨n,by omega,rt,hrt,y,c2,g2,_,_,g3,dd,g4,λhdd=>⟨_,it 4 (by simp) (by omega),?_⟩,λhdd=>?_⟩⟩,λh'=>absurd hlt h'⟩)⟩⟩
    ·rw[qp hdd]at h;rw[show((f.kids.length:Nat):Int)-1=((n+1:Nat):Int) by omega];exact h
    ·rw[nR hdd]at h;exact h
   ·have h3:f.kind=3:=by omega
    obtain⟨b,hkb,hb⟩:=hok.a h2;have e:ke x d f s=wF (x.go (d:Int)) d f s:=by unfold ke;rw[if_neg h2]
    rw[e];obtain⟨c1,g1,g2,g3,g4,g5⟩:=Pe hX hmo hpa hm hf h3 hkb hb hq1 hl (by omega);have hci:=Gx hX.hb (m:Int) (d:Int);rw[hmo]at g2;refine⟨_,g2,g3,g4,λM r h=>⟨M+1,kX M _ _ _ _ _ _ (⟨root,hm,λ_=>⟨root,hm,f,hf,c1,g1,λ_=>⟨_,hci,λhdd=>⟨_,it 5 (by simp) (by omega),?_⟩,λhdd=>?_⟩,λh'=>absurd h3 h'⟩,λh'=>absurd hlt h'⟩)⟩⟩
    ·rw[qp hdd]at h;exact h
    ·rw[nR hdd]at h;exact h
  obtain⟨c1,k1,k2,k3,k4⟩:=key;have l1:=k1.len;obtain⟨c',i1,i2,i3,i4⟩:=Fa hmo hpa hm l rest k (d+1) (ke x d f s) c1 (by omega) (hX.to k1) k2 (λq u h1 h2=>by rw[k1.W];exact hN q u h1 h2) (by omega) (by omega);refine⟨c',λM r h=>?_,k1.trans i2,i3,by omega⟩;obtain⟨M1,h1⟩:=i1 M r h;exact k4 M1 r h1
theorem Dv{a b:List FE}(h:∀P:FE→Bool,a.countP P=b.countP P):a.Perm b:=by
 classical
 exact List.perm_iff_count.2 λx=>h _
theorem NE{a b:FE}(h:a.At.Module<b.At.Module):leE a b:=by
 refine nZ ?_;unfold iS;have :js a.At.Module b.At.Module=-1:=if_pos h;rw[this,if_pos (by decide)];decide
theorem EV{p:List Tree}(hp:bi p=true)(hb:kbulk p≤10000000)(nm:List ((Int×List UInt8)×ac))(wm:Int)(wp:List Int):∀(k m:Nat) (s:Sv) (out:List FE),k+m=p.length→s.tg=ku p m (p.drop m)→s.fa.length+5*kbulk (p.drop m)+1≤800000000→out.Perm s.fa→cS out→(∀e∈out,e.At.Module<(m:Int))→FaB (2*kbulk p+6) s→
  ∃r,r.Perm (nS (cxN p nm wm wp) (p.drop m) m s).fa∧cS r∧∃M,fL M p out m r
 |0,m,s,out,hk,hq,hfa,h1,h2,h3,h4=>by
  have hd:p.drop m=[]:=List.drop_of_length_le (by omega);rw[hd];exact⟨out,h1,h2,1,qg 0 _ _ _ _ (⟨λh=>absurd h (by omega),λ_=>rfl⟩)⟩
 | k +1,m,s,out,hk,hq,hfa,h1,h2,h3,h4=>by
  have hlt:m<p.length:=by omega
  have hpl:=gw p;obtain⟨t,ht⟩:∃t,p[m]?=some t:=⟨_,List.getElem?_eq_getElem hlt⟩;have hd:=aU ht;rw[hd]at hq hfa⊢;simp only[kbulk]at hfa;obtain⟨k1,k2⟩:=fw hp ht;have htb:=aV t;have hbt:=bt ht;have hq1:s.tg=bx p (m:Int) (nodKs t.kids [] 0)++ku p (m+1) (p.drop (m+1)):=by
   rw[hq,ku,fG,bx,show dP t=false by simp[dP,k1]];rfl
  have ho:=h1.length_eq;obtain⟨c',i1,i2,i3,i4⟩:=Fa (x:=(cxN p nm wm wp).md (m:Int)) (m:=m) (root:=t) rfl rfl ht out (ku p (m+1) (p.drop (m+1))) t.kids.length 0 s ⟨p,(m:Int),[],[],false,0,[],[],[]⟩ (by omega) ⟨rfl,rfl,hp,hb,by show(0:Int)≤(m:Int);omega,by show(m:Int)<_;simp only[cxN,Cx.md];omega,rfl⟩ (by rw[List.drop_zero];exact hq1) (λq u hm h17 e=>by
   have hat:=nodK_at t t [] rfl (q,u) hm;simp only at e hat;rw[e]at hat;have :t=u:=by simpa[atK]using hat
   rw[←this,k1]at h17;cases h17) (by simp) (by rw[List.drop_zero];omega)
  rw[List.drop_zero]at i2 i3 i4;have e0:nS (cxN p nm wm wp) (t::p.drop (m+1)) m s=nS (cxN p nm wm wp) (p.drop (m+1)) (m+1) (iK ((cxN p nm wm wp).md (m:Int)) t.kids 0 s):=rfl;rw[e0];obtain⟨D,d1,d2⟩:=Fz (B:=(s.fa,(m:Int))) (L:=tbulk t) ((cxN p nm wm wp).md (m:Int)) rfl t.kids 0 s (λf hf=>by
   obtain⟨i,hi⟩:=List.getElem?_of_mem hf;have :=aF hi;omega) ⟨[],by simp,λe he=>by simp at he⟩
  simp only at d1 d2;have hF:=Ax (B:=2*kbulk p+6) (L:=tbulk t) ((cxN p nm wm wp).md (m:Int)) (by simp[cxN,Cx.md];omega) t.kids 0 s (λf hf=>by
   obtain⟨i,hi⟩:=List.getElem?_of_mem hf;have :=aF hi;omega) h4
  generalize iK ((cxN p nm wm wp).md (m:Int)) t.kids 0 s=s1 at i2 i3 i4 d1 hF⊢;have hperm:c'.L.Perm D:=Dv λP=>by
   have :=i2.d P;rw[d1,List.countP_append]at this;simp at this;omega
  have hDl:=hperm.length_eq;have hs1:s1.fa.length=s.fa.length+D.length:=by rw[d1,List.length_append]
  obtain⟨S,s1',s2',s3'⟩:=HH (p:=p) (out:=out) (mI:=m) (z:=(m:Int)) (c'.L.drop 1) (c'.L.take 1) (by
   rcases hc:c'.L with _|⟨a,r⟩
   ·exact List.Pairwise.nil
   ·exact List.pairwise_singleton _ _) (λe he=>by
   rw[List.take_append_drop]at he;have hD:=hperm.mem_iff.1 he;refine⟨?_,d2 e hD⟩;have :=hF e (by rw[d1];exact List.mem_append_right _ hD);show e.At.Path.length≤1000000000;omega) (by
   have :=List.take_append_drop 1 c'.L;have hh:=congrArg List.length this;rw[List.length_append]at hh;omega)
  rw[List.take_append_drop]at s1' s3';have hSD:=s1'.trans hperm;have hSl:=hSD.length_eq;obtain⟨r,g1,g2,M,g3⟩:=EV hp hb nm wm wp k (m+1) s1 (out++S) (by omega) i3 (by omega) (by rw[d1];exact h1.append hSD) (uD h2 s2' λu hu v hv=>NE (by
   have :=h3 u hu;have :=d2 v (hSD.mem_iff.1 hv);omega)) (λe he=>by
   rcases List.mem_append.1 he with h|h
   ·have :=h3 e h;omega
   ·have :=d2 e (hSD.mem_iff.1 h);omega) hF
  refine⟨r,g1,g2,?_⟩;have hlen:(c'.L.take 1).length+(c'.L.drop 1).length=c'.L.length:=by
   rw[←List.length_append,List.take_append_drop]
  have hL2:∃M',cH M' p out m c'.L 1 r:=by
   rcases hc:c'.L with _|⟨a,rr⟩
   ·have hS0:S=[]:=by
     have :S.length=0:=by rw[hSl,←hDl,hc];rfl
     exact List.length_eq_zero_iff.1 this
    rw[hS0,List.append_nil]at g3;exact⟨M+1,lh M _ _ _ _ _ _ (⟨λh=>absurd h (by simp),λ_=>⟨by simp;omega,by omega,by simpa using g3⟩⟩)⟩
   ·obtain⟨M',hM'⟩:=s3' M r g3 (by omega) (by omega);rw[hc]at hM';exact⟨M',by simpa using hM'⟩
  obtain⟨M2,h5⟩:=hL2;obtain⟨M1,h6⟩:=i1 M2 r h5;exact⟨M1+1,qg M1 _ _ _ _ (⟨λ_=>h6,λh=>absurd hlt h⟩)⟩
theorem Gz(hb:kbulk p≤10000000):∃r,gm p r∧mt p r∧r.length≤90000000:=by
 have G:=kz p (by omega);by_cases J:bi p=true
 ·obtain⟨nm,_,h1⟩:=(Av hb).2 J;have hl:=(Jw J hb nm 0 []).1.fa;have hf:=NV (p:=p) nm 0 [];simp only[List.length_nil,Nat.zero_add]at hl;obtain⟨r,Z,g2,M,g3⟩:=EV J hb nm 0 [] p.length 0 ⟨bW p,[],0,0⟩ [] (by omega) (by rw[bW,if_pos J];rfl) (by simp;omega) (List.Perm.refl _) List.Pairwise.nil (λe O=>by simp at O) (λe O=>by simp at O);rw[List.drop_zero]at Z;rw[J]at G;exact⟨r,h1 r (Fo (by omega) (λe O=>by have :=hf e O;show e.At.Path.length≤1000000000;omega) Z g2),qV M _ _ (⟨true,G,λh=>(by cases h),λ_=>g3⟩),by have :=Z.length_eq;rw[this];exact Nat.le_trans hl (by omega)⟩
 ·have U:bi p=false:=by simpa using J
  rw[U]at G;exact⟨[],(Av hb).1 U,qV 0 _ _ (⟨false,G,λ_=>rfl,λh=>(by cases h)⟩),by simp⟩
set_option maxHeartbeats 4000000
def ny(G:Bool):Prop:=qS 9 [] (.bool G)
def AW(G:List UInt8)(J:Tree)(O U:Int):Prop:=qS 20 [.str G] (.tup [.agg (al J),qi O,qi U])
def re(G:Bool):Prop:=qS 9 [] (.bool G)
theorem wG(m:Nat)(G:Bool)(h:∃b s j,AW [109,111,100,117,108,101,32,77,32,100,101,102,32,102,40,41,58,32,73,110,116,32,61,32,49,32,43,32,34,97,34,32,100,101,102,32,103,40,120,58,32,66,111,111,108,41,58,32,73,110,116,32,61,32,105,102,32,120,32,116,104,101,110,32,49,32,101,108,115,101,32,103,40,41] b s j∧∃a,gm [b] a∧∃k l,wv [b] (dL.mk 0 [0,1]) k l∧((j=0)→((l=0)→((k.kind=5)→(((a.length:Int)=2)→∃n,a[0]?=some n∧((n.Kind=6)→∃r,a[0]?=some r∧∃o,dc r.At.Path [0,1,1] o∧((o=true)→∃c,a[1]?=some c∧((c.Kind=3)→∃g,a[1]?=some g∧∃i,dc g.At.Path [1,2,2] i∧i=G)∧((c.Kind≠3)→false=G))∧((o=false)→false=G))∧((n.Kind≠6)→false=G))∧(((a.length:Int)≠2)→false=G))∧((k.kind≠5)→false=G))∧((l≠0)→false=G))∧((j≠0)→false=G)):re G:=by
 refine⟨rfl,rfl,?_⟩;refine qA 71 [] func9 λK J=>?_;refine gR 7 rfl ?_;obtain⟨b,s,j,x,h⟩:=h;refine qC0 x rfl<|gR 14 rfl<|gHR 1 (kidsV [b]) rfl (mS b) rfl<|gFR 1 rfl (dn _) rfl rfl ?_;obtain⟨a,y,h⟩:=h;refine qC y [] ?_;refine gHR 2 (List.map ae.w a) rfl (vH _ a) rfl<|gR 7 rfl<|gHR 3 (kidsV [b]) rfl (mS b) rfl<|gR 2 rfl<|gFR 3 rfl (dn _) rfl rfl<|gFR 4 rfl rfl rfl rfl ?_;obtain⟨k,l,z,h⟩:=h;refine qC0 z rfl<|gR 13 rfl<|qBeZ 25 24 rfl rfl rfl rfl h ?_ ?_<;>intro h;refine gR 4 rfl<|qBeZ 29 28 rfl rfl rfl rfl h ?_ ?_<;>intro h;refine gR 5 rfl<|qBeZ 34 33 rfl rfl rfl rfl h ?_ ?_<;>intro h;refine gR 2 rfl<|gV 36 (qi (a.length:Int)) rfl (aJ (aB ae.w _)) rfl<|gLO 2 rfl (aB ae.w _) λα=>gR 3 rfl<|qBeZ 39 38 rfl rfl rfl rfl h ?_ ?_<;>intro h;refine gR 1 rfl ?_;obtain⟨n,p,h⟩:=h;refine gY (yIO ai rfl rfl rfl rfl (qG (ar (f:=ae.w) p))) rfl rfl ?_;refine gR 1 rfl<|gDo (.nop) (dLe ai rfl rfl rfl (ar (f:=ae.w) p) rfl) trivial rfl rfl rfl<|gR 3 rfl<|qBeZ 46 45 rfl rfl rfl rfl h ?_ ?_<;>intro h;refine gR 1 rfl ?_;obtain⟨r,q,h⟩:=h;refine gY (yIO ai rfl rfl rfl rfl (qG (ar (f:=ae.w) q))) rfl rfl ?_;refine gR 2 rfl<|gDo (.nop) (dLe ai rfl rfl rfl (ar (f:=ae.w) q) rfl) trivial rfl rfl rfl<|gR 1 rfl<|gFR 6 rfl rfl rfl rfl ?_;obtain⟨o,t,h⟩:=h;refine qC0 t rfl<|gR 2 rfl<|qBiZ 55 54 rfl rfl rfl rfl h ?_ ?_<;>intro h;refine gR 1 rfl ?_;obtain⟨c,d,h⟩:=h;refine gY (yIO ai rfl rfl rfl rfl (qG (ar (f:=ae.w) d))) rfl rfl ?_;refine gR 1 rfl<|gDo (.nop) (dLe ai rfl rfl rfl (ar (f:=ae.w) d) rfl) trivial rfl rfl rfl<|gR 3 rfl<|qBeZ 62 61 rfl rfl rfl rfl h ?_ ?_<;>intro h;refine gR 1 rfl ?_;obtain⟨g,e,h⟩:=h;refine gY (yIO ai rfl rfl rfl rfl (qG (ar (f:=ae.w) e))) rfl rfl ?_;refine gR 2 rfl<|gDo (.nop) (dLe ai rfl rfl rfl (ar (f:=ae.w) e) rfl) trivial rfl rfl rfl<|gR 1 rfl<|gFR 7 rfl rfl rfl rfl ?_;obtain⟨i,v,h⟩:=h;refine qC0 v rfl<|gR 5 rfl ?_;subst h;exact qN [.tmp 0];refine gR 12 rfl ?_;subst h;exact qN [.tmp 0];refine gR 19 rfl ?_;subst h;exact qN [.tmp 0];refine gR 28 rfl ?_;subst h;exact qN [.tmp 0];refine gR 35 rfl ?_;subst h;exact qN [.tmp 0];refine gR 40 rfl ?_;subst h;exact qN [.tmp 0];refine gR 45 rfl ?_;subst h;exact qN [.tmp 0];refine gR 49 rfl ?_;subst h;exact qN [.tmp 0]
def jJ(G p1:List ae)(J:Bool):Prop:=qS 13 [.row 3 (List.map ae.w G),.row 3 (List.map ae.w p1)] (.bool J)
def fT(m:Nat)(J p1:List ae)(a:Nat)(O:Bool):Prop:=∀(K:Ctx) (G:Nat),aw K []→m≤G→qLG K f13 (λu _=>u=.bool O) (xL (aj f13)) [.loop (xL (aj f13)) G,.blk 0,.seq (xF (aj f13))] 59 (mkF 59 0 [(0,.row 3 (List.map ae.w J)),(1,.row 3 (List.map ae.w p1)),(5,qi (a:Int))]) ⟨0,[]⟩
theorem uo(m:Nat)(p0 p1:List ae)(r0:Bool)(h:((p0.length≠p1.length)→false=r0)∧((p0.length=p1.length)→fT m p0 p1 0 r0)):jJ p0 p1 r0:=by
 refine⟨rfl,rfl,?_⟩;refine qA 59 [] func13 λK hK=>?_;refine gR 10 rfl<|gV 7 (qi (p0.length:Int)) rfl (aJ (aB ae.w _)) rfl<|gLB 6 rfl (aB ae.w _) λb=>gR 2 rfl<|gV 9 (qi (p1.length:Int)) rfl (aJ (aB ae.w _)) rfl<|gLB 8 rfl (aB ae.w _) λa=>gR 3 rfl<|qXh 10 rfl rfl rfl h AN AJ ?_ ?_<;>intro hd h;refine gR 8 rfl ?_;subst h;exact qN [.tmp 4];exact gR 10 rfl<|go_loop m<|qW hK h []
theorem nd(m:Nat)(G p1:List ae)(a:Nat)(J:Bool)(h:((a<G.length)→∃b,G[a]?=some b∧∃c,p1[a]?=some c∧((b.Kind≠c.Kind)→false=J)∧((b.Kind=c.Kind)→∃d,G[a]?=some d∧∃e,p1[a]?=some e∧((d.At.Module≠e.At.Module)→false=J)∧((d.At.Module=e.At.Module)→∃i,G[a]?=some i∧∃j,p1[a]?=some j∧∃g,dc i.At.Path j.At.Path g∧((g=false)→false=J)∧((g=true)→fT m G p1 (a+1) J))))∧((¬a<G.length)→true=J)):fT (m+1) G p1 a J:=by
 refine qj λK Z O t=>?_;refine gR 6 rfl<|gV 13 (qi (G.length:Int)) rfl (aJ (aB ae.w _)) rfl<|gLB 12 rfl (aB ae.w _) λr=>gR 3 rfl<|qXh 14 rfl rfl rfl h bX bY ?_ ?_<;>intro U h;refine gR 6 rfl<|qDs [] 42 42<|qDr [(0,2),(1,2)] rfl rfl ?_;obtain⟨b,k,h⟩:=h;refine gYd 2 rfl (by kernel_rfl) (aC (ar (f:=ae.w) k) ai rfl rfl rfl rfl) rfl rfl<|qDr (qR 3 3 2 [(6,0)]) rfl rfl ?_;obtain⟨c,l,h⟩:=h;refine bD 7 rfl (by kernel_rfl) (aC (ar (f:=ae.w) l) ai rfl rfl rfl rfl) rfl rfl ?_;refine qDr (qR 8 4 0 []) rfl rfl<|qXhZ 28 27 rfl rfl rfl rfl h dy cv ?_ ?_<;>intro U h;refine qDr (qR 12 7 2 (qR 19 8 0 (qR 27 7 2 (qR 34 8 0 [])))) rfl rfl<|qDe<|gR 2 rfl<|go_sub (F':=(mkF 59 0 [])) (H':=⟨0,[]⟩) [] [] rfl O trivial trivial rfl<|gR 8 rfl<|go_xloopR<|gR 2 rfl ?_;subst h;exact qN [.tmp 4];refine qDr [(12,2),(13,2)] rfl rfl ?_;obtain⟨d,n,h⟩:=h;refine gYd 14 rfl (by kernel_rfl) (aC (ar (f:=ae.w) n) ai rfl rfl rfl rfl) rfl rfl<|qDr (qR 15 4 2 [(19,0)]) rfl rfl ?_;obtain⟨e,o,h⟩:=h;refine bD 20 rfl (by kernel_rfl) (aC (ar (f:=ae.w) o) ai rfl rfl rfl rfl) rfl rfl ?_;refine qDr (qR 21 6 0 []) rfl rfl<|qXhZ 43 42 rfl rfl rfl rfl h dy cv ?_ ?_<;>intro U h;refine qDr (qR 27 7 2 (qR 34 8 0 [])) rfl rfl<|qDe<|gR 2 rfl<|go_sub (F':=(mkF 59 0 [])) (H':=⟨0,[]⟩) [] [] rfl O trivial trivial rfl<|gR 8 rfl<|go_xloopR<|gR 2 rfl ?_;subst h;exact qN [.tmp 4];refine qDr [(27,2),(28,2)] rfl rfl ?_;obtain⟨i,p,h⟩:=h;refine gYd 29 rfl (by kernel_rfl) (aC (ar (f:=ae.w) p) ai rfl rfl rfl rfl) rfl rfl<|qDr (qR 30 4 2 [(34,0)]) rfl rfl ?_;obtain⟨j,q,h⟩:=h;refine bD 35 rfl (by kernel_rfl) (aC (ar (f:=ae.w) q) ai rfl rfl rfl rfl) rfl rfl ?_;refine qDr (qR 36 3 0 []) rfl rfl ?_;obtain⟨g,s,h⟩:=h;refine bz 39 s (by kernel_rfl) rfl (by kernel_rfl) rfl rfl .rfl rfl rfl ?_;refine qDr [(40,0),(41,0)] rfl rfl<|qDe<|gR 1 rfl<|qXh 58 rfl rfl rfl h bF bG ?_ ?_<;>intro U h;refine gR 1 rfl<|go_sub (F':=(mkF 59 0 [])) (H':=⟨0,[]⟩) [] [] rfl O trivial trivial rfl<|gR 8 rfl<|go_xloopR<|gR 2 rfl ?_;subst h;exact qN [.tmp 4];exact gR 7 rfl<|gV 16 (qi ((a+1:Nat):Int)) rfl (ao (by have :=r;omega) (by omega)) rfl<|gR 2 rfl<|go_xloop<|qW O h [];refine gR 3 rfl<|go_xloopE<|gR 8 rfl ?_;subst h;exact qN [.tmp 4]
end Go.Proofs.YtomplbgchbfjpaaGreatDoor
