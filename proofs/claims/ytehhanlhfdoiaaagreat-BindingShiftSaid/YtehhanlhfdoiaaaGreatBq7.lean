/- Contracts of the functions that the law reaches, part 7. -/
import Derived.Test.YtehhanlhfdoiaaaGreatBq6
set_option linter.unusedVariables false
set_option linter.unusedSimpArgs false
namespace Go.Proofs.YtehhanlhfdoiaaaGreat
open _root_.Go.Proofs.Tryz
open Go.RowKit Lx Sx
set_option maxHeartbeats 2000000
theorem ML(a b:YB)(E:a.length<=140737488355328)(hb:b.length<=140737488355328):qY a b (fusesT a b):=sum0_calls rfl rfl λS w ρ xs hx=>by simp only[LRel]at hx;obtain⟨x,ys,rfl,h1,y,zs,rfl,h2,rfl⟩:=hx;simp only[VRel]at h1 h2;subst h1 h2;exact(Pj a b w E hb).mono λe w' ⟨h1,h2⟩=>⟨_,h1,by simp only[VRel],BK h2⟩
theorem CC(a:YB)(f:Bool)(E:a.length<=140737488351232):lv a f (di false a f):=sum0_calls rfl rfl λS w ρ xs hx=>by
 simp only[LRel]at hx;obtain⟨x,ys,rfl,h1,y,zs,rfl,h2,rfl⟩:=hx;simp only[VRel]at h1 h2;subst h1 h2;exact(OH a f w<|by omega).mono λe w' ⟨h1,h2⟩=>⟨_,h1,by simp only[VRel],h2▸Chg.refl _ _⟩
abbrev Pce:=aa
def Qp(l:List Pce):Prop:=∀x∈l,x.Lead.length<=2000000∧x.Text.length<=2000010
theorem bR{a b:List Pce}:Qp (a++b)↔Qp a∧Qp b:=⟨λh=>⟨λx hx=>h x (by simp[hx]),λx hx=>h x<|by simp[hx]⟩,λh x hx=>by rcases List.mem_append.1 hx with h1|h1;exact h.1 x h1;exact h.2 x h1⟩
theorem bB{x:Pce}{a:List Pce}:Qp (x::a)↔(x.Lead.length<=2000000∧x.Text.length<=2000010)∧Qp a:=⟨λh=>⟨h x (by simp),λy hy=>h y<|by simp[hy]⟩,λh y hy=>by rcases List.mem_cons.1 hy with h1|h1;subst h1;exact h.1;exact h.2 y h1⟩
theorem bP:Qp []:=λx hx=>by cases hx
variable{t:Tree}
theorem bj(k:Nat)(ht:tbulk t<=2000000):∃s,av t (k:Int) s∧s.length<=2000000∧s=t.leads.getD k []:=by
 by_cases h:(k:Int)<(t.leads.length:Nat)
 ·obtain⟨s,hs,_⟩|h':=aQ t.leads k
  ·have :=wB hs;have :=bt t;exact⟨s,ra 0 _ _ _ ⟨λ_=>⟨k,I,s,hs,I⟩,λh'=>absurd h h'⟩,by omega,by rw[List.getD_eq_getElem?_getD,hs];rfl⟩
  ·omega
 ·exact⟨[],ra 0 _ _ _ ⟨λh'=>absurd h' h,λ_=>rfl⟩,by simp,by rw[List.getD_eq_getElem?_getD,List.getElem?_eq_none<|by omega];rfl⟩
def eG(ls:List YB)(c:Nat):List (List Pce)->Nat->List Pce
 |[],_=>[]
 |f::r,i=>(if 0<i then[⟨ls.getD (c+i-1) [],[44]⟩]else[])++(f++eG ls c r (i+1))
def dp(k:Int)(x:YB)(ls:List YB)(fs:List<|List Pce):List Pce:=
 if k=1 then⟨ls.getD 0 [],[109,111,100,117,108,101]⟩::⟨ls.getD 1 [],x⟩::(fs.flatten++[⟨ls.getD 2 [],[]⟩])
 else if k=2 then⟨ls.getD 0 [],[100,101,102]⟩::⟨ls.getD 1 [],x⟩::⟨ls.getD 2 [],[40]⟩::(eG ls 6 (fs.take<|fs.length-2) 0++(⟨ls.getD 3 [],[41]⟩::⟨ls.getD 4 [],[58]⟩::(fs.getD (fs.length-2) []++(⟨ls.getD 5 [],[61]⟩::fs.getD (fs.length-1) []))))
 else if k=3 then⟨ls.getD 0 [],[116,121,112,101]⟩::⟨ls.getD 1 [],x⟩::⟨ls.getD 2 [],[61]⟩::fs.getD 0 []
 else if k=4 then⟨ls.getD 0 [],x⟩::⟨ls.getD 1 [],[58]⟩::fs.getD 0 []
 else if k=17 then fs.getD 0 []
 else if k=8 then⟨ls.getD 0 [],[91]⟩::(fs.getD 0 []++[⟨ls.getD 1 [],[93]⟩])
 else if k=16 then⟨ls.getD 0 [],x⟩::⟨ls.getD 1 [],[40]⟩::(eG ls 3 fs 0++[⟨ls.getD 2 [],[41]⟩])
 else if k=18 then⟨ls.getD 0 [],[91]⟩::(eG ls 2 fs 0++[⟨ls.getD 1 [],[93]⟩])
 else if k=19 then⟨ls.getD 0 [],[105,102]⟩::(fs.getD 0 []++(⟨ls.getD 1 [],[116,104,101,110]⟩::(fs.getD 1 []++(⟨ls.getD 2 [],[101,108,115,101]⟩::fs.getD 2 []))))
 else if k=20 then⟨ls.getD 0 [],[108,101,116]⟩::⟨ls.getD 1 [],x⟩::⟨ls.getD 2 [],[61]⟩::(fs.getD 0 []++(⟨ls.getD 3 [],[105,110]⟩::fs.getD 1 []))
 else if k=21 then fs.getD 0 []++(⟨ls.getD 0 [],x⟩::fs.getD 1 [])
 else if k=22 then⟨ls.getD 0 [],[40]⟩::(fs.getD 0 []++[⟨ls.getD 1 [],[41]⟩])
 else[⟨ls.getD 0 [],if k=5 then[73,110,116]else if k=6 then[84,101,120,116]else if k=7 then[66,111,111,108]else if k=13 then[116,114,117,101]else if k=14 then[102,97,108,115,101]else if k=15 then[63]else x⟩]
mutual
def pcT:Tree->List Pce
 |.node k x ls ks=>dp k x ls<|pcTs ks
def pcTs:YT->List (List Pce)
 |[]=>[]
 |t::r=>pcT t::pcTs r
end
theorem dE(t:Tree):pcT t=dp t.kind t.text t.leads (pcTs t.kids):=by cases t;simp only[pcT];rfl
theorem rk:∀ks:YT,pcTs ks=ks.map pcT
 |[]=>rfl
 |t::r=>by simp[pcTs,rk r]
variable{i:Nat}{u:Tree}
theorem eE{ks:YT}(h:ks[i]?=some u):(pcTs ks)[i]?=some (pcT u):=by rw[rk,List.getElem?_map,h];rfl
theorem MY(ks:YT):(pcTs ks).length=ks.length:=by rw[rk,aan]
theorem Lh(ks:YT)(n:Nat):pcTs (ks.take n)=(pcTs ks).take n:=by rw[rk,rk,List.map_take]
def Pok(t:Tree):Prop:=∀l,l.length+8*tbulk t<=900000000->∃r,ax l t r∧r.length+1<=l.length+8*tbulk t∧(Qp l->Qp r)∧r=l++pcT t
theorem zQ{k n:Int}:∀{l:YT} {i:Nat},shapeKs k n i l=true->∀j u,l[j]?=some u->gb k n ((i+j:Nat):Int) u.kind=true∧shapeK u=true
 |[],_,_,j,u,h=>by simp at h
 |t::r,i,hs,0,u,h=>by simp only[shapeKs,aaa]at hs;simp at h;subst h;exact⟨hs.1.1,hs.1.2⟩
 |t::r,i,hs,j+1,u,h=>by simp only[shapeKs,aaa]at hs;have :=zQ hs.2 j u (by simpa using h);rw[show i+1+j=i+(j+1) by omega]at this;exact this
theorem kP(hs:shapeK t=true)(E:t.kids[i]?=some u):shapeK u=true∧gb t.kind t.kids.length i u.kind=true:=by rw[ee]at hs;simp only[aaa]at hs;have :=zQ hs.2 i u E;rw[Nat.zero_add]at this;exact⟨this.2,this.1⟩
theorem uH(hs:shapeK t=true):0<=bT t.kind t.kids.length:=by rw[ee]at hs;simp only[aaa,aat]at hs;exact hs.1.1
theorem ey(hs:shapeK t=true):(t.kind=2->2<=t.kids.length)∧(t.kind=18->1<=t.kids.length)∧(t.kind=3∨t.kind=4∨t.kind=8∨t.kind=17∨t.kind=22->t.kids.length=1)∧(t.kind=19->t.kids.length=3)∧(t.kind=20∨t.kind=21->t.kids.length=2):=by
 have h:=uH hs;refine⟨λE=>?_,λE=>?_,λE=>?_,λE=>?_,λE=>?_⟩
 ·rw[E]at h;simp only[bT,f0]at h;simp at h;omega
 ·rw[E]at h;simp only[bT,f0]at h;simp at h;omega
 ·rcases E with E|E|E|E|E<;>(rw[E]at h;simp only[bT,f0]at h;simp at h;omega)
 ·rw[E]at h;simp only[bT,f0]at h;simp at h;omega
 ·rcases E with E|E<;>(rw[E]at h;simp only[bT,f0]at h;simp at h;omega)
variable{l r:List Pce}
theorem dn1(M:Nat)(E:t.kind∉[(1:Int)])(h:kM M l t r):ax l t r:=pw M _ _ _ ⟨λe=>absurd (by simp[e]) E,λ_=>h⟩
theorem dn2(M:Nat)(E:t.kind∉[(1:Int),2])(h:ky M l t r):ax l t r:=dn1 (M+1) (λe=>E (by simp only[aak,List.not_mem_nil,or_false]at e⊢;omega)) (om M _ _ _ ⟨λe=>absurd (by simp[e]) E,λ_=>h⟩)
theorem dn3(M:Nat)(E:t.kind∉[(1:Int),2,3])(h:kJ M l t r):ax l t r:=dn2 (M+1) (λe=>E (by simp only[aak,List.not_mem_nil,or_false]at e⊢;omega)) (od M _ _ _ ⟨λe=>absurd (by simp[e]) E,λ_=>h⟩)
theorem dn4(M:Nat)(E:t.kind∉[(1:Int),2,3,4])(h:jW M l t r):ax l t r:=dn3 (M+1) (λe=>E (by simp only[aak,List.not_mem_nil,or_false]at e⊢;omega)) (oF M _ _ _ ⟨λe=>absurd (by simp[e]) E,λ_=>h⟩)
theorem dn5(M:Nat)(E:t.kind∉[(1:Int),2,3,4,5])(h:kG M l t r):ax l t r:=dn4 (M+1) (λe=>E (by simp only[aak,List.not_mem_nil,or_false]at e⊢;omega)) (oo M _ _ _ ⟨λe=>absurd (by simp[e]) E,λ_=>h⟩)
theorem dn6(M:Nat)(E:t.kind∉[(1:Int),2,3,4,5,6])(h:jG M l t r):ax l t r:=dn5 (M+1) (λe=>E (by simp only[aak,List.not_mem_nil,or_false]at e⊢;omega)) (oN M _ _ _ ⟨λe=>absurd (by simp[e]) E,λ_=>h⟩)
theorem dn7(M:Nat)(E:t.kind∉[(1:Int),2,3,4,5,6,7])(h:jE M l t r):ax l t r:=dn6 (M+1) (λe=>E (by simp only[aak,List.not_mem_nil,or_false]at e⊢;omega)) (nM M _ _ _ ⟨λe=>absurd (by simp[e]) E,λ_=>h⟩)
theorem dn8(M:Nat)(E:t.kind∉[(1:Int),2,3,4,5,6,7,13])(h:jx M l t r):ax l t r:=dn7 (M+1) (λe=>E (by simp only[aak,List.not_mem_nil,or_false]at e⊢;omega)) (nu M _ _ _ ⟨λe=>absurd (by simp[e]) E,λ_=>h⟩)
theorem dn9(M:Nat)(E:t.kind∉[(1:Int),2,3,4,5,6,7,13,14])(h:jF M l t r):ax l t r:=dn8 (M+1) (λe=>E (by simp only[aak,List.not_mem_nil,or_false]at e⊢;omega)) (nt M _ _ _ ⟨λe=>absurd (by simp[e]) E,λ_=>h⟩)
theorem QD(M:Nat)(E:t.kind∉[(1:Int),2,3,4,5,6,7,13,14,15])(h:jv M l t r):ax l t r:=dn9 (M+1) (λe=>E (by simp only[aak,List.not_mem_nil,or_false]at e⊢;omega)) (nF M _ _ _ ⟨λe=>absurd (by simp[e]) E,λ_=>h⟩)
theorem Ph(M:Nat)(E:t.kind∉[(1:Int),2,3,4,5,6,7,13,14,15,8])(h:jC M l t r):ax l t r:=QD (M+1) (λe=>E (by simp only[aak,List.not_mem_nil,or_false]at e⊢;omega)) (nA M _ _ _ ⟨λe=>absurd (by simp[e]) E,λ_=>h⟩)
theorem PW(M:Nat)(E:t.kind∉[(1:Int),2,3,4,5,6,7,13,14,15,8,16])(h:jy M l t r):ax l t r:=Ph (M+1) (λe=>E (by simp only[aak,List.not_mem_nil,or_false]at e⊢;omega)) (nJ M _ _ _ ⟨λe=>absurd (by simp[e]) E,λ_=>h⟩)
theorem QU(M:Nat)(E:t.kind∉[(1:Int),2,3,4,5,6,7,13,14,15,8,16,17])(h:jA M l t r):ax l t r:=PW (M+1) (λe=>E (by simp only[aak,List.not_mem_nil,or_false]at e⊢;omega)) (nn M _ _ _ ⟨λe=>absurd (by simp[e]) E,λ_=>h⟩)
theorem QE(M:Nat)(E:t.kind∉[(1:Int),2,3,4,5,6,7,13,14,15,8,16,17,18])(h:jL M l t r):ax l t r:=QU (M+1) (λe=>E (by simp only[aak,List.not_mem_nil,or_false]at e⊢;omega)) (ny M _ _ _ ⟨λe=>absurd (by simp[e]) E,λ_=>h⟩)
theorem Qw(M:Nat)(E:t.kind∉[(1:Int),2,3,4,5,6,7,13,14,15,8,16,17,18,19])(h:jt M l t r):ax l t r:=QE (M+1) (λe=>E (by simp only[aak,List.not_mem_nil,or_false]at e⊢;omega)) (nv M _ _ _ ⟨λe=>absurd (by simp[e]) E,λ_=>h⟩)
theorem QW(M:Nat)(E:t.kind∉[(1:Int),2,3,4,5,6,7,13,14,15,8,16,17,18,19,20])(h:jK M l t r):ax l t r:=Qw (M+1) (λe=>E (by simp only[aak,List.not_mem_nil,or_false]at e⊢;omega)) (nm M _ _ _ ⟨λe=>absurd (by simp[e]) E,λ_=>h⟩)
theorem QN(M:Nat)(E:t.kind∉[(1:Int),2,3,4,5,6,7,13,14,15,8,16,17,18,19,20,21])(h:jz M l t r):ax l t r:=QW (M+1) (λe=>E (by simp only[aak,List.not_mem_nil,or_false]at e⊢;omega)) (nr M _ _ _ ⟨λe=>absurd (by simp[e]) E,λ_=>h⟩)
theorem p_5(E:t.kind=5)(ht:tbulk t<=2000000):Pok t:=λl U=>by obtain⟨s1,g1,G,J⟩:=bj 0 ht;have O:=bH t;have M:=0;refine⟨l++[⟨s1,[73,110,116]⟩],?_,by simp;omega,λhq=>by simp only[bR,bB];exact⟨hq,⟨G,by decide⟩,bP⟩,by simp[dE,dp,E,J]⟩;exact dn4 (M+2) (by rw[E];decide) (oo (M+1) _ _ _ ⟨λ_=>⟨_,g1,by simp;omega,rfl⟩,λh=>absurd E h⟩)
theorem p_6(E:t.kind=6)(ht:tbulk t<=2000000):Pok t:=λl U=>by obtain⟨s1,g1,G,J⟩:=bj 0 ht;have O:=bH t;have M:=0;refine⟨l++[⟨s1,[84,101,120,116]⟩],?_,by simp;omega,λhq=>by simp only[bR,bB];exact⟨hq,⟨G,by decide⟩,bP⟩,by simp[dE,dp,E,J]⟩;exact dn5 (M+2) (by rw[E];decide) (oN (M+1) _ _ _ ⟨λ_=>⟨_,g1,by simp;omega,rfl⟩,λh=>absurd E h⟩)
theorem p_7(E:t.kind=7)(ht:tbulk t<=2000000):Pok t:=λl U=>by obtain⟨s1,g1,G,J⟩:=bj 0 ht;have O:=bH t;have M:=0;refine⟨l++[⟨s1,[66,111,111,108]⟩],?_,by simp;omega,λhq=>by simp only[bR,bB];exact⟨hq,⟨G,by decide⟩,bP⟩,by simp[dE,dp,E,J]⟩;exact dn6 (M+2) (by rw[E];decide) (nM (M+1) _ _ _ ⟨λ_=>⟨_,g1,by simp;omega,rfl⟩,λh=>absurd E h⟩)
theorem RU(E:t.kind=13)(ht:tbulk t<=2000000):Pok t:=λl U=>by obtain⟨s1,g1,G,J⟩:=bj 0 ht;have O:=bH t;have M:=0;refine⟨l++[⟨s1,[116,114,117,101]⟩],?_,by simp;omega,λhq=>by simp only[bR,bB];exact⟨hq,⟨G,by decide⟩,bP⟩,by simp[dE,dp,E,J]⟩;exact dn7 (M+2) (by rw[E];decide) (nu (M+1) _ _ _ ⟨λ_=>⟨_,g1,by simp;omega,rfl⟩,λh=>absurd E h⟩)
theorem RW(E:t.kind=14)(ht:tbulk t<=2000000):Pok t:=λl U=>by obtain⟨s1,g1,G,J⟩:=bj 0 ht;have O:=bH t;have M:=0;refine⟨l++[⟨s1,[102,97,108,115,101]⟩],?_,by simp;omega,λhq=>by simp only[bR,bB];exact⟨hq,⟨G,by decide⟩,bP⟩,by simp[dE,dp,E,J]⟩;exact dn8 (M+2) (by rw[E];decide) (nt (M+1) _ _ _ ⟨λ_=>⟨_,g1,by simp;omega,rfl⟩,λh=>absurd E h⟩)
theorem Sp(E:t.kind=15)(ht:tbulk t<=2000000):Pok t:=λl U=>by obtain⟨s1,g1,G,J⟩:=bj 0 ht;have O:=bH t;have M:=0;refine⟨l++[⟨s1,[63]⟩],?_,by simp;omega,λhq=>by simp only[bR,bB];exact⟨hq,⟨G,by decide⟩,bP⟩,by simp[dE,dp,E,J]⟩;exact dn9 (M+2) (by rw[E];decide) (nF (M+1) _ _ _ ⟨λ_=>⟨_,g1,by simp;omega,rfl⟩,λh=>absurd E h⟩)
theorem vX{l:YT}(E:l[0]?=some u):tbulk u<=kbulk l:=bX E
theorem BW{l:YT}{v:Tree}(E:l[0]?=some u)(h1:l[1]?=some v):tbulk u+tbulk v<=kbulk l:=by
 match l,E,h1 with
 |a::r,E,h1=>simp at E;subst E;have :=bX (ks:=r) (i:=0) (by simpa using h1);simp only[kbulk];omega
theorem OS{l:YT}{v x:Tree}(E:l[0]?=some u)(h1:l[1]?=some v)(h2:l[2]?=some x):tbulk u+tbulk v+tbulk x<=kbulk l:=by
 match l,E,h1,h2 with
 |a::r,E,h1,h2=>simp at E;subst E;have :=BW (l:=r) (by simpa using h1) (by simpa using h2);simp only[kbulk];omega
theorem p_3(G:t.kind=3)(hs:shapeK t=true)(ht:tbulk t<=2000000)(ih:∀(i:Nat) (u:Tree),t.kids[i]?=some u->Pok u):Pok t:=λl hl=>by
 have Z:=bH t;have htx:=cN t;have hn:=ey hs;have M:=0;have hkn:t.kids.length=1:=hn.2.2.1 (by simp[G]);obtain⟨u0,E,_⟩|h':=aQ t.kids 0
 rotate_left
 ·omega
 have J:tbulk u0+1<=tbulk t:=by have hb:=bt t;have hx:=vX E;omega
 obtain⟨s1,g1,b1,x1⟩:=bj 0 ht;obtain⟨O,g2,b2,x2⟩:=bj 1 ht;obtain⟨U,g3,b3,x3⟩:=bj 2 ht;have q1:Qp l->Qp (l++[⟨s1,[116,121,112,101]⟩,⟨O,t.text⟩,⟨U,[61]⟩]):=λhq=>by simp only[bR,bB];exact⟨hq,⟨b1,by decide⟩,⟨b2,by omega⟩,⟨b3,by decide⟩,bP⟩
 obtain⟨r0,e0,z0,y0,m0⟩:=ih 0 u0 E (l++[⟨s1,[116,121,112,101]⟩,⟨O,t.text⟩,⟨U,[61]⟩]) (by first|omega|(simp only[aac,aad,aae];omega))
 try simp only[aac,aad,aae]at z0
 refine⟨r0,?_,by first|omega|(simp only[aac,aad,aae];omega),λhq=>(y0<|q1 hq),by simp[dE,dp,G,m0,x1,x2,x3,eE E]⟩;exact dn2 (M+2) (by rw[G];decide) (od (M+1) _ _ _ ⟨λ_=>uX (M) _ _ _ ⟨_,g1,_,g2,_,g3,by simp;omega,u0,E,_,e0,rfl⟩,λh=>absurd G h⟩)
theorem p_4(G:t.kind=4)(hs:shapeK t=true)(ht:tbulk t<=2000000)(ih:∀(i:Nat) (u:Tree),t.kids[i]?=some u->Pok u):Pok t:=λl hl=>by
 have U:=bH t;have Z:=cN t;have hn:=ey hs;have M:=0;have hkn:t.kids.length=1:=hn.2.2.1 (by simp[G]);obtain⟨u0,E,_⟩|h':=aQ t.kids 0
 rotate_left
 ·omega
 have J:tbulk u0+1<=tbulk t:=by have hb:=bt t;have hx:=vX E;omega
 obtain⟨s1,g1,b1,x1⟩:=bj 0 ht;obtain⟨O,g2,b2,x2⟩:=bj 1 ht;have q1:Qp l->Qp (l++[⟨s1,t.text⟩,⟨O,[58]⟩]):=λhq=>by simp only[bR,bB];exact⟨hq,⟨b1,by omega⟩,⟨b2,by decide⟩,bP⟩
 obtain⟨r0,e0,z0,y0,m0⟩:=ih 0 u0 E (l++[⟨s1,t.text⟩,⟨O,[58]⟩]) (by first|omega|(simp only[aac,aad,aae];omega))
 try simp only[aac,aad,aae]at z0
 refine⟨r0,?_,by first|omega|(simp only[aac,aad,aae];omega),λhq=>(y0<|q1 hq),by simp[dE,dp,G,m0,x1,x2,eE E]⟩;exact dn3 (M+2) (by rw[G];decide) (oF (M+1) _ _ _ ⟨λ_=>uP (M) _ _ _ ⟨_,g1,_,g2,by simp;omega,u0,E,_,e0,rfl⟩,λh=>absurd G h⟩)
theorem p_8(G:t.kind=8)(hs:shapeK t=true)(ht:tbulk t<=2000000)(ih:∀(i:Nat) (u:Tree),t.kids[i]?=some u->Pok u):Pok t:=λl hl=>by
 have Z:=bH t;have htx:=cN t;have hn:=ey hs;have M:=0;have hkn:t.kids.length=1:=hn.2.2.1 (by simp[G]);obtain⟨u0,E,_⟩|h':=aQ t.kids 0
 rotate_left
 ·omega
 have O:tbulk u0+1<=tbulk t:=by have hb:=bt t;have hx:=vX E;omega
 obtain⟨s1,g1,b1,x1⟩:=bj 0 ht;have q1:Qp l->Qp (l++[⟨s1,[91]⟩]):=λhq=>by simp only[bR,bB];exact⟨hq,⟨b1,by decide⟩,bP⟩
 obtain⟨J,e0,z0,y0,m0⟩:=ih 0 u0 E (l++[⟨s1,[91]⟩]) (by first|omega|(simp only[aac,aad,aae];omega))
 try simp only[aac,aad,aae]at z0
 obtain⟨U,g2,b2,x2⟩:=bj 1 ht;have q3:Qp J->Qp (J++[⟨U,[93]⟩]):=λhq=>by simp only[bR,bB];exact⟨hq,⟨b2,by decide⟩,bP⟩
 refine⟨(J++[⟨U,[93]⟩]),?_,by first|omega|(simp only[aac,aad,aae];omega),λhq=>(q3<|y0<|q1 hq),by simp[dE,dp,G,m0,x1,x2,eE E]⟩;exact QD (M+2) (by rw[G];decide) (nA (M+1) _ _ _ ⟨λ_=>tX (M) _ _ _ ⟨_,g1,by simp;omega,u0,E,_,e0,_,g2,by simp;omega,rfl⟩,λh=>absurd G h⟩)
theorem Su(G:t.kind=17)(hs:shapeK t=true)(ht:tbulk t<=2000000)(ih:∀(i:Nat) (u:Tree),t.kids[i]?=some u->Pok u):Pok t:=λl hl=>by
 have O:=bH t;have U:=cN t;have hn:=ey hs;have M:=0;have Z:t.kids.length=1:=hn.2.2.1 (by simp[G]);obtain⟨u0,E,_⟩|h':=aQ t.kids 0
 rotate_left
 ·omega
 have J:tbulk u0+1<=tbulk t:=by have hb:=bt t;have hx:=vX E;omega
 obtain⟨r0,e0,z0,y0,m0⟩:=ih 0 u0 E l (by first|omega|(simp only[aac,aad,aae];omega))
 try simp only[aac,aad,aae]at z0
 refine⟨r0,?_,by first|omega|(simp only[aac,aad,aae];omega),λhq=>(y0 hq),by simp[dE,dp,G,m0,eE E]⟩;exact PW (M+2) (by rw[G];decide)<|nn (M+1) _ _ _ ⟨λ_=>⟨u0,E,_,e0,rfl⟩,λh=>absurd G h⟩
theorem RT(O:t.kind=19)(hs:shapeK t=true)(ht:tbulk t<=2000000)(ih:∀(i:Nat) (u:Tree),t.kids[i]?=some u->Pok u):Pok t:=λl hl=>by
 have htp:=bH t;have htx:=cN t;have hn:=ey hs;have M:=0;have hkn:t.kids.length=3:=hn.2.2.2.1 O;obtain⟨u0,E,_⟩|h':=aQ t.kids 0
 rotate_left
 ·omega
 obtain⟨u1,G,_⟩|h':=aQ t.kids 1
 rotate_left
 ·omega
 obtain⟨u2,J,_⟩|h':=aQ t.kids 2
 rotate_left
 ·omega
 have hsum:tbulk u0+tbulk u1+tbulk u2+1<=tbulk t:=by have hb:=bt t;have hx:=OS E G J;omega
 obtain⟨s1,g1,b1,x1⟩:=bj 0 ht;have q1:Qp l->Qp (l++[⟨s1,[105,102]⟩]):=λhq=>by simp only[bR,bB];exact⟨hq,⟨b1,by decide⟩,bP⟩
 obtain⟨U,e0,z0,y0,m0⟩:=ih 0 u0 E (l++[⟨s1,[105,102]⟩]) (by first|omega|(simp only[aac,aad,aae];omega))
 try simp only[aac,aad,aae]at z0
 obtain⟨s2,g2,b2,x2⟩:=bj 1 ht;have q3:Qp U->Qp (U++[⟨s2,[116,104,101,110]⟩]):=λhq=>by simp only[bR,bB];exact⟨hq,⟨b2,by decide⟩,bP⟩
 obtain⟨Z,e1,z1,y1,m1⟩:=ih 1 u1 G (U++[⟨s2,[116,104,101,110]⟩]) (by first|omega|(simp only[aac,aad,aae];omega))
 try simp only[aac,aad,aae]at z1
 obtain⟨s3,g3,b3,x3⟩:=bj 2 ht;have q5:Qp Z->Qp (Z++[⟨s3,[101,108,115,101]⟩]):=λhq=>by simp only[bR,bB];exact⟨hq,⟨b3,by decide⟩,bP⟩
 obtain⟨r2,e2,z2,y2,m2⟩:=ih 2 u2 J (Z++[⟨s3,[101,108,115,101]⟩]) (by first|omega|(simp only[aac,aad,aae];omega))
 try simp only[aac,aad,aae]at z2
 refine⟨r2,?_,by first|omega|(simp only[aac,aad,aae];omega),λhq=>(y2<|q5<|y1<|q3<|y0<|q1 hq),by simp[dE,dp,O,m0,m1,m2,x1,x2,x3,eE E,eE G,eE J]⟩;exact QE (M+2) (by rw[O];decide) (nv (M+1) _ _ _ ⟨λ_=>tS (M) _ _ _ ⟨u0,E,_,g1,by simp;omega,_,e0,u1,G,_,g2,by simp;omega,_,e1,u2,J,_,g3,by simp;omega,_,e2,rfl⟩,λh=>absurd O h⟩)
theorem RZ(J:t.kind=20)(hs:shapeK t=true)(ht:tbulk t<=2000000)(ih:∀(i:Nat) (u:Tree),t.kids[i]?=some u->Pok u):Pok t:=λl hl=>by
 have htp:=bH t;have htx:=cN t;have hn:=ey hs;have M:=0;have hkn:t.kids.length=2:=hn.2.2.2.2 (by simp[J]);obtain⟨u0,E,_⟩|h':=aQ t.kids 0
 rotate_left
 ·omega
 obtain⟨u1,G,_⟩|h':=aQ t.kids 1
 rotate_left
 ·omega
 have U:tbulk u0+tbulk u1+1<=tbulk t:=by have hb:=bt t;have hx:=BW E G;omega
 obtain⟨s1,g1,b1,x1⟩:=bj 0 ht;obtain⟨Z,g2,b2,x2⟩:=bj 1 ht;obtain⟨s3,g3,b3,x3⟩:=bj 2 ht;have q1:Qp l->Qp (l++[⟨s1,[108,101,116]⟩,⟨Z,t.text⟩,⟨s3,[61]⟩]):=λhq=>by simp only[bR,bB];exact⟨hq,⟨b1,by decide⟩,⟨b2,by omega⟩,⟨b3,by decide⟩,bP⟩
 obtain⟨O,e0,z0,y0,m0⟩:=ih 0 u0 E (l++[⟨s1,[108,101,116]⟩,⟨Z,t.text⟩,⟨s3,[61]⟩]) (by first|omega|(simp only[aac,aad,aae];omega))
 try simp only[aac,aad,aae]at z0
 obtain⟨s4,g4,b4,x4⟩:=bj 3 ht;have q3:Qp O->Qp (O++[⟨s4,[105,110]⟩]):=λhq=>by simp only[bR,bB];exact⟨hq,⟨b4,by decide⟩,bP⟩
 obtain⟨r1,e1,z1,y1,m1⟩:=ih 1 u1 G (O++[⟨s4,[105,110]⟩]) (by first|omega|(simp only[aac,aad,aae];omega))
 try simp only[aac,aad,aae]at z1
 refine⟨r1,?_,by first|omega|(simp only[aac,aad,aae];omega),λhq=>(y1<|q3<|y0<|q1 hq),by simp[dE,dp,J,m0,m1,x1,x2,x3,x4,eE E,eE G]⟩;exact Qw (M+2) (by rw[J];decide) (nm (M+1) _ _ _ ⟨λ_=>ug (M) _ _ _ ⟨_,g1,_,g2,_,g3,by simp;omega,u0,E,_,e0,_,g4,by simp;omega,u1,G,_,e1,rfl⟩,λh=>absurd J h⟩)
theorem Ss(J:t.kind=21)(hs:shapeK t=true)(ht:tbulk t<=2000000)(ih:∀(i:Nat) (u:Tree),t.kids[i]?=some u->Pok u):Pok t:=λl hl=>by
 have Z:=bH t;have htx:=cN t;have hn:=ey hs;have M:=0;have hkn:t.kids.length=2:=hn.2.2.2.2 (by simp[J]);obtain⟨u0,E,_⟩|h':=aQ t.kids 0
 rotate_left
 ·omega
 obtain⟨u1,G,_⟩|h':=aQ t.kids 1
 rotate_left
 ·omega
 have U:tbulk u0+tbulk u1+1<=tbulk t:=by have hb:=bt t;have hx:=BW E G;omega
 obtain⟨O,e0,z0,y0,m0⟩:=ih 0 u0 E l (by first|omega|(simp only[aac,aad,aae];omega))
 try simp only[aac,aad,aae]at z0
 obtain⟨s1,g1,b1,x1⟩:=bj 0 ht;have q2:Qp O->Qp (O++[⟨s1,t.text⟩]):=λhq=>by simp only[bR,bB];exact⟨hq,⟨b1,by omega⟩,bP⟩
 obtain⟨r1,e1,z1,y1,m1⟩:=ih 1 u1 G (O++[⟨s1,t.text⟩]) (by first|omega|(simp only[aac,aad,aae];omega))
 try simp only[aac,aad,aae]at z1
 refine⟨r1,?_,by first|omega|(simp only[aac,aad,aae];omega),λhq=>(y1<|q2<|y0 hq),by simp[dE,dp,J,m0,m1,x1,eE E,eE G]⟩;exact QW (M+2) (by rw[J];decide) (nr (M+1) _ _ _ ⟨λ_=>tU (M) _ _ _ ⟨u0,E,_,e0,_,g1,by simp;omega,u1,G,_,e1,rfl⟩,λh=>absurd J h⟩)
theorem Sm(G:t.kind=22)(hs:shapeK t=true)(ht:tbulk t<=2000000)(ih:∀(i:Nat) (u:Tree),t.kids[i]?=some u->Pok u):Pok t:=λl hl=>by
 have Z:=bH t;have htx:=cN t;have hn:=ey hs;have M:=0;have hkn:t.kids.length=1:=hn.2.2.1 (by simp[G]);obtain⟨u0,E,_⟩|h':=aQ t.kids 0
 rotate_left
 ·omega
 have O:tbulk u0+1<=tbulk t:=by have hb:=bt t;have hx:=vX E;omega
 obtain⟨s1,g1,b1,x1⟩:=bj 0 ht;have q1:Qp l->Qp (l++[⟨s1,[40]⟩]):=λhq=>by simp only[bR,bB];exact⟨hq,⟨b1,by decide⟩,bP⟩
 obtain⟨J,e0,z0,y0,m0⟩:=ih 0 u0 E (l++[⟨s1,[40]⟩]) (by first|omega|(simp only[aac,aad,aae];omega))
 try simp only[aac,aad,aae]at z0
 obtain⟨U,g2,b2,x2⟩:=bj 1 ht;have q3:Qp J->Qp (J++[⟨U,[41]⟩]):=λhq=>by simp only[bR,bB];exact⟨hq,⟨b2,by decide⟩,bP⟩
 refine⟨(J++[⟨U,[41]⟩]),?_,by first|omega|(simp only[aac,aad,aae];omega),λhq=>(q3<|y0<|q1 hq),by simp[dE,dp,G,m0,x1,x2,eE E]⟩;exact QN (M+2) (by rw[G];decide) (nq (M+1) _ _ _ ⟨λ_=>tV (M) _ _ _ ⟨_,g1,by simp;omega,u0,E,_,e0,_,g2,by simp;omega,rfl⟩,λh=>absurd G h⟩)
theorem Qq(hn:∀c:Int,c∈[(1:Int),2,3,4,5,6,7,13,14,15,8,16,17,18,19,20,21,22]->t.kind≠c)(ht:tbulk t<=2000000):Pok t:=λl hl=>by
 obtain⟨s1,g1,O,U⟩:=bj 0 ht;have Z:=bH t;have htx:=cN t;have M:=0;refine⟨l++[⟨s1,t.text⟩],?_,by simp;omega,λhq=>by simp only[bR,bB];exact⟨hq,⟨O,by omega⟩,bP⟩,by have h1:=hn 1 (by decide);have h2:=hn 2 (by decide);have h3:=hn 3 (by decide);have h4:=hn 4 (by decide);have h5:=hn 17 (by decide);have h6:=hn 8 (by decide);have h7:=hn 16 (by decide);have h8:=hn 18 (by decide);have h9:=hn 19 (by decide);have E:=hn 20 (by decide);have G:=hn 21 (by decide);have J:=hn 22 (by decide);have k1:=hn 5 (by decide);have k2:=hn 6 (by decide);have k3:=hn 7 (by decide);have k4:=hn 13 (by decide);have k5:=hn 14 (by decide);have k6:=hn 15 (by decide);simp[dE,dp,h1,h2,h3,h4,h5,h6,h7,h8,h9,E,G,J,k1,k2,k3,k4,k5,k6,U]⟩;exact QN (M+2) (λe=>hn t.kind (by simp only[aak,List.not_mem_nil,or_false]at e⊢;omega) rfl) (nq (M+1) _ _ _ ⟨λh=>absurd h (hn 22<|by decide),λ_=>⟨_,g1,by simp;omega,rfl⟩⟩)
theorem In(ht:tbulk t<=2000000)(ih:∀(i:Nat) (u:Tree),t.kids[i]?=some u->Pok u)(n comma:Nat)(hn:n<=t.kids.length)(hc:comma<=10):∀l,l.length+8*kbulk (t.kids.take n)<=899999999->∃r,eP l t 0 (n:Int) (comma:Int) r∧r.length<=l.length+8*kbulk (t.kids.take n)∧(Qp l->Qp r)∧r=l++eG t.leads comma (pcTs<|t.kids.take n) 0:=by
 have hk:=cb t;have loop:∀k i l,n-i<=k->i<=n->l.length+8*kbulk ((t.kids.take n).drop i)<=899999999->∃r,fN (k+1) t 0 (n:Int) (comma:Int) l (i:Int) r∧r.length<=l.length+8*kbulk ((t.kids.take n).drop i)∧(Qp l->Qp r)∧r=l++eG t.leads comma (pcTs<|(t.kids.take n).drop i) i:=λk=>by
  induction k with
  |zero=>
   intro i l hi hle hl;exact⟨l,iI 0 _ _ _ _ _ _ _ ⟨λh=>by omega,λ_=>rfl⟩,by omega,λh=>h,by rw[List.drop_of_length_le (by simp;omega)];simp[pcTs,eG]⟩
  | succ k ihk=>
   intro i l hi hle hl;by_cases hin:i<n
   ·obtain⟨u,hu,hul⟩|h':=aQ t.kids i
    ·have hu':(t.kids.take n)[i]?=some u:=by rw[List.getElem?_take,if_pos hin];exact hu
     have hd:=bc hu';rw[hd,kbulk]at hl⊢;have hup:=bH u;by_cases h0:0<i
     ·obtain⟨s,g,b,x⟩:=bj (t:=t) (comma+i-1) ht;have g':av t ((((comma:Int)+(i:Int))-0)-1) s:=by rw[show(((comma:Int)+(i:Int))-0)-1=((comma+i-1:Nat):Int) by omega];exact g
      obtain⟨r,e,z,y,m⟩:=ih i u hu (l++[⟨s,[44]⟩]) (by simp;omega);simp only[aac,aad,aae]at z;obtain⟨r2,e2,z2,y2,m2⟩:=ihk (i+1) r (by omega) (by omega) (by omega);refine⟨r2,iI (k+1) _ _ _ _ _ _ _ ⟨λ_=>⟨λ_=>⟨by omega,by omega,by omega,s,g',by simp;omega,i,rfl,u,hu,r,e,by omega,?_⟩,λh=>by omega⟩,λh=>by omega⟩,by omega,λhq=>y2 (y (by simp only[bR,bB];exact⟨hq,⟨b,by decide⟩,bP⟩)),by simp[pcTs,eG,h0,m2,m,x]⟩;exact e2
     ·obtain⟨r,e,z,y,m⟩:=ih i u hu l (by omega);obtain⟨r2,e2,z2,y2,m2⟩:=ihk (i+1) r (by omega) (by omega) (by omega);refine⟨r2,iI (k+1) _ _ _ _ _ _ _ ⟨λ_=>⟨λh=>by omega,λ_=>⟨i,rfl,u,hu,r,e,by omega,e2⟩⟩,λh=>by omega⟩,by omega,λhq=>y2<|y hq,by simp[pcTs,eG,h0,m2,m]⟩
    ·omega
   ·exact⟨l,iI (k+1) _ _ _ _ _ _ _ ⟨λh=>by omega,λ_=>rfl⟩,by omega,λh=>h,by rw[List.drop_of_length_le (by simp;omega)];simp[pcTs,eG]⟩
 intro l hl;have h1:kbulk (t.kids.take n)<=kbulk t.kids:=by
  have :∀(l:YT) n,kbulk (l.take n)<=kbulk l:=λl=>by
   induction l with
   |nil=>intro n;simp
   |cons a r ih=>intro n;cases n with
    |zero=>simp[kbulk]
    |succ n=>have :=ih n;simp only[List.take_succ_cons,kbulk];omega
  exact this _ _
 have h2:=bt t;obtain⟨r,e,z,y,m⟩:=loop n 0 l (by omega) (by omega) (by simpa using hl);exact⟨r,yl (n+1) _ _ _ _ _ _ e,by simpa using z,y,by simpa using m⟩
theorem zN(l:YT)(n:Nat):kbulk (l.take n)+kbulk (l.drop n)=kbulk l:=by rw[<-fT,List.take_append_drop]
theorem Sf(E:t.kind=16)(hs:shapeK t=true)(ht:tbulk t<=2000000)(ih:∀(i:Nat) (u:Tree),t.kids[i]?=some u->Pok u):Pok t:=λl hl=>by
 have hb:=bt t;have G:=cN t;have M:=0;obtain⟨s1,g1,J,O⟩:=bj 0 ht;obtain⟨U,g2,Z,x2⟩:=bj 1 ht;obtain⟨r,e,z,y,m⟩:=In ht ih t.kids.length 3 (aaf _) (by decide) (l++[⟨s1,t.text⟩,⟨U,[40]⟩]) (by simp only[aac,aad,aae,List.take_length];omega);simp only[aac,aad,aae,List.take_length]at z;obtain⟨s9,g9,b9,x9⟩:=bj 2 ht;refine⟨r++[⟨s9,[41]⟩],?_,by simp only[aac,aad,aae];omega,λhq=>by have :=y (by simp only[bR,bB];exact⟨hq,⟨J,by omega⟩,⟨Z,by decide⟩,bP⟩);simp only[bR,bB];exact⟨this,⟨b9,by decide⟩,bP⟩,by simp[dE,dp,E,m,x9,O,x2]⟩
 exact Ph (M+2) (by rw[E];decide) (nJ (M+1) _ _ _ ⟨λ_=>tP (M) _ _ _ ⟨_,g1,_,g2,by simp only[aac,aad,aae];omega,_,e,_,g9,by simp only[aac,aad,aae];omega,rfl⟩,λh=>absurd E h⟩)
theorem Sv(E:t.kind=18)(hs:shapeK t=true)(ht:tbulk t<=2000000)(ih:∀(i:Nat) (u:Tree),t.kids[i]?=some u->Pok u):Pok t:=λl hl=>by
 have hb:=bt t;have G:=cN t;have M:=0;obtain⟨s1,g1,J,O⟩:=bj 0 ht;obtain⟨r,e,z,y,m⟩:=In ht ih t.kids.length 2 (aaf _) (by decide) (l++[⟨s1,[91]⟩]) (by simp only[aac,aad,aae,List.take_length];omega);simp only[aac,aad,aae,List.take_length]at z;obtain⟨U,Z,b9,x9⟩:=bj 1 ht;refine⟨r++[⟨U,[93]⟩],?_,by simp only[aac,aad,aae];omega,λhq=>by have :=y (by simp only[bR,bB];exact⟨hq,⟨J,by decide⟩,bP⟩);simp only[bR,bB];exact⟨this,⟨b9,by decide⟩,bP⟩,by simp[dE,dp,E,m,x9,O]⟩
 exact QU (M+2) (by rw[E];decide) (ny (M+1) _ _ _ ⟨λ_=>tY (M) _ _ _ ⟨_,g1,by simp only[aac,aad,aae];omega,_,e,_,Z,by simp only[aac,aad,aae];omega,rfl⟩,λh=>absurd E h⟩)
theorem p_2(E:t.kind=2)(hs:shapeK t=true)(ht:tbulk t<=2000000)(ih:∀(i:Nat) (u:Tree),t.kids[i]?=some u->Pok u):Pok t:=λl hl=>by
 have hb:=bt t;have htx:=cN t;have hn:=(ey hs).1 E;have hkl:=cb t;have M:=0;obtain⟨s1,g1,b1,x1⟩:=bj 0 ht;obtain⟨Z,g2,b2,x2⟩:=bj 1 ht;obtain⟨s3,g3,b3,x3⟩:=bj 2 ht;obtain⟨s4,g4,b4,x4⟩:=bj 3 ht;obtain⟨s5,g5,b5,x5⟩:=bj 4 ht;obtain⟨s6,g6,b6,x6⟩:=bj 5 ht;obtain⟨r,e,z,y,m⟩:=In ht ih (t.kids.length-2) 6 (by omega) (by decide) (l++[⟨s1,[100,101,102]⟩,⟨Z,t.text⟩,⟨s3,[40]⟩]) (by have :=zN t.kids<|t.kids.length-2;simp only[aac,aad,aae];omega);simp only[aac,aad,aae]at z;obtain⟨u,G,_⟩|h':=aQ t.kids<|t.kids.length-2
 rotate_left
 ·omega
 obtain⟨v,hv,_⟩|h':=aQ t.kids<|t.kids.length-1
 rotate_left
 ·omega
 have J:=zN t.kids<|t.kids.length-2;have O:=bc G;have U:t.kids.drop (t.kids.length-2+1)=v::t.kids.drop (t.kids.length-1+1):=by rw[show t.kids.length-2+1=t.kids.length-1 by omega];exact bc hv
 rw[O,kbulk,U,kbulk]at J;have hup:=bH u;have hvp:=bH v;have e':eP (l++[⟨s1,[100,101,102]⟩,⟨Z,t.text⟩,⟨s3,[40]⟩]) t 0 (((t.kids.length:Nat):Int)-2) 6 r:=by rw[show((t.kids.length:Nat):Int)-2=((t.kids.length-2:Nat):Int) by omega];exact e
 obtain⟨r1,e1,z1,y1,m1⟩:=ih _ u G (r++[⟨s4,[41]⟩,⟨s5,[58]⟩]) (by simp only[aac,aad,aae];omega);simp only[aac,aad,aae]at z1;obtain⟨r2,e2,z2,y2,m2⟩:=ih _ v hv (r1++[⟨s6,[61]⟩]) (by simp only[aac,aad,aae];omega);simp only[aac,aad,aae]at z2;refine⟨r2,?_,by omega,λhq=>?_,by simp[dE,dp,E,m,m1,m2,x1,x2,x3,x4,x5,x6,eE G,eE hv,Lh,MY]⟩
 ·exact dn1 (M+2) (by rw[E];decide) (om (M+1) _ _ _ ⟨λ_=>vd (M) _ _ _ ⟨_,g1,_,g2,_,g3,by simp only[aac,aad,aae];omega,by omega,r,e',_,g4,_,g5,by simp only[aac,aad,aae];omega,by omega,t.kids.length-2,by omega,u,G,r1,e1,_,g6,by simp only[aac,aad,aae];omega,by omega,t.kids.length-1,by omega,v,hv,r2,e2,rfl⟩,λh=>absurd E h⟩)
 ·have q1:=y (by simp only[bR,bB];exact⟨hq,⟨b1,by decide⟩,⟨b2,by omega⟩,⟨b3,by decide⟩,bP⟩);have q2:=y1 (by simp only[bR,bB];exact⟨q1,⟨b4,by decide⟩,⟨b5,by decide⟩,bP⟩);exact y2 (by simp only[bR,bB];exact⟨q2,⟨b6,by decide⟩,bP⟩)
theorem p_1(hk:t.kind=1)(hs:shapeK t=true)(ht:tbulk t<=2000000)(ih:∀(i:Nat) (u:Tree),t.kids[i]?=some u->Pok u):Pok t:=λl hl=>by
 have hb:=bt t;have htx:=cN t;have hkl:=cb t;obtain⟨s1,g1,b1,x1⟩:=bj 0 ht;obtain⟨s2,g2,b2,x2⟩:=bj 1 ht;obtain⟨s3,g3,b3,x3⟩:=bj 2 ht;have loop:∀k i l,t.kids.length-i<=k->l.length+8*kbulk (t.kids.drop i)<=899999996->∃r,en (k+1) t l i r∧r.length<=l.length+8*kbulk (t.kids.drop i)+1∧(Qp l->Qp r)∧r=l++((pcTs<|t.kids.drop i).flatten++[⟨t.leads.getD 2 [],[]⟩]):=λk=>by
  have last:∀k i l,¬i<t.kids.length->l.length<=899999996->∃r,en (k+1) t l i r∧r.length<=l.length+8*kbulk (t.kids.drop i)+1∧(Qp l->Qp r)∧r=l++((pcTs<|t.kids.drop i).flatten++[⟨t.leads.getD 2 [],[]⟩]):=λk i l hi hl=>by
   refine⟨l++[⟨s3,[]⟩],ox k _ _ _ _ ⟨λh=>absurd h hi,λ_=>⟨s3,g3,by simp only[aac,aad,aae];omega,rfl⟩⟩,by simp only[aac,aad,aae];omega,λhq=>by simp only[bR,bB];exact⟨hq,⟨b3,by decide⟩,bP⟩,by rw[List.drop_of_length_le<|by omega];simp[pcTs,x3]⟩
  induction k with
  |zero=>intro i l hi hl;exact last 0 i l (by omega) (by omega)
  | succ k ihk=>
   intro i l hi hl;obtain⟨u,hu,hul⟩|h':=aQ t.kids i
   ·have hd:=bc hu;rw[hd,kbulk]at hl⊢;obtain⟨r,e,z,y,m⟩:=ih i u hu l (by omega);obtain⟨r2,e2,z2,y2,m2⟩:=ihk (i+1) r (by omega) (by omega);exact⟨r2,ox (k+1) _ _ _ _ ⟨λ_=>⟨u,hu,r,e,by omega,e2⟩,λh=>absurd hul h⟩,by omega,λhq=>y2<|y hq,by simp[pcTs,m2,m]⟩
   ·exact last (k+1) i l h' (by omega)
 obtain⟨r,e,z,y,m⟩:=loop t.kids.length 0 (l++[⟨s1,[109,111,100,117,108,101]⟩,⟨s2,t.text⟩]) (by omega) (by simp only[aac,aad,aae,List.drop_zero];omega);simp only[aac,aad,aae,List.drop_zero]at z;refine⟨r,pw (t.kids.length+2) _ _ _ ⟨λ_=>uL (t.kids.length+1) _ _ _ ⟨_,g1,_,g2,by simp only[aac,aad,aae];omega,e⟩,λh=>absurd hk h⟩,by omega,λhq=>y (by simp only[bR,bB];exact⟨hq,⟨b1,by decide⟩,⟨b2,by omega⟩,bP⟩),by simp[dE,dp,hk,m,x1,x2]⟩
theorem Fx:∀t:Tree,tbulk t<=2000000->shapeK t=true->Pok t:=cP λt ih ht hs=>by
 have ih':∀(i:Nat) (u:Tree),t.kids[i]?=some u->Pok u:=λi u G=>ih i u G (by have :=cm G;omega) (kP hs G).1;by_cases h:∃c∈[(1:Int),2,3,4,5,6,7,13,14,15,8,16,17,18,19,20,21,22],t.kind=c
 ·obtain⟨c,E,e⟩:=h;simp only[aak,List.not_mem_nil,or_false]at E;rcases E with rfl|rfl|rfl|rfl|rfl|rfl|rfl|rfl|rfl|rfl|rfl|rfl|rfl|rfl|rfl|rfl|rfl|rfl
  ·exact p_1 e hs ht ih'
  ·exact p_2 e hs ht ih'
  ·exact p_3 e hs ht ih'
  ·exact p_4 e hs ht ih'
  ·exact p_5 e ht
  ·exact p_6 e ht
  ·exact p_7 e ht
  ·exact RU e ht
  ·exact RW e ht
  ·exact Sp e ht
  ·exact p_8 e hs ht ih'
  ·exact Sf e hs ht ih'
  ·exact Su e hs ht ih'
  ·exact Sv e hs ht ih'
  ·exact RT e hs ht ih'
  ·exact RZ e hs ht ih'
  ·exact Ss e hs ht ih'
  ·exact Sm e hs ht ih'
 ·exact Qq (λc E e=>h ⟨c,E,e⟩) ht
open Go.RowKit
set_option maxRecDepth 100000
set_option maxHeartbeats 4000000
def vK(k n:Int):Int:=
 if k=1 then(if n<0 then-1 else 3)
 else if k=2 then(if n<2 then-1 else if 2<n then 6+(n-3)else 6)
 else if k=16 then(if n<0 then-1 else if 0<n then 3+(n-1)else 3)
 else if k=18 then(if n<1 then-1 else 2+(n-1))
 else if k=3 then(if n=1 then 3 else-1)
 else if k=4∨k=8∨k=22 then(if n=1 then 2 else-1)
 else if k=17 then(if n=1 then 0 else-1)
 else if k=19 then(if n=3 then 3 else-1)
 else if k=20 then(if n=2 then 4 else-1)
 else if k=21 then(if n=2 then 1 else-1)
 else if k=5∨k=6∨k=7∨k=9∨k=10∨k=11∨k=12∨k=13∨k=14∨k=15 then(if n=0 then 1 else-1)
 else-1
open Go.RowKit Lx
set_option maxHeartbeats 2000000 in
theorem Pv(a b:YB)(w:World)(ha:a.length<=140737488355328)(hb:b.length<=140737488355328):Calls prog 179 #[.string ⟨a.toArray⟩,.string ⟨b.toArray⟩] w λe w'=>e=.returned (.bool<|fusesT a b)∧Ext w w':=by
 have hx:=DH;obtain⟨ka,G⟩:∃k,bv a=k:=⟨_,rfl⟩;obtain⟨kb,J⟩:∃k,bv b=k:=⟨_,rfl⟩;have HKa:=Lib.hid G;have HKb:=Lib.hid J;clear G J
 go_enter func179,ntmps179
 go_wp2_with fail
 refine(EV _ _<|by omega).mono ?_;rintro e1 w1 ⟨rfl,rfl⟩;rw[HKa.out];by_cases h1:ka=0
 ·subst h1
  go_wp2_with fail
  go_ret
  exact⟨aW (uq<|.inl HKa.out).symm,Ext.refl _⟩
 have h1b:((ka:Int)==0)=false:=by simp;omega
 go_wp2_with fail
 refine(EV _ _<|by omega).mono ?_;rintro e2 w2 ⟨rfl,rfl⟩;rw[HKb.out];by_cases h2:kb=0
 ·subst h2
  go_wp2_with fail
  go_ret
  exact⟨aW (uq<|.inr HKb.out).symm,Ext.refl _⟩
 have h2b:((kb:Int)==0)=false:=by simp;omega
 have HN:=Lib.hid (show¬(bv a=0∨bv b=0)from by rw[HKa.out,HKb.out];omega);obtain⟨Rs,O⟩:∃Rs,fz (a++b)=Rs:=⟨_,rfl⟩;have HRs:=Lib.hid O;clear O
 go_wp2_with fail
 refine(Ry _ _ (by simp;omega)).mono ?_;rintro e3 w3 ⟨v,rfl,U,Z⟩;rw[HRs.out]at U⊢;obtain⟨A,c,rfl,hc1,hc2,E⟩:=U;unfold maxLen at hc2;have HX3:=Lib.hid<|Z;clear Z;have HRow:=Lib.hid E;clear E;obtain⟨toks,tail,place,er⟩:=Rs;simp only at HRow hc1 hc2⊢;by_cases h3:er=0
 rotate_left
 ·have h3b:((er:Int)!=0)=true:=by simp;omega
  have HF:=Lib.hid (kh HN.out λh=>h3 (by rw[HRs.out]at h;exact h.1))
  go_wp2_with fail
  go_ret
  exact⟨aW HF.out.symm,HX3.out⟩
 subst h3;by_cases h4:toks.length=2
 rotate_left
 ·have h4b:((toks.length:Int)!=2)=true:=by simp;omega
  have HF:=Lib.hid (kh HN.out λh=>h4 (by rw[HRs.out]at h;exact h.2.1))
  go_wp2_with fail
  go_ret
  exact⟨aW HF.out.symm,HX3.out⟩
 by_cases h5:tail=[]
 rotate_left
 ·have h5b:(tail==[])=false:=by simpa using h5
  have h5c:tail.isEmpty=false:=by simpa using h5
  obtain⟨t0,t1,rfl⟩:=wY h4;have HF:=Lib.hid (kh HN.out λh=>h5 (by rw[HRs.out]at h;exact h.2.2));clear h5 h4
  go_wp2_with fail
  go_ret
  exact⟨aW HF.out.symm,HX3.out⟩
 subst h5;obtain⟨t0,t1,rfl⟩:=wY h4;clear h4;obtain⟨b0,off,rfl,hb0,p0,p1,p2⟩:=uC HRow.out (k:=0) (by simp);obtain⟨b0',off',heq,_,q0,q1,q2⟩:=uC HRow.out (k:=1) (by simp);obtain⟨rfl,rfl⟩:b0=b0'∧off=off':=by simpa using heq
 clear heq;have HF:=Lib.hid (Bj HN.out (by rw[HRs.out]) (by rw[HRs.out])<|by rw[HRs.out]);simp only[Nat.zero_mul,Nat.one_mul,Nat.add_zero,List.getElem_cons_zero,List.getElem_cons_succ]at p0 p1 p2 q0 q1 q2;cases g0:(t0.lead==[])
 ·skip
  have g0':t0.lead.isEmpty=false:=by simpa using g0
  go_wp2_with fail
  go_ret
  exact⟨aW (by rw[HF.out,g0];rfl),HX3.out⟩
 have g0':t0.lead.isEmpty=true:=by simpa using g0
 cases g1:(t0.text==a)
 ·skip
  go_wp2_with fail
  go_ret
  exact⟨aW (by rw[HF.out,g0,g1];rfl),HX3.out⟩
 cases g2:(t1.lead==[])
 ·skip
  have g2':t1.lead.isEmpty=false:=by simpa using g2
  go_wp2_with fail
  go_ret
  exact⟨aW (by rw[HF.out,g0,g1,g2];rfl),HX3.out⟩
 have g2':t1.lead.isEmpty=true:=by simpa using g2
 cases g3:(t1.text==b)
 all_goals
  go_wp2_with fail
  go_ret
  exact⟨aW (by rw[HF.out,g0,g1,g2,g3];rfl),HX3.out⟩
def mW(k:Int):List YB->Nat->Bool
 |[],_=>true
 |l::r,i=>di false l (k==1&&(i:Int)==2)&&mW k r (i+1)
mutual
def leadedT:Tree->Bool
 |.node k _ ls ks=>decide ((ls.length:Int)=vK k ks.length)&&mW k ls 0&&leadedsT ks
def leadedsT:YT->Bool
 |[]=>true
 |t::r=>leadedT t&&leadedsT r
end
set_option maxHeartbeats 1000000 in
theorem OA(l:YB)(fin:Bool)(w:World)(hl:l.length<=281474976710656):Calls prog 79 #[.string ⟨l.toArray⟩,.bool fin] w λe w'=>e=.returned (.bool<|di false l fin)∧w=w':=by
 obtain⟨r,hr⟩:∃r,di false l fin=r:=⟨_,rfl⟩;rw[hr];have HR:=Lib.hid hr;clear hr
 go_enter func79,ntmps79
 go_wp2_with fail
 go_loopg [5,6] l.length (λg s5 s6 wx=>∃(i:Nat) (c:Bool),g=l.length-i∧wx=w∧i<=l.length∧s5=.bool c∧s6=.int .i64 i∧Hid (di c (l.drop i) fin=r))
 case atStart=>exact⟨0,false,rfl,rfl,aar _,rfl,rfl,Lib.hid<|by simpa using HR.out⟩
 case round=>
  obtain⟨i,c,rfl,rfl,hil,rfl,rfl,HT⟩:=hrel;by_cases hit:i<l.length
  rotate_left
  ·have HF:=Lib.hid (show(!c||fin)=r from by rw[<-HT.out,Gg<|by omega]);cases c<;>(go_wp2_with fail;go_ret;exact⟨aW (by rw[<-HF.out];rfl),rfl⟩)
  obtain⟨x,hx⟩:∃c,({data:=l.toArray}:ByteArray)[i]'hit=c:=⟨_,rfl⟩;have HXi:=Lib.hid<|show l[i]=x from hx;have HS:=Lib.hid<|HT.out.symm.trans<|EA hit HXi.out;clear HT;cases ha:aS x
  ·go_wp2_with (first|(go_at_call 80;refine qmm (gH _ _) ?_)|(go_at_call 81;refine qmm (bb _ _) ?_))
   go_ret
   exact⟨aW (by rw[HS.out,if_pos ha]),I⟩
  cases c with
  |true=>
   go_wp2_with (first|(go_at_call 80;refine qmm (gH _ _) ?_)|(go_at_call 81;refine qmm (bb _ _) ?_))
   go_roundg (l.length-(i+1))
   case measure=>omega
   case rel=>exact⟨i+1,!(x.toNat==10),rfl,rfl,by omega,by rw[RE],by go_num,Lib.hid<|by rw[HS.out,if_neg (by simp[ha]),if_pos<|by trivial]⟩
  | false=>
   cases h35:((x.toNat:Int)==35)
   rotate_left
   ·go_wp2_with (first|(go_at_call 80;refine qmm (gH _ _) ?_)|(go_at_call 81;refine qmm (bb _ _) ?_))
    go_roundg (l.length-(i+1))
    case measure=>omega
    case rel=>exact⟨i+1,true,rfl,rfl,by omega,rfl,by go_num,Lib.hid<|by rw[HS.out,if_neg (by simp[ha]),if_neg (by simp),if_pos<|cQ (m:=35) h35]⟩
   cases hw:bL x
   ·go_wp2_with (first|(go_at_call 80;refine qmm (gH _ _) ?_)|(go_at_call 81;refine qmm (bb _ _) ?_))
    go_ret
    exact⟨aW (by rw[HS.out,if_neg (by simp[ha]),if_neg (by simp),if_neg<|bK (m:=35) h35,if_pos hw]),rfl⟩
   ·go_wp2_with (first|(go_at_call 80;refine qmm (gH _ _) ?_)|(go_at_call 81;refine qmm (bb _ _) ?_))
    go_roundg (l.length-(i+1))
    case measure=>omega
    case rel=>exact⟨i+1,false,rfl,rfl,by omega,rfl,by go_num,Lib.hid<|by rw[HS.out,if_neg (by simp[ha]),if_neg (by simp),if_neg<|bK (m:=35) h35,if_neg<|by simp[hw]]⟩
theorem CP(a:YB)(f:Bool)(E:a.length<=140737488351232):tf a f (di false a f):=sum0_calls rfl rfl λS w ρ xs hx=>by
 simp only[LRel]at hx;obtain⟨x,ys,rfl,h1,y,zs,rfl,h2,rfl⟩:=hx;simp only[VRel]at h1 h2;subst h1 h2;exact(OA a f w<|by omega).mono λe w' ⟨h1,h2⟩=>⟨_,h1,by simp only[VRel],h2▸Chg.refl _ _⟩
theorem rK(k n:Int):vK k n=bT k n:=by
 unfold vK bT f0
 repeat' split
 all_goals first|rfl|omega
theorem KY:∀t:Tree,tbulk t<=40000000->shapeK t=true->mi t (leadedT t):=cP λt ih ht hs=>by
 have hk:=cb t;have hl:=uB t;have hbt:=bt t;have kids:∀k i,t.kids.length-i<=k->∃M,ie M t i (leadedsT<|t.kids.drop i):=λk=>by
  have last:∀i,¬i<t.kids.length->∃M,ie M t i (leadedsT<|t.kids.drop i):=λi hi=>by
   rw[List.drop_of_length_le<|by omega];exact⟨1,sx 0 _ _ _ ⟨λh=>absurd h hi,λ_=>I⟩⟩
  induction k with
  |zero=>intro i hi;exact last i (by omega)
  | succ k ihk=>
   intro i hi;obtain⟨u,hu,hul⟩|h':=aQ t.kids i
   ·have :=cm hu;have hb:=ih i u hu (by omega) (kP hs hu).1;obtain⟨M,hM⟩:=ihk (i+1) (by omega);rw[bc hu,leadedsT];refine⟨M+1,sx M _ _ _ ⟨λ_=>⟨u,hu,_,hb,λe=>?_,λe=>?_⟩,λh=>absurd hul h⟩⟩
    ·rw[e];rfl
    ·rw[e];exact⟨by omega,hM⟩
   ·exact last i h'
 obtain⟨M0,h0⟩:=kids t.kids.length 0 (by omega);rw[List.drop_zero]at h0;have lead:∀k i,t.leads.length-i<=k->∃M,fq M t i (mW t.kind (t.leads.drop i) i&&leadedsT t.kids):=λk=>by
  have last:∀i,¬i<t.leads.length->∃M,fq M t i (mW t.kind (t.leads.drop i) i&&leadedsT t.kids):=λi hi=>by
   rw[List.drop_of_length_le<|by omega];exact⟨_,nY _ _ _ _ ⟨λh=>absurd h hi,λ_=>h0⟩⟩
  induction k with
  |zero=>intro i hi;exact last i (by omega)
  | succ k ihk=>
   intro i hi;obtain⟨s,hs,hsl⟩|h':=aQ t.leads i
   ·have hsl2:=wB hs;obtain⟨M,hM⟩:=ihk (i+1) (by omega);rw[bc hs,mW];by_cases h1:t.kind=1
    ·have ht1:=CP s (((i:Nat):Int)==2) (by omega);have e1:(t.kind==1&&(i:Int)==2)=((i:Int)==2):=by simp[h1]
     rw[e1];refine⟨M+1,nY M _ _ _ ⟨λ_=>⟨s,hs,λ_=>⟨_,ht1,λe=>?_,λe=>?_⟩,λh=>absurd h1 h⟩,λh=>absurd hsl h⟩⟩
     ·rw[e];rfl
     ·rw[e];exact⟨by omega,hM⟩
    ·have ht1:=CP s false (by omega);have e1:(t.kind==1&&(i:Int)==2)=false:=by simp[h1]
     rw[e1];refine⟨M+1,nY M _ _ _ ⟨λ_=>⟨s,hs,λh=>absurd h h1,λ_=>⟨_,ht1,λe=>?_,λe=>?_⟩⟩,λh=>absurd hsl h⟩⟩
     ·rw[e];rfl
     ·rw[e];exact⟨by omega,hM⟩
   ·exact last i h'
 have e:leadedT t=(decide ((t.leads.length:Int)=vK t.kind t.kids.length)&&(mW t.kind t.leads 0&&leadedsT t.kids)):=by cases t;simp only[leadedT,Bool.and_assoc];rfl
 rw[rK]at e;by_cases h:((t.leads.length:Nat):Int)=bT t.kind t.kids.length
 ·obtain⟨M,hM⟩:=lead t.leads.length 0 (by omega);rw[List.drop_zero]at hM;refine sW M _ _ ⟨_,BT (by omega) (by omega),λh'=>absurd h h',λ_=>?_⟩;rw[e,decide_eq_true h];exact hM
 ·refine sW 0 _ _ ⟨_,BT (by omega) (by omega),λ_=>?_,λh'=>absurd h' h⟩;rw[e,decide_eq_false h];rfl
theorem JK:∀t:Tree,tbulk t<=40000000->shapeK t=true->iJ t (leadedT t):=cP λt ih ht hs=>by
 have hk:=cb t;have hl:=uB t;have hbt:=bt t;have kids:∀k i,t.kids.length-i<=k->∃M,eD M t i (leadedsT<|t.kids.drop i):=λk=>by
  have last:∀i,¬i<t.kids.length->∃M,eD M t i (leadedsT<|t.kids.drop i):=λi hi=>by
   rw[List.drop_of_length_le<|by omega];exact⟨1,pB 0 _ _ _ ⟨λh=>absurd h hi,λ_=>I⟩⟩
  induction k with
  |zero=>intro i hi;exact last i (by omega)
  | succ k ihk=>
   intro i hi;obtain⟨u,hu,hul⟩|h':=aQ t.kids i
   ·have :=cm hu;have hb:=ih i u hu (by omega) (kP hs hu).1;obtain⟨M,hM⟩:=ihk (i+1) (by omega);rw[bc hu,leadedsT];refine⟨M+1,pB M _ _ _ ⟨λ_=>⟨u,hu,_,hb,λe=>?_,λe=>?_⟩,λh=>absurd hul h⟩⟩
    ·rw[e];rfl
    ·rw[e];exact hM
   ·exact last i h'
 obtain⟨M0,h0⟩:=kids t.kids.length 0 (by omega);rw[List.drop_zero]at h0;have lead:∀k i,t.leads.length-i<=k->∃M,dy M t i (mW t.kind (t.leads.drop i) i&&leadedsT t.kids):=λk=>by
  have last:∀i,¬i<t.leads.length->∃M,dy M t i (mW t.kind (t.leads.drop i) i&&leadedsT t.kids):=λi hi=>by
   rw[List.drop_of_length_le<|by omega];exact⟨_,kz _ _ _ _ ⟨λh=>absurd h hi,λ_=>h0⟩⟩
  induction k with
  |zero=>intro i hi;exact last i (by omega)
  | succ k ihk=>
   intro i hi;obtain⟨s,hs,hsl⟩|h':=aQ t.leads i
   ·have hsl2:=wB hs;obtain⟨M,hM⟩:=ihk (i+1) (by omega);rw[bc hs,mW];by_cases h1:t.kind=1
    ·have ht1:=CC s (((i:Nat):Int)==2) (by omega);have e1:(t.kind==1&&(i:Int)==2)=((i:Int)==2):=by simp[h1]
     rw[e1];refine⟨M+1,kz M _ _ _ ⟨λ_=>⟨s,hs,λ_=>⟨_,ht1,λe=>?_,λe=>?_⟩,λh=>absurd h1 h⟩,λh=>absurd hsl h⟩⟩
     ·rw[e];rfl
     ·rw[e];exact hM
    ·have ht1:=CC s false (by omega);have e1:(t.kind==1&&(i:Int)==2)=false:=by simp[h1]
     rw[e1];refine⟨M+1,kz M _ _ _ ⟨λ_=>⟨s,hs,λh=>absurd h h1,λ_=>⟨_,ht1,λe=>?_,λe=>?_⟩⟩,λh=>absurd hsl h⟩⟩
     ·rw[e];rfl
     ·rw[e];exact hM
   ·exact last i h'
 have e:leadedT t=(decide ((t.leads.length:Int)=vK t.kind t.kids.length)&&(mW t.kind t.leads 0&&leadedsT t.kids)):=by cases t;simp only[leadedT,Bool.and_assoc];rfl
 rw[rK]at e;by_cases h:((t.leads.length:Nat):Int)=bT t.kind t.kids.length
 ·obtain⟨M,hM⟩:=lead t.leads.length 0 (by omega);rw[List.drop_zero]at hM;refine pK M _ _ ⟨_,xw (by omega) (by omega),λh'=>absurd h h',λ_=>?_⟩;rw[e,decide_eq_true h];exact hM
 ·refine pK 0 _ _ ⟨_,xw (by omega) (by omega),λ_=>?_,λh'=>absurd h' h⟩;rw[e,decide_eq_false h];rfl
theorem xT(t:Tree)(ht:tbulk t<=40000000):fb t (shapeK t&&leadedT t):=by
 refine tE 0 _ _ ⟨_,yz t (by omega),λh=>?_,λh=>?_⟩
 ·exact⟨_,JK t ht h,by rw[h];rfl⟩
 ·rw[h];rfl
def u8i(x:UInt8):Int:=x.toNat
section
variable{S:Nat->Prop}{w:World}{ρ:Nat->Option Value}
theorem Nt:∀{l:YB} {xs:List Value},CRel S w ρ 1 (List.map (V.int .u8)<|l.map u8i) xs->xs=Lib.byteCells l
 |[],xs,h=>by simp only[aav,CRel]at h;exact h
 |b::r,xs,h=>by simp only[aah,CRel,VRel]at h;obtain⟨x,ys,rfl,_,rfl,E⟩:=h;rw[Nt E];rfl
theorem Lg:∀l:YB,CRel S w ρ 1 (List.map (V.int .u8)<|l.map u8i) (Lib.byteCells l)
 |[]=>by simp only[aav,CRel];rfl
 |b::r=>by simp only[aah,CRel];exact⟨.int .u8 b.toNat,Lib.byteCells r,rfl,⟨rfl,rfl⟩,by simp only[VRel];rfl,Lg r⟩
end
abbrev PrH(x l:YB):Hp:=⟨2,[(1,.row 5 1 (List.map (V.int .u8) (l.map u8i))),(0,.var 142 [.np 0,.sl 1,.str x])]⟩
variable{x:YB}
theorem GI{S:Nat->Prop}{w:World}{ρ:Nat->Option Value}{l:YB}{b:Nat}(hr:HRel S w ρ (PrH x l).get)(hb:ρ 0=some (.pointer<|some ⟨b,0,none⟩)):∃p v,(p=.pointer none∨p=.pointer (some ⟨b,0,none⟩))∧ρ 1=some v∧PrB b p v x w∧Buf v l w:=by
 obtain⟨b',cs,h1,J,E⟩:gn S w ρ 0 (.var 142 [.np 0,.sl 1,.str x]):=hr.ob 0;rw[hb]at h1;simp only[aab,Value.pointer.injEq,Addr.mk.injEq,and_true]at h1;subst h1;simp only[LRel,VRel]at E;obtain⟨p,_,rfl,hp,v,_,rfl,⟨hv,_⟩,z,_,rfl,rfl,rfl⟩:=E;obtain⟨v',ys,g1,G,U⟩:gn S w ρ 1 (.row 5 1<|List.map (V.int .u8)<|l.map u8i):=hr.ob 1;rw[hv]at g1;cases g1;have :=Nt U;subst this;refine⟨p,v,?_,hv,J,by simpa using G⟩;rcases hp with h|⟨b2,O,Z⟩
 ·exact .inl h
 ·rw[hb]at O;cases O;exact .inr Z
theorem th(x l:YB)(i:Nat):(PrH x l).get (i+2)=.free:=by
 unfold Hp.get;split
 ·rename_i h;simp only[Nat.blt_eq]at h;omega
 ·rfl
theorem Mf {x l s:List UInt8} (h:l.length+s.length<=140737488355328):dq (l.map u8i) x s s.length () ((l++s).map u8i) x:=λS w ρ xs hr hx=>by
  simp only[LRel,VRel]at hx;obtain⟨_,_,rfl,⟨b,hb,rfl⟩,_,_,rfl,rfl,rfl⟩:=hx;obtain⟨p,v,hp,hv,hbk,hown⟩:=GI hr hb;refine(Ea hp hbk hown h).mono ?_;rintro e w' ⟨rfl,v',k1,k2,k3,k4⟩;have o0:∀k,k=b->own ρ 0 ((PrH x l).get 0) k:=λk e=>by rw[e];exact hb
  have o1:∀k,v.ownBlock=some k->own ρ 1 ((PrH x l).get 1) k:=λk e=>⟨v,hv,e⟩;have hsz:=k4.size;have hlt:=Af hbk;have n0:∀g,v'.ownBlock=some g->g≠b:=λg hg e=>Lib.ownBlock_ne k2 k1 (by decide)<|e▸hg;refine⟨_,S,λi=>match i with|0=>ρ 0|1=>some v'|_=>none,_,PrH x<|l++s,rfl,⟨rfl,rfl⟩,⟨λi=>?_,λi k hk hs=>?_,λi j k hi hj=>?_,⟨λk hk=>aaw (hr.slt.lt k hk) hsz,λp hp=>by cases hp⟩⟩,⟨k4.mono λk e=>?_,λ_ h=>h,λ_ h=>.inl h,λi k hk=>?_,λi y hy=>?_⟩,by simp only[VRel,LRel];exact⟨_,rfl,_,_,rfl,rfl,_,_,rfl,⟨rfl,rfl⟩,rfl⟩⟩
  · match i with
    | 0 =>exact⟨b,[.pointer (some ⟨b,0,none⟩),v',.string ⟨x.toArray⟩],hb,k1,by
        simp only[LRel,VRel];refine⟨_,_,I,.inr ⟨b,hb,I⟩,_,_,I,⟨I,?_⟩,_,_,I,I,I⟩;rcases k2.2 with⟨rfl,_⟩|⟨g,cap,cur,rfl,_⟩<;>rfl⟩
    |1=>exact⟨v',_,rfl,by rw[aan,aan];exact k2,Lg _⟩
    |i+2=>rw[th];rfl
  · match i with
    | 0 =>
      have hk':k=b:=by
        have :ρ 0=some (.pointer<|some ⟨k,0,none⟩):=hk;rw[hb]at this;cases this;rfl
      exact hr.sep 0 k (o0 k hk') hs
    | 1=>
      obtain⟨q,e1,e2⟩:=hk;cases e1;rcases k3 k e2 with h1|h1
      ·exact hr.sep 1 k (o1 k h1) hs
      ·have :=hr.slt.lt k hs;omega
    |i+2=>rw[th]at hk;exact hk
  · have z:∀k,own (λi=>match i with|0=>ρ 0|1=>some v'|_=>none) 0 ((PrH x<|l++s).get 0) k->own (λi=>match i with|0=>ρ 0|1=>some v'|_=>none) 1 ((PrH x<|l++s).get 1) k->False:=λk h0 h1=>by
      have :ρ 0=some (.pointer<|some ⟨k,0,none⟩):=h0;rw[hb]at this;cases this;obtain⟨q,e1,e2⟩:=h1;cases e1;exact n0 _ e2 I
    match i,j with
    |0,0=>rfl
    |1,1=>rfl
    |0,1=>exact(z k hi hj).elim
    |1,0=>exact(z k hj hi).elim
    |i+2,_=>rw[th]at hi;exact hi.elim
    |_,j+2=>rw[th]at hj;exact hj.elim
  · rcases e with e|e
    ·exact⟨0,o0 k e⟩
    ·exact⟨1,o1 k e⟩
  · match i with
    | 0=>
      have :ρ 0=some (.pointer<|some ⟨k,0,none⟩):=hk;exact .inl ⟨0,this⟩
    | 1=>
      obtain⟨q,e1,e2⟩:=hk;cases e1;rcases k3 k e2 with h1|h1
      ·exact .inl ⟨1,o1 k h1⟩
      ·exact .inr h1
    |i+2=>rw[th]at hk;exact hk.elim
  · match i with
    |0=>exact hy
    |1=>cases hy
    |i+2=>simp only[uN,th,jg]at hy;cases hy
theorem Ql(x l:YB):mM (l.map u8i) x l:=λS w ρ xs hr hx=>by
 simp only[LRel,VRel]at hx;obtain⟨_,_,rfl,⟨b,hb,rfl⟩,rfl⟩:=hx;obtain⟨p,v,hp,hv,J,E⟩:=GI hr hb;refine(BU J E).mono ?_;rintro e w' ⟨rfl,U⟩;have hsz:=U.size;have O:∀i k (ρ':Nat->Option Value),¬own ρ' i ((⟨2,[]⟩:Hp).get i) k:=λi k ρ' h=>by unfold Hp.get at h;split at h<;>exact h
 refine⟨_,S,λi=>match Nat.blt i 2 with|true=>ρ i|false=>none,_,⟨2,[]⟩,rfl,⟨rfl,rfl⟩,⟨λi=>?_,λi k G=>(O _ _ _ G).elim,λi j k hi=>(O _ _ _ hi).elim,⟨λk G=>aaw (hr.slt.lt k G) hsz,λp hp=>by cases hp⟩⟩,⟨U.mono λk e=>?_,λ_ h=>h,λ_ h=>.inl h,λi k G=>(O _ _ _ G).elim,λi y hy=>?_⟩,by simp only[VRel]⟩
 ·unfold Hp.get;split
  ·trivial
  ·rename_i h;simp only[gn,h]
 ·rcases e with e|e
  ·exact⟨0,by rw[e];exact hb⟩
  ·exact⟨1,v,hv,e⟩
 ·match i with
  |0=>exact hy
  |1=>cases hy
  |i+2=>simp only[uN,th,jg]at hy;cases hy
def lm(last lead tok:YB):YB:=if lead=[]∧last≠[]∧fusesT last tok=true then[32]else lead
abbrev WS:=YB×YB
def pe(lead tok:YB)(s:WS):WS:=(tok,s.2++lm s.1 lead tok++tok)
def bd(l:List Pce)(s:WS):WS:=l.foldl (λs p=>pe p.Lead p.Text s) s
theorem oY(s:WS):bd [] s=s:=rfl
theorem eR(p:Pce)(l:List Pce)(s:WS):bd (p::l) s=bd l (pe p.Lead p.Text s):=rfl
theorem eJ(a b:List Pce)(s:WS):bd (a++b) s=bd b (bd a s):=by simp[bd]
theorem zf:∀(r:List Pce) (s:WS),s.2.length<=(bd r s).2.length
 |[],s=>aaf _
 |p::r,s=>by
  have :=zf r<|pe p.Lead p.Text s;rw[eR];refine aap ?_ this;simp only[pe,aac];omega
abbrev PtW(t:Tree)(s s':WS):Prop:=aF (s.2.map u8i) s.1 t (s'.2.map u8i) s'.1
abbrev PpW(lead x:YB)(s s':WS):Prop:=aA (s.2.map u8i) s.1 lead x (s'.2.map u8i) s'.1
theorem DN(a b:YB)(E:a.length<=140737488355328)(hb:b.length<=140737488355328):zR a b (fusesT a b):=sum0_calls rfl rfl λS w ρ xs hx=>by simp only[LRel]at hx;obtain⟨x,ys,rfl,h1,y,zs,rfl,h2,rfl⟩:=hx;simp only[VRel]at h1 h2;subst h1 h2;exact(Pv a b w E hb).mono λe w' ⟨h1,h2⟩=>⟨_,h1,by simp only[VRel],BK h2⟩
variable{s:WS}
theorem IS{lead:YB}(h:s.2.length+lead.length+x.length<=140737488355328):dk 1 (s.2.map u8i) s.1 x lead ((s.2++lead++x).map u8i) x:=
 rL0_syntax_printer_put 0 _ _ _ _ _ _ ⟨_,_,_,_,Mf (by omega),_,_,_,_,Mf (by simp only[aac];omega),rfl,rfl⟩
theorem cy{lead:YB}(ho:s.1.length<=140737488355328)(G:(bd (⟨lead,x⟩::r) s).2.length<=140737488355328):PpW lead x s (pe lead x s)∧(pe lead x s).1.length<=140737488355328∧(bd r<|pe lead x s).2.length<=140737488355328:=by
 have h1:=aap (zf r<|pe lead x s) G;simp only[pe,aac]at h1;refine⟨?_,by show x.length<=140737488355328;omega,G⟩;unfold pe lm at *;by_cases h2:lead=[]
 ·by_cases E:s.1=[]
  ·rw[if_neg λh=>h.2.1 E]at h1⊢;exact gu 1 _ _ _ _ _ _ ⟨λ_=>⟨λh=>absurd E h,λ_=>IS h1⟩,λh=>absurd h2 h⟩
  ·rcases Bool.eq_false_or_eq_true (fusesT s.1 x)with hf|hf
   ·rw[if_pos ⟨h2,E,hf⟩]at h1⊢;exact gu 1 _ _ _ _ _ _ ⟨λ_=>⟨λ_=>⟨_,DN _ _ ho (by omega),λ_=>IS h1,λh=>by rw[hf]at h;cases h⟩,λh=>absurd h E⟩,λh=>absurd h2 h⟩
   ·rw[if_neg (λh=>by rw[hf]at h;cases h.2.2)]at h1⊢;exact gu 1 _ _ _ _ _ _ ⟨λ_=>⟨λ_=>⟨_,DN _ _ ho (by omega),(λh=>by rw[hf]at h;cases h),λ_=>IS h1⟩,λh=>absurd h E⟩,λh=>absurd h2 h⟩
 ·rw[if_neg λh=>h2 h.1]at h1⊢;exact gu 1 _ _ _ _ _ _ ⟨λh=>absurd h h2,λ_=>IS h1⟩
def Tk(t:Tree):Prop:=∀s:WS,s.1.length<=140737488355328->(bd (pcT t) s).2.length<=140737488355328->PtW t s (bd (pcT t) s)∧(bd (pcT t) s).1.length<=140737488355328
theorem rP(G:Tk u)(ho:s.1.length<=140737488355328)(E:(bd (pcT u++r) s).2.length<=140737488355328):PtW u s (bd (pcT u) s)∧(bd (pcT u) s).1.length<=140737488355328∧(bd r<|bd (pcT u) s).2.length<=140737488355328:=by
 rw[eJ]at E;obtain⟨h1,h2⟩:=G s ho<|aap (zf r _) E;exact⟨h1,h2,E⟩
theorem bk{ls:List YB}(h:i<ls.length):ls[i]?=some (ls.getD i []):=by rw[List.getD_eq_getElem?_getD,List.getElem?_eq_getElem h];rfl
theorem IP{p:Tree}{us:YT}{c:Nat}(hu:∀u∈us,Tk u)(hc:1<=c)(hc2:c<=10)(hl:c+us.length<=p.leads.length+1)(hb:us.length<=1000000000)(ho:s.1.length<=140737488355328)(hN:(bd (eG p.leads c (pcTs us) 0++r) s).2.length<=140737488355328):
  S_syntax_printer_list (s.2.map u8i) s.1 p us c ((bd (eG p.leads c (pcTs us) 0) s).2.map u8i) (bd (eG p.leads c (pcTs us) 0) s).1∧(bd (eG p.leads c (pcTs us) 0) s).1.length<=140737488355328∧(bd r<|bd (eG p.leads c (pcTs us) 0) s).2.length<=140737488355328:=by
 have loop:∀k i (s:WS),us.length-i<=k->s.1.length<=140737488355328->(bd (eG p.leads c (pcTs<|us.drop i) i) s).2.length<=140737488355328->cW (k+1) p us c (s.2.map u8i) s.1 i ((bd (eG p.leads c (pcTs<|us.drop i) i) s).2.map u8i) (bd (eG p.leads c (pcTs<|us.drop i) i) s).1∧(bd (eG p.leads c (pcTs<|us.drop i) i) s).1.length<=140737488355328:=λk=>by
  have fin:∀m i (s:WS),¬i<us.length->s.1.length<=140737488355328->cW (m+1) p us c (s.2.map u8i) s.1 i ((bd (eG p.leads c (pcTs<|us.drop i) i) s).2.map u8i) (bd (eG p.leads c (pcTs<|us.drop i) i) s).1∧(bd (eG p.leads c (pcTs<|us.drop i) i) s).1.length<=140737488355328:=λm i s hi ho=>by
   rw[List.drop_of_length_le<|by omega];exact⟨iR m _ _ _ _ _ _ _ _ ⟨λh=>absurd h hi,λ_=>⟨I,I⟩⟩,ho⟩
  induction k with
  |zero=>intro i s hi ho _;exact fin 0 i s (by omega) ho
  | succ k ih=>
   intro i s hi ho hN;rcases aQ us i with⟨u,hu',hlt⟩|h'
   ·have tk:=hu u<|List.mem_of_getElem? hu';rw[bc hu']at hN⊢;simp only[pcTs,eG]at hN⊢;by_cases h0:0<i
    ·rw[if_pos h0,aas,aaj]at hN⊢;obtain⟨q1,o1,n1⟩:=cy ho hN;obtain⟨q2,o2,n2⟩:=rP tk o1 n1;obtain⟨q3,o3⟩:=ih (i+1) _ (by omega) o2 n2;rw[eR,eJ];exact⟨iR (k+1) _ _ _ _ _ _ _ _ ⟨λ_=>⟨u,hu',λ_=>⟨by constructor<;>omega,by constructor<;>omega,c+i-1,by omega,_,bk (by omega),_,_,q1,_,_,q2,by omega,q3⟩,λh=>absurd (by omega) h⟩,λh=>absurd hlt h⟩,o3⟩
    ·rw[if_neg h0,aaj]at hN⊢;obtain⟨q2,o2,n2⟩:=rP tk ho hN;obtain⟨q3,o3⟩:=ih (i+1) _ (by omega) o2 n2;rw[eJ];exact⟨iR (k+1) _ _ _ _ _ _ _ _ ⟨λ_=>⟨u,hu',λh=>absurd h (by omega),λ_=>⟨_,_,q2,by omega,q3⟩⟩,λh=>absurd hlt h⟩,o3⟩
   ·exact fin _ i s h' ho
 rw[eJ]at hN;obtain⟨h1,h2⟩:=loop us.length 0 s (by omega) ho (by rw[List.drop_zero];exact aap (zf r _) hN);rw[List.drop_zero]at h1 h2;exact⟨uY (us.length+1) _ _ _ _ _ _ _ h1,h2,hN⟩
section
variable{m:Nat}{t:Tree}{b b':YI}{l l':YB}
theorem tD(h:t.kind=1∨t.kind=2∨t.kind=3∨t.kind=4)(k:fY b l t b' l'):aF b l t b' l':=by have d:cV 1 b l t true b' l':=nB 0 _ _ _ _ _ _ ⟨λ_=>⟨_,_,k,rfl,rfl⟩,λh=>(by cases h)⟩;refine rS_syntax_printer_tree 1 _ _ _ _ _ ⟨λ_=>d,λh1=>⟨λ_=>d,λh2=>⟨λ_=>d,λE=>?_⟩⟩⟩;rw[show(t.kind==4)=true from beq_iff_eq.2 (by omega)];exact d
theorem t0(h:¬(t.kind=1∨t.kind=2∨t.kind=3∨t.kind=4))(k:fD m b l t b' l'):aF b l t b' l':=
 rS_syntax_printer_tree (m+1) _ _ _ _ _ ⟨λe=>absurd (.inl e) h,λ_=>⟨λe=>absurd (.inr<|.inl e) h,λ_=>⟨λe=>absurd (.inr<|.inr<|.inl e) h,λ_=>nB m _ _ _ _ _ _ ⟨λe=>absurd (.inr<|.inr<|.inr<|eq_of_beq e) h,λ_=>k⟩⟩⟩⟩
theorem t1(h:t.kind≠17)(k:fG m b l t b' l'):fD (m+1) b l t b' l':=nI m _ _ _ _ _ ⟨λe=>absurd e h,λ_=>k⟩
theorem t2(h:t.kind≠8)(k:fE m b l t b' l'):fG (m+1) b l t b' l':=nH m _ _ _ _ _ ⟨λe=>absurd e h,λ_=>k⟩
theorem t4(h:t.kind≠16)(k:fK m b l t b' l'):fE (m+1) b l t b' l':=nD m _ _ _ _ _ ⟨λe=>absurd e h,λ_=>k⟩
theorem t6(h:t.kind≠18)(k:fH m b l t b' l'):fK (m+1) b l t b' l':=nC m _ _ _ _ _ ⟨λe=>absurd e h,λ_=>k⟩
theorem t8(h:t.kind≠19)(k:fa m b l t b' l'):fH (m+1) b l t b' l':=nK m _ _ _ _ _ ⟨λe=>absurd e h,λ_=>k⟩
theorem t10(h:t.kind≠20)(k:eW m b l t b' l'):fa (m+1) b l t b' l':=mD m _ _ _ _ _ ⟨λe=>absurd e h,λ_=>k⟩
theorem t12(h:t.kind≠21)(k:iN m b l t b' l'):eW (m+1) b l t b' l':=mQ m _ _ _ _ _ ⟨λe=>absurd e h,λ_=>k⟩
end
def Ci(k:Int)(s:YB):YB:=
 if k=5 then[73,110,116]else if k=6 then[84,101,120,116]else if k=7 then[66,111,111,108]else if k=13 then[116,114,117,101]else if k=14 then[102,97,108,115,101]else if k=15 then[63]else s
theorem LL(t:Tree):qu t (Ci t.kind t.text):=zX 0 _ _ (by
 unfold Ci
 repeat' (refine And.intro (λ_=>?_) λ_=>?_)
 all_goals simp[*])
variable{n:Int}
theorem GQ{k:Int}{i:Int}{kk:Int}(h:gb k n i kk=true):kk≠1:=by
 intro e;subst e;unfold gb at h
 repeat' split at h
 all_goals (revert h;simp[my,nh,sF])
theorem PQ(x:YB)(ls:List YB)(gs:List<|List Pce)(a b:List Pce):dp 2 x ls (gs++[a,b])=⟨ls.getD 0 [],[100,101,102]⟩::⟨ls.getD 1 [],x⟩::⟨ls.getD 2 [],[40]⟩::(eG ls 6 gs 0++(⟨ls.getD 3 [],[41]⟩::⟨ls.getD 4 [],[58]⟩::(a++(⟨ls.getD 5 [],[61]⟩::b)))):=by
 show⟨ls.getD 0 [],[100,101,102]⟩::⟨ls.getD 1 [],x⟩::⟨ls.getD 2 [],[40]⟩::(eG ls 6 ((gs++[a,b]).take<|(gs++[a,b]).length-2) 0++(⟨ls.getD 3 [],[41]⟩::⟨ls.getD 4 [],[58]⟩::((gs++[a,b]).getD ((gs++[a,b]).length-2) []++(⟨ls.getD 5 [],[61]⟩::(gs++[a,b]).getD ((gs++[a,b]).length-1) []))))=_;have h1:(gs++[a,b]).length-2=gs.length:=by simp
 have h2:(gs++[a,b]).length-1=gs.length+1:=by simp
 rw[h1,h2];simp[List.getD_eq_getElem?_getD]
theorem LA(a b:YT):pcTs (a++b)=pcTs a++pcTs b:=by simp[rk]
theorem BO{α:Type}:∀(l:List α),0<l.length->∃us a,l=us++[a]
 |[a],_=>⟨[],a,rfl⟩
 |a::b::r,_=>by obtain⟨us,c,e⟩:=BO (b::r) (by simp);exact⟨a::us,c,by rw[e];rfl⟩
theorem Kp(hs:shapeK t=true):(t.kind=2->∃us a b,t.kids=us++[a,b])∧(t.kind=3∨t.kind=4∨t.kind=8∨t.kind=17∨t.kind=22->∃a,t.kids=[a])∧(t.kind=19->∃a b c,t.kids=[a,b,c])∧(t.kind=20∨t.kind=21->∃a b,t.kids=[a,b]):=by
 have hn:=ey hs;refine⟨λh2=>?_,λh=>List.length_eq_one_iff.1 (hn.2.2.1 h),λh=>?_,λh=>?_⟩
 ·obtain⟨G,b,E⟩:=BO t.kids (by have :=hn.1 h2;omega);obtain⟨us,a,J⟩:=BO G (by have :=hn.1 h2;rw[E,aac]at this;simp at this;omega);exact⟨us,a,b,by rw[E,J];simp⟩
 ·exact match t.kids,hn.2.2.2.1 h with|[a,b,c],_=>⟨a,b,c,rfl⟩
 ·exact match t.kids,hn.2.2.2.2 h with|[a,b],_=>⟨a,b,rfl⟩
theorem tK:∀{ks:YT} {i:Nat} {u:Tree},leadedsT ks=true->ks[i]?=some u->leadedT u=true
 |[],i,u,h,E=>by simp at E
 |t::r,0,u,h,E=>by simp only[leadedsT,aaa]at h;simp only[List.getElem?_cons_zero,aab]at E;subst E;exact h.1
 |t::r,i+1,u,h,E=>by simp only[leadedsT,aaa]at h;exact tK h.2 (by simpa using E)
theorem AN(h:leadedT t=true):(t.leads.length:Int)=vK t.kind t.kids.length∧mW t.kind t.leads 0=true∧leadedsT t.kids=true:=by cases t;simp only[leadedT,aaa,aat]at h;exact⟨h.1.1,h.1.2,h.2⟩
theorem GN:∀t:Tree,t.kind≠1->tbulk t<=1000000000->shapeK t=true->leadedT t=true->Tk t:=cP λt ih h1 ht hs hl s ho G=>by
 obtain⟨f2,f1,f3,f20⟩:=Kp hs;obtain⟨g1,_,g3⟩:=AN hl;rw[rK]at g1;have hkl:=cb t;have hn:=ey hs;have tk:∀(i:Nat) (u:Tree),t.kids[i]?=some u->Tk u:=λi u hu=>ih i u hu (GQ (kP hs hu).2) (by have :=cm hu;omega) (kP hs hu).1 (tK g3 hu);have tkm:∀u∈t.kids,Tk u:=λu hu=>by obtain⟨i,hi⟩:=List.mem_iff_getElem?.1 hu;exact tk i u hi
 have e:=dE t;rw[e]at G⊢;by_cases h2:t.kind=2
 ·obtain⟨us,x,y,E⟩:=f2 h2;have hk:t.kids.length=us.length+2:=by rw[E];simp
  have hx:t.kids[us.length]?=some x:=by rw[E];simp
  have hy:t.kids[us.length+1]?=some y:=by rw[E];simp
  have J:6+us.length<=t.leads.length+1∧6<=t.leads.length:=by
   rw[h2,hk]at g1;simp only[bT,f0]at g1;simp at g1;split at g1<;>first|omega|(split at g1<;>omega)
  have etk:t.kids.take us.length=us:=by rw[E];simp
  rw[h2,E,LA]at G⊢;change (bd (dp 2 t.text t.leads<|pcTs us++[pcT x,pcT y]) s).2.length<=140737488355328 at G;show PtW t s (bd (dp 2 t.text t.leads<|pcTs us++[pcT x,pcT y]) s)∧(bd (dp 2 t.text t.leads<|pcTs us++[pcT x,pcT y]) s).1.length<=140737488355328;rw[PQ]at G⊢;obtain⟨U,Z,n1⟩:=cy ho G;obtain⟨q2,o2,n2⟩:=cy Z n1;obtain⟨q3,o3,n3⟩:=cy o2 n2;obtain⟨q4,o4,n4⟩:=IP (p:=t) (λu hu=>tkm u (by rw[E];simp[hu])) (by decide) (by decide) J.1 (by omega) o3 n3;obtain⟨q5,o5,n5⟩:=cy o4 n4;obtain⟨q6,o6,n6⟩:=cy o5 n5;obtain⟨q7,o7,n7⟩:=rP (tk _ x hx) o6 n6;obtain⟨q8,o8,n8⟩:=cy o7 n7;obtain⟨q9,o9⟩:=tk _ y hy _ o8 n8;simp only[eR,eJ];exact⟨tD (.inr<|.inl h2) (dA 2 _ _ _ _ _ ⟨λe=>absurd e h1,λ_=>eS 1 _ _ _ _ _ ⟨λ_=>qV 0 _ _ _ _ _ ⟨_,bk (by omega),_,_,U,_,bk (by omega),_,_,q2,_,bk (by omega),_,_,q3,us.length,by omega,by omega,_,_,by rw[etk];exact q4,_,bk (by omega),_,_,q5,_,bk (by omega),_,_,q6,us.length,by omega,x,hx,_,_,q7,_,bk (by omega),_,_,q8,us.length+1,by omega,y,hy,_,_,q9,I,I⟩,λe=>absurd h2 e⟩⟩),o9⟩
 by_cases h3:t.kind=3
 ·obtain⟨x,E⟩:=f1 (by omega);have hx:t.kids[0]?=some x:=by rw[E];rfl
  have J:t.leads.length=3:=by rw[h3,E]at g1;simp[bT,f0]at g1;omega
  rw[h3,E]at G⊢;obtain⟨U,Z,n1⟩:=cy ho G;obtain⟨q2,o2,n2⟩:=cy Z n1;obtain⟨q3,o3,n3⟩:=cy o2 n2;obtain⟨q4,o4⟩:=tk _ x hx _ o3 n3;exact⟨tD (.inr<|.inr<|.inl h3) (dA 3 _ _ _ _ _ ⟨λe=>absurd e h1,λ_=>eS 2 _ _ _ _ _ ⟨λe=>absurd e h2,λ_=>jP 1 _ _ _ _ _ ⟨λ_=>qQ 0 _ _ _ _ _ ⟨_,bk (by omega),_,_,U,_,bk (by omega),_,_,q2,_,bk (by omega),_,_,q3,x,hx,_,_,q4,I,I⟩,λe=>absurd h3 e⟩⟩⟩),o4⟩
 by_cases h4:t.kind=4
 ·obtain⟨x,E⟩:=f1 (by omega);have hx:t.kids[0]?=some x:=by rw[E];rfl
  have J:t.leads.length=2:=by rw[h4,E]at g1;simp[bT,f0]at g1;omega
  rw[h4,E]at G⊢;obtain⟨U,Z,n1⟩:=cy ho G;obtain⟨q2,o2,n2⟩:=cy Z n1;obtain⟨q4,o4⟩:=tk _ x hx _ o2 n2;exact⟨tD (.inr<|.inr<|.inr h4) (dA 4 _ _ _ _ _ ⟨λe=>absurd e h1,λ_=>eS 3 _ _ _ _ _ ⟨λe=>absurd e h2,λ_=>jP 2 _ _ _ _ _ ⟨λe=>absurd e h3,λ_=>qU 1 _ _ _ _ _ ⟨λ_=>qT 0 _ _ _ _ _ ⟨_,bk (by omega),_,_,U,_,bk (by omega),_,_,q2,x,hx,_,_,q4,I,I⟩,λe=>absurd h4 e⟩⟩⟩⟩),o4⟩
 have hd:¬(t.kind=1∨t.kind=2∨t.kind=3∨t.kind=4):=by omega
 by_cases O:t.kind=17
 ·obtain⟨x,E⟩:=f1 (by omega);have hx:t.kids[0]?=some x:=by rw[E];rfl
  rw[O,E]at G⊢;obtain⟨U,Z⟩:=tk _ x hx _ ho G;exact⟨t0 hd<|nI 0 _ _ _ _ _ ⟨λ_=>⟨x,hx,_,_,U,I,I⟩,λe=>absurd O e⟩,Z⟩
 by_cases h8:t.kind=8
 ·obtain⟨x,E⟩:=f1 (by omega);have hx:t.kids[0]?=some x:=by rw[E];rfl
  have J:t.leads.length=2:=by rw[h8,E]at g1;simp[bT,f0]at g1;omega
  rw[h8,E]at G⊢;obtain⟨U,Z,n1⟩:=cy ho G;obtain⟨q2,o2,n2⟩:=rP (tk _ x hx) Z n1;obtain⟨q3,o3,_⟩:=cy o2 n2;show PtW t s (bd (⟨_,_⟩::(pcT x++[⟨_,_⟩])) s)∧(bd (⟨_,_⟩::(pcT x++[⟨_,_⟩])) s).1.length<=140737488355328;simp only[eR,eJ,oY];exact⟨t0 hd (t1 O<|nH 1 _ _ _ _ _ ⟨λ_=>tW 0 _ _ _ _ _ ⟨_,bk (by omega),_,_,U,x,hx,_,_,q2,_,bk (by omega),_,_,q3,I,I⟩,λe=>absurd h8 e⟩),o3⟩
 by_cases h16:t.kind=16
 ·have J:3+t.kids.length<=t.leads.length+1∧3<=t.leads.length:=by
   rw[h16]at g1;simp only[bT,f0]at g1;simp at g1;split at g1<;>first|omega|(split at g1<;>omega)
  rw[h16]at G⊢;obtain⟨U,Z,n1⟩:=cy ho G;obtain⟨q2,o2,n2⟩:=cy Z n1;obtain⟨q3,o3,n3⟩:=IP (p:=t) tkm (by decide) (by decide) J.1 (by omega) o2 n2;obtain⟨q4,o4,_⟩:=cy o3 n3;show PtW t s (bd (⟨_,_⟩::⟨_,_⟩::(eG t.leads 3 (pcTs t.kids) 0++[⟨_,_⟩])) s)∧(bd (⟨_,_⟩::⟨_,_⟩::(eG t.leads 3 (pcTs t.kids) 0++[⟨_,_⟩])) s).1.length<=140737488355328;simp only[eR,eJ,oY];exact⟨t0 hd (t1 O<|t2 h8<|nD 1 _ _ _ _ _ ⟨λ_=>ue 0 _ _ _ _ _ ⟨_,bk (by omega),_,_,U,_,bk (by omega),_,_,q2,_,_,q3,_,bk (by omega),_,_,q4,I,I⟩,λe=>absurd h16 e⟩),o4⟩
 by_cases h18:t.kind=18
 ·have h4':=hn.2.1 h18;have J:2+t.kids.length<=t.leads.length+1∧2<=t.leads.length:=by
   rw[h18]at g1;simp only[bT,f0]at g1;simp at g1;split at g1<;>first|omega|(split at g1<;>omega)
  rw[h18]at G⊢;obtain⟨U,Z,n1⟩:=cy ho G;obtain⟨q2,o2,n2⟩:=IP (p:=t) tkm (by decide) (by decide) J.1 (by omega) Z n1;obtain⟨q3,o3,_⟩:=cy o2 n2;show PtW t s (bd (⟨_,_⟩::(eG t.leads 2 (pcTs t.kids) 0++[⟨_,_⟩])) s)∧(bd (⟨_,_⟩::(eG t.leads 2 (pcTs t.kids) 0++[⟨_,_⟩])) s).1.length<=140737488355328;simp only[eR,eJ,oY];exact⟨t0 hd (t1 O<|t2 h8<|t4 h16<|nC 1 _ _ _ _ _ ⟨λ_=>tZ 0 _ _ _ _ _ ⟨_,bk (by omega),_,_,U,_,_,q2,_,bk (by omega),_,_,q3,I,I⟩,λe=>absurd h18 e⟩),o3⟩
 by_cases h19:t.kind=19
 ·obtain⟨x,y,z,E⟩:=f3 h19;have hx:t.kids[0]?=some x:=by rw[E];rfl
  have hy:t.kids[1]?=some y:=by rw[E];rfl
  have hz:t.kids[2]?=some z:=by rw[E];rfl
  have J:t.leads.length=3:=by rw[h19,E]at g1;simp[bT,f0]at g1;omega
  rw[h19,E]at G⊢;obtain⟨U,Z,n1⟩:=cy ho G;obtain⟨q2,o2,n2⟩:=rP (tk _ x hx) Z n1;obtain⟨q3,o3,n3⟩:=cy o2 n2;obtain⟨q4,o4,n4⟩:=rP (tk _ y hy) o3 n3;obtain⟨q5,o5,n5⟩:=cy o4 n4;obtain⟨q6,o6⟩:=tk _ z hz _ o5 n5;show PtW t s (bd (⟨_,_⟩::(pcT x++(⟨_,_⟩::(pcT y++(⟨_,_⟩::pcT z))))) s)∧(bd (⟨_,_⟩::(pcT x++(⟨_,_⟩::(pcT y++(⟨_,_⟩::pcT z))))) s).1.length<=140737488355328;simp only[eR,eJ,oY];exact⟨t0 hd (t1 O<|t2 h8<|t4 h16<|t6 h18<|nK 1 _ _ _ _ _ ⟨λ_=>uf 0 _ _ _ _ _ ⟨_,bk (by omega),_,_,U,x,hx,_,_,q2,_,bk (by omega),_,_,q3,y,hy,_,_,q4,_,bk (by omega),_,_,q5,z,hz,_,_,q6,I,I⟩,λe=>absurd h19 e⟩),o6⟩
 by_cases h20:t.kind=20
 ·obtain⟨x,y,E⟩:=f20 (by omega);have hx:t.kids[0]?=some x:=by rw[E];rfl
  have hy:t.kids[1]?=some y:=by rw[E];rfl
  have J:t.leads.length=4:=by rw[h20,E]at g1;simp[bT,f0]at g1;omega
  rw[h20,E]at G⊢;obtain⟨U,Z,n1⟩:=cy ho G;obtain⟨q2,o2,n2⟩:=cy Z n1;obtain⟨q3,o3,n3⟩:=cy o2 n2;obtain⟨q4,o4,n4⟩:=rP (tk _ x hx) o3 n3;obtain⟨q5,o5,n5⟩:=cy o4 n4;obtain⟨q6,o6⟩:=tk _ y hy _ o5 n5;show PtW t s (bd (⟨_,_⟩::⟨_,_⟩::⟨_,_⟩::(pcT x++(⟨_,_⟩::pcT y))) s)∧(bd (⟨_,_⟩::⟨_,_⟩::⟨_,_⟩::(pcT x++(⟨_,_⟩::pcT y))) s).1.length<=140737488355328;simp only[eR,eJ,oY];exact⟨t0 hd (t1 O<|t2 h8<|t4 h16<|t6 h18<|t8 h19<|mD 1 _ _ _ _ _ ⟨λ_=>sQ 0 _ _ _ _ _ ⟨_,bk (by omega),_,_,U,_,bk (by omega),_,_,q2,_,bk (by omega),_,_,q3,x,hx,_,_,q4,_,bk (by omega),_,_,q5,y,hy,_,_,q6,I,I⟩,λe=>absurd h20 e⟩),o6⟩
 by_cases h21:t.kind=21
 ·obtain⟨x,y,E⟩:=f20 (by omega);have hx:t.kids[0]?=some x:=by rw[E];rfl
  have hy:t.kids[1]?=some y:=by rw[E];rfl
  have J:t.leads.length=1:=by rw[h21,E]at g1;simp[bT,f0]at g1;omega
  rw[h21,E]at G⊢;obtain⟨U,Z,n1⟩:=rP (tk _ x hx) ho G;obtain⟨q2,o2,n2⟩:=cy Z n1;obtain⟨q3,o3⟩:=tk _ y hy _ o2 n2;show PtW t s (bd (pcT x++(⟨_,_⟩::pcT y)) s)∧(bd (pcT x++(⟨_,_⟩::pcT y)) s).1.length<=140737488355328;simp only[eR,eJ,oY];exact⟨t0 hd (t1 O<|t2 h8<|t4 h16<|t6 h18<|t8 h19<|t10 h20<|mQ 1 _ _ _ _ _ ⟨λ_=>sT 0 _ _ _ _ _ ⟨x,hx,_,_,U,_,bk (by omega),_,_,q2,y,hy,_,_,q3,I,I⟩,λe=>absurd h21 e⟩),o3⟩
 by_cases h22:t.kind=22
 ·obtain⟨x,E⟩:=f1 (by omega);have hx:t.kids[0]?=some x:=by rw[E];rfl
  have J:t.leads.length=2:=by rw[h22,E]at g1;simp[bT,f0]at g1;omega
  rw[h22,E]at G⊢;obtain⟨U,Z,n1⟩:=cy ho G;obtain⟨q2,o2,n2⟩:=rP (tk _ x hx) Z n1;obtain⟨q3,o3,_⟩:=cy o2 n2;show PtW t s (bd (⟨_,_⟩::(pcT x++[⟨_,_⟩])) s)∧(bd (⟨_,_⟩::(pcT x++[⟨_,_⟩])) s).1.length<=140737488355328;simp only[eR,eJ,oY];exact⟨t0 hd (t1 O<|t2 h8<|t4 h16<|t6 h18<|t8 h19<|t10 h20<|t12 h21<|na 1 _ _ _ _ _ ⟨λ_=>tF 0 _ _ _ _ _ ⟨_,bk (by omega),_,_,U,x,hx,_,_,q2,_,bk (by omega),_,_,q3,I,I⟩,λe=>absurd h22 e⟩),o3⟩
 have el:dp t.kind t.text t.leads (pcTs t.kids)=[⟨t.leads.getD 0 [],Ci t.kind t.text⟩]:=by simp only[dp,h1,h2,h3,h4,h8,h16,O,h18,h19,h20,h21,h22,if_false];rfl
 have J:1<=t.leads.length:=by
  simp only[bT,f0,h1,h2,h3,h4,h8,h16,O,h18,h19,h20,h21,h22,if_false]at g1;split at g1
  ·split at g1<;>first|omega|(split at g1<;>omega)
  ·omega
 rw[el]at G⊢;obtain⟨U,Z,_⟩:=cy ho G;exact⟨t0 hd (t1 O<|t2 h8<|t4 h16<|t6 h18<|t8 h19<|t10 h20<|t12 h21<|na 0 _ _ _ _ _ ⟨λe=>absurd e h22,λ_=>⟨_,bk (by omega),_,LL t,_,_,U,I,I⟩⟩),Z⟩
def pcM(t:Tree):List Pce:=⟨t.leads.getD 0 [],[109,111,100,117,108,101]⟩::⟨t.leads.getD 1 [],t.text⟩::(pcTs t.kids).flatten
def rW(t:Tree):YB:=if t.kind=1 then(bd (pcM t) ([],[])).2++t.leads.getD 2 []else(bd (pcT t) ([],[])).2
theorem GG(E:t.kind=1)(_:shapeK t=true):rW t=(bd (pcM t) ([],[])).2++t.leads.getD 2 []:=if_pos E
theorem EF{c:Nat}:∀(r:List Pce) (s:WS),(∀p∈r,p.Lead.length+p.Text.length+1<=c)->(bd r s).2.length<=s.2.length+r.length*c
 |[],s,h=>by simp[bd]
 | p::r,s,h=>by
  have h1:=EF r (pe p.Lead p.Text s) λq hq=>h q (by simp[hq]);have h2:=h p (by simp);have h3:(lm s.1 p.Lead p.Text).length<=p.Lead.length+1:=by
   unfold lm;split
   ·simp
   ·omega
  have e:(r.length+1)*c=r.length*c+c:=Nat.succ_mul _ _;have h4:(pe p.Lead p.Text s).2.length=s.2.length+(lm s.1 p.Lead p.Text).length+p.Text.length:=by simp only[pe,aac]
  rw[eR,aad,e];omega
theorem PK(t:Tree)(ht:tbulk t<=2000000)(hs:shapeK t=true)(hl:leadedT t=true):sq t (rW t):=by
 obtain⟨r,_,h1,h2,rfl⟩:=Fx t ht hs [] (by simp only[aae];omega);rw[aaj]at h1 h2;have hq:=h2 bP;have hlen:∀(r:List Pce),r.length<=16000000->Qp r->(bd r ([],[])).2.length<=100000000000000:=λr hr hq=>by
  have :=EF (c:=4000011) r ([],[]) λp hp=>by have :=hq p hp;omega
  have h3:r.length*4000011<=16000000*4000011:=Nat.mul_le_mul_right _ hr;simp only[aae]at this;omega
 simp only[aae]at h1;obtain⟨g1,_,g3⟩:=AN hl;rw[rK]at g1;have hkl:=cb t;by_cases hk:t.kind=1
 ·have hll:t.leads.length=3:=by rw[hk]at g1;simp only[bT]at g1;simp at g1;omega
  have e:pcT t=pcM t++[⟨t.leads.getD 2 [],[]⟩]:=by rw[dE,hk];rfl
  rw[e]at h1 hq;rw[aac,List.length_singleton]at h1;have hn:=hlen (pcM t) (by omega) (bR.1 hq).1;have hl2:=((bR.1 hq).2 _ (List.mem_singleton.2 rfl)).1;simp only at hl2;have loop:∀k i (s:WS),t.kids.length-i<=k->s.1.length<=140737488355328->(bd (pcTs<|t.kids.drop i).flatten s).2.length<=100000000000000->∃x,cr (k+1) t (s.2.map u8i) s.1 i (((bd (pcTs<|t.kids.drop i).flatten s).2++t.leads.getD 2 []).map u8i) x:=λk=>by
   have fin:∀m i (s:WS),¬i<t.kids.length->(bd (pcTs<|t.kids.drop i).flatten s).2.length<=100000000000000->∃x,cr (m+1) t (s.2.map u8i) s.1 i (((bd (pcTs<|t.kids.drop i).flatten s).2++t.leads.getD 2 []).map u8i) x:=λm i s hi hN=>by
    rw[List.drop_of_length_le<|by omega]at hN⊢;exact⟨_,jN m _ _ _ _ _ _ ⟨λh=>absurd h hi,λ_=>⟨_,bk (by omega),_,_,_,_,Mf (by have :s.2.length<=100000000000000:=hN;omega),I,I⟩⟩⟩
   induction k with
   |zero=>intro i s hi _ hN;exact fin 0 i s (by omega) hN
   | succ k ih=>
    intro i s hi ho hN;rcases aQ t.kids i with⟨u,hu,hlt⟩|h'
    ·have tk:=GN u (GQ (kP hs hu).2) (by have :=cm hu;omega) (kP hs hu).1 (tK g3 hu);rw[bc hu]at hN⊢;simp only[pcTs,List.flatten_cons]at hN⊢;obtain⟨q,o,n⟩:=rP tk ho (aap hN<|by decide);rw[eJ]at hN⊢;obtain⟨x,hx⟩:=ih (i+1) _ (by omega) o hN;exact⟨x,jN (k+1) _ _ _ _ _ _ ⟨λ_=>⟨u,hu,_,_,q,by omega,hx⟩,λh=>absurd hlt h⟩⟩
    ·exact fin _ i s h' hN
  obtain⟨q1,o1,n1⟩:=cy (s:=([],[])) (aar _) (aap hn<|by decide);obtain⟨q2,o2,n2⟩:=cy o1 n1;obtain⟨x,hx⟩:=loop t.kids.length 0 _ (by omega) o2 hn;rw[GG hk hs];exact vN 0 _ _ ⟨_,x,tD (.inl hk) (dA (t.kids.length+2) _ _ _ _ _ ⟨λ_=>qP (t.kids.length+1) _ _ _ _ _ ⟨_,bk (by omega),_,_,q1,_,bk (by omega),_,_,q2,hx⟩,λe=>absurd hk e⟩),_,Ql _ _,I⟩
 ·have hn:=hlen (pcT t) (by omega) hq;have e:rW t=(bd (pcT t) ([],[])).2:=if_neg hk;rw[e];obtain⟨q,_⟩:=GN t hk (by omega) hs hl ([],[]) (aar _) (aap hn<|by decide);exact vN 0 _ _ ⟨_,_,q,_,Ql _ _,I⟩
def qK:YB->List Pce->YB
 |_,[]=>[]
 |last,p::r=>lm last p.Lead p.Text++(p.Text++qK p.Text r)
theorem Eb:∀(l:List Pce) (last out:YB),(bd l (last,out)).2=out++qK last l
 |[],last,out=>by simp[bd,qK]
 |p::r,last,out=>by rw[eR];show(bd r (p.Text,out++lm last p.Lead p.Text++p.Text)).2=_;rw[Eb r];simp only[qK,aai]
theorem JQ(a:YB):fusesT a []=false:=by simp[fusesT,bv]
theorem NS(E:t.kind=1):pcT t=pcM t++[⟨t.leads.getD 2 [],[]⟩]:=by rw[dE,E];simp[dp,pcM]
theorem PJ(hs:shapeK t=true):rW t=qK [] (pcT t):=by
 by_cases E:t.kind=1
 ·rw[GG E hs];have h:=Eb (pcT t) [] [];rw[aaj]at h;rw[<-h,NS E,eJ];show _=(pe (t.leads.getD 2 []) []<|bd (pcM t) ([],[])).2;simp only[pe,lm,JQ,aaz];rw[if_neg λh=>absurd h.2.2 (by decide)]
 ·have h:=Eb (pcT t) [] [];rw[aaj]at h;rw[show rW t=_ from if_neg E,h]
def rQ(l:List Pce)(i:Nat):YB:=if i=0 then[]else((l[i-1]?).map (·.Text)).getD []
theorem Jk{x:Pce}(h:l[i]?=some x):rQ l (i+1)=x.Text:=by unfold rQ;rw[if_neg (by omega),Nat.add_sub_cancel,h];rfl
theorem Ly{y:Pce}(E:0<i)(h:l[i-1]?=some y):rQ l i=y.Text:=by unfold rQ;rw[if_neg (by omega),h];rfl
theorem ME (t:Tree) (ht:tbulk t<=2000000):lY t (if(shapeK t&&leadedT t)=true then rW t else[]):=by
 have hp:=xT t (by omega);cases h:(shapeK t&&leadedT t)with
 |false=>
  rw[h]at hp;exact qq 0 _ _ ⟨_,hp,λ_=>rfl,λh=>(by cases h)⟩
 | true =>
  rw[h]at hp;simp only[aaa]at h;obtain⟨l,e,z,q,el⟩:=Fx t ht h.1 [] (by simp;omega);have hq:=q bP;simp only[aae]at z;rw[aaj]at el;have loop:∀k i (s:List UInt8),l.length-i<=k->s.length<=i*4000020->i<=l.length->bN (k+1) l s i (s++qK (rQ l i) (l.drop i)):=λk=>by
   induction k with
   |zero=>intro i s hi hsl hil;exact dh 0 _ _ _ _ ⟨λh=>by omega,λ_=>by rw[List.drop_of_length_le<|by omega];simp[qK]⟩
   | succ k ihk=>
    intro i s hi hsl hil;obtain⟨x,hx,hxl⟩|h':=aQ l i
    ·obtain⟨hx1,hx2⟩:=hq x<|List.mem_of_getElem? hx;have hmul:(i+1)*4000020=i*4000020+4000020:=Nat.succ_mul _ _;have hr1:=ihk (i+1) (((s++[32])++x.Lead)++x.Text) (by omega) (by simp only[aac,aad,aae];omega) (by omega);have hr2:=ihk (i+1) ((s++x.Lead)++x.Text) (by omega) (by simp only[aac];omega) (by omega);rw[Jk hx]at hr1 hr2;rw[bc hx,qK];have plain (hg:lm (rQ l i) x.Lead x.Text=x.Lead):s.length+x.Lead.length<=9223372036854775807∧∃y:Pce,l[i]?=some y∧(s++x.Lead).length+y.Text.length<=9223372036854775807∧bN (k+1) l ((s++x.Lead)++y.Text) (i+1) (s++(lm (rQ l i) x.Lead x.Text++(x.Text++qK x.Text (l.drop<|i+1)))):=⟨by omega,x,hx,by simp only[aac];omega,by rw[hg];simpa[aai]using hr2⟩;by_cases h0:(0:Int)<((i:Nat):Int)
     ·by_cases hle:x.Lead=[]
      ·obtain⟨y,hy,hyl⟩|h':=aQ l (i-1)
       rotate_left
       ·omega
       obtain⟨hy1,hy2⟩:=hq y<|List.mem_of_getElem? hy;have hf:=ML y.Text x.Text (by omega) (by omega);have hly:rQ l i=y.Text:=Ly (by omega) hy;cases hb2:fusesT y.Text x.Text with
       | true=>
        rw[hb2]at hf;have hg:lm (rQ l i) x.Lead x.Text=[32]:=by rw[hly,lm,if_pos ⟨hle,λe=>(by rw[e]at hb2;cases hb2),hb2⟩]
        rw[hg];have hr1':bN (k+1) l (((s++[32])++x.Lead)++x.Text) (i+1) (s++([32]++(x.Text++qK x.Text (l.drop<|i+1)))):=by simpa[hle,aai]using hr1
        exact(dh (k+1) _ _ _ _ ⟨λ_=>⟨λ_=>⟨x,hx,λ_=>⟨by omega,i-1,by omega,y,hy,x,hx,_,hf,λ_=>⟨by simp only[aad,aae];omega,x,hx,by simp only[aac,aad,aae];omega,x,hx,by simp only[aac,aad,aae];omega,hr1'⟩,λh=>by(cases h)⟩,λh=>absurd hle h⟩,λh=>absurd h0 h⟩,λh=>absurd hxl h⟩)
       |false=>
        rw[hb2]at hf;exact(dh (k+1) _ _ _ _ ⟨λ_=>⟨λ_=>⟨x,hx,λ_=>⟨by omega,i-1,by omega,y,hy,x,hx,_,hf,λh=>by(cases h),λ_=>⟨x,hx,plain<|by rw[hly,lm,if_neg (λh=>by rw[hb2]at h;exact absurd h.2.2 (by decide))]⟩⟩,λh=>absurd hle h⟩,λh=>absurd h0 h⟩,λh=>absurd hxl h⟩)
      ·exact(dh (k+1) _ _ _ _ ⟨λ_=>⟨λ_=>⟨x,hx,λh=>absurd h hle,λ_=>⟨x,hx,plain<|by rw[lm,if_neg λh=>hle h.1]⟩⟩,λh=>absurd h0 h⟩,λh=>absurd hxl h⟩)
     ·exact(dh (k+1) _ _ _ _ ⟨λ_=>⟨λh=>absurd h h0,λ_=>⟨x,hx,plain<|by rw[lm,if_neg λh=>h.2.1 (by rw[show i=0 by omega];rfl)]⟩⟩,λh=>absurd hxl h⟩)
    ·exact dh (k+1) _ _ _ _ ⟨λh=>absurd h h',λ_=>by rw[List.drop_of_length_le<|by omega];simp[qK]⟩
  have hr:=loop l.length 0 [] (by omega) (by simp) (by omega);rw[show rQ l 0=[]from rfl,List.drop_zero,aaj,el,<-PJ h.1,<-el]at hr;exact qq (l.length+1) _ _ ⟨_,hp,λh=>(by cases h),λ_=>⟨l,wc 0 _ _ ⟨_,e,rfl⟩,hr⟩⟩
mutual
def limK:Tree->Bool
 |.node k _ _ ks=>decide ((k=1->ks.length<=40)∧(k=2->ks.length<=10)∧(k=16->ks.length<=8)∧(k=18->ks.length<=16))&&limKs ks
def limKs:YT->Bool
 |[]=>true
 |t::r=>limK t&&limKs r
end
theorem za(t:Tree):limK t=(decide ((t.kind=1->t.kids.length<=40)∧(t.kind=2->t.kids.length<=10)∧(t.kind=16->t.kids.length<=8)∧(t.kind=18->t.kids.length<=16))&&limKs t.kids):=by cases t;simp only[limK];rfl
mutual
def depK:Tree->Nat
 |.node _ _ _ ks=>depKs ks+1
def depKs:YT->Nat
 |[]=>0
 |t::r=>max (depK t)<|depKs r
end
theorem Od(t:Tree):depK t=depKs t.kids+1:=by cases t;simp only[depK];rfl
mutual
def cntK:Tree->Nat
 |.node _ _ _ ks=>cntKs ks+1
def cntKs:YT->Nat
 |[]=>0
 |t::r=>cntK t+cntKs r
end
theorem sL(t:Tree):cntK t=cntKs t.kids+1:=by cases t;simp only[cntK];rfl
theorem zk:∀ks:YT,ks.length<=cntKs ks
 |[]=>aaf _
 |t::r=>by have :=zk r;have :=sL t;simp only[cntKs,aad];omega
theorem sP:∀{ks:YT} {i:Nat} {u:Tree},ks[i]?=some u->cntK u<=cntKs ks
 |[],i,t,h=>by simp at h
 |u::r,0,t,h=>by simp only[List.getElem?_cons_zero,aab]at h;subst h;simp only[cntKs];omega
 |u::r,i+1,t,h=>by have :=sP (ks:=r) (i:=i) (by simpa using h);simp only[cntKs];omega
mutual
theorem cnt_bulk:∀t:Tree,cntK t<=tbulk t
 |.node _ _ _ ks=>by have :=cnt_bulks ks;simp only[cntK,tbulk];omega
theorem cnt_bulks:∀ks:YT,cntKs ks<=kbulk ks
 |[]=>aaf _
 |t::r=>by have :=cnt_bulk t;have :=cnt_bulks r;simp only[cntKs,kbulk];omega
end
mutual
theorem dep_cnt:∀t:Tree,depK t<=cntK t
 |.node _ _ _ ks=>by have :=dep_cnts ks;simp only[cntK,depK];omega
theorem dep_cnts:∀ks:YT,depKs ks<=cntKs ks
 |[]=>aaf _
 |t::r=>by have :=dep_cnt t;have :=dep_cnts r;simp only[cntKs,depKs];omega
end
theorem GT{L:Nat->Tree->Int->Nat->Int->Prop}{S:Tree->Int->Prop}(t:Tree)(ht:cntK t<=1000000000)(hS:∀(i:Nat) (u:Tree),t.kids[i]?=some u->S u (depK u))
  (r:∀m (z:Int) (i:Nat) (x:Int),((i<t.kids.length)->∃u,t.kids[i]?=some u∧∃n,S u n∧i+1<=9223372036854775807∧L m t (max z n) (i+1) x)∧((¬i<t.kids.length)->InI (z+1)∧z+1=x)->L (m+1) t z i x):∃m,L m t 0 0 (depK t):=by
 have hc:=sL t;have hl:=zk t.kids;have hd:=dep_cnts t.kids;have loop:∀k i (z:Nat),t.kids.length-i<=k->z<=1000000000->L (k+1) t z i ((max z (depKs<|t.kids.drop i)+1:Nat):Int):=λk=>by
  have fin:∀m i (z:Nat),¬i<t.kids.length->z<=1000000000->L (m+1) t z i ((max z (depKs<|t.kids.drop i)+1:Nat):Int):=λm i z hi hz=>r m _ _ _ ⟨λh=>absurd h hi,λ_=>⟨by constructor<;>omega,by rw[List.drop_of_length_le<|by omega];simp only[depKs];omega⟩⟩
  induction k with
  |zero=>intro i z hi hz;exact fin 0 i z (by omega) hz
  | succ k ihk=>
   intro i z hi hz;obtain⟨u,hu,hul⟩|h':=aQ t.kids i
   ·have h1:=sP hu;have h2:=dep_cnt u;have :=ihk (i+1) (max z<|depK u) (by omega) (by omega);refine r (k+1) _ _ _ ⟨λ_=>⟨u,hu,_,hS i u hu,by omega,?_⟩,λh=>absurd hul h⟩;rw[bc hu,depKs];rw[show max ((z:Nat):Int) ((depK u:Nat):Int)=((max z (depK u):Nat):Int) by omega,<-Nat.max_assoc];exact this
   ·exact fin _ i z h' hz
 have :=loop t.kids.length 0 0 (by omega) (by omega);rw[List.drop_zero,Nat.zero_max,<-Od]at this;exact⟨_,this⟩
theorem LQ:∀t:Tree,cntK t<=1000000000->jZ t (depK t):=cP λt ih ht=>by have J:=sL t;obtain⟨m,G⟩:=GT (L:=mx) (S:=jZ) t ht (λi u E=>ih i u E (by have :=sP E;omega)) λm z i x h=>Au m t z i x h;exact Bv m _ _ G
theorem MU:∀t:Tree,cntK t<=1000000000->fc t (depK t):=cP λt ih ht=>by have J:=sL t;obtain⟨m,G⟩:=GT (L:=gX) (S:=fc) t ht (λi u E=>ih i u E (by have :=sP E;omega)) (λm z i x h=>wu m t z i x ⟨λhi=>by obtain⟨u,E,n,hn,_,hr⟩:=h.1 hi;exact⟨u,E,n,hn,hr⟩,h.2⟩);exact wH m _ _ G
theorem Ld:∀t:Tree,cntK t<=1000000000->gL t (limK t):=cP λt ih ht=>by
 have hl:=zk t.kids;have hc:=sL t;have kids:∀k i,t.kids.length-i<=k->aH (k+1) t i (limKs<|t.kids.drop i):=λk=>by
  have fin:∀m i,¬i<t.kids.length->aH (m+1) t i (limKs<|t.kids.drop i):=λm i hi=>jM m _ _ _ ⟨λh=>absurd h hi,λ_=>by rw[List.drop_of_length_le<|by omega];rfl⟩
  induction k with
  |zero=>intro i hi;exact fin 0 i (by omega)
  | succ k ihk=>
   intro i hi;obtain⟨u,hu,hul⟩|h':=aQ t.kids i
   ·have :=sP hu;have hb:=ih i u hu (by omega);rw[bc hu,limKs];cases h:limK u with
    |false=>rw[h]at hb;exact jM (k+1) _ _ _ ⟨λ_=>⟨u,hu,_,hb,λ_=>rfl,λh=>(by cases h)⟩,λh=>absurd hul h⟩
    |true=>rw[h]at hb;exact jM (k+1) _ _ _ ⟨λ_=>⟨u,hu,_,hb,λh=>(by cases h),λ_=>⟨by omega,ihk (i+1)<|by omega⟩⟩,λh=>absurd hul h⟩
   ·exact fin _ i h'
 have hk:=kids t.kids.length 0 (by omega);rw[List.drop_zero]at hk;rw[za];by_cases hall:(t.kind=1->t.kids.length<=40)∧(t.kind=2->t.kids.length<=10)∧(t.kind=16->t.kids.length<=8)∧(t.kind=18->t.kids.length<=16)
 ·rw[decide_eq_true hall,Bool.true_and];refine pq (t.kids.length+1) _ _ ?_
  repeat' (refine And.intro (λ_=>?_) λ_=>?_)
  all_goals first|exact hk|(exfalso;omega)
 ·rw[decide_eq_false hall,Bool.false_and];refine pq (t.kids.length+1) _ _ ?_
  repeat' (refine And.intro (λ_=>?_) λ_=>?_)
  all_goals first|rfl|(exfalso;omega)
structure Vld (t:Tree):Prop where
 shape:shapeK t=true
 lead:leadedT t=true
 lim:limK t=true
 dep:depK t<=40
 size:(rW t).length<=4096
theorem Fc(t:Tree)(ht:tbulk t<=2000000):∃b,bV t b∧(b=true↔Vld t):=by
 have hp:=xT t (by omega);have hcn:=cnt_bulk t;cases h:(shapeK t&&leadedT t)with
 |false=>
  rw[h]at hp;exact⟨false,hG 0 _ _ ⟨_,hp,λh=>(by cases h),λ_=>rfl⟩,λh=>(by cases h),λv=>by rw[v.shape,v.lead]at h;cases h⟩
 | true=>
  rw[h]at hp;have hpr:=ME t ht;rw[h,if_pos rfl]at hpr;simp only[aaa]at h;have hb2:=Ld t (by omega);cases hl:limK t with
  |false=>
   rw[hl]at hb2;exact⟨false,hG 0 _ _ ⟨_,hp,λ_=>⟨_,hb2,λh=>(by cases h),λ_=>rfl⟩,λh=>(by cases h)⟩,λh=>(by cases h),λv=>by rw[v.lim]at hl;cases hl⟩
  |true=>
   rw[hl]at hb2;have hn:=MU t (by omega);by_cases h40:(depK t:Int)<=40
   ·exact⟨_,hG 0 _ _ ⟨_,hp,λ_=>⟨_,hb2,λ_=>⟨_,hn,λ_=>⟨_,hpr,rfl⟩,λh=>absurd h40 h⟩,λh=>(by cases h)⟩,λh=>(by cases h)⟩,λhd=>⟨h.1,h.2,hl,by omega,by have :=of_decide_eq_true hd;omega⟩,λv=>decide_eq_true (by have :=v.size;omega)⟩
   ·exact⟨false,hG 0 _ _ ⟨_,hp,λ_=>⟨_,hb2,λ_=>⟨_,hn,λh=>absurd h h40,λ_=>rfl⟩,λh=>(by cases h)⟩,λh=>(by cases h)⟩,λh=>(by cases h),λv=>by have :=v.dep;omega⟩
theorem Mc:∀t:Tree,cntK t<=1000000000->nf t (limK t):=cP λt ih ht=>by
 have hl:=zk t.kids;have hc:=sL t;have kids:∀k i,t.kids.length-i<=k->dg (k+1) t i (limKs<|t.kids.drop i):=λk=>by
  have fin:∀m i,¬i<t.kids.length->dg (m+1) t i (limKs<|t.kids.drop i):=λm i hi=>oX m _ _ _ ⟨λh=>absurd h hi,λ_=>by rw[List.drop_of_length_le<|by omega];rfl⟩
  induction k with
  |zero=>intro i hi;exact fin 0 i (by omega)
  | succ k ihk=>
   intro i hi;obtain⟨u,hu,hul⟩|h':=aQ t.kids i
   ·have :=sP hu;have hb:=ih i u hu (by omega);rw[bc hu,limKs];cases h:limK u with
    |false=>rw[h]at hb;exact oX (k+1) _ _ _ ⟨λ_=>⟨u,hu,_,hb,λ_=>rfl,λh=>(by cases h)⟩,λh=>absurd hul h⟩
    |true=>rw[h]at hb;exact oX (k+1) _ _ _ ⟨λ_=>⟨u,hu,_,hb,λh=>(by cases h),λ_=>⟨by omega,ihk (i+1)<|by omega⟩⟩,λh=>absurd hul h⟩
   ·exact fin _ i h'
 have hk:=kids t.kids.length 0 (by omega);rw[List.drop_zero]at hk;rw[za];by_cases hall:(t.kind=1->t.kids.length<=40)∧(t.kind=2->t.kids.length<=10)∧(t.kind=16->t.kids.length<=8)∧(t.kind=18->t.kids.length<=16)
 ·rw[decide_eq_true hall,Bool.true_and];refine uo (t.kids.length+1) _ _ ?_
  repeat' (refine And.intro (λ_=>?_) λ_=>?_)
  all_goals first|exact hk|(exfalso;omega)
 ·rw[decide_eq_false hall,Bool.false_and];refine uo (t.kids.length+1) _ _ ?_
  repeat' (refine And.intro (λ_=>?_) λ_=>?_)
  all_goals first|rfl|(exfalso;omega)
def dc(E:Bool):Prop:=qS 8 []<|.bool E
def Ap(E:YB)(G:Tree)(J O:Int):Prop:=qS 19 [.str E]<|.tup [.agg<|am G,qi J,qi O]
def oe(E:List ai)(G J:Int)(O:ak):Prop:=qS 20 [.row 6<|List.map ai.w E,qi G,qi J]<|.agg<|ak.c O
def pi(E:Bool):Prop:=qS 8 []<|.bool E
def lH(E:YT)(G:Int)(J:Bool):Prop:=qS 3 [.row 4<|kidsV E,qi G]<|.bool J
def jO(E:YI)(G:Int)(J:Bool):Prop:=qS 4 [.row 1<|List.map (V.int .i64) E,qi G]<|.bool J
def lF(E:YI)(G:Int)(J:Bool):Prop:=qS 5 [.row 1<|List.map (V.int .i64) E,qi G]<|.bool J
def mR(m:Nat)(E:List ai)(G J:Int)(a:Nat)(O:ak):Prop:=z5 m [] Tryz.f20 (z3<|.agg<|ak.c O) (xI<|cB<|ac Tryz.f20) [.blk 0,.seq<|xA<|ac Tryz.f20] 29 [(1,qi G),(2,qi J),(6,.ptr 0 0),(9,.row 6<|List.map ai.w E),(10,qi (E.length:Int)),(11,qi (a:Int))] ⟨1,[(0,vD 0 (.bool false) [] 0)]⟩
theorem FB(m:Nat)(p0:List ai)(p1 p2:Int)(r0:ak)(h:mR m p0 p1 p2 0 r0):oe p0 p1 p2 r0:=by
 refine⟨I,I,?_⟩;refine qA 29 [] func20 λK hK=>?_;exact gR 10 I<|gV 10 (qi (p0.length:Int)) I (aK<|az ai.w _) I<|gLB 9 I (az ai.w _) λa=>gR 4 I<|go_loop m<|qW hK h [0]
theorem xS(m:Nat)(E:List ai)(J O:Int)(b:Nat)(G:ak)(h:z8 (b<E.length) (∃a,E[b]?=some a∧y5 a.Id J (y5 a.Field O (a.V_=G)<|b+1<=9223372036854775807∧mR m E J O (b+1) G) (b+1<=9223372036854775807∧mR m E J O (b+1) G))<|(ak.mk 0 false [] 0)=G):mR (m+1) E J O b G:=by
 refine qj λK j1 U d=>?_;refine gR 6 rfl<|qXh 12 rfl rfl rfl h bx bw ?_ ?_<;>intro Z h;refine gR 7 I ?_;obtain⟨a,c,h⟩:=h;refine gY (ar (an (f:=ai.w) c) ab rfl rfl rfl rfl) rfl rfl<|gR 12 rfl<|qXeZ 19 18 rfl rfl rfl rfl h ?_ ?_<;>intro Z h;refine gR 7 rfl<|qXe 24 rfl rfl rfl h ?_ ?_<;>intro Z h;refine gR 11 I<|go_xloopR<|gR 2 I ?_;subst h;exact go_sub (F':=(mkF 29 0 [(6,.ptr 0 0)])) (H':=⟨1,[(0,.var 42<|ak.c a.V_)]⟩) [0] [] I U pq1 (pqo1 I I) I<|qN [.cell 6 42];refine gR 5 I ?_;obtain⟨hb,h⟩:=h;exact gR 1 I<|gV 27 (qi ((b+1:Nat):Int)) I (al (by omega)<|by omega) I<|gR 2 I<|go_xloop<|qW U h [0];refine gR 12 I ?_;obtain⟨hb,h⟩:=h;exact gR 1 I<|gV 27 (qi ((b+1:Nat):Int)) I (al (by omega)<|by omega) I<|gR 2 I<|go_xloop<|qW U h [0];refine gR 3 I<|go_xloopE<|gR 9 I ?_;subst h;exact go_sub (F':=(mkF 29 0 [(6,.ptr 0 0)])) (H':=⟨1,[(0,vD ((ak.mk 0 false [] 0).N) (.bool<|(ak.mk 0 false [] 0).Flag) ((ak.mk 0 false [] 0).Text)<|(ak.mk 0 false [] 0).Ref)]⟩) [0] [] I U pq1 (pqo1 I I) I<|qN [.cell 6 42]
theorem vb(m:Nat)(E:Bool)(h:∃d j f,Ap [109,111,100,117,108,101,32,77,32,100,101,102,32,102,40,120,58,32,73,110,116,41,58,32,73,110,116,32,61,32,102,40,120,41] d j f∧∃e g i,ef [d] 1048576 e g i∧((f=0)->((i=0)->((g=1048584)->∃a,oe e.Cells 1048582 4 a∧((a.N=16∧a.Flag=false∧a.Text=[]∧a.Ref=1048578)->∃b,oe e.Cells 1048583 4 b∧((b.N=17∧b.Flag=false∧b.Text=[]∧b.Ref=1048579)->∃c,oe e.Cells 1048584 4 c∧(ep c.N c.Flag c.Text c.Ref 12 false [] 1048579)=E)∧((¬(b.N=17∧b.Flag=false∧b.Text=[]∧b.Ref=1048579))->false=E))∧((¬(a.N=16∧a.Flag=false∧a.Text=[]∧a.Ref=1048578))->false=E))∧((g≠1048584)->false=E))∧((i≠0)->false=E))∧((f≠0)->false=E)):pi E:=by
 refine⟨I,I,?_⟩;refine qA 50 [] func8 λK G=>?_;refine gR 7 I ?_;obtain⟨d,j,f,l,h⟩:=h;refine qC0 l I<|gR 14 I<|gHR 1 (kidsV [d]) I (rG d) I<|gFR 1 I (dS _) I I ?_;obtain⟨e,g,i,n,h⟩:=h;refine qC0 n rfl<|gR 15 rfl<|qBeZ 21 20 rfl rfl rfl rfl h ?_ ?_<;>intro h;refine gR 4 rfl<|qBeZ 25 24 rfl rfl rfl rfl h ?_ ?_<;>intro h;refine gR 4 rfl<|qBeZ 29 28 rfl rfl rfl rfl h ?_ ?_<;>intro h;refine gR 2 I ?_;obtain⟨a,o,h⟩:=h;refine qC0 o rfl<|gR 1 rfl<|gY (v:=.bool<|ep a.N a.Flag a.Text a.Ref 16 false [] 1048578) (yy (neg:=false) (r:=(ep a.N a.Flag a.Text a.Ref 16 false [] 1048578)) (by kernel_rfl) rfl rfl rfl rfl<|vq underlying42 (by kernel_rfl) (by decide) ⟨rfl,rfl,rfl,rfl⟩ underlying3 underlying4 underlying9 underlying3 _ _ _ _ _ _ _ _) rfl rfl<|gR 2 rfl<|qBhZ 36 35 rfl rfl rfl rfl h Bn AZ ?_ ?_<;>intro h;refine gR 2 I ?_;obtain⟨b,p,h⟩:=h;refine qC0 p rfl<|gR 1 rfl<|gY (v:=.bool<|ep b.N b.Flag b.Text b.Ref 17 false [] 1048579) (yy (neg:=false) (r:=(ep b.N b.Flag b.Text b.Ref 17 false [] 1048579)) (by kernel_rfl) rfl rfl rfl rfl<|vq underlying42 (by kernel_rfl) (by decide) ⟨rfl,rfl,rfl,rfl⟩ underlying3 underlying4 underlying9 underlying3 _ _ _ _ _ _ _ _) rfl rfl<|gR 2 rfl<|qBhZ 43 42 rfl rfl rfl rfl h Bn AZ ?_ ?_<;>intro h;refine gR 2 I ?_;obtain⟨c,k,h⟩:=h;refine qC0 k rfl<|gR 1 rfl<|gY (v:=.bool<|ep c.N c.Flag c.Text c.Ref 12 false [] 1048579) (yy (neg:=false) (r:=(ep c.N c.Flag c.Text c.Ref 12 false [] 1048579)) (by kernel_rfl) rfl rfl rfl rfl<|vq underlying42 (by kernel_rfl) (by decide) ⟨rfl,rfl,rfl,rfl⟩ underlying3 underlying4 underlying9 underlying3 _ _ _ _ _ _ _ _) rfl rfl<|gR 5 rfl ?_;subst h;exact qN [.tmp 0];refine gR 10 I ?_;subst h;exact qN [.tmp 0];refine gR 17 I ?_;subst h;exact qN [.tmp 0];refine gR 24 I ?_;subst h;exact qN [.tmp 0];refine gR 28 I ?_;subst h;exact qN [.tmp 0];refine gR 32 I ?_;subst h;exact qN [.tmp 0]
theorem kQ(m:Nat)(G:YT)(J:Int)(E:Bool)(h:∃b,dX (Tree.node 0 [] [] G) b∧((200<b)->∃i,dc i∧i=E)∧((¬200<b)->∃j c d,ef G J j c d∧∃k e f,fR G J k e f∧∃g,dc g∧((g=true)->((c=e)->((d=f)->∃a,jh j.Cells k.Cells a∧a=E)∧((d≠f)->false=E))∧((c≠e)->false=E))∧((g=false)->false=E))):lH G J E:=by
 refine⟨I,I,?_⟩;refine qA 48 [] func3 λK O=>?_;refine gR 10 I ?_;obtain⟨b,p,h⟩:=h;refine gC0 p (by kernel_rfl) rfl rfl (.cons (.agg<|.cons .rfl<|.cons .rfl<|.cons (.nil 1)<|.cons .rfl .nil) .nil) rfl<|gR 3 rfl<|qBd 14 rfl rfl rfl h ?_ ?_<;>intro h;refine gR 3 I ?_;obtain⟨i,q,h⟩:=h;refine qC0 q I<|gR 5 I ?_;subst h;exact qN [.tmp 4];refine gR 7 I ?_;obtain⟨j,c,d,r,h⟩:=h;refine qC0 r I<|gR 14 I ?_;obtain⟨k,e,f,l,h⟩:=h;refine qC0 l I<|gR 12 I ?_;obtain⟨g,n,h⟩:=h;refine qC0 n rfl<|gR 1 rfl<|qBiZ 31 30 rfl rfl rfl rfl h ?_ ?_<;>intro h;refine gR 5 rfl<|qBeZ 36 35 rfl rfl rfl rfl h ?_ ?_<;>intro h;refine gR 5 rfl<|qBeZ 41 40 rfl rfl rfl rfl h ?_ ?_<;>intro h;refine gR 4 I ?_;obtain⟨a,o,h⟩:=h;refine qC0 o I<|gR 5 I ?_;subst h;exact qN [.tmp 4];refine gR 10 I ?_;subst h;exact qN [.tmp 4];refine gR 15 I ?_;subst h;exact qN [.tmp 4];refine gR 20 I ?_;subst h;exact qN [.tmp 4]
theorem jj(m:Nat)(G:YI)(J:Int)(E:Bool)(h:∃c,jl G c∧((c=false)->∃j,dc j∧j=E)∧((c=true)->∃d,ew G d∧∃k e f,ef d J k e f∧∃l g i,fR d J l g i∧∃a,dc a∧((a=true)->((e=g)->((f=i)->∃b,jh k.Cells l.Cells b∧b=E)∧((f≠i)->false=E))∧((e≠g)->false=E))∧((a=false)->false=E))):jO G J E:=by
 refine⟨I,I,?_⟩;refine qA 50 [] func4 λK O=>?_;refine gR 9 I ?_;obtain⟨c,s,h⟩:=h;refine qC0 s rfl<|gR 3 rfl<|qBh 14 rfl rfl rfl h bI bJ ?_ ?_<;>intro h;refine gR 3 I ?_;obtain⟨j,t,h⟩:=h;refine qC0 t I<|gR 5 I ?_;subst h;exact qN [.tmp 4];refine gR 6 I ?_;obtain⟨d,n,h⟩:=h;refine qC0 n I<|gR 7 I ?_;obtain⟨k,e,f,o,h⟩:=h;refine qC0 o I<|gR 14 I ?_;obtain⟨l,g,i,p,h⟩:=h;refine qC0 p I<|gR 12 I ?_;obtain⟨a,q,h⟩:=h;refine qC0 q rfl<|gR 1 rfl<|qBiZ 33 32 rfl rfl rfl rfl h ?_ ?_<;>intro h;refine gR 5 rfl<|qBeZ 38 37 rfl rfl rfl rfl h ?_ ?_<;>intro h;refine gR 5 rfl<|qBeZ 43 42 rfl rfl rfl rfl h ?_ ?_<;>intro h;refine gR 4 I ?_;obtain⟨b,r,h⟩:=h;refine qC0 r I<|gR 5 I ?_;subst h;exact qN [.tmp 4];refine gR 10 I ?_;subst h;exact qN [.tmp 4];refine gR 15 I ?_;subst h;exact qN [.tmp 4];refine gR 20 I ?_;subst h;exact qN [.tmp 4]
def bY(m:Nat)(a:Int)(b d:aL)(e:Nat)(E:Bool):Prop:=z5 m [] f5 (z3<|.bool E) (xK<|xF<|ac f5) [.blk 0,.seq<|xF<|xF<|cB<|ac f5] 90 [(6,.ptr 0 0),(9,.ptr 1 0),(12,qi<|4194304+a),(13,qi (e:Int))] ⟨2,[(1,.var 30<|aL.c d),(0,.var 30<|aL.c b)]⟩
theorem kO(m:Nat)(p0:YI)(p1:Int)(r0:Bool)(h:∃f,jl p0 f∧((f=false)->∃j,dc j∧j=r0)∧((f=true)->∃a,la p1 1000 a∧∃g,ew p0 g∧∃b k i,ef g 1048576 b k i∧InI (5242880+a)∧∃d l e,ef g (5242880+a) d l e∧((i≠0)->false=r0)∧((i=0)->((e≠0)->false=r0)∧((e=0)->((b.Cells.length≠d.Cells.length)->false=r0)∧((b.Cells.length=d.Cells.length)->InI (4194304+a)∧bY m a b d 0 r0))))):lF p0 p1 r0:=by
 refine⟨I,I,?_⟩;refine qA 90 [] func5 λK hK=>?_;refine gR 9 I ?_;obtain⟨f,n,h⟩:=h;refine qC0 n rfl<|gR 3 rfl<|qXh 17 rfl rfl rfl h bI bJ ?_ ?_<;>intro hd h;refine gR 3 I ?_;obtain⟨j,o,h⟩:=h;refine qC0 o I<|gR 5 I ?_;subst h;exact qN [.tmp 4];refine gR 6 I ?_;obtain⟨a,p,h⟩:=h;refine qC0 p I<|gR 6 I ?_;obtain⟨g,q,h⟩:=h;refine qC0 q I<|gR 6 I ?_;obtain⟨b,k,i,r,h⟩:=h;refine qC0 r I<|gR 14 I ?_;obtain⟨hb,h⟩:=h;refine gR 1 I<|gV 32 (qi<|5242880+a) I (al hb I) I ?_;obtain⟨d,l,e,s,h⟩:=h;refine qC0 s rfl<|gR 16 rfl<|qXhZ 39 38 rfl rfl rfl rfl h iS eY ?_ ?_<;>intro hd h;refine gR 15 I<|go_sub (F':=(mkF 90 0 [])) (H':=⟨0,[]⟩) [] [] I hK trivial trivial I<|gR 7 I ?_;subst h;exact qN [.tmp 4];refine gR 4 rfl<|qXhZ 43 42 rfl rfl rfl rfl h iS eY ?_ ?_<;>intro hd h;refine gR 11 I<|go_sub (F':=(mkF 90 0 [])) (H':=⟨0,[]⟩) [] [] I hK trivial trivial I<|gR 7 I ?_;subst h;exact qN [.tmp 4];refine gR 3 rfl<|gV 46 (qi (b.Cells.length:Int)) rfl (aK<|az ai.w _) rfl<|gLB 45 rfl (az ai.w _) λt=>gR 3 rfl<|gV 49 (qi (d.Cells.length:Int)) rfl (aK<|az ai.w _) rfl<|gLB 48 rfl (az ai.w _) λv=>gR 4 rfl<|qXh 51 rfl rfl rfl h Qk Ps ?_ ?_<;>intro hd h;refine gR 1 I<|go_sub (F':=(mkF 90 0 [])) (H':=⟨0,[]⟩) [] [] I hK trivial trivial I<|gR 7 I ?_;subst h;exact qN [.tmp 4];refine gR 3 I<|go_sub (F':=(mkF 90 0 [(1,qi a),(6,.ptr 0 0),(9,.ptr 1 0)])) (H':=⟨2,[(1,.var 30<|aL.c d),(0,.var 30<|aL.c b)]⟩) [0,1] [] I hK pq3 (pqo2 I I I I) I<|gR 3 I ?_;obtain⟨hb,h⟩:=h;exact gR 1 I<|gV 53 (qi<|4194304+a) I (al hb I) I<|gR 10 I<|go_loop m<|qW hK h [0,1]
theorem kA(m:Nat)(d:Int)(g i:aL)(e:Nat)(G:Bool)(h:z8 (e<g.Cells.length) (∃a,g.Cells[e]?=some a∧InI (a.Id+(4194304+d))∧y6 a.V_.Ref 0 (InI (a.V_.Ref+(4194304+d))∧∃b,i.Cells[e]?=some b∧((¬((a.Id+(4194304+d))=b.Id∧a.Field=b.Field∧a.V_.N=b.V_.N∧a.V_.Flag=b.V_.Flag∧a.V_.Text=b.V_.Text∧(a.V_.Ref+(4194304+d))=b.V_.Ref))->false=G)∧(((a.Id+(4194304+d))=b.Id∧a.Field=b.Field∧a.V_.N=b.V_.N∧a.V_.Flag=b.V_.Flag∧a.V_.Text=b.V_.Text∧(a.V_.Ref+(4194304+d))=b.V_.Ref)->bY m d g i (e+1) G)) (∃c,i.Cells[e]?=some c∧((¬((a.Id+(4194304+d))=c.Id∧a.Field=c.Field∧a.V_.N=c.V_.N∧a.V_.Flag=c.V_.Flag∧a.V_.Text=c.V_.Text∧a.V_.Ref=c.V_.Ref))->false=G)∧(((a.Id+(4194304+d))=c.Id∧a.Field=c.Field∧a.V_.N=c.V_.N∧a.V_.Flag=c.V_.Flag∧a.V_.Text=c.V_.Text∧a.V_.Ref=c.V_.Ref)->bY m d g i (e+1) G)))<|∃j,dc j∧j=G):bY (m+1) d g i e G:=by
 refine qj λK O J q=>?_;refine gR 7 rfl<|gV 57 (qi (g.Cells.length:Int)) rfl (aK<|az ai.w _) rfl<|gLB 56 rfl (az ai.w _) λo=>gR 3 rfl<|qXh 58 rfl rfl rfl h bx bw ?_ ?_<;>intro E h;refine gR 10 I ?_;obtain⟨a,k,h⟩:=h;refine gY (ar (an (f:=ai.w) k) ab I I I I) I I<|gR 10 I ?_;obtain⟨hb,h⟩:=h;refine gR 1 rfl<|gV 69 (qi<|a.Id+(4194304+d)) rfl (al hb rfl) rfl<|gR 13 rfl<|qXh 74 rfl rfl rfl h iS eY ?_ ?_<;>intro E h;refine gR 6 I ?_;obtain⟨hb,h⟩:=h;refine gR 1 I<|gV 79 (qi<|a.V_.Ref+(4194304+d)) I (al hb I) I<|gR 6 I<|qDs [2,1] 7 7<|qDr [(0,3),(1,2),(2,3),(3,0)] I I ?_;obtain⟨b,l,h⟩:=h;refine cc 4 I (by kernel_rfl) (ar (an (f:=ai.w) l) ab I I I I) I I ?_;refine qDr [(5,0)] rfl rfl<|cc (v:=.bool<|!((a.Id+(4194304+d))==b.Id&&(a.Field==b.Field&&ep a.V_.N a.V_.Flag a.V_.Text (a.V_.Ref+(4194304+d)) b.V_.N b.V_.Flag b.V_.Text b.V_.Ref))) 6 rfl (by kernel_rfl) (yy (neg:=true) (r:=((a.Id+(4194304+d))==b.Id&&(a.Field==b.Field&&ep a.V_.N a.V_.Flag a.V_.Text (a.V_.Ref+(4194304+d)) b.V_.N b.V_.Flag b.V_.Text b.V_.Ref))) (by kernel_rfl) rfl rfl rfl rfl<|BZ underlying42 (by kernel_rfl) (by decide) ⟨rfl,rfl,rfl,rfl⟩ underlying3 underlying4 underlying9 underlying3 underlying44 (by kernel_rfl) (by decide) ⟨rfl,rfl,rfl⟩ underlying3 underlying3 rfl (by kernel_rfl) _ _ _ _ _ _ _ _ _ _ _ _) rfl rfl ?_;refine qDe<|gR 1 rfl<|qXh 88 rfl rfl rfl h (λE=>BR<|bI E) (λE=>BP<|bJ E) ?_ ?_<;>intro E h;refine gR 9 I<|go_xloopR<|gR 2 I ?_;subst h;exact qN [.tmp 4];exact gR 7 I<|gV 60 (qi ((e+1:Nat):Int)) I (al (by have :=o;omega)<|by omega) I<|gR 2 I<|go_xloop<|qW J h [0,1];refine gR 4 I<|qDs [2,1] 7 7<|qDr [(0,3),(1,2),(2,3),(3,0)] I I ?_;obtain⟨c,n,h⟩:=h;refine cc 4 I (by kernel_rfl) (ar (an (f:=ai.w) n) ab I I I I) I I ?_;refine qDr [(5,0)] rfl rfl<|cc (v:=.bool<|!((a.Id+(4194304+d))==c.Id&&(a.Field==c.Field&&ep a.V_.N a.V_.Flag a.V_.Text a.V_.Ref c.V_.N c.V_.Flag c.V_.Text c.V_.Ref))) 6 rfl (by kernel_rfl) (yy (neg:=true) (r:=((a.Id+(4194304+d))==c.Id&&(a.Field==c.Field&&ep a.V_.N a.V_.Flag a.V_.Text a.V_.Ref c.V_.N c.V_.Flag c.V_.Text c.V_.Ref))) (by kernel_rfl) rfl rfl rfl rfl<|BZ underlying42 (by kernel_rfl) (by decide) ⟨rfl,rfl,rfl,rfl⟩ underlying3 underlying4 underlying9 underlying3 underlying44 (by kernel_rfl) (by decide) ⟨rfl,rfl,rfl⟩ underlying3 underlying3 rfl (by kernel_rfl) _ _ _ _ _ _ _ _ _ _ _ _) rfl rfl ?_;refine qDe<|gR 1 rfl<|qXh 88 rfl rfl rfl h (λE=>BR<|bI E) (λE=>BP<|bJ E) ?_ ?_<;>intro E h;refine gR 9 I<|go_xloopR<|gR 2 I ?_;subst h;exact qN [.tmp 4];exact gR 7 I<|gV 60 (qi ((e+1:Nat):Int)) I (al (by have :=o;omega)<|by omega) I<|gR 2 I<|go_xloop<|qW J h [0,1];refine gR 3 I<|go_xloopE<|gR 4 I ?_;obtain⟨j,p,h⟩:=h;refine qC0 p I<|gR 4 I ?_;subst h;exact qN [.tmp 4]
noncomputable def iP (t:Tree):Bool:= @decide (Vld t) (Classical.propDecidable _)
theorem lj(t:Tree):iP t=true↔Vld t:=by simp[iP]
theorem MM(t:Tree)(ht:tbulk t<=2000000):nd t (iP t):=by
 have no:¬Vld t->iP t=false:=λh=>by rw[Bool.eq_false_iff];exact λhv=>h<|(lj t).1 hv
 have hc:=cnt_bulk t;have h1:=AH t (by omega);cases hs:shapeK t with
 |false=>
  rw[hs]at h1;rw[no (λv=>by have :=v.shape;rw[hs]at this;cases this)];exact js 0 _ _ (⟨_,h1,λ_=>rfl,λh=>by cases h⟩)
 | true=>
  rw[hs]at h1;have h2:=KY t (by omega) hs;cases hl:leadedT t with
  |false=>
   rw[hl]at h2;rw[no (λv=>by have :=v.lead;rw[hl]at this;cases this)];exact js 0 _ _ (⟨_,h1,λh=>(by cases h),λ_=>⟨_,h2,λ_=>rfl,λh=>by cases h⟩⟩)
  | true=>
   rw[hl]at h2;have h3:=Mc t (by omega);cases hm:limK t with
   |false=>
    rw[hm]at h3;rw[no (λv=>by have :=v.lim;rw[hm]at this;cases this)];exact js 0 _ _ (⟨_,h1,λh=>(by cases h),λ_=>⟨_,h2,λh=>(by cases h),λ_=>⟨_,h3,λ_=>rfl,λh=>by cases h⟩⟩⟩)
   | true=>
    rw[hm]at h3;have h4:=LQ t (by omega);by_cases h40:(depK t:Int)<=40
    ·have h5:=PK t ht hs hl;have e:iP t=decide (((rW t).length:Int)<=4096):=by
      by_cases hz:((rW t).length:Int)<=4096
      ·rw[decide_eq_true hz];exact(lj t).2 ⟨hs,hl,hm,by omega,by omega⟩
      ·rw[decide_eq_false hz];exact no (λv=>by have :=v.size;omega)
     rw[e];exact js 0 _ _ (⟨_,h1,λh=>(by cases h),λ_=>⟨_,h2,λh=>(by cases h),λ_=>⟨_,h3,λh=>(by cases h),λ_=>⟨_,h4,λh=>absurd h (by omega),λ_=>⟨_,h5,rfl⟩⟩⟩⟩⟩)
    ·rw[no (λv=>by have :=v.dep;omega)];exact js 0 _ _ (⟨_,h1,λh=>(by cases h),λ_=>⟨_,h2,λh=>(by cases h),λ_=>⟨_,h3,λh=>(by cases h),λ_=>⟨_,h4,λ_=>rfl,λh=>absurd h<|by omega⟩⟩⟩⟩)
theorem Jy(t:Tree)(ht:tbulk t<=2000000):bV t (iP t):=by
 obtain⟨v,h1,h2⟩:=Fc t ht;have :v=iP t:=by
  cases hv:v with
  |true=>rw[hv]at h2;exact((lj t).2 (h2.1 rfl)).symm
  |false=>
   cases E:iP t with
   |false=>rfl
   |true=>have :=h2.2 ((lj t).1 E);rw[hv]at this;cases this
 rw[<-this];exact h1
def AD:List ai->Int->Int->ak
 |[],_,_=>⟨0,false,[],0⟩
 |c::r,i,f=>if c.Id=i∧c.Field=f then c.V_ else AD r i f
theorem Iv(l:List ai)(i f:Int)(G:l.length<=1000000000):oe l i f (AD l i f):=by
 have loop:∀k n,k+n=l.length->mR (k+1) l i f n (AD (l.drop n) i f):=λk=>by
  induction k with
  |zero=>
   intro n hn;refine xS 0 _ _ _ _ _ (⟨λh=>by omega,λ_=>?_⟩);rw[List.drop_of_length_le<|by omega];rfl
  |succ k ih=>
   intro n hn;obtain⟨c,E⟩:∃c,l[n]?=some c:=⟨_,List.getElem?_eq_getElem (by omega)⟩;have :=ih (n+1) (by omega);rw[bq E,AD];refine xS (k+1) _ _ _ _ _ (⟨λ_=>⟨c,E,λh1=>⟨λh2=>?_,λh2=>⟨by omega,?_⟩⟩,λh1=>⟨by omega,?_⟩⟩,λh=>by omega⟩)
   ·rw[if_pos ⟨h1,h2⟩]
   ·rw[if_neg λh=>h2 h.2];exact this
   ·rw[if_neg λh=>h1 h.1];exact this
 exact FB _ _ _ _ _ (by simpa using loop l.length 0 (by omega))
def Kv:YB:=[109,111,100,117,108,101,32,77,32,100,101,102,32,102,40,120,58,32,73,110,116,41,58,32,73,110,116,32,61,32,102,40,120,41]
def bQ:Tree:=(QC Kv).1
end Go.Proofs.YtehhanlhfdoiaaaGreat
