/- Contracts of the functions that the law reaches, part 9. -/
import Derived.Test.YtomplbgchbfjpaaGreatDoorEr8
set_option linter.unusedVariables false
set_option linter.unusedSimpArgs false
namespace Go.Proofs.YtomplbgchbfjpaaGreatDoor
open _root_.Go.Proofs.Tryz
open Go.RowKit Lx Sx
set_option maxHeartbeats 1000000
theorem Mo(a b:List UInt8)(G:a.length≤140737488355328)(hb:b.length≤140737488355328):sk a b (fusesT a b):=sum0_calls rfl rfl λS w ρ xs hx=>by
 simp only[LRel]at hx;obtain⟨x,ys,rfl,h1,y,zs,rfl,h2,rfl⟩:=hx;simp only[VRel]at h1 h2;subst h1 h2;exact(QA a b w G hb).mono λe w' ⟨h1,h2⟩=>⟨_,h1,by simp only[VRel],HJ h2⟩
theorem Dh(a:List UInt8)(f:Bool)(G:a.length≤140737488351232):mR a f (kp false a f):=sum0_calls rfl rfl λS w ρ xs hx=>by
 simp only[LRel]at hx;obtain⟨x,ys,rfl,h1,y,zs,rfl,h2,rfl⟩:=hx;simp only[VRel]at h1 h2;subst h1 h2;exact(OJ a f w (by omega)).mono λe w' ⟨h1,h2⟩=>⟨_,h1,by simp only[VRel],h2▸Chg.refl _ _⟩
abbrev Pce:=aa
def Qp(l:List Pce):Prop:=∀x∈l,x.Lead.length≤1000000∧x.Text.length≤1000010
theorem cZ{a b:List Pce}:Qp (a++b)↔Qp a∧Qp b:=⟨λh=>⟨λx hx=>h x (by simp[hx]),λx hx=>h x (by simp[hx])⟩,λh x hx=>by rcases List.mem_append.1 hx with h1|h1;exact h.1 x h1;exact h.2 x h1⟩
theorem ch{x:Pce}{a:List Pce}:Qp (x::a)↔(x.Lead.length≤1000000∧x.Text.length≤1000010)∧Qp a:=⟨λh=>⟨h x (by simp),λy hy=>h y (by simp[hy])⟩,λh y hy=>by rcases List.mem_cons.1 hy with h1|h1;subst h1;exact h.1;exact h.2 y h1⟩
theorem cM:Qp []:=λx hx=>by cases hx
variable{t:Tree}
theorem bK(k:Nat)(ht:tbulk t≤1000000):∃s,av t (k:Int) s∧s.length≤1000000:=by
 by_cases h:(k:Int)<(t.leads.length:Nat)
 ·obtain⟨s,hs,_⟩|h':=be t.leads k
  ·have :=AE hs;have :=aV t;exact⟨s,sb 0 _ _ _ ⟨λ_=>⟨k,rfl,s,hs,rfl⟩,λh'=>absurd h h'⟩,by omega⟩
  ·omega
 ·exact⟨[],sb 0 _ _ _ ⟨λh'=>absurd h' h,λ_=>rfl⟩,by simp⟩
def Pok(t:Tree):Prop:=∀l,l.length+8*tbulk t≤900000000→∃r,ax l t r∧r.length+1≤l.length+8*tbulk t∧(Qp l→Qp r)
theorem Al{k n:Int}:∀{l:List Tree} {i:Nat},shapeKs k n i l=true→∀j u,l[j]?=some u→iX k n ((i+j:Nat):Int) u.kind=true∧shapeK u=true
 |[],_,_,j,u,h=>by simp at h
 |t::r,i,hs,0,u,h=>by
  simp only[shapeKs,Bool.and_eq_true]at hs;simp at h;subst h;exact⟨hs.1.1,hs.1.2⟩
 |t::r,i,hs,j+1,u,h=>by
  simp only[shapeKs,Bool.and_eq_true]at hs;have :=Al hs.2 j u (by simpa using h);rw[show i+1+j=i+(j+1) by omega]at this;exact this
variable{u:Tree}{i:Nat}
theorem CP(hs:shapeK t=true)(G:t.kids[i]?=some u):shapeK u=true∧iX t.kind t.kids.length i u.kind=true:=by
 rw[cp]at hs;simp only[Bool.and_eq_true]at hs;have :=Al hs.2 i u G;rw[Nat.zero_add]at this;exact⟨this.2,this.1⟩
theorem vM(hs:shapeK t=true):0≤eK t.kind t.kids.length:=by
 rw[cp]at hs;simp only[Bool.and_eq_true,decide_eq_true_eq]at hs;exact hs.1.1
theorem jl(hs:shapeK t=true):(t.kind=2→2≤t.kids.length)∧(t.kind=18→1≤t.kids.length)∧(t.kind=3∨t.kind=4∨t.kind=8∨t.kind=17∨t.kind=22→t.kids.length=1)∧(t.kind=19→t.kids.length=3)∧(t.kind=20∨t.kind=21→t.kids.length=2):=by
 have h:=vM hs;refine⟨λG=>?_,λG=>?_,λG=>?_,λG=>?_,λG=>?_⟩
 ·rw[G]at h;simp only[eK,f0]at h;simp at h;omega
 ·rw[G]at h;simp only[eK,f0]at h;simp at h;omega
 ·rcases G with G|G|G|G|G<;>(rw[G]at h;simp only[eK,f0]at h;simp at h;omega)
 ·rw[G]at h;simp only[eK,f0]at h;simp at h;omega
 ·rcases G with G|G<;>(rw[G]at h;simp only[eK,f0]at h;simp at h;omega)
variable{l r:List Pce}
theorem dn1(M:Nat)(G:t.kind∉[(1:Int)])(h:lL M l t r):ax l t r:=qP M _ _ _ ⟨λe=>absurd (by simp[e]) G,λ_=>h⟩
theorem dn2(M:Nat)(G:t.kind∉[(1:Int),2])(h:mc M l t r):ax l t r:=dn1 (M+1) (λe=>G (by simp only[List.mem_cons,List.not_mem_nil,or_false]at e⊢;omega)) (qd M _ _ _ ⟨λe=>absurd (by simp[e]) G,λ_=>h⟩)
theorem dn3(M:Nat)(G:t.kind∉[(1:Int),2,3])(h:lI M l t r):ax l t r:=dn2 (M+1) (λe=>G (by simp only[List.mem_cons,List.not_mem_nil,or_false]at e⊢;omega)) (qa M _ _ _ ⟨λe=>absurd (by simp[e]) G,λ_=>h⟩)
theorem dn4(M:Nat)(G:t.kind∉[(1:Int),2,3,4])(h:lN M l t r):ax l t r:=dn3 (M+1) (λe=>G (by simp only[List.mem_cons,List.not_mem_nil,or_false]at e⊢;omega)) (pQ M _ _ _ ⟨λe=>absurd (by simp[e]) G,λ_=>h⟩)
theorem dn5(M:Nat)(G:t.kind∉[(1:Int),2,3,4,5])(h:mh M l t r):ax l t r:=dn4 (M+1) (λe=>G (by simp only[List.mem_cons,List.not_mem_nil,or_false]at e⊢;omega)) (qe M _ _ _ ⟨λe=>absurd (by simp[e]) G,λ_=>h⟩)
theorem dn6(M:Nat)(G:t.kind∉[(1:Int),2,3,4,5,6])(h:kY M l t r):ax l t r:=dn5 (M+1) (λe=>G (by simp only[List.mem_cons,List.not_mem_nil,or_false]at e⊢;omega)) (qc M _ _ _ ⟨λe=>absurd (by simp[e]) G,λ_=>h⟩)
theorem dn7(M:Nat)(G:t.kind∉[(1:Int),2,3,4,5,6,7])(h:lm M l t r):ax l t r:=dn6 (M+1) (λe=>G (by simp only[List.mem_cons,List.not_mem_nil,or_false]at e⊢;omega)) (pr M _ _ _ ⟨λe=>absurd (by simp[e]) G,λ_=>h⟩)
theorem dn8(M:Nat)(G:t.kind∉[(1:Int),2,3,4,5,6,7,13])(h:lj M l t r):ax l t r:=dn7 (M+1) (λe=>G (by simp only[List.mem_cons,List.not_mem_nil,or_false]at e⊢;omega)) (pm M _ _ _ ⟨λe=>absurd (by simp[e]) G,λ_=>h⟩)
theorem dn9(M:Nat)(G:t.kind∉[(1:Int),2,3,4,5,6,7,13,14])(h:lq M l t r):ax l t r:=dn8 (M+1) (λe=>G (by simp only[List.mem_cons,List.not_mem_nil,or_false]at e⊢;omega)) (pf M _ _ _ ⟨λe=>absurd (by simp[e]) G,λ_=>h⟩)
theorem QG(M:Nat)(G:t.kind∉[(1:Int),2,3,4,5,6,7,13,14,15])(h:kU M l t r):ax l t r:=dn9 (M+1) (λe=>G (by simp only[List.mem_cons,List.not_mem_nil,or_false]at e⊢;omega)) (pw M _ _ _ ⟨λe=>absurd (by simp[e]) G,λ_=>h⟩)
theorem QZ(M:Nat)(G:t.kind∉[(1:Int),2,3,4,5,6,7,13,14,15,8])(h:lp M l t r):ax l t r:=QG (M+1) (λe=>G (by simp only[List.mem_cons,List.not_mem_nil,or_false]at e⊢;omega)) (pn M _ _ _ ⟨λe=>absurd (by simp[e]) G,λ_=>h⟩)
theorem PF(M:Nat)(G:t.kind∉[(1:Int),2,3,4,5,6,7,13,14,15,8,16])(h:lg M l t r):ax l t r:=QZ (M+1) (λe=>G (by simp only[List.mem_cons,List.not_mem_nil,or_false]at e⊢;omega)) (oZ M _ _ _ ⟨λe=>absurd (by simp[e]) G,λ_=>h⟩)
theorem Qc(M:Nat)(G:t.kind∉[(1:Int),2,3,4,5,6,7,13,14,15,8,16,17])(h:lv M l t r):ax l t r:=PF (M+1) (λe=>G (by simp only[List.mem_cons,List.not_mem_nil,or_false]at e⊢;omega)) (oX M _ _ _ ⟨λe=>absurd (by simp[e]) G,λ_=>h⟩)
theorem QC(M:Nat)(G:t.kind∉[(1:Int),2,3,4,5,6,7,13,14,15,8,16,17,18])(h:kS M l t r):ax l t r:=Qc (M+1) (λe=>G (by simp only[List.mem_cons,List.not_mem_nil,or_false]at e⊢;omega)) (pg M _ _ _ ⟨λe=>absurd (by simp[e]) G,λ_=>h⟩)
theorem QM(M:Nat)(G:t.kind∉[(1:Int),2,3,4,5,6,7,13,14,15,8,16,17,18,19])(h:la M l t r):ax l t r:=QC (M+1) (λe=>G (by simp only[List.mem_cons,List.not_mem_nil,or_false]at e⊢;omega)) (pc M _ _ _ ⟨λe=>absurd (by simp[e]) G,λ_=>h⟩)
theorem Qs(M:Nat)(G:t.kind∉[(1:Int),2,3,4,5,6,7,13,14,15,8,16,17,18,19,20])(h:kW M l t r):ax l t r:=QM (M+1) (λe=>G (by simp only[List.mem_cons,List.not_mem_nil,or_false]at e⊢;omega)) (pj M _ _ _ ⟨λe=>absurd (by simp[e]) G,λ_=>h⟩)
theorem Qk(M:Nat)(G:t.kind∉[(1:Int),2,3,4,5,6,7,13,14,15,8,16,17,18,19,20,21])(h:lw M l t r):ax l t r:=Qs (M+1) (λe=>G (by simp only[List.mem_cons,List.not_mem_nil,or_false]at e⊢;omega)) (po M _ _ _ ⟨λe=>absurd (by simp[e]) G,λ_=>h⟩)
theorem p_5(G:t.kind=5)(ht:tbulk t≤1000000):Pok t:=λl hl=>by
 obtain⟨s1,J,O⟩:=bK 0 ht;have U:=bV t;have M:=0;refine⟨l++[⟨s1,[73,110,116]⟩],?_,by simp;omega,λZ=>by simp only[cZ,ch];exact⟨Z,⟨O,by decide⟩,cM⟩⟩;exact dn4 (M+2) (by rw[G];decide) (qe (M+1) _ _ _ ⟨λ_=>⟨_,J,by simp;omega,rfl⟩,λh=>absurd G h⟩)
theorem p_6(G:t.kind=6)(ht:tbulk t≤1000000):Pok t:=λl hl=>by
 obtain⟨s1,J,O⟩:=bK 0 ht;have U:=bV t;have M:=0;refine⟨l++[⟨s1,[84,101,120,116]⟩],?_,by simp;omega,λZ=>by simp only[cZ,ch];exact⟨Z,⟨O,by decide⟩,cM⟩⟩;exact dn5 (M+2) (by rw[G];decide) (qc (M+1) _ _ _ ⟨λ_=>⟨_,J,by simp;omega,rfl⟩,λh=>absurd G h⟩)
theorem p_7(G:t.kind=7)(ht:tbulk t≤1000000):Pok t:=λl hl=>by
 obtain⟨s1,J,O⟩:=bK 0 ht;have U:=bV t;have M:=0;refine⟨l++[⟨s1,[66,111,111,108]⟩],?_,by simp;omega,λZ=>by simp only[cZ,ch];exact⟨Z,⟨O,by decide⟩,cM⟩⟩;exact dn6 (M+2) (by rw[G];decide) (pr (M+1) _ _ _ ⟨λ_=>⟨_,J,by simp;omega,rfl⟩,λh=>absurd G h⟩)
theorem Sm(G:t.kind=13)(ht:tbulk t≤1000000):Pok t:=λl hl=>by
 obtain⟨s1,J,O⟩:=bK 0 ht;have U:=bV t;have M:=0;refine⟨l++[⟨s1,[116,114,117,101]⟩],?_,by simp;omega,λZ=>by simp only[cZ,ch];exact⟨Z,⟨O,by decide⟩,cM⟩⟩;exact dn7 (M+2) (by rw[G];decide) (pm (M+1) _ _ _ ⟨λ_=>⟨_,J,by simp;omega,rfl⟩,λh=>absurd G h⟩)
theorem Sw(G:t.kind=14)(ht:tbulk t≤1000000):Pok t:=λl hl=>by
 obtain⟨s1,J,O⟩:=bK 0 ht;have U:=bV t;have M:=0;refine⟨l++[⟨s1,[102,97,108,115,101]⟩],?_,by simp;omega,λZ=>by simp only[cZ,ch];exact⟨Z,⟨O,by decide⟩,cM⟩⟩;exact dn8 (M+2) (by rw[G];decide) (pf (M+1) _ _ _ ⟨λ_=>⟨_,J,by simp;omega,rfl⟩,λh=>absurd G h⟩)
theorem Sp(G:t.kind=15)(ht:tbulk t≤1000000):Pok t:=λl hl=>by
 obtain⟨s1,J,O⟩:=bK 0 ht;have U:=bV t;have M:=0;refine⟨l++[⟨s1,[63]⟩],?_,by simp;omega,λZ=>by simp only[cZ,ch];exact⟨Z,⟨O,by decide⟩,cM⟩⟩;exact dn9 (M+2) (by rw[G];decide) (pw (M+1) _ _ _ ⟨λ_=>⟨_,J,by simp;omega,rfl⟩,λh=>absurd G h⟩)
theorem wR{l:List Tree}(G:l[0]?=some u):tbulk u≤kbulk l:=bt G
theorem Cj{l:List Tree}{v:Tree}(G:l[0]?=some u)(h1:l[1]?=some v):tbulk u+tbulk v≤kbulk l:=by
 match l,G,h1 with
 |a::r,G,h1=>simp at G;subst G;have :=bt (ks:=r) (i:=0) (by simpa using h1);simp only[kbulk];omega
theorem Oi{l:List Tree}{v x:Tree}(G:l[0]?=some u)(h1:l[1]?=some v)(h2:l[2]?=some x):tbulk u+tbulk v+tbulk x≤kbulk l:=by
 match l,G,h1,h2 with
 |a::r,G,h1,h2=>simp at G;subst G;have :=Cj (l:=r) (by simpa using h1) (by simpa using h2);simp only[kbulk];omega
theorem p_3(J:t.kind=3)(hs:shapeK t=true)(ht:tbulk t≤1000000)(ih:∀(i:Nat) (u:Tree),t.kids[i]?=some u→Pok u):Pok t:=λl hl=>by
 have htp:=bV t;have htx:=cx t;have hn:=jl hs;have M:=0;have hkn:t.kids.length=1:=hn.2.2.1 (by simp[J]);obtain⟨O,G,_⟩|h':=be t.kids 0
 rotate_left
 ·omega
 have Z:tbulk O+1≤tbulk t:=by
  have hb:=aV t;have hx:=wR G;omega
 obtain⟨s1,g1,b1⟩:=bK 0 ht;obtain⟨s2,g2,b2⟩:=bK 1 ht;obtain⟨s3,g3,b3⟩:=bK 2 ht;have q1:Qp l→Qp (l++[⟨s1,[116,121,112,101]⟩,⟨s2,t.text⟩,⟨s3,[61]⟩]):=λU=>by simp only[cZ,ch];exact⟨U,⟨b1,by decide⟩,⟨b2,by omega⟩,⟨b3,by decide⟩,cM⟩
 obtain⟨r0,e0,z0,y0⟩:=ih 0 O G (l++[⟨s1,[116,121,112,101]⟩,⟨s2,t.text⟩,⟨s3,[61]⟩]) (by first|omega|(simp only[List.length_append,List.length_cons,List.length_nil];omega))
 try simp only[List.length_append,List.length_cons,List.length_nil]at z0
 refine⟨r0,?_,by first|omega|(simp only[List.length_append,List.length_cons,List.length_nil];omega),λU=>(y0 (q1 U))⟩;exact dn2 (M+2) (by rw[J];decide) (qa (M+1) _ _ _ ⟨λ_=>wJ (M) _ _ _ ⟨_,g1,_,g2,_,g3,by simp;omega,O,G,_,e0,rfl⟩,λh=>absurd J h⟩)
theorem p_4(J:t.kind=4)(hs:shapeK t=true)(ht:tbulk t≤1000000)(ih:∀(i:Nat) (u:Tree),t.kids[i]?=some u→Pok u):Pok t:=λl hl=>by
 have htp:=bV t;have htx:=cx t;have hn:=jl hs;have M:=0;have hkn:t.kids.length=1:=hn.2.2.1 (by simp[J]);obtain⟨O,G,_⟩|h':=be t.kids 0
 rotate_left
 ·omega
 have Z:tbulk O+1≤tbulk t:=by
  have hb:=aV t;have hx:=wR G;omega
 obtain⟨s1,g1,b1⟩:=bK 0 ht;obtain⟨s2,g2,b2⟩:=bK 1 ht;have q1:Qp l→Qp (l++[⟨s1,t.text⟩,⟨s2,[58]⟩]):=λU=>by simp only[cZ,ch];exact⟨U,⟨b1,by omega⟩,⟨b2,by decide⟩,cM⟩
 obtain⟨r0,e0,z0,y0⟩:=ih 0 O G (l++[⟨s1,t.text⟩,⟨s2,[58]⟩]) (by first|omega|(simp only[List.length_append,List.length_cons,List.length_nil];omega))
 try simp only[List.length_append,List.length_cons,List.length_nil]at z0
 refine⟨r0,?_,by first|omega|(simp only[List.length_append,List.length_cons,List.length_nil];omega),λU=>(y0 (q1 U))⟩;exact dn3 (M+2) (by rw[J];decide) (pQ (M+1) _ _ _ ⟨λ_=>ws (M) _ _ _ ⟨_,g1,_,g2,by simp;omega,O,G,_,e0,rfl⟩,λh=>absurd J h⟩)
theorem p_8(O:t.kind=8)(hs:shapeK t=true)(ht:tbulk t≤1000000)(ih:∀(i:Nat) (u:Tree),t.kids[i]?=some u→Pok u):Pok t:=λl hl=>by
 have htp:=bV t;have htx:=cx t;have hn:=jl hs;have M:=0;have hkn:t.kids.length=1:=hn.2.2.1 (by simp[O]);obtain⟨U,G,_⟩|h':=be t.kids 0
 rotate_left
 ·omega
 have hsum:tbulk U+1≤tbulk t:=by
  have hb:=aV t;have hx:=wR G;omega
 obtain⟨s1,g1,b1⟩:=bK 0 ht;have q1:Qp l→Qp (l++[⟨s1,[91]⟩]):=λJ=>by simp only[cZ,ch];exact⟨J,⟨b1,by decide⟩,cM⟩
 obtain⟨Z,e0,z0,y0⟩:=ih 0 U G (l++[⟨s1,[91]⟩]) (by first|omega|(simp only[List.length_append,List.length_cons,List.length_nil];omega))
 try simp only[List.length_append,List.length_cons,List.length_nil]at z0
 obtain⟨s2,g2,b2⟩:=bK 1 ht;have q3:Qp Z→Qp (Z++[⟨s2,[93]⟩]):=λJ=>by simp only[cZ,ch];exact⟨J,⟨b2,by decide⟩,cM⟩
 refine⟨(Z++[⟨s2,[93]⟩]),?_,by first|omega|(simp only[List.length_append,List.length_cons,List.length_nil];omega),λJ=>(q3 (y0 (q1 J)))⟩;exact QG (M+2) (by rw[O];decide) (pn (M+1) _ _ _ ⟨λ_=>vq (M) _ _ _ ⟨_,g1,by simp;omega,U,G,_,e0,_,g2,by simp;omega,rfl⟩,λh=>absurd O h⟩)
theorem SA(J:t.kind=17)(hs:shapeK t=true)(ht:tbulk t≤1000000)(ih:∀(i:Nat) (u:Tree),t.kids[i]?=some u→Pok u):Pok t:=λl hl=>by
 have Z:=bV t;have htx:=cx t;have hn:=jl hs;have M:=0;have hkn:t.kids.length=1:=hn.2.2.1 (by simp[J]);obtain⟨O,G,_⟩|h':=be t.kids 0
 rotate_left
 ·omega
 have U:tbulk O+1≤tbulk t:=by
  have hb:=aV t;have hx:=wR G;omega
 obtain⟨r0,e0,z0,y0⟩:=ih 0 O G l (by first|omega|(simp only[List.length_append,List.length_cons,List.length_nil];omega))
 try simp only[List.length_append,List.length_cons,List.length_nil]at z0
 refine⟨r0,?_,by first|omega|(simp only[List.length_append,List.length_cons,List.length_nil];omega),λhq=>(y0 hq)⟩;exact PF (M+2) (by rw[J];decide) (oX (M+1) _ _ _ ⟨λ_=>⟨O,G,_,e0,rfl⟩,λh=>absurd J h⟩)
theorem Si(Z:t.kind=19)(hs:shapeK t=true)(ht:tbulk t≤1000000)(ih:∀(i:Nat) (u:Tree),t.kids[i]?=some u→Pok u):Pok t:=λl hl=>by
 have htp:=bV t;have htx:=cx t;have hn:=jl hs;have M:=0;have hkn:t.kids.length=3:=hn.2.2.2.1 Z;obtain⟨u0,G,_⟩|h':=be t.kids 0
 rotate_left
 ·omega
 obtain⟨u1,J,_⟩|h':=be t.kids 1
 rotate_left
 ·omega
 obtain⟨u2,O,_⟩|h':=be t.kids 2
 rotate_left
 ·omega
 have hsum:tbulk u0+tbulk u1+tbulk u2+1≤tbulk t:=by
  have hb:=aV t;have hx:=Oi G J O;omega
 obtain⟨s1,g1,b1⟩:=bK 0 ht;have q1:Qp l→Qp (l++[⟨s1,[105,102]⟩]):=λU=>by simp only[cZ,ch];exact⟨U,⟨b1,by decide⟩,cM⟩
 obtain⟨r0,e0,z0,y0⟩:=ih 0 u0 G (l++[⟨s1,[105,102]⟩]) (by first|omega|(simp only[List.length_append,List.length_cons,List.length_nil];omega))
 try simp only[List.length_append,List.length_cons,List.length_nil]at z0
 obtain⟨s2,g2,b2⟩:=bK 1 ht;have q3:Qp r0→Qp (r0++[⟨s2,[116,104,101,110]⟩]):=λU=>by simp only[cZ,ch];exact⟨U,⟨b2,by decide⟩,cM⟩
 obtain⟨r1,e1,z1,y1⟩:=ih 1 u1 J (r0++[⟨s2,[116,104,101,110]⟩]) (by first|omega|(simp only[List.length_append,List.length_cons,List.length_nil];omega))
 try simp only[List.length_append,List.length_cons,List.length_nil]at z1
 obtain⟨s3,g3,b3⟩:=bK 2 ht;have q5:Qp r1→Qp (r1++[⟨s3,[101,108,115,101]⟩]):=λU=>by simp only[cZ,ch];exact⟨U,⟨b3,by decide⟩,cM⟩
 obtain⟨r2,e2,z2,y2⟩:=ih 2 u2 O (r1++[⟨s3,[101,108,115,101]⟩]) (by first|omega|(simp only[List.length_append,List.length_cons,List.length_nil];omega))
 try simp only[List.length_append,List.length_cons,List.length_nil]at z2
 refine⟨r2,?_,by first|omega|(simp only[List.length_append,List.length_cons,List.length_nil];omega),λU=>(y2 (q5 (y1 (q3 (y0 (q1 U))))))⟩;exact QC (M+2) (by rw[Z];decide) (pc (M+1) _ _ _ ⟨λ_=>vn (M) _ _ _ ⟨u0,G,_,g1,by simp;omega,_,e0,u1,J,_,g2,by simp;omega,_,e1,u2,O,_,g3,by simp;omega,_,e2,rfl⟩,λh=>absurd Z h⟩)
theorem Sk(U:t.kind=20)(hs:shapeK t=true)(ht:tbulk t≤1000000)(ih:∀(i:Nat) (u:Tree),t.kids[i]?=some u→Pok u):Pok t:=λl hl=>by
 have htp:=bV t;have htx:=cx t;have hn:=jl hs;have M:=0;have hkn:t.kids.length=2:=hn.2.2.2.2 (by simp[U]);obtain⟨Z,G,_⟩|h':=be t.kids 0
 rotate_left
 ·omega
 obtain⟨u1,J,_⟩|h':=be t.kids 1
 rotate_left
 ·omega
 have hsum:tbulk Z+tbulk u1+1≤tbulk t:=by
  have hb:=aV t;have hx:=Cj G J;omega
 obtain⟨s1,g1,b1⟩:=bK 0 ht;obtain⟨s2,g2,b2⟩:=bK 1 ht;obtain⟨s3,g3,b3⟩:=bK 2 ht;have q1:Qp l→Qp (l++[⟨s1,[108,101,116]⟩,⟨s2,t.text⟩,⟨s3,[61]⟩]):=λO=>by simp only[cZ,ch];exact⟨O,⟨b1,by decide⟩,⟨b2,by omega⟩,⟨b3,by decide⟩,cM⟩
 obtain⟨r0,e0,z0,y0⟩:=ih 0 Z G (l++[⟨s1,[108,101,116]⟩,⟨s2,t.text⟩,⟨s3,[61]⟩]) (by first|omega|(simp only[List.length_append,List.length_cons,List.length_nil];omega))
 try simp only[List.length_append,List.length_cons,List.length_nil]at z0
 obtain⟨s4,g4,b4⟩:=bK 3 ht;have q3:Qp r0→Qp (r0++[⟨s4,[105,110]⟩]):=λO=>by simp only[cZ,ch];exact⟨O,⟨b4,by decide⟩,cM⟩
 obtain⟨r1,e1,z1,y1⟩:=ih 1 u1 J (r0++[⟨s4,[105,110]⟩]) (by first|omega|(simp only[List.length_append,List.length_cons,List.length_nil];omega))
 try simp only[List.length_append,List.length_cons,List.length_nil]at z1
 refine⟨r1,?_,by first|omega|(simp only[List.length_append,List.length_cons,List.length_nil];omega),λO=>(y1 (q3 (y0 (q1 O))))⟩;exact QM (M+2) (by rw[U];decide) (pj (M+1) _ _ _ ⟨λ_=>vp (M) _ _ _ ⟨_,g1,_,g2,_,g3,by simp;omega,Z,G,_,e0,_,g4,by simp;omega,u1,J,_,e1,rfl⟩,λh=>absurd U h⟩)
theorem Sg(O:t.kind=21)(hs:shapeK t=true)(ht:tbulk t≤1000000)(ih:∀(i:Nat) (u:Tree),t.kids[i]?=some u→Pok u):Pok t:=λl hl=>by
 have htp:=bV t;have htx:=cx t;have hn:=jl hs;have M:=0;have hkn:t.kids.length=2:=hn.2.2.2.2 (by simp[O]);obtain⟨U,G,_⟩|h':=be t.kids 0
 rotate_left
 ·omega
 obtain⟨Z,J,_⟩|h':=be t.kids 1
 rotate_left
 ·omega
 have hsum:tbulk U+tbulk Z+1≤tbulk t:=by
  have hb:=aV t;have hx:=Cj G J;omega
 obtain⟨r0,e0,z0,y0⟩:=ih 0 U G l (by first|omega|(simp only[List.length_append,List.length_cons,List.length_nil];omega))
 try simp only[List.length_append,List.length_cons,List.length_nil]at z0
 obtain⟨s1,g1,b1⟩:=bK 0 ht;have q2:Qp r0→Qp (r0++[⟨s1,t.text⟩]):=λhq=>by simp only[cZ,ch];exact⟨hq,⟨b1,by omega⟩,cM⟩
 obtain⟨r1,e1,z1,y1⟩:=ih 1 Z J (r0++[⟨s1,t.text⟩]) (by first|omega|(simp only[List.length_append,List.length_cons,List.length_nil];omega))
 try simp only[List.length_append,List.length_cons,List.length_nil]at z1
 refine⟨r1,?_,by first|omega|(simp only[List.length_append,List.length_cons,List.length_nil];omega),λhq=>(y1 (q2 (y0 hq)))⟩;exact Qs (M+2) (by rw[O];decide) (po (M+1) _ _ _ ⟨λ_=>vw (M) _ _ _ ⟨U,G,_,e0,_,g1,by simp;omega,Z,J,_,e1,rfl⟩,λh=>absurd O h⟩)
theorem SO(O:t.kind=22)(hs:shapeK t=true)(ht:tbulk t≤1000000)(ih:∀(i:Nat) (u:Tree),t.kids[i]?=some u→Pok u):Pok t:=λl hl=>by
 have htp:=bV t;have htx:=cx t;have hn:=jl hs;have M:=0;have hkn:t.kids.length=1:=hn.2.2.1 (by simp[O]);obtain⟨U,G,_⟩|h':=be t.kids 0
 rotate_left
 ·omega
 have hsum:tbulk U+1≤tbulk t:=by
  have hb:=aV t;have hx:=wR G;omega
 obtain⟨s1,g1,b1⟩:=bK 0 ht;have q1:Qp l→Qp (l++[⟨s1,[40]⟩]):=λJ=>by simp only[cZ,ch];exact⟨J,⟨b1,by decide⟩,cM⟩
 obtain⟨Z,e0,z0,y0⟩:=ih 0 U G (l++[⟨s1,[40]⟩]) (by first|omega|(simp only[List.length_append,List.length_cons,List.length_nil];omega))
 try simp only[List.length_append,List.length_cons,List.length_nil]at z0
 obtain⟨s2,g2,b2⟩:=bK 1 ht;have q3:Qp Z→Qp (Z++[⟨s2,[41]⟩]):=λJ=>by simp only[cZ,ch];exact⟨J,⟨b2,by decide⟩,cM⟩
 refine⟨(Z++[⟨s2,[41]⟩]),?_,by first|omega|(simp only[List.length_append,List.length_cons,List.length_nil];omega),λJ=>(q3 (y0 (q1 J)))⟩;exact Qk (M+2) (by rw[O];decide) (py (M+1) _ _ _ ⟨λ_=>vr (M) _ _ _ ⟨_,g1,by simp;omega,U,G,_,e0,_,g2,by simp;omega,rfl⟩,λh=>absurd O h⟩)
theorem Pn(G:∀c:Int,c∈[(1:Int),2,3,4,5,6,7,13,14,15,8,16,17,18,19,20,21,22]→t.kind≠c)(ht:tbulk t≤1000000):Pok t:=λl hl=>by
 obtain⟨s1,J,O⟩:=bK 0 ht;have U:=bV t;have Z:=cx t;have M:=0;refine⟨l++[⟨s1,t.text⟩],?_,by simp;omega,λhq=>by simp only[cZ,ch];exact⟨hq,⟨O,by omega⟩,cM⟩⟩;exact Qk (M+2) (λe=>G t.kind (by simp only[List.mem_cons,List.not_mem_nil,or_false]at e⊢;omega) rfl) (py (M+1) _ _ _ ⟨λh=>absurd h (G 22 (by decide)),λ_=>⟨_,J,by simp;omega,rfl⟩⟩)
theorem Iu(ht:tbulk t≤1000000)(ih:∀(i:Nat) (u:Tree),t.kids[i]?=some u→Pok u)(n comma:Nat)(hn:n≤t.kids.length)(hc:comma≤10):∀l,l.length+8*kbulk (t.kids.take n)≤899999999→∃r,gu l t 0 (n:Int) (comma:Int) r∧r.length≤l.length+8*kbulk (t.kids.take n)∧(Qp l→Qp r):=by
 have hk:=bB t;have loop:∀k i l,n-i≤k→i≤n→l.length+8*kbulk ((t.kids.take n).drop i)≤899999999→∃r,im (k+1) t 0 (n:Int) (comma:Int) l (i:Int) r∧r.length≤l.length+8*kbulk ((t.kids.take n).drop i)∧(Qp l→Qp r):=λk=>by
  induction k with
  |zero=>
   intro i l hi hle hl;exact⟨l,jT 0 _ _ _ _ _ _ _ ⟨λh=>by omega,λ_=>rfl⟩,by omega,λh=>h⟩
  | succ k ihk=>
   intro i l hi hle hl;by_cases hin:i<n
   ·obtain⟨u,hu,hul⟩|h':=be t.kids i
    ·have hu':(t.kids.take n)[i]?=some u:=by rw[List.getElem?_take,if_pos hin];exact hu
     have hd:=aU hu';rw[hd,kbulk]at hl⊢;have hup:=bV u;by_cases h0:0<i
     ·obtain⟨s,g,b⟩:=bK (t:=t) (comma+i-1) ht;have g':av t ((((comma:Int)+(i:Int))-0)-1) s:=by rw[show(((comma:Int)+(i:Int))-0)-1=((comma+i-1:Nat):Int) by omega];exact g
      obtain⟨r,e,z,y⟩:=ih i u hu (l++[⟨s,[44]⟩]) (by simp;omega);simp only[List.length_append,List.length_cons,List.length_nil]at z;obtain⟨r2,e2,z2,y2⟩:=ihk (i+1) r (by omega) (by omega) (by omega);refine⟨r2,jT (k+1) _ _ _ _ _ _ _ ⟨λ_=>⟨λ_=>⟨by omega,by omega,by omega,s,g',by simp;omega,i,rfl,u,hu,r,e,by omega,?_⟩,λh=>by omega⟩,λh=>by omega⟩,by omega,λhq=>y2 (y (by simp only[cZ,ch];exact⟨hq,⟨b,by decide⟩,cM⟩))⟩;exact e2
     ·obtain⟨r,e,z,y⟩:=ih i u hu l (by omega);obtain⟨r2,e2,z2,y2⟩:=ihk (i+1) r (by omega) (by omega) (by omega);refine⟨r2,jT (k+1) _ _ _ _ _ _ _ ⟨λ_=>⟨λh=>by omega,λ_=>⟨i,rfl,u,hu,r,e,by omega,e2⟩⟩,λh=>by omega⟩,by omega,λhq=>y2 (y hq)⟩
    ·omega
   ·exact⟨l,jT (k+1) _ _ _ _ _ _ _ ⟨λh=>by omega,λ_=>rfl⟩,by omega,λh=>h⟩
 intro l hl;have h1:kbulk (t.kids.take n)≤kbulk t.kids:=by
  have :∀(l:List Tree) n,kbulk (l.take n)≤kbulk l:=λl=>by
   induction l with
   |nil=>intro n;simp
   |cons a r ih=>intro n;cases n with
    |zero=>simp[kbulk]
    |succ n=>have :=ih n;simp only[List.take_succ_cons,kbulk];omega
  exact this _ _
 have h2:=aV t;obtain⟨r,e,z,y⟩:=loop n 0 l (by omega) (by omega) (by simpa using hl);exact⟨r,zd (n+1) _ _ _ _ _ _ e,by simpa using z,y⟩
theorem Ah(l:List Tree)(n:Nat):kbulk (l.take n)+kbulk (l.drop n)=kbulk l:=by rw[←ik,List.take_append_drop]
theorem SJ(G:t.kind=16)(hs:shapeK t=true)(ht:tbulk t≤1000000)(ih:∀(i:Nat) (u:Tree),t.kids[i]?=some u→Pok u):Pok t:=λl hl=>by
 have hb:=aV t;have J:=cx t;have M:=0;obtain⟨s1,O,U⟩:=bK 0 ht;obtain⟨Z,g2,b2⟩:=bK 1 ht;obtain⟨r,e,z,y⟩:=Iu ht ih t.kids.length 3 (Nat.le_refl _) (by decide) (l++[⟨s1,t.text⟩,⟨Z,[40]⟩]) (by simp only[List.length_append,List.length_cons,List.length_nil,List.take_length];omega);simp only[List.length_append,List.length_cons,List.length_nil,List.take_length]at z;obtain⟨s9,g9,b9⟩:=bK 2 ht;refine⟨r++[⟨s9,[41]⟩],?_,by simp only[List.length_append,List.length_cons,List.length_nil];omega,λhq=>by
  have :=y (by simp only[cZ,ch];exact⟨hq,⟨U,by omega⟩,⟨b2,by decide⟩,cM⟩);simp only[cZ,ch];exact⟨this,⟨b9,by decide⟩,cM⟩⟩
 exact QZ (M+2) (by rw[G];decide) (oZ (M+1) _ _ _ ⟨λ_=>vJ (M) _ _ _ ⟨_,O,_,g2,by simp only[List.length_append,List.length_cons,List.length_nil];omega,_,e,_,g9,by simp only[List.length_append,List.length_cons,List.length_nil];omega,rfl⟩,λh=>absurd G h⟩)
theorem SH(G:t.kind=18)(hs:shapeK t=true)(ht:tbulk t≤1000000)(ih:∀(i:Nat) (u:Tree),t.kids[i]?=some u→Pok u):Pok t:=λl hl=>by
 have hb:=aV t;have J:=cx t;have M:=0;obtain⟨s1,O,U⟩:=bK 0 ht;obtain⟨r,e,z,y⟩:=Iu ht ih t.kids.length 2 (Nat.le_refl _) (by decide) (l++[⟨s1,[91]⟩]) (by simp only[List.length_append,List.length_cons,List.length_nil,List.take_length];omega);simp only[List.length_append,List.length_cons,List.length_nil,List.take_length]at z;obtain⟨Z,g9,b9⟩:=bK 1 ht;refine⟨r++[⟨Z,[93]⟩],?_,by simp only[List.length_append,List.length_cons,List.length_nil];omega,λhq=>by
  have :=y (by simp only[cZ,ch];exact⟨hq,⟨U,by decide⟩,cM⟩);simp only[cZ,ch];exact⟨this,⟨b9,by decide⟩,cM⟩⟩
 exact Qc (M+2) (by rw[G];decide) (pg (M+1) _ _ _ ⟨λ_=>vv (M) _ _ _ ⟨_,O,by simp only[List.length_append,List.length_cons,List.length_nil];omega,_,e,_,g9,by simp only[List.length_append,List.length_cons,List.length_nil];omega,rfl⟩,λh=>absurd G h⟩)
theorem p_2(G:t.kind=2)(hs:shapeK t=true)(ht:tbulk t≤1000000)(ih:∀(i:Nat) (u:Tree),t.kids[i]?=some u→Pok u):Pok t:=λl hl=>by
 have hb:=aV t;have htx:=cx t;have hn:=(jl hs).1 G;have hkl:=bB t;have M:=0;obtain⟨s1,g1,b1⟩:=bK 0 ht;obtain⟨s2,g2,b2⟩:=bK 1 ht;obtain⟨s3,g3,b3⟩:=bK 2 ht;obtain⟨s4,g4,b4⟩:=bK 3 ht;obtain⟨s5,g5,b5⟩:=bK 4 ht;obtain⟨s6,g6,b6⟩:=bK 5 ht;obtain⟨r,e,z,y⟩:=Iu ht ih (t.kids.length-2) 6 (by omega) (by decide) (l++[⟨s1,[100,101,102]⟩,⟨s2,t.text⟩,⟨s3,[40]⟩]) (by have :=Ah t.kids (t.kids.length-2);simp only[List.length_append,List.length_cons,List.length_nil];omega);simp only[List.length_append,List.length_cons,List.length_nil]at z;obtain⟨u,J,_⟩|h':=be t.kids (t.kids.length-2)
 rotate_left
 ·omega
 obtain⟨v,hv,_⟩|h':=be t.kids (t.kids.length-1)
 rotate_left
 ·omega
 have O:=Ah t.kids (t.kids.length-2);have U:=aU J;have Z:t.kids.drop (t.kids.length-2+1)=v::t.kids.drop (t.kids.length-1+1):=by rw[show t.kids.length-2+1=t.kids.length-1 by omega];exact aU hv
 rw[U,kbulk,Z,kbulk]at O;have hup:=bV u;have hvp:=bV v;have e':gu (l++[⟨s1,[100,101,102]⟩,⟨s2,t.text⟩,⟨s3,[40]⟩]) t 0 (((t.kids.length:Nat):Int)-2) 6 r:=by rw[show((t.kids.length:Nat):Int)-2=((t.kids.length-2:Nat):Int) by omega];exact e
 obtain⟨r1,e1,z1,y1⟩:=ih _ u J (r++[⟨s4,[41]⟩,⟨s5,[58]⟩]) (by simp only[List.length_append,List.length_cons,List.length_nil];omega);simp only[List.length_append,List.length_cons,List.length_nil]at z1;obtain⟨r2,e2,z2,y2⟩:=ih _ v hv (r1++[⟨s6,[61]⟩]) (by simp only[List.length_append,List.length_cons,List.length_nil];omega);simp only[List.length_append,List.length_cons,List.length_nil]at z2;refine⟨r2,?_,by omega,λhq=>?_⟩
 ·exact dn1 (M+2) (by rw[G];decide) (qd (M+1) _ _ _ ⟨λ_=>wu (M) _ _ _ ⟨_,g1,_,g2,_,g3,by simp only[List.length_append,List.length_cons,List.length_nil];omega,by omega,r,e',_,g4,_,g5,by simp only[List.length_append,List.length_cons,List.length_nil];omega,by omega,t.kids.length-2,by omega,u,J,r1,e1,_,g6,by simp only[List.length_append,List.length_cons,List.length_nil];omega,by omega,t.kids.length-1,by omega,v,hv,r2,e2,rfl⟩,λh=>absurd G h⟩)
 ·have q1:=y (by simp only[cZ,ch];exact⟨hq,⟨b1,by decide⟩,⟨b2,by omega⟩,⟨b3,by decide⟩,cM⟩);have q2:=y1 (by simp only[cZ,ch];exact⟨q1,⟨b4,by decide⟩,⟨b5,by decide⟩,cM⟩);exact y2 (by simp only[cZ,ch];exact⟨q2,⟨b6,by decide⟩,cM⟩)
theorem p_1(hk:t.kind=1)(hs:shapeK t=true)(ht:tbulk t≤1000000)(ih:∀(i:Nat) (u:Tree),t.kids[i]?=some u→Pok u):Pok t:=λl hl=>by
 have hb:=aV t;have htx:=cx t;have hkl:=bB t;obtain⟨s1,g1,b1⟩:=bK 0 ht;obtain⟨s2,g2,b2⟩:=bK 1 ht;obtain⟨s3,g3,b3⟩:=bK 2 ht;have loop:∀k i l,t.kids.length-i≤k→l.length+8*kbulk (t.kids.drop i)≤899999996→∃r,fB (k+1) t l i r∧r.length≤l.length+8*kbulk (t.kids.drop i)+1∧(Qp l→Qp r):=λk=>by
  have last:∀k i l,¬i<t.kids.length→l.length≤899999996→∃r,fB (k+1) t l i r∧r.length≤l.length+8*kbulk (t.kids.drop i)+1∧(Qp l→Qp r):=λk i l hi hl=>by
   refine⟨l++[⟨s3,[]⟩],pX k _ _ _ _ ⟨λh=>absurd h hi,λ_=>⟨s3,g3,by simp only[List.length_append,List.length_cons,List.length_nil];omega,rfl⟩⟩,by simp only[List.length_append,List.length_cons,List.length_nil];omega,λhq=>by simp only[cZ,ch];exact⟨hq,⟨b3,by decide⟩,cM⟩⟩
  induction k with
  |zero=>intro i l hi hl;exact last 0 i l (by omega) (by omega)
  | succ k ihk=>
   intro i l hi hl;obtain⟨u,hu,hul⟩|h':=be t.kids i
   ·have hd:=aU hu;rw[hd,kbulk]at hl⊢;obtain⟨r,e,z,y⟩:=ih i u hu l (by omega);obtain⟨r2,e2,z2,y2⟩:=ihk (i+1) r (by omega) (by omega);exact⟨r2,pX (k+1) _ _ _ _ ⟨λ_=>⟨u,hu,r,e,by omega,e2⟩,λh=>absurd hul h⟩,by omega,λhq=>y2 (y hq)⟩
   ·exact last (k+1) i l h' (by omega)
 obtain⟨r,e,z,y⟩:=loop t.kids.length 0 (l++[⟨s1,[109,111,100,117,108,101]⟩,⟨s2,t.text⟩]) (by omega) (by simp only[List.length_append,List.length_cons,List.length_nil,List.drop_zero];omega);simp only[List.length_append,List.length_cons,List.length_nil,List.drop_zero]at z;refine⟨r,qP (t.kids.length+2) _ _ _ ⟨λ_=>wk (t.kids.length+1) _ _ _ ⟨_,g1,_,g2,by simp only[List.length_append,List.length_cons,List.length_nil];omega,e⟩,λh=>absurd hk h⟩,by omega,λhq=>y (by simp only[cZ,ch];exact⟨hq,⟨b1,by decide⟩,⟨b2,by omega⟩,cM⟩)⟩
theorem MU:∀t:Tree,tbulk t≤1000000→shapeK t=true→Pok t:=dZ λt ih ht hs=>by
 have ih':∀(i:Nat) (u:Tree),t.kids[i]?=some u→Pok u:=λi u J=>ih i u J (by have :=aF J;omega) (CP hs J).1;by_cases h:∃c∈[(1:Int),2,3,4,5,6,7,13,14,15,8,16,17,18,19,20,21,22],t.kind=c
 ·obtain⟨c,G,e⟩:=h;simp only[List.mem_cons,List.not_mem_nil,or_false]at G;rcases G with rfl|rfl|rfl|rfl|rfl|rfl|rfl|rfl|rfl|rfl|rfl|rfl|rfl|rfl|rfl|rfl|rfl|rfl
  ·exact p_1 e hs ht ih'
  ·exact p_2 e hs ht ih'
  ·exact p_3 e hs ht ih'
  ·exact p_4 e hs ht ih'
  ·exact p_5 e ht
  ·exact p_6 e ht
  ·exact p_7 e ht
  ·exact Sm e ht
  ·exact Sw e ht
  ·exact Sp e ht
  ·exact p_8 e hs ht ih'
  ·exact SJ e hs ht ih'
  ·exact SA e hs ht ih'
  ·exact SH e hs ht ih'
  ·exact Si e hs ht ih'
  ·exact Sk e hs ht ih'
  ·exact Sg e hs ht ih'
  ·exact SO e hs ht ih'
 ·exact Pn (λc G e=>h ⟨c,G,e⟩) ht
theorem MN:∀t:Tree,tbulk t≤1000000→∃b,jW t b:=dZ λt ih ht=>by
 have hk:=bB t;have hl:=Dr t;have kids:∀k i,t.kids.length-i≤k→∃b,jv (k+1) t i b:=λk=>by
  induction k with
  |zero=>intro i hi;exact⟨_,iE 0 _ _ _ ⟨λh=>by omega,λ_=>rfl⟩⟩
  | succ k ihk=>
   intro i hi;obtain⟨u,hu,hul⟩|h':=be t.kids i
   ·have :=aF hu;obtain⟨b,hb⟩:=ih i u hu (by omega);cases b with
    |false=>exact⟨false,iE (k+1) _ _ _ ⟨λ_=>⟨u,hu,_,hb,λ_=>rfl,λh=>(by cases h)⟩,λh=>absurd hul h⟩⟩
    |true=>
     obtain⟨b2,hb2⟩:=ihk (i+1) (by omega);exact⟨b2,iE (k+1) _ _ _ ⟨λ_=>⟨u,hu,_,hb,λh=>(by cases h),λ_=>hb2⟩,λh=>absurd hul h⟩⟩
   ·exact⟨true,iE (k+1) _ _ _ ⟨λh=>absurd h h',λ_=>rfl⟩⟩
 have lead:∀k i,t.leads.length-i≤k→∃b M,ee M t i b:=λk=>by
  have last:∀i,¬i<t.leads.length→∃b M,ee M t i b:=λi hi=>by
   obtain⟨b,hb⟩:=kids t.kids.length 0 (by omega);exact⟨b,_,fu _ _ _ _ ⟨λh=>absurd h hi,λ_=>hb⟩⟩
  induction k with
  |zero=>intro i hi;exact last i (by omega)
  | succ k ihk=>
   intro i hi;obtain⟨s,hs,hsl⟩|h':=be t.leads i
   ·have :=AE hs;have :=aV t;obtain⟨b2,M,hb2⟩:=ihk (i+1) (by omega);by_cases h1:t.kind=1
    ·have ht1:=Dh s (((i:Nat):Int)==2) (by omega);cases hb:kp false s (((i:Nat):Int)==2)with
     |false=>rw[hb]at ht1;exact⟨false,1,fu 0 _ _ _ ⟨λ_=>⟨s,hs,λ_=>⟨_,ht1,λ_=>rfl,λh=>(by cases h)⟩,λh=>absurd h1 h⟩,λh=>absurd hsl h⟩⟩
     |true=>rw[hb]at ht1;exact⟨b2,M+1,fu M _ _ _ ⟨λ_=>⟨s,hs,λ_=>⟨_,ht1,λh=>(by cases h),λ_=>hb2⟩,λh=>absurd h1 h⟩,λh=>absurd hsl h⟩⟩
    ·have ht1:=Dh s false (by omega);cases hb:kp false s false with
     |false=>rw[hb]at ht1;exact⟨false,1,fu 0 _ _ _ ⟨λ_=>⟨s,hs,λh=>absurd h h1,λ_=>⟨_,ht1,λ_=>rfl,λh=>(by cases h)⟩⟩,λh=>absurd hsl h⟩⟩
     |true=>rw[hb]at ht1;exact⟨b2,M+1,fu M _ _ _ ⟨λ_=>⟨s,hs,λh=>absurd h h1,λ_=>⟨_,ht1,λh=>(by cases h),λ_=>hb2⟩⟩,λh=>absurd hsl h⟩⟩
   ·exact last i h'
 by_cases h:((t.leads.length:Nat):Int)=eK t.kind t.kids.length
 ·obtain⟨b,M,hb⟩:=lead t.leads.length 0 (by omega);exact⟨b,rI M _ _ ⟨_,xr (by omega) (by omega),λh'=>absurd h h',λ_=>hb⟩⟩
 ·exact⟨false,rI 0 _ _ ⟨_,xr (by omega) (by omega),λ_=>rfl,λh'=>absurd h' h⟩⟩
theorem La:∀t:Tree,tbulk t≤1000000→∃b,je t b:=dZ λt ih ht=>by
 have hk:=bB t;have kids:∀k i,t.kids.length-i≤k→∃b,aN (k+1) t i b:=λk=>by
  induction k with
  |zero=>intro i hi;exact⟨_,ig 0 _ _ _ ⟨λh=>by omega,λ_=>rfl⟩⟩
  | succ k ihk=>
   intro i hi;obtain⟨u,hu,hul⟩|h':=be t.kids i
   ·have :=aF hu;obtain⟨b,hb⟩:=ih i u hu (by omega);cases b with
    |false=>exact⟨false,ig (k+1) _ _ _ ⟨λ_=>⟨u,hu,_,hb,λ_=>rfl,λh=>(by cases h)⟩,λh=>absurd hul h⟩⟩
    |true=>
     obtain⟨b2,hb2⟩:=ihk (i+1) (by omega);exact⟨b2,ig (k+1) _ _ _ ⟨λ_=>⟨u,hu,_,hb,λh=>(by cases h),λ_=>⟨by omega,hb2⟩⟩,λh=>absurd hul h⟩⟩
   ·exact⟨true,ig (k+1) _ _ _ ⟨λh=>absurd h h',λ_=>rfl⟩⟩
 obtain⟨b,hb⟩:=kids t.kids.length 0 (by omega);by_cases hall:(t.kind=1∧(40:Int)<t.kids.length)∨(t.kind=2∧(10:Int)<t.kids.length)∨(t.kind=16∧(8:Int)<t.kids.length)∨(t.kind=18∧(16:Int)<t.kids.length)
 ·refine⟨false,rb (t.kids.length+1) _ _ ?_⟩
  repeat' (refine And.intro (λ_=>?_) (λ_=>?_))
  all_goals first|rfl|(exfalso;omega)
 ·refine⟨b,rb (t.kids.length+1) _ _ ?_⟩
  repeat' (refine And.intro (λ_=>?_) (λ_=>?_))
  all_goals first|exact hb|(exfalso;omega)
theorem LZ:∀t:Tree,tbulk t≤1000000→∃n,jR t n∧0≤n∧n≤tbulk t:=dZ λt ih ht=>by
 have hk:=bB t;have kids:∀k i (z:Int),t.kids.length-i≤k→0≤z→z<tbulk t→∃n,jk (k+1) t z i n∧0≤n∧n≤tbulk t:=λk=>by
  induction k with
  |zero=>intro i z hi h0 hz;exact⟨_,mg 0 _ _ _ _ ⟨λh=>by omega,λ_=>⟨by omega,rfl⟩⟩,by omega,by omega⟩
  | succ k ihk=>
   intro i z hi h0 hz;obtain⟨u,hu,hul⟩|h':=be t.kids i
   ·have :=aF hu;obtain⟨n,hn,n0,n1⟩:=ih i u hu (by omega);obtain⟨r,hr,r0,r1⟩:=ihk (i+1) (max z n) (by omega) (by omega) (by omega);exact⟨r,mg (k+1) _ _ _ _ ⟨λ_=>⟨u,hu,_,hn,hr⟩,λh=>absurd hul h⟩,r0,r1⟩
   ·exact⟨_,mg (k+1) _ _ _ _ ⟨λh=>absurd h h',λ_=>⟨by omega,rfl⟩⟩,by omega,by omega⟩
 obtain⟨n,hn,n0,n1⟩:=kids t.kids.length 0 0 (by omega) (by omega) (by have :=bV t;omega);exact⟨n,xX _ _ _ hn,n0,n1⟩
theorem zm(t:Tree)(ht:tbulk t≤1000000):∃b,gH t b∧(b=true→shapeK t=true):=by
 have h1:=zn t (by omega);cases hs:shapeK t with
 |false=>rw[hs]at h1;exact⟨false,oc 0 _ _ ⟨_,h1,λh=>by(cases h),λ_=>rfl⟩,λh=>(by cases h)⟩
 |true=>
  rw[hs]at h1;obtain⟨b,hb⟩:=MN t ht;exact⟨b,oc 0 _ _ ⟨_,h1,λ_=>⟨_,hb,rfl⟩,λh=>(by cases h)⟩,λ_=>rfl⟩
theorem Mv (t:Tree) (ht:tbulk t≤1000000):∃s,nG t s:=by
 obtain⟨b,hb,hs⟩:=zm t ht;cases b with
 |false=>exact⟨[],rq 0 _ _ ⟨_,hb,λ_=>rfl,λh=>(by cases h)⟩⟩
 | true =>
  obtain⟨l,e,z,q⟩:=MU t ht (hs rfl) [] (by simp;omega);have hq:=q cM;simp only[List.length_nil]at z;have loop:∀k i (s:List UInt8),l.length-i≤k→s.length≤i*2000020→i≤l.length→∃r,cY (k+1) l s i r:=λk=>by
   induction k with
   |zero=>intro i s hi hsl hil;exact⟨_,dR 0 _ _ _ _ ⟨λh=>by omega,λ_=>rfl⟩⟩
   | succ k ihk=>
    intro i s hi hsl hil;obtain⟨x,hx,hxl⟩|h':=be l i
    ·obtain⟨hx1,hx2⟩:=hq x (List.mem_of_getElem? hx);have hmul:(i+1)*2000020=i*2000020+2000020:=Nat.succ_mul _ _;obtain⟨r1,hr1⟩:=ihk (i+1) (((s++[32])++x.Lead)++x.Text) (by omega) (by simp only[List.length_append,List.length_cons,List.length_nil];omega) (by omega);obtain⟨r2,hr2⟩:=ihk (i+1) ((s++x.Lead)++x.Text) (by omega) (by simp only[List.length_append];omega) (by omega);have plain:s.length+x.Lead.length≤9223372036854775807∧∃y:Pce,l[i]?=some y∧(s++x.Lead).length+y.Text.length≤9223372036854775807∧cY (k+1) l ((s++x.Lead)++y.Text) (i+1) r2:=⟨by omega,x,hx,by simp only[List.length_append];omega,hr2⟩;by_cases h0:(0:Int)<((i:Nat):Int)
     ·by_cases hle:x.Lead=[]
      ·obtain⟨y,hy,hyl⟩|h':=be l (i-1)
       rotate_left
       ·omega
       obtain⟨hy1,hy2⟩:=hq y (List.mem_of_getElem? hy);have hf:=Mo y.Text x.Text (by omega) (by omega);cases hb2:fusesT y.Text x.Text with
       |true=>
        rw[hb2]at hf;exact⟨r1,dR (k+1) _ _ _ _ ⟨λ_=>⟨λ_=>⟨x,hx,λ_=>⟨by omega,i-1,by omega,y,hy,x,hx,_,hf,λ_=>⟨by simp only[List.length_cons,List.length_nil];omega,x,hx,by simp only[List.length_append,List.length_cons,List.length_nil];omega,x,hx,by simp only[List.length_append,List.length_cons,List.length_nil];omega,hr1⟩,λh=>by(cases h)⟩,λh=>absurd hle h⟩,λh=>absurd h0 h⟩,λh=>absurd hxl h⟩⟩
       |false=>
        rw[hb2]at hf;exact⟨r2,dR (k+1) _ _ _ _ ⟨λ_=>⟨λ_=>⟨x,hx,λ_=>⟨by omega,i-1,by omega,y,hy,x,hx,_,hf,λh=>by(cases h),λ_=>⟨x,hx,plain⟩⟩,λh=>absurd hle h⟩,λh=>absurd h0 h⟩,λh=>absurd hxl h⟩⟩
      ·exact⟨r2,dR (k+1) _ _ _ _ ⟨λ_=>⟨λ_=>⟨x,hx,λh=>absurd h hle,λ_=>⟨x,hx,plain⟩⟩,λh=>absurd h0 h⟩,λh=>absurd hxl h⟩⟩
     ·exact⟨r2,dR (k+1) _ _ _ _ ⟨λ_=>⟨λh=>absurd h h0,λ_=>⟨x,hx,plain⟩⟩,λh=>absurd hxl h⟩⟩
    ·exact⟨s,dR (k+1) _ _ _ _ ⟨λh=>absurd h h',λ_=>rfl⟩⟩
  obtain⟨r,hr⟩:=loop l.length 0 [] (by omega) (by simp) (by omega);exact⟨r,rq (l.length+1) _ _ ⟨_,hb,λh=>by(cases h),λ_=>⟨l,xc 0 _ _ ⟨_,e,rfl⟩,hr⟩⟩⟩
theorem MM(t:Tree)(ht:tbulk t≤1000000):∃b,gP t b∧(b=true→shapeK t=true):=by
 obtain⟨b,hb,hsh⟩:=zm t ht;cases b with
 |false=>exact⟨false,jq 0 _ _ ⟨_,hb,λh=>by(cases h),λ_=>rfl⟩,λh=>(by cases h)⟩
 | true=>
  obtain⟨b2,hb2⟩:=La t ht;cases b2 with
  |false=>exact⟨false,jq 0 _ _ ⟨_,hb,λ_=>⟨_,hb2,λh=>by(cases h),λ_=>rfl⟩,λh=>(by cases h)⟩,λh=>(by cases h)⟩
  |true=>
   obtain⟨n,hn,_,_⟩:=LZ t ht;obtain⟨s,hs⟩:=Mv t ht;by_cases h40:n≤40
   ·exact⟨_,jq 0 _ _ ⟨_,hb,λ_=>⟨_,hb2,λ_=>⟨n,hn,λ_=>⟨s,hs,rfl⟩,λh=>absurd h40 h⟩,λh=>(by cases h)⟩,λh=>(by cases h)⟩,λ_=>hsh rfl⟩
   ·exact⟨false,jq 0 _ _ ⟨_,hb,λ_=>⟨_,hb2,λ_=>⟨n,hn,λh=>absurd h h40,λ_=>rfl⟩,λh=>(by cases h)⟩,λh=>(by cases h)⟩,λh=>(by cases h)⟩
set_option maxRecDepth 100000
theorem Se{L:List Int}{a:Int}(G:Dc L a):Gt L (λt a'=>qx L a t L a') 500:=by
 obtain⟨r,a1,h1,h2,h3⟩:=iv G (n:=5) (by omega) (by omega);by_cases hr:r=0
 ·obtain⟨s,a2,O,U,Z⟩:=lZ h3 [[84],[85]] (by decide) (by decide);have hs:=kI U (by decide);obtain⟨t,a3,q1,J,q3⟩:=Jr 2 Z (by omega);exact⟨_,a3,tS 0 _ _ _ _ _ ⟨_,_,_,h1,λ_=>⟨_,_,_,O,_,_,_,q1,rfl,rfl,rfl⟩,λh=>absurd hr h⟩,J,by rw[tb1];omega⟩
 ·obtain⟨s,a2,O,U,Z⟩:=lZ h3 [[102],[103],[104]] (by decide) (by decide);have hs:=kI U (by decide);obtain⟨n,a3,g4,g5,g6⟩:=iv Z (n:=4) (by omega) (by omega);have loop:∀(k:Nat) (a:Int) (l:List Tree),Dc L a→l.length+k≤100→Gt L (λt a'=>lz (k+1) s L a l (k:Int) t L a') (s.length+1+kbulk l+k*13+429):=λk=>by
   induction k with
   |zero=>
    intro a l G hl;obtain⟨t1,b1,q1,J,q3⟩:=Jr 1 G (by omega);obtain⟨t2,b2,q4,q5,q6⟩:=Qb 3 J (by omega);have :eB 3=422:=rfl;refine⟨_,b2,ti 0 _ _ _ _ _ _ _ _ ⟨λh=>by omega,λ_=>⟨_,_,_,q1,_,_,_,q4,by simp;omega,rfl,rfl,rfl⟩⟩,q5,?_⟩;rw[tbK,ik];simp only[kbulk];omega
   |succ k ihk=>
    intro a l G hl;obtain⟨x,b0,q0,q0',q0''⟩:=lZ G [[120],[121],[122]] (by decide) (by decide);have hx:=kI q0' (by decide);obtain⟨t,b,q1,J,q3⟩:=Jr 1 q0'' (by omega);refine(ihk b (l++[.node 4 x [] [t]]) J (by simp;omega)).map ?_ λt' a' h=>ti (k+1) _ _ _ _ _ _ _ _ ⟨λ_=>⟨_,_,_,q0,_,_,_,q1,by simp;omega,by omega,by rw[show((k+1:Nat):Int)-1=(k:Int) by omega];exact h⟩,λh=>by omega⟩;rw[ik];simp only[kbulk,tb1];omega
  exact(loop n.toNat a3 [] g6 (by simp;omega)).map (by simp only[kbulk];omega) λt a' h=>tS (n.toNat+1) _ _ _ _ _ ⟨_,_,_,h1,λh=>absurd h hr,λ_=>⟨_,_,_,O,_,_,_,g4,by rw[show n=((n.toNat:Nat):Int) by omega];exact h⟩⟩
def Sh(l:List (List UInt8))(n:Nat):Prop:=l.length=n∧∀x∈l,x.length≤2
theorem Sh.sum:∀{l:List (List UInt8)} {n:Nat},Sh l n→fp l≤3*n
 |[],n,h=>by simp[fp]
 |x::r,n,h=>by
  obtain⟨h1,h2⟩:=h;have :=h2 x (by simp);have :=Sh.sum (l:=r) (n:=n-1) ⟨by simp at h1;omega,λy hy=>h2 y (by simp[hy])⟩;simp only[fp];simp at h1;omega
theorem Sh.set{l:List (List UInt8)}{n:Nat}{x:List UInt8}(h:Sh l n)(hx:x.length≤2):Sh (l.set i x) n:=⟨by simpa using h.1,λy hy=>by
 rcases List.mem_or_eq_of_mem_set hy with h1|h1
 ·exact h.2 y h1
 ·subst h1;exact hx⟩
theorem Sh.get{l:List (List UInt8)}{n:Nat}(h:Sh l n)(hi:i<n):∃s,l[i]?=some s:=by
 obtain⟨s,hs,_⟩|h':=be l i
 ·exact⟨s,hs⟩
 ·have :=h.1;omega
theorem Mi{n:Int}(h0:0≤n)(h1:n≤100000000):∃l,mN n l∧Sh l n.toNat:=by
 have loop:∀k i (l:List (List UInt8)),n.toNat-i≤k→i≤n.toNat→Sh l i→∃r,iD (k+1) n l i r∧Sh r n.toNat:=λk=>by
  induction k with
  |zero=>intro i l hi hle hl;exact⟨l,ld 0 _ _ _ _ ⟨λh=>by omega,λ_=>rfl⟩,by rw[show n.toNat=i by omega];exact hl⟩
  | succ k ihk=>
   intro i l hi hle hl;by_cases h:(i:Int)<n
   ·obtain⟨r,e,hr⟩:=ihk (i+1) (l++[[32]]) (by omega) (by omega) ⟨by simp[hl.1],λx hx=>by
     rcases List.mem_append.1 hx with h1|h1
     ·exact hl.2 x h1
     ·simp at h1;subst h1;simp⟩
    exact⟨r,ld (k+1) _ _ _ _ ⟨λ_=>⟨by simp[hl.1];omega,by omega,e⟩,λh'=>absurd h h'⟩,hr⟩
   ·exact⟨l,ld (k+1) _ _ _ _ ⟨λh'=>absurd h' h,λ_=>rfl⟩,by rw[show n.toNat=i by omega];exact hl⟩
 obtain⟨r,e,hr⟩:=loop n.toNat 0 [] (by omega) (by omega) ⟨rfl,λx hx=>by cases hx⟩;exact⟨r,wW _ _ _ e,hr⟩
def zS(t:Tree)(i:Int)(first:List UInt8):List UInt8:=if t.kind=1 then[10,10]else if 0<i then[32]else if t.kind=8∨t.kind=22∨t.kind=16∨t.kind=18 then[]else if t.kind=2 then(if(2:Int)<t.kids.length then[]else[32])else if t.kind=17∨t.kind=21 then first else[32]
theorem MT(t:Tree)(i:Int)(first:List UInt8):mK t i first (zS t i first):=by
 refine xk 1 _ _ _ _ ?_
 repeat' first|(refine And.intro (λ_=>?_) (λ_=>?_))|(refine wE 0 _ _ _ _ ?_)
 all_goals simp_all[zS]
 all_goals (intro h;omega)
theorem Is(t:Tree)(i:Int)(first:List UInt8)(hf:first.length≤2):(zS t i first).length≤2:=by
 unfold zS
 repeat' split
 all_goals first|exact hf|simp
theorem sZ{n:Int}(G:0≤n)(a b c:Nat)(z:Int):f0 n a b c z≤b+n:=by
 unfold f0;repeat' split
 all_goals omega
theorem QB{k n:Int}(G:0≤n):eK k n≤6+n:=by
 have a1:=sZ G 2 6 2 (-1);have O:=sZ G 0 3 0 (-1);have U:=sZ G 1 2 0 (-1);have Z:=sZ G 1 3 0 1;have a5:=sZ G 1 2 0 1;have a6:=sZ G 1 0 0 1;have a7:=sZ G 3 3 0 3;have a8:=sZ G 2 4 0 2;have a9:=sZ G 2 1 0 2;have J:=sZ G 0 1 0 0;simp only[eK]
 repeat' first|omega|split
theorem KQ(hs:shapeK t=true):(t.kind=1→eK t.kind t.kids.length=3)∧(t.kind=2→6≤eK t.kind t.kids.length)∧(t.kind=4∨t.kind=8∨t.kind=22→eK t.kind t.kids.length=2)∧(t.kind≠17→1≤eK t.kind t.kids.length):=by
 have h:=vM hs;refine⟨λG=>?_,λG=>?_,λG=>?_,λG=>?_⟩
 ·rw[G];simp only[eK];simp
 ·rw[G]at h⊢;simp only[eK,f0]at h⊢;simp at h⊢;repeat' split
  all_goals first|omega|(simp_all;omega)
 ·rcases G with G|G|G<;>(rw[G]at h⊢;simp only[eK,f0]at h⊢;simp at h⊢;repeat' split)<;>first|omega|(simp_all;done)|(simp_all;omega)
 ·have key:∀k n:Int,0≤n→k≠17→0≤eK k n→1≤eK k n:=λk n O G h=>by
   have q:∀(a b c:Nat) z,1≤b→f0 n a b c z=-1∨1≤f0 n a b c z:=λa b c z hb=>by
    unfold f0;repeat' split
    all_goals omega
   have a1:=q 2 6 2 (-1) (by decide);have U:=q 0 3 0 (-1) (by decide);have Z:=q 1 2 0 (-1) (by decide);have a4:=q 1 3 0 1 (by decide);have a5:=q 1 2 0 1 (by decide);have a7:=q 3 3 0 3 (by decide);have a8:=q 2 4 0 2 (by decide);have a9:=q 2 1 0 2 (by decide);have J:=q 0 1 0 0 (by decide)
   revert h
   simp only[eK]
   repeat' first|(intro h;omega)|split
  exact key _ _ (by omega) G h
section
variable{t:Tree}{N:Nat}{us:List Tree}
theorem Pd:∀k i (l:List (List UInt8)),N-i≤k→Sh l N→∃l',ib (k+1) t l i us (.node t.kind t.text l' us)∧Sh l' N:=λk=>by
 induction k with
 |zero=>intro i l hi hl;exact⟨l,kc 0 _ _ _ _ _ ⟨λh=>by have :=hl.1;omega,λ_=>rfl⟩,hl⟩
 | succ k ihk=>
  intro i l hi hl;by_cases h:i<l.length
  ·obtain⟨s,hs⟩:=hl.get (i:=i) (by have :=hl.1;omega);obtain⟨l',e,h'⟩:=ihk (i+1) (l.set i []) (by omega) (hl.set (by simp));exact⟨l',kc (k+1) _ _ _ _ _ ⟨λ_=>⟨s,hs,e⟩,λh'=>absurd h h'⟩,h'⟩
  ·exact⟨l,kc (k+1) _ _ _ _ _ ⟨λh'=>absurd h' h,λ_=>rfl⟩,hl⟩
theorem Hk:∀k i (l:List (List UInt8)),N-i≤k→Sh l N→∃l',ff (k+1) t l i us (.node t.kind t.text l' us)∧Sh l' N:=λk=>by
 induction k with
 |zero=>intro i l hi hl;exact⟨l,km 0 _ _ _ _ _ ⟨λh=>by have :=hl.1;omega,λ_=>rfl⟩,hl⟩
 | succ k ihk=>
  intro i l hi hl;by_cases h:i<l.length
  ·obtain⟨s,hs⟩:=hl.get (i:=i) (by have :=hl.1;omega);obtain⟨l',e,h'⟩:=ihk (i+1) (l.set i []) (by omega) (hl.set (by simp));exact⟨l',km (k+1) _ _ _ _ _ ⟨λ_=>⟨s,hs,e⟩,λh'=>absurd h h'⟩,h'⟩
  ·exact⟨l,km (k+1) _ _ _ _ _ ⟨λh'=>absurd h' h,λ_=>rfl⟩,hl⟩
theorem Ch(hs:shapeK t=true)(hN:N=(eK t.kind t.kids.length).toNat){l:List (List UInt8)}(G:Sh l N):∃O,fb (N+2) t l us (.node t.kind t.text O us)∧Sh O N:=by
 obtain⟨g1,g2,g3,g4⟩:=KQ hs;have e0:([]:List UInt8).length≤2:=by simp
 by_cases h1:t.kind=1
 ·have :=g1 h1;obtain⟨s,hs⟩:=G.get (i:=2) (by omega);exact⟨_,cq (N+1) _ _ _ _ ⟨λ_=>⟨s,hs,rfl⟩,λh=>absurd h1 h⟩,G.set (by simp)⟩
 by_cases h2:t.kind=2
 ·have :=g2 h2;have l1:=G.set (i:=2) e0;have l2:=l1.set (i:=3) e0;have l3:=l2.set (i:=4) e0;obtain⟨s,hs⟩:=G.get (i:=2) (by omega);obtain⟨s',hs'⟩:=l1.get (i:=3) (by omega);obtain⟨s2,hs2⟩:=l2.get (i:=4) (by omega);obtain⟨O,e,h'⟩:=Pd (t:=t) (us:=us) N 6 _ (by omega) l3;exact⟨O,cq (N+1) _ _ _ _ ⟨λh=>absurd h h1,λ_=>⟨λ_=>⟨s,hs,s',hs',s2,hs2,e⟩,λh=>absurd h2 h⟩⟩,h'⟩
 by_cases U:t.kind=4
 ·have :=g3 (by simp[U]);obtain⟨s,hs⟩:=G.get (i:=1) (by omega);exact⟨_,cq (N+1) _ _ _ _ ⟨λh=>absurd h h1,λ_=>⟨λh=>absurd h h2,λ_=>⟨λ_=>⟨s,hs,rfl⟩,λh=>absurd U h⟩⟩⟩,G.set e0⟩
 by_cases h8:t.kind=8
 ·have :=g3 (by simp[h8]);obtain⟨s,hs⟩:=G.get (i:=1) (by omega);exact⟨_,cq (N+1) _ _ _ _ ⟨λh=>absurd h h1,λ_=>⟨λh=>absurd h h2,λ_=>⟨λh=>absurd h U,λ_=>⟨λ_=>⟨s,hs,rfl⟩,λh=>absurd h8 h⟩⟩⟩⟩,G.set e0⟩
 by_cases J:t.kind=22
 ·have :=g3 (by simp[J]);obtain⟨s,hs⟩:=G.get (i:=1) (by omega);exact⟨_,cq (N+1) _ _ _ _ ⟨λh=>absurd h h1,λ_=>⟨λh=>absurd h h2,λ_=>⟨λh=>absurd h U,λ_=>⟨λh=>absurd h h8,λ_=>⟨λ_=>⟨s,hs,rfl⟩,λh=>absurd J h⟩⟩⟩⟩⟩,G.set e0⟩
 by_cases Z:t.kind=16
 ·obtain⟨O,e,h'⟩:=Hk (t:=t) (us:=us) N 1 _ (by omega) G;exact⟨O,cq (N+1) _ _ _ _ ⟨λh=>absurd h h1,λ_=>⟨λh=>absurd h h2,λ_=>⟨λh=>absurd h U,λ_=>⟨λh=>absurd h h8,λ_=>⟨λh=>absurd h J,λ_=>⟨λ_=>e,λh=>absurd Z h⟩⟩⟩⟩⟩⟩,h'⟩
 by_cases h18:t.kind=18
 ·obtain⟨O,e,h'⟩:=Hk (t:=t) (us:=us) N 1 _ (by omega) G;exact⟨O,cq (N+1) _ _ _ _ ⟨λh=>absurd h h1,λ_=>⟨λh=>absurd h h2,λ_=>⟨λh=>absurd h U,λ_=>⟨λh=>absurd h h8,λ_=>⟨λh=>absurd h J,λ_=>⟨λh=>absurd h Z,λ_=>⟨λ_=>e,λh=>absurd h18 h⟩⟩⟩⟩⟩⟩⟩,h'⟩
 ·exact⟨l,cq (N+1) _ _ _ _ ⟨λh=>absurd h h1,λ_=>⟨λh=>absurd h h2,λ_=>⟨λh=>absurd h U,λ_=>⟨λh=>absurd h h8,λ_=>⟨λh=>absurd h J,λ_=>⟨λh=>absurd h Z,λ_=>⟨λh=>absurd h h18,λ_=>rfl⟩⟩⟩⟩⟩⟩⟩,G⟩
end
theorem vQ{l:List Tree}(h:l[i]?=some u):kbulk (l.take (i+1))=kbulk (l.take i)+tbulk u:=by
 rw[List.take_add_one,h,ik];simp[kbulk]
theorem KH:∀t:Tree,tbulk t≤1000000→shapeK t=true→∀first,first.length≤2→∃u,iA t first u∧tbulk u+3≤25*tbulk t∧u.kind=t.kind:=dZ λt ih ht hs first hf=>by
 have hk:=bB t;have hbt:=aV t;have h0:=vM hs;have h6:=QB (k:=t.kind) (n:=(t.kids.length:Int)) (by omega);obtain⟨g1,g2,g3,g4⟩:=KQ hs;obtain⟨bl,hbl,hsh⟩:=Mi h0 (by omega);have loop:∀k i (done rest:List Tree),t.kids.length-i≤k→done.length=i→i≤t.kids.length→rest.length=t.kids.length-i→kbulk done+3*i≤25*kbulk (t.kids.take i)→∃M r,eX M t first bl (done++rest) i r∧tbulk r+3≤25*tbulk t∧r.kind=t.kind:=λk=>by
  have last:∀i (done rest:List Tree),¬i<t.kids.length→done.length=i→i≤t.kids.length→rest.length=t.kids.length-i→kbulk done+3*i≤25*kbulk (t.kids.take i)→∃M r,eX M t first bl (done++rest) i r∧tbulk r+3≤25*tbulk t∧r.kind=t.kind:=λi done rest hi hd hle hr hb=>by
   have hr0:rest=[]:=List.length_eq_zero_iff.1 (by omega);subst hr0;rw[List.append_nil];rw[List.take_of_length_le (by omega)]at hb;have fin:∀l',Sh l' (eK t.kind t.kids.length).toNat→tbulk (.node t.kind t.text l' done)+3≤25*tbulk t∧(Tree.node t.kind t.text l' done).kind=t.kind:=λl' hl'=>by
    have :=hl'.sum;exact⟨by simp only[tbulk];omega,rfl⟩
   by_cases h17:t.kind=17
   ·obtain⟨l',e,h'⟩:=Ch (us:=done) hs rfl hsh;exact⟨_,_,gI _ _ _ _ _ _ _ ⟨λh=>absurd h hi,λ_=>⟨λh=>absurd h17 h,λ_=>e⟩⟩,fin l' h'⟩
   ·by_cases h21:t.kind=21
    ·obtain⟨l',e,h'⟩:=Ch (us:=done) hs rfl hsh;exact⟨_,_,gI _ _ _ _ _ _ _ ⟨λh=>absurd h hi,λ_=>⟨λ_=>⟨λh=>absurd h21 h,λ_=>e⟩,λh=>absurd h h17⟩⟩,fin l' h'⟩
    ·obtain⟨l',e,h'⟩:=Ch (us:=done) hs rfl (hsh.set (i:=0) hf);have :=g4 h17;obtain⟨s,hs0⟩:=hsh.get (i:=0) (by omega);exact⟨_,_,gI _ _ _ _ _ _ _ ⟨λh=>absurd h hi,λ_=>⟨λ_=>⟨λ_=>⟨s,hs0,e⟩,λh=>absurd h h21⟩,λh=>absurd h h17⟩⟩,fin l' h'⟩
  induction k with
  |zero=>intro i done rest hi hd hle hr hb;exact last i done rest (by omega) hd hle hr hb
  | succ k ihk=>
   intro i done rest hi hd hle hr hb;obtain⟨u,hu,hul⟩|h':=be t.kids i
   ·have hbu:=aF hu;obtain⟨v,hv,hvb,_⟩:=ih i u hu (by omega) (CP hs hu).1 _ (Is t i first hf)
    match rest,hr with
    |z::rest',hr=>
     obtain⟨M,r,e,hb2⟩:=ihk (i+1) (done++[v]) rest' (by omega) (by simp[hd]) (by omega) (by simp at hr;omega) (by rw[vQ hu,ik];simp only[kbulk];omega);refine⟨M+1,r,gI M _ _ _ _ _ _ ⟨λ_=>⟨u,hu,_,MT t i first,v,hv,z,by simp[←hd],by omega,?_⟩,λh=>absurd hul h⟩,hb2⟩;have :(done++z::rest').set i v=done++[v]++rest':=by simp[←hd]
     rw[this];exact e
    |[],hr=>simp at hr;omega
   ·exact last i done rest h' hd hle hr hb
 obtain⟨M,r,e,hb⟩:=loop t.kids.length 0 [] (List.replicate t.kids.length (.node 0 [] [] [])) (by omega) rfl (by omega) (by simp) (by simp[kbulk]);exact⟨r,wl (M+1) _ _ _ ⟨_,xr (by omega) (by omega),bl,hbl,vx M _ _ _ _ ⟨by omega,by simpa using e⟩⟩,hb⟩
theorem LG(t:Tree)(ht:tbulk t≤1000000):∃u,lT t u∧tbulk u≤25*tbulk t∧(u.kind=t.kind∨u.kind=0):=by
 have h1:=zn t (by omega);have :=bV t;cases hs:shapeK t with
 |false=>rw[hs]at h1;exact⟨.node 0 [] [] [],pP 0 _ _ ⟨_,h1,λ_=>rfl,λh=>(by cases h)⟩,by rw[tb0];simp;omega,.inr rfl⟩
 |true=>
  rw[hs]at h1;obtain⟨u,J,hb,G⟩:=KH t ht hs [] (by simp);exact⟨u,pP 0 _ _ ⟨_,h1,λh=>(by cases h),λ_=>⟨u,J,rfl⟩⟩,by omega,.inl G⟩
theorem Gf:∀(l:List (List UInt8)) (i:Nat) (x:List UInt8),fp (l.set i x)≤fp l+x.length
 |[],i,x=>by simp[fp]
 |y::r,0,x=>by simp only[List.set_cons_zero,fp];omega
 |y::r,i+1,x=>by have :=Gf r i x;simp only[List.set_cons_succ,fp];omega
theorem Mk{L:List Int}:∀t:Tree,tbulk t≤1000000→∀{a:Int},Dc L a→Gt L (λu a'=>kP L a t u L a'∧u.kind=t.kind) (6*tbulk t):=dZ λt ih ht a hd=>by
 have hk:=bB t;have hl:=Dr t;have hbt:=aV t;have kids:∀k i (done:List Tree) (ls:List (List UInt8)) (a:Int),t.kids.length-i≤k→i≤t.kids.length→done.length=i→kbulk done≤6*kbulk (t.kids.take i)→fp ls≤6*fp t.leads→Dc L a→∃M,Gt L (λu a'=>gW M t L a (done++t.kids.drop i) i ls u L a'∧u.kind=t.kind) (6*tbulk t):=λk=>by
  have last:∀i (done:List Tree) (ls:List (List UInt8)) (a:Int),¬i<t.kids.length→i≤t.kids.length→done.length=i→kbulk done≤6*kbulk (t.kids.take i)→fp ls≤6*fp t.leads→Dc L a→∃M,Gt L (λu a'=>gW M t L a (done++t.kids.drop i) i ls u L a'∧u.kind=t.kind) (6*tbulk t):=λi done ls a hi hle hdn hb hls hd=>by
   rw[List.drop_of_length_le (by omega),List.append_nil];rw[List.take_of_length_le (by omega)]at hb;exact⟨1,_,a,⟨ri 0 _ _ _ _ _ _ _ _ _ ⟨λh=>absurd h (by omega),λ_=>⟨rfl,rfl,rfl⟩⟩,rfl⟩,hd,by simp only[tbulk];omega⟩
  induction k with
  |zero=>intro i done ls a hi hle hdn hb hls hd;exact last i done ls a (by omega) hle hdn hb hls hd
  | succ k ihk=>
   intro i done ls a hi hle hdn hb hls hd;obtain⟨u,hu,hul⟩|h':=be t.kids i
   ·have hbu:=aF hu;obtain⟨v,a1,⟨q1,_⟩,q2,q3⟩:=ih i u hu (by omega) hd;obtain⟨M,hM⟩:=ihk (i+1) (done++[v]) ls a1 (by omega) (by omega) (by simp[hdn]) (by rw[vQ hu,ik];simp only[kbulk];omega) hls q2;have hg:(done++t.kids.drop i)[i]?=some u:=by rw[List.getElem?_append_right (by omega),hdn];simpa using hu
    refine⟨M+1,hM.map (Nat.le_refl _) λw b ⟨h,hw⟩=>⟨ri M _ _ _ _ _ _ _ _ _ ⟨λ_=>⟨u,hg,_,_,_,q1,u,hg,?_⟩,λh'=>absurd (by simp[hdn];omega) h'⟩,hw⟩⟩;have :(done++t.kids.drop i).set i v=done++[v]++t.kids.drop (i+1):=by rw[aU hu];simp[←hdn]
    rw[this];exact h
   ·exact last i done ls a h' hle hdn hb hls hd
 have lead:∀k i (ls:List (List UInt8)) (a:Int),t.leads.length-i≤k→i≤t.leads.length→ls.length=t.leads.length→fp ls≤fp t.leads+5*i→Dc L a→∃M,Gt L (λu a'=>eV M t L a ls i u L a'∧u.kind=t.kind) (6*tbulk t):=λk=>by
  have hll:=Bj t.leads;have last:∀i (ls:List (List UInt8)) (a:Int),¬i<t.leads.length→i≤t.leads.length→ls.length=t.leads.length→fp ls≤fp t.leads+5*i→Dc L a→∃M,Gt L (λu a'=>eV M t L a ls i u L a'∧u.kind=t.kind) (6*tbulk t):=λi ls a hi hle hlen hb hd=>by
   obtain⟨M,hM⟩:=kids t.kids.length 0 [] ls a (by omega) (by omega) rfl (by simp[kbulk]) (by omega) hd;exact⟨M+1,hM.map (Nat.le_refl _) λw b ⟨h,hw⟩=>⟨mx M _ _ _ _ _ _ _ _ ⟨λh'=>absurd h' (by omega),λ_=>⟨by omega,by simpa using h⟩⟩,hw⟩⟩
  induction k with
  |zero=>intro i ls a hi hle hlen hb hd;exact last i ls a (by omega) hle hlen hb hd
  | succ k ihk=>
   intro i ls a hi hle hlen hb hd;obtain⟨x,hx,hxl⟩|h':=be ls i
   ·obtain⟨n,a1,h1,h2,h3⟩:=iv hd (n:=9) (by omega) (by omega);by_cases hn:n=1
    ·obtain⟨s,a2,g1,g2,g3⟩:=lZ h3 [[32,35,32,99,10],[32,32],[10,9],[35,10]] (by decide) (by decide);have hs5:=kI g2 (by decide);have :=Gf ls i s;obtain⟨M,hM⟩:=ihk (i+1) (ls.set i s) a2 (by omega) (by omega) (by simpa using hlen) (by omega) g3;exact⟨M+1,hM.map (Nat.le_refl _) λw b ⟨h,hw⟩=>⟨mx M _ _ _ _ _ _ _ _ ⟨λ_=>⟨_,_,_,h1,λ_=>⟨_,_,_,g1,x,hx,h⟩,λh'=>absurd hn h'⟩,λh'=>absurd hxl h'⟩,hw⟩⟩
    ·obtain⟨M,hM⟩:=ihk (i+1) ls a1 (by omega) (by omega) hlen (by omega) h3;exact⟨M+1,hM.map (Nat.le_refl _) λw b ⟨h,hw⟩=>⟨mx M _ _ _ _ _ _ _ _ ⟨λ_=>⟨_,_,_,h1,λh'=>absurd h' hn,λ_=>h⟩,λh'=>absurd hxl h'⟩,hw⟩⟩
   ·exact last i ls a (by omega) hle hlen hb hd
 obtain⟨M,hM⟩:=lead t.leads.length 0 t.leads a (by omega) (by omega) rfl (by omega) hd;exact hM.map (Nat.le_refl _) λw b ⟨h,hw⟩=>⟨yC M _ _ _ _ _ _ ⟨by omega,h⟩,hw⟩
theorem Mt{L:List Int}{a:Int}(G:Dc L a)(name:List UInt8)(hname:name.length≤5):Gt L (λt a'=>nC L a name t L a'∧(t.kind=1∨t.kind=0)) 300000:=by
 obtain⟨n,a1,h1,h2,h3⟩:=iv G (n:=4) (by omega) (by omega);have loop:∀(k:Nat) (a:Int) (l:List Tree),Dc L a→l.length+k≤100→kbulk l+k*500≤1500→Gt L (λt a'=>jm (k+1) name L a l (k:Int) t L a'∧(t.kind=1∨t.kind=0)) 300000:=λk=>by
  induction k with
  |zero=>
   intro a l G hl hb;have ht:tbulk (.node 1 name [] l)≤1506:=by rw[tbK];omega
   obtain⟨u,Z,hub,J⟩:=LG (.node 1 name [] l) (by omega);obtain⟨z,a2,g1,g2,g3⟩:=iv G (n:=2) (by omega) (by omega);by_cases hz:z=0
   ·exact(Mk u (by omega) g3).map (by omega) λw b ⟨h,O⟩=>⟨lQ 0 _ _ _ _ _ _ _ _ ⟨λh'=>by omega,λ_=>⟨u,Z,_,_,_,g1,λ_=>⟨_,_,_,h,rfl,rfl,rfl⟩,λh'=>absurd hz h'⟩⟩,by rw[O];exact J⟩
   ·exact⟨u,a2,⟨lQ 0 _ _ _ _ _ _ _ _ ⟨λh'=>by omega,λ_=>⟨u,Z,_,_,_,g1,λh'=>absurd h' hz,λ_=>⟨rfl,rfl,rfl⟩⟩⟩,J⟩,g3,by omega⟩
  |succ k U=>
   intro a l G hl hb;obtain⟨t,b,q1,q2,q3⟩:=Se G;exact(U b (l++[t]) q2 (by simp;omega) (by rw[ik];simp only[kbulk];omega)).map (Nat.le_refl _) λw c ⟨h,O⟩=>⟨lQ (k+1) _ _ _ _ _ _ _ _ ⟨λ_=>⟨_,_,_,q1,by simp;omega,by omega,by rw[show((k+1:Nat):Int)-1=(k:Int) by omega];exact h⟩,λh=>by omega⟩,O⟩
 exact(loop n.toNat a1 [] h3 (by simp;omega) (by simp only[kbulk];omega)).map (Nat.le_refl _) λw b ⟨h,O⟩=>⟨xx (n.toNat+1) _ _ _ _ _ _ ⟨_,_,_,h1,by rw[show n=((n.toNat:Nat):Int) by omega];exact h⟩,O⟩
def Mok(p:List Tree):Prop:=∀t∈p,t.kind=1∧shapeK t=true
theorem IT(l:List Int)(hl:l.length≤1000000):∃p,mH l p∧kbulk p≤1000000∧Mok p:=by
 have hd0:Dc l 0:=⟨by omega,by omega,by omega⟩;obtain⟨n,a1,h1,h2,h3⟩:=iv hd0 (n:=4) (by omega) (by omega);have loop:∀(k:Nat) (a:Int) (p:List Tree),Dc l a→p.length+k≤3→kbulk p+k*300001≤900003→Mok p→∃r,cj (k+1) l a p (k:Int) r∧kbulk r≤900003∧Mok r:=λk=>by
  induction k with
  |zero=>intro a p hd hp hb hmk;exact⟨p,lu 0 _ _ _ _ _ ⟨λh=>by omega,λ_=>rfl⟩,by omega,hmk⟩
  | succ k ihk=>
   intro a p hd hp hb hmk;have hb2:kbulk p+k*300001+300001≤900003:=Nat.le_trans (Nat.le_of_eq (by rw[Nat.succ_mul,Nat.add_assoc])) hb;have hb3:kbulk p+k*300001≤900003:=Nat.le_trans (Nat.le_add_right _ _) hb2;obtain⟨x,hx,_⟩|h':=be [[(65:UInt8)],[66],[67]] p.length
   rotate_left
   ·simp at h';omega
   have hx5:x.length≤5:=kI (List.mem_of_getElem? hx) (by decide);obtain⟨t,a2,⟨q1,qk⟩,q2,q3⟩:=Mt hd x hx5;obtain⟨z,a3,g1,g2,g3⟩:=iv q2 (n:=8) (by omega) (by omega);have step:∀u:Tree,tbulk u≤300001→(u.kind=1∨u.kind=0)→∃b r,gP u b∧((b=true)→(p++[u]).length≤1000000000∧InI (((k+1:Nat):Int)-1)∧cj (k+1) l a3 (p++[u]) (((k+1:Nat):Int)-1) r)∧((b=false)→InI (((k+1:Nat):Int)-1)∧cj (k+1) l a3 p (((k+1:Nat):Int)-1) r)∧kbulk r≤900003∧Mok r:=λu hu huk=>by
    obtain⟨b,hb',hbs⟩:=MM u (by omega);have e:((k+1:Nat):Int)-1=(k:Int):=by omega
    rw[e];cases b with
    | true=>
     have hus:=hbs rfl;have hu1:u.kind=1:=by
      rcases huk with h|h
      ·exact h
      ·have :=vM hus;rw[h]at this;simp[eK]at this
     obtain⟨r,hr,hrb⟩:=ihk a3 (p++[u]) g3 (by simp;omega) (by clear hb;rw[ik];simp only[kbulk];omega) (λt ht=>by
      rcases List.mem_append.1 ht with h|h
      ·exact hmk t h
      ·rw[List.mem_singleton]at h;subst h;exact⟨hu1,hus⟩)
     exact⟨true,r,hb',λ_=>⟨by simp;omega,by omega,hr⟩,λh=>(by cases h),hrb⟩
    |false=>
     obtain⟨r,hr,hrb⟩:=ihk a3 p g3 (by omega) hb3 hmk;exact⟨false,r,hb',λh=>(by cases h),λ_=>⟨by omega,hr⟩,hrb⟩
   by_cases hz:z=7
   ·have hub:tbulk (.node t.kind [65] t.leads t.kids)≤300001:=by have :=aV t;simp only[tbulk,List.length_cons,List.length_nil];omega
    obtain⟨b,r,e1,e2,e3,e4⟩:=step _ hub qk;exact⟨r,lu (k+1) _ _ _ _ _ ⟨λ_=>⟨x,hx,_,_,_,q1,_,_,_,g1,λ_=>⟨b,e1,e2,e3⟩,λh=>absurd hz h⟩,λh=>by omega⟩,e4⟩
   ·obtain⟨b,r,e1,e2,e3,e4⟩:=step t (by omega) qk;exact⟨r,lu (k+1) _ _ _ _ _ ⟨λ_=>⟨x,hx,_,_,_,q1,_,_,_,g1,λh=>absurd h hz,λ_=>⟨b,e1,e2,e3⟩⟩,λh=>by omega⟩,e4⟩
 obtain⟨r,hr,hrb,hrm⟩:=loop n.toNat a1 [] h3 (by simp;omega) (by simp only[kbulk];omega) (λt h=>by cases h);exact⟨r,wQ (n.toNat+1) _ _ ⟨_,_,yP 0 _ _ _ ⟨by omega,rfl,rfl⟩,_,_,_,h1,by rw[show n=((n.toNat:Nat):Int) by omega];exact hr⟩,by omega,hrm⟩
theorem IG(l:List ae)(G:l.length≤1000000000):jJ l l true:=by
 have loop:∀k i,k+i=l.length→fT (k+1) l l i true:=λk=>by
  induction k with
  |zero=>
   intro i hi;exact nd 0 _ _ _ _ (⟨λh=>absurd h (by omega),λ_=>rfl⟩)
  |succ k ih=>
   intro i hi;obtain⟨x,hx⟩:∃x,l[i]?=some x:=⟨_,List.getElem?_eq_getElem (by omega)⟩;exact nd (k+1) _ _ _ _ (⟨λ_=>⟨x,hx,x,hx,λh=>absurd rfl h,λ_=>⟨x,hx,x,hx,λh=>absurd rfl h,λ_=>⟨x,hx,x,hx,true,xS _,λh=>(by cases h),λ_=>ih (i+1) (by omega)⟩⟩⟩,λh=>absurd (by omega) h⟩)
 exact uo (l.length+1) _ _ _ (⟨λh=>absurd rfl h,λ_=>loop l.length 0 (by omega)⟩)
theorem OU(l:List Int):na l true:=by
 have G:ox l (decide (((l.length:Nat):Int)≤120)):=yG 0 _ _ (rfl);by_cases J:((l.length:Nat):Int)≤120
 ·obtain⟨p,h1,h2,Z⟩:=IT l (by omega);obtain⟨r,O,U,e3⟩:=Gz (p:=p) (by omega);rw[decide_eq_true J]at G;exact mi 0 _ _ (⟨true,G,λh=>(by cases h),λ_=>⟨p,h1,true,Ny,λ_=>⟨_,O,_,U,true,IG r (by omega),rfl⟩,λh=>(by cases h)⟩⟩)
 ·rw[decide_eq_false J]at G;exact mi 0 _ _ (⟨false,G,λ_=>⟨true,Ny,rfl⟩,λh=>(by cases h)⟩)
open Go.RowKit Go.ChangeShapes Go.WideShapes Go.Deep
theorem LB:prog.cellsOf 3=1:=by kernel_rfl
variable{W:World}
theorem Rn{H:Type}{enc:TypeId×Value→H}{a0:Option Addr}{len cap:Nat}{d:DataW H}{p:List MemPlace}(h:DataW.Trod enc prog W 0 (λ_=>true) true 23 (.slice a0 len cap) d p):
  ∃zs:List Int,len=zs.length∧len≤cap∧cap≤maxLen∧RowIn Any W 1 a0 zs.length (zs.map λz=>.int .i64 z):=by
 obtain⟨fuel,hf⟩:=h;rcases open_ints underlying23 underlying3 LB hf with⟨G,hx⟩|⟨a,len',cap',zs,G,hb,hl,hm,J,hx,hcell,hwf⟩
 ·simp[Value.cells]at G;obtain⟨rfl,rfl,rfl⟩:=G;exact⟨[],rfl,Nat.le_refl _,Nat.zero_le _,RowIn.none_⟩
 ·simp[Value.cells]at G;obtain⟨rfl,rfl,rfl⟩:=G;simp only[if_true]at J;have O:(zs.take len).length=len:=by simp;omega
  refine⟨zs.take len,O.symm,hl,hm,by simp,λh0=>?_⟩;rw[O]at h0⊢;have hs:a.spot=none:=World.cell?_spot (a:=a) (by have :=hcell 0 (by omega);simpa[Addr.add]using this);obtain⟨b,off,spot⟩:=a;simp only at hs;subst hs;have U:∀k,(⟨b,off,none⟩:Addr).add k=⟨b,off+k,none⟩:=λk=>by unfold Addr.add;split<;>simp_all
  refine⟨b,off,rfl,trivial,?_,λj hj=>?_⟩
  ·have :=hcell 0 (by omega);exact World.block_lt_of_cell? W ⟨b,off,none⟩ (by simpa[Addr.add]using this)
  ·have Z:j<len:=by omega
   have :=hcell j (by omega);rw[U]at this;rw[this];simp[Z,List.getD_eq_getElem?_getD,show j<zs.length from by omega]
abbrev we(W:World):Nat→Prop:=λb=>b<W.heap.size
theorem RowIn.live{sz n:Nat}{A:Option Addr}{xs:List Value}(h:RowIn Any W sz A n xs):RowIn (we W) W sz A n xs:=⟨h.1,λJ=>by
 obtain⟨b,off,h1,_,G,O⟩:=h.2 J;exact⟨b,off,h1,G,G,O⟩⟩
abbrev Iz(W:World)(v:V)(x:Value):Prop:=VRel (we W) W (λ_=>none) v x
theorem SS{l:List Int}{A:Option Addr}{cap:Nat}(G:l.length≤cap)(J:cap≤maxLen)(hr:RowIn Any W 1 A l.length (l.map λz=>.int .i64 z)):Iz W (.row 1 (l.map (V.int .i64))) (.slice A l.length cap):=by
 simp only[Iz,VRel];exact⟨A,cap,_,by simp,by simpa using G,J,FQ l,by simpa using hr.live⟩
theorem SU{fid:FuncId}{us:List V}{b:Bool}(h:sF prog fid us (.bool b))(G:∀p∈zN,VRel (we W) W ρ0 (.box p.2 0) (.pointer (some ⟨p.1,0,none⟩)):=by exact λp Z=>nomatch Z){xs:List Value}(hx:LRel (we W) W (λ_=>none) us xs):Calls prog fid xs.toArray W λe W'=>e=.returned (.bool b)∧Ext W W':=by
 have J:HRel (we W) W (λ_=>none) (⟨0,[]⟩:Hp).get:=Nn ⟨λ_ h=>h,G⟩;refine(h.2.2 _ W _ xs J hx).mono ?_;rintro e W' ⟨x,S',ρ',v,H',rfl,rfl,h1,h2,U⟩;simp only[VRel]at U;subst U;have O:∀b,¬∃id,own (λ_=>none) id ((⟨0,[]⟩:Hp).get id) b:=λb ⟨id,hb⟩=>by rw[zr]at hb;exact hb
 exact⟨rfl,Chg.ext ⟨h2.chg.os,h2.chg.tape,h2.chg.output,h2.chg.size,λb hb _=>h2.chg.block b hb (O b)⟩⟩
theorem lr1{u:V}{x:Value}(h:Iz W u x):LRel (we W) W (λ_=>none) [u] [x]:=⟨x,[],rfl,h,rfl⟩
open Go.RowKit Go.ChangeShapes Go.WideShapes Lx Sx
theorem GC:prog.cellsOf 58=2:=by kernel_rfl
theorem Kz:prog.cellsOf 3=1:=by kernel_rfl
theorem AI{n:String}{z:Int}{g:Nat}{r:List (String×DataW Unit)}{ps:List MemPlace}(hg:prog.globalNamed n=some g)(ht:(prog.globals[g]?).map (·.type)=some 58)(h:DataW.LaidVars prog W ((n,.agg [.lit (.int .i64 z),.lit (.int .i64 0)])::r) ps):
  (∃qs,DataW.LaidVars prog W r qs)∧VRel (we W) W ρ0 (.box [.int .i64 z,.int .i64 0] 0) (.pointer (some ⟨g,0,none⟩)):=by
 obtain⟨g',t,cs,fuel,p,q,h1,h2,G,h4,h5,_⟩:=h;rw[hg]at h1;injection h1 with h1;subst h1
 rw[ht]at h2;injection h2 with h2;subst h2
 refine⟨⟨q,h5⟩,?_⟩;obtain⟨y0,y1,n',hx,hl,h6,h7⟩:=trod_struct2 underlying58 h4;rw[GC]at hl;simp only[Kz]at h6 h7;obtain⟨a,O,f0,_⟩:=DataW.trod_int underlying3 h6;obtain⟨b,U,f1,_⟩:=DataW.trod_int underlying3 h7;rw[f0,f1]at hx;simp only[Prod.mk.injEq,DataW.agg.injEq,List.cons.injEq,DataW.lit.injEq,Lit.int.injEq,true_and,and_true]at hx;obtain⟨⟨rfl,rfl⟩,_⟩:=hx;have Z:cs.toList=[.int .i64 z,.int .i64 0]:=by
  match hc:cs.toList,hl with
  |[c0,c1],_=>
   rw[hc]at O U;simp only[List.drop_zero,List.drop_succ_cons,List.take_succ_cons,List.take_zero,List.cons.injEq,and_true]at O U;rw[O,U]
 unfold World.var? at G;rw[hg]at G;simp only[Option.bind_some]at G;split at G
 ·rename_i cs' ty fz hb;injection G with G;subst G
  have J:g<W.heap.size:=by
   rcases Nat.lt_or_ge g W.heap.size with h|h
   ·exact h
   ·rw[Array.getElem?_eq_none h]at hb;cases hb
  simp only[VRel];refine⟨g,0,[.int .i64 z,.int .i64 0],rfl,J,J,by simp only[LRel,VRel];exact⟨_,_,rfl,rfl,_,_,rfl,rfl,rfl⟩,λj hj=>?_⟩;rw[←Z];simp[World.cell?,hb]
 ·cases G
theorem ST{W:World}{ps:List MemPlace} (h:DataW.LaidVars prog W [("semvcs/typing.integer",Rows.laid_semvcs_typing_integer),("semvcs/typing.text",Rows.laid_semvcs_typing_text),("semvcs/typing.boolean",Rows.laid_semvcs_typing_boolean)] ps):∀p∈zN,VRel (we W) W ρ0 (.box p.2 0) (.pointer (some ⟨p.1,0,none⟩)):=by
 obtain⟨⟨q1,h1⟩,a1⟩:=AI (g:=0) (by kernel_rfl) (by kernel_rfl) h;obtain⟨⟨q2,h2⟩,a2⟩:=AI (g:=1) (by kernel_rfl) (by kernel_rfl) h1;obtain⟨_,a3⟩:=AI (g:=2) (by kernel_rfl) (by kernel_rfl) h2;intro p hp;simp only[zN,List.mem_cons,List.not_mem_nil,or_false]at hp;rcases hp with rfl|rfl|rfl
 ·exact a1
 ·exact a2
 ·exact a3
def Mh(cs:Array Value):Obj→Obj
 |.cells _ t frozen=>.cells cs t frozen
 |o=>o
noncomputable def LC (os:Os):World:=
 let w0:=World.holding prog os ⟨#[],#[],[]⟩
 {w0 with heap:=((w0.heap.modify 0 (Mh #[.int .i64 5,.int .i64 0])).modify 1 (Mh #[.int .i64 6,.int .i64 0])).modify 2 (Mh #[.int .i64 7,.int .i64 0])}
theorem SI(os:Os)(args:Array Value):laidMet prog Rows.typingLayoutRow.laid ((LC os).forCall (λ_ _=>0) ⟨#[],args,[]⟩).memory:=
 laidMet_of_run' 8 (by kernel_rfl) (by kernel_rfl)
end Go.Proofs.YtomplbgchbfjpaaGreatDoor
