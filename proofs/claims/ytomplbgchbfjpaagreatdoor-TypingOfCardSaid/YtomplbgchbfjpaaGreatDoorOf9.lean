/- Contracts of the functions that the law reaches, part 9. -/
import Derived.Test.YtomplbgchbfjpaaGreatDoorOf8
set_option linter.unusedVariables false
set_option linter.unusedSimpArgs false
namespace Go.Proofs.YtomplbgchbfjpaaGreatDoor
open _root_.Go.Proofs.Tryz
open Go.RowKit Lx
set_option maxRecDepth 100000
theorem ND(a b:YB):(ByteArray.mk a.toArray)++(ByteArray.mk b.toArray)=⟨(a++b).toArray⟩:=by apply ByteArray.ext;simp
theorem Eb{a b:YB}(h:bJ a=0∨bJ b=0):fusesT a b=false:=by simp[fusesT,h]
theorem vN{a b:YB}(h:¬(bJ a=0∨bJ b=0))(h2:¬((ky<|a++b).err=0∧(ky<|a++b).toks.length=2∧(ky<|a++b).tail=[])):fusesT a b=true:=by unfold fusesT;rw[if_neg h];simp only;rw[if_neg h2]
theorem KA{a b:YB}{t0 G:TokZ}(h:¬(bJ a=0∨bJ b=0))(h1:(ky<|a++b).err=0)(h2:(ky<|a++b).toks=[t0,G])(J:(ky<|a++b).tail=[]):
  fusesT a b=!(t0.lead==[]&&t0.text==a&&G.lead==[]&&G.text==b):=by
 unfold fusesT;rw[if_neg h];simp only;rw[h1,h2,J];simp
theorem Kl{l:YB}{b:Bool}(h:(l==[])=b):l.isEmpty=b:=by rw[<-h];cases l<;>rfl
theorem Fw{l:List TokZ}(h:l.length=2):∃t0 G,l=[t0,G]:=by
 match l,h with
 |[a,b],_=>exact⟨a,b,rfl⟩
set_option maxHeartbeats 2000000 in
theorem Rj(a b:YB)(w:World)(ha:a.length<=140737488355328)(hb:b.length<=140737488355328):Calls prog 114 #[.string ⟨a.toArray⟩,.string ⟨b.toArray⟩] w λe w'=>e=.returned (.bool<|fusesT a b)∧Ext w w':=by
 have hx:=ND;obtain⟨ka,J⟩:∃k,bJ a=k:=⟨_,rfl⟩;obtain⟨kb,O⟩:∃k,bJ b=k:=⟨_,rfl⟩;have HKa:=Lib.hid J;have HKb:=Lib.hid O;clear J O
 go_enter func114,ntmps114
 go_wp2_with fail
 refine(GK _ _<|by omega).mono ?_;rintro e1 w1 ⟨rfl,U⟩;rw[HKa.out];have HX1:=Lib.hid U;clear U;by_cases h1:ka=0
 ·subst h1
  go_wp2_with fail
  go_ret
  exact⟨cb (Eb<|.inl HKa.out).symm,HX1.out⟩
 have h1b:((ka:Int)==0)=false:=by simp;omega
 go_wp2_with fail
 refine(GK _ _<|by omega).mono ?_;rintro e2 w2 ⟨rfl,Z⟩;rw[HKb.out];have HX2:=Lib.hid<|HX1.out.trans Z;clear Z;by_cases h2:kb=0
 ·subst h2
  go_wp2_with fail
  go_ret
  exact⟨cb (Eb<|.inr HKb.out).symm,HX2.out⟩
 have h2b:((kb:Int)==0)=false:=by simp;omega
 have HN:=Lib.hid (show¬(bJ a=0∨bJ b=0)from by rw[HKa.out,HKb.out];omega);obtain⟨Rs,hRs⟩:∃Rs,ky (a++b)=Rs:=⟨_,rfl⟩;have HRs:=Lib.hid hRs;clear hRs
 go_wp2_with fail
 refine(TQ _ _ (by simp;omega)).mono ?_;rintro e3 w3 ⟨v,rfl,htr,hx3⟩;rw[HRs.out]at htr⊢;obtain⟨A,c,rfl,hc1,hc2,G⟩:=htr;unfold maxLen at hc2;have HX3:=Lib.hid<|HX2.out.trans hx3;clear hx3;have HRow:=Lib.hid G;clear G;obtain⟨toks,tail,place,er⟩:=Rs;simp only at HRow hc1 hc2⊢;by_cases h3:er=0
 rotate_left
 ·have h3b:((er:Int)!=0)=true:=by simp;omega
  have HF:=Lib.hid (vN HN.out λh=>h3 (by rw[HRs.out]at h;exact h.1))
  go_wp2_with fail
  go_ret
  exact⟨cb HF.out.symm,HX3.out⟩
 subst h3;by_cases h4:toks.length=2
 rotate_left
 ·have h4b:((toks.length:Int)!=2)=true:=by simp;omega
  have HF:=Lib.hid (vN HN.out λh=>h4 (by rw[HRs.out]at h;exact h.2.1))
  go_wp2_with fail
  go_ret
  exact⟨cb HF.out.symm,HX3.out⟩
 by_cases h5:tail=[]
 rotate_left
 ·have h5b:(tail==[])=false:=by simpa using h5
  have h5c:tail.isEmpty=false:=by simpa using h5
  obtain⟨t0,t1,rfl⟩:=Fw h4;have HF:=Lib.hid (vN HN.out λh=>h5 (by rw[HRs.out]at h;exact h.2.2));clear h5 h4
  go_wp2_with fail
  go_ret
  exact⟨cb HF.out.symm,HX3.out⟩
 subst h5;obtain⟨t0,t1,rfl⟩:=Fw h4;clear h4;obtain⟨b0,off,rfl,hb0,p0,p1,p2⟩:=Ec HRow.out (k:=0) (by simp);obtain⟨b0',off',heq,_,q0,q1,q2⟩:=Ec HRow.out (k:=1) (by simp);obtain⟨rfl,rfl⟩:b0=b0'∧off=off':=by simpa using heq
 clear heq;have HF:=Lib.hid (KA HN.out (by rw[HRs.out]) (by rw[HRs.out])<|by rw[HRs.out]);simp only[Nat.zero_mul,Nat.one_mul,Nat.add_zero,List.getElem_cons_zero,List.getElem_cons_succ]at p0 p1 p2 q0 q1 q2;cases g1:(t0.text==a)
 ·skip
  go_wp2_with fail
  go_ret
  exact⟨cb (by rw[HF.out,g1];simp),HX3.out⟩
 cases g0:(t0.lead==[])
 ·skip
  have g0':t0.lead.isEmpty=false:=by simpa using g0
  go_wp2_with fail
  go_ret
  exact⟨cb (by rw[HF.out,g1,g0];simp),HX3.out⟩
 have g0':t0.lead.isEmpty=true:=by simpa using g0
 cases g3:(t1.text==b)
 ·skip
  go_wp2_with fail
  go_ret
  exact⟨cb (by rw[HF.out,g1,g0,g3];simp),HX3.out⟩
 cases g2:(t1.lead==[])
 all_goals
  have g2':=Kl g2
  go_wp2_with fail
  go_ret
  exact⟨cb (by rw[HF.out,g1,g0,g3,g2];simp),HX3.out⟩
open Go.RowKit Lx Sx
set_option maxHeartbeats 1000000
theorem Nz(a b:YB)(G:a.length<=140737488355328)(hb:b.length<=140737488355328):sU a b (fusesT a b):=sum0_calls rfl rfl λS w ρ xs hx=>by simp only[LRel]at hx;obtain⟨x,ys,rfl,h1,y,zs,rfl,h2,rfl⟩:=hx;simp only[VRel]at h1 h2;subst h1 h2;exact(Rj a b w G hb).mono λe w' ⟨h1,h2⟩=>⟨_,h1,by simp only[VRel],IR h2⟩
theorem DS(a:YB)(f:Bool)(G:a.length<=140737488351232):nj a f (kB false a f):=sum0_calls rfl rfl λS w ρ xs hx=>by
 simp only[LRel]at hx;obtain⟨x,ys,rfl,h1,y,zs,rfl,h2,rfl⟩:=hx;simp only[VRel]at h1 h2;subst h1 h2;exact(PF a f w<|by omega).mono λe w' ⟨h1,h2⟩=>⟨_,h1,by simp only[VRel],h2▸Chg.refl _ _⟩
abbrev Pce:=aa
def Qp(l:List Pce):Prop:=∀x∈l,x.Lead.length<=1000000∧x.Text.length<=1000010
theorem cU{a b:List Pce}:Qp (a++b)↔Qp a∧Qp b:=⟨λh=>⟨λx hx=>h x (by simp[hx]),λx hx=>h x<|by simp[hx]⟩,λh x hx=>by rcases List.mem_append.1 hx with h1|h1;exact h.1 x h1;exact h.2 x h1⟩
theorem cm{x:Pce}{a:List Pce}:Qp (x::a)↔(x.Lead.length<=1000000∧x.Text.length<=1000010)∧Qp a:=⟨λh=>⟨h x (by simp),λy hy=>h y<|by simp[hy]⟩,λh y hy=>by rcases List.mem_cons.1 hy with h1|h1;subst h1;exact h.1;exact h.2 y h1⟩
theorem cN:Qp []:=λx hx=>by cases hx
variable{t:Tree}
theorem bM(k:Nat)(ht:tbulk t<=1000000):∃s,au t (k:Int) s∧s.length<=1000000:=by
 by_cases h:(k:Int)<(t.leads.length:Nat)
 ·obtain⟨s,hs,_⟩|h':=bd t.leads k
  ·have :=BE hs;have :=aQ t;exact⟨s,sT 0 _ _ _ ⟨λ_=>⟨k,I,s,hs,I⟩,λh'=>absurd h h'⟩,by omega⟩
  ·omega
 ·exact⟨[],sT 0 _ _ _ ⟨λh'=>absurd h' h,λ_=>rfl⟩,by simp⟩
def Pok(t:Tree):Prop:=∀l,l.length+8*tbulk t<=900000000->∃r,aw l t r∧r.length+1<=l.length+8*tbulk t∧(Qp l->Qp r)
theorem Bw{k n:Int}:∀{l:YT} {i:Nat},shapeKs k n i l=true->∀j u,l[j]?=some u->jo k n ((i+j:Nat):Int) u.kind=true∧shapeK u=true
 |[],_,_,j,u,h=>by simp at h
 |t::r,i,hs,0,u,h=>by simp only[shapeKs,aaa]at hs;simp at h;subst h;exact⟨hs.1.1,hs.1.2⟩
 |t::r,i,hs,j+1,u,h=>by simp only[shapeKs,aaa]at hs;have :=Bw hs.2 j u (by simpa using h);rw[show i+1+j=i+(j+1) by omega]at this;exact this
variable{u:Tree}{i:Nat}
theorem El(hs:shapeK t=true)(G:t.kids[i]?=some u):shapeK u=true∧jo t.kind t.kids.length i u.kind=true:=by rw[cc]at hs;simp only[aaa]at hs;have :=Bw hs.2 i u G;rw[Nat.zero_add]at this;exact⟨this.2,this.1⟩
theorem wM(hs:shapeK t=true):0<=fb t.kind t.kids.length:=by rw[cc]at hs;simp only[aaa,aas]at hs;exact hs.1.1
theorem jv(hs:shapeK t=true):(t.kind=2->2<=t.kids.length)∧(t.kind=18->1<=t.kids.length)∧(t.kind=3∨t.kind=4∨t.kind=8∨t.kind=17∨t.kind=22->t.kids.length=1)∧(t.kind=19->t.kids.length=3)∧(t.kind=20∨t.kind=21->t.kids.length=2):=by
 have h:=wM hs;refine⟨λG=>?_,λG=>?_,λG=>?_,λG=>?_,λG=>?_⟩
 ·rw[G]at h;simp only[fb,f0]at h;simp at h;omega
 ·rw[G]at h;simp only[fb,f0]at h;simp at h;omega
 ·rcases G with G|G|G|G|G<;>(rw[G]at h;simp only[fb,f0]at h;simp at h;omega)
 ·rw[G]at h;simp only[fb,f0]at h;simp at h;omega
 ·rcases G with G|G<;>(rw[G]at h;simp only[fb,f0]at h;simp at h;omega)
variable{l r:List Pce}
theorem dn1(M:Nat)(G:t.kind∉[(1:Int)])(h:my M l t r):aw l t r:=rq M _ _ _ ⟨λe=>absurd (by simp[e]) G,λ_=>h⟩
theorem dn2(M:Nat)(G:t.kind∉[(1:Int),2])(h:mh M l t r):aw l t r:=dn1 (M+1) (λe=>G (by simp only[aah,List.not_mem_nil,or_false]at e⊢;omega)) (qr M _ _ _ ⟨λe=>absurd (by simp[e]) G,λ_=>h⟩)
theorem dn3(M:Nat)(G:t.kind∉[(1:Int),2,3])(h:mc M l t r):aw l t r:=dn2 (M+1) (λe=>G (by simp only[aah,List.not_mem_nil,or_false]at e⊢;omega)) (qd M _ _ _ ⟨λe=>absurd (by simp[e]) G,λ_=>h⟩)
theorem dn4(M:Nat)(G:t.kind∉[(1:Int),2,3,4])(h:ml M l t r):aw l t r:=dn3 (M+1) (λe=>G (by simp only[aah,List.not_mem_nil,or_false]at e⊢;omega)) (ql M _ _ _ ⟨λe=>absurd (by simp[e]) G,λ_=>h⟩)
theorem dn5(M:Nat)(G:t.kind∉[(1:Int),2,3,4,5])(h:mb M l t r):aw l t r:=dn4 (M+1) (λe=>G (by simp only[aah,List.not_mem_nil,or_false]at e⊢;omega)) (qq M _ _ _ ⟨λe=>absurd (by simp[e]) G,λ_=>h⟩)
theorem dn6(M:Nat)(G:t.kind∉[(1:Int),2,3,4,5,6])(h:lA M l t r):aw l t r:=dn5 (M+1) (λe=>G (by simp only[aah,List.not_mem_nil,or_false]at e⊢;omega)) (qg M _ _ _ ⟨λe=>absurd (by simp[e]) G,λ_=>h⟩)
theorem dn7(M:Nat)(G:t.kind∉[(1:Int),2,3,4,5,6,7])(h:ln M l t r):aw l t r:=dn6 (M+1) (λe=>G (by simp only[aah,List.not_mem_nil,or_false]at e⊢;omega)) (po M _ _ _ ⟨λe=>absurd (by simp[e]) G,λ_=>h⟩)
theorem dn8(M:Nat)(G:t.kind∉[(1:Int),2,3,4,5,6,7,13])(h:lj M l t r):aw l t r:=dn7 (M+1) (λe=>G (by simp only[aah,List.not_mem_nil,or_false]at e⊢;omega)) (pj M _ _ _ ⟨λe=>absurd (by simp[e]) G,λ_=>h⟩)
theorem dn9(M:Nat)(G:t.kind∉[(1:Int),2,3,4,5,6,7,13,14])(h:lm M l t r):aw l t r:=dn8 (M+1) (λe=>G (by simp only[aah,List.not_mem_nil,or_false]at e⊢;omega)) (pE M _ _ _ ⟨λe=>absurd (by simp[e]) G,λ_=>h⟩)
theorem Ry(M:Nat)(G:t.kind∉[(1:Int),2,3,4,5,6,7,13,14,15])(h:lE M l t r):aw l t r:=dn9 (M+1) (λe=>G (by simp only[aah,List.not_mem_nil,or_false]at e⊢;omega)) (pD M _ _ _ ⟨λe=>absurd (by simp[e]) G,λ_=>h⟩)
theorem SW(M:Nat)(G:t.kind∉[(1:Int),2,3,4,5,6,7,13,14,15,8])(h:lp M l t r):aw l t r:=Ry (M+1) (λe=>G (by simp only[aah,List.not_mem_nil,or_false]at e⊢;omega)) (pC M _ _ _ ⟨λe=>absurd (by simp[e]) G,λ_=>h⟩)
theorem QY(M:Nat)(G:t.kind∉[(1:Int),2,3,4,5,6,7,13,14,15,8,16])(h:lC M l t r):aw l t r:=SW (M+1) (λe=>G (by simp only[aah,List.not_mem_nil,or_false]at e⊢;omega)) (pn M _ _ _ ⟨λe=>absurd (by simp[e]) G,λ_=>h⟩)
theorem SB(M:Nat)(G:t.kind∉[(1:Int),2,3,4,5,6,7,13,14,15,8,16,17])(h:lB M l t r):aw l t r:=QY (M+1) (λe=>G (by simp only[aah,List.not_mem_nil,or_false]at e⊢;omega)) (pu M _ _ _ ⟨λe=>absurd (by simp[e]) G,λ_=>h⟩)
theorem RI(M:Nat)(G:t.kind∉[(1:Int),2,3,4,5,6,7,13,14,15,8,16,17,18])(h:lz M l t r):aw l t r:=SB (M+1) (λe=>G (by simp only[aah,List.not_mem_nil,or_false]at e⊢;omega)) (ph M _ _ _ ⟨λe=>absurd (by simp[e]) G,λ_=>h⟩)
theorem SK(M:Nat)(G:t.kind∉[(1:Int),2,3,4,5,6,7,13,14,15,8,16,17,18,19])(h:lu M l t r):aw l t r:=RI (M+1) (λe=>G (by simp only[aah,List.not_mem_nil,or_false]at e⊢;omega)) (pI M _ _ _ ⟨λe=>absurd (by simp[e]) G,λ_=>h⟩)
theorem RY(M:Nat)(G:t.kind∉[(1:Int),2,3,4,5,6,7,13,14,15,8,16,17,18,19,20])(h:lw M l t r):aw l t r:=SK (M+1) (λe=>G (by simp only[aah,List.not_mem_nil,or_false]at e⊢;omega)) (pi M _ _ _ ⟨λe=>absurd (by simp[e]) G,λ_=>h⟩)
theorem Sj(M:Nat)(G:t.kind∉[(1:Int),2,3,4,5,6,7,13,14,15,8,16,17,18,19,20,21])(h:lD M l t r):aw l t r:=RY (M+1) (λe=>G (by simp only[aah,List.not_mem_nil,or_false]at e⊢;omega)) (py M _ _ _ ⟨λe=>absurd (by simp[e]) G,λ_=>h⟩)
theorem p_5(G:t.kind=5)(ht:tbulk t<=1000000):Pok t:=λl hl=>by obtain⟨s1,J,O⟩:=bM 0 ht;have U:=bS t;have M:=0;refine⟨l++[⟨s1,[73,110,116]⟩],?_,by simp;omega,λZ=>by simp only[cU,cm];exact⟨Z,⟨O,by decide⟩,cN⟩⟩;exact dn4 (M+2) (by rw[G];decide) (qq (M+1) _ _ _ ⟨λ_=>⟨_,J,by simp;omega,rfl⟩,λh=>absurd G h⟩)
theorem p_6(G:t.kind=6)(ht:tbulk t<=1000000):Pok t:=λl hl=>by obtain⟨s1,J,O⟩:=bM 0 ht;have U:=bS t;have M:=0;refine⟨l++[⟨s1,[84,101,120,116]⟩],?_,by simp;omega,λZ=>by simp only[cU,cm];exact⟨Z,⟨O,by decide⟩,cN⟩⟩;exact dn5 (M+2) (by rw[G];decide) (qg (M+1) _ _ _ ⟨λ_=>⟨_,J,by simp;omega,rfl⟩,λh=>absurd G h⟩)
theorem p_7(G:t.kind=7)(ht:tbulk t<=1000000):Pok t:=λl hl=>by obtain⟨s1,J,O⟩:=bM 0 ht;have U:=bS t;have M:=0;refine⟨l++[⟨s1,[66,111,111,108]⟩],?_,by simp;omega,λZ=>by simp only[cU,cm];exact⟨Z,⟨O,by decide⟩,cN⟩⟩;exact dn6 (M+2) (by rw[G];decide) (po (M+1) _ _ _ ⟨λ_=>⟨_,J,by simp;omega,rfl⟩,λh=>absurd G h⟩)
theorem UH(G:t.kind=13)(ht:tbulk t<=1000000):Pok t:=λl hl=>by obtain⟨s1,J,O⟩:=bM 0 ht;have U:=bS t;have M:=0;refine⟨l++[⟨s1,[116,114,117,101]⟩],?_,by simp;omega,λZ=>by simp only[cU,cm];exact⟨Z,⟨O,by decide⟩,cN⟩⟩;exact dn7 (M+2) (by rw[G];decide) (pj (M+1) _ _ _ ⟨λ_=>⟨_,J,by simp;omega,rfl⟩,λh=>absurd G h⟩)
theorem UM(G:t.kind=14)(ht:tbulk t<=1000000):Pok t:=λl hl=>by obtain⟨s1,J,O⟩:=bM 0 ht;have U:=bS t;have M:=0;refine⟨l++[⟨s1,[102,97,108,115,101]⟩],?_,by simp;omega,λZ=>by simp only[cU,cm];exact⟨Z,⟨O,by decide⟩,cN⟩⟩;exact dn8 (M+2) (by rw[G];decide) (pE (M+1) _ _ _ ⟨λ_=>⟨_,J,by simp;omega,rfl⟩,λh=>absurd G h⟩)
theorem Uk(G:t.kind=15)(ht:tbulk t<=1000000):Pok t:=λl hl=>by obtain⟨s1,J,O⟩:=bM 0 ht;have U:=bS t;have M:=0;refine⟨l++[⟨s1,[63]⟩],?_,by simp;omega,λZ=>by simp only[cU,cm];exact⟨Z,⟨O,by decide⟩,cN⟩⟩;exact dn9 (M+2) (by rw[G];decide) (pD (M+1) _ _ _ ⟨λ_=>⟨_,J,by simp;omega,rfl⟩,λh=>absurd G h⟩)
theorem yy{l:YT}(G:l[0]?=some u):tbulk u<=kbulk l:=bn G
theorem Dt{l:YT}{v:Tree}(G:l[0]?=some u)(h1:l[1]?=some v):tbulk u+tbulk v<=kbulk l:=by
 match l,G,h1 with
 |a::r,G,h1=>simp at G;subst G;have :=bn (ks:=r) (i:=0) (by simpa using h1);simp only[kbulk];omega
theorem QH{l:YT}{v x:Tree}(G:l[0]?=some u)(h1:l[1]?=some v)(h2:l[2]?=some x):tbulk u+tbulk v+tbulk x<=kbulk l:=by
 match l,G,h1,h2 with
 |a::r,G,h1,h2=>simp at G;subst G;have :=Dt (l:=r) (by simpa using h1) (by simpa using h2);simp only[kbulk];omega
theorem p_3(J:t.kind=3)(hs:shapeK t=true)(ht:tbulk t<=1000000)(ih:∀(i:Nat) (u:Tree),t.kids[i]?=some u->Pok u):Pok t:=λl hl=>by
 have htp:=bS t;have htx:=cH t;have hn:=jv hs;have M:=0;have hkn:t.kids.length=1:=hn.2.2.1 (by simp[J]);obtain⟨O,G,_⟩|h':=bd t.kids 0
 rotate_left
 ·omega
 have Z:tbulk O+1<=tbulk t:=by have hb:=aQ t;have hx:=yy G;omega
 obtain⟨s1,g1,b1⟩:=bM 0 ht;obtain⟨s2,g2,b2⟩:=bM 1 ht;obtain⟨s3,g3,b3⟩:=bM 2 ht;have q1:Qp l->Qp (l++[⟨s1,[116,121,112,101]⟩,⟨s2,t.text⟩,⟨s3,[61]⟩]):=λU=>by simp only[cU,cm];exact⟨U,⟨b1,by decide⟩,⟨b2,by omega⟩,⟨b3,by decide⟩,cN⟩
 obtain⟨r0,e0,z0,y0⟩:=ih 0 O G (l++[⟨s1,[116,121,112,101]⟩,⟨s2,t.text⟩,⟨s3,[61]⟩]) (by first|omega|(simp only[aab,aac,aae];omega))
 try simp only[aab,aac,aae]at z0
 refine⟨r0,?_,by first|omega|(simp only[aab,aac,aae];omega),λU=>(y0<|q1 U)⟩;exact dn2 (M+2) (by rw[J];decide) (qd (M+1) _ _ _ ⟨λ_=>xu (M) _ _ _ ⟨_,g1,_,g2,_,g3,by simp;omega,O,G,_,e0,rfl⟩,λh=>absurd J h⟩)
theorem p_4(J:t.kind=4)(hs:shapeK t=true)(ht:tbulk t<=1000000)(ih:∀(i:Nat) (u:Tree),t.kids[i]?=some u->Pok u):Pok t:=λl hl=>by
 have htp:=bS t;have htx:=cH t;have hn:=jv hs;have M:=0;have hkn:t.kids.length=1:=hn.2.2.1 (by simp[J]);obtain⟨O,G,_⟩|h':=bd t.kids 0
 rotate_left
 ·omega
 have Z:tbulk O+1<=tbulk t:=by have hb:=aQ t;have hx:=yy G;omega
 obtain⟨s1,g1,b1⟩:=bM 0 ht;obtain⟨s2,g2,b2⟩:=bM 1 ht;have q1:Qp l->Qp (l++[⟨s1,t.text⟩,⟨s2,[58]⟩]):=λU=>by simp only[cU,cm];exact⟨U,⟨b1,by omega⟩,⟨b2,by decide⟩,cN⟩
 obtain⟨r0,e0,z0,y0⟩:=ih 0 O G (l++[⟨s1,t.text⟩,⟨s2,[58]⟩]) (by first|omega|(simp only[aab,aac,aae];omega))
 try simp only[aab,aac,aae]at z0
 refine⟨r0,?_,by first|omega|(simp only[aab,aac,aae];omega),λU=>(y0<|q1 U)⟩;exact dn3 (M+2) (by rw[J];decide) (ql (M+1) _ _ _ ⟨λ_=>xP (M) _ _ _ ⟨_,g1,_,g2,by simp;omega,O,G,_,e0,rfl⟩,λh=>absurd J h⟩)
theorem p_8(O:t.kind=8)(hs:shapeK t=true)(ht:tbulk t<=1000000)(ih:∀(i:Nat) (u:Tree),t.kids[i]?=some u->Pok u):Pok t:=λl hl=>by
 have htp:=bS t;have htx:=cH t;have hn:=jv hs;have M:=0;have hkn:t.kids.length=1:=hn.2.2.1 (by simp[O]);obtain⟨U,G,_⟩|h':=bd t.kids 0
 rotate_left
 ·omega
 have hsum:tbulk U+1<=tbulk t:=by have hb:=aQ t;have hx:=yy G;omega
 obtain⟨s1,g1,b1⟩:=bM 0 ht;have q1:Qp l->Qp (l++[⟨s1,[91]⟩]):=λJ=>by simp only[cU,cm];exact⟨J,⟨b1,by decide⟩,cN⟩
 obtain⟨Z,e0,z0,y0⟩:=ih 0 U G (l++[⟨s1,[91]⟩]) (by first|omega|(simp only[aab,aac,aae];omega))
 try simp only[aab,aac,aae]at z0
 obtain⟨s2,g2,b2⟩:=bM 1 ht;have q3:Qp Z->Qp (Z++[⟨s2,[93]⟩]):=λJ=>by simp only[cU,cm];exact⟨J,⟨b2,by decide⟩,cN⟩
 refine⟨(Z++[⟨s2,[93]⟩]),?_,by first|omega|(simp only[aab,aac,aae];omega),λJ=>(q3<|y0<|q1 J)⟩;exact Ry (M+2) (by rw[O];decide) (pC (M+1) _ _ _ ⟨λ_=>ww (M) _ _ _ ⟨_,g1,by simp;omega,U,G,_,e0,_,g2,by simp;omega,rfl⟩,λh=>absurd O h⟩)
theorem UD(J:t.kind=17)(hs:shapeK t=true)(ht:tbulk t<=1000000)(ih:∀(i:Nat) (u:Tree),t.kids[i]?=some u->Pok u):Pok t:=λl hl=>by
 have Z:=bS t;have htx:=cH t;have hn:=jv hs;have M:=0;have hkn:t.kids.length=1:=hn.2.2.1 (by simp[J]);obtain⟨O,G,_⟩|h':=bd t.kids 0
 rotate_left
 ·omega
 have U:tbulk O+1<=tbulk t:=by have hb:=aQ t;have hx:=yy G;omega
 obtain⟨r0,e0,z0,y0⟩:=ih 0 O G l (by first|omega|(simp only[aab,aac,aae];omega))
 try simp only[aab,aac,aae]at z0
 refine⟨r0,?_,by first|omega|(simp only[aab,aac,aae];omega),λhq=>(y0 hq)⟩;exact QY (M+2) (by rw[J];decide)<|pu (M+1) _ _ _ ⟨λ_=>⟨O,G,_,e0,rfl⟩,λh=>absurd J h⟩
theorem UG(Z:t.kind=19)(hs:shapeK t=true)(ht:tbulk t<=1000000)(ih:∀(i:Nat) (u:Tree),t.kids[i]?=some u->Pok u):Pok t:=λl hl=>by
 have htp:=bS t;have htx:=cH t;have hn:=jv hs;have M:=0;have hkn:t.kids.length=3:=hn.2.2.2.1 Z;obtain⟨u0,G,_⟩|h':=bd t.kids 0
 rotate_left
 ·omega
 obtain⟨u1,J,_⟩|h':=bd t.kids 1
 rotate_left
 ·omega
 obtain⟨u2,O,_⟩|h':=bd t.kids 2
 rotate_left
 ·omega
 have hsum:tbulk u0+tbulk u1+tbulk u2+1<=tbulk t:=by have hb:=aQ t;have hx:=QH G J O;omega
 obtain⟨s1,g1,b1⟩:=bM 0 ht;have q1:Qp l->Qp (l++[⟨s1,[105,102]⟩]):=λU=>by simp only[cU,cm];exact⟨U,⟨b1,by decide⟩,cN⟩
 obtain⟨r0,e0,z0,y0⟩:=ih 0 u0 G (l++[⟨s1,[105,102]⟩]) (by first|omega|(simp only[aab,aac,aae];omega))
 try simp only[aab,aac,aae]at z0
 obtain⟨s2,g2,b2⟩:=bM 1 ht;have q3:Qp r0->Qp (r0++[⟨s2,[116,104,101,110]⟩]):=λU=>by simp only[cU,cm];exact⟨U,⟨b2,by decide⟩,cN⟩
 obtain⟨r1,e1,z1,y1⟩:=ih 1 u1 J (r0++[⟨s2,[116,104,101,110]⟩]) (by first|omega|(simp only[aab,aac,aae];omega))
 try simp only[aab,aac,aae]at z1
 obtain⟨s3,g3,b3⟩:=bM 2 ht;have q5:Qp r1->Qp (r1++[⟨s3,[101,108,115,101]⟩]):=λU=>by simp only[cU,cm];exact⟨U,⟨b3,by decide⟩,cN⟩
 obtain⟨r2,e2,z2,y2⟩:=ih 2 u2 O (r1++[⟨s3,[101,108,115,101]⟩]) (by first|omega|(simp only[aab,aac,aae];omega))
 try simp only[aab,aac,aae]at z2
 refine⟨r2,?_,by first|omega|(simp only[aab,aac,aae];omega),λU=>(y2<|q5<|y1<|q3<|y0<|q1 U)⟩;exact RI (M+2) (by rw[Z];decide) (pI (M+1) _ _ _ ⟨λ_=>wj (M) _ _ _ ⟨u0,G,_,g1,by simp;omega,_,e0,u1,J,_,g2,by simp;omega,_,e1,u2,O,_,g3,by simp;omega,_,e2,rfl⟩,λh=>absurd Z h⟩)
theorem UK(U:t.kind=20)(hs:shapeK t=true)(ht:tbulk t<=1000000)(ih:∀(i:Nat) (u:Tree),t.kids[i]?=some u->Pok u):Pok t:=λl hl=>by
 have htp:=bS t;have htx:=cH t;have hn:=jv hs;have M:=0;have hkn:t.kids.length=2:=hn.2.2.2.2 (by simp[U]);obtain⟨Z,G,_⟩|h':=bd t.kids 0
 rotate_left
 ·omega
 obtain⟨u1,J,_⟩|h':=bd t.kids 1
 rotate_left
 ·omega
 have hsum:tbulk Z+tbulk u1+1<=tbulk t:=by have hb:=aQ t;have hx:=Dt G J;omega
 obtain⟨s1,g1,b1⟩:=bM 0 ht;obtain⟨s2,g2,b2⟩:=bM 1 ht;obtain⟨s3,g3,b3⟩:=bM 2 ht;have q1:Qp l->Qp (l++[⟨s1,[108,101,116]⟩,⟨s2,t.text⟩,⟨s3,[61]⟩]):=λO=>by simp only[cU,cm];exact⟨O,⟨b1,by decide⟩,⟨b2,by omega⟩,⟨b3,by decide⟩,cN⟩
 obtain⟨r0,e0,z0,y0⟩:=ih 0 Z G (l++[⟨s1,[108,101,116]⟩,⟨s2,t.text⟩,⟨s3,[61]⟩]) (by first|omega|(simp only[aab,aac,aae];omega))
 try simp only[aab,aac,aae]at z0
 obtain⟨s4,g4,b4⟩:=bM 3 ht;have q3:Qp r0->Qp (r0++[⟨s4,[105,110]⟩]):=λO=>by simp only[cU,cm];exact⟨O,⟨b4,by decide⟩,cN⟩
 obtain⟨r1,e1,z1,y1⟩:=ih 1 u1 J (r0++[⟨s4,[105,110]⟩]) (by first|omega|(simp only[aab,aac,aae];omega))
 try simp only[aab,aac,aae]at z1
 refine⟨r1,?_,by first|omega|(simp only[aab,aac,aae];omega),λO=>(y1<|q3<|y0<|q1 O)⟩;exact SK (M+2) (by rw[U];decide) (pi (M+1) _ _ _ ⟨λ_=>ws (M) _ _ _ ⟨_,g1,_,g2,_,g3,by simp;omega,Z,G,_,e0,_,g4,by simp;omega,u1,J,_,e1,rfl⟩,λh=>absurd U h⟩)
theorem Un(O:t.kind=21)(hs:shapeK t=true)(ht:tbulk t<=1000000)(ih:∀(i:Nat) (u:Tree),t.kids[i]?=some u->Pok u):Pok t:=λl hl=>by
 have htp:=bS t;have htx:=cH t;have hn:=jv hs;have M:=0;have hkn:t.kids.length=2:=hn.2.2.2.2 (by simp[O]);obtain⟨U,G,_⟩|h':=bd t.kids 0
 rotate_left
 ·omega
 obtain⟨Z,J,_⟩|h':=bd t.kids 1
 rotate_left
 ·omega
 have hsum:tbulk U+tbulk Z+1<=tbulk t:=by have hb:=aQ t;have hx:=Dt G J;omega
 obtain⟨r0,e0,z0,y0⟩:=ih 0 U G l (by first|omega|(simp only[aab,aac,aae];omega))
 try simp only[aab,aac,aae]at z0
 obtain⟨s1,g1,b1⟩:=bM 0 ht;have q2:Qp r0->Qp (r0++[⟨s1,t.text⟩]):=λhq=>by simp only[cU,cm];exact⟨hq,⟨b1,by omega⟩,cN⟩
 obtain⟨r1,e1,z1,y1⟩:=ih 1 Z J (r0++[⟨s1,t.text⟩]) (by first|omega|(simp only[aab,aac,aae];omega))
 try simp only[aab,aac,aae]at z1
 refine⟨r1,?_,by first|omega|(simp only[aab,aac,aae];omega),λhq=>(y1<|q2<|y0 hq)⟩;exact RY (M+2) (by rw[O];decide) (py (M+1) _ _ _ ⟨λ_=>wy (M) _ _ _ ⟨U,G,_,e0,_,g1,by simp;omega,Z,J,_,e1,rfl⟩,λh=>absurd O h⟩)
theorem Uq(O:t.kind=22)(hs:shapeK t=true)(ht:tbulk t<=1000000)(ih:∀(i:Nat) (u:Tree),t.kids[i]?=some u->Pok u):Pok t:=λl hl=>by
 have htp:=bS t;have htx:=cH t;have hn:=jv hs;have M:=0;have hkn:t.kids.length=1:=hn.2.2.1 (by simp[O]);obtain⟨U,G,_⟩|h':=bd t.kids 0
 rotate_left
 ·omega
 have hsum:tbulk U+1<=tbulk t:=by have hb:=aQ t;have hx:=yy G;omega
 obtain⟨s1,g1,b1⟩:=bM 0 ht;have q1:Qp l->Qp (l++[⟨s1,[40]⟩]):=λJ=>by simp only[cU,cm];exact⟨J,⟨b1,by decide⟩,cN⟩
 obtain⟨Z,e0,z0,y0⟩:=ih 0 U G (l++[⟨s1,[40]⟩]) (by first|omega|(simp only[aab,aac,aae];omega))
 try simp only[aab,aac,aae]at z0
 obtain⟨s2,g2,b2⟩:=bM 1 ht;have q3:Qp Z->Qp (Z++[⟨s2,[41]⟩]):=λJ=>by simp only[cU,cm];exact⟨J,⟨b2,by decide⟩,cN⟩
 refine⟨(Z++[⟨s2,[41]⟩]),?_,by first|omega|(simp only[aab,aac,aae];omega),λJ=>(q3<|y0<|q1 J)⟩;exact Sj (M+2) (by rw[O];decide) (pg (M+1) _ _ _ ⟨λ_=>wu (M) _ _ _ ⟨_,g1,by simp;omega,U,G,_,e0,_,g2,by simp;omega,rfl⟩,λh=>absurd O h⟩)
theorem Ri(G:∀c:Int,c∈[(1:Int),2,3,4,5,6,7,13,14,15,8,16,17,18,19,20,21,22]->t.kind≠c)(ht:tbulk t<=1000000):Pok t:=λl hl=>by
 obtain⟨s1,J,O⟩:=bM 0 ht;have U:=bS t;have Z:=cH t;have M:=0;refine⟨l++[⟨s1,t.text⟩],?_,by simp;omega,λhq=>by simp only[cU,cm];exact⟨hq,⟨O,by omega⟩,cN⟩⟩;exact Sj (M+2) (λe=>G t.kind (by simp only[aah,List.not_mem_nil,or_false]at e⊢;omega) rfl) (pg (M+1) _ _ _ ⟨λh=>absurd h (G 22<|by decide),λ_=>⟨_,J,by simp;omega,rfl⟩⟩)
theorem JG(ht:tbulk t<=1000000)(ih:∀(i:Nat) (u:Tree),t.kids[i]?=some u->Pok u)(n comma:Nat)(hn:n<=t.kids.length)(hc:comma<=10):∀l,l.length+8*kbulk (t.kids.take n)<=899999999->∃r,gI l t 0 (n:Int) (comma:Int) r∧r.length<=l.length+8*kbulk (t.kids.take n)∧(Qp l->Qp r):=by
 have hk:=bt t;have loop:∀k i l,n-i<=k->i<=n->l.length+8*kbulk ((t.kids.take n).drop i)<=899999999->∃r,iF (k+1) t 0 (n:Int) (comma:Int) l (i:Int) r∧r.length<=l.length+8*kbulk ((t.kids.take n).drop i)∧(Qp l->Qp r):=λk=>by
  induction k with
  |zero=>
   intro i l hi hle hl;exact⟨l,jY 0 _ _ _ _ _ _ _ ⟨λh=>by omega,λ_=>I⟩,by omega,λh=>h⟩
  | succ k ihk=>
   intro i l hi hle hl;by_cases hin:i<n
   ·obtain⟨u,hu,hul⟩|h':=bd t.kids i
    ·have hu':(t.kids.take n)[i]?=some u:=by rw[List.getElem?_take,if_pos hin];exact hu
     have hd:=aK hu';rw[hd,kbulk]at hl⊢;have hup:=bS u;by_cases h0:0<i
     ·obtain⟨s,g,b⟩:=bM (t:=t) (comma+i-1) ht;have g':au t ((((comma:Int)+(i:Int))-0)-1) s:=by rw[show(((comma:Int)+(i:Int))-0)-1=((comma+i-1:Nat):Int) by omega];exact g
      obtain⟨r,e,z,y⟩:=ih i u hu (l++[⟨s,[44]⟩]) (by simp;omega);simp only[aab,aac,aae]at z;obtain⟨r2,e2,z2,y2⟩:=ihk (i+1) r (by omega) (by omega) (by omega);refine⟨r2,jY (k+1) _ _ _ _ _ _ _ ⟨λ_=>⟨λ_=>⟨by omega,by omega,by omega,s,g',by simp;omega,i,rfl,u,hu,r,e,by omega,?_⟩,λh=>by omega⟩,λh=>by omega⟩,by omega,λhq=>y2<|y (by simp only[cU,cm];exact⟨hq,⟨b,by decide⟩,cN⟩)⟩;exact e2
     ·obtain⟨r,e,z,y⟩:=ih i u hu l (by omega);obtain⟨r2,e2,z2,y2⟩:=ihk (i+1) r (by omega) (by omega) (by omega);refine⟨r2,jY (k+1) _ _ _ _ _ _ _ ⟨λ_=>⟨λh=>by omega,λ_=>⟨i,I,u,hu,r,e,by omega,e2⟩⟩,λh=>by omega⟩,by omega,λhq=>y2<|y hq⟩
    ·omega
   ·exact⟨l,jY (k+1) _ _ _ _ _ _ _ ⟨λh=>by omega,λ_=>I⟩,by omega,λh=>h⟩
 intro l hl;have h1:kbulk (t.kids.take n)<=kbulk t.kids:=by
  have :∀(l:YT) n,kbulk (l.take n)<=kbulk l:=λl=>by
   induction l with
   |nil=>intro n;simp
   |cons a r ih=>intro n;cases n with
    |zero=>simp[kbulk]
    |succ n=>have :=ih n;simp only[List.take_succ_cons,kbulk];omega
  exact this _ _
 have h2:=aQ t;obtain⟨r,e,z,y⟩:=loop n 0 l (by omega) (by omega) (by simpa using hl);exact⟨r,AC (n+1) _ _ _ _ _ _ e,by simpa using z,y⟩
theorem Bt(l:YT)(n:Nat):kbulk (l.take n)+kbulk (l.drop n)=kbulk l:=by rw[<-iz,aap]
theorem Ut(G:t.kind=16)(hs:shapeK t=true)(ht:tbulk t<=1000000)(ih:∀(i:Nat) (u:Tree),t.kids[i]?=some u->Pok u):Pok t:=λl hl=>by
 have hb:=aQ t;have J:=cH t;have M:=0;obtain⟨s1,O,U⟩:=bM 0 ht;obtain⟨Z,g2,b2⟩:=bM 1 ht;obtain⟨r,e,z,y⟩:=JG ht ih t.kids.length 3 (aaf _) (by decide) (l++[⟨s1,t.text⟩,⟨Z,[40]⟩]) (by simp only[aab,aac,aae,List.take_length];omega);simp only[aab,aac,aae,List.take_length]at z;obtain⟨s9,g9,b9⟩:=bM 2 ht;refine⟨r++[⟨s9,[41]⟩],?_,by simp only[aab,aac,aae];omega,λhq=>by have :=y (by simp only[cU,cm];exact⟨hq,⟨U,by omega⟩,⟨b2,by decide⟩,cN⟩);simp only[cU,cm];exact⟨this,⟨b9,by decide⟩,cN⟩⟩
 exact SW (M+2) (by rw[G];decide) (pn (M+1) _ _ _ ⟨λ_=>wi (M) _ _ _ ⟨_,O,_,g2,by simp only[aab,aac,aae];omega,_,e,_,g9,by simp only[aab,aac,aae];omega,rfl⟩,λh=>absurd G h⟩)
theorem TZ(G:t.kind=18)(hs:shapeK t=true)(ht:tbulk t<=1000000)(ih:∀(i:Nat) (u:Tree),t.kids[i]?=some u->Pok u):Pok t:=λl hl=>by
 have hb:=aQ t;have J:=cH t;have M:=0;obtain⟨s1,O,U⟩:=bM 0 ht;obtain⟨r,e,z,y⟩:=JG ht ih t.kids.length 2 (aaf _) (by decide) (l++[⟨s1,[91]⟩]) (by simp only[aab,aac,aae,List.take_length];omega);simp only[aab,aac,aae,List.take_length]at z;obtain⟨Z,g9,b9⟩:=bM 1 ht;refine⟨r++[⟨Z,[93]⟩],?_,by simp only[aab,aac,aae];omega,λhq=>by have :=y (by simp only[cU,cm];exact⟨hq,⟨U,by decide⟩,cN⟩);simp only[cU,cm];exact⟨this,⟨b9,by decide⟩,cN⟩⟩
 exact SB (M+2) (by rw[G];decide) (ph (M+1) _ _ _ ⟨λ_=>wz (M) _ _ _ ⟨_,O,by simp only[aab,aac,aae];omega,_,e,_,g9,by simp only[aab,aac,aae];omega,rfl⟩,λh=>absurd G h⟩)
theorem p_2(G:t.kind=2)(hs:shapeK t=true)(ht:tbulk t<=1000000)(ih:∀(i:Nat) (u:Tree),t.kids[i]?=some u->Pok u):Pok t:=λl hl=>by
 have hb:=aQ t;have htx:=cH t;have hn:=(jv hs).1 G;have hkl:=bt t;have M:=0;obtain⟨s1,g1,b1⟩:=bM 0 ht;obtain⟨s2,g2,b2⟩:=bM 1 ht;obtain⟨s3,g3,b3⟩:=bM 2 ht;obtain⟨s4,g4,b4⟩:=bM 3 ht;obtain⟨s5,g5,b5⟩:=bM 4 ht;obtain⟨s6,g6,b6⟩:=bM 5 ht;obtain⟨r,e,z,y⟩:=JG ht ih (t.kids.length-2) 6 (by omega) (by decide) (l++[⟨s1,[100,101,102]⟩,⟨s2,t.text⟩,⟨s3,[40]⟩]) (by have :=Bt t.kids<|t.kids.length-2;simp only[aab,aac,aae];omega);simp only[aab,aac,aae]at z;obtain⟨u,J,_⟩|h':=bd t.kids<|t.kids.length-2
 rotate_left
 ·omega
 obtain⟨v,hv,_⟩|h':=bd t.kids<|t.kids.length-1
 rotate_left
 ·omega
 have O:=Bt t.kids<|t.kids.length-2;have U:=aK J;have Z:t.kids.drop (t.kids.length-2+1)=v::t.kids.drop (t.kids.length-1+1):=by rw[show t.kids.length-2+1=t.kids.length-1 by omega];exact aK hv
 rw[U,kbulk,Z,kbulk]at O;have hup:=bS u;have hvp:=bS v;have e':gI (l++[⟨s1,[100,101,102]⟩,⟨s2,t.text⟩,⟨s3,[40]⟩]) t 0 (((t.kids.length:Nat):Int)-2) 6 r:=by rw[show((t.kids.length:Nat):Int)-2=((t.kids.length-2:Nat):Int) by omega];exact e
 obtain⟨r1,e1,z1,y1⟩:=ih _ u J (r++[⟨s4,[41]⟩,⟨s5,[58]⟩]) (by simp only[aab,aac,aae];omega);simp only[aab,aac,aae]at z1;obtain⟨r2,e2,z2,y2⟩:=ih _ v hv (r1++[⟨s6,[61]⟩]) (by simp only[aab,aac,aae];omega);simp only[aab,aac,aae]at z2;refine⟨r2,?_,by omega,λhq=>?_⟩
 ·exact dn1 (M+2) (by rw[G];decide) (qr (M+1) _ _ _ ⟨λ_=>xb (M) _ _ _ ⟨_,g1,_,g2,_,g3,by simp only[aab,aac,aae];omega,by omega,r,e',_,g4,_,g5,by simp only[aab,aac,aae];omega,by omega,t.kids.length-2,by omega,u,J,r1,e1,_,g6,by simp only[aab,aac,aae];omega,by omega,t.kids.length-1,by omega,v,hv,r2,e2,rfl⟩,λh=>absurd G h⟩)
 ·have q1:=y (by simp only[cU,cm];exact⟨hq,⟨b1,by decide⟩,⟨b2,by omega⟩,⟨b3,by decide⟩,cN⟩);have q2:=y1 (by simp only[cU,cm];exact⟨q1,⟨b4,by decide⟩,⟨b5,by decide⟩,cN⟩);exact y2 (by simp only[cU,cm];exact⟨q2,⟨b6,by decide⟩,cN⟩)
theorem p_1(hk:t.kind=1)(hs:shapeK t=true)(ht:tbulk t<=1000000)(ih:∀(i:Nat) (u:Tree),t.kids[i]?=some u->Pok u):Pok t:=λl hl=>by
 have hb:=aQ t;have htx:=cH t;have hkl:=bt t;obtain⟨s1,g1,b1⟩:=bM 0 ht;obtain⟨s2,g2,b2⟩:=bM 1 ht;obtain⟨s3,g3,b3⟩:=bM 2 ht;have loop:∀k i l,t.kids.length-i<=k->l.length+8*kbulk (t.kids.drop i)<=899999996->∃r,fW (k+1) t l i r∧r.length<=l.length+8*kbulk (t.kids.drop i)+1∧(Qp l->Qp r):=λk=>by
  have last:∀k i l,¬i<t.kids.length->l.length<=899999996->∃r,fW (k+1) t l i r∧r.length<=l.length+8*kbulk (t.kids.drop i)+1∧(Qp l->Qp r):=λk i l hi hl=>by refine⟨l++[⟨s3,[]⟩],qf k _ _ _ _ ⟨λh=>absurd h hi,λ_=>⟨s3,g3,by simp only[aab,aac,aae];omega,rfl⟩⟩,by simp only[aab,aac,aae];omega,λhq=>by simp only[cU,cm];exact⟨hq,⟨b3,by decide⟩,cN⟩⟩
  induction k with
  |zero=>intro i l hi hl;exact last 0 i l (by omega) (by omega)
  | succ k ihk=>
   intro i l hi hl;obtain⟨u,hu,hul⟩|h':=bd t.kids i
   ·have hd:=aK hu;rw[hd,kbulk]at hl⊢;obtain⟨r,e,z,y⟩:=ih i u hu l (by omega);obtain⟨r2,e2,z2,y2⟩:=ihk (i+1) r (by omega) (by omega);exact⟨r2,qf (k+1) _ _ _ _ ⟨λ_=>⟨u,hu,r,e,by omega,e2⟩,λh=>absurd hul h⟩,by omega,λhq=>y2<|y hq⟩
   ·exact last (k+1) i l h' (by omega)
 obtain⟨r,e,z,y⟩:=loop t.kids.length 0 (l++[⟨s1,[109,111,100,117,108,101]⟩,⟨s2,t.text⟩]) (by omega) (by simp only[aab,aac,aae,List.drop_zero];omega);simp only[aab,aac,aae,List.drop_zero]at z;refine⟨r,rq (t.kids.length+2) _ _ _ ⟨λ_=>xQ (t.kids.length+1) _ _ _ ⟨_,g1,_,g2,by simp only[aab,aac,aae];omega,e⟩,λh=>absurd hk h⟩,by omega,λhq=>y (by simp only[cU,cm];exact⟨hq,⟨b1,by decide⟩,⟨b2,by omega⟩,cN⟩)⟩
theorem Nv:∀t:Tree,tbulk t<=1000000->shapeK t=true->Pok t:=dp λt ih ht hs=>by
 have ih':∀(i:Nat) (u:Tree),t.kids[i]?=some u->Pok u:=λi u J=>ih i u J (by have :=aE J;omega) (El hs J).1;by_cases h:∃c∈[(1:Int),2,3,4,5,6,7,13,14,15,8,16,17,18,19,20,21,22],t.kind=c
 ·obtain⟨c,G,e⟩:=h;simp only[aah,List.not_mem_nil,or_false]at G;rcases G with rfl|rfl|rfl|rfl|rfl|rfl|rfl|rfl|rfl|rfl|rfl|rfl|rfl|rfl|rfl|rfl|rfl|rfl
  ·exact p_1 e hs ht ih'
  ·exact p_2 e hs ht ih'
  ·exact p_3 e hs ht ih'
  ·exact p_4 e hs ht ih'
  ·exact p_5 e ht
  ·exact p_6 e ht
  ·exact p_7 e ht
  ·exact UH e ht
  ·exact UM e ht
  ·exact Uk e ht
  ·exact p_8 e hs ht ih'
  ·exact Ut e hs ht ih'
  ·exact UD e hs ht ih'
  ·exact TZ e hs ht ih'
  ·exact UG e hs ht ih'
  ·exact UK e hs ht ih'
  ·exact Un e hs ht ih'
  ·exact Uq e hs ht ih'
 ·exact Ri (λc G e=>h ⟨c,G,e⟩) ht
theorem Nq:∀t:Tree,tbulk t<=1000000->∃b,kp t b:=dp λt ih ht=>by
 have hk:=bt t;have hl:=Eg t;have kids:∀k i,t.kids.length-i<=k->∃b,jp (k+1) t i b:=λk=>by
  induction k with
  |zero=>intro i hi;exact⟨_,iR 0 _ _ _ ⟨λh=>by omega,λ_=>rfl⟩⟩
  | succ k ihk=>
   intro i hi;obtain⟨u,hu,hul⟩|h':=bd t.kids i
   ·have :=aE hu;obtain⟨b,hb⟩:=ih i u hu (by omega);cases b with
    |false=>exact⟨false,iR (k+1) _ _ _ ⟨λ_=>⟨u,hu,_,hb,λ_=>rfl,λh=>(by cases h)⟩,λh=>absurd hul h⟩⟩
    |true=>
     obtain⟨b2,hb2⟩:=ihk (i+1) (by omega);exact⟨b2,iR (k+1) _ _ _ ⟨λ_=>⟨u,hu,_,hb,λh=>(by cases h),λ_=>hb2⟩,λh=>absurd hul h⟩⟩
   ·exact⟨true,iR (k+1) _ _ _ ⟨λh=>absurd h h',λ_=>I⟩⟩
 have lead:∀k i,t.leads.length-i<=k->∃b M,eQ M t i b:=λk=>by
  have last:∀i,¬i<t.leads.length->∃b M,eQ M t i b:=λi hi=>by obtain⟨b,hb⟩:=kids t.kids.length 0 (by omega);exact⟨b,_,fR _ _ _ _ ⟨λh=>absurd h hi,λ_=>hb⟩⟩
  induction k with
  |zero=>intro i hi;exact last i (by omega)
  | succ k ihk=>
   intro i hi;obtain⟨s,hs,hsl⟩|h':=bd t.leads i
   ·have :=BE hs;have :=aQ t;obtain⟨b2,M,hb2⟩:=ihk (i+1) (by omega);by_cases h1:t.kind=1
    ·have ht1:=DS s (((i:Nat):Int)==2) (by omega);cases hb:kB false s (((i:Nat):Int)==2)with
     |false=>rw[hb]at ht1;exact⟨false,1,fR 0 _ _ _ ⟨λ_=>⟨s,hs,λ_=>⟨_,ht1,λ_=>rfl,λh=>(by cases h)⟩,λh=>absurd h1 h⟩,λh=>absurd hsl h⟩⟩
     |true=>rw[hb]at ht1;exact⟨b2,M+1,fR M _ _ _ ⟨λ_=>⟨s,hs,λ_=>⟨_,ht1,λh=>(by cases h),λ_=>hb2⟩,λh=>absurd h1 h⟩,λh=>absurd hsl h⟩⟩
    ·have ht1:=DS s false (by omega);cases hb:kB false s false with
     |false=>rw[hb]at ht1;exact⟨false,1,fR 0 _ _ _ ⟨λ_=>⟨s,hs,λh=>absurd h h1,λ_=>⟨_,ht1,λ_=>rfl,λh=>(by cases h)⟩⟩,λh=>absurd hsl h⟩⟩
     |true=>rw[hb]at ht1;exact⟨b2,M+1,fR M _ _ _ ⟨λ_=>⟨s,hs,λh=>absurd h h1,λ_=>⟨_,ht1,λh=>(by cases h),λ_=>hb2⟩⟩,λh=>absurd hsl h⟩⟩
   ·exact last i h'
 by_cases h:((t.leads.length:Nat):Int)=fb t.kind t.kids.length
 ·obtain⟨b,M,hb⟩:=lead t.leads.length 0 (by omega);exact⟨b,rK M _ _ ⟨_,ze (by omega) (by omega),λh'=>absurd h h',λ_=>hb⟩⟩
 ·exact⟨false,rK 0 _ _ ⟨_,ze (by omega) (by omega),λ_=>I,λh'=>absurd h' h⟩⟩
theorem Lr:∀t:Tree,tbulk t<=1000000->∃b,jl t b:=dp λt ih ht=>by
 have hk:=bt t;have kids:∀k i,t.kids.length-i<=k->∃b,aL (k+1) t i b:=λk=>by
  induction k with
  |zero=>intro i hi;exact⟨_,iw 0 _ _ _ ⟨λh=>by omega,λ_=>rfl⟩⟩
  | succ k ihk=>
   intro i hi;obtain⟨u,hu,hul⟩|h':=bd t.kids i
   ·have :=aE hu;obtain⟨b,hb⟩:=ih i u hu (by omega);cases b with
    |false=>exact⟨false,iw (k+1) _ _ _ ⟨λ_=>⟨u,hu,_,hb,λ_=>rfl,λh=>(by cases h)⟩,λh=>absurd hul h⟩⟩
    |true=>
     obtain⟨b2,hb2⟩:=ihk (i+1) (by omega);exact⟨b2,iw (k+1) _ _ _ ⟨λ_=>⟨u,hu,_,hb,λh=>(by cases h),λ_=>⟨by omega,hb2⟩⟩,λh=>absurd hul h⟩⟩
   ·exact⟨true,iw (k+1) _ _ _ ⟨λh=>absurd h h',λ_=>I⟩⟩
 obtain⟨b,hb⟩:=kids t.kids.length 0 (by omega);by_cases hall:(t.kind=1∧(40:Int)<t.kids.length)∨(t.kind=2∧(10:Int)<t.kids.length)∨(t.kind=16∧(8:Int)<t.kids.length)∨(t.kind=18∧(16:Int)<t.kids.length)
 ·refine⟨false,rB (t.kids.length+1) _ _ ?_⟩
  repeat' (refine And.intro (λ_=>?_) λ_=>?_)
  all_goals first|rfl|(exfalso;omega)
 ·refine⟨b,rB (t.kids.length+1) _ _ ?_⟩
  repeat' (refine And.intro (λ_=>?_) λ_=>?_)
  all_goals first|exact hb|(exfalso;omega)
theorem Oc:∀t:Tree,tbulk t<=1000000->∃n,kr t n∧0<=n∧n<=tbulk t:=dp λt ih ht=>by
 have hk:=bt t;have kids:∀k i (z:Int),t.kids.length-i<=k->0<=z->z<tbulk t->∃n,jj (k+1) t z i n∧0<=n∧n<=tbulk t:=λk=>by
  induction k with
  |zero=>intro i z hi h0 hz;exact⟨_,me 0 _ _ _ _ ⟨λh=>by omega,λ_=>⟨by omega,rfl⟩⟩,by omega,by omega⟩
  | succ k ihk=>
   intro i z hi h0 hz;obtain⟨u,hu,hul⟩|h':=bd t.kids i
   ·have :=aE hu;obtain⟨n,hn,n0,n1⟩:=ih i u hu (by omega);obtain⟨r,hr,r0,r1⟩:=ihk (i+1) (max z n) (by omega) (by omega) (by omega);exact⟨r,me (k+1) _ _ _ _ ⟨λ_=>⟨u,hu,_,hn,hr⟩,λh=>absurd hul h⟩,r0,r1⟩
   ·exact⟨_,me (k+1) _ _ _ _ ⟨λh=>absurd h h',λ_=>⟨by omega,I⟩⟩,by omega,by omega⟩
 obtain⟨n,hn,n0,n1⟩:=kids t.kids.length 0 0 (by omega) (by omega) (by have :=bS t;omega);exact⟨n,yJ _ _ _ hn,n0,n1⟩
theorem Ax(t:Tree)(ht:tbulk t<=1000000):∃b,hV t b∧(b=true->shapeK t=true):=by
 have h1:=Aq t (by omega);cases hs:shapeK t with
 |false=>rw[hs]at h1;exact⟨false,ox 0 _ _ ⟨_,h1,λh=>by(cases h),λ_=>rfl⟩,λh=>(by cases h)⟩
 |true=>
  rw[hs]at h1;obtain⟨b,hb⟩:=Nq t ht;exact⟨b,ox 0 _ _ ⟨_,h1,λ_=>⟨_,hb,rfl⟩,λh=>(by cases h)⟩,λ_=>rfl⟩
theorem OK (t:Tree) (ht:tbulk t<=1000000):∃s,nK t s:=by
 obtain⟨b,hb,hs⟩:=Ax t ht;cases b with
 |false=>exact⟨[],si 0 _ _ ⟨_,hb,λ_=>rfl,λh=>(by cases h)⟩⟩
 | true =>
  obtain⟨l,e,z,q⟩:=Nv t ht (hs rfl) [] (by simp;omega);have hq:=q cN;simp only[aae]at z;have loop:∀k i (s:List UInt8),l.length-i<=k->s.length<=i*2000020->i<=l.length->∃r,cY (k+1) l s i r:=λk=>by
   induction k with
   |zero=>intro i s hi hsl hil;exact⟨_,ec 0 _ _ _ _ ⟨λh=>by omega,λ_=>rfl⟩⟩
   | succ k ihk=>
    intro i s hi hsl hil;obtain⟨x,hx,hxl⟩|h':=bd l i
    ·obtain⟨hx1,hx2⟩:=hq x<|List.mem_of_getElem? hx;have hmul:(i+1)*2000020=i*2000020+2000020:=Nat.succ_mul _ _;obtain⟨r1,hr1⟩:=ihk (i+1) (((s++[32])++x.Lead)++x.Text) (by omega) (by simp only[aab,aac,aae];omega) (by omega);obtain⟨r2,hr2⟩:=ihk (i+1) ((s++x.Lead)++x.Text) (by omega) (by simp only[aab];omega) (by omega);have plain:s.length+x.Lead.length<=9223372036854775807∧∃y:Pce,l[i]?=some y∧(s++x.Lead).length+y.Text.length<=9223372036854775807∧cY (k+1) l ((s++x.Lead)++y.Text) (i+1) r2:=⟨by omega,x,hx,by simp only[aab];omega,hr2⟩;by_cases h0:(0:Int)<((i:Nat):Int)
     ·by_cases hle:x.Lead=[]
      ·obtain⟨y,hy,hyl⟩|h':=bd l (i-1)
       rotate_left
       ·omega
       obtain⟨hy1,hy2⟩:=hq y<|List.mem_of_getElem? hy;have hf:=Nz y.Text x.Text (by omega) (by omega);cases hb2:fusesT y.Text x.Text with
       |true=>
        rw[hb2]at hf;exact⟨r1,ec (k+1) _ _ _ _ ⟨λ_=>⟨λ_=>⟨x,hx,λ_=>⟨by omega,i-1,by omega,y,hy,x,hx,_,hf,λ_=>⟨by simp only[aac,aae];omega,x,hx,by simp only[aab,aac,aae];omega,x,hx,by simp only[aab,aac,aae];omega,hr1⟩,λh=>by(cases h)⟩,λh=>absurd hle h⟩,λh=>absurd h0 h⟩,λh=>absurd hxl h⟩⟩
       |false=>
        rw[hb2]at hf;exact⟨r2,ec (k+1) _ _ _ _ ⟨λ_=>⟨λ_=>⟨x,hx,λ_=>⟨by omega,i-1,by omega,y,hy,x,hx,_,hf,λh=>by(cases h),λ_=>⟨x,hx,plain⟩⟩,λh=>absurd hle h⟩,λh=>absurd h0 h⟩,λh=>absurd hxl h⟩⟩
      ·exact⟨r2,ec (k+1) _ _ _ _ ⟨λ_=>⟨λ_=>⟨x,hx,λh=>absurd h hle,λ_=>⟨x,hx,plain⟩⟩,λh=>absurd h0 h⟩,λh=>absurd hxl h⟩⟩
     ·exact⟨r2,ec (k+1) _ _ _ _ ⟨λ_=>⟨λh=>absurd h h0,λ_=>⟨x,hx,plain⟩⟩,λh=>absurd hxl h⟩⟩
    ·exact⟨s,ec (k+1) _ _ _ _ ⟨λh=>absurd h h',λ_=>I⟩⟩
  obtain⟨r,hr⟩:=loop l.length 0 [] (by omega) (by simp) (by omega);exact⟨r,si (l.length+1) _ _ ⟨_,hb,λh=>by(cases h),λ_=>⟨l,ya 0 _ _ ⟨_,e,rfl⟩,hr⟩⟩⟩
theorem NJ(t:Tree)(ht:tbulk t<=1000000):∃b,ia t b∧(b=true->shapeK t=true):=by
 obtain⟨b,hb,hsh⟩:=Ax t ht;cases b with
 |false=>exact⟨false,js 0 _ _ ⟨_,hb,λh=>by(cases h),λ_=>rfl⟩,λh=>(by cases h)⟩
 | true=>
  obtain⟨b2,hb2⟩:=Lr t ht;cases b2 with
  |false=>exact⟨false,js 0 _ _ ⟨_,hb,λ_=>⟨_,hb2,λh=>by(cases h),λ_=>rfl⟩,λh=>(by cases h)⟩,λh=>(by cases h)⟩
  |true=>
   obtain⟨n,hn,_,_⟩:=Oc t ht;obtain⟨s,hs⟩:=OK t ht;by_cases h40:n<=40
   ·exact⟨_,js 0 _ _ ⟨_,hb,λ_=>⟨_,hb2,λ_=>⟨n,hn,λ_=>⟨s,hs,rfl⟩,λh=>absurd h40 h⟩,λh=>(by cases h)⟩,λh=>(by cases h)⟩,λ_=>hsh rfl⟩
   ·exact⟨false,js 0 _ _ ⟨_,hb,λ_=>⟨_,hb2,λ_=>⟨n,hn,λh=>absurd h h40,λ_=>rfl⟩,λh=>(by cases h)⟩,λh=>(by cases h)⟩,λh=>(by cases h)⟩
theorem Tq{L:YI}{a:Int}(G:Dc L a):Gt L (λt a'=>rc L a t L a') 500:=by
 obtain⟨r,a1,h1,h2,h3⟩:=iD G (n:=5) (by omega) (by omega);by_cases hr:r=0
 ·obtain⟨s,a2,O,U,Z⟩:=lP h3 [[84],[85]] (by decide) (by decide);have hs:=kS U (by decide);obtain⟨t,a3,q1,J,q3⟩:=JV 2 Z (by omega);exact⟨_,a3,uO 0 _ _ _ _ _ ⟨_,_,_,h1,λ_=>⟨_,_,_,O,_,_,_,q1,I,I,I⟩,λh=>absurd hr h⟩,J,by rw[tb1];omega⟩
 ·obtain⟨s,a2,O,U,Z⟩:=lP h3 [[102],[103],[104]] (by decide) (by decide);have hs:=kS U (by decide);obtain⟨n,a3,g4,g5,g6⟩:=iD Z (n:=4) (by omega) (by omega);have loop:∀(k:Nat) (a:Int) (l:YT),Dc L a->l.length+k<=100->Gt L (λt a'=>lI (k+1) s L a l (k:Int) t L a') (s.length+1+kbulk l+k*13+429):=λk=>by
   induction k with
   |zero=>
    intro a l G hl;obtain⟨t1,b1,q1,J,q3⟩:=JV 1 G (by omega);obtain⟨t2,b2,q4,q5,q6⟩:=Re 3 J (by omega);have :eB 3=422:=rfl;refine⟨_,b2,tT 0 _ _ _ _ _ _ _ _ ⟨λh=>by omega,λ_=>⟨_,_,_,q1,_,_,_,q4,by simp;omega,rfl,rfl,rfl⟩⟩,q5,?_⟩;rw[tbK,iz];simp only[kbulk];omega
   |succ k ihk=>
    intro a l G hl;obtain⟨x,b0,q0,q0',q0''⟩:=lP G [[120],[121],[122]] (by decide) (by decide);have hx:=kS q0' (by decide);obtain⟨t,b,q1,J,q3⟩:=JV 1 q0'' (by omega);refine(ihk b (l++[.node 4 x [] [t]]) J (by simp;omega)).map ?_ λt' a' h=>tT (k+1) _ _ _ _ _ _ _ _ ⟨λ_=>⟨_,_,_,q0,_,_,_,q1,by simp;omega,by omega,by rw[show((k+1:Nat):Int)-1=(k:Int) by omega];exact h⟩,λh=>by omega⟩;rw[iz];simp only[kbulk,tb1];omega
  exact(loop n.toNat a3 [] g6 (by simp;omega)).map (by simp only[kbulk];omega) λt a' h=>uO (n.toNat+1) _ _ _ _ _ ⟨_,_,_,h1,λh=>absurd h hr,λ_=>⟨_,_,_,O,_,_,_,g4,by rw[show n=((n.toNat:Nat):Int) by omega];exact h⟩⟩
def Sh(l:List YB)(n:Nat):Prop:=l.length=n∧∀x∈l,x.length<=2
theorem Sh.sum:∀{l:List YB} {n:Nat},Sh l n->fH l<=3*n
 |[],n,h=>by simp[fH]
 |x::r,n,h=>by
  obtain⟨h1,h2⟩:=h;have :=h2 x (by simp);have :=Sh.sum (l:=r) (n:=n-1) ⟨by simp at h1;omega,λy hy=>h2 y<|by simp[hy]⟩;simp only[fH];simp at h1;omega
theorem Sh.set{l:List YB}{n:Nat}{x:YB}(h:Sh l n)(hx:x.length<=2):Sh (l.set i x) n:=⟨by simpa using h.1,λy hy=>by
 rcases List.mem_or_eq_of_mem_set hy with h1|h1
 ·exact h.2 y h1
 ·subst h1;exact hx⟩
theorem Sh.get{l:List YB}{n:Nat}(h:Sh l n)(hi:i<n):∃s,l[i]?=some s:=by
 obtain⟨s,hs,_⟩|h':=bd l i
 ·exact⟨s,hs⟩
 ·have :=h.1;omega
theorem OF{n:Int}(h0:0<=n)(h1:n<=100000000):∃l,mG n l∧Sh l n.toNat:=by
 have loop:∀k i (l:List YB),n.toNat-i<=k->i<=n.toNat->Sh l i->∃r,iN (k+1) n l i r∧Sh r n.toNat:=λk=>by
  induction k with
  |zero=>intro i l hi hle hl;exact⟨l,lx 0 _ _ _ _ ⟨λh=>by omega,λ_=>rfl⟩,by rw[show n.toNat=i by omega];exact hl⟩
  | succ k ihk=>
   intro i l hi hle hl;by_cases h:(i:Int)<n
   ·obtain⟨r,e,hr⟩:=ihk (i+1) (l++[[32]]) (by omega) (by omega) ⟨by simp[hl.1],λx hx=>by
     rcases List.mem_append.1 hx with h1|h1
     ·exact hl.2 x h1
     ·simp at h1;subst h1;simp⟩
    exact⟨r,lx (k+1) _ _ _ _ ⟨λ_=>⟨by simp[hl.1];omega,by omega,e⟩,λh'=>absurd h h'⟩,hr⟩
   ·exact⟨l,lx (k+1) _ _ _ _ ⟨λh'=>absurd h' h,λ_=>I⟩,by rw[show n.toNat=i by omega];exact hl⟩
 obtain⟨r,e,hr⟩:=loop n.toNat 0 [] (by omega) (by omega) ⟨rfl,λx hx=>by cases hx⟩;exact⟨r,yv _ _ _ e,hr⟩
def Be(t:Tree)(i:Int)(first:YB):YB:=if t.kind=1 then[10,10]else if 0<i then[32]else if t.kind=8∨t.kind=22∨t.kind=16∨t.kind=18 then[]else if t.kind=2 then(if(2:Int)<t.kids.length then[]else[32])else if t.kind=17∨t.kind=21 then first else[32]
theorem OC(t:Tree)(i:Int)(first:YB):mW t i first (Be t i first):=by
 refine yl 1 _ _ _ _ ?_
 repeat' first|(refine And.intro (λ_=>?_) λ_=>?_)|(refine xv 0 _ _ _ _ ?_)
 all_goals simp_all[Be]
 all_goals (intro h;omega)
theorem Ku(t:Tree)(i:Int)(first:YB)(hf:first.length<=2):(Be t i first).length<=2:=by
 unfold Be
 repeat' split
 all_goals first|exact hf|simp
theorem tN{n:Int}(G:0<=n)(a b c:Nat)(z:Int):f0 n a b c z<=b+n:=by
 unfold f0;repeat' split
 all_goals omega
theorem RP{k n:Int}(G:0<=n):fb k n<=6+n:=by
 have O:=tN G 2 6 2<|-1;have U:=tN G 0 3 0<|-1;have Z:=tN G 1 2 0<|-1;have a4:=tN G 1 3 0 1;have a5:=tN G 1 2 0 1;have a6:=tN G 1 0 0 1;have a7:=tN G 3 3 0 3;have a8:=tN G 2 4 0 2;have a9:=tN G 2 1 0 2;have J:=tN G 0 1 0 0;simp only[fb]
 repeat' first|omega|split
theorem Md(hs:shapeK t=true):(t.kind=1->fb t.kind t.kids.length=3)∧(t.kind=2->6<=fb t.kind t.kids.length)∧(t.kind=4∨t.kind=8∨t.kind=22->fb t.kind t.kids.length=2)∧(t.kind≠17->1<=fb t.kind t.kids.length):=by
 have h:=wM hs;refine⟨λG=>?_,λG=>?_,λG=>?_,λG=>?_⟩
 ·rw[G];simp only[fb];simp
 ·rw[G]at h⊢;simp only[fb,f0]at h⊢;simp at h⊢;repeat' split
  all_goals first|omega|(simp_all;omega)
 ·rcases G with G|G|G<;>(rw[G]at h⊢;simp only[fb,f0]at h⊢;simp at h⊢;repeat' split)<;>first|omega|(simp_all;done)|(simp_all;omega)
 ·have key:∀k n:Int,0<=n->k≠17->0<=fb k n->1<=fb k n:=λk n O G h=>by
   have q:∀(a b c:Nat) z,1<=b->f0 n a b c z=-1∨1<=f0 n a b c z:=λa b c z hb=>by
    unfold f0;repeat' split
    all_goals omega
   have U:=q 2 6 2 (-1) (by decide);have Z:=q 0 3 0 (-1) (by decide);have a3:=q 1 2 0 (-1) (by decide);have a4:=q 1 3 0 1 (by decide);have a5:=q 1 2 0 1 (by decide);have a7:=q 3 3 0 3 (by decide);have a8:=q 2 4 0 2 (by decide);have a9:=q 2 1 0 2 (by decide);have J:=q 0 1 0 0 (by decide)
   revert h
   simp only[fb]
   repeat' first|(intro h;omega)|split
  exact key _ _ (by omega) G h
section
variable{t:Tree}{N:Nat}{us:YT}
theorem PM:∀k i (l:List YB),N-i<=k->Sh l N->∃l',ir (k+1) t l i us (.node t.kind t.text l' us)∧Sh l' N:=λk=>by
 induction k with
 |zero=>intro i l hi hl;exact⟨l,ku 0 _ _ _ _ _ ⟨λh=>by have :=hl.1;omega,λ_=>rfl⟩,hl⟩
 | succ k ihk=>
  intro i l hi hl;by_cases h:i<l.length
  ·obtain⟨s,hs⟩:=hl.get (i:=i) (by have :=hl.1;omega);obtain⟨l',e,h'⟩:=ihk (i+1) (l.set i []) (by omega) (hl.set<|by simp);exact⟨l',ku (k+1) _ _ _ _ _ ⟨λ_=>⟨s,hs,e⟩,λh'=>absurd h h'⟩,h'⟩
  ·exact⟨l,ku (k+1) _ _ _ _ _ ⟨λh'=>absurd h' h,λ_=>I⟩,hl⟩
theorem Jr:∀k i (l:List YB),N-i<=k->Sh l N->∃l',fx (k+1) t l i us (.node t.kind t.text l' us)∧Sh l' N:=λk=>by
 induction k with
 |zero=>intro i l hi hl;exact⟨l,kv 0 _ _ _ _ _ ⟨λh=>by have :=hl.1;omega,λ_=>rfl⟩,hl⟩
 | succ k ihk=>
  intro i l hi hl;by_cases h:i<l.length
  ·obtain⟨s,hs⟩:=hl.get (i:=i) (by have :=hl.1;omega);obtain⟨l',e,h'⟩:=ihk (i+1) (l.set i []) (by omega) (hl.set<|by simp);exact⟨l',kv (k+1) _ _ _ _ _ ⟨λ_=>⟨s,hs,e⟩,λh'=>absurd h h'⟩,h'⟩
  ·exact⟨l,kv (k+1) _ _ _ _ _ ⟨λh'=>absurd h' h,λ_=>I⟩,hl⟩
theorem Dx(hs:shapeK t=true)(hN:N=(fb t.kind t.kids.length).toNat){l:List YB}(G:Sh l N):∃O,fv (N+2) t l us (.node t.kind t.text O us)∧Sh O N:=by
 obtain⟨g1,g2,g3,g4⟩:=Md hs;have e0:([]:YB).length<=2:=by simp
 by_cases h1:t.kind=1
 ·have :=g1 h1;obtain⟨s,hs⟩:=G.get (i:=2) (by omega);exact⟨_,cr (N+1) _ _ _ _ ⟨λ_=>⟨s,hs,rfl⟩,λh=>absurd h1 h⟩,G.set<|by simp⟩
 by_cases h2:t.kind=2
 ·have :=g2 h2;have l1:=G.set (i:=2) e0;have l2:=l1.set (i:=3) e0;have l3:=l2.set (i:=4) e0;obtain⟨s,hs⟩:=G.get (i:=2) (by omega);obtain⟨s',hs'⟩:=l1.get (i:=3) (by omega);obtain⟨s2,hs2⟩:=l2.get (i:=4) (by omega);obtain⟨O,e,h'⟩:=PM (t:=t) (us:=us) N 6 _ (by omega) l3;exact⟨O,cr (N+1) _ _ _ _ ⟨λh=>absurd h h1,λ_=>⟨λ_=>⟨s,hs,s',hs',s2,hs2,e⟩,λh=>absurd h2 h⟩⟩,h'⟩
 by_cases U:t.kind=4
 ·have :=g3 (by simp[U]);obtain⟨s,hs⟩:=G.get (i:=1) (by omega);exact⟨_,cr (N+1) _ _ _ _ ⟨λh=>absurd h h1,λ_=>⟨λh=>absurd h h2,λ_=>⟨λ_=>⟨s,hs,I⟩,λh=>absurd U h⟩⟩⟩,G.set e0⟩
 by_cases h8:t.kind=8
 ·have :=g3 (by simp[h8]);obtain⟨s,hs⟩:=G.get (i:=1) (by omega);exact⟨_,cr (N+1) _ _ _ _ ⟨λh=>absurd h h1,λ_=>⟨λh=>absurd h h2,λ_=>⟨λh=>absurd h U,λ_=>⟨λ_=>⟨s,hs,I⟩,λh=>absurd h8 h⟩⟩⟩⟩,G.set e0⟩
 by_cases J:t.kind=22
 ·have :=g3 (by simp[J]);obtain⟨s,hs⟩:=G.get (i:=1) (by omega);exact⟨_,cr (N+1) _ _ _ _ ⟨λh=>absurd h h1,λ_=>⟨λh=>absurd h h2,λ_=>⟨λh=>absurd h U,λ_=>⟨λh=>absurd h h8,λ_=>⟨λ_=>⟨s,hs,I⟩,λh=>absurd J h⟩⟩⟩⟩⟩,G.set e0⟩
 by_cases Z:t.kind=16
 ·obtain⟨O,e,h'⟩:=Jr (t:=t) (us:=us) N 1 _ (by omega) G;exact⟨O,cr (N+1) _ _ _ _ ⟨λh=>absurd h h1,λ_=>⟨λh=>absurd h h2,λ_=>⟨λh=>absurd h U,λ_=>⟨λh=>absurd h h8,λ_=>⟨λh=>absurd h J,λ_=>⟨λ_=>e,λh=>absurd Z h⟩⟩⟩⟩⟩⟩,h'⟩
 by_cases h18:t.kind=18
 ·obtain⟨O,e,h'⟩:=Jr (t:=t) (us:=us) N 1 _ (by omega) G;exact⟨O,cr (N+1) _ _ _ _ ⟨λh=>absurd h h1,λ_=>⟨λh=>absurd h h2,λ_=>⟨λh=>absurd h U,λ_=>⟨λh=>absurd h h8,λ_=>⟨λh=>absurd h J,λ_=>⟨λh=>absurd h Z,λ_=>⟨λ_=>e,λh=>absurd h18 h⟩⟩⟩⟩⟩⟩⟩,h'⟩
 ·exact⟨l,cr (N+1) _ _ _ _ ⟨λh=>absurd h h1,λ_=>⟨λh=>absurd h h2,λ_=>⟨λh=>absurd h U,λ_=>⟨λh=>absurd h h8,λ_=>⟨λh=>absurd h J,λ_=>⟨λh=>absurd h Z,λ_=>⟨λh=>absurd h h18,λ_=>I⟩⟩⟩⟩⟩⟩⟩,G⟩
end
theorem wJ{l:YT}(h:l[i]?=some u):kbulk (l.take<|i+1)=kbulk (l.take i)+tbulk u:=by rw[List.take_add_one,h,iz];simp[kbulk]
theorem Nl:∀t:Tree,tbulk t<=1000000->shapeK t=true->∀first,first.length<=2->∃u,iH t first u∧tbulk u+3<=25*tbulk t∧u.kind=t.kind:=dp λt ih ht hs first hf=>by
 have hk:=bt t;have hbt:=aQ t;have h0:=wM hs;have h6:=RP (k:=t.kind) (n:=(t.kids.length:Int)) (by omega);obtain⟨g1,g2,g3,g4⟩:=Md hs;obtain⟨bl,hbl,hsh⟩:=OF h0 (by omega);have loop:∀k i (done rest:YT),t.kids.length-i<=k->done.length=i->i<=t.kids.length->rest.length=t.kids.length-i->kbulk done+3*i<=25*kbulk (t.kids.take i)->∃M r,fB M t first bl (done++rest) i r∧tbulk r+3<=25*tbulk t∧r.kind=t.kind:=λk=>by
  have last:∀i (done rest:YT),¬i<t.kids.length->done.length=i->i<=t.kids.length->rest.length=t.kids.length-i->kbulk done+3*i<=25*kbulk (t.kids.take i)->∃M r,fB M t first bl (done++rest) i r∧tbulk r+3<=25*tbulk t∧r.kind=t.kind:=λi done rest hi hd hle hr hb=>by
   have hr0:rest=[]:=List.length_eq_zero_iff.1 (by omega);subst hr0;rw[aar];rw[List.take_of_length_le<|by omega]at hb;have fin:∀l',Sh l' (fb t.kind t.kids.length).toNat->tbulk (.node t.kind t.text l' done)+3<=25*tbulk t∧(Tree.node t.kind t.text l' done).kind=t.kind:=λl' hl'=>by have :=hl'.sum;exact⟨by simp only[tbulk];omega,rfl⟩
   by_cases h17:t.kind=17
   ·obtain⟨l',e,h'⟩:=Dx (us:=done) hs rfl hsh;exact⟨_,_,gZ _ _ _ _ _ _ _ ⟨λh=>absurd h hi,λ_=>⟨λh=>absurd h17 h,λ_=>e⟩⟩,fin l' h'⟩
   ·by_cases h21:t.kind=21
    ·obtain⟨l',e,h'⟩:=Dx (us:=done) hs rfl hsh;exact⟨_,_,gZ _ _ _ _ _ _ _ ⟨λh=>absurd h hi,λ_=>⟨λ_=>⟨λh=>absurd h21 h,λ_=>e⟩,λh=>absurd h h17⟩⟩,fin l' h'⟩
    ·obtain⟨l',e,h'⟩:=Dx (us:=done) hs rfl<|hsh.set (i:=0) hf;have :=g4 h17;obtain⟨s,hs0⟩:=hsh.get (i:=0) (by omega);exact⟨_,_,gZ _ _ _ _ _ _ _ ⟨λh=>absurd h hi,λ_=>⟨λ_=>⟨λ_=>⟨s,hs0,e⟩,λh=>absurd h h21⟩,λh=>absurd h h17⟩⟩,fin l' h'⟩
  induction k with
  |zero=>intro i done rest hi hd hle hr hb;exact last i done rest (by omega) hd hle hr hb
  | succ k ihk=>
   intro i done rest hi hd hle hr hb;obtain⟨u,hu,hul⟩|h':=bd t.kids i
   ·have hbu:=aE hu;obtain⟨v,hv,hvb,_⟩:=ih i u hu (by omega) (El hs hu).1 _ (Ku t i first hf)
    match rest,hr with
    |z::rest',hr=>
     obtain⟨M,r,e,hb2⟩:=ihk (i+1) (done++[v]) rest' (by omega) (by simp[hd]) (by omega) (by simp at hr;omega) (by rw[wJ hu,iz];simp only[kbulk];omega);refine⟨M+1,r,gZ M _ _ _ _ _ _ ⟨λ_=>⟨u,hu,_,OC t i first,v,hv,z,by simp[<-hd],by omega,?_⟩,λh=>absurd hul h⟩,hb2⟩;have :(done++z::rest').set i v=done++[v]++rest':=by simp[<-hd]
     rw[this];exact e
    |[],hr=>simp at hr;omega
   ·exact last i done rest h' hd hle hr hb
 obtain⟨M,r,e,hb⟩:=loop t.kids.length 0 [] (List.replicate t.kids.length<|.node 0 [] [] []) (by omega) rfl (by omega) (by simp) (by simp[kbulk]);exact⟨r,xR (M+1) _ _ _ ⟨_,ze (by omega) (by omega),bl,hbl,wk M _ _ _ _ ⟨by omega,by simpa using e⟩⟩,hb⟩
theorem MM(t:Tree)(ht:tbulk t<=1000000):∃u,mv t u∧tbulk u<=25*tbulk t∧(u.kind=t.kind∨u.kind=0):=by
 have h1:=Aq t (by omega);have :=bS t;cases hs:shapeK t with
 |false=>rw[hs]at h1;exact⟨.node 0 [] [] [],pY 0 _ _ ⟨_,h1,λ_=>rfl,λh=>(by cases h)⟩,by rw[tb0];simp;omega,.inr rfl⟩
 |true=>
  rw[hs]at h1;obtain⟨u,J,hb,G⟩:=Nl t ht hs [] (by simp);exact⟨u,pY 0 _ _ ⟨_,h1,λh=>(by cases h),λ_=>⟨u,J,rfl⟩⟩,by omega,.inl G⟩
theorem Ge:∀(l:List YB) (i:Nat) (x:YB),fH (l.set i x)<=fH l+x.length
 |[],i,x=>by simp[fH]
 |y::r,0,x=>by simp only[List.set_cons_zero,fH];omega
 |y::r,i+1,x=>by have :=Ge r i x;simp only[List.set_cons_succ,fH];omega
theorem Oj{L:YI}:∀t:Tree,tbulk t<=1000000->∀{a:Int},Dc L a->Gt L (λu a'=>kM L a t u L a'∧u.kind=t.kind) (6*tbulk t):=dp λt ih ht a hd=>by
 have hk:=bt t;have hl:=Eg t;have hbt:=aQ t;have kids:∀k i (done:YT) (ls:List YB) (a:Int),t.kids.length-i<=k->i<=t.kids.length->done.length=i->kbulk done<=6*kbulk (t.kids.take i)->fH ls<=6*fH t.leads->Dc L a->∃M,Gt L (λu a'=>ij M t L a (done++t.kids.drop i) i ls u L a'∧u.kind=t.kind) (6*tbulk t):=λk=>by
  have last:∀i (done:YT) (ls:List YB) (a:Int),¬i<t.kids.length->i<=t.kids.length->done.length=i->kbulk done<=6*kbulk (t.kids.take i)->fH ls<=6*fH t.leads->Dc L a->∃M,Gt L (λu a'=>ij M t L a (done++t.kids.drop i) i ls u L a'∧u.kind=t.kind) (6*tbulk t):=λi done ls a hi hle hdn hb hls hd=>by
   rw[List.drop_of_length_le (by omega),aar];rw[List.take_of_length_le<|by omega]at hb;exact⟨1,_,a,⟨sJ 0 _ _ _ _ _ _ _ _ _ ⟨λh=>absurd h (by omega),λ_=>⟨rfl,rfl,rfl⟩⟩,rfl⟩,hd,by simp only[tbulk];omega⟩
  induction k with
  |zero=>intro i done ls a hi hle hdn hb hls hd;exact last i done ls a (by omega) hle hdn hb hls hd
  | succ k ihk=>
   intro i done ls a hi hle hdn hb hls hd;obtain⟨u,hu,hul⟩|h':=bd t.kids i
   ·have hbu:=aE hu;obtain⟨v,a1,⟨q1,_⟩,q2,q3⟩:=ih i u hu (by omega) hd;obtain⟨M,hM⟩:=ihk (i+1) (done++[v]) ls a1 (by omega) (by omega) (by simp[hdn]) (by rw[wJ hu,iz];simp only[kbulk];omega) hls q2;have hg:(done++t.kids.drop i)[i]?=some u:=by rw[List.getElem?_append_right (by omega),hdn];simpa using hu
    refine⟨M+1,hM.map (aaf _) λw b ⟨h,hw⟩=>⟨sJ M _ _ _ _ _ _ _ _ _ ⟨λ_=>⟨u,hg,_,_,_,q1,u,hg,?_⟩,λh'=>absurd (by simp[hdn];omega) h'⟩,hw⟩⟩;have :(done++t.kids.drop i).set i v=done++[v]++t.kids.drop (i+1):=by rw[aK hu];simp[<-hdn]
    rw[this];exact h
   ·exact last i done ls a h' hle hdn hb hls hd
 have lead:∀k i (ls:List YB) (a:Int),t.leads.length-i<=k->i<=t.leads.length->ls.length=t.leads.length->fH ls<=fH t.leads+5*i->Dc L a->∃M,Gt L (λu a'=>fp M t L a ls i u L a'∧u.kind=t.kind) (6*tbulk t):=λk=>by
  have hll:=zl t.leads;have last:∀i (ls:List YB) (a:Int),¬i<t.leads.length->i<=t.leads.length->ls.length=t.leads.length->fH ls<=fH t.leads+5*i->Dc L a->∃M,Gt L (λu a'=>fp M t L a ls i u L a'∧u.kind=t.kind) (6*tbulk t):=λi ls a hi hle hlen hb hd=>by obtain⟨M,hM⟩:=kids t.kids.length 0 [] ls a (by omega) (by omega) rfl (by simp[kbulk]) (by omega) hd;exact⟨M+1,hM.map (aaf _) λw b ⟨h,hw⟩=>⟨mI M _ _ _ _ _ _ _ _ ⟨λh'=>absurd h' (by omega),λ_=>⟨by omega,by simpa using h⟩⟩,hw⟩⟩
  induction k with
  |zero=>intro i ls a hi hle hlen hb hd;exact last i ls a (by omega) hle hlen hb hd
  | succ k ihk=>
   intro i ls a hi hle hlen hb hd;obtain⟨x,hx,hxl⟩|h':=bd ls i
   ·obtain⟨n,a1,h1,h2,h3⟩:=iD hd (n:=9) (by omega) (by omega);by_cases hn:n=1
    ·obtain⟨s,a2,g1,g2,g3⟩:=lP h3 [[32,35,32,99,10],[32,32],[10,9],[35,10]] (by decide) (by decide);have hs5:=kS g2 (by decide);have :=Ge ls i s;obtain⟨M,hM⟩:=ihk (i+1) (ls.set i s) a2 (by omega) (by omega) (by simpa using hlen) (by omega) g3;exact⟨M+1,hM.map (aaf _) λw b ⟨h,hw⟩=>⟨mI M _ _ _ _ _ _ _ _ ⟨λ_=>⟨_,_,_,h1,λ_=>⟨_,_,_,g1,x,hx,h⟩,λh'=>absurd hn h'⟩,λh'=>absurd hxl h'⟩,hw⟩⟩
    ·obtain⟨M,hM⟩:=ihk (i+1) ls a1 (by omega) (by omega) hlen (by omega) h3;exact⟨M+1,hM.map (aaf _) λw b ⟨h,hw⟩=>⟨mI M _ _ _ _ _ _ _ _ ⟨λ_=>⟨_,_,_,h1,λh'=>absurd h' hn,λ_=>h⟩,λh'=>absurd hxl h'⟩,hw⟩⟩
   ·exact last i ls a (by omega) hle hlen hb hd
 obtain⟨M,hM⟩:=lead t.leads.length 0 t.leads a (by omega) (by omega) rfl (by omega) hd;exact hM.map (aaf _) λw b ⟨h,hw⟩=>⟨zN M _ _ _ _ _ _ ⟨by omega,h⟩,hw⟩
theorem OB{L:YI}{a:Int}(G:Dc L a)(name:YB)(hname:name.length<=5):Gt L (λt a'=>nI L a name t L a'∧(t.kind=1∨t.kind=0)) 300000:=by
 obtain⟨n,a1,h1,h2,h3⟩:=iD G (n:=4) (by omega) (by omega);have loop:∀(k:Nat) (a:Int) (l:YT),Dc L a->l.length+k<=100->kbulk l+k*500<=1500->Gt L (λt a'=>jt (k+1) name L a l (k:Int) t L a'∧(t.kind=1∨t.kind=0)) 300000:=λk=>by
  induction k with
  |zero=>
   intro a l G hl hb;have ht:tbulk (.node 1 name [] l)<=1506:=by rw[tbK];omega
   obtain⟨u,Z,hub,J⟩:=MM (.node 1 name [] l) (by omega);obtain⟨z,a2,g1,g2,g3⟩:=iD G (n:=2) (by omega) (by omega);by_cases hz:z=0
   ·exact(Oj u (by omega) g3).map (by omega) λw b ⟨h,O⟩=>⟨mg 0 _ _ _ _ _ _ _ _ ⟨λh'=>by omega,λ_=>⟨u,Z,_,_,_,g1,λ_=>⟨_,_,_,h,I,I,I⟩,λh'=>absurd hz h'⟩⟩,by rw[O];exact J⟩
   ·exact⟨u,a2,⟨mg 0 _ _ _ _ _ _ _ _ ⟨λh'=>by omega,λ_=>⟨u,Z,_,_,_,g1,λh'=>absurd h' hz,λ_=>⟨I,I,I⟩⟩⟩,J⟩,g3,by omega⟩
  |succ k U=>
   intro a l G hl hb;obtain⟨t,b,q1,q2,q3⟩:=Tq G;exact(U b (l++[t]) q2 (by simp;omega) (by rw[iz];simp only[kbulk];omega)).map (aaf _) λw c ⟨h,O⟩=>⟨mg (k+1) _ _ _ _ _ _ _ _ ⟨λ_=>⟨_,_,_,q1,by simp;omega,by omega,by rw[show((k+1:Nat):Int)-1=(k:Int) by omega];exact h⟩,λh=>by omega⟩,O⟩
 exact(loop n.toNat a1 [] h3 (by simp;omega) (by simp only[kbulk];omega)).map (aaf _) λw b ⟨h,O⟩=>⟨zb (n.toNat+1) _ _ _ _ _ _ ⟨_,_,_,h1,by rw[show n=((n.toNat:Nat):Int) by omega];exact h⟩,O⟩
def Mok(p:YT):Prop:=∀t∈p,t.kind=1∧shapeK t=true
theorem JZ(l:YI)(hl:l.length<=1000000):∃p,mM l p∧kbulk p<=1000000∧Mok p:=by
 have hd0:Dc l 0:=⟨by omega,by omega,by omega⟩;obtain⟨n,a1,h1,h2,h3⟩:=iD hd0 (n:=4) (by omega) (by omega);have loop:∀(k:Nat) (a:Int) (p:List Tree),Dc l a->p.length+k<=3->kbulk p+k*300001<=900003->Mok p->∃r,cf (k+1) l a p (k:Int) r∧kbulk r<=900003∧Mok r:=λk=>by
  induction k with
  |zero=>intro a p hd hp hb hmk;exact⟨p,lh 0 _ _ _ _ _ ⟨λh=>by omega,λ_=>rfl⟩,by omega,hmk⟩
  | succ k ihk=>
   intro a p hd hp hb hmk;have hb2:kbulk p+k*300001+300001<=900003:=aaw (Nat.le_of_eq (by rw[Nat.succ_mul,aat])) hb;have hb3:kbulk p+k*300001<=900003:=aaw (Nat.le_add_right _ _) hb2;obtain⟨x,hx,_⟩|h':=bd [[(65:UInt8)],[66],[67]] p.length
   rotate_left
   ·simp at h';omega
   have hx5:x.length<=5:=kS (List.mem_of_getElem? hx) (by decide);obtain⟨t,a2,⟨q1,qk⟩,q2,q3⟩:=OB hd x hx5;obtain⟨z,a3,g1,g2,g3⟩:=iD q2 (n:=8) (by omega) (by omega);have step:∀u:Tree,tbulk u<=300001->(u.kind=1∨u.kind=0)->∃b r,ia u b∧((b=true)->(p++[u]).length<=1000000000∧InI (((k+1:Nat):Int)-1)∧cf (k+1) l a3 (p++[u]) (((k+1:Nat):Int)-1) r)∧((b=false)->InI (((k+1:Nat):Int)-1)∧cf (k+1) l a3 p (((k+1:Nat):Int)-1) r)∧kbulk r<=900003∧Mok r:=λu hu huk=>by
    obtain⟨b,hb',hbs⟩:=NJ u (by omega);have e:((k+1:Nat):Int)-1=(k:Int):=by omega
    rw[e];cases b with
    | true=>
     have hus:=hbs rfl;have hu1:u.kind=1:=by
      rcases huk with h|h
      ·exact h
      ·have :=wM hus;rw[h]at this;simp[fb]at this
     obtain⟨r,hr,hrb⟩:=ihk a3 (p++[u]) g3 (by simp;omega) (by clear hb;rw[iz];simp only[kbulk];omega) (λt ht=>by
      rcases List.mem_append.1 ht with h|h
      ·exact hmk t h
      ·rw[List.mem_singleton]at h;subst h;exact⟨hu1,hus⟩)
     exact⟨true,r,hb',λ_=>⟨by simp;omega,by omega,hr⟩,λh=>(by cases h),hrb⟩
    |false=>
     obtain⟨r,hr,hrb⟩:=ihk a3 p g3 (by omega) hb3 hmk;exact⟨false,r,hb',λh=>(by cases h),λ_=>⟨by omega,hr⟩,hrb⟩
   by_cases hz:z=7
   ·have hub:tbulk (.node t.kind [65] t.leads t.kids)<=300001:=by have :=aQ t;simp only[tbulk,aac,aae];omega
    obtain⟨b,r,e1,e2,e3,e4⟩:=step _ hub qk;exact⟨r,lh (k+1) _ _ _ _ _ ⟨λ_=>⟨x,hx,_,_,_,q1,_,_,_,g1,λ_=>⟨b,e1,e2,e3⟩,λh=>absurd hz h⟩,λh=>by omega⟩,e4⟩
   ·obtain⟨b,r,e1,e2,e3,e4⟩:=step t (by omega) qk;exact⟨r,lh (k+1) _ _ _ _ _ ⟨λ_=>⟨x,hx,_,_,_,q1,_,_,_,g1,λh=>absurd h hz,λ_=>⟨b,e1,e2,e3⟩⟩,λh=>by omega⟩,e4⟩
 obtain⟨r,hr,hrb,hrm⟩:=loop n.toNat a1 [] h3 (by simp;omega) (by simp only[kbulk];omega) (λt h=>by cases h);exact⟨r,yC (n.toNat+1) _ _ ⟨_,_,Ai 0 _ _ _ ⟨by omega,I,I⟩,_,_,_,h1,by rw[show n=((n.toNat:Nat):Int) by omega];exact hr⟩,by omega,hrm⟩
theorem Ma:∀(t:Tree) (q:YI) (z:YI×Tree),z∈nodK t q->z.1.length<=q.length+tbulk t:=by
 have h:∀t:Tree,∀(q:YI) (z:YI×Tree),z∈nodK t q->z.1.length<=q.length+tbulk t:=dp λt ih q z hz=>by
  have hB:=aQ t;have key:∀(l:YT) (i:Nat),(∀(j:Nat) (u:Tree),l[j]?=some u->∀(q:YI) (z:YI×Tree),z∈nodK u q->z.1.length<=q.length+tbulk u)->z∈nodKs l q i->z.1.length<=q.length+1+kbulk l:=by
   intro l
   induction l with
   |nil=>intro i _ h;simp[nodKs]at h
   | cons a r ihr=>
    intro i h1 h2;simp only[nodKs,aai]at h2;rcases h2 with h2|h2
    ·have :=h1 0 a rfl _ z h2;simp only[aab,aac,aae,kbulk]at this⊢;omega
    ·have :=ihr (i+1) (λj u hu=>h1 (j+1) u<|by simpa using hu) h2;simp only[kbulk];omega
  rw[dH]at hz;rcases List.mem_cons.1 hz with rfl|hz
  ·simp
  ·have :=key t.kids 0 (λj u hu=>ih j u hu) hz;omega
 exact h
theorem Tk(l:YI):qc l true:=by
 have hL:oR l (decide<|((l.length:Nat):Int)<=120):=zP 0 _ _<|rfl;by_cases hl:((l.length:Nat):Int)<=120
 ·obtain⟨p,h1,h2,h3⟩:=JZ l (by omega);have hlen:=fe p;have inner:∀(t:Tree) (i:Nat) (m:Nat),p[i]?=some t->eW m p (i+1) true->∀k j,k+j=(mX<|nodK t []).length->gQ (m+k+1) p (mX<|nodK t []) j i true:=λt i m ht hnx k=>by
   have hbt:=bn ht
   induction k with
   |zero=>
    intro j hj;have hil:=(List.getElem?_eq_some_iff.1 ht).1;exact oO m _ _ _ _ _ (⟨λh=>absurd h (by omega),λ_=>⟨by omega,hnx⟩⟩)
   | succ k ih=>
    intro j hj;obtain⟨q,hq⟩:∃q,(mX (nodK t []))[j]?=some q:=⟨_,List.getElem?_eq_getElem (by omega)⟩;have hqm:q∈mX (nodK t []):=List.mem_of_getElem? hq;have hql:q.length<=tbulk t:=by unfold mX at hqm;obtain⟨z,hz,rfl⟩:=List.mem_map.1 hqm;have :=Ma t [] z hz;simpa using this
    obtain⟨a,e,b,g1,g2,g3⟩:=PH (p:=p) (by omega) ⟨(i:Int),q⟩ (by simp only;omega);exact oO (m+k+1) _ _ _ _ _ (⟨λ_=>⟨q,hq,a,e,g1,q,hq,b,e,g2,λh=>absurd rfl h,λ_=>⟨true,g3,λh=>(by cases h),λ_=>ih (j+1)<|by omega⟩⟩,λh=>absurd (by omega) h⟩)
  have outer:∀k i,k+i=p.length->∃M,eW M p i true:=λk=>by
   induction k with
   |zero=>
    intro i hi;exact⟨1,oP 0 _ _ _ (⟨λh=>absurd h (by omega),λ_=>⟨true,Ph,I⟩⟩)⟩
   |succ k ih=>
    intro i hi;obtain⟨t,ht⟩:∃t,p[i]?=some t:=⟨_,List.getElem?_eq_getElem (by omega)⟩;have hbt:=bn ht;obtain⟨M,hM⟩:=ih (i+1) (by omega);have :=inner t i M ht hM (mX (nodK t [])).length 0 (by omega);exact⟨_,oP _ _ _ _ (⟨λ_=>⟨t,ht,_,QJ t (by omega),this⟩,λh=>absurd (by omega) h⟩)⟩
  obtain⟨M,hM⟩:=outer p.length 0 (by omega);rw[decide_eq_true hl]at hL;exact pG M _ _ (⟨true,hL,λh=>(by cases h),λ_=>⟨p,h1,hM⟩⟩)
 ·rw[decide_eq_false hl]at hL;exact pG 0 _ _ (⟨false,hL,λ_=>⟨true,Ph,rfl⟩,λh=>(by cases h)⟩)
open Go.RowKit Go.ChangeShapes Go.WideShapes Go.Deep
theorem LQ:prog.cellsOf 3=1:=by kernel_rfl
variable{W:World}
theorem Ta{H:Type}{enc:TypeId×Value->H}{a0:Option Addr}{len cap:Nat}{d:DataW H}{p:List MemPlace}(h:DataW.Trod enc prog W 0 (λ_=>true) true 23 (.slice a0 len cap) d p):
  ∃zs:YI,len=zs.length∧len<=cap∧cap<=maxLen∧RowIn Any W 1 a0 zs.length (zs.map λz=>.int .i64 z):=by
 obtain⟨fuel,hf⟩:=h;rcases open_ints underlying23 underlying3 LQ hf with⟨G,hx⟩|⟨a,len',cap',zs,G,hb,hl,hm,J,hx,hcell,hwf⟩
 ·simp[Value.cells]at G;obtain⟨rfl,rfl,rfl⟩:=G;exact⟨[],I,aaf _,aao _,RowIn.none_⟩
 ·simp[Value.cells]at G;obtain⟨rfl,rfl,rfl⟩:=G;simp only[if_true]at J;have O:(zs.take len).length=len:=by simp;omega
  refine⟨zs.take len,O.symm,hl,hm,by simp,λh0=>?_⟩;rw[O]at h0⊢;have hs:a.spot=none:=World.cell?_spot (a:=a) (by have :=hcell 0 (by omega);simpa[Addr.add]using this);obtain⟨b,off,spot⟩:=a;simp only at hs;subst hs;have U:∀k,(⟨b,off,none⟩:Addr).add k=⟨b,off+k,none⟩:=λk=>by unfold Addr.add;split<;>simp_all
  refine⟨b,off,I,trivial,?_,λj hj=>?_⟩
  ·have :=hcell 0 (by omega);exact World.block_lt_of_cell? W ⟨b,off,none⟩ (by simpa[Addr.add]using this)
  ·have Z:j<len:=by omega
   have :=hcell j (by omega);rw[U]at this;rw[this];simp[Z,List.getD_eq_getElem?_getD,show j<zs.length from by omega]
abbrev wH(W:World):Nat->Prop:=λb=>b<W.heap.size
theorem RowIn.live{sz n:Nat}{A:Option Addr}{xs:List Value}(h:RowIn Any W sz A n xs):RowIn (wH W) W sz A n xs:=⟨h.1,λJ=>by obtain⟨b,off,h1,_,G,O⟩:=h.2 J;exact⟨b,off,h1,G,G,O⟩⟩
abbrev KS(W:World)(v:V)(x:Value):Prop:=VRel (wH W) W (λ_=>none) v x
theorem US{l:YI}{A:Option Addr}{cap:Nat}(G:l.length<=cap)(J:cap<=maxLen)(hr:RowIn Any W 1 A l.length<|l.map λz=>.int .i64 z):KS W (.row 1<|l.map<|V.int .i64) (.slice A l.length cap):=by simp only[KS,VRel];exact⟨A,cap,_,by simp,by simpa using G,J,GU l,by simpa using hr.live⟩
theorem UR{fid:FuncId}{us:List V}{b:Bool}(h:ut prog fid us<|.bool b)(G:∀p∈Bc,VRel (wH W) W ρ0 (.box p.2 0) (.pointer<|some ⟨p.1,0,none⟩):=by exact λp Z=>nomatch Z){xs:List Value}(hx:LRel (wH W) W (λ_=>none) us xs):Calls prog fid xs.toArray W λe W'=>e=.returned (.bool b)∧Ext W W':=by
 have J:HRel (wH W) W (λ_=>none) (⟨0,[]⟩:Hp).get:=OT ⟨λ_ h=>h,G⟩;refine(h.2.2 _ W _ xs J hx).mono ?_;rintro e W' ⟨x,S',ρ',v,H',rfl,rfl,h1,h2,U⟩;simp only[VRel]at U;subst U;have O:∀b,¬∃id,own (λ_=>none) id ((⟨0,[]⟩:Hp).get id) b:=λb ⟨id,hb⟩=>by rw[zV]at hb;exact hb
 exact⟨I,Chg.ext ⟨h2.chg.os,h2.chg.tape,h2.chg.output,h2.chg.size,λb hb _=>h2.chg.block b hb<|O b⟩⟩
theorem lr1{u:V}{x:Value}(h:KS W u x):LRel (wH W) W (λ_=>none) [u] [x]:=⟨x,[],rfl,h,rfl⟩
open Go.RowKit Go.ChangeShapes Go.WideShapes Lx Sx
theorem Ib:prog.cellsOf 58=2:=by kernel_rfl
theorem MW:prog.cellsOf 3=1:=by kernel_rfl
theorem Cd{n:String}{z:Int}{g:Nat}{r:List<|String×DataW Unit}{ps:List MemPlace}(hg:prog.globalNamed n=some g)(ht:(prog.globals[g]?).map (·.type)=some 58)(h:DataW.LaidVars prog W ((n,.agg [.lit<|.int .i64 z,.lit<|.int .i64 0])::r) ps):
  (∃qs,DataW.LaidVars prog W r qs)∧VRel (wH W) W ρ0 (.box [.int .i64 z,.int .i64 0] 0) (.pointer<|some ⟨g,0,none⟩):=by
 obtain⟨g',t,cs,fuel,p,q,h1,h2,G,h4,h5,_⟩:=h;rw[hg]at h1;injection h1 with h1;subst h1
 rw[ht]at h2;injection h2 with h2;subst h2
 refine⟨⟨q,h5⟩,?_⟩;obtain⟨y0,y1,n',hx,hl,h6,h7⟩:=trod_struct2 underlying58 h4;rw[Ib]at hl;simp only[MW]at h6 h7;obtain⟨a,O,f0,_⟩:=DataW.trod_int underlying3 h6;obtain⟨b,U,f1,_⟩:=DataW.trod_int underlying3 h7;rw[f0,f1]at hx;simp only[Prod.mk.injEq,DataW.agg.injEq,List.cons.injEq,DataW.lit.injEq,Lit.int.injEq,true_and,and_true]at hx;obtain⟨⟨rfl,rfl⟩,_⟩:=hx;have Z:cs.toList=[.int .i64 z,.int .i64 0]:=by
  match hc:cs.toList,hl with
  |[c0,c1],_=>
   rw[hc]at O U;simp only[List.drop_zero,List.drop_succ_cons,List.take_succ_cons,List.take_zero,List.cons.injEq,and_true]at O U;rw[O,U]
 unfold World.var? at G;rw[hg]at G;simp only[Option.bind_some]at G;split at G
 ·rename_i cs' ty fz hb;injection G with G;subst G
  have J:g<W.heap.size:=by
   rcases Nat.lt_or_ge g W.heap.size with h|h
   ·exact h
   ·rw[Array.getElem?_eq_none h]at hb;cases hb
  simp only[VRel];refine⟨g,0,[.int .i64 z,.int .i64 0],rfl,J,J,by simp only[LRel,VRel];exact⟨_,_,rfl,rfl,_,_,rfl,rfl,rfl⟩,λj hj=>?_⟩;rw[<-Z];simp[World.cell?,hb]
 ·cases G
theorem UQ{W:World}{ps:List MemPlace} (h:DataW.LaidVars prog W [("semvcs/typing.integer",Rows.laid_semvcs_typing_integer),("semvcs/typing.text",Rows.laid_semvcs_typing_text),("semvcs/typing.boolean",Rows.laid_semvcs_typing_boolean)] ps):∀p∈Bc,VRel (wH W) W ρ0 (.box p.2 0) (.pointer (some ⟨p.1,0,none⟩)):=by
 obtain⟨⟨q1,h1⟩,a1⟩:=Cd (g:=0) (by kernel_rfl) (by kernel_rfl) h;obtain⟨⟨q2,h2⟩,a2⟩:=Cd (g:=1) (by kernel_rfl) (by kernel_rfl) h1;obtain⟨_,a3⟩:=Cd (g:=2) (by kernel_rfl) (by kernel_rfl) h2;intro p hp;simp only[Bc,aah,List.not_mem_nil,or_false]at hp;rcases hp with rfl|rfl|rfl
 ·exact a1
 ·exact a2
 ·exact a3
def Ol(cs:Array Value):Obj->Obj
 |.cells _ t frozen=>.cells cs t frozen
 |o=>o
noncomputable def Mt (os:Os):World:=
 let w0:=World.holding prog os ⟨#[],#[],[]⟩
 {w0 with heap:=((w0.heap.modify 0<|Ol #[.int .i64 5,.int .i64 0]).modify 1<|Ol #[.int .i64 6,.int .i64 0]).modify 2<|Ol #[.int .i64 7,.int .i64 0]}
theorem Uu(os:Os)(args:Array Value):laidMet prog Rows.typingLayoutRow.laid ((Mt os).forCall (λ_ _=>0) ⟨#[],args,[]⟩).memory:=
 laidMet_of_run' 8 (by kernel_rfl) (by kernel_rfl)
end Go.Proofs.YtomplbgchbfjpaaGreatDoor
