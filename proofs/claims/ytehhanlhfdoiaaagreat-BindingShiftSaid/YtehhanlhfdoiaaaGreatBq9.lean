/- Contracts of the functions that the law reaches, part 9. -/
import Derived.Test.YtehhanlhfdoiaaaGreatBq8
set_option linter.unusedVariables false
set_option linter.unusedSimpArgs false
namespace Go.Proofs.YtehhanlhfdoiaaaGreat
open _root_.Go.Proofs.Tryz
open Go.RowKit Lx Sx
set_option maxHeartbeats 2000000
variable{t:Tree}
variable{i:Nat}{u:Tree}
variable{l r:List Pce}
open Go.RowKit
set_option maxRecDepth 100000
set_option maxHeartbeats 4000000
open Go.RowKit Lx
variable{x:YB}
variable{s:WS}
variable{n:Int}
theorem Ks:zy bQ (FX Ih 5000 19 [.str Kv])=true:=by kernel_rfl
theorem If:kbulk [bQ]<=1000:=by decide+kernel
theorem OK:bQ.kind=1∧shapeK bQ=true∧leadedT bQ=true∧limK bQ=true∧depK bQ<=40∧(rW bQ).length<=4096∧nN bQ=8:=by decide+kernel
def isV(v:ak)(n r:Int):Bool:=decide (v.N=n)&&!v.Flag&&decide (v.Text=[])&&decide (v.Ref=r)
theorem EX{v:ak}{r:Int}(h:isV v n r=true):v=⟨n,false,[],r⟩:=by obtain⟨a,b,c,d⟩:=v;simp[isV]at h;obtain⟨⟨⟨rfl,rfl⟩,rfl⟩,rfl⟩:=h;rfl
theorem Pf:(isV (AD (nzF<|eF 1048576 [bQ] 0 [bQ]) 1048582 4) 16 1048578&&isV (AD (nzF<|eF 1048576 [bQ] 0 [bQ]) 1048583 4) 17 1048579&&isV (AD (nzF<|eF 1048576 [bQ] 0 [bQ]) 1048584 4) 12 1048579&&decide ((nzF<|eF 1048576 [bQ] 0 [bQ]).length<=1000))=true:=by decide+kernel
variable{p:YT}
theorem Kc(h:nNs p<=200):Few p:=λm t u q ht hq=>by have h1:=hW ht;have h2:=ni q t u hq;have E:=vS u.kids;rw[Bc u]at h2;omega
theorem FA(h:t∈p):tbulk t<=kbulk p:=by obtain⟨i,hi,e⟩:=aaA h;exact bX (by rw[List.getElem?_eq_getElem hi,e])
theorem wl(b:Int)(hb:kbulk p<=2000000)(hf:okP iP p=true->Few p):ef p b (ba iP b p).1 (ba iP b p).2.1 (ba iP b p).2.2∧fR p b (ba iP b p).1 (ba iP b p).2.1 (ba iP b p).2.2:=
 ⟨QH (by omega) (λt ht=>MM t<|aap (FA ht) hb) (λt _ h=>((lj t).1 h).shape) hf,LK (by omega) (λt ht=>Jy t<|aap (FA ht) hb) (λt _ h=>((lj t).1 h).shape) hf⟩
theorem KN:pi true:=by
 obtain⟨v1,v2,J,O,U,Z,v7⟩:=OK;have hb:=If;have hN:nNs [bQ]=8:=by simp[nNs,v7]
 have hV:iP bQ=true:=(lj _).2 ⟨v2,J,O,U,Z⟩;have hB:=(wl (p:=[bQ]) 1048576 (by omega) λ_=>Kc<|by omega).1;have e:ba iP 1048576 [bQ]=(⟨nzF<|eF 1048576 [bQ] 0 [bQ]⟩,1048584,0):=by
  have h1:okP iP [bQ]=true:=by simp[okP,v1,hV]
  rw[ba,if_pos ⟨h1,by decide⟩,hN];rfl
 rw[e]at hB;have E:=Pf;simp only[aaa,aat]at E;obtain⟨⟨⟨c1,c2⟩,c3⟩,c4⟩:=E;have g1:=Iv (nzF<|eF 1048576 [bQ] 0 [bQ]) 1048582 4 (by omega);have g2:=Iv (nzF<|eF 1048576 [bQ] 0 [bQ]) 1048583 4 (by omega);have G:=Iv (nzF<|eF 1048576 [bQ] 0 [bQ]) 1048584 4 (by omega);rw[EX c1]at g1;rw[EX c2]at g2;rw[EX c3]at G;exact vb 0 _ (⟨bQ,0,0,Pe Ks,_,_,_,hB,λ_=>⟨λ_=>⟨λ_=>⟨_,g1,λ_=>⟨_,g2,λ_=>⟨_,G,by simp[ep]⟩,λh=>absurd ⟨rfl,rfl,rfl,rfl⟩ h⟩,λh=>absurd ⟨rfl,rfl,rfl,rfl⟩ h⟩,λh=>absurd rfl h⟩,λh=>absurd rfl h⟩,λh=>absurd rfl h⟩)
theorem Cs:dc true:=KN
theorem OJ(p:YT)(b:Int)(hb:kbulk p<=1048576):lH p b true:=by
 have E:=Co (.node 0 [] [] p) (by simp only[tbulk,dr,aae];omega);have hn:nN (.node 0 [] [] p)=nNs p+1:=by simp only[nN]
 by_cases h:(200:Int)<((nN (.node 0 [] [] p):Nat):Int)
 ·exact kQ 0 _ _ _<|⟨_,E,λ_=>⟨_,Cs,I⟩,λh'=>absurd h h'⟩
 ·obtain⟨k1,G⟩:=wl (p:=p) b (by omega) (λ_=>Kc<|by omega);exact kQ 0 _ _ _ (⟨_,E,λh'=>absurd h' h,λ_=>⟨_,_,_,k1,_,_,_,G,_,Cs,λ_=>⟨λ_=>⟨λ_=>⟨_,Fy _,rfl⟩,λh=>absurd rfl h⟩,λh=>absurd rfl h⟩,λh=>(by cases h)⟩⟩)
open Go.RowKit Lx Sx Go.ChangeShapes Go.WideShapes Go.Deep Go.Joins
instance:Inhabited Tree:=⟨lp⟩
theorem wU:prog.cellsOf 26=4:=by kernel_rfl
theorem KV:prog.cellsOf 3=1:=by kernel_rfl
theorem Dj:prog.cellsOf 9=1:=by kernel_rfl
theorem Nc:prog.cellsOf 24=1:=by kernel_rfl
theorem MB:prog.cellsOf 22=1:=by kernel_rfl
theorem Ky{α:Type}{l:List α}(h:l.length=4):∃a b c d,l=[a,b,c,d]:=by
 match l,h with
 |[a,b,c,d],_=>exact⟨a,b,c,d,rfl⟩
theorem Cl{α:Type}{c:Nat->List α}:∀(l:YN) (i r:Nat),(∀j∈l,(c j).length=4)->r<4->(l.flatMap c)[i*4+r]?=(l[i]?).bind λj=>(c j)[r]?
 |[],i,r,_,_=>by simp
 |j::l,0,r,h,hr=>by
  have :=h j (by simp);rw[List.flatMap_cons,List.getElem?_append_left<|by omega];simp
 |j::l,i+1,r,h,hr=>by
  have E:=h j (by simp);rw[List.flatMap_cons,List.getElem?_append_right (by omega),show(i+1)*4+r-(c j).length=i*4+r by omega,Cl l i r (λq hq=>h q<|by simp[hq]) hr];simp
section
variable{H:Type}{enc:TypeId×Value->H}{W:World}
theorem vR(b off k:Nat):(⟨b,off,none⟩:Addr).add k=⟨b,off+k,none⟩:=by unfold Addr.add;split<;>simp_all
theorem yt{g:Nat->Tree}{D:Nat->DataW H}:∀(l:YN),(∀i∈l,tbulk (g i)<=Rows.uptoBulk (D i))->kbulk (l.map g)<=Rows.uptoBulkAll (l.map D)
 |[],_=>by simp[kbulk,Rows.uptoBulkAll]
 |i::l,h=>by
  have :=yt l (λj E=>h j<|by simp[E]);have :=h i (by simp);simp only[aah,kbulk,Rows.uptoBulkAll];omega
theorem Ef{g:Nat->YB}{D:Nat->DataW H}:∀(l:YN),(∀i∈l,D i=.lit (.string<|g i))->dr (l.map g)<=Rows.uptoBulkAll (l.map D)
 |[],_=>by simp[dr,Rows.uptoBulkAll]
 |i::l,h=>by
  have :=Ef l (λj E=>h j<|by simp[E]);have :=h i (by simp);simp only[aah,dr,Rows.uptoBulkAll,this,Rows.uptoBulk];omega
theorem tO{g:Nat->Tree}{c:Nat->List Value}:∀(l:YN),(∀i∈l,TreeIs Any W (g i)<|c i)->KidsAre Any W (l.map g) (l.flatMap c)
 |[],_=>rfl
 |i::l,h=>by
  simp only[aah,List.flatMap_cons,KidsAre];exact⟨c i,l.flatMap c,rfl,h i (by simp),tO l λj E=>h j<|by simp[E]⟩
theorem Ok{n:Nat}{v:Value}{x:DataW H×List MemPlace}(h:DataW.trod enc prog W 0 (λ_=>true) true n 24 [v]=some x):
  ∃(ls:List YB) (A:Option Addr) (m:Nat),v=.slice A ls.length m∧ls.length<=m∧m<=maxLen∧RowIn Any W 1 A ls.length (ls.map kg)∧dr ls<=Rows.uptoBulk x.1:=by
 rcases open_slice underlying24 h with⟨E,hx⟩|⟨a,len,cap,m,n',D,Pl,E,hb,Z,hm,G,hx,hi⟩
 ·simp only[List.cons.injEq,and_true]at E;exact⟨[],none,0,E,aaf _,by simp[maxLen],RowIn.none_,by simp[dr]⟩
 ·simp only[List.cons.injEq,and_true]at E;simp only[if_true]at G;subst G E;rw[Dj]at hi;obtain⟨T,J⟩:=choose_lt (α:=YB) (p:=λi t=>W.cell? (a.add i)=some (kg t)∧D i=.lit (.string t)) (n:=m) (λi O=>by
   obtain⟨cs',hc,ht⟩:=hi i O;obtain⟨s,e1,f1,_⟩:=DataW.trod_string underlying9 ht;subst e1;refine⟨s.data.toList,?_,by have :=congrArg Prod.fst f1;simpa using this⟩;have :=(World.cells?_some hc).2.2 0 (by omega);simpa[Addr.add]using this)
  refine⟨(List.range len).map T,some a,m,by simp,by simpa using Z,hm,⟨by simp,λh0=>?_⟩,?_⟩
  ·simp only[aan,List.length_range]at h0⊢;have hs:a.spot=none:=World.cell?_spot (a:=a) (by have :=(J 0<|by omega).1;simpa[Addr.add]using this);obtain⟨b,off,spot⟩:=a;simp only at hs;subst hs;refine⟨b,off,I,trivial,?_,λj hj=>?_⟩
   ·have :=(J 0<|by omega).1;exact World.block_lt_of_cell? W ⟨b,off,none⟩ (by simpa[Addr.add]using this)
   ·have :=(J j<|by omega).1;rw[vR]at this;rw[this];simp[show j<len by omega]
  ·rw[hx];have :=Ef (g:=T) (D:=D) (List.range len) (λi U=>(J i (by have :=List.mem_range.1 U;omega)).2);simp only[Rows.uptoBulk];omega
theorem Hs:∀(q n:Nat) (cs:List Value) (x:DataW H×List MemPlace),Rows.uptoBulk x.1<=q->DataW.trod enc prog W 0 (λ_=>true) true n 26 cs=some x->∃t,TreeIs Any W t cs∧tbulk t<=Rows.uptoBulk x.1
 | q, n,cs,x,hq,h=>by
  obtain⟨y0,y1,y2,y3,n',hx,hl,h0,h1,h2,h3⟩:=trod_struct4 underlying26 h;rw[wU]at hl;obtain⟨v0,v1,v2,v3,rfl⟩:=Ky hl;simp only[KV,Dj,Nc,MB,List.drop_zero,List.drop_succ_cons,List.take_succ_cons,List.take_zero]at h0 h1 h2 h3;obtain⟨k,e0,f0,_⟩:=DataW.trod_int underlying3 h0;obtain⟨s1,e1,f1,_⟩:=DataW.trod_string underlying9 h1;obtain⟨ls,A,m,e2,l1,l2,l3,l4⟩:=Ok h2;simp only[List.cons.injEq,and_true]at e0 e1;have hbk:Rows.uptoBulk x.1=Rows.uptoBulk y0.1+(Rows.uptoBulk y1.1+(Rows.uptoBulk y2.1+(Rows.uptoBulk y3.1+0)))+1:=by rw[hx];simp only[Rows.uptoBulk,Rows.uptoBulkAll]
  have hs1:Rows.uptoBulk y1.1=s1.data.toList.length+1:=by
   have :y1.1=.lit (.string s1.data.toList):=by rw[f1]
   rw[this];rfl
  have go:∃(ks:YT) (B:Option Addr) (c:Nat) (cells:List Value),v3=.slice B ks.length c∧ks.length<=c∧c<=maxLen∧KidsAre Any W ks cells∧RowIn Any W 4 B ks.length cells∧kbulk ks<=Rows.uptoBulk y3.1:=by
   rcases open_slice underlying22 h3 with⟨hcs,hx3⟩|⟨a,len,cap,m3,n3,D,Pl,hcs,hb,hl3,hm3,hmm,hx3,hi⟩
   ·simp only[List.cons.injEq,and_true]at hcs;exact⟨[],none,0,[],hcs,aaf _,by simp[maxLen],rfl,RowIn.none_,by simp[kbulk]⟩
   ·simp only[List.cons.injEq,and_true]at hcs;simp only[if_true]at hmm;subst hmm hcs;rw[wU]at hi;have hall:Rows.uptoBulk y3.1=Rows.uptoBulkAll ((List.range len).map D)+Rows.uptoBulkAll ((List.range<|m3-len).map λj=>D<|len+j)+1:=by rw[hx3];simp only[Rows.uptoBulk]
    have hle:∀(l:YN) i,i∈l->Rows.uptoBulk (D i)<=Rows.uptoBulkAll (l.map D):=by
     intro l i hi'
     induction l with
     |nil=>cases hi'
     |cons j r ih=>
      simp only[aah,Rows.uptoBulkAll];rcases List.mem_cons.1 hi' with e|e
      ·subst e;omega
      ·have :=ih e;omega
    obtain⟨T,hT⟩:=choose_lt (α:=Tree×List Value) (p:=λi t=>i<len->W.cells? 0 (a.add (i*4)) 4=some t.2∧TreeIs Any W t.1 t.2∧tbulk t.1<=Rows.uptoBulk (D i)) (n:=m3) (λi him=>by
     by_cases hil:i<len
     ·obtain⟨cs',hc,ht⟩:=hi i him;have hb1:=hle (List.range len) i (by simp[hil]);obtain⟨t,g1,g2⟩:=Hs (q-1) n3 cs' (D i,Pl i) (by simp only;omega) ht;exact⟨(t,cs'),λ_=>⟨hc,g1,g2⟩⟩
     ·exact⟨(lp,[]),λh=>absurd h hil⟩)
    have hTl:∀i,i∈List.range len->W.cells? 0 (a.add<|i*4) 4=some (T i).2∧TreeIs Any W (T i).1 (T i).2∧tbulk (T i).1<=Rows.uptoBulk (D i):=λi hi'=>by have :=List.mem_range.1 hi';exact hT i (by omega) this
    refine⟨(List.range len).map λi=>(T i).1,some a,m3,(List.range len).flatMap λi=>(T i).2,by simp,by simpa using hl3,hm3,tO _ λi hi'=>(hTl i hi').2.1,⟨?_,λh0=>?_⟩,?_⟩
    ·have :=(tO (W:=W) (g:=λi=>(T i).1) (c:=λi=>(T i).2) (List.range len) λi hi'=>(hTl i hi').2.1).length;rw[this]
    ·simp only[aan,List.length_range]at h0⊢;have hcell:∀i,i<len->∀r,r<4->W.cell? ((a.add<|i*4).add r)=(T i).2[r]?:=λi hi' r hr=>by
      have h4:=(hTl i<|by simp[hi']).2.1.four;have :=(World.cells?_some (hTl i<|by simp[hi']).1).2.2 r (by omega);rw[this]
     have hsome:∃v,W.cell? a=some v:=by
      have h4:=(hTl 0<|by simp[h0]).2.1.four;have :=hcell 0 h0 0 (by omega);refine⟨(T 0).2[0]'(by omega),?_⟩;rw[List.getElem?_eq_getElem<|by omega]at this;simpa[Addr.add]using this
     obtain⟨vv,hvv⟩:=hsome;have hs:a.spot=none:=World.cell?_spot (a:=a) hvv;obtain⟨b,off,spot⟩:=a;simp only at hs;subst hs;refine⟨b,off,I,trivial,World.block_lt_of_cell? W ⟨b,off,none⟩ hvv,λj hj=>?_⟩;have e:=hcell (j/4) (by omega) (j%4) (by omega);rw[vR,vR,show off+j/4*4+j%4=off+j by omega]at e;have e2:=Cl (c:=λi=>(T i).2) (List.range len) (j/4) (j%4) (λi hi'=>(hTl i hi').2.1.four) (by omega);rw[show j/4*4+j%4=j by omega]at e2;rw[e,e2];simp[show j/4<len by omega]
    ·have :=yt (g:=λi=>(T i).1) (D:=D) (List.range len) λi hi'=>(hTl i hi').2.2;omega
  obtain⟨ks,B,c,cells,e3,k1,k2,k3,k4,k5⟩:=go;refine⟨.node k s1.data.toList ls ks,?_,?_⟩
  ·subst e0 e1 e2 e3;simp only[TreeIs];exact⟨A,m,B,c,by simp,l1,l2,k1,k2,l3,cells,k3,k4⟩
  ·simp only[tbulk];omega
 termination_by q=>q
 decreasing_by omega
end
open Go.RowKit Go.ChangeShapes Go.WideShapes Go.Deep Go.Joins
open Lx Sx
section
variable{H:Type}{enc:TypeId×Value->H}{W:World}
theorem RD{v:Value}{d:DataW H}{p:List MemPlace}(h:DataW.Trod enc prog W 0 (λ_=>true) true 22 v d p):v.cells.toList=[v]->∃(ks:YT) (B:Option Addr) (c:Nat) (cells:List Value),v=.slice B ks.length c∧ks.length<=c∧c<=maxLen∧KidsAre Any W ks cells∧RowIn Any W 4 B ks.length cells∧kbulk ks<=Rows.uptoBulk d:=λhv=>by
 obtain⟨fuel,h3⟩:=h;rw[hv]at h3;rcases open_slice underlying22 h3 with⟨J,O⟩|⟨a,len,cap,m3,n3,D,Pl,J,hb,hl3,hm3,U,O,hi⟩
 ·simp only[List.cons.injEq,and_true]at J;exact⟨[],none,0,[],J,aaf _,by simp[maxLen],rfl,RowIn.none_,by simp[kbulk]⟩
 ·simp only[List.cons.injEq,and_true]at J;simp only[if_true]at U;subst U J;rw[wU]at hi;have hall:Rows.uptoBulk d=Rows.uptoBulkAll ((List.range len).map D)+Rows.uptoBulkAll ((List.range<|m3-len).map λj=>D<|len+j)+1:=by
   have :d=_:=congrArg Prod.fst O;rw[this];simp only[Rows.uptoBulk]
  obtain⟨T,hT⟩:=choose_lt (α:=Tree×List Value) (p:=λi t=>i<len->W.cells? 0 (a.add (i*4)) 4=some t.2∧TreeIs Any W t.1 t.2∧tbulk t.1<=Rows.uptoBulk (D i)) (n:=m3) (λi him=>by
   by_cases hil:i<len
   ·obtain⟨cs',hc,ht⟩:=hi i him;obtain⟨t,g1,g2⟩:=Hs _ n3 cs' (D i,Pl i) (aaf _) ht;exact⟨(t,cs'),λ_=>⟨hc,g1,g2⟩⟩
   ·exact⟨(lp,[]),λh=>absurd h hil⟩)
  have G:∀i,i∈List.range len->W.cells? 0 (a.add<|i*4) 4=some (T i).2∧TreeIs Any W (T i).1 (T i).2∧tbulk (T i).1<=Rows.uptoBulk (D i):=λi E=>by have :=List.mem_range.1 E;exact hT i (by omega) this
  refine⟨(List.range len).map λi=>(T i).1,some a,m3,(List.range len).flatMap λi=>(T i).2,by simp,by simpa using hl3,hm3,tO _ λi E=>(G i E).2.1,⟨?_,λh0=>?_⟩,?_⟩
  ·have :=(tO (W:=W) (g:=λi=>(T i).1) (c:=λi=>(T i).2) (List.range len) λi E=>(G i E).2.1).length;rw[this]
  ·simp only[aan,List.length_range]at h0⊢;have hcell:∀i,i<len->∀r,r<4->W.cell? ((a.add<|i*4).add r)=(T i).2[r]?:=λi E r hr=>by
    have h4:=(G i<|by simp[E]).2.1.four;have :=(World.cells?_some (G i<|by simp[E]).1).2.2 r (by omega);rw[this]
   have hsome:∃v,W.cell? a=some v:=by
    have h4:=(G 0<|by simp[h0]).2.1.four;have :=hcell 0 h0 0 (by omega);refine⟨(T 0).2[0]'(by omega),?_⟩;rw[List.getElem?_eq_getElem<|by omega]at this;simpa[Addr.add]using this
   obtain⟨vv,Z⟩:=hsome;have hs:a.spot=none:=World.cell?_spot (a:=a) Z;obtain⟨b,off,spot⟩:=a;simp only at hs;subst hs;refine⟨b,off,I,trivial,World.block_lt_of_cell? W ⟨b,off,none⟩ Z,λj hj=>?_⟩;have e:=hcell (j/4) (by omega) (j%4) (by omega);rw[vR,vR,show off+j/4*4+j%4=off+j by omega]at e;have e2:=Cl (c:=λi=>(T i).2) (List.range len) (j/4) (j%4) (λi E=>(G i E).2.1.four) (by omega);rw[show j/4*4+j%4=j by omega]at e2;rw[e,e2];simp[show j/4<len by omega]
  ·have :=yt (g:=λi=>(T i).1) (D:=D) (List.range len) λi E=>(G i E).2.2;omega
end
abbrev rI(W:World):Nat->Prop:=λb=>b<W.heap.size
variable{W:World}
theorem RowIn.live{sz n:Nat}{A:Option Addr}{xs:List Value}(h:RowIn Any W sz A n xs):RowIn (rI W) W sz A n xs:=⟨h.1,λhp=>by obtain⟨b,off,h1,_,E,G⟩:=h.2 hp;exact⟨b,off,h1,E,E,G⟩⟩
mutual
theorem TreeIs.live{W:World}:∀{t:Tree} {c:List Value},TreeIs Any W t c->TreeIs (rI W) W t c
 |.node k s ls ks,c,h=>by simp only[TreeIs]at h⊢;obtain⟨A,m,B,n,h1,h2,h3,h4,h5,h6,cs,h7,h8⟩:=h;exact⟨A,m,B,n,h1,h2,h3,h4,h5,h6.live,cs,KidsAre.live h7,h8.live⟩
theorem KidsAre.live{W:World}:∀{ts:YT} {cs:List Value},KidsAre Any W ts cs->KidsAre (rI W) W ts cs
 |[],cs,h=>by simp only[KidsAre]at h⊢;exact h
 |t::r,cs,h=>by simp only[KidsAre]at h⊢;obtain⟨c,d,h1,h2,h3⟩:=h;exact⟨c,d,h1,TreeIs.live h2,KidsAre.live h3⟩
end
abbrev uz(W:World)(v:V)(x:Value):Prop:=VRel (rI W) W (λ_=>none) v x
theorem So{ts:YT}{cs:List Value}{A:Option Addr}{cap:Nat}(h:KidsAre Any W ts cs)(hr:RowIn Any W 4 A ts.length cs)(E:ts.length<=cap)(G:cap<=maxLen):uz W (.row 4<|kidsV ts) (.slice A ts.length cap):=by simp only[uz,VRel];exact⟨A,cap,cs,by rw[fM],by rw[fM];exact E,G,KidsAre.crel h.live,by rw[fM];exact hr.live⟩
theorem SB{l:YI}{A:Option Addr}{cap:Nat}(E:l.length<=cap)(G:cap<=maxLen)(hr:RowIn Any W 1 A l.length<|l.map λz=>.int .i64 z):uz W (.row 1<|l.map<|V.int .i64) (.slice A l.length cap):=by simp only[uz,VRel];exact⟨A,cap,_,by simp,by simpa using E,G,DD l,by simpa using hr.live⟩
theorem SD(z:Int):uz W (.int .i64 z) (.int .i64 z):=by simp only[uz,VRel]
theorem SC{fid:FuncId}{us:List V}{b:Bool}(h:tI prog fid us<|.bool b)(E:∀p∈Dz,VRel (rI W) W ρ0 (.box p.2 0) (.pointer<|some ⟨p.1,0,none⟩):=by exact λp hp=>nomatch hp){xs:List Value}(hx:LRel (rI W) W (λ_=>none) us xs):Calls prog fid xs.toArray W λe W'=>e=.returned (.bool b)∧Ext W W':=by
 have G:HRel (rI W) W (λ_=>none) (⟨0,[]⟩:Hp).get:=Nq ⟨λ_ h=>h,E⟩;refine(h.2.2 _ W _ xs G hx).mono ?_;rintro e W' ⟨x,S',ρ',v,H',rfl,rfl,h1,h2,O⟩;simp only[VRel]at O;subst O;have J:∀b,¬∃id,own (λ_=>none) id ((⟨0,[]⟩:Hp).get id) b:=λb ⟨id,hb⟩=>by rw[yx]at hb;exact hb
 exact⟨I,Chg.ext ⟨h2.chg.os,h2.chg.tape,h2.chg.output,h2.chg.size,λb hb _=>h2.chg.block b hb<|J b⟩⟩
theorem lr1{u:V}{x:Value}(h:uz W u x):LRel (rI W) W (λ_=>none) [u] [x]:=⟨x,[],rfl,h,rfl⟩
theorem lrc{u:V}{us:List V}{x:Value}{xs:List Value}(h:uz W u x)(k:LRel (rI W) W (λ_=>none) us xs):LRel (rI W) W (λ_=>none) (u::us) (x::xs):=⟨x,xs,rfl,h,k⟩
theorem RR{L:YI}{a:Int}(E:Dc L a):Gt L (λt a'=>pa L a t L a') 500:=by
 obtain⟨r,a1,h1,h2,h3⟩:=fO E (n:=5) (by omega) (by omega);by_cases hr:r=0
 ·obtain⟨s,a2,g1,g2,O⟩:=kI h3 [[84],[85]] (by decide) (by decide);have hs:=jp g2 (by decide);obtain⟨t,U,G,J,q3⟩:=Jf 2 O (by omega);exact⟨_,U,sB 0 _ _ _ _ _ ⟨_,_,_,h1,λ_=>⟨_,_,_,g1,_,_,_,G,I,I,I⟩,λh=>absurd hr h⟩,J,by rw[tb1];omega⟩
 ·obtain⟨s,a2,g1,g2,O⟩:=kI h3 [[102],[103],[104]] (by decide) (by decide);have hs:=jp g2 (by decide);obtain⟨n,U,g4,g5,g6⟩:=fO O (n:=4) (by omega) (by omega);have loop:∀(k:Nat) (a:Int) (l:YT),Dc L a->l.length+k<=100->Gt L (λt a'=>jQ (k+1) s L a l (k:Int) t L a') (s.length+1+kbulk l+k*13+429):=λk=>by
   induction k with
   |zero=>
    intro a l E hl;obtain⟨t1,b1,G,J,q3⟩:=Jf 1 E (by omega);obtain⟨t2,b2,q4,q5,q6⟩:=Qu 3 J (by omega);have :eB 3=422:=rfl;refine⟨_,b2,sa 0 _ _ _ _ _ _ _ _ ⟨λh=>by omega,λ_=>⟨_,_,_,G,_,_,_,q4,by simp;omega,rfl,rfl,rfl⟩⟩,q5,?_⟩;rw[tbK,fT];simp only[kbulk];omega
   |succ k Z=>
    intro a l E hl;obtain⟨x,b0,q0,q0',q0''⟩:=kI E [[120],[121],[122]] (by decide) (by decide);have hx:=jp q0' (by decide);obtain⟨t,b,G,J,q3⟩:=Jf 1 q0'' (by omega);refine(Z b (l++[.node 4 x [] [t]]) J (by simp;omega)).map ?_ λt' a' h=>sa (k+1) _ _ _ _ _ _ _ _ ⟨λ_=>⟨_,_,_,q0,_,_,_,G,by simp;omega,by omega,by rw[show((k+1:Nat):Int)-1=(k:Int) by omega];exact h⟩,λh=>by omega⟩;rw[fT];simp only[kbulk,tb1];omega
  exact(loop n.toNat U [] g6 (by simp;omega)).map (by simp only[kbulk];omega) λt a' h=>sB (n.toNat+1) _ _ _ _ _ ⟨_,_,_,h1,λh=>absurd h hr,λ_=>⟨_,_,_,g1,_,_,_,g4,by rw[show n=((n.toNat:Nat):Int) by omega];exact h⟩⟩
def Sh(l:List YB)(n:Nat):Prop:=l.length=n∧∀x∈l,x.length<=2
theorem Sh.sum:∀{l:List YB} {n:Nat},Sh l n->dr l<=3*n
 |[],n,h=>by simp[dr]
 |x::r,n,h=>by
  obtain⟨h1,h2⟩:=h;have :=h2 x (by simp);have :=Sh.sum (l:=r) (n:=n-1) ⟨by simp at h1;omega,λy hy=>h2 y<|by simp[hy]⟩;simp only[dr];simp at h1;omega
theorem Sh.set{l:List YB}{n:Nat}(h:Sh l n)(hx:x.length<=2):Sh (l.set i x) n:=⟨by simpa using h.1,λy hy=>by
 rcases List.mem_or_eq_of_mem_set hy with h1|h1
 ·exact h.2 y h1
 ·subst h1;exact hx⟩
theorem Sh.get{l:List YB}{n:Nat}(h:Sh l n)(hi:i<n):∃s,l[i]?=some s:=by
 obtain⟨s,hs,_⟩|h':=aQ l i
 ·exact⟨s,hs⟩
 ·have :=h.1;omega
theorem LH(h0:0<=n)(h1:n<=100000000):∃l,lw n l∧Sh l n.toNat:=by
 have loop:∀k i (l:List YB),n.toNat-i<=k->i<=n.toNat->Sh l i->∃r,gi (k+1) n l i r∧Sh r n.toNat:=λk=>by
  induction k with
  |zero=>intro i l hi hle hl;exact⟨l,jI 0 _ _ _ _ ⟨λh=>by omega,λ_=>rfl⟩,by rw[show n.toNat=i by omega];exact hl⟩
  | succ k ihk=>
   intro i l hi hle hl;by_cases h:(i:Int)<n
   ·obtain⟨r,e,hr⟩:=ihk (i+1) (l++[[32]]) (by omega) (by omega) ⟨by simp[hl.1],λx hx=>by
     rcases List.mem_append.1 hx with h1|h1
     ·exact hl.2 x h1
     ·simp at h1;subst h1;simp⟩
    exact⟨r,jI (k+1) _ _ _ _ ⟨λ_=>⟨by simp[hl.1];omega,by omega,e⟩,λh'=>absurd h h'⟩,hr⟩
   ·exact⟨l,jI (k+1) _ _ _ _ ⟨λh'=>absurd h' h,λ_=>I⟩,by rw[show n.toNat=i by omega];exact hl⟩
 obtain⟨r,e,hr⟩:=loop n.toNat 0 [] (by omega) (by omega) ⟨rfl,λx hx=>by cases hx⟩;exact⟨r,vl _ _ _ e,hr⟩
def zq(t:Tree)(i:Int)(first:YB):YB:=if t.kind=1 then[10,10]else if 0<i then[32]else if t.kind=8∨t.kind=22∨t.kind=16∨t.kind=18 then[]else if t.kind=2 then(if(2:Int)<t.kids.length then[]else[32])else if t.kind=17∨t.kind=21 then first else[32]
theorem Mj(t:Tree)(i:Int)(first:YB):li t i first (zq t i first):=by
 refine wg 1 _ _ _ _ ?_
 repeat' first|(refine And.intro (λ_=>?_) λ_=>?_)|(refine va 0 _ _ _ _ ?_)
 all_goals simp_all[zq]
 all_goals (intro h;omega)
theorem IM(t:Tree)(i:Int)(first:YB)(hf:first.length<=2):(zq t i first).length<=2:=by
 unfold zq
 repeat' split
 all_goals first|exact hf|simp
theorem rM(hn:0<=n)(a b c:Nat)(z:Int):f0 n a b c z<=b+n:=by
 unfold f0;repeat' split
 all_goals omega
theorem Pz{k:Int}(hn:0<=n):bT k n<=6+n:=by
 have a1:=rM hn 2 6 2<|-1;have G:=rM hn 0 3 0<|-1;have J:=rM hn 1 2 0<|-1;have O:=rM hn 1 3 0 1;have U:=rM hn 1 2 0 1;have Z:=rM hn 1 0 0 1;have a7:=rM hn 3 3 0 3;have a8:=rM hn 2 4 0 2;have a9:=rM hn 2 1 0 2;have E:=rM hn 0 1 0 0;simp only[bT]
 repeat' first|omega|split
theorem KT(hs:shapeK t=true):(t.kind=1->bT t.kind t.kids.length=3)∧(t.kind=2->6<=bT t.kind t.kids.length)∧(t.kind=4∨t.kind=8∨t.kind=22->bT t.kind t.kids.length=2)∧(t.kind≠17->1<=bT t.kind t.kids.length):=by
 have h:=uH hs;refine⟨λE=>?_,λE=>?_,λE=>?_,λE=>?_⟩
 ·rw[E];simp only[bT];simp
 ·rw[E]at h⊢;simp only[bT,f0]at h⊢;simp at h⊢;repeat' split
  all_goals first|omega|(simp_all;omega)
 ·rcases E with E|E|E<;>(rw[E]at h⊢;simp only[bT,f0]at h⊢;simp at h⊢;repeat' split)<;>first|omega|(simp_all;done)|(simp_all;omega)
 ·have key:∀k n:Int,0<=n->k≠17->0<=bT k n->1<=bT k n:=λk n hn E h=>by
   have q:∀(a b c:Nat) z,1<=b->f0 n a b c z=-1∨1<=f0 n a b c z:=λa b c z hb=>by
    unfold f0;repeat' split
    all_goals omega
   have a1:=q 2 6 2 (-1) (by decide);have J:=q 0 3 0 (-1) (by decide);have O:=q 1 2 0 (-1) (by decide);have U:=q 1 3 0 1 (by decide);have Z:=q 1 2 0 1 (by decide);have a7:=q 3 3 0 3 (by decide);have a8:=q 2 4 0 2 (by decide);have a9:=q 2 1 0 2 (by decide);have G:=q 0 1 0 0 (by decide)
   revert h
   simp only[bT]
   repeat' first|(intro h;omega)|split
  exact key _ _ (by omega) E h
section
variable{t:Tree}{N:Nat}{us:YT}
theorem Oq:∀k i (l:List YB),N-i<=k->Sh l N->∃l',fL (k+1) t l i us (.node t.kind t.text l' us)∧Sh l' N:=λk=>by
 induction k with
 |zero=>intro i l hi hl;exact⟨l,iL 0 _ _ _ _ _ ⟨λh=>by have :=hl.1;omega,λ_=>rfl⟩,hl⟩
 | succ k ihk=>
  intro i l hi hl;by_cases h:i<l.length
  ·obtain⟨s,hs⟩:=hl.get (i:=i) (by have :=hl.1;omega);obtain⟨l',e,h'⟩:=ihk (i+1) (l.set i []) (by omega) (hl.set<|by simp);exact⟨l',iL (k+1) _ _ _ _ _ ⟨λ_=>⟨s,hs,e⟩,λh'=>absurd h h'⟩,h'⟩
  ·exact⟨l,iL (k+1) _ _ _ _ _ ⟨λh'=>absurd h' h,λ_=>I⟩,hl⟩
theorem GJ:∀k i (l:List YB),N-i<=k->Sh l N->∃l',dN (k+1) t l i us (.node t.kind t.text l' us)∧Sh l' N:=λk=>by
 induction k with
 |zero=>intro i l hi hl;exact⟨l,iQ 0 _ _ _ _ _ ⟨λh=>by have :=hl.1;omega,λ_=>rfl⟩,hl⟩
 | succ k ihk=>
  intro i l hi hl;by_cases h:i<l.length
  ·obtain⟨s,hs⟩:=hl.get (i:=i) (by have :=hl.1;omega);obtain⟨l',e,h'⟩:=ihk (i+1) (l.set i []) (by omega) (hl.set<|by simp);exact⟨l',iQ (k+1) _ _ _ _ _ ⟨λ_=>⟨s,hs,e⟩,λh'=>absurd h h'⟩,h'⟩
  ·exact⟨l,iQ (k+1) _ _ _ _ _ ⟨λh'=>absurd h' h,λ_=>I⟩,hl⟩
theorem Ce(hs:shapeK t=true)(hN:N=(bT t.kind t.kids.length).toNat){l:List YB}(E:Sh l N):∃l',dM (N+2) t l us (.node t.kind t.text l' us)∧Sh l' N:=by
 obtain⟨g1,g2,g3,g4⟩:=KT hs;have U:([]:YB).length<=2:=by simp
 by_cases h1:t.kind=1
 ·have :=g1 h1;obtain⟨s,hs⟩:=E.get (i:=2) (by omega);exact⟨_,bG (N+1) _ _ _ _ ⟨λ_=>⟨s,hs,rfl⟩,λh=>absurd h1 h⟩,E.set<|by simp⟩
 by_cases h2:t.kind=2
 ·have :=g2 h2;have l1:=E.set (i:=2) U;have l2:=l1.set (i:=3) U;have l3:=l2.set (i:=4) U;obtain⟨s,hs⟩:=E.get (i:=2) (by omega);obtain⟨s',hs'⟩:=l1.get (i:=3) (by omega);obtain⟨s2,hs2⟩:=l2.get (i:=4) (by omega);obtain⟨l',e,h'⟩:=Oq (t:=t) (us:=us) N 6 _ (by omega) l3;exact⟨l',bG (N+1) _ _ _ _ ⟨λh=>absurd h h1,λ_=>⟨λ_=>⟨s,hs,s',hs',s2,hs2,e⟩,λh=>absurd h2 h⟩⟩,h'⟩
 by_cases J:t.kind=4
 ·have :=g3 (by simp[J]);obtain⟨s,hs⟩:=E.get (i:=1) (by omega);exact⟨_,bG (N+1) _ _ _ _ ⟨λh=>absurd h h1,λ_=>⟨λh=>absurd h h2,λ_=>⟨λ_=>⟨s,hs,I⟩,λh=>absurd J h⟩⟩⟩,E.set U⟩
 by_cases Z:t.kind=8
 ·have :=g3 (by simp[Z]);obtain⟨s,hs⟩:=E.get (i:=1) (by omega);exact⟨_,bG (N+1) _ _ _ _ ⟨λh=>absurd h h1,λ_=>⟨λh=>absurd h h2,λ_=>⟨λh=>absurd h J,λ_=>⟨λ_=>⟨s,hs,I⟩,λh=>absurd Z h⟩⟩⟩⟩,E.set U⟩
 by_cases G:t.kind=22
 ·have :=g3 (by simp[G]);obtain⟨s,hs⟩:=E.get (i:=1) (by omega);exact⟨_,bG (N+1) _ _ _ _ ⟨λh=>absurd h h1,λ_=>⟨λh=>absurd h h2,λ_=>⟨λh=>absurd h J,λ_=>⟨λh=>absurd h Z,λ_=>⟨λ_=>⟨s,hs,I⟩,λh=>absurd G h⟩⟩⟩⟩⟩,E.set U⟩
 by_cases O:t.kind=16
 ·obtain⟨l',e,h'⟩:=GJ (t:=t) (us:=us) N 1 _ (by omega) E;exact⟨l',bG (N+1) _ _ _ _ ⟨λh=>absurd h h1,λ_=>⟨λh=>absurd h h2,λ_=>⟨λh=>absurd h J,λ_=>⟨λh=>absurd h Z,λ_=>⟨λh=>absurd h G,λ_=>⟨λ_=>e,λh=>absurd O h⟩⟩⟩⟩⟩⟩,h'⟩
 by_cases h18:t.kind=18
 ·obtain⟨l',e,h'⟩:=GJ (t:=t) (us:=us) N 1 _ (by omega) E;exact⟨l',bG (N+1) _ _ _ _ ⟨λh=>absurd h h1,λ_=>⟨λh=>absurd h h2,λ_=>⟨λh=>absurd h J,λ_=>⟨λh=>absurd h Z,λ_=>⟨λh=>absurd h G,λ_=>⟨λh=>absurd h O,λ_=>⟨λ_=>e,λh=>absurd h18 h⟩⟩⟩⟩⟩⟩⟩,h'⟩
 ·exact⟨l,bG (N+1) _ _ _ _ ⟨λh=>absurd h h1,λ_=>⟨λh=>absurd h h2,λ_=>⟨λh=>absurd h J,λ_=>⟨λh=>absurd h Z,λ_=>⟨λh=>absurd h G,λ_=>⟨λh=>absurd h O,λ_=>⟨λh=>absurd h h18,λ_=>I⟩⟩⟩⟩⟩⟩⟩,E⟩
end
theorem uE{l:YT}(h:l[i]?=some u):kbulk (l.take<|i+1)=kbulk (l.take i)+tbulk u:=by rw[List.take_add_one,h,fT];simp[kbulk]
theorem JV:∀t:Tree,tbulk t<=1000000->shapeK t=true->∀first,first.length<=2->∃u,fZ t first u∧tbulk u+3<=25*tbulk t∧u.kind=t.kind:=cP λt ih ht hs first hf=>by
 have hk:=cb t;have hbt:=bt t;have h0:=uH hs;have h6:=Pz (k:=t.kind) (n:=(t.kids.length:Int)) (by omega);obtain⟨g1,g2,g3,g4⟩:=KT hs;obtain⟨bl,hbl,hsh⟩:=LH h0 (by omega);have loop:∀k i (done rest:YT),t.kids.length-i<=k->done.length=i->i<=t.kids.length->rest.length=t.kids.length-i->kbulk done+3*i<=25*kbulk (t.kids.take i)->∃M r,dO M t first bl (done++rest) i r∧tbulk r+3<=25*tbulk t∧r.kind=t.kind:=λk=>by
  have last:∀i (done rest:YT),¬i<t.kids.length->done.length=i->i<=t.kids.length->rest.length=t.kids.length-i->kbulk done+3*i<=25*kbulk (t.kids.take i)->∃M r,dO M t first bl (done++rest) i r∧tbulk r+3<=25*tbulk t∧r.kind=t.kind:=λi done rest hi hd hle hr hb=>by
   have hr0:rest=[]:=List.length_eq_zero_iff.1 (by omega);subst hr0;rw[aaz];rw[List.take_of_length_le<|by omega]at hb;have fin:∀l',Sh l' (bT t.kind t.kids.length).toNat->tbulk (.node t.kind t.text l' done)+3<=25*tbulk t∧(Tree.node t.kind t.text l' done).kind=t.kind:=λl' hl'=>by have :=hl'.sum;exact⟨by simp only[tbulk];omega,rfl⟩
   by_cases h17:t.kind=17
   ·obtain⟨l',e,h'⟩:=Ce (us:=done) hs rfl hsh;exact⟨_,_,eZ _ _ _ _ _ _ _ ⟨λh=>absurd h hi,λ_=>⟨λh=>absurd h17 h,λ_=>e⟩⟩,fin l' h'⟩
   ·by_cases h21:t.kind=21
    ·obtain⟨l',e,h'⟩:=Ce (us:=done) hs rfl hsh;exact⟨_,_,eZ _ _ _ _ _ _ _ ⟨λh=>absurd h hi,λ_=>⟨λ_=>⟨λh=>absurd h21 h,λ_=>e⟩,λh=>absurd h h17⟩⟩,fin l' h'⟩
    ·obtain⟨l',e,h'⟩:=Ce (us:=done) hs rfl<|hsh.set (i:=0) hf;have :=g4 h17;obtain⟨s,hs0⟩:=hsh.get (i:=0) (by omega);exact⟨_,_,eZ _ _ _ _ _ _ _ ⟨λh=>absurd h hi,λ_=>⟨λ_=>⟨λ_=>⟨s,hs0,e⟩,λh=>absurd h h21⟩,λh=>absurd h h17⟩⟩,fin l' h'⟩
  induction k with
  |zero=>intro i done rest hi hd hle hr hb;exact last i done rest (by omega) hd hle hr hb
  | succ k ihk=>
   intro i done rest hi hd hle hr hb;obtain⟨u,hu,hul⟩|h':=aQ t.kids i
   ·have hbu:=cm hu;obtain⟨v,hv,hvb,_⟩:=ih i u hu (by omega) (kP hs hu).1 _ (IM t i first hf)
    match rest,hr with
    |z::rest',hr=>
     obtain⟨M,r,e,hb2⟩:=ihk (i+1) (done++[v]) rest' (by omega) (by simp[hd]) (by omega) (by simp at hr;omega) (by rw[uE hu,fT];simp only[kbulk];omega);refine⟨M+1,r,eZ M _ _ _ _ _ _ ⟨λ_=>⟨u,hu,_,Mj t i first,v,hv,z,by simp[<-hd],by omega,?_⟩,λh=>absurd hul h⟩,hb2⟩;have :(done++z::rest').set i v=done++[v]++rest':=by simp[<-hd]
     rw[this];exact e
    |[],hr=>simp at hr;omega
   ·exact last i done rest h' hd hle hr hb
 obtain⟨M,r,e,hb⟩:=loop t.kids.length 0 [] (List.replicate t.kids.length<|.node 0 [] [] []) (by omega) rfl (by omega) (by simp) (by simp[kbulk]);exact⟨r,uZ (M+1) _ _ _ ⟨_,xw (by omega) (by omega),bl,hbl,tT M _ _ _ _ ⟨by omega,by simpa using e⟩⟩,hb⟩
theorem Kf(t:Tree)(ht:tbulk t<=1000000):∃u,ke t u∧tbulk u<=25*tbulk t∧(u.kind=t.kind∨u.kind=0):=by
 have h1:=yz t (by omega);have :=bH t;cases hs:shapeK t with
 |false=>rw[hs]at h1;exact⟨.node 0 [] [] [],oD 0 _ _ ⟨_,h1,λ_=>rfl,λh=>(by cases h)⟩,by rw[tb0];simp;omega,.inr rfl⟩
 |true=>
  rw[hs]at h1;obtain⟨u,G,hb,E⟩:=JV t ht hs [] (by simp);exact⟨u,oD 0 _ _ ⟨_,h1,λh=>(by cases h),λ_=>⟨u,G,rfl⟩⟩,by omega,.inl E⟩
theorem Fq:∀(l:List YB) (i:Nat) (x:YB),dr (l.set i x)<=dr l+x.length
 |[],i,x=>by simp[dr]
 |y::r,0,x=>by simp only[List.set_cons_zero,dr];omega
 |y::r,i+1,x=>by have :=Fq r i x;simp only[List.set_cons_succ,dr];omega
theorem Nn{L:YI}:∀t:Tree,tbulk t<=1000000->∀{a:Int},Dc L a->Gt L (λu a'=>ja L a t u L a'∧u.kind=t.kind) (6*tbulk t):=cP λt ih ht a hd=>by
 have hk:=cb t;have hl:=uB t;have hbt:=bt t;have kids:∀k i (done:YT) (ls:List YB) (a:Int),t.kids.length-i<=k->i<=t.kids.length->done.length=i->kbulk done<=6*kbulk (t.kids.take i)->dr ls<=6*dr t.leads->Dc L a->∃M,Gt L (λu a'=>fe M t L a (done++t.kids.drop i) i ls u L a'∧u.kind=t.kind) (6*tbulk t):=λk=>by
  have last:∀i (done:YT) (ls:List YB) (a:Int),¬i<t.kids.length->i<=t.kids.length->done.length=i->kbulk done<=6*kbulk (t.kids.take i)->dr ls<=6*dr t.leads->Dc L a->∃M,Gt L (λu a'=>fe M t L a (done++t.kids.drop i) i ls u L a'∧u.kind=t.kind) (6*tbulk t):=λi done ls a hi hle hdn hb hls hd=>by
   rw[List.drop_of_length_le (by omega),aaz];rw[List.take_of_length_le<|by omega]at hb;exact⟨1,_,a,⟨qa 0 _ _ _ _ _ _ _ _ _ ⟨λh=>absurd h (by omega),λ_=>⟨rfl,rfl,rfl⟩⟩,rfl⟩,hd,by simp only[tbulk];omega⟩
  induction k with
  |zero=>intro i done ls a hi hle hdn hb hls hd;exact last i done ls a (by omega) hle hdn hb hls hd
  | succ k ihk=>
   intro i done ls a hi hle hdn hb hls hd;obtain⟨u,hu,hul⟩|h':=aQ t.kids i
   ·have hbu:=cm hu;obtain⟨v,a1,⟨q1,_⟩,q2,q3⟩:=ih i u hu (by omega) hd;obtain⟨M,hM⟩:=ihk (i+1) (done++[v]) ls a1 (by omega) (by omega) (by simp[hdn]) (by rw[uE hu,fT];simp only[kbulk];omega) hls q2;have hg:(done++t.kids.drop i)[i]?=some u:=by rw[List.getElem?_append_right (by omega),hdn];simpa using hu
    refine⟨M+1,hM.map (aaf _) λw b ⟨h,hw⟩=>⟨qa M _ _ _ _ _ _ _ _ _ ⟨λ_=>⟨u,hg,_,_,_,q1,u,hg,?_⟩,λh'=>absurd (by simp[hdn];omega) h'⟩,hw⟩⟩;have :(done++t.kids.drop i).set i v=done++[v]++t.kids.drop (i+1):=by rw[bc hu];simp[<-hdn]
    rw[this];exact h
   ·exact last i done ls a h' hle hdn hb hls hd
 have lead:∀k i (ls:List YB) (a:Int),t.leads.length-i<=k->i<=t.leads.length->ls.length=t.leads.length->dr ls<=dr t.leads+5*i->Dc L a->∃M,Gt L (λu a'=>dJ M t L a ls i u L a'∧u.kind=t.kind) (6*tbulk t):=λk=>by
  have hll:=xz t.leads;have last:∀i (ls:List YB) (a:Int),¬i<t.leads.length->i<=t.leads.length->ls.length=t.leads.length->dr ls<=dr t.leads+5*i->Dc L a->∃M,Gt L (λu a'=>dJ M t L a ls i u L a'∧u.kind=t.kind) (6*tbulk t):=λi ls a hi hle hlen hb hd=>by obtain⟨M,hM⟩:=kids t.kids.length 0 [] ls a (by omega) (by omega) rfl (by simp[kbulk]) (by omega) hd;exact⟨M+1,hM.map (aaf _) λw b ⟨h,hw⟩=>⟨lc M _ _ _ _ _ _ _ _ ⟨λh'=>absurd h' (by omega),λ_=>⟨by omega,by simpa using h⟩⟩,hw⟩⟩
  induction k with
  |zero=>intro i ls a hi hle hlen hb hd;exact last i ls a (by omega) hle hlen hb hd
  | succ k ihk=>
   intro i ls a hi hle hlen hb hd;obtain⟨x,hx,hxl⟩|h':=aQ ls i
   ·obtain⟨n,a1,h1,h2,h3⟩:=fO hd (n:=9) (by omega) (by omega);by_cases hn:n=1
    ·obtain⟨s,a2,g1,g2,g3⟩:=kI h3 [[32,35,32,99,10],[32,32],[10,9],[35,10]] (by decide) (by decide);have hs5:=jp g2 (by decide);have :=Fq ls i s;obtain⟨M,hM⟩:=ihk (i+1) (ls.set i s) a2 (by omega) (by omega) (by simpa using hlen) (by omega) g3;exact⟨M+1,hM.map (aaf _) λw b ⟨h,hw⟩=>⟨lc M _ _ _ _ _ _ _ _ ⟨λ_=>⟨_,_,_,h1,λ_=>⟨_,_,_,g1,x,hx,h⟩,λh'=>absurd hn h'⟩,λh'=>absurd hxl h'⟩,hw⟩⟩
    ·obtain⟨M,hM⟩:=ihk (i+1) ls a1 (by omega) (by omega) hlen (by omega) h3;exact⟨M+1,hM.map (aaf _) λw b ⟨h,hw⟩=>⟨lc M _ _ _ _ _ _ _ _ ⟨λ_=>⟨_,_,_,h1,λh'=>absurd h' hn,λ_=>h⟩,λh'=>absurd hxl h'⟩,hw⟩⟩
   ·exact last i ls a (by omega) hle hlen hb hd
 obtain⟨M,hM⟩:=lead t.leads.length 0 t.leads a (by omega) (by omega) rfl (by omega) hd;exact hM.map (aaf _) λw b ⟨h,hw⟩=>⟨xY M _ _ _ _ _ _ ⟨by omega,h⟩,hw⟩
theorem Nk{L:YI}{a:Int}(E:Dc L a)(name:YB)(hname:name.length<=5):Gt L (λt a'=>mc L a name t L a'∧(t.kind=1∨t.kind=0)) 300000:=by
 obtain⟨n,a1,h1,h2,h3⟩:=fO E (n:=4) (by omega) (by omega);have loop:∀(k:Nat) (a:Int) (l:YT),Dc L a->l.length+k<=100->kbulk l+k*500<=1500->Gt L (λt a'=>gK (k+1) name L a l (k:Int) t L a'∧(t.kind=1∨t.kind=0)) 300000:=λk=>by
  induction k with
  |zero=>
   intro a l E hl hb;have ht:tbulk (.node 1 name [] l)<=1506:=by rw[tbK];omega
   obtain⟨u,U,hub,G⟩:=Kf (.node 1 name [] l) (by omega);obtain⟨z,a2,g1,g2,Z⟩:=fO E (n:=2) (by omega) (by omega);by_cases hz:z=0
   ·exact(Nn u (by omega) Z).map (by omega) λw b ⟨h,J⟩=>⟨kL 0 _ _ _ _ _ _ _ _ ⟨λh'=>by omega,λ_=>⟨u,U,_,_,_,g1,λ_=>⟨_,_,_,h,I,I,I⟩,λh'=>absurd hz h'⟩⟩,by rw[J];exact G⟩
   ·exact⟨u,a2,⟨kL 0 _ _ _ _ _ _ _ _ ⟨λh'=>by omega,λ_=>⟨u,U,_,_,_,g1,λh'=>absurd h' hz,λ_=>⟨I,I,I⟩⟩⟩,G⟩,Z,by omega⟩
  |succ k O=>
   intro a l E hl hb;obtain⟨t,b,q1,q2,q3⟩:=RR E;exact(O b (l++[t]) q2 (by simp;omega) (by rw[fT];simp only[kbulk];omega)).map (aaf _) λw c ⟨h,J⟩=>⟨kL (k+1) _ _ _ _ _ _ _ _ ⟨λ_=>⟨_,_,_,q1,by simp;omega,by omega,by rw[show((k+1:Nat):Int)-1=(k:Int) by omega];exact h⟩,λh=>by omega⟩,J⟩
 exact(loop n.toNat a1 [] h3 (by simp;omega) (by simp only[kbulk];omega)).map (aaf _) λw b ⟨h,J⟩=>⟨wV (n.toNat+1) _ _ _ _ _ _ ⟨_,_,_,h1,by rw[show n=((n.toNat:Nat):Int) by omega];exact h⟩,J⟩
def Mok(p:YT):Prop:=∀t∈p,t.kind=1∧Vld t
theorem AM(l:YI)(hl:l.length<=1000000):∃p,ew l p∧kbulk p<=1000000∧Mok p∧p.length<=3:=by
 have hd0:Dc l 0:=⟨by omega,by omega,by omega⟩;obtain⟨n,a1,h1,h2,h3⟩:=fO hd0 (n:=4) (by omega) (by omega);have loop:∀(k:Nat) (a:Int) (p:List Tree),Dc l a->p.length+k<=3->kbulk p+k*300001<=900003->Mok p->∃r,bA (k+1) l a p (k:Int) r∧kbulk r<=900003∧Mok r∧r.length<=3:=λk=>by
  induction k with
  |zero=>intro a p hd hp hb hmk;exact⟨p,ju 0 _ _ _ _ _ ⟨λh=>by omega,λ_=>rfl⟩,by omega,hmk,by omega⟩
  | succ k ihk=>
   intro a p hd hp hb hmk;have hb2:kbulk p+k*300001+300001<=900003:=aap (Nat.le_of_eq (by rw[Nat.succ_mul,aau])) hb;have hb3:kbulk p+k*300001<=900003:=aap (Nat.le_add_right _ _) hb2;obtain⟨x,hx,_⟩|h':=aQ [[(65:UInt8)],[66],[67]] p.length
   rotate_left
   ·simp at h';omega
   have hx5:x.length<=5:=jp (List.mem_of_getElem? hx) (by decide);obtain⟨t,a2,⟨q1,qk⟩,q2,q3⟩:=Nk hd x hx5;obtain⟨z,a3,g1,g2,g3⟩:=fO q2 (n:=8) (by omega) (by omega);have step:∀u:Tree,tbulk u<=300001->(u.kind=1∨u.kind=0)->∃b r,bV u b∧((b=true)->(p++[u]).length<=1000000000∧InI (((k+1:Nat):Int)-1)∧bA (k+1) l a3 (p++[u]) (((k+1:Nat):Int)-1) r)∧((b=false)->InI (((k+1:Nat):Int)-1)∧bA (k+1) l a3 p (((k+1:Nat):Int)-1) r)∧kbulk r<=900003∧Mok r∧r.length<=3:=λu hu huk=>by
    obtain⟨b,hb',hbs⟩:=Fc u (by omega);have e:((k+1:Nat):Int)-1=(k:Int):=by omega
    rw[e];cases b with
    | true=>
     have hus:=hbs.1 rfl;have hu1:u.kind=1:=by
      rcases huk with h|h
      ·exact h
      ·have :=uH hus.shape;rw[h]at this;simp[bT]at this
     obtain⟨r,hr,hrb⟩:=ihk a3 (p++[u]) g3 (by simp;omega) (by clear hb;rw[fT];simp only[kbulk];omega) (λt ht=>by
      rcases List.mem_append.1 ht with h|h
      ·exact hmk t h
      ·rw[List.mem_singleton]at h;subst h;exact⟨hu1,hus⟩)
     exact⟨true,r,hb',λ_=>⟨by simp;omega,by omega,hr⟩,λh=>(by cases h),hrb⟩
    |false=>
     obtain⟨r,hr,hrb⟩:=ihk a3 p g3 (by omega) hb3 hmk;exact⟨false,r,hb',λh=>(by cases h),λ_=>⟨by omega,hr⟩,hrb⟩
   by_cases hz:z=7
   ·have hub:tbulk (.node t.kind [65] t.leads t.kids)<=300001:=by have :=bt t;simp only[tbulk,aad,aae];omega
    obtain⟨b,r,e1,e2,e3,e4⟩:=step _ hub qk;exact⟨r,ju (k+1) _ _ _ _ _ ⟨λ_=>⟨x,hx,_,_,_,q1,_,_,_,g1,λ_=>⟨b,e1,e2,e3⟩,λh=>absurd hz h⟩,λh=>by omega⟩,e4⟩
   ·obtain⟨b,r,e1,e2,e3,e4⟩:=step t (by omega) qk;exact⟨r,ju (k+1) _ _ _ _ _ ⟨λ_=>⟨x,hx,_,_,_,q1,_,_,_,g1,λh=>absurd h hz,λ_=>⟨b,e1,e2,e3⟩⟩,λh=>by omega⟩,e4⟩
 obtain⟨r,hr,hrb,hrm⟩:=loop n.toNat a1 [] h3 (by simp;omega) (by simp only[kbulk];omega) (λt h=>by cases h);exact⟨r,vQ (n.toNat+1) _ _ ⟨_,_,yK 0 _ _ _ ⟨by omega,I,I⟩,_,_,_,h1,by rw[show n=((n.toNat:Nat):Int) by omega];exact hr⟩,by omega,hrm⟩
theorem JD(l:YI)(E:l.length<=1000000):∃p,ew l p∧kbulk p<=1000000:=by obtain⟨p,h1,h2,_⟩:=AM l E;exact⟨p,h1,h2⟩
theorem EH:∀{l:YT} {i:Nat} {u:Tree},limKs l=true->l[i]?=some u->limK u=true
 |[],i,u,_,h=>by simp at h
 |t::r,0,u,h,E=>by simp only[List.getElem?_cons_zero,aab]at E;subst E;simp only[limKs,aaa]at h;exact h.1
 |t::r,i+1,u,h,E=>by simp only[limKs,aaa]at h;exact EH h.2 (by simpa using E)
theorem Lb:∀(q:YI) (t u:Tree),limK t=true->atK t q=some u->limK u=true
 |[],t,u,h,hq=>by simp only[atK,aab]at hq;subst hq;exact h
 |i::q,t,u,h,hq=>by
  simp only[atK]at hq;split at hq
  ·cases hq
  split at hq
  ·cases hq
  rename_i y hy;rw[za]at h;simp only[aaa]at h;exact Lb q y u (EH h.2 hy) hq
theorem LZ(hs:shapeK u=true)(E:limK u=true):u.kids.length<=400:=by
 rw[ee]at hs;simp only[aaa,aat]at hs;have h1:=hs.1.1;rw[za]at E;simp only[aaa,aat]at E;obtain⟨⟨a,b,c,d⟩,_⟩:=E;by_cases k1:u.kind=1
 ·have :=a k1;omega
 by_cases G:u.kind=2
 ·have :=b G;omega
 by_cases J:u.kind=16
 ·have :=c J;omega
 by_cases O:u.kind=18
 ·have :=d O;omega
 simp only[bT,f0]at h1
 repeat' split at h1
 all_goals omega
theorem Cj(h:okP iP p=true):Few p:=λm t u q ht hq=>by
 simp only[okP,aaa,List.all_eq_true,aaq]at h;have hv:=(lj t).1 (h.2 t (List.mem_of_getElem? ht)).2;exact LZ (rD q t u hv.shape hq)<|Lb q t u hv.lim hq
theorem uk(l:YI):jl l (decide<|((l.length:Nat):Int)<=120):=yd 0 _ _<|rfl
theorem Lq(l:YI)(b:Int):jO l b true:=by
 by_cases E:((l.length:Nat):Int)<=120
 rotate_left
 ·exact jj 0 _ _ _<|⟨_,uk l,λ_=>⟨_,Cs,I⟩,λh=>absurd (of_decide_eq_true h) E⟩
 obtain⟨p,hp,hb⟩:=JD l (by omega);obtain⟨k1,G⟩:=wl (p:=p) b (by omega) Cj;exact jj 0 _ _ _ (⟨_,uk l,λh=>absurd E<|of_decide_eq_false h,λ_=>⟨p,hp,_,_,_,k1,_,_,_,G,_,Cs,λ_=>⟨λ_=>⟨λ_=>⟨_,Fy _,rfl⟩,λh=>absurd rfl h⟩,λh=>absurd rfl h⟩,λh=>(by cases h)⟩⟩)
open Go.RowKit Go.ChangeShapes Go.WideShapes Go.Deep
theorem Ki:prog.cellsOf 3=1:=by kernel_rfl
theorem Ra{H:Type}{enc:TypeId×Value->H}{a0:Option Addr}{len cap:Nat}{d:DataW H}{p:List MemPlace}(h:DataW.Trod enc prog W 0 (λ_=>true) true 36 (.slice a0 len cap) d p):
  ∃zs:YI,len=zs.length∧len<=cap∧cap<=maxLen∧RowIn Any W 1 a0 zs.length (zs.map λz=>.int .i64 z):=by
 obtain⟨fuel,hf⟩:=h;rcases open_ints underlying36 underlying3 Ki hf with⟨E,hx⟩|⟨a,len',cap',zs,E,hb,Z,hm,G,hx,hcell,hwf⟩
 ·simp[Value.cells]at E;obtain⟨rfl,rfl,rfl⟩:=E;exact⟨[],I,aaf _,aar _,RowIn.none_⟩
 ·simp[Value.cells]at E;obtain⟨rfl,rfl,rfl⟩:=E;simp only[if_true]at G;have J:(zs.take len).length=len:=by simp;omega
  refine⟨zs.take len,J.symm,Z,hm,by simp,λh0=>?_⟩;rw[J]at h0⊢;have hs:a.spot=none:=World.cell?_spot (a:=a) (by have :=hcell 0 (by omega);simpa[Addr.add]using this);obtain⟨b,off,spot⟩:=a;simp only at hs;subst hs;have O:∀k,(⟨b,off,none⟩:Addr).add k=⟨b,off+k,none⟩:=λk=>by unfold Addr.add;split<;>simp_all
  refine⟨b,off,I,trivial,?_,λj hj=>?_⟩
  ·have :=hcell 0 (by omega);exact World.block_lt_of_cell? W ⟨b,off,none⟩ (by simpa[Addr.add]using this)
  ·have U:j<len:=by omega
   have :=hcell j (by omega);rw[O]at this;rw[this];simp[U,List.getD_eq_getElem?_getD,show j<zs.length from by omega]
def shR(D r:Int):Int:=if r=0 then 0 else r+D
def shV(D:Int)(v:ak):ak:=⟨v.N,v.Flag,v.Text,shR D v.Ref⟩
def shC(D:Int)(c:ai):ai:=⟨c.Id+D,c.Field,shV D c.V_⟩
variable{m:Nat}{q:YI}
section
variable{b D:Int}{p:YT}(hB:fx b=true)(hB':fx (b+D)=true)(hn:(bM b (nNs p:Nat)).2=0)(hn':(bM (b+D) (nNs p:Nat)).2=0)(hD:0<=D)
include hB hB' hn hn' hD
theorem Jb(ht:p[m]?=some t)(hq:atK t q=some u):idK (b+D) p m (ay t q)=idK b p m (ay t q)+D∧0<idK b p m (ay t q):=by
 have _:=hD
 have h1:=ni q t u hq;have h2:=hW ht;have E:=AT u;have hb:1048576<=b∧b<34603008:=by simpa[fx]using hB
 rw[idK,idK,uw hB' (by omega) (by omega) hn',uw hB (by omega) (by omega) hn];exact⟨by simp only;omega,by simp only;omega⟩
theorem Qm(ht:p[m]?=some t)(hq:atK t q=some u):fS (b+D) p m t q=shV D (fS b p m t q):=by
 rcases List.eq_nil_or_concat q with rfl|⟨r,i,rfl⟩
 ·simp[fS,shV,shR]
 ·rw[List.concat_eq_append]at hq⊢;obtain⟨w,c,rfl,J,U⟩:=pk hq;have el:(r++[(c:Int)]).length-1=r.length:=by simp
  have et:(r++[(c:Int)]).take r.length=r:=by simp
  obtain⟨O,Z⟩:=Jb hB hB' hn hn' hD ht J;have G:shR D (idK b p m<|ay t r)=idK b p m (ay t r)+D:=by rw[shR,if_neg<|by omega]
  have E:¬(r++[(c:Int)]=[]):=by simp
  rw[fS,fS,if_neg E,if_neg E,el,et,O];split
  ·simp only[shV,G]
  ·simp only[shV,G]
theorem PB(hp:dn p=true)(ht:p[m]?=some t)(hq:atK t q=some u):fQ (b+D) p m t q=shV D (fQ b p m t q):=by
 unfold fQ;cases h:usK p m t q with
 |none=>simp[shV,shR]
 |some v=>
  obtain⟨j,t',w,r,a1,E,G,J⟩:=Ep hp ht hq h;obtain⟨O,U⟩:=Jb hB hB' hn hn' hD G J;simp only[a1,E,Int.toNat_natCast,shV,shR];rw[O,if_neg<|by omega]
omit hB hB' hn hn' hD in
theorem Nv(i:Int):∀(k:Nat) (l:List YB),ldK (i+D) k l=(ldK i k l).map (shC D)
 |_,[]=>rfl
 |k,s::r=>by simp only[ldK,aah,Nv i (k+1) r,shC,shV,shR,if_pos]
theorem Qo(hp:dn p=true)(ht:p[m]?=some t)(hq:atK t q=some u):lf (b+D) p m t q=(lf b p m t q).map (shC D):=by
 obtain⟨E,G⟩:=Jb hB hB' hn hn' hD ht hq;rw[lf,lf,E,Qm hB hB' hn hn' hD ht hq,PB hB hB' hn hn' hD hp ht hq,Nv];simp only[aao,aah,aav]
 congr 1
 congr 1
 split<;>simp[shC,shV,shR]
theorem OP(hp:dn p=true):∀k i,k+i=p.length->eF (b+D) p i (p.drop i)=(eF b p i<|p.drop i).map (shC D):=λk=>by
 induction k with
 |zero=>intro i hi;rw[List.drop_of_length_le<|by omega];rfl
 | succ k ih=>
  intro i hi;obtain⟨t,ht⟩:∃t,p[i]?=some t:=⟨_,List.getElem?_eq_getElem (by omega)⟩;have hN:∀l:List (YI×Tree),(∀x∈l,atK t x.1=some x.2)->pS (b+D) p i t l=(pS b p i t l).map (shC D):=λl=>by
   induction l with
   |nil=>intro _;rfl
   |cons x l ihl=>
    intro h;rw[pS,pS,aao,ihl (λy hy=>h y<|by simp[hy]),Qo hB hB' hn hn' hD hp ht<|h x<|by simp]
  rw[bq ht,eF,eF,aao,ih (i+1) (by omega),hN _<|nodK_at t t [] rfl]
end
theorem Qf{D:Int}{v:ak}(h:0<=v.Ref)(hD:0<=D):pd (shV D v)=pd v:=by
 unfold pd shV shR
 congr 1;apply propext
 simp only;constructor
 ·rintro⟨a,b,c,d⟩;refine⟨a,b,c,?_⟩;split at d
  ·assumption
  ·omega
 ·rintro⟨a,b,c,d⟩;exact⟨a,b,c,by rw[if_pos d]⟩
def zu(l:List ai):Prop:=∀c∈l,0<=c.V_.Ref∧c.V_.Ref<=100000000∧0<=c.Id∧c.Id<=100000000
theorem KK{D:Int}(hD:0<=D):∀{l:List ai},zu l->nzF (l.map<|shC D)=(nzF l).map (shC D)
 |[],_=>rfl
 |c::l,h=>by
  have h1:=h c (by simp);have ih:=KK hD (l:=l) (λx hx=>h x<|by simp[hx]);have e:pd (shC D c).V_=pd c.V_:=Qf h1.1 hD;unfold nzF at ih⊢;rw[aah,List.filter_cons,List.filter_cons,e,ih];split<;>rfl
variable{b:Int}
theorem QJ{n:Nat}:0<=idK b p m n∧idK b p m n<=100000000∨fx b=true:=by
 cases h:fx b with
 |true=>exact .inr rfl
 |false=>left;rw[idK,bM,if_neg (by rw[h];simp)];simp only;omega
theorem Fb(hb:kbulk p<=10000000)(m n:Nat)(hn:n<=10000000):0<=idK b p m n∧idK b p m n<=100000000:=by
 rcases QJ (b:=b) (p:=p) (m:=m) (n:=n)with h|h
 ·exact h
 ·have E:1048576<=b∧b<34603008:=by simpa[fx]using h
  have h1:=lM p m;have h2:=nNs_bulk p;rw[idK,bM,if_pos ⟨h,by omega⟩];split
  ·simp
  ·rw[if_neg<|by omega];simp only;omega
theorem Nm(hb:kbulk p<=10000000)(hp:dn p=true)(ht:p[m]?=some t)(hq:atK t q=some u):zu (lf b p m t q):=λc E=>by
 have small:∀{m:Nat} {t u:Tree} {q:YI},p[m]?=some t->atK t q=some u->ay t q<=10000000:=λ{m t u q} h1 h2=>by have a:=ni q t u h2;have b:=nN_bulk t;have c:=bX h1;omega
 have hid:=Fb (b:=b) hb m (ay t q)<|small ht hq;have O:∀(k:Nat) (l:List YB),∀c∈ldK (idK b p m<|ay t q) k l,0<=c.V_.Ref∧c.V_.Ref<=100000000∧0<=c.Id∧c.Id<=100000000:=λk l=>by
  induction l generalizing k with
  |nil=>intro c E;cases E
  |cons s r ih=>
   intro c E;simp only[ldK,aak]at E;rcases E with rfl|E
   ·exact⟨by simp,by simp,hid.1,hid.2⟩
   ·exact ih _ c E
 have G:0<=(fS b p m t q).Ref∧(fS b p m t q).Ref<=100000000:=by
  rcases List.eq_nil_or_concat q with rfl|⟨r,i,rfl⟩
  ·simp[fS]
  ·rw[List.concat_eq_append]at hq⊢;obtain⟨w,d,rfl,U,_⟩:=pk hq;have el:(r++[(d:Int)]).length-1=r.length:=by simp
   have et:(r++[(d:Int)]).take r.length=r:=by simp
   have :=Fb (b:=b) hb m (ay t r)<|small ht U;rw[fS,if_neg (by simp),el,et];split<;>exact this
 have J:0<=(fQ b p m t q).Ref∧(fQ b p m t q).Ref<=100000000:=by
  unfold fQ;cases h:usK p m t q with
  |none=>simp
  |some v=>
   obtain⟨j,t',w,r,a1,Z,a3,a4⟩:=Ep hp ht hq h;simp only[a1,Z,Int.toNat_natCast];exact Fb hb j (ay t' r)<|small a3 a4
 unfold lf at E;simp only[aal,List.mem_singleton]at E;rcases E with((rfl|rfl)|rfl)|E
 ·exact⟨by simp,by simp,hid.1,hid.2⟩
 ·exact⟨G.1,G.2,hid.1,hid.2⟩
 ·split
  ·exact⟨J.1,J.2,hid.1,hid.2⟩
  ·exact⟨by simp,by simp,hid.1,hid.2⟩
 ·exact O _ _ c E
theorem Lt(hb:kbulk p<=10000000)(hp:dn p=true):∀k i,k+i=p.length->zu (eF b p i<|p.drop i):=λk=>by
 induction k with
 |zero=>intro i hi;rw[List.drop_of_length_le<|by omega];intro c hc;cases hc
 | succ k ih=>
  intro i hi;obtain⟨t,ht⟩:∃t,p[i]?=some t:=⟨_,List.getElem?_eq_getElem (by omega)⟩;have hN:∀l:List (YI×Tree),(∀x∈l,atK t x.1=some x.2)->zu (pS b p i t l):=λl=>by
   induction l with
   |nil=>intro _ c hc;cases hc
   |cons x l ihl=>
    intro h c hc;rw[pS]at hc;rcases List.mem_append.1 hc with hc|hc
    ·exact Nm hb hp ht (h x<|by simp) c hc
    ·exact ihl (λy hy=>h y<|by simp[hy]) c hc
  rw[bq ht,eF];intro c hc;rcases List.mem_append.1 hc with hc|hc
  ·exact hN _ (nodK_at t t [] I) c hc
  ·exact ih (i+1) (by omega) c hc
theorem IG{D:Int}(hD0:0<=D)(hD1:D<=100000000){n3:Int}(e:4194304+n3=D){l:List ai}(hb:zu l):∃M,bY M n3 ⟨l⟩ ⟨l.map<|shC D⟩ 0 true:=by
 have loop:∀k i,k+i=l.length->bY (k+1) n3 ⟨l⟩ ⟨l.map<|shC D⟩ i true:=λk=>by
  induction k with
  |zero=>intro i hi;exact kA 0 _ _ _ _ _ (⟨λh=>absurd (show i<l.length from h) (by omega),λ_=>⟨_,Cs,rfl⟩⟩)
  | succ k ih=>
   intro i hi;obtain⟨x,hx⟩:∃x,l[i]?=some x:=⟨_,List.getElem?_eq_getElem (by omega)⟩;obtain⟨b1,b2,b3,b4⟩:=hb x (List.mem_of_getElem? hx);have hy:(l.map (shC D))[i]?=some (shC D x):=by rw[List.getElem?_map,hx];rfl
   refine kA (k+1) _ _ _ _ _ (⟨λ_=>⟨x,hx,by rw[e];constructor<;>omega,λh0=>?_,λh0=>?_⟩,λh=>absurd (show i<l.length by omega) h⟩)
   ·have eq:(x.Id+(4194304+n3))=(shC D x).Id∧x.Field=(shC D x).Field∧x.V_.N=(shC D x).V_.N∧x.V_.Flag=(shC D x).V_.Flag∧x.V_.Text=(shC D x).V_.Text∧(x.V_.Ref+(4194304+n3))=(shC D x).V_.Ref:=by
     rw[e];simp[shC,shV,shR,h0]
    exact⟨by rw[e];constructor<;>omega,_,hy,λh=>absurd eq h,λ_=>ih (i+1)<|by omega⟩
   ·have eq:(x.Id+(4194304+n3))=(shC D x).Id∧x.Field=(shC D x).Field∧x.V_.N=(shC D x).V_.N∧x.V_.Flag=(shC D x).V_.Flag∧x.V_.Text=(shC D x).V_.Text∧x.V_.Ref=(shC D x).V_.Ref:=by
     rw[e];simp[shC,shV,shR,h0]
    exact⟨_,hy,λh=>absurd eq h,λ_=>ih (i+1)<|by omega⟩
 exact⟨_,loop l.length 0<|by omega⟩
theorem Oc(l:YI)(a:Int):lF l a true:=by
 by_cases hl:((l.length:Nat):Int)<=120
 rotate_left
 ·exact kO 0 _ _ _<|⟨_,uk l,λ_=>⟨_,Cs,I⟩,λh=>absurd (of_decide_eq_true h) hl⟩
 obtain⟨p,hp,hb,J,U⟩:=AM l (by omega);obtain⟨d,hd,d0,d1⟩:=NH (a:=a) (n:=1000) (by omega) (by omega);have E:okP iP p=true:=by simp only[okP,aaa,aat,List.all_eq_true,aaq];exact⟨by omega,λt ht=>⟨(J t ht).1,(lj t).2 (J t ht).2⟩⟩
 have hprog:dn p=true:=by
  clear E hp hb U
  induction p with
  |nil=>rfl
  |cons t r ih=>
   obtain⟨a1,a2⟩:=J t (by simp);simp only[dn,a1,a2.shape,ih λx hx=>J x<|by simp[hx]];rfl
 have hnb:=nNs_bulk p;have hB:fx 1048576=true:=by decide
 have hB':fx (1048576+(4194304+d))=true:=by simp only[fx,aat];omega
 have k1:=(wl (p:=p) 1048576 (by omega) Cj).1;have k2:=(wl (p:=p) (5242880+d) (by omega) Cj).1;have e5:5242880+d=1048576+(4194304+d):=by omega
 obtain⟨cs,Z,G⟩:∃cs,(∃r1,ba iP 1048576 p=(⟨cs⟩,r1,0))∧zu cs∧∃r2,ba iP (5242880+d) p=(⟨cs.map (shC (4194304+d))⟩,r2,0):=by
  by_cases O:nNs p=0
  ·refine⟨[],⟨1048576,?_⟩,λc hc=>(by cases hc),5242880+d,?_⟩
   ·rw[ba,if_pos ⟨E,hB⟩,if_pos O]
   ·rw[ba,if_pos ⟨E,by rw[e5];exact hB'⟩,if_pos O];rfl
  ·have n1:(bM 1048576 (nNs p:Nat)).2=0:=by
    rw[bM,if_pos ⟨hB,by omega⟩,if_neg (by omega),if_neg<|by omega]
   have n2:(bM (1048576+(4194304+d)) (nNs p:Nat)).2=0:=by
    rw[bM,if_pos ⟨hB',by omega⟩,if_neg (by omega),if_neg<|by omega]
   have hP:=OP hB hB' n1 n2 (by omega) hprog p.length 0 (by omega);have hC:=Lt (b:=1048576) (p:=p) (by omega) hprog p.length 0 (by omega);rw[List.drop_zero]at hP hC;refine⟨nzF<|eF 1048576 p 0 p,⟨_,by rw[ba,if_pos ⟨E,hB⟩,if_neg O,if_neg (by rw[n1];simp)]⟩,λc hc=>hC c (List.mem_filter.1 hc).1,(bM (1048576+(4194304+d)) (nNs p:Nat)).1,?_⟩;rw[e5,ba,if_pos ⟨E,hB'⟩,if_neg O,if_neg (by rw[n2];simp),hP,KK (by omega) hC]
 obtain⟨r1,h1⟩:=Z;obtain⟨G,r2,h2⟩:=G;rw[h1]at k1;rw[h2]at k2;obtain⟨M,hM⟩:=IG (D:=4194304+d) (by omega) (by omega) (n3:=d) rfl G;exact kO M _ _ _ (⟨_,uk l,λh=>absurd hl<|of_decide_eq_false h,λ_=>⟨d,hd,p,hp,_,_,_,k1,by constructor<;>omega,_,_,_,k2,λh=>absurd rfl h,λ_=>⟨λh=>absurd rfl h,λ_=>⟨λh=>absurd (by simp) h,λ_=>⟨by constructor<;>omega,hM⟩⟩⟩⟩⟩)
end Go.Proofs.YtehhanlhfdoiaaaGreat
