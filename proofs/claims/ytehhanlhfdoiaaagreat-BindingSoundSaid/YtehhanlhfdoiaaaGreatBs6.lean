/- Contracts of the functions that the law reaches, part 6. -/
import Derived.Test.YtehhanlhfdoiaaaGreatBs5
set_option linter.unusedVariables false
set_option linter.unusedSimpArgs false
namespace Go.Proofs.YtehhanlhfdoiaaaGreat
open _root_.Go.Proofs.Tryz
open Go.RowKit
def dN(R:YN)(l:List<|Nat×Ob):List (Nat×Ob):=l.filter λp=>kl p.1 R
def ung:Ob->Ob
 |.free=>.gone
 |o=>o
def eY(nx:Nat)(R:YN)(l:List<|Nat×Ob):List (Nat×Ob):=(l.filter λp=>!kl p.1 R&&Nat.blt p.1 nx).map λp=>(p.1,ung p.2)
theorem wu{α:Type}{R:YN}:∀(l:List<|Nat×Ob) (c:List (Nat×Ob)->α),zj R l c=c (dN R l)
 |[],c=>rfl
 |(i,o)::r,c=>by
  simp only[zj];cases h:kl i R
  ·simp only;rw[wu r];simp[dN,h]
  ·simp only;rw[wu r];simp[dN,h]
theorem wP{α:Type}{nx:Nat}{R:YN}:∀(l:List<|Nat×Ob) (c:List (Nat×Ob)->α),xg nx R l c=c (eY nx R l)
 |[],c=>rfl
 |(i,o)::r,c=>by
  simp only[xg];cases h:(!kl i R&&Nat.blt i nx)
  ·simp only;rw[wP r];simp only[eY,List.filter_cons,h];rfl
  ·cases o<;>(simp only;rw[wP r];simp only[eY,List.filter_cons,h];rfl)
theorem uy{R:YN}{i:Nat}:∀{l:List<|Nat×Ob},aA (dN R l) i=aA l i∨(kl i R=false∧aA (dN R l) i=.gone)
 |[]=>.inl rfl
 | (j, o)::r=>by
  by_cases hj:j=i
  ·subst hj;cases h:kl j R
   ·right;refine⟨I,?_⟩;have ih:=uy (R:=R) (i:=j) (l:=r);simp only[dN,List.filter_cons,h]at ih⊢;simp only[aaD,if_false];clear ih;have key:∀(l:List<|Nat×Ob),aA (l.filter λp=>kl p.1 R) j=.gone:=by
     intro l
     induction l with
     |nil=>rfl
     | cons q t ih=>
      obtain⟨k,o'⟩:=q;simp only[List.filter_cons];split
      ·rename_i hk;have :k≠j:=λe=>by subst e;simp[h]at hk
       simp only[aA,nbF this];exact ih
      ·exact ih
    exact key r
   ·left;simp only[dN,List.filter_cons,h,if_true,aA,nbT]
  ·have ih:=uy (R:=R) (i:=i) (l:=r);simp only[dN,List.filter_cons];split
   ·simp only[aA,nbF hj];exact ih
   ·simp only[aA,nbF hj];exact ih
variable{i:Nat}
theorem Dp{R:YN}(h:kl i R=false)(l:List<|Nat×Ob):aA (dN R l) i=.gone:=by
 induction l with
 |nil=>rfl
 | cons q t ih=>
  obtain⟨k,o'⟩:=q;simp only[dN,List.filter_cons];split
  ·rename_i hk;have :k≠i:=λe=>by subst e;simp[h]at hk
   simp only[aA,nbF this];exact ih
  ·exact ih
theorem Kx{nx:Nat}{R:YN}(l:List<|Nat×Ob):aA (eY nx R l) i=if(!kl i R&&Nat.blt i nx)=true then ung (aA l i)else .gone:=by
 induction l with
 |nil=>simp[eY,aA,ung]
 | cons q t ih=>
  obtain⟨k,o⟩:=q;by_cases hk:k=i
  ·subst hk;cases h:(!kl k R&&Nat.blt k nx)
   ·rw[h]at ih;simp only[eY,List.filter_cons,h,aaD,if_false]at ih⊢;exact ih
   ·simp only[eY,List.filter_cons,h,if_true,aah,aA,nbT]
  ·have e:aA ((k,o)::t) i=aA t i:=by simp only[aA,nbF hk]
   rw[e,<-ih];simp only[eY,List.filter_cons];split
   ·simp only[aah,aA,nbF hk]
   ·rfl
variable{S:Nat->Prop}{ρ:Nat->Option Value}
variable{k:Nat}{xs:List Value}
section
variable{P:Program}{T:Tab}{K:Ctx}{Q:Exit->Act->World->Prop}{s:List EI}{n:Nat}{F:Fm}{H:Hp}
theorem Hf (lo:Nat) (H:Hp) (v:V):∃v' H',(∀(α:Type) (c:V->Hp->α),IZ lo H v c=c v' H')∧H'.nx=H.nx∧(∀K S w ρ x,HRel S w ρ H.get->Inv K S w ρ H.get->VRel S w ρ v x->∃S',HRel S' w ρ H'.get∧Inv K S' w ρ H'.get∧Up S S' w w ρ ρ∧VRel S' w ρ v' x):=by
 have triv:∃v' H',(∀(α:Type) (c:V->Hp->α),c v H=c v' H')∧H'.nx=H.nx∧(∀K S w ρ x,HRel S w ρ H.get->Inv K S w ρ H.get->VRel S w ρ v x->∃S',HRel S' w ρ H'.get∧Inv K S' w ρ H'.get∧Up S S' w w ρ ρ∧VRel S' w ρ v' x):=⟨v,H,λ_ _=>rfl,rfl,λK S w ρ x h1 h2 h3=>⟨S,h1,h2,Up.refl,h3⟩⟩;cases v with
 | sl id=>
  simp only[IZ];split
  ·split
   ·rename_i e sz els ho;split
    ·rename_i hpu;refine⟨.row sz els,⟨H.nx,nM id H.es⟩,λα c=>by rw[zc],I,λK S w ρ x hr hi hx=>?_⟩;have hg:(⟨H.nx,nM id H.es⟩:Hp).get=bi H.get id .gone:=by
      funext i
      unfold Hp.get;by_cases hii:i=id
      ·subst hii;rw[aP];simp only[];have hlt:Nat.blt i H.nx=true:=by
        unfold Hp.get at ho;split at ho
        ·assumption
        ·cases ho
       rw[hlt];simp only[kp,if_true]
      ·rw[aY _ _ hii];simp only[kp,if_neg hii]
     refine⟨_,by rw[hg];exact(fE hr).1,by rw[hg];exact hi.frz hr id,(fE hr).2,Bi hr ho hpu hx⟩
    ·exact triv
   ·exact triv
  ·exact triv
 |_=>exact triv
theorem Ij(lo:Nat):∀(vs:List V) (H:Hp),∃vs' H',(∀(α:Type) (c:List V->Hp->α),IT lo H vs c=c vs' H')∧H'.nx=H.nx∧(∀K S w ρ xs,HRel S w ρ H.get->Inv K S w ρ H.get->LRel S w ρ vs xs->∃S',HRel S' w ρ H'.get∧Inv K S' w ρ H'.get∧Up S S' w w ρ ρ∧LRel S' w ρ vs' xs)
 |[],H=>⟨[],H,λ_ _=>rfl,rfl,λK S w ρ x h1 h2 G=>⟨S,h1,h2,Up.refl,G⟩⟩
 |v::r,H=>by
  obtain⟨J,H1,U,Z,k1⟩:=Hf lo H v;obtain⟨r',H2,e2,n2,k2⟩:=Ij lo r H1;refine⟨J::r',H2,λα c=>by simp only[IT,U,e2],n2.trans Z,λK S w ρ xs hr hi hx=>?_⟩;simp only[LRel]at hx;obtain⟨x,ys,rfl,h1,h2⟩:=hx;obtain⟨S1,a1,a2,a3,a4⟩:=k1 K S w ρ x hr hi h1;obtain⟨S2,b1,b2,E,b4⟩:=k2 K S1 w ρ ys a1 a2<|h2.up a3;exact⟨S2,b1,b2,⟨λb hb=>E.s b<|a3.s b hb,λ_ _ _=>I,λ_ _ h=>h⟩,x,ys,I,a4.up E,b4⟩
theorem PJ(lo:Nat)(H:Hp)(v:V):∃E H',(∀(α:Type) (c:V->Hp->α),Nz lo H v c=c E H')∧H'.nx=H.nx∧(∀K S w ρ x,HRel S w ρ H.get->Inv K S w ρ H.get->VRel S w ρ v x->∃S',HRel S' w ρ H'.get∧Inv K S' w ρ H'.get∧Up S S' w w ρ ρ∧VRel S' w ρ E x):=by
 have G:=Hf lo H v;cases v
 case agg cs=>
  obtain⟨vs',H',e,hn,k⟩:=Ij lo cs H;refine⟨.agg vs',H',λα c=>by simp only[Nz,e],hn,λK S w ρ x hr hi hx=>?_⟩;simp only[VRel]at hx;obtain⟨xs,rfl,h1⟩:=hx;obtain⟨S',a1,a2,a3,J⟩:=k K S w ρ xs hr hi h1;exact⟨S',a1,a2,a3,by simp only[VRel];exact⟨xs,rfl,J⟩⟩
 all_goals exact G
theorem BY(lo:Nat):∀(vs:List V) (H:Hp),∃vs' H',(∀(α:Type) (c:List V->Hp->α),Ez lo H vs c=c vs' H')∧H'.nx=H.nx∧(∀K S w ρ xs,HRel S w ρ H.get->Inv K S w ρ H.get->LRel S w ρ vs xs->∃S',HRel S' w ρ H'.get∧Inv K S' w ρ H'.get∧Up S S' w w ρ ρ∧LRel S' w ρ vs' xs)
 |[],H=>⟨[],H,λ_ _=>rfl,rfl,λK S w ρ x h1 h2 G=>⟨S,h1,h2,Up.refl,G⟩⟩
 |v::r,H=>by
  obtain⟨J,H1,U,Z,k1⟩:=PJ lo H v;obtain⟨r',H2,e2,n2,k2⟩:=BY lo r H1;refine⟨J::r',H2,λα c=>by simp only[Ez,U,e2],n2.trans Z,λK S w ρ xs hr hi hx=>?_⟩;simp only[LRel]at hx;obtain⟨x,ys,rfl,h1,h2⟩:=hx;obtain⟨S1,a1,a2,a3,a4⟩:=k1 K S w ρ x hr hi h1;obtain⟨S2,b1,b2,E,b4⟩:=k2 K S1 w ρ ys a1 a2<|h2.up a3;exact⟨S2,b1,b2,⟨λb hb=>E.s b<|a3.s b hb,λ_ _ _=>I,λ_ _ h=>h⟩,x,ys,I,a4.up E,b4⟩
variable{all:Array Oper}{rest:List Oper}{o:Oper}{u:V}{H':Hp}
theorem Qq{ok:Bool}(J:bd F all o.guard=some true)(hx:rQ P K o [] ok n F H u H')(k:Go P K Q (.ops all rest) s n (F.seto o.dst<|some u) H'):Go P K Q (.ops all<|o::rest) s n F H:=λS w ρ a hr hi hF=>by
 show wpList P all (dI P Q s) (o::rest) a w;unfold wpList;rw[if_pos<|cg hF J];exact .inl<|hx S w ρ a hr hi hF _ _ λx S' w' ρ' E G U _ _ hv=>k S' w' ρ' _ E G<|cI (hF.up U) o.dst hv
variable{L:YN}{m left i:Nat}{listed:Array Bool}
theorem Rk(E:Region.ready .any all listed=[i])(hi:all[i]?=some o)(hw:bd F all o.guard=some true)(hx:rQ P K o L ((listed.setIfInBounds i true).getD m false) n F H u H')(k:Go P K Q (.drw all L m left<|listed.setIfInBounds i true) s n (F.seto o.dst<|some u) H'):Go P K Q (.drw all L m (left+1) listed) s n F H:=λS w ρ a hr G hF hs=>by
 refine oE (S:=S) E ?_;unfold wpOp;simp only[hi];rw[if_pos<|cg hF hw];exact .inl<|hx S w ρ a hr G hF _ _ λx S' w' ρ' J U Z hA hL hv=>nh Z hA hL<|k S' w' ρ' _ J U (cI (hF.up Z) o.dst hv) hs
def kQ(P:Program)(K:Ctx)(Q:Exit->Act->World->Prop)(n:Nat):Rs->Prop
 |.ok e F H=>∀S w ρ a,HRel S w ρ H.get->Inv K S w ρ H.get->FRel S w ρ a n F->Q (match e with|true=>.ret|false=>.normal) a w
 |.pt p s F H=>Go P K Q p s n F H
 |.er _ _=>False
variable{ih:EP->List EI->Fm->Hp->Rs}
theorem GM{w:World}{x:Value}:∀{rs:List V},VRel S w ρ (nY rs) x->∃ys,LRel S w ρ rs ys∧x=rt ys
 |[],E=>by simp only[nY,VRel]at E;obtain⟨ys,rfl,h1⟩:=E;exact⟨ys,h1,by simp only[LRel]at h1;subst h1;rfl⟩
 |[v],E=>⟨[x],⟨x,[],rfl,E,rfl⟩,rfl⟩
 |v::u::r,E=>by simp only[nY,VRel]at E;obtain⟨ys,rfl,h1⟩:=E;refine⟨ys,h1,?_⟩;simp only[LRel]at h1;obtain⟨_,_,rfl,_,_,_,rfl,_⟩:=h1;rfl
theorem Nj (hT:TabOk P T) (IH:∀p s F H K Q n,kQ P K Q n (ih p s F H)->Go P K Q p s n F H) {X:Rs->Prop} (hX:∀n m,¬X (.er n m)) {keep ok:Bool} {vs:List V} {fid:FuncId} {fn:Func} {b:Code} {c:V->Hp->Rs} (hf:P.funcs[fid]?=some fn) (hb:fn.body=some b) (hl:Nat.ble vs.length fn.ntmps=true)
  (h:X<|Jv T ih keep vs fn b H L ok c):∃u H' L',(L'=L∨ok=true)∧CallR P K fid vs H L' (λu' H''=>u'=u∧H''=H')∧X (c u H'):=by
 unfold Jv at h;simp only[]at h;generalize hR:qY H 40 (xe vs []) []=R at h;split at h
 ·rename_i hok;rw[wu]at h;split at h
  ·rename_i e F1 H1 hrun;split at h
   ·rename_i rs hres;split at h
    ·rename_i hnx;have hnx':H.nx<=H1.nx:=Nat.le_of_ble_eq_true hnx;have hin:∀i,(⟨H.nx,dN R H.es⟩:Hp).get i=H.get i∨(⟨H.nx,dN R H.es⟩:Hp).get i=.gone:=λi=>by
      unfold Hp.get;simp only[];split
      ·rcases uy (R:=R) (i:=i) (l:=H.es)with e|⟨_,e⟩
       ·exact .inl e
       ·exact .inr e
      ·exact .inl I
     have hout:∀i,kl i R=false->Nat.blt i H.nx=true->(⟨H.nx,dN R H.es⟩:Hp).get i=.gone:=λi hi hlt=>by unfold Hp.get;simp only[hlt];exact Dp hi _
     have key:∀(H2:Hp) (es3:List<|Nat×Ob),H2.nx=H1.nx->(∀i,aA es3 i=aA H2.es i∨aA es3 i=.gone)->∀i,((⟨H2.nx,es3++eY H.nx R H.es⟩:Hp).get i=H2.get i∨(⟨H2.nx,es3++eY H.nx R H.es⟩:Hp).get i=.gone)∨((⟨H2.nx,es3++eY H.nx R H.es⟩:Hp).get i=H.get i∧(⟨H.nx,dN R H.es⟩:Hp).get i=.gone∧H.get i≠.free):=λH2 es3 hn h3 i=>by
      by_cases hlt2:Nat.blt i H2.nx=true
      ·have e0:(⟨H2.nx,es3++eY H.nx R H.es⟩:Hp).get i=aA (es3++eY H.nx R H.es) i:=by unfold Hp.get;simp only[hlt2]
       have e2:H2.get i=aA H2.es i:=by unfold Hp.get;rw[hlt2]
       rw[e0,e2];rcases FV es3 (eY H.nx R H.es) i with e|⟨e',e⟩
       ·rw[e];rcases h3 i with h3|h3
        ·exact .inl<|.inl h3
        ·exact .inl<|.inr h3
       ·rw[e];rw[Kx];cases hm:(!kl i R&&Nat.blt i H.nx)
        ·exact .inl (.inr<|by simp)
        ·have hm':=hm;simp only[aab,Bool.not_eq_true']at hm';have eH:H.get i=aA H.es i:=by unfold Hp.get;rw[hm'.2]
         rw[if_pos rfl];cases hf:aA H.es i
         case free=>exact .inl<|.inr rfl
         all_goals exact .inr ⟨by rw[eH,hf];rfl,hout i hm'.1 hm'.2,by rw[eH,hf];simp⟩
      ·have e0:(⟨H2.nx,es3++eY H.nx R H.es⟩:Hp).get i=.free:=by
        unfold Hp.get;simp only[Bool.not_eq_true]at hlt2;simp only[hlt2]
       have e2:H2.get i=.free:=by unfold Hp.get;simp only[Bool.not_eq_true]at hlt2;rw[hlt2]
       exact .inl (.inl<|by rw[e0,e2])
     have fin:∀(H2:Hp) (es3:List<|Nat×Ob) (rs2:List V),H2.nx=H1.nx->(∀i,aA es3 i=aA H2.es i∨aA es3 i=.gone)->
       (∀K S w ρ xs,HRel S w ρ H1.get->Inv K S w ρ H1.get->LRel S w ρ rs xs->∃S',HRel S' w ρ H2.get∧Inv K S' w ρ H2.get∧Up S S' w w ρ ρ∧LRel S' w ρ rs2 xs)->
       ∃L',(L'=L∨ok=true)∧CallR P K fid vs H L' (λu' H''=>u'=nY rs2∧H''=⟨H2.nx,es3++eY H.nx R H.es⟩):=λH2 es3 rs2 hn h3 hfz=>by
      have main:∀L',(∀(S:Nat->Prop) (w:World) (ρ:Nat->Option Value),HRel S w ρ H.get->L'=[]∨(cm H.get L'=true∧∀id,id∈L'->(⟨H.nx,dN R H.es⟩:Hp).get id=.gone))->CallR P K fid vs H L' (λu' H''=>u'=nY rs2∧H''=⟨H2.nx,es3++eY H.nx R H.es⟩):=λL' hL' S w ρ xs hr hi hx=>by
       have hr1:=hr.drop (h':=(⟨H.nx,dN R H.es⟩:Hp).get) hin;have hi1:Inv ⟨w,S,λb=>∃id,own ρ id ((⟨H.nx,dN R H.es⟩:Hp).get id) b,ρ⟩ S w ρ (⟨H.nx,dN R H.es⟩:Hp).get:=⟨ChgP.refl _ _,λ_ h=>h,λ_ h=>.inl h,λid b hb=>.inl ⟨id,hb⟩,λ_ _ h=>h⟩;refine zL hf hb hl hr1 hi1 hx<|IH _ _ _ _ _ _ _ ?_;rw[hrun];intro S' w' ρ' a' hr' hi' hF';obtain⟨rl,hrl⟩:∃l:List ResultVar,fn.results=l.toArray:=⟨fn.results.toList,by simp⟩;rw[hrl]at hres;refine ret_go hT (rs:=rl) (by cases e<;>simp) hrl hr' hF' (by simpa using hres) λx hvx=>?_;have hLR:=GM hvx;obtain⟨ys,hys,rfl⟩:=hLR;obtain⟨S2,a1,a2,a3,a4⟩:=hfz _ S' w' ρ' ys hr' hi' hys;obtain⟨m1,m2,m3,m4⟩:=DK (h1:=(⟨H.nx,dN R H.es⟩:Hp).get) (h2:=(⟨H2.nx,es3++eY H.nx R H.es⟩:Hp).get) hr hi hin a1 a2<|key H2 es3 hn h3;refine⟨_,S2,ρ',_,_,I,⟨I,I⟩,m1,m2,m3,GO a4,?_⟩;rcases hL' S w ρ hr with rfl|⟨g1,g2⟩
       ·intro id hid;simp at hid
       ·exact m4 L' g1 g2
      rcases wB hok with hok|hok
      ·simp only[aab]at hok;refine⟨L,.inl I,main L λS w ρ hr=>.inr ⟨hok.1,λid hid=>?_⟩⟩;have hmem:=List.all_eq_true.1 hok.2 id hid;simp only[Bool.not_eq_true']at hmem;by_cases hlt:Nat.blt id H.nx=true
       ·exact hout id hmem hlt
       ·exfalso;have hfree:H.get id=.free:=by unfold Hp.get;simp only[Bool.not_eq_true]at hlt;rw[hlt]
        have hnl:∀(l:YN),id∈l->cm H.get l=true->False:=by
         intro l
         induction l with
         |nil=>intro h;simp at h
         | cons j t ih=>
          intro hm hl;simp only[cm]at hl;rcases List.mem_cons.1 hm with e|e
          ·subst e;rw[hfree]at hl;cases hl
          ·split at hl
           ·exact ih e hl
           ·exact ih e hl
           ·exact ih e hl
           ·cases hl
        exact hnl L hid hok.1
      ·exact⟨[],.inr hok,main [] λ_ _ _ _=>.inl I⟩
     split at h
     ·rw[wP]at h;obtain⟨L',g1,g2⟩:=fin H1 H1.es rs rfl (λi=>.inl rfl) λK S w ρ xs h1 h2 h3=>⟨S,h1,h2,Up.refl,h3⟩;exact⟨_,_,L',g1,g2,h⟩
     ·obtain⟨rs2,H2,e1,e2,e3⟩:=BY H.nx rs H1;rw[e1]at h;rw[wu,wP]at h;obtain⟨L',g1,g2⟩:=fin H2 (dN _ H2.es) rs2 e2 (λi=>by
       rcases uy (R:=qY H2 60 (xe rs2 R) []) (i:=i) (l:=H2.es)with e|⟨_,e⟩
       ·exact .inl e
       ·exact .inr e) e3
      exact⟨_,_,L',g1,g2,h⟩
    ·exact absurd h<|hX _ _
   ·exact absurd h<|hX _ _
  ·exact absurd h<|hX _ _
  ·exact absurd h<|hX _ _
 ·exact absurd h<|hX _ _
theorem sU (hT:TabOk P T) (IH:∀p s F H K Q n,kQ P K Q n (ih p s F H)->Go P K Q p s n F H) {X:Rs->Prop} (hX:∀n m,¬X (.er n m)) {ok:Bool} {c:Option V->Hp->Rs} (h:X<|xl T ih F H L ok o c):∃u H',rQ P K o L ok n F H u H'∧X (c (some u) H'):=by
 unfold xl at h;split at h
 ·rename_i v hv;exact⟨v,H,Kz hT hv,h⟩
 ·rw [dB]at h;split at h
  ·rename_i v ed hv;split at h
   ·rename_i hc;rw[Hp.ap_eq]at h;refine⟨_,_,qm hT hv hc,?_⟩;cases v with
    |none=>exact h
    |some v=>exact h
   ·exact absurd h<|hX _ _
  ·split at h
   ·rename_i fid args tys hop;split at h
    ·rename_i vs hvs;split at h
     ·rename_i v hn;obtain⟨he,hnat⟩:=hT.nat _ _ _ hn;refine⟨v,H,qQ (L':=L) he (by rw[hop]) hvs (λS w ρ xs hr hi hx=>?_)<|.inl I,h⟩;obtain⟨x,h1,h2⟩:=hnat S w ρ xs hx;refine h2.mono λe w' hR=>?_;obtain⟨rfl,rfl⟩:=hR;exact⟨x,S,ρ,v,H,I,⟨I,I⟩,hr,hi,Up.refl,h1,oJ⟩
     ·split at h
      ·rename_i fn hfn;obtain⟨hf,he⟩:=hT.fn _ _ hfn;split at h
       ·rename_i b hb;split at h
        ·rename_i hl;obtain⟨u,H',L',g1,g2,g3⟩:=Nj (K:=K) hT IH hX hf hb hl h;exact⟨u,H',qQ he (by rw[hop]) hvs g2 g1,g3⟩
        ·exact absurd h<|hX _ _
       ·exact absurd h<|hX _ _
      ·exact absurd h<|hX _ _
    ·exact absurd h<|hX _ _
   ·exact absurd h<|hX _ _
theorem KJ{l:YN}{j:Nat}(h:ER l j=true):l=[j]:=by
 unfold ER at h;split at h
 ·rw[aaf h]
 ·cases h
theorem Gr (hT:TabOk P T) (IH:∀p s F H K Q n,kQ P K Q n (ih p s F H)->Go P K Q p s n F H) {i:Nat} {ps:List<|Nat×Operand} {vs:List<|Nat×V} {v:V} (hp:uC T all i vs=some (o,ps,v)):∀(left:Nat) (listed:Array Bool) (F:Fm) (H:Hp),kQ P K Q n (Dv T ih all L m i o ps v s left listed F H)->GoP P K Q all L m left listed s n F H i o ps vs v
 | left, listed,F,H,h=>by
  unfold Dv at h;split at h
  ·rename_i hl;split at h
   ·rename_i x hrd;split at h
    ·rename_i hb;have :=aaf hb;subst this;rw[Fm.puto_eq]at h;exact OV hT hp hrd hl<|IH _ _ _ _ _ _ _ h
    ·exact h.elim
   ·rename_i x y hrd;cases left with
    |zero=>exact h.elim
    | succ left=>
     simp only[dB]at h;generalize hj:Kf x y i=j at h;unfold Kf at hj;split at h
     ·exact h.elim
     ·rename_i hji;have hne:j≠i:=Nat.ne_of_beq_eq_false hji;split at h
      ·rename_i oj hoj;split at h
       ·rename_i hc;simp only[aab]at hc;obtain⟨⟨⟨hc1,hc2⟩,hc3⟩,hc4⟩:=hc;split at h
        ·rename_i hw;obtain⟨u,H',hx,hk⟩:=sU (K:=K) (n:=n) hT IH (X:=kQ P K Q n) (λ_ _ h=>h) h;rw[Fm.puto_eq]at hk;have ih2:=Gr hT IH hp left _ _ _ hk;have hpair:(match Region.ready .any all listed with|[x,y]=>(Nat.beq x i&&Nat.beq y j)||(Nat.beq x j&&Nat.beq y i)|_=>false)=true:=by
          rw[hrd];simp only[];cases hx1:Nat.beq x i
          ·rw[hx1]at hj;cases hy1:Nat.beq y i
           ·rw[hy1]at hj;exact absurd hj.symm hne
           ·rw[hy1]at hj;simp only at hj;subst hj;simp
          ·rw[hx1]at hj;simp only at hj;subst hj;simp
         refine Mu hT hp hoj hpair (KJ hc1) hl (λt ht=>?_) hc2 hc3 (Array.setIfInBounds_comm _ _<|Ne.symm hne) (Post:=λu' H''=>u'=u∧H''=H') (λS w ρ a hr hi hF K2 hK2=>?_) (λu' H'' hP=>by obtain⟨rfl,rfl⟩:=hP;exact ih2)
         ·rw[ht]at hc4;simp only[Option.isNone_iff_eq_none]at hc4;exact hc4
         ·unfold wpOp;simp only[hoj];rw[if_pos<|cg hF hw];refine .inl<|hx S w ρ a hr hi hF _ _ λx S' w' ρ' hr' hi' hu hA hL hv=>hK2 x S' w' ρ' u H' ⟨I,I⟩ hr' hi' hu hA (hL.imp id λh=>?_) hv;simpa only[aab]using h
        ·exact h.elim
       ·exact h.elim
      ·exact h.elim
   ·exact h.elim
  ·exact h.elim
theorem Qb (hT:TabOk P T) (IH:∀p s F H K Q n,kQ P K Q n (ih p s F H)->Go P K Q p s n F H) {i j:Nat} {left:Nat} {listed:Array Bool} (hrd:Region.ready .any all listed=[i,j]) (h:kQ P K Q n<|Om T ih all L m left i j listed s F H):Go P K Q (.drw all L m (left+1) listed) s n F H:=by
 unfold Om at h;split at h
 ·rename_i oi hoi;split at h
  ·rename_i oj hoj;split at h
   ·rename_i hwi;split at h
    ·rename_i hwj;obtain⟨ui,Hi,xi,hk⟩:=sU (K:=K) (n:=n) hT IH (X:=kQ P K Q n) (λ_ _ h=>h) h;rw[Fm.puto_eq]at hk;split at hk
     ·rename_i F1 H1 e1;obtain⟨uj,Hj,xj,hk2⟩:=sU (K:=K) (n:=n) hT IH (X:=kQ P K Q n) (λ_ _ h=>h) hk;rw[Fm.puto_eq]at hk2;split at hk2
      ·rename_i F2 H2 e2;split at hk2
       ·rename_i hal;have c:Go P K Q (.ex .normal) s n F1 H1:=IH _ _ _ _ _ _ _ hk2;intro S w ρ a hr hi hF;have hpin:∀id x,K.pin id=some x->id<H.nx:=λid x hx=>Decidable.byContradiction λhn=>by
         have h1:=hi.pin id x hx;have h2:=hr.ob id;have h3:H.get id=.free:=by
          unfold Hp.get;have :Nat.blt id H.nx=false:=by
           cases hb:Nat.blt id H.nx
           ·rfl
           ·exact absurd (by simpa[Nat.blt_eq]using hb) hn
          simp only[this]
         rw[h3]at h2;have h4:ρ id=none:=h2;rw[h4]at h1;cases h1
        have g1:Go P K (dI P Q s) (.drw all L m left<|listed.setIfInBounds i true) [] n (F.seto oi.dst<|some ui) Hi:=IH _ _ _ _ _ _ _ (by rw[e1];exact λS w ρ a hr hi hF=>c S w ρ a hr hi hF);have g2:Go P K (dI P Q s) (.drw all L m left<|listed.setIfInBounds j true) [] n (F.seto oj.dst<|some uj) Hj:=IH _ _ _ _ _ _ _ (by rw[e2];exact λS w ρ a hr hi hF=>go_alike hal hpin c S w ρ a hr hi hF);exact qq (by rw[hrd];simp) hoi hoj hwi hwj xi xj g1 g2 S w ρ a hr hi hF
       ·exact hk2.elim
      ·exact hk2.elim
      ·exact hk2.elim
     ·exact hk.elim
     ·exact hk.elim
    ·exact h.elim
   ·exact h.elim
  ·exact h.elim
 ·exact h.elim
theorem tV:∀{R:YN} {i:Nat} {ps:List<|Nat×Operand} {v:V},wn T F all R=some (i,o,ps,v)->∃vs,mX F ps=some vs∧uC T all i vs=some (o,ps,v)
 |[],_,_,_,h=>by cases h
 | j ::r,i,ps,v,h=>by
  unfold wn at h;split at h
  ·rename_i hj;split at h
   ·rename_i vs hvs;split at h
    ·rename_i o' ps' v' hpb;simp only[aaa,Prod.mk.injEq]at h;obtain⟨rfl,rfl,rfl,rfl⟩:=h;refine⟨vs,?_,hpb⟩;have :=hpb;unfold uC at this;rw[hj]at this;simp only at this
     repeat' (split at this)
     all_goals first
      |(cases this;done)
      |(simp only[dB,aaa,Prod.mk.injEq]at this;obtain⟨_,rfl,_⟩:=this;exact hvs)
    ·exact tV h
   ·exact tV h
  ·exact tV h
theorem Pg (hT:TabOk P T) (hm:P.follows .mixedOrders=true) (IH:∀p s F H K Q n,kQ P K Q n (ih p s F H)->Go P K Q p s n F H):∀(p:EP) (s:List EI) (F:Fm) (H:Hp),kQ P K Q n (KS T ih p s F H)->Go P K Q p s n F H
 | .code c,s,F,H,h=>by
  replace h:kQ P K Q n (Kb T ih c s F H):=h;unfold Kb at h;split at h
  ·exact Me<|IH _ _ _ _ _ _ _ h
  ·exact El<|IH _ _ _ _ _ _ _ h
  ·exact Ho<|IH _ _ _ _ _ _ _ h
  ·exact go_ret<|IH _ _ _ _ _ _ _ h
  ·exact Hw<|IH _ _ _ _ _ _ _ h
  ·exact NK<|IH _ _ _ _ _ _ _ h
  ·exact Mr<|IH _ _ _ _ _ _ _ h
  ·exact go_loop 1000000 (IH _ _ _ _ _ _ _ h)
  ·split at h
   ·exact FH ‹_› (IH _ _ _ _ _ _ _ h)
   ·exact Ef ‹_› (IH _ _ _ _ _ _ _ h)
   ·exact h.elim
  ·exact go_region<|IH _ _ _ _ _ _ _ h
  ·split at h
   ·rename_i hs;simp only[cW,dB]at h;exact Is _ _ _ rfl hm hs<|IH _ _ _ _ _ _ _ h
   ·exact h.elim
  ·exact h.elim
 | .ops all rest,s,F,H,h=>by
  replace h:kQ P K Q n (EL T ih all rest s F H):=h;unfold EL at h;split at h
  ·exact Kw<|IH _ _ _ _ _ _ _ h
  ·split at h
   ·rw[Fm.puto_eq]at h;exact La ‹_› (IH _ _ _ _ _ _ _ h)
   ·obtain⟨u,H',hx,hk⟩:=sU (K:=K) (n:=n) hT IH (X:=kQ P K Q n) (λ_ _ h=>h) h;rw[Fm.puto_eq]at hk;exact Qq ‹_› hx (IH _ _ _ _ _ _ _ hk)
   ·exact h.elim
 | .ex e,s,F,H,h=>by
  replace h:kQ P K Q n (Kc ih e s F H):=h;unfold Kc at h;split at h
  ·split at h
   ·exact λS w ρ a hr hi hF=>h S w ρ a hr hi hF
   ·exact λS w ρ a hr hi hF=>h S w ρ a hr hi hF
   ·exact h.elim
  ·split at h
   ·exact Hx<|IH _ _ _ _ _ _ _ h
   ·exact FC<|IH _ _ _ _ _ _ _ h
   ·exact DY<|IH _ _ _ _ _ _ _ h
   ·exact h.elim
  ·split at h
   ·split at h
    ·exact h.elim
    ·exact go_xloop<|IH _ _ _ _ _ _ _ h
   ·exact go_xloopE<|IH _ _ _ _ _ _ _ h
   ·exact go_xloopR<|IH _ _ _ _ _ _ _ h
   ·exact h.elim
  ·split at h
   ·exact MG<|IH _ _ _ _ _ _ _ h
   ·exact ML<|IH _ _ _ _ _ _ _ h
   ·exact NG<|IH _ _ _ _ _ _ _ h
   ·exact h.elim
  ·split at h
   ·exact Eo<|IH _ _ _ _ _ _ _ h
   ·split at h
    ·exact Fg ‹_› (IH _ _ _ _ _ _ _ h)
    ·exact Ea ‹_› (IH _ _ _ _ _ _ _ h)
   ·exact Gi<|IH _ _ _ _ _ _ _ h
   ·exact h.elim
 | .drw all L m left listed,s,F,H,h=>by
  replace h:kQ P K Q n (IX T ih all L m left listed s F H):=h;unfold IX at h;split at h
  ·exact FB ‹_› (IH _ _ _ _ _ _ _ h)
  ·rename_i i R hrd;cases left with
   |zero=>exact h.elim
   | succ left=>
    simp only[]at h;split at h
    ·split at h
     ·rename_i o ho;split at h
      ·rw[Fm.puto_eq]at h;exact go_d1S hrd ho ‹_› (IH _ _ _ _ _ _ _ h)
      ·obtain⟨u,H',hx,hk⟩:=sU (K:=K) (n:=n) hT IH (X:=kQ P K Q n) (λ_ _ h=>h) h;rw[Fm.puto_eq]at hk;exact Rk hrd ho ‹_› hx (IH _ _ _ _ _ _ _ hk)
      ·exact h.elim
     ·exact h.elim
    ·split at h
     ·split at h
      ·rename_i o ho;split at h
       ·rename_i hc;simp only[aab,Bool.not_eq_true']at hc;obtain⟨⟨hc1,hc2⟩,hc3⟩:=hc;split at h
        ·rw[Fm.puto_eq]at h;exact IR hc3 ho hc2 hc1 ‹_› (IH _ _ _ _ _ _ _ h)
        ·rename_i hw;split at h
         ·rename_i v hv;rw[Fm.puto_eq]at h;exact Oz hT hc3 ho hc2 hc1 hw hv<|IH _ _ _ _ _ _ _ h
         ·split at h
          ·rename_i id hid;split at h
           ·rename_i hL;simp only[aab,Bool.not_eq_true']at hL;obtain⟨⟨hL1,hL2⟩,hL3⟩:=hL;split at h
            ·rename_i v ed hv;rw[Fm.puto_eq]at h;exact OD hT hc3 hL2 hL3 ho hc2 hc1 hw hid hL1 hv<|IH _ _ _ _ _ _ _ h
            ·exact h.elim
           ·exact h.elim
          ·exact h.elim
        ·exact h.elim
       ·exact h.elim
      ·exact h.elim
     ·split at h
      ·rename_i i' o ps v hpo;rw[Fm.puto_eq]at h;obtain⟨vs,g1,g2⟩:=tV hpo;exact KQ g1<|Gr hT IH g2 left listed _ _ h
      ·split at h
       ·exact Qb hT IH hrd h
       ·exact h.elim
theorem KZ(hT:TabOk P T)(E:P.follows .mixedOrders=true):∀(k:Nat) (p:EP) (s:List EI) (F:Fm) (H:Hp) (K:Ctx) (Q:Exit->Act->World->Prop) (n:Nat),kQ P K Q n (run T k p s F H)->Go P K Q p s n F H
 |0,p,s,F,H,K,Q,n,h=>h
 |k+1,p,s,F,H,K,Q,n,h=>Pg hT E (λp s F H K Q n h=>KZ hT E k p s F H K Q n h) p s F H h
def Of (T:Tab) (k:Nat) (fid:FuncId) (vs:List V) (H:Hp):Option (List V×Hp):=match T.fn fid with
 |some fn=>match fn.body with
  |some b=>match Nat.ble vs.length fn.ntmps with
   |true=>match run T k (.code b) [] (mN fn.ntmps vs) H with
    |.ok _ F1 H1=>match sm T H1.get F1 fn.results.toList with
     |some rs=>some (rs,H1)
     |none=>none
    |_=>none
   |false=>none
  |none=>none
 |none=>none
theorem Pq(hT:TabOk P T)(hm:P.follows .mixedOrders=true){fid:FuncId}{vs rs:List V}{H H1:Hp}(h:Of T k fid vs H=some (rs,H1)){w:World}(hr:HRel S w ρ H.get)(hx:LRel S w ρ vs xs):bZ P fid=true∧
  Calls P fid xs.toArray w λe w'=>∃S' ρ' ys,e=.returned (rt ys)∧HRel S' w' ρ' H1.get∧Inv ⟨w,S,λb=>∃id,own ρ id (H.get id) b,ρ⟩ S' w' ρ' H1.get∧LRel S' w' ρ' rs ys:=by
 unfold Of at h;split at h
 ·rename_i fn Z;obtain⟨hf,he⟩:=hT.fn _ _ Z;split at h
  ·rename_i b hb;split at h
   ·rename_i hl;split at h
    ·rename_i e F1 H1' G;split at h
     ·rename_i rs' E;simp only[aaa,Prod.mk.injEq]at h;obtain⟨rfl,rfl⟩:=h;refine⟨he,?_⟩;have hi1:Inv ⟨w,S,λb=>∃id,own ρ id (H.get id) b,ρ⟩ S w ρ H.get:=⟨ChgP.refl _ _,λ_ h=>h,λ_ h=>.inl h,λid b hb=>.inl ⟨id,hb⟩,λ_ _ h=>h⟩;refine zL hf hb hl hr hi1 hx<|KZ hT hm k _ _ _ _ _ _ _ ?_;rw[G];intro S' w' ρ' a' J hi' hF';obtain⟨rl,U⟩:∃l:List ResultVar,fn.results=l.toArray:=⟨fn.results.toList,by simp⟩;rw[U]at E;refine ret_go hT (rs:=rl) (by cases e<;>simp) U J hF' (by simpa using E) λx hvx=>?_;have hLR:=GM hvx;obtain⟨ys,hys,rfl⟩:=hLR;exact⟨S',ρ',ys,I,J,hi',hys⟩
     ·cases h
    ·cases h
   ·cases h
  ·cases h
 ·cases h
end
open Go.RowKit Lx Sx
set_option maxRecDepth 100000
def DF:List YB->List V->Bool
 |[],[]=>true
 |s::r,.str l::q=>lEq s l&&DF r q
 |_,_=>false
def Fh(ls:List YB):V->Bool
 |.nils=>ls.isEmpty
 |.row sz els=>Nat.beq sz 1&&DF ls els
 |_=>false
mutual
def treeB:Tree->V->Bool
 |.node k s ls ks,v=>match v with
  |.agg [.int .i64 k',.str s',l,r]=>iEq k k'&&lEq s s'&&Fh ls l&&(match r with
   |.nils=>ks.isEmpty
   |.row sz els=>Nat.beq sz 4&&kidsB ks els
   |_=>false)
  |_=>false
def kidsB:YT->List V->Bool
 |[],vs=>match vs with
  |[]=>true
  |_=>false
 |t::r,vs=>match vs with
  |v::q=>treeB t v&&kidsB r q
  |[]=>false
end
section
variable{S:Nat->Prop}{w:World}
theorem FU{ρ:Nat->Option Value}:∀{ls:List YB} {els:List V} {xs:List Value},DF ls els=true->CRel S w ρ 1 els xs->els.length=ls.length∧xs=ls.map kK
 |[],[],xs,_,E=>by simp only[CRel]at E;subst E;exact⟨rfl,rfl⟩
 |s::r,v::q,xs,hb,E=>by
  cases v<;>simp only[DF]at hb<;>first|(cases hb;done)|skip
  rename_i l;simp only[aab]at hb;have hl:=hb.1;rw[vQ]at hl;simp only[aar]at hl;subst hl;simp only[CRel]at E;obtain⟨x,ys,rfl,_,G,J⟩:=E;simp only[VRel]at G;subst G;obtain⟨U,Z⟩:=FU hb.2 J;exact⟨by simp[U],by simp[Z,Value.cells]⟩
 |[],_::_,_,hb,_=>by cases hb
 |_::_,[],_,hb,_=>by cases hb
theorem KR{ls:List YB}{v:V}{x:Value}(hb:Fh ls v=true)(hx:VRel S w ρ v x):∃A m,x=.slice A ls.length m∧ls.length<=m∧m<=maxLen∧RowIn S w 1 A ls.length (ls.map kK):=by
 cases v<;>simp only[Fh]at hb<;>first|(cases hb;done)|skip
 ·simp only[List.isEmpty_iff]at hb;subst hb;simp only[VRel]at hx;subst hx;exact⟨none,0,rfl,aag _,by decide,RowIn.none_⟩
 ·rename_i sz els;simp only[aab,Nat.beq_eq]at hb;obtain⟨rfl,hb⟩:=hb;simp only[VRel]at hx;obtain⟨A,c,xs,rfl,E,J,U,G⟩:=hx;obtain⟨Z,rfl⟩:=FU hb U;rw[Z]at E G⊢;exact⟨A,c,I,E,J,G⟩
mutual
theorem treeB_ok{ρ:Nat->Option Value}:∀{t:Tree} {v:V} {x:Value},treeB t v=true->VRel S w ρ v x->∃c,x=.agg c.toArray∧TreeIs S w t c
 | .node k s ls ks,v,x,hb,hx=>by
  unfold treeB at hb;split at hb
  ·rename_i k' s' l r;simp only[aab]at hb;obtain⟨⟨⟨hb1,hb2⟩,hb3⟩,hb4⟩:=hb;rw[yt]at hb1;rw[vQ]at hb2;simp only[aar]at hb1 hb2;subst hb1 hb2;simp only[VRel]at hx;obtain⟨xs,rfl,hl⟩:=hx;simp only[LRel]at hl;obtain⟨x0,_,rfl,h0,x1,_,rfl,h1,x2,_,rfl,h2,x3,_,rfl,h3,rfl⟩:=hl;simp only[VRel]at h0 h1;subst h0 h1;obtain⟨A,m,rfl,g1,g2,g3⟩:=KR hb3 h2;have kk:∃B n,x3=.slice B ks.length n∧ks.length<=n∧n<=maxLen∧∃cs,KidsAre S w ks cs∧RowIn S w 4 B ks.length cs:=by
    split at hb4
    ·simp only[List.isEmpty_iff]at hb4;subst hb4;simp only[VRel]at h3;subst h3;exact⟨none,0,rfl,aag _,by decide,[],by simp only[KidsAre],RowIn.none_⟩
    ·rename_i sz els;simp only[aab,Nat.beq_eq]at hb4;obtain⟨rfl,hb4⟩:=hb4;simp only[VRel]at h3;obtain⟨B,c,ys,rfl,q3,q4,q5,q6⟩:=h3;obtain⟨q7,q8⟩:=kidsB_ok hb4 q5;rw[q7]at q3 q6⊢;exact⟨B,c,rfl,q3,q4,ys,q8,q6⟩
    ·cases hb4
   obtain⟨B,n,rfl,k1,k2,cs,k3,k4⟩:=kk;exact⟨_,rfl,Pk g1 g2 k1 k2 g3 k3 k4⟩
  ·cases hb
theorem kidsB_ok{ρ:Nat->Option Value}:∀{ts:YT} {vs:List V} {xs:List Value},kidsB ts vs=true->CRel S w ρ 4 vs xs->vs.length=ts.length∧KidsAre S w ts xs
 |[],vs,xs,hb,hc=>by
  unfold kidsB at hb;split at hb
  ·simp only[CRel]at hc;subst hc;exact⟨rfl,by simp only[KidsAre]⟩
  ·cases hb
 | t::r,vs,xs,hb,hc=>by
  unfold kidsB at hb;split at hb
  ·rename_i v q;simp only[aab]at hb;simp only[CRel]at hc;obtain⟨x,ys,rfl,_,h3,h4⟩:=hc;obtain⟨c,rfl,hT⟩:=treeB_ok hb.1 h3;obtain⟨h5,h6⟩:=kidsB_ok hb.2 h4;exact⟨by simp[h5],by simp only[KidsAre];exact⟨c,ys,by simp[Value.cells],hT,h6⟩⟩
  ·cases hb
end
end
def Ew(T:Tab)(k:Nat)(fid:FuncId)(vs:List V):Option (List V):=match Of T k fid vs ⟨0,[]⟩with
 |some (rs,H1)=>Ez 0 H1 rs λrs' _=>some rs'
 |none=>none
theorem yx(i:Nat):(⟨0,[]⟩:Hp).get i=.free:=by
 unfold Hp.get;have :Nat.blt i 0=false:=by cases i<;>rfl
 simp only[this]
theorem OL{w:World}(E:SOk S w):HRel S w (λ_=>none) (⟨0,[]⟩:Hp).get:=
 ⟨λi=>by rw[yx];rfl,λi b hb=>by rw[yx]at hb;exact hb.elim,λi j b hb _=>by rw[yx]at hb;exact hb.elim,E⟩
theorem PN{P:Program}{T:Tab}(hT:TabOk P T)(U:P.follows .mixedOrders=true){fid:FuncId}{vs rs:List V}(h:Ew T k fid vs=some rs){w:World}(Z:SOk S w)(hx:LRel S w (λ_=>none) vs xs):
  Calls P fid xs.toArray w λe w'=>∃S' ρ' ys,e=.returned (rt ys)∧SOk S' w'∧(∀b,S b->S' b)∧(∀b,S' b->S b∨w.heap.size<=b)∧Chg [] w w'∧LRel S' w' ρ' rs ys:=by
 unfold Ew at h;split at h
 ·rename_i J H1 E;obtain⟨rs2,H2,e1,_,e3⟩:=BY 0 J H1;rw[e1]at h;injection h with h;subst h
  refine(Pq hT U E (OL Z) hx).2.mono λe w' hR=>?_;obtain⟨S',ρ',ys,rfl,hr,hi,hl⟩:=hR;obtain⟨S2,a1,a2,a3,a4⟩:=e3 _ S' w' ρ' ys hr hi hl;have G:∀b,¬∃id,own (λ_=>none) id ((⟨0,[]⟩:Hp).get id) b:=λb ⟨id,hb⟩=>by rw[yx]at hb;exact hb
  refine⟨S2,ρ',ys,I,a1.slt,a2.s0,λb hb=>?_,⟨hi.chg.os,hi.chg.tape,hi.chg.output,hi.chg.size,λb hb _=>hi.chg.block b hb<|G b⟩,a4⟩;rcases a2.s1 b hb with h|h|h
  ·exact .inl h
  ·exact absurd h<|G b
  ·exact .inr h
 ·cases h
def MC(fid:FuncId)(vs:List V):Option V:=match Nat.beq fid 134 with
 |true=>match vs with
  |[.str s,.int .u8 (.ofNat c)]=>Ka (Lib.indexByte s c.toUInt8) λn=>some<|.int .i64 n
  |_=>none
 |false=>none
noncomputable def Jy:Tab:=⟨true,qF tyL,qF fnL,MC,λf=>Nat.beq f 46⟩
theorem PM:TabOk prog Jy:=by
 refine⟨Lb,RI,λi vs v hv=>?_⟩;replace hv:MC i vs=some v:=hv;unfold MC at hv;split at hv
 ·rename_i hb;have :=aaf hb;subst this;split at hv
  ·rename_i s c;rw[HV]at hv;injection hv with hv;subst hv
   refine⟨by kernel_rfl,λS w ρ xs hx=>?_⟩;simp only[LRel]at hx;obtain⟨G,_,rfl,E,J,_,rfl,h1,rfl⟩:=hx;simp only[VRel]at E h1;subst E h1;exact⟨_,by simp only[VRel];rfl,IW _ _ _⟩
  ·cases hv
 ·cases hv
def zi(t:Tree):Option (List V)->Bool
 |some [v,.int .i64 a,.int .i64 e]=>treeB t v&&iEq a 0&&iEq e 0
 |_=>false
variable{t:Tree}
theorem KD{l:YB}(h:zi t (Ew Jy k 19 [.str l])=true){w:World}(hg:SOk S w):Calls prog 19 [kK l].toArray w λe w'=>∃S' c0 E G J,e=.returned (.tuple #[.agg #[c0,E,G,J],.int .i64 0,.int .i64 0])∧SOk S' w'∧(∀b,S b->S' b)∧(∀b,S' b->S b∨w.heap.size<=b)∧TreeIs S' w' t [c0,E,G,J]∧Chg [] w w':=by
 unfold zi at h;split at h
 ·rename_i v a e hr;simp only[aab,yt,aar]at h;obtain⟨⟨h1,rfl⟩,rfl⟩:=h;refine(PN PM (by kernel_rfl) hr hg (xs:=[kK l]) ⟨_,[],rfl,by simp only[VRel],rfl⟩).mono λe w' hR=>?_;obtain⟨S',ρ',ys,rfl,g0,g1,g2,g4,U⟩:=hR;simp only[LRel]at U;obtain⟨x0,_,rfl,h0,x1,_,rfl,h2,x2,_,rfl,Z,rfl⟩:=U;simp only[VRel]at h2 Z;subst h2 Z;obtain⟨c,rfl,hT⟩:=treeB_ok h1 h0;have h4:=hT.four
  match c,h4,hT with
  |[c0,E,G,J],_,hT=>exact⟨S',c0,E,G,J,rfl,g0,g1,g2,hT,g4⟩
 ·cases h
section
variable{S:Nat->Prop}{w:World}{ρ:Nat->Option Value}
theorem FA:∀ls:List YB,CRel S w ρ 1 (ls.map .str) (ls.map kK)
 |[]=>by simp[CRel]
 |s::r=>by simp only[aah,CRel];exact⟨kK s,r.map kK,by simp[Value.cells,kK],⟨rfl,rfl⟩,by unfold VRel;rfl,FA r⟩
theorem FW:∀ls:YI,CRel S w ρ 1 (ls.map<|V.int .i64) (ls.map λz=>.int .i64 z)
 |[]=>by simp[CRel]
 |s::r=>by simp only[aah,CRel];exact⟨.int .i64 s,_,by simp[Value.cells],⟨rfl,rfl⟩,by unfold VRel;rfl,FW r⟩
mutual
theorem TreeIs.vrel:∀{ρ:Nat->Option Value} {t:Tree} {c:List Value},TreeIs S w t c->LRel S w ρ (an t) c
 |ρ,.node k s ls ks,c,h=>by simp only[TreeIs]at h;obtain⟨A,m,B,n,rfl,h1,h2,h3,h4,h5,cs,h6,h7⟩:=h;simp only[an,Tree.kind,Tree.text,Tree.leads,Tree.kids,LRel,VRel];exact⟨_,_,rfl,rfl,_,_,rfl,rfl,_,_,rfl,⟨A,m,_,by simp,by simpa using h1,h2,FA ls,by simpa using h5⟩,_,_,rfl,⟨B,n,cs,by simp[jV],by simpa[jV]using h3,h4,KidsAre.crel h6,by simpa[jV]using h7⟩,rfl⟩
theorem KidsAre.crel:∀{ρ:Nat->Option Value} {ts:YT} {cs:List Value},KidsAre S w ts cs->CRel S w ρ 4 (kidsV ts) cs
 |ρ,[],cs,h=>by simp only[KidsAre]at h;simp only[kidsV,CRel];exact h
 |ρ,t::r,cs,h=>by simp only[KidsAre]at h;obtain⟨c,d,rfl,h1,h2⟩:=h;simp only[kidsV,CRel,jZ];exact⟨.agg c.toArray,d,by simp[Value.cells],⟨by simp[Value.cells,h1.four],by simpa[Value.cells]using h1.one⟩,by simp only[VRel];exact⟨c,rfl,h1.vrel⟩,KidsAre.crel h2⟩
end
end
theorem OW{l:YB}(h:zi t (Ew Jy k 19 [.str l])=true):si prog 19 [.str l] (.tup [.agg<|an t,.int .i64 0,.int .i64 0]):=by
 refine⟨I,I,λS w ρ xs hr hx=>?_⟩;simp only[LRel,VRel]at hx;obtain⟨x,ys,rfl,rfl,rfl⟩:=hx;refine(KD h hr.slt).mono ?_;rintro e w' ⟨S',c0,E,G,J,rfl,g0,g1,g2,hT,U⟩;have g:=hr.chg0 U;refine⟨_,S',ρ,_,⟨0,[]⟩,I,I,⟨λi=>?_,λi b hb=>?_,λi j b hb _=>?_,g0⟩,⟨ChgP.of0 U,g1,λb hb=>(g2 b hb).elim .inl λh=>.inr<|.inr h,λid b hb=>.inl ⟨id,hb⟩,λid x h=>?_⟩,?_⟩
 ·have :=g.ob i;rw[yx]at this⊢;exact this
 ·rw[yx]at hb;exact hb.elim
 ·rw[yx]at hb;exact hb.elim
 ·simp only[pU]at h;split at h
  ·exact h
  ·cases h
 ·have Z:=TreeIs.vrel (ρ:=ρ) hT;simp only[VRel];exact⟨[.agg #[c0,E,G,J],.int .i64 0,.int .i64 0],rfl,.agg #[c0,E,G,J],_,rfl,by simp only[VRel];exact⟨_,rfl,Z⟩,_,_,rfl,by simp only[VRel],_,_,rfl,by simp only[VRel],rfl⟩
set_option maxHeartbeats 4000000
abbrev TT:TypeId:=26
abbrev SPT:TypeId:=98
abbrev IN:TypeId:=3
variable{x:Operand}{v:Value}
variable{b:Nat}
section
variable{P:Program}{a:Act}{w:World}{n:Nat}{f:Nat->Option Value}
theorem QL(h:Fr a n f):Fr a n (fA a):=⟨h.size,h.defers,λi v hi=>hi⟩
theorem Ck(h:Fr a n f)(hx:aD f x=some v):aD (fA a) x=some v:=by
 cases x with
 |tmp t=>exact h.get t v hx
 |_=>exact hx
theorem Hy{y:Operand}{t e:TypeId}{sz by_ U m c off:Nat}{z u:Value}{ns:List Value}(h:Fr a n f)(hx:aD f x=some u)(hy:aD f y=some (.slice (some ⟨b,off,none⟩) m c))(hu:w.ownsRow 0 e sz u U xs)(hn:ns.length=m*sz)(hc:∀j q,ns[j]?=some q->w.cell? ⟨b,off+j,none⟩=some q)(h1:∀q∈ns,q.oneCell'=true)(ht:P.underlying t=some (.slice e))
  (hi:(P.info? e).map (λi=>(i.zero,i.size,i.bytes))=some (some z,sz,by_)) (hzs:z.cells.size=sz) (hsz:0<sz) (Z:Nat.ble by_ 1000=true) (hl:U+m<=1000000000) (ty:TypeId):
  ∃E w',Runs P a ty (.call {callee:=.builtin .append,args:=#[x,y],argTypes:=#[t,t]}) w (.value E) w'∧w'.ownsRow 0 e sz E (U+m) (xs++ns)∧Chg u.ownBlock.toList w w'∧(E.ownBlock=u.ownBlock∨E.ownBlock=some w.heap.size):=by
 obtain⟨i0,hi0,G⟩:=Option.map_eq_some_iff.1 hi;simp only[Prod.mk.injEq]at G;obtain⟨hz,hs,hb0⟩:=G;have hb':by_<=1000:=Nat.le_of_ble_eq_true Z;have hmul:=Nat.mul_le_mul hl hb';obtain⟨E,w',J,h2,h3,_,h5⟩:=run_append_own_at (P:=P) w 0 t ty e i0 z sz by_ ht hi0 hz hs hb0 hzs hsz u U xs hu ⟨b,off,none⟩ m c ns hn
  (λj q hq=>by rw[qz];exact hc j q hq) h1 (by simp only[maxLen];omega) (by omega) (aat _)
 refine⟨E,w',λ_ _ _ _=>?_,h2,Chg.grown h3,h5⟩;simp only[execOp,resolve,invoke,builtin,List.map_toArray,aah,aau,h.eval hx,h.eval hy];simp[J]
theorem Ko{y:Operand}{t e:TypeId}{g c sz N o:Nat}(h:Fr a n f)(hx:aD f x=some (.pointer<|some ⟨g,o,none⟩))(hy:aD f y=some v)(hz:dr P t=some 1)(h1:v.oneCell'=true)(ho:w.ownsRow 0 e sz (.slice (some ⟨g,0,none⟩) N c) N xs)(J:o<N*sz)(ty:TypeId):
  ∃w',Runs P a ty (.store t x y) w .skip w'∧w'.ownsRow 0 e sz (.slice (some ⟨g,0,none⟩) N c) N (xs.set o v)∧Chg [g] w w':=by
 obtain⟨hl,h2⟩:=ho;rcases h2 with⟨U,_⟩|⟨g',cap,cur,hv,hb,Z,E,h5,h6,h7⟩
 ·cases U
 simp only[Value.slice.injEq,aaa,Addr.mk.injEq,and_true,true_and]at hv;obtain⟨rfl,rfl⟩:=hv;have hB:Blk w g e cur.toList:=by unfold Blk;rw[Z]
 have G:N*sz<=c*sz:=Nat.mul_le_mul_right _ E;obtain⟨w',r1,r2,r3⟩:=NQ (P:=P) (t:=t) h hx hy hz h1 hB (by simp;omega) ty;refine⟨w',r1,⟨by simpa using hl,.inr ⟨g,c,(cur.toList.set o v).toArray,I,hb,r2,E,h5,by simpa using h6,?_⟩⟩,r3⟩;rw[<-h7];simp[List.take_set]
end
def ftF:Nat->Nat->Option Nat:=ftG [(TT,3,3),(SPT,3,6)]
theorem QQ:∀t i k,ftF t i=some k->gv prog t i=some k:=DV _ (by kernel_rfl)
def DH(n:Nat):Nat->Pt->List It->(Nat->Option Value)->Pt×List It×(Nat->Option Value)
 |0,p,s,f=>(p,s,f)
 |k+1,p,s,f=>match gA ftF n 1 p s f with
  |some (p',s',f')=>DH n k p' s' f'
  |none=>(p,s,f)
section
variable{Q:Exit->Act->World->Prop}{w:World}{n:Nat}
theorem rGf:∀(k:Nat) {p p':Pt} {s s':List It} {f f':Nat->Option Value} {a:Act},Fr a n f->DH n k p s f=(p',s',f')->(∀a',Fr a' n f'->Pt.wp prog Q p' s' a' w)->Pt.wp prog Q p s a w
 |0,p,p',s,s',f,f',a,h,hr,kk=>by simp only[DH,Prod.mk.injEq]at hr;obtain⟨rfl,rfl,rfl⟩:=hr;exact kk a h
 | k+1,p,p',s,s',f,f',a,h,hr,kk=>by
  simp only[DH]at hr;split at hr
  ·rename_i p1 s1 f1 he;exact dz QQ 1 p s f a h he λa' h'=>rGf k h' hr kk
  ·simp only[Prod.mk.injEq]at hr;obtain⟨rfl,rfl,rfl⟩:=hr;exact kk a h
end
theorem Rj{w:World}{ks:YT}{cs:List Value}(Z:KidsAre S w ks cs)(hi:i<ks.length):∃E G J U,TreeIs S w ks[i] [E,G,J,U]∧∀j,j<4->cs[i*4+j]?=([E,G,J,U]:List Value)[j]?:=by
 obtain⟨c0,c1,c2,c3,hT,h0,h1,h2,h3⟩:=Z.at_ hi;refine⟨c0,c1,c2,c3,hT,λj hj=>?_⟩;rcases(by omega:j=0∨j=1∨j=2∨j=3)with rfl|rfl|rfl|rfl
 ·exact h0
 ·exact h1
 ·exact h2
 ·exact h3
section
variable{S:Nat->Prop}{w:World}
theorem Dd{ρ:Nat->Option Value}:∀{ls:List YB} {xs:List Value},CRel S w ρ 1 (ls.map .str) xs->xs=ls.map kK
 |[],xs,h=>by simpa[CRel]using h
 |s::r,xs,h=>by simp only[aah,CRel,VRel]at h;obtain⟨x,ys,rfl,_,rfl,h2⟩:=h;rw[Dd h2];simp[Value.cells,kK]
mutual
theorem LRel.tree:∀{ρ:Nat->Option Value} {t:Tree} {c:List Value},LRel S w ρ (an t) c->TreeIs S w t c
 |ρ,.node k s ls ks,c,h=>by simp only[an,Tree.kind,Tree.text,Tree.leads,Tree.kids,LRel,VRel]at h;obtain⟨_,_,rfl,rfl,_,_,rfl,rfl,_,_,rfl,⟨A,m,xs,rfl,h1,h2,h3,h4⟩,_,_,rfl,⟨B,n,cs,rfl,h5,h6,h7,h8⟩,rfl⟩:=h;have e:=Dd h3;subst e;simp only[TreeIs];exact⟨A,m,B,n,by simp[jV],by simpa using h1,h2,by simpa[jV]using h5,h6,by simpa using h4,cs,CRel.kids h7,by simpa[jV]using h8⟩
theorem CRel.kids:∀{ρ:Nat->Option Value} {ts:YT} {cs:List Value},CRel S w ρ 4 (kidsV ts) cs->KidsAre S w ts cs
 |ρ,[],cs,h=>by simpa only[kidsV,CRel,KidsAre]using h
 |ρ,t::r,cs,h=>by simp only[kidsV,CRel,jZ,VRel]at h;obtain⟨x,ys,rfl,⟨g1,g2⟩,⟨xs,rfl,h2⟩,h3⟩:=h;simp only[KidsAre];exact⟨xs,ys,by simp[Value.cells],LRel.tree h2,CRel.kids h3⟩
end
end
theorem Qi{a:Act}{w:World}{n:Nat}{f:Nat->Option Value}{y z:Operand}{c:List Value}{k l:Int}{ty:TypeId}(h:Fr a n f)(hx:aD f x=some (.agg c.toArray))(Z:c.length=4)(h1:c.all (·.oneCell')=true)(hy:aD f y=some (.int .i64 k))(hz:aD f z=some (.int .i64 l)):
  Runs prog a ty (.build SPT #[(0,x),(1,y),(2,z)]) w (.value<|.agg (c++([.int .i64 k,.int .i64 l,.slice none 0 0]:List Value)).toArray) w:=by
 match c,Z,hx,h1 with
 |[c0,G,J,U],_,hx,h1=>
 simp only[List.all_cons,List.all_nil,Bool.and_true,aab]at h1;have hb:=Iu (P:=prog) (S:=λ_=>False) (w:=w) (ρ:=ρ0) (ty:=ty) (t:=SPT) (ps:=[(0,x),(1,y),(2,z)]) (vs:=[(0,.agg [.raw c0,.raw G,.raw J,.raw U]),(1,.int .i64 k),(2,.int .i64 l)]) (ys:=[(0,.agg [c0,G,J,U].toArray),(1,.int .i64 k),(2,.int .i64 l)])
  (pl:=[(0,4),(4,1),(5,1),(6,1)]) (z:=[.int .i64 0,.string ⟨#[]⟩,.slice none 0 0,.slice none 0 0,.int .i64 0,.int .i64 0,.slice none 0 0]) (zv:=[.int .i64 0,.str [],.nils,.nils,.int .i64 0,.int .i64 0,.nils]) (place:=λi=>([(0,4),(4,1),(5,1),(6,1)]:List<|Nat×Nat)[i]?) (cs:=[.raw c0,.raw G,.raw J,.raw U,.int .i64 k,.int .i64 l,.nils])
  (QL h) (by simp[eb,Ck h hx,Ck h hy,Ck h hz]) (by simp only[iT,VRel,LRel];exact⟨_,_,rfl,⟨_,rfl,_,_,rfl,⟨rfl,h1.1⟩,_,_,rfl,⟨rfl,h1.2.1⟩,_,_,rfl,⟨rfl,h1.2.2.1⟩,_,_,rfl,⟨rfl,h1.2.2.2⟩,rfl⟩,_,_,rfl,rfl,_,_,rfl,rfl,rfl⟩)
  (by kernel_rfl) (by simp[LRel,VRel]) (by kernel_rfl) (λi p h=>h) rfl
 obtain⟨x',E,hr⟩:=hb;simp only[VRel,LRel]at E;obtain⟨_,rfl,_,_,rfl,⟨rfl,_⟩,_,_,rfl,⟨rfl,_⟩,_,_,rfl,⟨rfl,_⟩,_,_,rfl,⟨rfl,_⟩,_,_,rfl,rfl,_,_,rfl,rfl,_,_,rfl,rfl,rfl⟩:=E;exact hr w Agree.refl
def DT(t:Tree):Prop:=∀(w:World) (S:Nat->Prop) (ct:List Value) (par ix:Int) (v:Value) (n:Nat) (xs:List Value),n+nN t<=1000000000->tbulk t<=1000000000->(∀b,S b->b<w.heap.size)->TreeIs S w t ct->w.ownsRow 0 SPT 7 v n xs->(∀b,v.ownBlock=some b->¬S b)->
 Calls prog 23 #[.agg ct.toArray,.int .i64 par,.int .i64 ix,v] w λe w'=>∃E ys,e=.returned E∧w'.ownsRow 0 SPT 7 E (n+nN t) (xs++ys)∧ChgP (λb=>v.ownBlock=some b) w w'∧(E.ownBlock=v.ownBlock∨∃b,E.ownBlock=some b∧w.heap.size<=b)∧
  CRel (λb=>S b∨(w.heap.size<=b∧b<w'.heap.size∧E.ownBlock≠some b)) w' ρ0 7 ((flatK t par ix n).map ae.w) ys
theorem NL{S':Nat->Prop}{w:World}{c:List Value}{par ix:Int}{kv:Value}{nums:YI}(hT:TreeIs S' w t c)(E:w.ownsRow 0 IN 1 kv nums.length<|nums.map<|Value.int .i64)(hS:∀b,kv.ownBlock=some b->S' b):VRel S' w ρ0 (ae.w ⟨t,par,ix,nums⟩) (.agg (c++[.int .i64 par,.int .i64 ix,kv]).toArray):=by
 simp only[VRel];have hv:=hT.vrel (ρ:=ρ0);obtain⟨A,m,rfl,G,J⟩:=bY E;refine⟨_,I,LRel.append (us:=[.int .i64 par,.int .i64 ix,.row 1<|List.map (V.int .i64) nums]) hv ?_⟩;simp only[LRel,VRel];refine⟨_,_,I,I,_,_,I,I,_,_,I,⟨A,m,nums.map<|Value.int .i64,by rw[aam],by rw[aam];exact G,J,?_,?_⟩,I⟩
 ·have :∀l:YI,CRel S' w ρ0 1 (l.map<|V.int .i64) (l.map<|Value.int .i64):=λl=>by
   induction l with
   |nil=>simp[CRel]
   |cons x r ih=>simp only[aah,CRel,VRel];exact⟨_,_,rfl,⟨rfl,rfl⟩,rfl,ih⟩
  exact this nums
 ·rw[aam];refine⟨by simp,λhn=>?_⟩;obtain⟨g,cap,U,_⟩:=E.form hn;injection U with e1 _ e3
  subst e1 e3;have Z:=E.lt g rfl;exact⟨g,0,I,hS g I,Z.2,λj hj=>by rw[Nat.zero_add];exact fW E hj⟩
theorem Nk{zs:List Value}{a0 a1 a2 a3 E G J u:Value}:(xs++[a0,a1,a2,a3,E,G,J]++zs).set (xs.length+6) u=xs++[a0,a1,a2,a3,E,G,u]++zs:=by
 rw[aak,List.set_append_right _ _<|by omega];simp
theorem NA(xs zs:List Value)(a0 a1 a2 a3 G J E:Value):(xs++[a0,a1,a2,a3,G,J,E]++zs)[xs.length+6]?=some E:=by
 rw[aak,List.getElem?_append_right<|by omega];simp
theorem Lo (t:Tree) (ih:∀(i:Nat) (u:Tree),t.kids[i]?=some u->DT u):DT t:=by
  obtain⟨k,s,ls,ks⟩:=t;intro w S ct par ix v n xs hn hbk hS hT hO hvS;have hT0:=hT;simp only[TreeIs]at hT;obtain⟨A,m,B',n',rfl,hm1,hm2,hm3,hm4,hA,kcs,hKT,hKR⟩:=hT;simp only[Tree.kids]at ih;simp only[tbulk]at hbk;simp only[nN]at hn;have hkl:=it ks;have hnl:=wc ks;have hxl:xs.length=n*7:=hO.1;have hvlt:∀b,v.ownBlock=some b->b<w.heap.size:=λb hb=>(hO.lt b hb).2;obtain⟨A0,c0,hv0,hc0,hc1⟩:=bY hO;refine rE 49 func23 I I I ?_;intro a hf;refine rGf 60 hf I ?_;clear hf a;intro a hf;obtain⟨w1,b4,he,hB4,hx1,e4,l4⟩:=KY (P:=prog) (t:=TT) (x:=(.tmp 0)) hf rfl rfl w 0;refine rV hf I he ?_;clear he hf a;intro a hf;have hO1:w1.ownsRow 0 SPT 7 v n xs:=cf hO λb hb=>hx1.block b (hvlt b hb) nm0;subst hv0;refine rGf 60 hf I ?_;clear hf a;intro a hf;refine rV hf I (wf hf underlying59 I) ?_;clear hf a;intro a hf;refine rGf 60 hf I ?_;clear hf a;intro a hf;refine rV hf I (CE (m:=4) hf I (by kernel_rfl) hB4 I) ?_;clear hf a;intro a hf;refine rGf 60 hf I ?_;clear hf a;intro a hf;refine rV hf I (Qi hf I I I I I) ?_;clear hf a;intro a hf
  skip
  obtain⟨w2,g2,he,hG2,hx2,eg2,lg2⟩:=ra (P:=prog) (t:=59) (m:=1) (ps:=[(0,.tmp 18)]) (sz:=7) hf rfl underlying59 (by kernel_rfl) (z:=[.int .i64 0,.string ⟨#[]⟩,.slice none 0 0,.slice none 0 0,.int .i64 0,.int .i64 0,.slice none 0 0]) (by kernel_rfl) rfl rfl rfl rfl w1 0;refine rV hf I he ?_;clear he hf a;intro a hf;have s1:=hx1.size;have s2:=hx2.size;have hO2:w2.ownsRow 0 SPT 7 (.slice A0 n c0) n xs:=cf hO1 (λb hb=>hx2.block b (by have :=hvlt b hb;omega) nm0);have hB4':=hB4.c0 hx2;obtain⟨v1,w3,he,hO3,hx3,hv1⟩:=Hy (P:=prog) (x:=.tmp 14) (y:=.tmp 19) (t:=59) (z:=.agg #[.int .i64 0,.string ⟨#[]⟩,.slice none 0 0,.slice none 0 0,.int .i64 0,.int .i64 0,.slice none 0 0]) (by_:=112) hf rfl rfl hO2 rfl (λj q hq=>by rw[Nat.zero_add,hG2.cell];exact hq) (λq hq=>by simp[Value.cells]at hq;rcases hq with rfl|rfl|rfl|rfl|rfl|rfl|rfl<;>rfl) underlying59 (by kernel_rfl) rfl (by decide) rfl (by omega) 0;refine rV hf I he ?_;clear he hf a;intro a hf;have s3:=hx3.size;have hB4:=hB4'.chg hx3 (by
    intro hc;have :=hvlt b4 (by simpa using hc);omega)
  have hC:ChgP (λb=>(Value.slice A0 n c0).ownBlock=some b) w w3:=((ChgP.of0 hx1 (X:=λb=>(Value.slice A0 n c0).ownBlock=some b)).trans (ChgP.of0 hx2 (X:=λ_=>False)) (λ_ h=>h.elim)).trans (ChgP.of hx3) (λb hb=>.inl (by simpa using hb));have hv1':v1.ownBlock=(Value.slice A0 n c0).ownBlock∨∃b,v1.ownBlock=some b∧w.heap.size<=b:=hv1.imp id λh=>⟨_,h,by omega⟩;obtain⟨v,hv⟩:∃v,v=Value.slice A0 n c0:=⟨_,rfl⟩;rw[<-hv]at hC hv1' hvS hvlt;clear hx1 hx2 hx3 hO hO1 hO2 hG2 hB4' hv1;refine rGf 60 hf I ?_;clear hf a;intro a hf;refine rV hf I (NJ hf I (by kernel_rfl) hB4 I) ?_;clear hf a;intro a hf;refine rV hf I (wf hf underlying22 I) ?_;clear hf a;intro a hf;refine rGf 60 hf I ?_;clear hf a;intro a hf;have out:∀(w':World),ChgP (λb=>v.ownBlock=some b) w w'->∀x,S x->x<w.heap.size->w'.heap[x]?=w.heap[x]?:=λw' hc x h1 h2=>hc.block x h2 (λh=>hvS x h h1);refine rL (λmm a w'=>∃(i:Nat) (vi kv:Value) (zs:List Value),mm=ks.length-i∧i<=ks.length∧Fr a 49 (fm [(3,vi),(9,.int .i64 (n:Nat)),(22,.slice B' ks.length n'),(23,.int .i64 (ks.length:Nat)),(24,.int .i64 (i:Nat))])∧
      ChgP (λb=>v.ownBlock=some b) w w'∧w'.ownsRow 0 SPT 7 vi (n+1+nNs (ks.take i)) (xs++[.int .i64 k,kK s,.slice A ls.length m,.slice B' ks.length n',.int .i64 par,.int .i64 ix,kv]++zs)∧(vi.ownBlock=v.ownBlock∨∃b,vi.ownBlock=some b∧w.heap.size<=b)∧
      w'.ownsRow 0 IN 1 kv i ((fG (ks.take i)<|n+1).map<|Value.int .i64)∧(∀b,kv.ownBlock=some b->w.heap.size<=b∧vi.ownBlock≠some b)∧
      CRel (λb=>S b∨(w.heap.size<=b∧b<w'.heap.size∧vi.ownBlock≠some b∧kv.ownBlock≠some b)) w' ρ0 7 ((flatKs (ks.take i) n 0 (n+1)).map ae.w) zs) ks.length
    ⟨0,v1,.slice none 0 0,[],by omega,aat _,hf.pick ⟨rfl,rfl,rfl,rfl,rfl,trivial⟩,hC,by simpa[nNs,Value.cells]using hO3,hv1',by simpa[fG]using World.ownsRow_nil w3 0 IN 1,λb hb=>by simp[Value.ownBlock]at hb,by simp[flatKs,CRel]⟩ ?_
  clear hf a hC hO3 hv1' hB4;rintro _ a w7 ⟨i,vi,kv,zs,rfl,hi1,hf,hC,hO,hvi,hK,hkv,hZ⟩;have htl:nNs (ks.take i)<=nNs ks:=mT ks i;by_cases hlt:i<ks.length
  · skip
    obtain⟨kb,ko,rfl,hkS,hkb,hcell⟩:=hKR.2 (by omega);obtain⟨d0,d1,d2,d3,hT,hKc⟩:=Rj hKT hlt;have hu:=List.getElem?_eq_getElem hlt;have htk:=fy hu;have htb:=cP hu;have on_T:=hT.one;have s7:=hC.size;replace hT:=hT.keepB (S':=S) (w':=w7) (λx h1 h2=>h1) λx h1 h2=>out w7 hC x h1 h2;have hK7:∀j,j<4->w7.cell? ⟨kb,ko+i*4+j,none⟩=([d0,d1,d2,d3]:List Value)[j]?:=λj hj=>by
      rw[World.cell?_of_block (a:=⟨kb,ko+i*4+j,none⟩)<|out w7 hC kb hkS hkb,aav,hcell _<|by omega];exact hKc j hj
    obtain⟨g,cap,rfl,_⟩:=hO.form (by omega);have hglt:=(hO.lt g rfl).2;have hgS:¬S g:=λh=>hvi.elim (λe=>hvS g (by rw[<-e];rfl) h) λ⟨b,e,hb⟩=>by simp only[Value.ownBlock,aaa]at e;have :=hS g h;omega
    have hklt:∀b,kv.ownBlock=some b->b<w7.heap.size:=λb hb=>(hK.lt b hb).2;refine rGf 60 hf I ?_;clear hf a;intro a hf;refine rV hf rfl (DS (c:=true) hf rfl rfl (by simp;omega)) ?_;clear hf a;intro a hf;refine rGf 60 hf I ?_;clear hf a;intro a hf;refine rV hf I (pT (sz:=4) (k:=i) hf underlying22 (by kernel_rfl) I I I hlt I) ?_;clear hf a;intro a hf;refine rV hf I (ex_loadN (cs:=[d0,d1,d2,d3]) (m:=4) hf I (by kernel_rfl) I hK7) ?_;clear hf a;intro a hf;obtain⟨w8,b11,he,hB11,hx8,e11,l11⟩:=eT a w7 0;refine rV hf I he ?_;clear he hf a;intro a hf;refine rGf 60 hf I ?_;clear hf a;intro a hf;obtain⟨w9,he,hB11',hx9⟩:=eN (.tmp 11) (.tmp 28) hf rfl rfl rfl on_T hB11 rfl 0;refine rS hf I he ?_;clear he hf a;intro a hf;have s8:=hx8.size;have s9:=hx9.size;have keep9:∀x,x<w7.heap.size->w9.heap[x]?=w7.heap[x]?:=λx hx=>(hx9.block x (by omega) (by simp;omega)).trans<|hx8.block x hx nm0;have hO9:=cf hO (w':=w9) λb hb=>keep9 b (hO.lt b hb).2;have hK9:=cf hK (w':=w9) λb hb=>keep9 b<|hklt b hb;have hlen:(xs++[.int .i64 k,kK s,.slice A ls.length m,.slice (some ⟨kb,ko,none⟩) ks.length n',.int .i64 par,.int .i64 ix,kv]++zs).length=(n+1+nNs (ks.take i))*7:=hO9.1;have hkc:w9.cell? ⟨g,n*7+6,none⟩=some kv:=by rw[fW hO9 (by omega),<-hxl];exact NA ..
    refine rGf 60 hf I ?_;clear hf a;intro a hf;refine rV hf I (pT (sz:=7) (k:=n) (r:=n*7) hf underlying59 (by kernel_rfl) I I I (by omega) (by omega)) ?_;clear hf a;intro a hf;refine rGf 60 hf I ?_;clear hf a;intro a hf;refine rV hf I (ex_load hf I (by kernel_rfl) hkc) ?_;clear hf a;intro a hf;refine rGf 60 hf I ?_;clear hf a;intro a hf;refine rV hf I (wf hf underlying59 I) ?_;clear hf a;intro a hf;obtain⟨w10,g10,he,hG10,hx10,eg10,lg10⟩:=ra (P:=prog) (t:=36) (m:=1) (ps:=[(0,.tmp 37)]) (sz:=1) (z:=[.int .i64 0]) hf rfl underlying36 (by kernel_rfl) (by kernel_rfl) rfl rfl rfl rfl w9 0;refine rV hf I he ?_;clear he hf a;intro a hf;have s10:=hx10.size;have hO10:=cf hO9 (w':=w10) (λb hb=>hx10.block b ((hO9.lt b hb).2) nm0);have hK10:=cf hK9 (w':=w10) (λb hb=>hx10.block b ((hK9.lt b hb).2) nm0);obtain⟨kv',w11,he,hK11,hx11,hkv'⟩:=Hy (P:=prog) (x:=.tmp 35) (y:=.tmp 38) (t:=36) (z:=.int .i64 0) (by_:=8) hf rfl rfl hK10 rfl (λj q hq=>by rw[Nat.zero_add,hG10.cell];exact hq) (λq hq=>by simp[Value.cells]at hq;subst hq;rfl) underlying36 (by kernel_rfl) rfl (by decide) rfl (by omega) 0;refine rV hf I he ?_;clear he hf a;intro a hf;have s11:=hx11.size;have ngk:kv.ownBlock≠some g:=λe=>(hkv g e).2 rfl;have hO11:=cf hO10 (w':=w11) (λb hb=>by simp only[Value.ownBlock,aaa]at hb;subst hb;exact hx11.block _ (by omega) (λhc=>ngk (by simpa using hc)))
    refine rV hf I (pT (sz:=7) (k:=n) (r:=n*7) hf underlying59 (by kernel_rfl) I I I (by omega)<|by omega) ?_;clear hf a;intro a hf;refine rGf 60 hf I ?_;clear hf a;intro a hf;obtain⟨w12,he,hO12,hx12⟩:=Ko (P:=prog) (t:=36) (x:=.tmp 41) (y:=.tmp 39) hf rfl rfl (by kernel_rfl) (rU hK11) hO11 (by omega) 0;refine rS hf I he ?_;clear he hf a;intro a hf;have s12:=hx12.size;rw[<-hxl,Nk]at hO12;have hkb':∀b,kv'.ownBlock=some b->(kv.ownBlock=some b∨b=w10.heap.size):=λb hb=>hkv'.elim (λe=>.inl (by rw[<-e];exact hb)) (λe=>.inr (by rw[hb]at e;exact Option.some.inj e));have ng':kv'.ownBlock≠some g:=λe=>(hkb' g e).elim ngk λe=>by omega
    have hK12:=cf hK11 (w':=w12) (λb hb=>hx12.block b ((hK11.lt b hb).2) (by simp only[List.mem_singleton];intro e;subst e;exact ng' hb));have hB12:Blk w12 b11 TT [d0,d1,d2,d3]:=((hB11'.c0 hx10).chg hx11 (λhc=>by have :=hklt b11 (by simpa using hc);omega)).chg hx12 (by simp;omega);have keep12:∀x,x<w7.heap.size->x≠g->kv.ownBlock≠some x->w12.heap[x]?=w7.heap[x]?:=λx hx h1 h2=>(hx12.block x (by omega)<|by simpa using h1).trans ((hx11.block x (by omega) λhc=>h2<|by simpa using hc).trans<|(hx10.block x (by omega) nm0).trans<|keep9 x hx);have nS:∀x,S x->x<w7.heap.size∧x≠g∧kv.ownBlock≠some x:=λx hx=>⟨by have :=hS x hx;omega,λe=>hgS<|e▸hx,λe=>by have :=(hkv x e).1;have :=hS x hx;omega⟩;replace hT:=hT.keepB (S':=S) (w':=w12) (λx h1 h2=>h1) λx h1 h2=>keep12 x (nS x h1).1 (nS x h1).2.1 (nS x h1).2.2;have hC12:ChgP (λb=>v.ownBlock=some b) w w12:=by
      refine((((hC.trans (ChgP.of0 hx8 (X:=λ_=>False)) λ_ h=>h.elim).trans (ChgP.of hx9) (λb hb=>by simp at hb;omega)).trans (ChgP.of0 hx10 (X:=λ_=>False)) λ_ h=>h.elim).trans (ChgP.of hx11) λb hb=>.inr (hkv b<|by simpa using hb).1).trans (ChgP.of hx12) λb hb=>?_;simp only[List.mem_singleton]at hb;subst hb;exact hvi.imp (λe=>by rw[<-e];rfl) λ⟨c,e,hc⟩=>by simp only[Value.ownBlock,aaa]at e;omega
    refine rGf 60 hf I ?_;clear hf a;intro a hf;refine rV hf I (CE (m:=4) hf I (by kernel_rfl) hB12 I) ?_;clear hf a;intro a hf;refine rGf 60 hf I ?_;clear hf a;intro a hf;refine rC hf I I (by kernel_rfl) (ih i ks[i] hu w12 S [d0,d1,d2,d3] (n:Nat) (i:Nat) _ _ _ (by omega) (by omega) (λb hb=>by have :=(nS b hb).1;omega) hT hO12 (λb hb=>by simp only[Value.ownBlock,aaa]at hb;subst hb;exact hgS)) ?_
    rintro _ w13 ⟨v2,ys,rfl,hO13,hx13,hv2,hY⟩;refine⟨_,I,?_⟩;clear hf a;intro a hf;have s13:=hx13.size;have nv2:∀b,b<w12.heap.size->b≠g->v2.ownBlock≠some b:=λb h1 h2 e=>hv2.elim (λe2=>h2 (by rw[e]at e2;simpa[Value.ownBlock]using e2)) λ⟨c,e2,h3⟩=>by rw[e]at e2;have :=Option.some.inj e2;omega
    have hk'lt:∀b,kv'.ownBlock=some b->b<w12.heap.size:=λb hb=>(hK12.lt b hb).2;have hK13:=cf hK12 (w':=w13) (λb hb=>hx13.block b (hk'lt b hb) (λe=>by simp only[Value.ownBlock,aaa]at e;subst e;exact ng' hb))
    refine rGf 60 hf I ?_;clear hf a;intro a hf;refine rV hf rfl (PE (r:=((i+1:Nat):Int)) hf rfl rfl (by simp)<|by omega) ?_;clear hf a;intro a hf;refine rGf 60 hf I ?_;clear hf a;intro a hf;refine rX ?_;have hlt3:i<(fG ks<|n+1).length:=by rw[gD];exact hlt
    refine⟨ks.length-(i+1),by omega,i+1,v2,kv',zs++ys,I,hlt,hf.pick ⟨I,I,I,I,I,trivial⟩,hC12.trans hx13 λb hb=>?_,?_,?_,?_,λb hb=>⟨?_,nv2 b (hk'lt b hb) λe=>ng'<|e▸hb⟩,?_⟩
    · simp only[Value.ownBlock,Option.some.injEq]at hb;subst hb;exact hvi.imp (λe=>by rw[<-e];rfl) λ⟨c,e,hc⟩=>by simp only[Value.ownBlock,aaa]at e;omega
    ·rw[ol hu,<-aav,<-aak];exact hO13
    · rcases hv2 with e|⟨c,e,hc⟩
      ·rw[e];exact hvi
      ·exact .inr ⟨c,e,by omega⟩
    · rw[List.take_add_one,hu,Option.toList_some,Da,List.map_append];exact hK13
    · rcases hkb' b hb with e|e
      ·exact(hkv b e).1
      ·omega
    · rw[List.take_add_one,hu,Option.toList_some,zC,List.map_append,Nat.zero_add,List.length_take,Nat.min_eq_left hi1];refine CRel.append (CRel.up ⟨λb hb=>?_,λb hb hbl=>?_,λ_ _ h=>h⟩ hZ) (CRel.up ⟨λb hb=>?_,λb _ _=>I,λ_ _ h=>h⟩ hY)
      · rcases hb with hb|⟨q1,q2,q3,q4⟩
        ·exact .inl hb
        · have qg:b≠g:=λe=>q3 (by rw[e];rfl);exact .inr ⟨q1,by omega,nv2 b (by omega) qg,λe=>(hkb' b e).elim q4 λe=>by omega⟩
      · have h3:b<w7.heap.size∧b≠g∧kv.ownBlock≠some b:=by
          rcases hb with hb|⟨q1,q2,q3,q4⟩
          ·exact nS b hb
          ·exact⟨q2,λe=>q3 (by rw[e];rfl),q4⟩
        exact(hx13.block b (by omega) (λe=>by simp only[Value.ownBlock,aaa]at e;exact h3.2.1 e.symm)).trans<|keep12 b h3.1 h3.2.1 h3.2.2
      · rcases hb with hb|⟨q1,q2,q3⟩
        ·exact .inl hb
        ·exact .inr ⟨by omega,q2,q3,λe=>by have :=hk'lt b e;omega⟩
  have hi':i=ks.length:=by omega
  subst hi';rw[List.take_length]at hO hK hZ;refine rGf 60 hf I ?_;clear hf a;intro a hf;refine rV hf rfl (DS (c:=false) hf rfl rfl<|by simp) ?_;clear hf a;intro a hf;refine rGf 60 hf I ?_;clear hf a;intro a hf;refine rO ?_;refine rGf 60 hf I ?_;clear hf a;intro a hf;have hT7:=hT0.keepB (S':=λb=>S b∨(w.heap.size<=b∧b<w7.heap.size∧vi.ownBlock≠some b)) (w':=w7) (λx h1 h2=>.inl h1) λx h1 h2=>out w7 hC x h1 h2;have hsp:=NL (par:=par) (ix:=ix) (nums:=fG ks<|n+1) hT7 (by rw[gD];exact hK) λb hb=>.inr ⟨(hkv b hb).1,(hK.lt b hb).2,(hkv b hb).2⟩;refine rT (rs:=[.tmp 8]) hf I ⟨_,_,I,I,I⟩ ⟨vi,[.int .i64 k,kK s,.slice A ls.length m,.slice B' ks.length n',.int .i64 par,.int .i64 ix,kv]++zs,I,?_,by rw[<-hv];exact hC,by rw[<-hv];exact hvi,?_⟩
  ·rw[<-aak,show n+nN (.node k s ls ks)=n+1+nNs ks by simp only[nN];omega];exact hO
  · simp only[flatK,List.map_cons,CRel];refine⟨_,zs,I,⟨I,?_⟩,hsp,CRel.up ⟨λb hb=>hb.imp id λh=>⟨h.1,h.2.1,h.2.2.1⟩,λb _ _=>I,λ_ _ h=>h⟩ hZ⟩;have :=rU hK;simp[Value.cells,Value.oneCell',kK]at this⊢;exact this
theorem Mv:∀t,DT t:=df Lo
theorem Mf(t:Tree)(par ix:Int)(ht:tbulk t<=1000000000):rI t par ix (flatK t par ix 0):=by
 refine⟨I,I,λS w ρ xs hr hx=>?_⟩;simp only[LRel]at hx;obtain⟨y0,_,rfl,E,y1,_,rfl,J,y2,_,rfl,U,y3,_,rfl,Z,rfl⟩:=hx;simp only[VRel]at E J U Z;obtain⟨ct,rfl,E⟩:=E;subst J U Z;have hnb:=nN_bulk t;refine(Mv t w S ct par ix (.slice none 0 0) 0 [] (by omega) ht hr.slt (LRel.tree E) (World.ownsRow_nil w 0 SPT 7) λb hb=>by cases hb).mono ?_;rintro e w' ⟨v',ys,rfl,G,hC,hv,hY⟩;have hch:Chg [] w w':=⟨hC.os,hC.tape,hC.output,hC.size,λb hb _=>hC.block b hb λh=>by cases h⟩;have g:=hr.chg0 hch;refine⟨_,λb=>S b∨(w.heap.size<=b∧b<w'.heap.size),ρ,_,⟨0,[]⟩,I,I,⟨λi=>?_,λi b hb=>?_,λi j b hb _=>?_,g.slt.up (ρ:=ρ0) (ρ':=ρ0) ⟨λ_ h=>.inl h,λ_ _ _=>I,λ_ _ h=>h⟩ (λb hb=>hb.elim (g.slt b) (·.2))⟩,⟨ChgP.of0 hch,λ_ h=>.inl h,λb hb=>hb.elim .inl λh=>.inr<|.inr h.1,λid b hb=>by rw[ut]at hb;exact hb.elim,λid x h=>?_⟩,?_⟩
 ·have :=g.ob i;rw[ut]at this⊢;exact this
 ·rw[ut]at hb;exact hb.elim
 ·rw[ut]at hb;exact hb.elim
 ·simp only[pU]at h;split at h
  ·exact h
  ·cases h
 ·simp only[VRel];rw[Nat.zero_add,aal]at G;obtain⟨A,m,rfl,hm1,hm2⟩:=bY G;have hl:((flatK t par ix 0).map ae.w).length=nN t:=by rw[aam,flatK_len]
  refine⟨A,m,ys,by rw[hl],by rw[hl];exact hm1,hm2,CRel.up ⟨λb hb=>hb.imp id λh=>⟨h.1,h.2.1⟩,λb _ _=>I,λ_ _ h=>h⟩ hY,?_⟩;rw[hl];refine⟨G.1,λhn=>?_⟩;obtain⟨g',cap,hv',_⟩:=G.form hn;injection hv' with e1 _ e3
  subst e1 e3;have hg:=(G.lt g' rfl).2;have hge:w.heap.size<=g':=hv.elim (λe=>by cases e) λ⟨b,e,hb⟩=>by simp only[Value.ownBlock,aaa]at e;omega
  exact⟨g',0,I,.inr ⟨hge,hg⟩,hg,λj hj=>by rw[Nat.zero_add];exact fW G hj⟩
def wL:List (YI×Tree)->Nat
 |[]=>0
 |x::r=>3+x.2.leads.length+wL r
theorem LF:∀a b,wL (a++b)=wL a+wL b
 |[],b=>by simp[wL]
 |x::r,b=>by simp only[aap,wL,LF r b];omega
mutual
theorem wL_bulk:∀(t:Tree) (q:YI),wL (nodK t q)<=3*tbulk t
 |.node k s l ks,q=>by have :=wL_bulks ks q 0;have :=xu l;simp only[nodK,wL,tbulk,Tree.leads];omega
theorem wL_bulks:∀(l:YT) (q:YI) (i:Nat),wL (nodKs l q i)<=3*kbulk l
 |[],_,_=>by simp[nodKs,wL]
 |t::r,q,i=>by
  have :=wL_bulk t<|q++[(i:Int)];have :=wL_bulks r q<|i+1;simp only[nodKs,LF,kbulk];omega
end
def xp(b:Int)(p:YT)(m:Nat)(t:Tree):List (YI×Tree)->List aj
 |[]=>[]
 |x::l=>rr b p m t x.1++xp b p m t l
def gw(b:Int)(p:YT):Nat->YT->List aj
 |_,[]=>[]
 |m,t::r=>xp b p m t (nodK t [])++gw b p (m+1) r
def okP(V:Tree->Bool)(p:YT):Bool:=decide (p.length<=8)&&p.all λt=>t.kind==1&&V t
def cq(V:Tree->Bool)(b:Int)(p:YT):aJ×Int×Int:=
 if okP V p=true∧tc b=true then(if nNs p=0 then(⟨[]⟩,b,0)else if(eE b (nNs p:Nat)).2≠0 then(⟨[]⟩,0,(eE b (nNs p:Nat)).2)else(⟨nzF<|gw b p 0 p⟩,(eE b (nNs p:Nat)).1,0))else(⟨[]⟩,0,5)
theorem JY(p:YT)(t:Tree):bO (p++[t])=bO p++[flatK t (-1) 0 0]:=by simp[bO]
theorem EZ:∀(p:YT) (n:Nat) (t:Tree),dL n (p++[t])=dL n p++[((n+nNs p:Nat):Int)]
 |[],n,t=>by simp[dL,nNs]
 |u::r,n,t=>by simp only[aap,dL,EZ r _ t,nNs];rw[show n+nN u+nNs r=n+(nN u+nNs r) by omega]
theorem GY:∀(p:YT) (n:Nat),(dL n p).length=p.length
 |[],n=>rfl
 |u::r,n=>by simp[dL,GY r]
theorem yP{n:Nat}{x:YI×Tree}(h:(nodK t [])[n]?=some x):atK t x.1=some x.2∧ay t x.1=n:=by obtain⟨r,h1,h2,E⟩:=nodK_num t [] n x h;rw[aal]at h1;rw[h1];exact⟨h2,E⟩
theorem PB{b k:Int}(hb:tc b=true)(E:1<=k):(eE b k).2=0∨(eE b k).2=17:=by
 have :1048576<=b∧b<34603008:=by simpa[tc]using hb
 rw[eE,if_pos ⟨hb,by omega⟩];split
 ·exact .inr I
 ·rw[if_neg<|by omega];exact .inl rfl
theorem c_Bind {V:Tree->Bool} {b:Int} {p:List Tree} (hb:kbulk p<=100000000) (hV:∀t∈p,lV t<|V t) (hs:∀t∈p,V t=true->shapeK t=true) (hf:okP V p=true->Few p):jw p b (cq V b p).1 (cq V b p).2.1 (cq V b p).2.2:=by
 have hpl:=it p;by_cases h8:8<((p.length:Nat):Int)
 ·have hn:okP V p=false:=by rw[okP,decide_eq_false<|by omega];rfl
  have e:cq V b p=(⟨[]⟩,0,5):=by rw[cq,if_neg (by rw[hn];simp)]
  rw[e];exact uu 0 _ _ _ _ _<|⟨λ_=>⟨rfl,rfl,rfl⟩,λh=>absurd h8 h⟩
 ·
  have rest:okP V p=true->∃M,ip M p b p.length (cq V b p).1 (cq V b p).2.1 (cq V b p).2.2:=λhok=>by
   have hF:=hf hok;have hall:∀t∈p,t.kind=1∧shapeK t=true:=λt ht=>by simp only[okP,aab,List.all_eq_true,aar]at hok;obtain⟨a1,a2⟩:=hok.2 t ht;exact⟨a1,hs t ht a2⟩
   have hp:ea p=true:=by
    clear hf hF hb hV hs hok hpl h8
    induction p with
    |nil=>rfl
    |cons t r ih=>
     obtain⟨a1,a2⟩:=hall t (by simp);simp only[ea,a1,a2,ih λx hx=>hall x<|by simp[hx]];rfl
   have n1:=Ag b 1 (by omega);by_cases hbs:tc b=true
   rotate_left
   ·have e:cq V b p=(⟨[]⟩,0,5):=by rw[cq,if_neg λh=>hbs h.2]
    have e1:eE b 1=(0,5):=by rw[eE,if_neg λh=>hbs h.1]
    rw[e];rw[e1]at n1;exact⟨1,gL 0 _ _ _ _ _ _<|⟨λh=>by omega,λ_=>⟨_,_,n1,λ_=>⟨I,I,I⟩,λh=>absurd I h⟩⟩⟩
   have hn1:=PB hbs (k:=1) (by omega);have hnb:=nNs_bulk p;have cells:nNs p≠0->(eE b (nNs p:Nat)).2=0->∃M,iu M b (bO p) (dL 0 p) (eE b (nNs p:Nat)).1 (jk p) 0 [] ⟨nzF<|gw b p 0 p⟩ (eE b (nNs p:Nat)).1 0:=λh0 h1=>by
    have l2:∀k i (cs:List aj),k+i=p.length->cs.length+3*kbulk (p.drop i)<=1000000000->∃M,iu M b (bO p) (dL 0 p) (eE b (nNs p:Nat)).1 (jk p) i cs ⟨cs++nzF (gw b p i<|p.drop i)⟩ (eE b (nNs p:Nat)).1 0:=λk=>by
     induction k with
     |zero=>
      intro i cs hi hc;refine⟨1,sH 0 _ _ _ _ _ _ _ _ _ _ (⟨λh=>by simp[bO]at h;omega,λ_=>⟨?_,rfl,rfl⟩⟩)⟩;rw[List.drop_of_length_le<|by omega];simp[gw,nzF]
     | succ k ih=>
      intro i cs hi hc;obtain⟨t,ht⟩:∃t,p[i]?=some t:=⟨_,List.getElem?_eq_getElem (by omega)⟩;rw[bV ht,kbulk]at hc;rw[bV ht,gw,fL];have hw:=wL_bulk t [];have hbt:=cP ht;have hnt:=nN_bulk t;have l3:∀j n (cs:List aj),j+n=nN t->cs.length+wL ((nodK t []).drop n)+3*kbulk (p.drop (i+1))<=1000000000->∃M,la M b (bO p) (dL 0 p) (eE b (nNs p:Nat)).1 (jk p) (flatK t (-1) 0 0) cs n i i ⟨cs++nzF (xp b p i t ((nodK t []).drop n))++nzF (gw b p (i+1) (p.drop (i+1)))⟩ (eE b (nNs p:Nat)).1 0:=λj=>by
       induction j with
       |zero=>
        intro n cs hn hc;obtain⟨M,hM⟩:=ih (i+1) cs (by omega) (by omega);refine⟨M+1,tp M _ _ _ _ _ _ _ _ _ _ _ _ _ (⟨λh=>by rw[flatK_len]at h;omega,λ_=>⟨by omega,?_⟩⟩)⟩;rw[List.drop_of_length_le (by rw[nodK_nN];omega)];simpa[xp,nzF]using hM
       |succ j ihj=>
        intro n cs hn hc;obtain⟨x,hx⟩:∃x,(nodK t [])[n]?=some x:=⟨_,List.getElem?_eq_getElem (by rw[nodK_nN];omega)⟩;obtain⟨hat,hnum⟩:=yP hx;rw[bV hx,wL]at hc;have hr:=GA (b:=b) (cs:=cs) hb hp hF ht hat (by omega);rw[hnum]at hr;have hcl:(nzF (rr b p i t x.1)).length<=3+x.2.leads.length:=aao (BG _) (by rw[EF,fZ hat];omega);obtain⟨M,hM⟩:=ihj (n+1) (cs++nzF (rr b p i t x.1)) (by omega) (by rw[aac];omega);refine⟨M+1,tp M _ _ _ _ _ _ _ _ _ _ _ _ _ (⟨λ_=>⟨_,hr,by omega,?_⟩,λh=>by rw[flatK_len]at h;omega⟩)⟩;rw[bV hx,xp,fL,<-aak cs];exact hM
      obtain⟨M,hM⟩:=l3 (nN t) 0 cs (by omega) (by rw[List.drop_zero];omega);rw[List.drop_zero,aak]at hM;exact⟨M+1,sH M _ _ _ _ _ _ _ _ _ _<|⟨λ_=>⟨_,ev ht,hM⟩,λh=>by simp[bO]at h;omega⟩⟩
    have :=l2 p.length 0 [] (by omega) (by simp;omega)
    rwa [List.drop_zero,aal]at this
   have l1:∀k i,k+i=p.length->∃M,li M p b (bO<|p.take i) (dL 0<|p.take i) (List.replicate i []) (nNs<|p.take i) i (cq V b p).1 (cq V b p).2.1 (cq V b p).2.2:=λk=>by
    induction k with
    | zero=>
     intro i hi;rw[List.take_of_length_le (show p.length<=i by omega),show i=p.length by omega];have nx:=Ag b (nNs p:Nat) (by omega);by_cases h0:nNs p=0
     ·have e:cq V b p=(⟨[]⟩,b,0):=by rw[cq,if_pos ⟨hok,hbs⟩,if_pos h0]
      rw[e];exact⟨1,kn 0 _ _ _ _ _ _ _ _ _ _<|⟨λh=>by omega,λ_=>⟨λ_=>⟨I,I,I⟩,λh=>absurd (by omega) h⟩⟩⟩
     by_cases h1:(eE b (nNs p:Nat)).2=0
     ·obtain⟨M,hM⟩:=cells h0 h1;have e:cq V b p=(⟨nzF<|gw b p 0 p⟩,(eE b (nNs p:Nat)).1,0):=by rw[cq,if_pos ⟨hok,hbs⟩,if_neg h0,if_neg (by rw[h1];simp)]
      rw[e];have v1:=GD (b:=b) (cs:=[]) hb (List.replicate p.length []) (by simp);have v2:=Kl (b:=b) (cs:=[]) hb (dC (List.replicate p.length [])<|rx 0 p) (by simp[Aa]);exact⟨M+1,kn M _ _ _ _ _ _ _ _ _ _<|⟨λh=>by omega,λ_=>⟨λh=>absurd h (by omega),λ_=>⟨_,_,nx,λh=>absurd h1 h,λ_=>⟨_,v1,_,v2,hM⟩⟩⟩⟩⟩
     ·have e:cq V b p=(⟨[]⟩,0,(eE b (nNs p:Nat)).2):=by rw[cq,if_pos ⟨hok,hbs⟩,if_neg h0,if_pos h1]
      rw[e];exact⟨1,kn 0 _ _ _ _ _ _ _ _ _ _<|⟨λh=>by omega,λ_=>⟨λh=>absurd h (by omega),λ_=>⟨_,_,nx,λ_=>⟨I,I,I⟩,λh=>absurd h h1⟩⟩⟩⟩
    |succ k ih=>
     intro i hi;obtain⟨t,ht⟩:∃t,p[i]?=some t:=⟨_,List.getElem?_eq_getElem (by omega)⟩;have hbt:=cP ht;obtain⟨M,hM⟩:=ih (i+1) (by omega);have htk:p.take (i+1)=p.take i++[t]:=by rw[List.take_add_one,ht];rfl
     have hnl:=fy ht;have hfl:(flatK t (-1) 0 0).length=nN t:=flatK_len ..;rw[htk,JY,EZ,BQ,Nat.zero_add,show nNs [t]=nN t by simp[nNs],<-hfl,List.replicate_succ']at hM;refine⟨M+1,kn M _ _ _ _ _ _ _ _ _ _<|⟨λ_=>⟨t,ht,_,Mf t (-1) 0 (by omega),?_,?_,?_,by rw[hfl];omega,by omega,hM⟩,λh=>by omega⟩⟩
     ·simp[bO];omega
     ·simp[GY];omega
     ·simp;omega
   obtain⟨M,hM⟩:=l1 p.length 0 (by omega);refine⟨M+1,gL M _ _ _ _ _ _<|⟨λh=>by omega,λ_=>⟨_,_,n1,λh=>by omega,λ_=>?_⟩⟩⟩;simpa[bO,dL,nNs]using hM
  have l0:∀k i,k+i=p.length->(∀(j:Nat) t,j<i->p[j]?=some t->t.kind=1∧V t=true)->∃M,ip M p b i (cq V b p).1 (cq V b p).2.1 (cq V b p).2.2:=λk=>by
   induction k with
   |zero=>
    intro i hi hh;rw[show i=p.length by omega];refine rest ?_;simp only[okP,aab,aas,List.all_eq_true,aar];refine⟨by omega,λt ht=>?_⟩;obtain⟨j,hj,e⟩:=aaC ht;exact hh j t (by omega) (by rw[List.getElem?_eq_getElem hj,e])
   | succ k ih=>
    intro i hi hh;obtain⟨t,ht⟩:∃t,p[i]?=some t:=⟨_,List.getElem?_eq_getElem (by omega)⟩;have bad:¬(t.kind=1∧V t=true)->cq V b p=(⟨[]⟩,0,5):=λhn=>by
     rw[cq,if_neg];intro h;have :=h.1;simp only[okP,aab,aas,List.all_eq_true,aar]at this;exact hn<|this.2 t (List.mem_of_getElem? ht)
    have hv:=hV t<|List.mem_of_getElem? ht;by_cases h1:t.kind=1
    ·by_cases h2:V t=true
     ·obtain⟨M,hM⟩:=ih (i+1) (by omega) (λj u hj hu=>by
       by_cases hlt:j<i
       ·exact hh j u hlt hu
       ·have :j=i:=by omega
        subst this;rw[ht]at hu;injection hu with hu
        subst hu;exact⟨h1,h2⟩)
      exact⟨M+1,gL M _ _ _ _ _ _<|⟨λ_=>⟨t,ht,λh=>absurd h1 h,λ_=>⟨_,hv,λh=>absurd h2 (by rw[h];simp),λ_=>⟨by omega,hM⟩⟩⟩,λh=>by omega⟩⟩
     ·rw[bad λh=>h2 h.2];exact⟨1,gL 0 _ _ _ _ _ _<|⟨λ_=>⟨t,ht,λh=>absurd h1 h,λ_=>⟨_,hv,λ_=>⟨I,I,I⟩,λh=>absurd h h2⟩⟩,λh=>by omega⟩⟩
    ·rw[bad λh=>h1 h.1];exact⟨1,gL 0 _ _ _ _ _ _<|⟨λ_=>⟨t,ht,λ_=>⟨I,I,I⟩,λh=>absurd h h1⟩,λh=>by omega⟩⟩
  obtain⟨M,hM⟩:=l0 p.length 0 (by omega) (λj t hj=>by omega);exact uu M _ _ _ _ _<|⟨λh=>absurd h h8,λ_=>hM⟩
theorem LV:(prog.info? 140).map (·.size)=some 2:=by kernel_rfl
theorem Oa:(prog.info? 5).map (λi=>(i.zero,i.size,i.bytes))=some (some<|.int .u8 0,1,1):=by kernel_rfl
theorem LK:prog.cellsOf 5=1:=by kernel_rfl
theorem Rb:liesAt prog prog.depth 142 (3/prog.cellsOf 142) 0 140 1=true:=by kernel_rfl
abbrev PrB(b:Nat)(p v:Value)(last:YB)(w:World):Prop:=w.heap[b]?=some (.cells #[p,v,.string ⟨last.toArray⟩] 142 (0,0))
abbrev Buf(v:Value)(l:YB)(w:World):Prop:=w.ownsRow 0 5 1 v l.length (Lib.byteCells l)
theorem zY{w:World}{o:Obj}(h:w.heap[b]?=some o):b<w.heap.size:=by
 rcases Nat.lt_or_ge b w.heap.size with h'|h'
 ·exact h'
 ·simp[Array.getElem?_eq_none h']at h
set_option maxHeartbeats 1000000 in
theorem Cl(b:Nat)(w:World)(G:w.cell? ⟨b,0,none⟩=some (.pointer<|some ⟨b,0,none⟩)):
  Calls prog 198 #[.pointer<|some ⟨b,0,none⟩] w λe w'=>e=.returned (.tuple #[])∧w=w':=by
 obtain⟨j,E,_⟩:=Option.map_eq_some_iff.1 LV
 go_enter func198,ntmps198
 go_wp2
 rw[Lib.run_neq_ptr_same w _ underlying138 E]
 go_wp2
 go_end0
 exact⟨I,I⟩
set_option maxHeartbeats 1000000 in
theorem Bq(b:Nat)(w:World)(Z:w.cell? ⟨b,0,none⟩=some (.pointer none))(E:w.shape? b=some (142,3))(U:w.frozen? ⟨b,0,none⟩=false):
  Calls prog 198 #[.pointer<|some ⟨b,0,none⟩] w λe w'=>e=.returned (.tuple #[])∧w'=w.setCell ⟨b,0,none⟩ (.pointer<|some ⟨b,0,none⟩):=by
 obtain⟨j,J,G⟩:=Option.map_eq_some_iff.1 LV
 go_enter func198,ntmps198
 go_wp2
 rw[Lib.run_to_unsafe w ⟨b,0,none⟩ underlying138 underlying223 J (by rw[G];decide) E<|Nat.succ_pos _];simp only[Result.andThen];rw[Oper.upon_value]
 go_wp2
 rw[run_callFunc_extern func214 (by kernel_rfl) (by kernel_rfl) (by kernel_rfl) (e:=Extern.AbiNoEscape.same)<|by kernel_rfl];rw[Lib.run_noEscape];simp only[Result.andThen];rw[Oper.upon_value]
 go_wp2
 rw[Lib.run_from_unsafe w ⟨b,0,none⟩ underlying223 underlying138 J E Rb];simp only[Result.andThen];rw[Oper.upon_value]
 go_wp2
 go_end0
 exact⟨I,I⟩
theorem LZ(w:World)(b i:Nat)(u:Value):ChgP (·=b) w (w.setCell ⟨b,i,none⟩ u):=⟨rfl,rfl,rfl,by simp[World.setCell],λk _ E=>Below.heap_setCell _ _ _ _ E⟩
theorem KO{w:World}{u:Value}{l:YB}(h:Buf v l w)(E:v.ownBlock≠some b):Buf v l (w.setCell ⟨b,i,none⟩ u):=
 h.kept (row:=some b) ⟨rfl,rfl,rfl,by simp[World.setCell],λk _ G=>Below.heap_setCell _ _ _ _ λe=>G<|by simp[e]⟩ (Or.inr E)
theorem IF{p:Value}{last l:YB}{w:World}(hp:p=.pointer none∨p=.pointer (some ⟨b,0,none⟩))(E:PrB b p v last w)(G:Buf v l w):
  Calls prog 198 #[.pointer<|some ⟨b,0,none⟩] w λe w'=>e=.returned (.tuple #[])∧PrB b (.pointer<|some ⟨b,0,none⟩) v last w'∧Buf v l w'∧ChgP (·=b) w w':=by
 have J:w.cell? ⟨b,0,none⟩=some p:=by rw[Lib.cell_of_heap E];rfl
 have U:v.ownBlock≠some b:=Lib.ownBlock_ne G E (by decide);rcases hp with rfl|rfl
 ·refine(Bq b w J (by simp[World.shape?,E])<|Lib.frozen_of_heap E 0).mono ?_;rintro e w' ⟨rfl,rfl⟩;exact⟨rfl,by simp[PrB,World.setCell,Array.getElem?_modify,E],KO G U,LZ _ _ _ _⟩
 ·refine(Cl b w J).mono ?_;rintro e w' ⟨rfl,rfl⟩;exact⟨I,E,G,ChgP.refl _ _⟩
section
open Go.Lib
variable{P:Program}
theorem IV(w:World)(t u ty e:TypeId)(i:TypeInfo)(ht:P.underlying t=some (.slice e))(U:P.underlying u=some .string)(hi:P.info? e=some i)(hz:i.zero=some (.int .u8 0))(hsize:i.size=1)(G:i.bytes=1)
  (v:Value) (n:Nat) (xs:List Value) (E:w.ownsRow 0 e 1 v n xs) (s:ByteArray) (h63:n+s.size<=maxLen) (hbytes:n+s.size<=140737488355328):
  ∃J w',(Builtin.append_ #[t,u] ty #[v,.string s]).run P w=.ok J w'∧w'.ownsRow 0 e 1 J (n+s.size) (xs++strCells s)∧w.grownBy w' v.ownBlock∧∀g,J.ownBlock=some g->v.ownBlock=some g∨w.heap.size<=g:=by
 obtain⟨J,w',hr,h2,h3,h4⟩:=run_append_own_string (P:=P) w 0 t u ty e i ht U hi hz hsize G v n xs E s h63 hbytes<|aat _;refine⟨J,w',hr,h2,h3,λg Z=>?_⟩;have hxl:xs.length=n:=by simpa using E.1
 rcases E.2 with⟨rfl,rfl⟩|⟨g0,cap,cur,rfl,hbg,hgh,hnc,hcm,hcs,htake⟩
 ·by_cases hm:s.size=0
  ·have :=h4.2 ⟨rfl,hm⟩;subst this;cases Z
  ·rw[run_append_nil_string (P:=P) w t u ty e i (.int .u8 0) ht U hi hz s (by omega) (by omega) (by rw[G];omega)]at hr;cases hr;cases Z;exact .inr<|aag _
 ·by_cases hroom:n+s.size<=cap
  ·rw[run_append_room_string (P:=P) w t u ty e i ht U hi hsize g0 n cap cur hgh s hroom (by simp at hcs;omega)]at hr;cases hr;exact .inl Z
  ·rw[run_append_grow_string (P:=P) w t u ty e i (.int .u8 0) ht U hi hz ⟨g0,0,none⟩ n cap xs (by rw[hsize];simpa using hxl) (E.cells (g:=g0) rfl) s (by omega) (by omega) (by rw[G];exact growslice_fits (by omega)<|by omega)]at hr;cases hr;cases Z;exact .inr<|aag _
theorem Gq{w:World}{ops:Array Oper}{rest:List Oper}{o:Oper}{a:Act}{Q:Exit->Act->World->Prop}(J:o.guard=none)(sl x:Operand)(t u:TypeId)
  (ho:o.op=.call {callee:=.builtin .append,args:=#[sl,x],argTypes:=#[t,u]})
  (e:TypeId) (i:TypeInfo) (ht:P.underlying t=some (.slice e)) (hu:P.underlying u=some .string) (hi:P.info? e=some i) (hz:i.zero=some (.int .u8 0)) (hsize:i.size=1) (U:i.bytes=1)
  (v:Value) (n:Nat) (xs:List Value) (hs:a.eval sl=v) (E:w.ownsRow 0 e 1 v n xs) (s:ByteArray) (hx:a.eval x=.string s)
  (Z:n+s.size<=maxLen) (hbytes:n+s.size<=140737488355328)
  (h:∀G w',w'.ownsRow 0 e 1 G (n+s.size) (xs++strCells s)->w.grownBy w' v.ownBlock->(∀g,G.ownBlock=some g->v.ownBlock=some g∨w.heap.size<=g)->wpList P ops Q rest (a.put o.dst G) w'):wpList P ops Q (o::rest) a w:=by
 refine wpList_plain J λK hK=>?_;obtain⟨G,w',hr,h2,h3,h4⟩:=IV w t u o.type e i ht hu hi hz hsize U v n xs E s Z hbytes;unfold Oper.wp execOp;simp only[ho,resolve,invoke,builtin,Sem.run_bind,Sem.run_pure,Result.andThen_ok,List.map_toArray,aah,aau,hs,hx,hr];exact hK _ _<|h G w' h2 h3 h4
end
set_option maxHeartbeats 2000000 in
theorem FQ{p:Value}{last l s:YB}{w:World}(hp:p=.pointer none∨p=.pointer (some ⟨b,0,none⟩))(Z:PrB b p v last w)(hown0:Buf v l w)(hlen:l.length+s.length<=140737488355328):
  Calls prog 178 #[.pointer<|some ⟨b,0,none⟩,.string ⟨s.toArray⟩] w λe w'=>e=.returned (.tuple #[.int .i64 s.length,.nilIface])∧∃v',PrB b (.pointer<|some ⟨b,0,none⟩) v' last w'∧Buf v' (l++s) w'∧(∀g,v'.ownBlock=some g->v.ownBlock=some g∨w.heap.size<=g)∧ChgP (λk=>k=b∨v.ownBlock=some k) w w':=by
 obtain⟨i0,hi,hz0,hz1,hz2⟩:=ve Oa;have HB:=Lib.hid Z;have HO:=Lib.hid hown0;clear Z hown0
 go_enter func178,ntmps178
 go_wp2_with (go_at_call 198;refine(IF (l:=l) hp HB.out HO.out).mono ?_)
 rintro e w1 ⟨rfl,U,G,hc1⟩;have hne:v.ownBlock≠some b:=Lib.ownBlock_ne G U (by decide);have HBk:=Lib.hid U;have HC:=Lib.hid hc1;clear hc1;have c1:w1.cell? ⟨b,1,none⟩=some v:=by rw[Lib.cell_of_heap U];rfl
 clear U
 go_wp2_with (at_builtin;refine Gq rfl _ _ 115 9 rfl 5 i0 underlying115 underlying9 hi hz0 hz1 hz2 _ _ _ rfl G ⟨s.toArray⟩ rfl ?c3 ?c4 ?_)
 case c3=>unfold maxLen;simp only[List.size_toArray,ByteArray.size];omega
 case c4=>simp only[List.size_toArray,ByteArray.size];omega
 intro v' w2 E hgrow hnew;have hlt:b<w1.heap.size:=zY HBk.out;have J:PrB b (.pointer (some ⟨b,0,none⟩)) v last w2:=by show w2.heap[b]?=_;rw[hgrow.block b hlt λe=>hne e.symm];exact HBk.out
 have d1:w2.cell? ⟨b,1,none⟩=some v:=by rw[Lib.cell_of_heap J];rfl
 have f1:w2.frozen? ⟨b,1,none⟩=false:=Lib.frozen_of_heap J 1;have hown2:Buf v' (l++s) w2:=by
  have e1:Lib.byteCells (l++s)=Lib.byteCells l++Lib.strCells ⟨s.toArray⟩:=by simp[Lib.byteCells,Lib.strCells]
  show w2.ownsRow _ _ _ _ (l++s).length (Lib.byteCells<|l++s);rw[e1,aac];exact E
 obtain⟨ao,n',cap,hv'⟩:∃ao n' cap,v'=.slice ao n' cap:=by
  rcases E.2 with⟨hv,_⟩|⟨g,cap,cur,hv,_⟩
  ·exact⟨_,_,_,hv⟩
  ·exact⟨_,_,_,hv⟩
 subst hv';have hne2:=Lib.ownBlock_ne hown2 J (by decide);have HG:=Lib.hid hgrow;have HN:=Lib.hid hnew;have HO2:=Lib.hid hown2;have HB2:=Lib.hid J;clear hgrow G E hown2 J hnew
 go_wp2
 go_ret2
 refine⟨by simp,.slice ao n' cap,by simp[PrB,World.setCell,Array.getElem?_modify,HB2.out],KO HO2.out hne2,λg hg=>?_,?_⟩
 ·rcases HN.out g hg with h|h
  ·exact .inl h
  ·exact .inr<|aao HC.out.size h
 ·have h1:ChgP (λk=>k=b∨v.ownBlock=some k) w w1:=HC.out.mono λk e=>.inl e;have h2:ChgP (λk=>k=b∨v.ownBlock=some k) w1 w2:=⟨HG.out.os,HG.out.tape,HG.out.output,HG.out.size,λk hk hn=>HG.out.block k hk λe=>hn<|.inr e.symm⟩;exact(h1.trans h2 λk e=>.inl e).trans ((LZ w2 b 1 _).mono λk e=>.inl e) λk e=>.inl e
theorem yR(X:Nat->Prop)(w:World):ChgP X w w.drew:=⟨rfl,rfl,rfl,aag _,λ_ _ _=>rfl⟩
theorem Mh(X:Nat->Prop)(w:World)(o:Obj):ChgP X w (w.alloc o):=⟨rfl,rfl,rfl,by simp,λk E _=>Below.heap_alloc _ _ _ E⟩
theorem KX(w:World)(g n:Nat):ChgP (·=g) w (w.freeze ⟨g,0,none⟩ n):=by
 unfold World.freeze;split
 ·exact ChgP.refl _ _
 ·exact⟨rfl,rfl,rfl,by simp,λk E hn=>by simp only[Array.getElem?_modify];rw[if_neg (λe=>hn e.symm)]⟩
theorem zw(W:World)(q:Option Addr):(Builtin.unsafeString_ #[187,3] 9 #[.pointer q,.int .i64 0]).run prog W=.ok (.string .empty) W:=
 Lib.run_unsafeString_none W _ _ _ q
set_option maxHeartbeats 2000000 in
theorem BL{p:Value}{last l:YB}{w:World}(G:PrB b p v last w)(E:Buf v l w):
  Calls prog 93 #[.pointer<|some ⟨b,0,none⟩] w λe w'=>e=.returned (.string ⟨l.toArray⟩)∧ChgP (λk=>k=b∨v.ownBlock=some k) w w':=by
 have hlt:b<w.heap.size:=zY G;by_cases h0:l=[]
 ·subst h0;have hUS:=zw;rcases E.2 with⟨rfl,_⟩|⟨g,cap,cur,rfl,hbg,hg,_⟩
  ·have c1:w.drew.cell? ⟨b,1,none⟩=some (.slice none 0 0):=by
    have :w.drew.heap[b]?=some (.cells #[p,.slice none 0 0,.string ⟨last.toArray⟩] 142 (0,0)):=G;rw[Lib.cell_of_heap this];rfl
   have J:(Builtin.unsafeSliceData_ #[115] 187 #[.slice none 0 0]).run prog w.drew=.ok (.pointer none) w.drew:=rfl;clear G E
   go_enter func93,ntmps93
   go_wp2
   go_region
   all_goals (go_wp2;go_ret;exact⟨rfl,yR _ w⟩)
  ·by_cases U:cap=0
   ·subst U;have c1:w.drew.cell? ⟨b,1,none⟩=some (.slice (some ⟨g,0,none⟩) 0 0):=by
     have :w.drew.heap[b]?=some (.cells #[p,.slice (some ⟨g,0,none⟩) 0 0,.string ⟨last.toArray⟩] 142 (0,0)):=G;rw[Lib.cell_of_heap this];rfl
    have J:(Builtin.unsafeSliceData_ #[115] 187 #[.slice (some ⟨g,0,none⟩) 0 0]).run prog w.drew=.ok (.pointer<|some ⟨w.drew.heap.size,0,none⟩) (w.drew.alloc<|.view ⟨g,0,none⟩ 5):=
     Lib.run_unsafeSliceData_zero w.drew _ _ 5 underlying187 ⟨g,0,none⟩ 0 (5,cur.size) (by have Z:w.drew.heap[g]?=some (.cells cur 5 (0,0)):=hg;simp[World.shape?,Z])
    have c2:(w.drew.alloc<|.view ⟨g,0,none⟩ 5).cell? ⟨b,1,none⟩=some (.slice (some ⟨g,0,none⟩) 0 0):=by
     have :(w.drew.alloc<|.view ⟨g,0,none⟩ 5).heap[b]?=_:=(Below.heap_alloc w.drew _ b hlt).trans G;rw[Lib.cell_of_heap this];rfl
    have c3:(w.alloc<|.view ⟨g,0,none⟩ 5).drew.cell? ⟨b,1,none⟩=some (.slice (some ⟨g,0,none⟩) 0 0):=c2;have c0:w.cell? ⟨b,1,none⟩=some (.slice (some ⟨g,0,none⟩) 0 0):=c1;clear G E hg
    go_enter func93,ntmps93
    go_wp2
    go_region
    all_goals (go_wp2;go_ret;exact⟨rfl,(yR _ w).trans (Mh _ _ _) λ_ e=>.inl e⟩)
   ·have c1:w.drew.cell? ⟨b,1,none⟩=some (.slice (some ⟨g,0,none⟩) 0 cap):=by
     have :w.drew.heap[b]?=some (.cells #[p,.slice (some ⟨g,0,none⟩) 0 cap,.string ⟨last.toArray⟩] 142 (0,0)):=G;rw[Lib.cell_of_heap this];rfl
    have J:(Builtin.unsafeSliceData_ #[115] 187 #[.slice (some ⟨g,0,none⟩) 0 cap]).run prog w.drew=.ok (.pointer<|some ⟨g,0,none⟩) w.drew:=
     Lib.run_unsafeSliceData_row _ _ _ _ _ _ U
    clear G E hg U
    go_enter func93,ntmps93
    go_wp2
    go_region
    all_goals (go_wp2;go_ret;exact⟨rfl,yR _ w⟩)
 ·have hl0:l.length≠0:=by simpa using h0
  obtain⟨g,cap,cur,rfl,hbg,hg,hnc,hcm,hcs,htake⟩:∃g cap cur,v=.slice (some ⟨g,0,none⟩) l.length cap∧0<=g∧w.heap[g]?=some (.cells cur 5 (0,0))∧l.length<=cap∧cap<=maxLen∧cur.size=cap*1∧cur.toList.take (l.length*1)=Lib.byteCells l:=by
   rcases E.2 with⟨_,hz⟩|⟨g,cap,cur,hv,r⟩
   ·exact absurd hz hl0
   ·exact⟨g,cap,cur,hv,r⟩
  have c1:w.drew.cell? ⟨b,1,none⟩=some (.slice (some ⟨g,0,none⟩) l.length cap):=by have :w.drew.heap[b]?=some (.cells #[p,.slice (some ⟨g,0,none⟩) l.length cap,.string ⟨last.toArray⟩] 142 (0,0)):=G;rw[Lib.cell_of_heap this];rfl
  have J:(Builtin.unsafeSliceData_ #[115] 187 #[.slice (some ⟨g,0,none⟩) l.length cap]).run prog w.drew=.ok (.pointer<|some ⟨g,0,none⟩) w.drew:=
   Lib.run_unsafeSliceData_row _ _ _ _ _ _ (by omega)
  have hUS:(Builtin.unsafeString_ #[187,3] 9 #[.pointer<|some ⟨g,0,none⟩,.int .i64 l.length]).run prog w.drew=.ok (.string ⟨l.toArray⟩) (w.drew.freeze ⟨g,0,none⟩ l.length):=by refine Lib.run_unsafeString_row w.drew 187 3 9 5 underlying187 LK g cur.size (by have Z:w.drew.heap[g]?=some (.cells cur 5 (0,0)):=hg;simp[World.shape?,Z]) l h0 (by omega) (by unfold maxLen at hcm;omega) ?_;intro j x hx;have :=E.cells (g:=g) rfl j (.int .u8 x.toNat) (by simp[Lib.byteCells,hx]);exact this
  clear G E hg htake hcs
  go_enter func93,ntmps93
  go_wp2
  go_region
  all_goals (go_wp2;go_ret;exact⟨rfl,(yR _ w).trans ((KX _ g _).mono λk e=>.inr (by rw[e];rfl)) λ_ e=>.inl e⟩)
def Dc(L:YI)(a:Int):Prop:=0<=a∧a<=L.length∧L.length<=1000000000
variable{a n:Int}
theorem SO(hn:0<n)(E:n<=1000000000):∃r,oa a n r∧0<=r∧r<n:=by
 have h1:=Int.lt_tmod_of_pos a hn;have h2:=Int.tmod_lt_of_pos a hn;by_cases h:Int.tmod a n<0
 ·exact⟨_,rF 0 _ _ _ ⟨by omega,λ_=>⟨by omega,I⟩,λh'=>absurd h h'⟩,by omega,by omega⟩
 ·exact⟨_,rF 0 _ _ _ ⟨by omega,λh'=>absurd h' h,λ_=>I⟩,by omega,by omega⟩
variable{L:YI}
theorem fF(J:Dc L a)(hn:0<n)(E:n<=1000000000):∃r a',aK L a n r L a'∧(0<=r∧r<n)∧Dc L a':=by
 obtain⟨U,h1,h2⟩:=J;by_cases h:(L.length:Int)<=a
 ·exact⟨0,a,mH 0 _ _ _ _ _ _ ⟨λ_=>⟨I,I,I⟩,λh'=>absurd h h'⟩,by omega,U,h1,h2⟩
 ·obtain⟨x,hx,_⟩|h':=aZ L a.toNat
  ·obtain⟨r,hr,G⟩:=SO (a:=x) hn E;exact⟨r,a+1,mH 0 _ _ _ _ _ _ ⟨λh'=>absurd h' h,λ_=>⟨by omega,by omega,a.toNat,by omega,x,hx,r,hr,I,I,I⟩⟩,G,by omega,by omega,h2⟩
  ·omega
theorem jH(E:Dc L a)(l:List YB)(hl:0<l.length)(G:l.length<=1000000000):∃s a',bg L a l s L a'∧s∈l∧Dc L a':=by
 obtain⟨r,a',h1,h2,J⟩:=fF E (n:=(l.length:Int)) (by omega) (by omega);obtain⟨x,hx,_⟩|h':=aZ l r.toNat
 ·exact⟨x,a',ya 0 _ _ _ _ _ _ ⟨_,_,_,h1,r.toNat,by omega,x,hx,I,I,I⟩,List.mem_of_getElem? hx,J⟩
 ·omega
def Gt(L:YI)(C:Tree->Int->Prop)(B:Nat):Prop:=∃t a',C t a'∧Dc L a'∧tbulk t<=B
theorem Gt.map{C C':Tree->Int->Prop}{B B':Nat}(h:Gt L C B)(hb:B<=B')(k:∀t a',C t a'->C' t a'):Gt L C' B':=by obtain⟨t,a',h1,h2,E⟩:=h;exact⟨t,a',k t a' h1,h2,by omega⟩
theorem iv{l:List YB}{s:YB}(h:s∈l)(hl:l.all (λx=>decide<|x.length<=5)=true):s.length<=5:=by have :=List.all_eq_true.1 hl s h;simpa using this
theorem tb0(k:Int)(s:YB):tbulk (.node k s [] [])=s.length+1:=by simp[tbulk,eh,kbulk]
theorem tb1(k:Int)(s:YB)(t:Tree):tbulk (.node k s [] [t])=s.length+tbulk t+1:=by simp[tbulk,eh,kbulk]
theorem tb2(k:Int)(s:YB)(t u:Tree):tbulk (.node k s [] [t,u])=s.length+tbulk t+tbulk u+1:=by simp[tbulk,eh,kbulk];omega
theorem tb3(k:Int)(s:YB)(t u v:Tree):tbulk (.node k s [] [t,u,v])=s.length+tbulk t+tbulk u+tbulk v+1:=by simp[tbulk,eh,kbulk];omega
theorem tbK(k:Int)(s:YB)(l:YT):tbulk (.node k s [] l)=s.length+kbulk l+1:=by simp[tbulk,eh]
theorem Jb:∀(d:Nat) {a:Int},Dc L a->d<=100->Gt L (λt a'=>cG L a d t L a') (6+d):=λd=>by
 induction d with
 | zero=>
  intro a hd _;obtain⟨r,a1,h1,h2,h3⟩:=fF hd (n:=7) (by omega) (by omega);have top:∀{t a'},fY 1 0 r L a1 false t L a'->r≠0->r≠1->cG L a 0 t L a':=λh n0 n1=>jl 1 _ _ _ _ _ _ ⟨_,_,_,h1,λe=>absurd e n0,λ_=>by rw[show(r==1)=false by simpa using n1];exact h⟩;by_cases e0:r=0∨r=1
  ·refine⟨_,a1,jl 1 _ _ _ _ _ _ ⟨_,_,_,h1,λe=>br 0 _ _ _ _ _ _ _ _ ⟨λ_=>⟨rfl,rfl,rfl⟩,λh=>nomatch h⟩,λe=>br 0 _ _ _ _ _ _ _ _ ⟨λ_=>⟨rfl,rfl,rfl⟩,λh=>?_⟩⟩,h3,by rw[tb0];simp only[aae];omega⟩;rcases e0 with e0|e0
   ·exact absurd e0 e
   ·rw[e0]at h;cases h
  ·by_cases e2:r=2
   ·exact⟨_,a1,top (br 0 _ _ _ _ _ _ _ _ ⟨λh=>(nomatch h),λ_=>⟨λ_=>⟨rfl,rfl,rfl⟩,λh=>absurd e2 h⟩⟩) (by omega) (by omega),h3,by rw[tb0];simp only[aae];omega⟩
   ·by_cases e3:r=3
    ·exact⟨_,a1,top (br 0 _ _ _ _ _ _ _ _ ⟨λh=>(nomatch h),λ_=>⟨λh=>absurd h e2,λ_=>⟨λ_=>⟨rfl,rfl,rfl⟩,λh=>absurd e3 h⟩⟩⟩) (by omega) (by omega),h3,by rw[tb0];simp only[aae];omega⟩
    ·by_cases e4:r=4
     ·obtain⟨s,a2,g1,g2,g3⟩:=jH h3 [[84],[85],[65,46,84],[66,46,85]] (by decide) (by decide);have :=iv g2 (by decide);exact⟨_,a2,top (br 0 _ _ _ _ _ _ _ _ ⟨λh=>(nomatch h),λ_=>⟨λh=>absurd h e2,λ_=>⟨λh=>absurd h e3,λ_=>⟨λ_=>⟨_,_,_,g1,I,I,I⟩,λh=>absurd e4 h⟩⟩⟩⟩) (by omega) (by omega),g3,by rw[tb0];omega⟩
     ·exact⟨_,a1,top (br 0 _ _ _ _ _ _ _ _ ⟨λh=>(nomatch h),λ_=>⟨λh=>absurd h e2,λ_=>⟨λh=>absurd h e3,λ_=>⟨λh=>absurd h e4,λ_=>⟨λ_=>⟨rfl,rfl,rfl⟩,λh=>by omega⟩⟩⟩⟩⟩) (by omega) (by omega),h3,by rw[tb0];simp only[aae];omega⟩
 | succ d ih=>
  intro a hd hd100;obtain⟨r,a1,h1,h2,h3⟩:=fF hd (n:=7) (by omega) (by omega);have top:∀{t a'},fY 1 ((d+1:Nat):Int) r L a1 false t L a'->r≠0->r≠1->cG L a ((d+1:Nat):Int) t L a':=λh n0 n1=>jl 1 _ _ _ _ _ _ ⟨_,_,_,h1,λe=>absurd e n0,λ_=>by rw[show(r==1)=false by simpa using n1];exact h⟩;by_cases e0:r=0∨r=1
  ·refine⟨_,a1,jl 1 _ _ _ _ _ _ ⟨_,_,_,h1,λe=>br 0 _ _ _ _ _ _ _ _ ⟨λ_=>⟨rfl,rfl,rfl⟩,λh=>nomatch h⟩,λe=>br 0 _ _ _ _ _ _ _ _ ⟨λ_=>⟨rfl,rfl,rfl⟩,λh=>?_⟩⟩,h3,by rw[tb0];simp only[aae];omega⟩;rcases e0 with e0|e0
   ·exact absurd e0 e
   ·rw[e0]at h;cases h
  ·by_cases e2:r=2
   ·exact⟨_,a1,top (br 0 _ _ _ _ _ _ _ _ ⟨λh=>(nomatch h),λ_=>⟨λ_=>⟨rfl,rfl,rfl⟩,λh=>absurd e2 h⟩⟩) (by omega) (by omega),h3,by rw[tb0];simp only[aae];omega⟩
   ·by_cases e3:r=3
    ·exact⟨_,a1,top (br 0 _ _ _ _ _ _ _ _ ⟨λh=>(nomatch h),λ_=>⟨λh=>absurd h e2,λ_=>⟨λ_=>⟨rfl,rfl,rfl⟩,λh=>absurd e3 h⟩⟩⟩) (by omega) (by omega),h3,by rw[tb0];simp only[aae];omega⟩
    ·by_cases e4:r=4
     ·obtain⟨s,a2,g1,g2,g3⟩:=jH h3 [[84],[85],[65,46,84],[66,46,85]] (by decide) (by decide);have :=iv g2 (by decide);exact⟨_,a2,top (br 0 _ _ _ _ _ _ _ _ ⟨λh=>(nomatch h),λ_=>⟨λh=>absurd h e2,λ_=>⟨λh=>absurd h e3,λ_=>⟨λ_=>⟨_,_,_,g1,I,I,I⟩,λh=>absurd e4 h⟩⟩⟩⟩) (by omega) (by omega),g3,by rw[tb0];omega⟩
     ·obtain⟨t,a2,g1,g2,g3⟩:=ih h3 (by omega);have g1':cG L a1 (((d+1:Nat):Int)-1) t L a2:=by rw[show((d+1:Nat):Int)-1=(d:Int) by omega];exact g1
      exact⟨_,a2,top (br 0 _ _ _ _ _ _ _ _ ⟨λh=>(nomatch h),λ_=>⟨λh=>absurd h e2,λ_=>⟨λh=>absurd h e3,λ_=>⟨λh=>absurd h e4,λ_=>⟨λh=>by omega,λ_=>⟨by omega,_,_,_,g1',rfl,rfl,rfl⟩⟩⟩⟩⟩⟩) (by omega) (by omega),g2,by rw[tb1];simp only[aae];omega⟩
def eB:Nat->Nat
 |0=>6
 |d+1=>3*eB d+20
section
variable{L:YI}{d a z:Int}{t:Tree}{a':Int}{m:Nat}
theorem up2(E:z≠0)(h1:z≠1)(h:iC m d L a z t L a'):cu (m+2) d L a z t L a':=
 rL0_semvcsmake_Expr (m+1) _ _ _ _ _ _ _ ⟨λe=>absurd e E,λ_=>kD m _ _ _ _ _ _ _ _ ⟨λe=>absurd (eq_of_beq e) h1,λ_=>h⟩⟩
theorem up6(h2:z≠2)(E:z≠3)(G:z≠4)(J:z≠5)(h:iE m d L a z t L a'):iC (m+4) d L a z t L a':=
 rL2_semvcsmake_Expr (m+3) _ _ _ _ _ _ _ ⟨λe=>absurd e h2,λ_=>eX (m+2) _ _ _ _ _ _ _ ⟨λe=>absurd e E,λ_=>gN (m+1) _ _ _ _ _ _ _ ⟨λe=>absurd e G,λ_=>kO m _ _ _ _ _ _ _ ⟨λe=>absurd e J,λ_=>h⟩⟩⟩⟩
theorem up9(E:z≠6)(G:z≠7)(h:fI m d L a z t L a'):iE (m+2) d L a z t L a':=
 rL6_semvcsmake_Expr (m+1) _ _ _ _ _ _ _ ⟨λe=>absurd e E,λ_=>kR m _ _ _ _ _ _ _ _ ⟨λe=>absurd (eq_of_beq e) G,λ_=>h⟩⟩
theorem RC(E:z≠8)(h:gP m d L a z t L a'):fI (m+1) d L a z t L a':=pN m _ _ _ _ _ _ _ ⟨λe=>absurd e E,λ_=>h⟩
theorem Te(E:z≠9)(h:eW m d L a z t L a'):gP (m+1) d L a z t L a':=pA m _ _ _ _ _ _ _ ⟨λe=>absurd e E,λ_=>h⟩
theorem Tg(E:z≠10)(G:z≠11)(h:gX m d L a z t L a'):eW (m+2) d L a z t L a':=
 rL14_semvcsmake_Expr (m+1) _ _ _ _ _ _ _ ⟨λe=>absurd e E,λ_=>kc m _ _ _ _ _ _ _ _ ⟨λe=>absurd (eq_of_beq e) G,λ_=>h⟩⟩
end
theorem AY{d z:Int}(M:Nat)(G:Dc L a)(h0:0<=z)(h5:z<=5):Gt L (λt a'=>cu (M+8) d L a z t L a') 6:=by
 by_cases J:z=0∨z=1
 ·obtain⟨s,a2,g1,g2,E⟩:=jH G [[120],[121],[122]] (by decide) (by decide);have :=iv g2 (by decide);refine⟨_,a2,rL0_semvcsmake_Expr (M+7) _ _ _ _ _ _ _ ⟨λe=>kD (M+6) _ _ _ _ _ _ _ _ ⟨λ_=>⟨_,_,_,g1,I,I,I⟩,λh=>nomatch h⟩,λe=>kD (M+6) _ _ _ _ _ _ _ _ ⟨λ_=>⟨_,_,_,g1,I,I,I⟩,λh=>?_⟩⟩,E,by rw[tb0];omega⟩;rcases J with J|J
  ·exact absurd J e
  ·rw[J]at h;exact absurd h (by decide)
 have U:z≠0:=by omega
 have Z:z≠1:=by omega
 by_cases e2:z=2
 ·obtain⟨s,a2,g1,g2,E⟩:=jH G [[48],[49],[50],[49,48]] (by decide) (by decide);have :=iv g2 (by decide);exact⟨_,a2,up2 U Z<|rL2_semvcsmake_Expr (M+5) _ _ _ _ _ _ _ ⟨λ_=>⟨_,_,_,g1,I,I,I⟩,λh=>absurd e2 h⟩,E,by rw[tb0];omega⟩
 by_cases e3:z=3
 ·obtain⟨s,a2,g1,g2,E⟩:=jH G [[34,34],[34,97,34],[34,35,32,98,34]] (by decide) (by decide);have :=iv g2 (by decide);exact⟨_,a2,up2 U Z<|rL2_semvcsmake_Expr (M+5) _ _ _ _ _ _ _ ⟨λh=>absurd h e2,λ_=>eX (M+4) _ _ _ _ _ _ _ ⟨λ_=>⟨_,_,_,g1,I,I,I⟩,λh=>absurd e3 h⟩⟩,E,by rw[tb0];omega⟩
 by_cases e4:z=4
 ·obtain⟨r,a2,g1,g2,E⟩:=fF G (n:=2) (by omega) (by omega);exact⟨_,a2,up2 U Z (rL2_semvcsmake_Expr (M+5) _ _ _ _ _ _ _ ⟨λh=>absurd h e2,λ_=>eX (M+4) _ _ _ _ _ _ _ ⟨λh=>absurd h e3,λ_=>gN (M+3) _ _ _ _ _ _ _ ⟨λ_=>⟨_,_,_,g1,by omega,rfl,rfl,rfl⟩,λh=>absurd e4 h⟩⟩⟩),E,by rw[tb0];simp only[aae];omega⟩
 have e5:z=5:=by omega
 obtain⟨r,a2,g1,g2,E⟩:=fF G (n:=3) (by omega) (by omega);by_cases er:r=0
 ·exact⟨_,a2,up2 U Z<|rL2_semvcsmake_Expr (M+5) _ _ _ _ _ _ _ ⟨λh=>absurd h e2,λ_=>eX (M+4) _ _ _ _ _ _ _ ⟨λh=>absurd h e3,λ_=>gN (M+3) _ _ _ _ _ _ _ ⟨λh=>absurd h e4,λ_=>kO (M+2) _ _ _ _ _ _ _ ⟨λ_=>⟨_,_,_,g1,λ_=>⟨rfl,rfl,rfl⟩,λh=>absurd er h⟩,λh=>absurd e5 h⟩⟩⟩⟩,E,by rw[tb0];simp only[aae];omega⟩
 ·exact⟨_,a2,up2 U Z<|rL2_semvcsmake_Expr (M+5) _ _ _ _ _ _ _ ⟨λh=>absurd h e2,λ_=>eX (M+4) _ _ _ _ _ _ _ ⟨λh=>absurd h e3,λ_=>gN (M+3) _ _ _ _ _ _ _ ⟨λh=>absurd h e4,λ_=>kO (M+2) _ _ _ _ _ _ _ ⟨λ_=>⟨_,_,_,g1,λh=>absurd h er,λ_=>⟨rfl,rfl,rfl⟩⟩,λh=>absurd e5 h⟩⟩⟩⟩,E,by rw[tb0];simp⟩
theorem Hr(U:Dc L a):Gt L (λt a'=>aS L a 0 t L a') 6:=by
 obtain⟨r,a1,h1,h2,E⟩:=fF U (n:=14) (by omega) (by omega);by_cases G:5<r
 ·by_cases J:5<r-6
  ·exact(AY 0 (d:=0) E (z:=0) (by omega)<|by omega).map (aag _) λt a' h=>iD 8 _ _ _ _ _ _ ⟨_,_,_,h1,λ_=>⟨λ_=>⟨by omega,λ_=>h,λh'=>absurd J h'⟩,λh'=>absurd G h'⟩,λh'=>by omega⟩
  ·exact(AY 0 (d:=0) E (z:=r-6) (by omega)<|by omega).map (aag _) λt a' h=>iD 8 _ _ _ _ _ _ ⟨_,_,_,h1,λ_=>⟨λ_=>⟨by omega,λh'=>absurd h' J,λ_=>h⟩,λh'=>absurd G h'⟩,λh'=>by omega⟩
 ·exact(AY 0 (d:=0) E (z:=r) (by omega)<|by omega).map (aag _) λt a' h=>iD 8 _ _ _ _ _ _ ⟨_,_,_,h1,λ_=>⟨λh'=>absurd h' G,λ_=>h⟩,λh'=>by omega⟩
theorem AH{k:Int}{B:Nat}(h:Gt L (λt a'=>aS L a k t L a') B):Gt L (λt a'=>eu L a k t L a') (B+1):=by
 obtain⟨t,a2,g1,g2,G⟩:=h;cases E:ux t.kind with
 |true=>exact⟨t,a2,qT 0 _ _ _ _ _ _ ⟨_,_,_,g1,_,yL _,λh=>absurd (E.symm.trans h) (by decide),λ_=>⟨rfl,rfl,rfl⟩⟩,g2,by omega⟩
 |false=>exact⟨_,a2,qT 0 _ _ _ _ _ _ ⟨_,_,_,g1,_,yL _,λ_=>⟨rfl,rfl,rfl⟩,λh=>absurd (E.symm.trans h)<|by decide⟩,g2,by rw[tb1];simp only[aae];omega⟩
theorem Lg:∀d,6<=eB d
 |0=>aag _
 |d+1=>by have :=Lg d;simp only[eB];omega
theorem Rx:∀(d:Nat) {a:Int},Dc L a->d<=5->Gt L (λt a'=>aS L a d t L a') (eB d):=λd=>by
 induction d with
 |zero=>intro a hd _;exact Hr hd
 | succ d ih=>
  intro a hd hd5;obtain⟨z,a1,h1,h2,h3⟩:=fF hd (n:=14) (by omega) (by omega);have top:∀{M t a'},cu M ((d+1:Nat):Int) L a1 z t L a'->aS L a ((d+1:Nat):Int) t L a':=λ{M} {t} {a'} h=>iD M _ _ _ _ _ _ ⟨_,_,_,h1,λh'=>by omega,λ_=>h⟩;have sub:∀{a},Dc L a->Gt L (λt a'=>aS L a (((d+1:Nat):Int)-1) t L a') (eB d):=λ{a} h=>by rw[show((d+1:Nat):Int)-1=(d:Int) by omega];exact ih h (by omega)
  have hB:eB (d+1)=3*eB d+20:=rfl;have hp:=Lg d;by_cases c5:z<=5
  ·exact(AY 0 (d:=((d+1:Nat):Int)) h3 (by omega) c5).map (by omega) λt a' h=>top h
  have n0:z≠0:=by omega
  have n1:z≠1:=by omega
  have n2:z≠2:=by omega
  have n3:z≠3:=by omega
  have n4:z≠4:=by omega
  have n5:z≠5:=by omega
  by_cases c7:z<=7
  ·
   obtain⟨s,a2,g1,g2,g3⟩:=jH h3 [[102],[103],[104],[65,46,102],[66,46,103],[65,46,104]] (by decide) (by decide);have hs:=iv g2 (by decide);obtain⟨n,a3,g4,g5,g6⟩:=fF g3 (n:=4) (by omega) (by omega);have loop:∀(k:Nat) (a:Int) (l:YT),Dc L a->l.length+k<=100->Gt L (λt a'=>gU (k+1) ((d+1:Nat):Int) s L a l (k:Int) t L a') (s.length+1+kbulk l+k*(eB d+1)):=λk=>by
    induction k with
    |zero=>intro a l hd hl;exact⟨_,a,oW 0 _ _ _ _ _ _ _ _ _ ⟨λh=>by omega,λ_=>⟨rfl,rfl,rfl⟩⟩,hd,by rw[tbK];omega⟩
    |succ k ihk=>
     intro a l hd hl;obtain⟨t,b,q1,q2,q3⟩:=sub hd;refine(ihk b (l++[.node 17 [] [] [t]]) q2 (by simp;omega)).map ?_ λt' a' h=>oW (k+1) _ _ _ _ _ _ _ _ _ ⟨λ_=>⟨by omega,_,_,_,q1,by simp;omega,by omega,by rw[show((k+1:Nat):Int)-1=(k:Int) by omega];exact h⟩,λh=>by omega⟩;rw[fD,Nat.succ_mul];simp only[kbulk,tb1,aae];omega
   refine(loop n.toNat a3 [] g6 (by simp;omega)).map (by
    have :n.toNat*(eB d+1)<=3*(eB d+1):=Nat.mul_le_mul_right _ (by omega);simp only[kbulk];omega) λt a' h=>?_
   have h8:lO (n.toNat+2) ((d+1:Nat):Int) L a1 t L a':=xW (n.toNat+1) _ _ _ _ _ _ ⟨_,_,_,g1,_,_,_,g4,by rw[show n=((n.toNat:Nat):Int) by omega];exact h⟩;refine top<|up2 n0 n1<|up6 n2 n3 n4 n5<|rL6_semvcsmake_Expr (n.toNat+3) _ _ _ _ _ _ _ ⟨λ_=>kR (n.toNat+2) _ _ _ _ _ _ _ _ ⟨λ_=>h8,λh=>nomatch h⟩,λh=>kR (n.toNat+2) _ _ _ _ _ _ _ _ ⟨λ_=>h8,λh'=>?_⟩⟩;have :z≠7:=by simpa using h'
   omega
  have n6:z≠6:=by omega
  have n7:z≠7:=by omega
  have t9:∀{M t a'},fI M ((d+1:Nat):Int) L a1 z t L a'->aS L a ((d+1:Nat):Int) t L a':=λh=>top<|up2 n0 n1<|up6 n2 n3 n4 n5<|up9 n6 n7 h;by_cases c8:z=8
  ·
   obtain⟨n,a3,g4,g5,g6⟩:=fF h3 (n:=3) (by omega) (by omega);have loop:∀(k:Nat) (a:Int) (l:YT),Dc L a->l.length+k<=100->Gt L (λt a'=>hI (k+1) ((d+1:Nat):Int) L a l (k:Int) t L a') (1+kbulk l+k*(eB d)):=λk=>by
    induction k with
    |zero=>intro a l hd hl;exact⟨_,a,pC 0 _ _ _ _ _ _ _ _ ⟨λh=>by omega,λ_=>⟨rfl,rfl,rfl⟩⟩,hd,by rw[tbK];simp only[aae];omega⟩
    |succ k ihk=>
     intro a l hd hl;obtain⟨t,b,q1,q2,q3⟩:=sub hd;refine(ihk b (l++[t]) q2 (by simp;omega)).map ?_ λt' a' h=>pC (k+1) _ _ _ _ _ _ _ _ ⟨λ_=>⟨by omega,_,_,_,q1,by simp;omega,by omega,by rw[show((k+1:Nat):Int)-1=(k:Int) by omega];exact h⟩,λh=>by omega⟩;rw[fD,Nat.succ_mul];simp only[kbulk];omega
   exact(loop (1+n).toNat a3 [] g6 (by simp;omega)).map (by
    have :(1+n).toNat*eB d<=3*eB d:=Nat.mul_le_mul_right _ (by omega);simp only[kbulk];omega) λt a' h=>t9 (pN ((1+n).toNat+1) _ _ _ _ _ _ _ ⟨λ_=>⟨_,_,_,g4,by omega,by rw[show(((1+n).toNat:Nat):Int)=1+n by omega]at h;exact h⟩,λh'=>absurd c8 h'⟩)
  by_cases c9:z=9
  ·obtain⟨t1,b1,q1,r1,s1⟩:=sub h3;obtain⟨t2,b2,q2,r2,s2⟩:=sub r1;obtain⟨t3,b3,q3,r3,s3⟩:=sub r2;exact⟨_,b3,t9 (RC c8<|pA 1 _ _ _ _ _ _ _ ⟨λ_=>wN 0 _ _ _ _ _ _ ⟨by omega,_,_,_,q1,by omega,_,_,_,q2,by omega,_,_,_,q3,rfl,rfl,rfl⟩,λh=>absurd c9 h⟩),r3,by rw[tb3];simp only[aae];omega⟩
  have t14:∀{M t a'},eW M ((d+1:Nat):Int) L a1 z t L a'->aS L a ((d+1:Nat):Int) t L a':=λh=>t9<|RC c8<|Te c9 h;by_cases c11:z<=11
  ·obtain⟨s,b0,g1,g2,g3⟩:=jH h3 [[120],[121],[122]] (by decide) (by decide);have hs:=iv g2 (by decide);obtain⟨t1,b1,q1,r1,s1⟩:=sub g3;obtain⟨t2,b2,q2,r2,s2⟩:=sub r1;refine⟨.node 20 s [] [t1,t2],b2,?_,r2,by rw[tb2];omega⟩;have h16:kM 1 ((d+1:Nat):Int) L a1 (.node 20 s [] [t1,t2]) L b2:=wS 0 _ _ _ _ _ _ ⟨_,_,_,g1,by omega,_,_,_,q1,by omega,_,_,_,q2,rfl,rfl,rfl⟩;refine t14<|rL14_semvcsmake_Expr 2 _ _ _ _ _ _ _ ⟨λ_=>kc 1 _ _ _ _ _ _ _ _ ⟨λ_=>h16,λh=>nomatch h⟩,λh=>kc 1 _ _ _ _ _ _ _ _ ⟨λ_=>h16,λh'=>?_⟩⟩;have :z≠11:=by simpa using h'
   omega
  have t17:∀{M t a'},gX M ((d+1:Nat):Int) L a1 z t L a'->aS L a ((d+1:Nat):Int) t L a':=λh=>t14 (Tg (by omega) (by omega) h);by_cases c12:z=12
  ·obtain⟨s,b0,g1,g2,g3⟩:=jH h3 [[43],[45],[42],[60],[61,61]] (by decide) (by decide);have hs:=iv g2 (by decide);obtain⟨t1,b1,q1,r1,s1⟩:=AH<|sub g3;obtain⟨n,b2,q2,q3,q4⟩:=fF r1 (n:=3) (by omega) (by omega);by_cases hn:n=0
   ·obtain⟨s',b3,g4,g5,g6⟩:=jH q4 [[43],[42]] (by decide) (by decide);have hs':=iv g5 (by decide);obtain⟨t2,b4,q5,r5,s5⟩:=AH<|Hr g6;obtain⟨t3,b5,q6,r6,s6⟩:=AH<|sub r5;exact⟨_,b5,t17 (kw 1 _ _ _ _ _ _ _ ⟨λ_=>pE 0 _ _ _ _ _ _ ⟨_,_,_,g1,by omega,_,_,_,q1,_,_,_,q2,λ_=>⟨_,_,_,g4,_,_,_,q5,by omega,_,_,_,q6,I,I,I⟩,λh=>absurd hn h⟩,λh=>absurd c12 h⟩),r6,by rw[tb2,tb2];omega⟩
   ·obtain⟨t3,b5,q6,r6,s6⟩:=AH<|sub q4;exact⟨_,b5,t17 (kw 1 _ _ _ _ _ _ _ ⟨λ_=>pE 0 _ _ _ _ _ _ ⟨_,_,_,g1,by omega,_,_,_,q1,_,_,_,q2,λh=>absurd h hn,λ_=>⟨by omega,_,_,_,q6,I,I,I⟩⟩,λh=>absurd c12 h⟩),r6,by rw[tb2];omega⟩
  ·obtain⟨t1,b1,q1,r1,s1⟩:=sub h3;exact⟨_,b1,t17 (kw 1 _ _ _ _ _ _ _ ⟨λh=>absurd h c12,λ_=>⟨by omega,_,_,_,q1,rfl,rfl,rfl⟩⟩),r1,by rw[tb1];simp only[aae];omega⟩
open Go.RowKit Lx
def ky:Bool->YB->Bool
 |c,[]=>c
 |c,x::r=>ky (if x.toNat=10 then false else if x.toNat=35 then true else c) r
theorem pi:∀(b:Bool) (l:YB) (n m:Nat),aM b l (n+m)=((aM b l n).1+m,(aM b l n).2.map (·+m))
 |b,[],n,m=>by cases b<;>simp[aM]
 | false,c::r,n,m=>by
  have h1:=pi false r (n+1) m;have h2:=pi true r (n+1) m;unfold aM;split
  ·rw[<-h1];congr 1;omega
  ·split
   ·rw[<-h2];congr 1;omega
   ·simp
 | true,c::r,n,m=>by
  have h1:=pi false r (n+1) m;have h2:=pi true r (n+1) m;unfold aM;split
  ·rw[<-h1];congr 1;omega
  ·split
   ·simp
   ·rw[<-h2];congr 1;omega
def kB(c:Bool)(l:YB):Bool:=(aM c l 0).2.isNone&&(aM c l 0).1==l.length
theorem qK{c d:Bool}{x:UInt8}{r:YB}(h:aM c (x::r) 0=aM d r 1):kB c (x::r)=kB d r:=by unfold kB;rw[h,show(1:Nat)=0+1 from rfl,pi];simp
theorem BA:∀(l:YB) (c fin:Bool),cC c l fin=(kB c l&&(!ky c l||fin))
 |[],c,fin=>by cases c<;>cases fin<;>rfl
 | x ::r,c,fin=>by
  have ih:=BA r;unfold cC ky;cases c with
  | true=>
   by_cases ha:aT x=false
   ·have h10:¬x.toNat=10:=λh=>by simp[aT,bH,h]at ha
    have :kB true (x::r)=false:=by simp[kB,aM,h10,ha]
    rw[if_pos ha,this];rfl
   ·have ha':aT x=true:=by simpa using ha
    rw[if_neg ha,if_pos rfl,ih];by_cases h10:x.toNat=10
    ·rw[qK (d:=false)<|by simp[aM,h10]];simp[h10]
    ·have hb:(x.toNat==10)=false:=by simpa using h10
     rw[qK (d:=true) (by simp[aM,h10,ha']),hb];simp[h10]
  | false=>
   by_cases ha:aT x=false
   ·have hw:bH x=false:=by cases h:bH x<;>simp_all[aT]
    have h35:¬x.toNat=35:=λh=>by simp[aT,dM,h]at ha
    have :kB false (x::r)=false:=by simp[kB,aM,hw,h35]
    rw[if_pos ha,this];rfl
   ·rw[if_neg ha,if_neg<|by simp];by_cases h35:x.toNat=35
    ·have hw:bH x=false:=by simp[bH,h35]
     rw[if_pos h35,ih,qK (d:=true)<|by simp[aM,h35,hw]];simp[h35]
    ·rw[if_neg h35];by_cases hw:bH x=false
     ·have :kB false (x::r)=false:=by simp[kB,aM,hw,h35]
      rw[if_pos hw,this];rfl
     ·have hw':bH x=true:=by simpa using hw
      rw[if_neg hw,ih,qK (d:=false)<|by simp[aM,hw']];by_cases h10:x.toNat=10<;>simp[h10,h35]
theorem Ex{l:YB}{x:UInt8}{c fin:Bool}(h:k<l.length)(E:l[k]=x):cC c (l.drop k) fin=
  if aT x=false then false else if c=true then cC (!(x.toNat==10)) (l.drop<|k+1) fin else if x.toNat=35 then cC true (l.drop<|k+1) fin else if bH x=false then false else cC c (l.drop<|k+1) fin:=by
 rw[aan h,E];rfl
theorem Gv{l:YB}{c fin:Bool}(h:l.length<=k):cC c (l.drop k) fin=(!c||fin):=by rw[List.drop_of_length_le h];rfl
theorem Dm{l:YB}{x:UInt8}{c:Bool}(h:k<l.length)(E:l[k]=x):ky c (l.drop k)=ky (if x.toNat=10 then false else if x.toNat=35 then true else c) (l.drop<|k+1):=by rw[aan h,E];rfl
theorem EU{l:YB}{c:Bool}(h:l.length<=k):ky c (l.drop k)=c:=by rw[List.drop_of_length_le h];rfl
theorem Sz(x:UInt8):((x.toNat:Int)!=10)=!(x.toNat==10):=by rw[Bool.eq_iff_iff];simp;omega
set_option maxHeartbeats 1000000 in
theorem PZ (l:List UInt8) (fin:Bool) (w:World) (hl:l.length<=281474976710656):Calls prog 161 #[.string ⟨l.toArray⟩,.bool fin] w λe w'=>e=.returned (.bool<|cC false l fin)∧w=w':=by
  obtain⟨n,b,hLd⟩:∃n b,aM false l 0=(n,b):=⟨_,_,rfl⟩;have hnl:n<=l.length:=by have h:=pY false l 0;rw[hLd]at h;simpa using h
  have HLd:=Lib.hid hLd;have HW:=Lib.hid (show kB false l=(b.isNone&&n==l.length)from by rw[kB,hLd]);have HT:=Lib.hid<|BA l false fin;clear hLd
  go_enter func161,ntmps161
  go_wp2_with fail
  refine(Ow l 0 0 I _ (aat _) hl).mono ?_;rintro e w' ⟨rfl,rfl⟩;rw[List.drop_zero,HLd.out];cases b with
  | some q=>
    have hq2:Au 0 (some q)=((0+q:Nat):Int):=rfl;rw[hq2,Nat.zero_add];have hq:(0:Int)<=(q:Int):=by omega
    have HF:=Lib.hid (show cC false l fin=false from by rw[HT.out,HW.out];rfl)
    go_wp2
    go_ret
    exact⟨aX HF.out.symm,rfl⟩
  | none=>
    have hq2:Au 0 none=-1:=rfl;rw[hq2];clear hq2;by_cases hn:n<l.length
    · have HF := Lib.hid (show cC      false l fin = false from by rw[HT.out,HW.out];have :(n==l.length)=false:=by simp;omega
                                                                   rw[this];rfl)
      go_wp2
      go_ret
      exact⟨aX HF.out.symm,rfl⟩
    · have hnb:decide (n<l.length)=false:=by simpa using hn
      have HF:=Lib.hid (show cC false l fin=(!ky false l||fin)from by
        rw[HT.out,HW.out];have :(n==l.length)=true:=by simp;omega
        rw[this];rfl)
      cases fin with
      | true=>
        go_wp2
        go_ret
        exact⟨aX (by rw[HF.out];simp),rfl⟩
      | false=>
        obtain⟨r,hr⟩:∃r,ky false l=r:=⟨_,rfl⟩;have HR:=Lib.hid hr;clear hr
        go_wp2
        go_loopg [7,8] l.length (λg s7 s8 wx=>∃(i:Nat) (c:Bool),g=l.length-i∧wx=w∧i<=l.length∧s7=.bool c∧s8=.int .i64 i∧Hid (ky c (l.drop i)=r))
        case atStart=>exact⟨0,false,rfl,rfl,aat _,rfl,rfl,Lib.hid<|by simpa using HR.out⟩
        case round=>
          obtain⟨i,c,rfl,rfl,hil,rfl,rfl,HC⟩:=hrel;by_cases hit:i<l.length
          rotate_left
          · have HF2:=Lib.hid (show c=r from by rw[<-HC.out,EU<|by omega])
            go_wp2_with fail
            go_ret
            exact⟨aX (by rw[HF.out,HR.out,HF2.out];simp),rfl⟩
          obtain⟨x,hx⟩:∃c,({data:=l.toArray}:ByteArray)[i]'hit=c:=⟨_,rfl⟩;have HXi:=Lib.hid<|show l[i]=x from hx;have HS:=Lib.hid<|HC.out.symm.trans<|Dm hit HXi.out;clear HC;cases h35:((x.toNat:Int)==35)<;>cases h10:((x.toNat:Int)==10)
          · go_wp2
            go_roundg (l.length-(i+1))
            case measure=>omega
            case rel=>exact⟨i+1,c,rfl,rfl,by omega,rfl,by go_num,Lib.hid<|by rw[HS.out,if_neg<|bG (m:=10) h10,if_neg<|bG (m:=35) h35]⟩
          · go_wp2
            go_roundg (l.length-(i+1))
            case measure=>omega
            case rel=>exact⟨i+1,false,rfl,rfl,by omega,rfl,by go_num,Lib.hid<|by rw[HS.out,if_pos<|cJ (m:=10) h10]⟩
          · go_wp2
            go_roundg (l.length-(i+1))
            case measure=>omega
            case rel=>exact⟨i+1,true,rfl,rfl,by omega,rfl,by go_num,Lib.hid<|by rw[HS.out,if_neg<|bG (m:=10) h10,if_pos<|cJ (m:=35) h35]⟩
          · have h1:=cJ (m:=10) h10;have h2:=cJ (m:=35) h35;omega
theorem FK(a b:YB):(ByteArray.mk a.toArray)++(ByteArray.mk b.toArray)=⟨(a++b).toArray⟩:=by apply ByteArray.ext;simp
theorem tS{a b:YB}(h:bj a=0∨bj b=0):fusesT a b=false:=by simp[fusesT,h]
theorem jn{a b:YB}(h:¬(bj a=0∨bj b=0))(h2:¬((fj<|a++b).err=0∧(fj<|a++b).toks.length=2∧(fj<|a++b).tail=[])):fusesT a b=true:=by unfold fusesT;rw[if_neg h];simp only;rw[if_neg h2]
theorem Bm{a b:YB}{t0 t1:TokZ}(h:¬(bj a=0∨bj b=0))(h1:(fj<|a++b).err=0)(h2:(fj<|a++b).toks=[t0,t1])(E:(fj<|a++b).tail=[]):
  fusesT a b=!(t0.lead==[]&&t0.text==a&&t1.lead==[]&&t1.text==b):=by
 unfold fusesT;rw[if_neg h];simp only;rw[h1,h2,E];simp
theorem IL{l:YB}{b:Bool}(h:(l==[])=b):l.isEmpty=b:=by rw[<-h];cases l<;>rfl
theorem ww{l:List TokZ}(h:l.length=2):∃t0 t1,l=[t0,t1]:=by
 match l,h with
 |[a,b],_=>exact⟨a,b,rfl⟩
set_option maxHeartbeats 2000000 in
theorem Rd(a b:YB)(w:World)(ha:a.length<=140737488355328)(hb:b.length<=140737488355328):Calls prog 113 #[.string ⟨a.toArray⟩,.string ⟨b.toArray⟩] w λe w'=>e=.returned (.bool<|fusesT a b)∧Ext w w':=by
 have hx:=FK;obtain⟨ka,G⟩:∃k,bj a=k:=⟨_,rfl⟩;obtain⟨kb,J⟩:∃k,bj b=k:=⟨_,rfl⟩;have HKa:=Lib.hid G;have HKb:=Lib.hid J;clear G J
 go_enter func113,ntmps113
 go_wp2_with fail
 refine(DX _ _<|by omega).mono ?_;rintro e1 w1 ⟨rfl,U⟩;rw[HKa.out];have HX1:=Lib.hid U;clear U;by_cases h1:ka=0
 ·subst h1
  go_wp2_with fail
  go_ret
  exact⟨aX (tS<|.inl HKa.out).symm,HX1.out⟩
 have h1b:((ka:Int)==0)=false:=by simp;omega
 go_wp2_with fail
 refine(DX _ _<|by omega).mono ?_;rintro e2 w2 ⟨rfl,Z⟩;rw[HKb.out];have HX2:=Lib.hid<|HX1.out.trans Z;clear Z;by_cases h2:kb=0
 ·subst h2
  go_wp2_with fail
  go_ret
  exact⟨aX (tS<|.inr HKb.out).symm,HX2.out⟩
 have h2b:((kb:Int)==0)=false:=by simp;omega
 have HN:=Lib.hid (show¬(bj a=0∨bj b=0)from by rw[HKa.out,HKb.out];omega);obtain⟨Rs,hRs⟩:∃Rs,fj (a++b)=Rs:=⟨_,rfl⟩;have HRs:=Lib.hid hRs;clear hRs
 go_wp2_with fail
 refine(SN _ _ (by simp;omega)).mono ?_;rintro e3 w3 ⟨v,rfl,htr,hx3⟩;rw[HRs.out]at htr⊢;obtain⟨A,c,rfl,hc1,hc2,E⟩:=htr;unfold maxLen at hc2;have HX3:=Lib.hid<|HX2.out.trans hx3;clear hx3;have HRow:=Lib.hid E;clear E;obtain⟨toks,tail,place,er⟩:=Rs;simp only at HRow hc1 hc2⊢;by_cases h3:er=0
 rotate_left
 ·have h3b:((er:Int)!=0)=true:=by simp;omega
  have HF:=Lib.hid (jn HN.out λh=>h3 (by rw[HRs.out]at h;exact h.1))
  go_wp2_with fail
  go_ret
  exact⟨aX HF.out.symm,HX3.out⟩
 subst h3;by_cases h4:toks.length=2
 rotate_left
 ·have h4b:((toks.length:Int)!=2)=true:=by simp;omega
  have HF:=Lib.hid (jn HN.out λh=>h4 (by rw[HRs.out]at h;exact h.2.1))
  go_wp2_with fail
  go_ret
  exact⟨aX HF.out.symm,HX3.out⟩
 by_cases h5:tail=[]
 rotate_left
 ·have h5b:(tail==[])=false:=by simpa using h5
  have h5c:tail.isEmpty=false:=by simpa using h5
  obtain⟨t0,t1,rfl⟩:=ww h4;have HF:=Lib.hid (jn HN.out λh=>h5 (by rw[HRs.out]at h;exact h.2.2));clear h5 h4
  go_wp2_with fail
  go_ret
  exact⟨aX HF.out.symm,HX3.out⟩
 subst h5;obtain⟨t0,t1,rfl⟩:=ww h4;clear h4;obtain⟨b0,off,rfl,hb0,p0,p1,p2⟩:=um HRow.out (k:=0) (by simp);obtain⟨b0',off',heq,_,q0,q1,q2⟩:=um HRow.out (k:=1) (by simp);obtain⟨rfl,rfl⟩:b0=b0'∧off=off':=by simpa using heq
 clear heq;have HF:=Lib.hid (Bm HN.out (by rw[HRs.out]) (by rw[HRs.out])<|by rw[HRs.out]);simp only[Nat.zero_mul,Nat.one_mul,Nat.add_zero,List.getElem_cons_zero,List.getElem_cons_succ]at p0 p1 p2 q0 q1 q2;cases g1:(t0.text==a)
 ·skip
  go_wp2_with fail
  go_ret
  exact⟨aX (by rw[HF.out,g1];simp),HX3.out⟩
 cases g0:(t0.lead==[])
 ·skip
  have g0':t0.lead.isEmpty=false:=by simpa using g0
  go_wp2_with fail
  go_ret
  exact⟨aX (by rw[HF.out,g1,g0];simp),HX3.out⟩
 have g0':t0.lead.isEmpty=true:=by simpa using g0
 cases g3:(t1.text==b)
 ·skip
  go_wp2_with fail
  go_ret
  exact⟨aX (by rw[HF.out,g1,g0,g3];simp),HX3.out⟩
 cases g2:(t1.lead==[])
 all_goals
  have g2':=IL g2
  go_wp2_with fail
  go_ret
  exact⟨aX (by rw[HF.out,g1,g0,g3,g2];simp),HX3.out⟩
theorem NE(a b:YB)(E:a.length<=140737488355328)(hb:b.length<=140737488355328):pP a b (fusesT a b):=sum0_calls rfl rfl λS w ρ xs hx=>by simp only[LRel]at hx;obtain⟨x,ys,rfl,h1,y,zs,rfl,h2,rfl⟩:=hx;simp only[VRel]at h1 h2;subst h1 h2;exact(Rd a b w E hb).mono λe w' ⟨h1,h2⟩=>⟨_,h1,by simp only[VRel],Cq h2⟩
theorem Dh(a:YB)(f:Bool)(E:a.length<=140737488351232):jX a f (cC false a f):=sum0_calls rfl rfl λS w ρ xs hx=>by
 simp only[LRel]at hx;obtain⟨x,ys,rfl,h1,y,zs,rfl,h2,rfl⟩:=hx;simp only[VRel]at h1 h2;subst h1 h2;exact(PZ a f w<|by omega).mono λe w' ⟨h1,h2⟩=>⟨_,h1,by simp only[VRel],h2▸Chg.refl _ _⟩
abbrev Pce:=aa
def Qp(l:List Pce):Prop:=∀x∈l,x.Lead.length<=2000000∧x.Text.length<=2000010
theorem bP{a b:List Pce}:Qp (a++b)↔Qp a∧Qp b:=⟨λh=>⟨λx hx=>h x (by simp[hx]),λx hx=>h x<|by simp[hx]⟩,λh x hx=>by rcases List.mem_append.1 hx with h1|h1;exact h.1 x h1;exact h.2 x h1⟩
theorem bD{x:Pce}{a:List Pce}:Qp (x::a)↔(x.Lead.length<=2000000∧x.Text.length<=2000010)∧Qp a:=⟨λh=>⟨h x (by simp),λy hy=>h y<|by simp[hy]⟩,λh y hy=>by rcases List.mem_cons.1 hy with h1|h1;subst h1;exact h.1;exact h.2 y h1⟩
theorem bR:Qp []:=λx hx=>by cases hx
theorem bk(k:Nat)(ht:tbulk t<=2000000):∃s,aq t (k:Int) s∧s.length<=2000000∧s=t.leads.getD k []:=by
 by_cases h:(k:Int)<(t.leads.length:Nat)
 ·obtain⟨s,hs,_⟩|h':=aZ t.leads k
  ·have :=ta hs;have :=bt t;exact⟨s,pK 0 _ _ _ ⟨λ_=>⟨k,I,s,hs,I⟩,λh'=>absurd h h'⟩,by omega,by rw[List.getD_eq_getElem?_getD,hs];rfl⟩
  ·omega
 ·exact⟨[],pK 0 _ _ _ ⟨λh'=>absurd h' h,λ_=>rfl⟩,by simp,by rw[List.getD_eq_getElem?_getD,List.getElem?_eq_none<|by omega];rfl⟩
def ei(ls:List YB)(c:Nat):List (List Pce)->Nat->List Pce
 |[],_=>[]
 |f::r,i=>(if 0<i then[⟨ls.getD (c+i-1) [],[44]⟩]else[])++(f++ei ls c r (i+1))
def dd(k:Int)(x:YB)(ls:List YB)(fs:List<|List Pce):List Pce:=
 if k=1 then⟨ls.getD 0 [],[109,111,100,117,108,101]⟩::⟨ls.getD 1 [],x⟩::(fs.flatten++[⟨ls.getD 2 [],[]⟩])
 else if k=2 then⟨ls.getD 0 [],[100,101,102]⟩::⟨ls.getD 1 [],x⟩::⟨ls.getD 2 [],[40]⟩::(ei ls 6 (fs.take<|fs.length-2) 0++(⟨ls.getD 3 [],[41]⟩::⟨ls.getD 4 [],[58]⟩::(fs.getD (fs.length-2) []++(⟨ls.getD 5 [],[61]⟩::fs.getD (fs.length-1) []))))
 else if k=3 then⟨ls.getD 0 [],[116,121,112,101]⟩::⟨ls.getD 1 [],x⟩::⟨ls.getD 2 [],[61]⟩::fs.getD 0 []
 else if k=4 then⟨ls.getD 0 [],x⟩::⟨ls.getD 1 [],[58]⟩::fs.getD 0 []
 else if k=17 then fs.getD 0 []
 else if k=8 then⟨ls.getD 0 [],[91]⟩::(fs.getD 0 []++[⟨ls.getD 1 [],[93]⟩])
 else if k=16 then⟨ls.getD 0 [],x⟩::⟨ls.getD 1 [],[40]⟩::(ei ls 3 fs 0++[⟨ls.getD 2 [],[41]⟩])
 else if k=18 then⟨ls.getD 0 [],[91]⟩::(ei ls 2 fs 0++[⟨ls.getD 1 [],[93]⟩])
 else if k=19 then⟨ls.getD 0 [],[105,102]⟩::(fs.getD 0 []++(⟨ls.getD 1 [],[116,104,101,110]⟩::(fs.getD 1 []++(⟨ls.getD 2 [],[101,108,115,101]⟩::fs.getD 2 []))))
 else if k=20 then⟨ls.getD 0 [],[108,101,116]⟩::⟨ls.getD 1 [],x⟩::⟨ls.getD 2 [],[61]⟩::(fs.getD 0 []++(⟨ls.getD 3 [],[105,110]⟩::fs.getD 1 []))
 else if k=21 then fs.getD 0 []++(⟨ls.getD 0 [],x⟩::fs.getD 1 [])
 else if k=22 then⟨ls.getD 0 [],[40]⟩::(fs.getD 0 []++[⟨ls.getD 1 [],[41]⟩])
 else[⟨ls.getD 0 [],if k=5 then[73,110,116]else if k=6 then[84,101,120,116]else if k=7 then[66,111,111,108]else if k=13 then[116,114,117,101]else if k=14 then[102,97,108,115,101]else if k=15 then[63]else x⟩]
mutual
def pcT:Tree->List Pce
 |.node k x ls ks=>dd k x ls<|pcTs ks
def pcTs:YT->List (List Pce)
 |[]=>[]
 |t::r=>pcT t::pcTs r
end
theorem dv(t:Tree):pcT t=dd t.kind t.text t.leads (pcTs t.kids):=by cases t;simp only[pcT];rfl
theorem qv:∀ks:YT,pcTs ks=ks.map pcT
 |[]=>rfl
 |t::r=>by simp[pcTs,qv r]
variable{u:Tree}
theorem en{ks:YT}(h:ks[i]?=some u):(pcTs ks)[i]?=some (pcT u):=by rw[qv,List.getElem?_map,h];rfl
theorem Nr(ks:YT):(pcTs ks).length=ks.length:=by rw[qv,aam]
theorem LO(ks:YT)(n:Nat):pcTs (ks.take n)=(pcTs ks).take n:=by rw[qv,qv,List.map_take]
def Pok(t:Tree):Prop:=∀l,l.length+8*tbulk t<=900000000->∃r,ar l t r∧r.length+1<=l.length+8*tbulk t∧(Qp l->Qp r)∧r=l++pcT t
theorem zF{k n:Int}:∀{l:YT} {i:Nat},shapeKs k n i l=true->∀j u,l[j]?=some u->gZ k n ((i+j:Nat):Int) u.kind=true∧shapeK u=true
 |[],_,_,j,u,h=>by simp at h
 |t::r,i,hs,0,u,h=>by simp only[shapeKs,aab]at hs;simp at h;subst h;exact⟨hs.1.1,hs.1.2⟩
 |t::r,i,hs,j+1,u,h=>by simp only[shapeKs,aab]at hs;have :=zF hs.2 j u (by simpa using h);rw[show i+1+j=i+(j+1) by omega]at this;exact this
theorem iB(hs:shapeK t=true)(E:t.kids[i]?=some u):shapeK u=true∧gZ t.kind t.kids.length i u.kind=true:=by rw[dQ]at hs;simp only[aab]at hs;have :=zF hs.2 i u E;rw[Nat.zero_add]at this;exact⟨this.2,this.1⟩
theorem lu(hs:shapeK t=true):0<=bB t.kind t.kids.length:=by rw[dQ]at hs;simp only[aab,aas]at hs;exact hs.1.1
theorem dX(hs:shapeK t=true):(t.kind=2->2<=t.kids.length)∧(t.kind=18->1<=t.kids.length)∧(t.kind=3∨t.kind=4∨t.kind=8∨t.kind=17∨t.kind=22->t.kids.length=1)∧(t.kind=19->t.kids.length=3)∧(t.kind=20∨t.kind=21->t.kids.length=2):=by
 have h:=lu hs;refine⟨λE=>?_,λE=>?_,λE=>?_,λE=>?_,λE=>?_⟩
 ·rw[E]at h;simp only[bB,f0]at h;simp at h;omega
 ·rw[E]at h;simp only[bB,f0]at h;simp at h;omega
 ·rcases E with E|E|E|E|E<;>(rw[E]at h;simp only[bB,f0]at h;simp at h;omega)
 ·rw[E]at h;simp only[bB,f0]at h;simp at h;omega
 ·rcases E with E|E<;>(rw[E]at h;simp only[bB,f0]at h;simp at h;omega)
variable{l r:List Pce}
theorem dn1(M:Nat)(E:t.kind∉[(1:Int)])(h:jJ M l t r):ar l t r:=oz M _ _ _ ⟨λe=>absurd (by simp[e]) E,λ_=>h⟩
theorem dn2(M:Nat)(E:t.kind∉[(1:Int),2])(h:jS M l t r):ar l t r:=dn1 (M+1) (λe=>E (by simp only[aai,List.not_mem_nil,or_false]at e⊢;omega)) (nv M _ _ _ ⟨λe=>absurd (by simp[e]) E,λ_=>h⟩)
theorem dn3(M:Nat)(E:t.kind∉[(1:Int),2,3])(h:jy M l t r):ar l t r:=dn2 (M+1) (λe=>E (by simp only[aai,List.not_mem_nil,or_false]at e⊢;omega)) (nB M _ _ _ ⟨λe=>absurd (by simp[e]) E,λ_=>h⟩)
theorem dn4(M:Nat)(E:t.kind∉[(1:Int),2,3,4])(h:jC M l t r):ar l t r:=dn3 (M+1) (λe=>E (by simp only[aai,List.not_mem_nil,or_false]at e⊢;omega)) (nc M _ _ _ ⟨λe=>absurd (by simp[e]) E,λ_=>h⟩)
theorem dn5(M:Nat)(E:t.kind∉[(1:Int),2,3,4,5])(h:jL M l t r):ar l t r:=dn4 (M+1) (λe=>E (by simp only[aai,List.not_mem_nil,or_false]at e⊢;omega)) (nj M _ _ _ ⟨λe=>absurd (by simp[e]) E,λ_=>h⟩)
theorem dn6(M:Nat)(E:t.kind∉[(1:Int),2,3,4,5,6])(h:jd M l t r):ar l t r:=dn5 (M+1) (λe=>E (by simp only[aai,List.not_mem_nil,or_false]at e⊢;omega)) (mZ M _ _ _ ⟨λe=>absurd (by simp[e]) E,λ_=>h⟩)
theorem dn7(M:Nat)(E:t.kind∉[(1:Int),2,3,4,5,6,7])(h:jc M l t r):ar l t r:=dn6 (M+1) (λe=>E (by simp only[aai,List.not_mem_nil,or_false]at e⊢;omega)) (mi M _ _ _ ⟨λe=>absurd (by simp[e]) E,λ_=>h⟩)
theorem dn8(M:Nat)(E:t.kind∉[(1:Int),2,3,4,5,6,7,13])(h:iQ M l t r):ar l t r:=dn7 (M+1) (λe=>E (by simp only[aai,List.not_mem_nil,or_false]at e⊢;omega)) (mr M _ _ _ ⟨λe=>absurd (by simp[e]) E,λ_=>h⟩)
theorem dn9(M:Nat)(E:t.kind∉[(1:Int),2,3,4,5,6,7,13,14])(h:iZ M l t r):ar l t r:=dn8 (M+1) (λe=>E (by simp only[aai,List.not_mem_nil,or_false]at e⊢;omega)) (mD M _ _ _ ⟨λe=>absurd (by simp[e]) E,λ_=>h⟩)
theorem QE(M:Nat)(E:t.kind∉[(1:Int),2,3,4,5,6,7,13,14,15])(h:iV M l t r):ar l t r:=dn9 (M+1) (λe=>E (by simp only[aai,List.not_mem_nil,or_false]at e⊢;omega)) (mv M _ _ _ ⟨λe=>absurd (by simp[e]) E,λ_=>h⟩)
theorem Re(M:Nat)(E:t.kind∉[(1:Int),2,3,4,5,6,7,13,14,15,8])(h:iU M l t r):ar l t r:=QE (M+1) (λe=>E (by simp only[aai,List.not_mem_nil,or_false]at e⊢;omega)) (mo M _ _ _ ⟨λe=>absurd (by simp[e]) E,λ_=>h⟩)
theorem QV(M:Nat)(E:t.kind∉[(1:Int),2,3,4,5,6,7,13,14,15,8,16])(h:iL M l t r):ar l t r:=Re (M+1) (λe=>E (by simp only[aai,List.not_mem_nil,or_false]at e⊢;omega)) (mx M _ _ _ ⟨λe=>absurd (by simp[e]) E,λ_=>h⟩)
theorem Rg(M:Nat)(E:t.kind∉[(1:Int),2,3,4,5,6,7,13,14,15,8,16,17])(h:iS M l t r):ar l t r:=QV (M+1) (λe=>E (by simp only[aai,List.not_mem_nil,or_false]at e⊢;omega)) (mj M _ _ _ ⟨λe=>absurd (by simp[e]) E,λ_=>h⟩)
theorem QC(M:Nat)(E:t.kind∉[(1:Int),2,3,4,5,6,7,13,14,15,8,16,17,18])(h:iM M l t r):ar l t r:=Rg (M+1) (λe=>E (by simp only[aai,List.not_mem_nil,or_false]at e⊢;omega)) (mA M _ _ _ ⟨λe=>absurd (by simp[e]) E,λ_=>h⟩)
theorem Rw(M:Nat)(E:t.kind∉[(1:Int),2,3,4,5,6,7,13,14,15,8,16,17,18,19])(h:iW M l t r):ar l t r:=QC (M+1) (λe=>E (by simp only[aai,List.not_mem_nil,or_false]at e⊢;omega)) (ml M _ _ _ ⟨λe=>absurd (by simp[e]) E,λ_=>h⟩)
theorem RR(M:Nat)(E:t.kind∉[(1:Int),2,3,4,5,6,7,13,14,15,8,16,17,18,19,20])(h:iK M l t r):ar l t r:=Rw (M+1) (λe=>E (by simp only[aai,List.not_mem_nil,or_false]at e⊢;omega)) (mC M _ _ _ ⟨λe=>absurd (by simp[e]) E,λ_=>h⟩)
theorem Qy(M:Nat)(E:t.kind∉[(1:Int),2,3,4,5,6,7,13,14,15,8,16,17,18,19,20,21])(h:iN M l t r):ar l t r:=RR (M+1) (λe=>E (by simp only[aai,List.not_mem_nil,or_false]at e⊢;omega)) (mw M _ _ _ ⟨λe=>absurd (by simp[e]) E,λ_=>h⟩)
theorem p_5(E:t.kind=5)(ht:tbulk t<=2000000):Pok t:=λl hl=>by obtain⟨s1,g1,G,J⟩:=bk 0 ht;have U:=bK t;have M:=0;refine⟨l++[⟨s1,[73,110,116]⟩],?_,by simp;omega,λhq=>by simp only[bP,bD];exact⟨hq,⟨G,by decide⟩,bR⟩,by simp[dv,dd,E,J]⟩;exact dn4 (M+2) (by rw[E];decide) (nj (M+1) _ _ _ ⟨λ_=>⟨_,g1,by simp;omega,rfl⟩,λh=>absurd E h⟩)
theorem p_6(E:t.kind=6)(ht:tbulk t<=2000000):Pok t:=λl hl=>by obtain⟨s1,g1,G,J⟩:=bk 0 ht;have U:=bK t;have M:=0;refine⟨l++[⟨s1,[84,101,120,116]⟩],?_,by simp;omega,λhq=>by simp only[bP,bD];exact⟨hq,⟨G,by decide⟩,bR⟩,by simp[dv,dd,E,J]⟩;exact dn5 (M+2) (by rw[E];decide) (mZ (M+1) _ _ _ ⟨λ_=>⟨_,g1,by simp;omega,rfl⟩,λh=>absurd E h⟩)
theorem p_7(E:t.kind=7)(ht:tbulk t<=2000000):Pok t:=λl hl=>by obtain⟨s1,g1,G,J⟩:=bk 0 ht;have U:=bK t;have M:=0;refine⟨l++[⟨s1,[66,111,111,108]⟩],?_,by simp;omega,λhq=>by simp only[bP,bD];exact⟨hq,⟨G,by decide⟩,bR⟩,by simp[dv,dd,E,J]⟩;exact dn6 (M+2) (by rw[E];decide) (mi (M+1) _ _ _ ⟨λ_=>⟨_,g1,by simp;omega,rfl⟩,λh=>absurd E h⟩)
theorem Tj(E:t.kind=13)(ht:tbulk t<=2000000):Pok t:=λl hl=>by obtain⟨s1,g1,G,J⟩:=bk 0 ht;have U:=bK t;have M:=0;refine⟨l++[⟨s1,[116,114,117,101]⟩],?_,by simp;omega,λhq=>by simp only[bP,bD];exact⟨hq,⟨G,by decide⟩,bR⟩,by simp[dv,dd,E,J]⟩;exact dn7 (M+2) (by rw[E];decide) (mr (M+1) _ _ _ ⟨λ_=>⟨_,g1,by simp;omega,rfl⟩,λh=>absurd E h⟩)
theorem SW(E:t.kind=14)(ht:tbulk t<=2000000):Pok t:=λl hl=>by obtain⟨s1,g1,G,J⟩:=bk 0 ht;have U:=bK t;have M:=0;refine⟨l++[⟨s1,[102,97,108,115,101]⟩],?_,by simp;omega,λhq=>by simp only[bP,bD];exact⟨hq,⟨G,by decide⟩,bR⟩,by simp[dv,dd,E,J]⟩;exact dn8 (M+2) (by rw[E];decide) (mD (M+1) _ _ _ ⟨λ_=>⟨_,g1,by simp;omega,rfl⟩,λh=>absurd E h⟩)
theorem TH(E:t.kind=15)(ht:tbulk t<=2000000):Pok t:=λl hl=>by obtain⟨s1,g1,G,J⟩:=bk 0 ht;have U:=bK t;have M:=0;refine⟨l++[⟨s1,[63]⟩],?_,by simp;omega,λhq=>by simp only[bP,bD];exact⟨hq,⟨G,by decide⟩,bR⟩,by simp[dv,dd,E,J]⟩;exact dn9 (M+2) (by rw[E];decide) (mv (M+1) _ _ _ ⟨λ_=>⟨_,g1,by simp;omega,rfl⟩,λh=>absurd E h⟩)
theorem vw{l:YT}(E:l[0]?=some u):tbulk u<=kbulk l:=cP E
theorem BB{l:YT}{v:Tree}(E:l[0]?=some u)(h1:l[1]?=some v):tbulk u+tbulk v<=kbulk l:=by
 match l,E,h1 with
 |a::r,E,h1=>simp at E;subst E;have :=cP (ks:=r) (i:=0) (by simpa using h1);simp only[kbulk];omega
theorem Pe{l:YT}{v x:Tree}(E:l[0]?=some u)(h1:l[1]?=some v)(h2:l[2]?=some x):tbulk u+tbulk v+tbulk x<=kbulk l:=by
 match l,E,h1,h2 with
 |a::r,E,h1,h2=>simp at E;subst E;have :=BB (l:=r) (by simpa using h1) (by simpa using h2);simp only[kbulk];omega
theorem p_3(G:t.kind=3)(hs:shapeK t=true)(ht:tbulk t<=2000000)(ih:∀(i:Nat) (u:Tree),t.kids[i]?=some u->Pok u):Pok t:=λl hl=>by
 have htp:=bK t;have htx:=cU t;have hn:=dX hs;have M:=0;have hkn:t.kids.length=1:=hn.2.2.1 (by simp[G]);obtain⟨u0,E,_⟩|h':=aZ t.kids 0
 rotate_left
 ·omega
 have J:tbulk u0+1<=tbulk t:=by have hb:=bt t;have hx:=vw E;omega
 obtain⟨s1,g1,b1,x1⟩:=bk 0 ht;obtain⟨U,g2,b2,x2⟩:=bk 1 ht;obtain⟨Z,g3,b3,x3⟩:=bk 2 ht;have q1:Qp l->Qp (l++[⟨s1,[116,121,112,101]⟩,⟨U,t.text⟩,⟨Z,[61]⟩]):=λhq=>by simp only[bP,bD];exact⟨hq,⟨b1,by decide⟩,⟨b2,by omega⟩,⟨b3,by decide⟩,bR⟩
 obtain⟨r0,e0,z0,y0,m0⟩:=ih 0 u0 E (l++[⟨s1,[116,121,112,101]⟩,⟨U,t.text⟩,⟨Z,[61]⟩]) (by first|omega|(simp only[aac,aad,aae];omega))
 try simp only[aac,aad,aae]at z0
 refine⟨r0,?_,by first|omega|(simp only[aac,aad,aae];omega),λhq=>(y0<|q1 hq),by simp[dv,dd,G,m0,x1,x2,x3,en E]⟩;exact dn2 (M+2) (by rw[G];decide) (nB (M+1) _ _ _ ⟨λ_=>vd (M) _ _ _ ⟨_,g1,_,g2,_,g3,by simp;omega,u0,E,_,e0,rfl⟩,λh=>absurd G h⟩)
theorem p_4(G:t.kind=4)(hs:shapeK t=true)(ht:tbulk t<=2000000)(ih:∀(i:Nat) (u:Tree),t.kids[i]?=some u->Pok u):Pok t:=λl hl=>by
 have Z:=bK t;have htx:=cU t;have hn:=dX hs;have M:=0;have hkn:t.kids.length=1:=hn.2.2.1 (by simp[G]);obtain⟨u0,E,_⟩|h':=aZ t.kids 0
 rotate_left
 ·omega
 have J:tbulk u0+1<=tbulk t:=by have hb:=bt t;have hx:=vw E;omega
 obtain⟨s1,g1,b1,x1⟩:=bk 0 ht;obtain⟨U,g2,b2,x2⟩:=bk 1 ht;have q1:Qp l->Qp (l++[⟨s1,t.text⟩,⟨U,[58]⟩]):=λhq=>by simp only[bP,bD];exact⟨hq,⟨b1,by omega⟩,⟨b2,by decide⟩,bR⟩
 obtain⟨r0,e0,z0,y0,m0⟩:=ih 0 u0 E (l++[⟨s1,t.text⟩,⟨U,[58]⟩]) (by first|omega|(simp only[aac,aad,aae];omega))
 try simp only[aac,aad,aae]at z0
 refine⟨r0,?_,by first|omega|(simp only[aac,aad,aae];omega),λhq=>(y0<|q1 hq),by simp[dv,dd,G,m0,x1,x2,en E]⟩;exact dn3 (M+2) (by rw[G];decide) (nc (M+1) _ _ _ ⟨λ_=>va (M) _ _ _ ⟨_,g1,_,g2,by simp;omega,u0,E,_,e0,rfl⟩,λh=>absurd G h⟩)
theorem p_8(G:t.kind=8)(hs:shapeK t=true)(ht:tbulk t<=2000000)(ih:∀(i:Nat) (u:Tree),t.kids[i]?=some u->Pok u):Pok t:=λl hl=>by
 have htp:=bK t;have htx:=cU t;have hn:=dX hs;have M:=0;have hkn:t.kids.length=1:=hn.2.2.1 (by simp[G]);obtain⟨u0,E,_⟩|h':=aZ t.kids 0
 rotate_left
 ·omega
 have U:tbulk u0+1<=tbulk t:=by have hb:=bt t;have hx:=vw E;omega
 obtain⟨s1,g1,b1,x1⟩:=bk 0 ht;have q1:Qp l->Qp (l++[⟨s1,[91]⟩]):=λhq=>by simp only[bP,bD];exact⟨hq,⟨b1,by decide⟩,bR⟩
 obtain⟨J,e0,z0,y0,m0⟩:=ih 0 u0 E (l++[⟨s1,[91]⟩]) (by first|omega|(simp only[aac,aad,aae];omega))
 try simp only[aac,aad,aae]at z0
 obtain⟨Z,g2,b2,x2⟩:=bk 1 ht;have q3:Qp J->Qp (J++[⟨Z,[93]⟩]):=λhq=>by simp only[bP,bD];exact⟨hq,⟨b2,by decide⟩,bR⟩
 refine⟨(J++[⟨Z,[93]⟩]),?_,by first|omega|(simp only[aac,aad,aae];omega),λhq=>(q3<|y0<|q1 hq),by simp[dv,dd,G,m0,x1,x2,en E]⟩;exact QE (M+2) (by rw[G];decide) (mo (M+1) _ _ _ ⟨λ_=>tK (M) _ _ _ ⟨_,g1,by simp;omega,u0,E,_,e0,_,g2,by simp;omega,rfl⟩,λh=>absurd G h⟩)
theorem SX(G:t.kind=17)(hs:shapeK t=true)(ht:tbulk t<=2000000)(ih:∀(i:Nat) (u:Tree),t.kids[i]?=some u->Pok u):Pok t:=λl hl=>by
 have U:=bK t;have Z:=cU t;have hn:=dX hs;have M:=0;have hkn:t.kids.length=1:=hn.2.2.1 (by simp[G]);obtain⟨u0,E,_⟩|h':=aZ t.kids 0
 rotate_left
 ·omega
 have J:tbulk u0+1<=tbulk t:=by have hb:=bt t;have hx:=vw E;omega
 obtain⟨r0,e0,z0,y0,m0⟩:=ih 0 u0 E l (by first|omega|(simp only[aac,aad,aae];omega))
 try simp only[aac,aad,aae]at z0
 refine⟨r0,?_,by first|omega|(simp only[aac,aad,aae];omega),λhq=>(y0 hq),by simp[dv,dd,G,m0,en E]⟩;exact QV (M+2) (by rw[G];decide)<|mj (M+1) _ _ _ ⟨λ_=>⟨u0,E,_,e0,rfl⟩,λh=>absurd G h⟩
theorem TB(U:t.kind=19)(hs:shapeK t=true)(ht:tbulk t<=2000000)(ih:∀(i:Nat) (u:Tree),t.kids[i]?=some u->Pok u):Pok t:=λl hl=>by
 have htp:=bK t;have htx:=cU t;have hn:=dX hs;have M:=0;have hkn:t.kids.length=3:=hn.2.2.2.1 U;obtain⟨u0,E,_⟩|h':=aZ t.kids 0
 rotate_left
 ·omega
 obtain⟨u1,G,_⟩|h':=aZ t.kids 1
 rotate_left
 ·omega
 obtain⟨u2,J,_⟩|h':=aZ t.kids 2
 rotate_left
 ·omega
 have hsum:tbulk u0+tbulk u1+tbulk u2+1<=tbulk t:=by have hb:=bt t;have hx:=Pe E G J;omega
 obtain⟨s1,g1,b1,x1⟩:=bk 0 ht;have q1:Qp l->Qp (l++[⟨s1,[105,102]⟩]):=λhq=>by simp only[bP,bD];exact⟨hq,⟨b1,by decide⟩,bR⟩
 obtain⟨Z,e0,z0,y0,m0⟩:=ih 0 u0 E (l++[⟨s1,[105,102]⟩]) (by first|omega|(simp only[aac,aad,aae];omega))
 try simp only[aac,aad,aae]at z0
 obtain⟨s2,g2,b2,x2⟩:=bk 1 ht;have q3:Qp Z->Qp (Z++[⟨s2,[116,104,101,110]⟩]):=λhq=>by simp only[bP,bD];exact⟨hq,⟨b2,by decide⟩,bR⟩
 obtain⟨r1,e1,z1,y1,m1⟩:=ih 1 u1 G (Z++[⟨s2,[116,104,101,110]⟩]) (by first|omega|(simp only[aac,aad,aae];omega))
 try simp only[aac,aad,aae]at z1
 obtain⟨s3,g3,b3,x3⟩:=bk 2 ht;have q5:Qp r1->Qp (r1++[⟨s3,[101,108,115,101]⟩]):=λhq=>by simp only[bP,bD];exact⟨hq,⟨b3,by decide⟩,bR⟩
 obtain⟨r2,e2,z2,y2,m2⟩:=ih 2 u2 J (r1++[⟨s3,[101,108,115,101]⟩]) (by first|omega|(simp only[aac,aad,aae];omega))
 try simp only[aac,aad,aae]at z2
 refine⟨r2,?_,by first|omega|(simp only[aac,aad,aae];omega),λhq=>(y2<|q5<|y1<|q3<|y0<|q1 hq),by simp[dv,dd,U,m0,m1,m2,x1,x2,x3,en E,en G,en J]⟩;exact QC (M+2) (by rw[U];decide) (ml (M+1) _ _ _ ⟨λ_=>tC (M) _ _ _ ⟨u0,E,_,g1,by simp;omega,_,e0,u1,G,_,g2,by simp;omega,_,e1,u2,J,_,g3,by simp;omega,_,e2,rfl⟩,λh=>absurd U h⟩)
theorem Tz(J:t.kind=20)(hs:shapeK t=true)(ht:tbulk t<=2000000)(ih:∀(i:Nat) (u:Tree),t.kids[i]?=some u->Pok u):Pok t:=λl hl=>by
 have htp:=bK t;have htx:=cU t;have hn:=dX hs;have M:=0;have hkn:t.kids.length=2:=hn.2.2.2.2 (by simp[J]);obtain⟨u0,E,_⟩|h':=aZ t.kids 0
 rotate_left
 ·omega
 obtain⟨u1,G,_⟩|h':=aZ t.kids 1
 rotate_left
 ·omega
 have Z:tbulk u0+tbulk u1+1<=tbulk t:=by have hb:=bt t;have hx:=BB E G;omega
 obtain⟨s1,g1,b1,x1⟩:=bk 0 ht;obtain⟨s2,g2,b2,x2⟩:=bk 1 ht;obtain⟨s3,g3,b3,x3⟩:=bk 2 ht;have q1:Qp l->Qp (l++[⟨s1,[108,101,116]⟩,⟨s2,t.text⟩,⟨s3,[61]⟩]):=λhq=>by simp only[bP,bD];exact⟨hq,⟨b1,by decide⟩,⟨b2,by omega⟩,⟨b3,by decide⟩,bR⟩
 obtain⟨U,e0,z0,y0,m0⟩:=ih 0 u0 E (l++[⟨s1,[108,101,116]⟩,⟨s2,t.text⟩,⟨s3,[61]⟩]) (by first|omega|(simp only[aac,aad,aae];omega))
 try simp only[aac,aad,aae]at z0
 obtain⟨s4,g4,b4,x4⟩:=bk 3 ht;have q3:Qp U->Qp (U++[⟨s4,[105,110]⟩]):=λhq=>by simp only[bP,bD];exact⟨hq,⟨b4,by decide⟩,bR⟩
 obtain⟨r1,e1,z1,y1,m1⟩:=ih 1 u1 G (U++[⟨s4,[105,110]⟩]) (by first|omega|(simp only[aac,aad,aae];omega))
 try simp only[aac,aad,aae]at z1
 refine⟨r1,?_,by first|omega|(simp only[aac,aad,aae];omega),λhq=>(y1<|q3<|y0<|q1 hq),by simp[dv,dd,J,m0,m1,x1,x2,x3,x4,en E,en G]⟩;exact Rw (M+2) (by rw[J];decide) (mC (M+1) _ _ _ ⟨λ_=>tt (M) _ _ _ ⟨_,g1,_,g2,_,g3,by simp;omega,u0,E,_,e0,_,g4,by simp;omega,u1,G,_,e1,rfl⟩,λh=>absurd J h⟩)
theorem SZ(J:t.kind=21)(hs:shapeK t=true)(ht:tbulk t<=2000000)(ih:∀(i:Nat) (u:Tree),t.kids[i]?=some u->Pok u):Pok t:=λl hl=>by
 have htp:=bK t;have htx:=cU t;have hn:=dX hs;have M:=0;have hkn:t.kids.length=2:=hn.2.2.2.2 (by simp[J]);obtain⟨u0,E,_⟩|h':=aZ t.kids 0
 rotate_left
 ·omega
 obtain⟨u1,G,_⟩|h':=aZ t.kids 1
 rotate_left
 ·omega
 have Z:tbulk u0+tbulk u1+1<=tbulk t:=by have hb:=bt t;have hx:=BB E G;omega
 obtain⟨U,e0,z0,y0,m0⟩:=ih 0 u0 E l (by first|omega|(simp only[aac,aad,aae];omega))
 try simp only[aac,aad,aae]at z0
 obtain⟨s1,g1,b1,x1⟩:=bk 0 ht;have q2:Qp U->Qp (U++[⟨s1,t.text⟩]):=λhq=>by simp only[bP,bD];exact⟨hq,⟨b1,by omega⟩,bR⟩
 obtain⟨r1,e1,z1,y1,m1⟩:=ih 1 u1 G (U++[⟨s1,t.text⟩]) (by first|omega|(simp only[aac,aad,aae];omega))
 try simp only[aac,aad,aae]at z1
 refine⟨r1,?_,by first|omega|(simp only[aac,aad,aae];omega),λhq=>(y1<|q2<|y0 hq),by simp[dv,dd,J,m0,m1,x1,en E,en G]⟩;exact RR (M+2) (by rw[J];decide) (mw (M+1) _ _ _ ⟨λ_=>tF (M) _ _ _ ⟨u0,E,_,e0,_,g1,by simp;omega,u1,G,_,e1,rfl⟩,λh=>absurd J h⟩)
theorem Tm(G:t.kind=22)(hs:shapeK t=true)(ht:tbulk t<=2000000)(ih:∀(i:Nat) (u:Tree),t.kids[i]?=some u->Pok u):Pok t:=λl hl=>by
 have htp:=bK t;have htx:=cU t;have hn:=dX hs;have M:=0;have hkn:t.kids.length=1:=hn.2.2.1 (by simp[G]);obtain⟨u0,E,_⟩|h':=aZ t.kids 0
 rotate_left
 ·omega
 have U:tbulk u0+1<=tbulk t:=by have hb:=bt t;have hx:=vw E;omega
 obtain⟨s1,g1,b1,x1⟩:=bk 0 ht;have q1:Qp l->Qp (l++[⟨s1,[40]⟩]):=λhq=>by simp only[bP,bD];exact⟨hq,⟨b1,by decide⟩,bR⟩
 obtain⟨J,e0,z0,y0,m0⟩:=ih 0 u0 E (l++[⟨s1,[40]⟩]) (by first|omega|(simp only[aac,aad,aae];omega))
 try simp only[aac,aad,aae]at z0
 obtain⟨Z,g2,b2,x2⟩:=bk 1 ht;have q3:Qp J->Qp (J++[⟨Z,[41]⟩]):=λhq=>by simp only[bP,bD];exact⟨hq,⟨b2,by decide⟩,bR⟩
 refine⟨(J++[⟨Z,[41]⟩]),?_,by first|omega|(simp only[aac,aad,aae];omega),λhq=>(q3<|y0<|q1 hq),by simp[dv,dd,G,m0,x1,x2,en E]⟩;exact Qy (M+2) (by rw[G];decide) (mh (M+1) _ _ _ ⟨λ_=>tE (M) _ _ _ ⟨_,g1,by simp;omega,u0,E,_,e0,_,g2,by simp;omega,rfl⟩,λh=>absurd G h⟩)
theorem RQ(hn:∀c:Int,c∈[(1:Int),2,3,4,5,6,7,13,14,15,8,16,17,18,19,20,21,22]->t.kind≠c)(ht:tbulk t<=2000000):Pok t:=λl hl=>by
 obtain⟨s1,g1,U,Z⟩:=bk 0 ht;have htp:=bK t;have htx:=cU t;have M:=0;refine⟨l++[⟨s1,t.text⟩],?_,by simp;omega,λhq=>by simp only[bP,bD];exact⟨hq,⟨U,by omega⟩,bR⟩,by have h1:=hn 1 (by decide);have h2:=hn 2 (by decide);have h3:=hn 3 (by decide);have h4:=hn 4 (by decide);have h5:=hn 17 (by decide);have h6:=hn 8 (by decide);have h7:=hn 16 (by decide);have h8:=hn 18 (by decide);have h9:=hn 19 (by decide);have E:=hn 20 (by decide);have G:=hn 21 (by decide);have J:=hn 22 (by decide);have k1:=hn 5 (by decide);have k2:=hn 6 (by decide);have k3:=hn 7 (by decide);have k4:=hn 13 (by decide);have k5:=hn 14 (by decide);have k6:=hn 15 (by decide);simp[dv,dd,h1,h2,h3,h4,h5,h6,h7,h8,h9,E,G,J,k1,k2,k3,k4,k5,k6,Z]⟩;exact Qy (M+2) (λe=>hn t.kind (by simp only[aai,List.not_mem_nil,or_false]at e⊢;omega) rfl) (mh (M+1) _ _ _ ⟨λh=>absurd h (hn 22<|by decide),λ_=>⟨_,g1,by simp;omega,rfl⟩⟩)
theorem Ja(ht:tbulk t<=2000000)(ih:∀(i:Nat) (u:Tree),t.kids[i]?=some u->Pok u)(n comma:Nat)(hn:n<=t.kids.length)(hc:comma<=10):∀l,l.length+8*kbulk (t.kids.take n)<=899999999->∃r,ep l t 0 (n:Int) (comma:Int) r∧r.length<=l.length+8*kbulk (t.kids.take n)∧(Qp l->Qp r)∧r=l++ei t.leads comma (pcTs<|t.kids.take n) 0:=by
 have hk:=cS t;have loop:∀k i l,n-i<=k->i<=n->l.length+8*kbulk ((t.kids.take n).drop i)<=899999999->∃r,fH (k+1) t 0 (n:Int) (comma:Int) l (i:Int) r∧r.length<=l.length+8*kbulk ((t.kids.take n).drop i)∧(Qp l->Qp r)∧r=l++ei t.leads comma (pcTs<|(t.kids.take n).drop i) i:=λk=>by
  induction k with
  |zero=>
   intro i l hi hle hl;exact⟨l,gO 0 _ _ _ _ _ _ _ ⟨λh=>by omega,λ_=>rfl⟩,by omega,λh=>h,by rw[List.drop_of_length_le (by simp;omega)];simp[pcTs,ei]⟩
  | succ k ihk=>
   intro i l hi hle hl;by_cases hin:i<n
   ·obtain⟨u,hu,hul⟩|h':=aZ t.kids i
    ·have hu':(t.kids.take n)[i]?=some u:=by rw[List.getElem?_take,if_pos hin];exact hu
     have hd:=bJ hu';rw[hd,kbulk]at hl⊢;have hup:=bK u;by_cases h0:0<i
     ·obtain⟨s,g,b,x⟩:=bk (t:=t) (comma+i-1) ht;have g':aq t ((((comma:Int)+(i:Int))-0)-1) s:=by rw[show(((comma:Int)+(i:Int))-0)-1=((comma+i-1:Nat):Int) by omega];exact g
      obtain⟨r,e,z,y,m⟩:=ih i u hu (l++[⟨s,[44]⟩]) (by simp;omega);simp only[aac,aad,aae]at z;obtain⟨r2,e2,z2,y2,m2⟩:=ihk (i+1) r (by omega) (by omega) (by omega);refine⟨r2,gO (k+1) _ _ _ _ _ _ _ ⟨λ_=>⟨λ_=>⟨by omega,by omega,by omega,s,g',by simp;omega,i,rfl,u,hu,r,e,by omega,?_⟩,λh=>by omega⟩,λh=>by omega⟩,by omega,λhq=>y2 (y (by simp only[bP,bD];exact⟨hq,⟨b,by decide⟩,bR⟩)),by simp[pcTs,ei,h0,m2,m,x]⟩;exact e2
     ·obtain⟨r,e,z,y,m⟩:=ih i u hu l (by omega);obtain⟨r2,e2,z2,y2,m2⟩:=ihk (i+1) r (by omega) (by omega) (by omega);refine⟨r2,gO (k+1) _ _ _ _ _ _ _ ⟨λ_=>⟨λh=>by omega,λ_=>⟨i,rfl,u,hu,r,e,by omega,e2⟩⟩,λh=>by omega⟩,by omega,λhq=>y2<|y hq,by simp[pcTs,ei,h0,m2,m]⟩
    ·omega
   ·exact⟨l,gO (k+1) _ _ _ _ _ _ _ ⟨λh=>by omega,λ_=>rfl⟩,by omega,λh=>h,by rw[List.drop_of_length_le (by simp;omega)];simp[pcTs,ei]⟩
 intro l hl;have h1:kbulk (t.kids.take n)<=kbulk t.kids:=by
  have :∀(l:YT) n,kbulk (l.take n)<=kbulk l:=λl=>by
   induction l with
   |nil=>intro n;simp
   |cons a r ih=>intro n;cases n with
    |zero=>simp[kbulk]
    |succ n=>have :=ih n;simp only[List.take_succ_cons,kbulk];omega
  exact this _ _
 have h2:=bt t;obtain⟨r,e,z,y,m⟩:=loop n 0 l (by omega) (by omega) (by simpa using hl);exact⟨r,yG (n+1) _ _ _ _ _ _ e,by simpa using z,y,by simpa using m⟩
theorem zD(l:YT)(n:Nat):kbulk (l.take n)+kbulk (l.drop n)=kbulk l:=by rw[<-fD,List.take_append_drop]
theorem SY(E:t.kind=16)(hs:shapeK t=true)(ht:tbulk t<=2000000)(ih:∀(i:Nat) (u:Tree),t.kids[i]?=some u->Pok u):Pok t:=λl hl=>by
 have hb:=bt t;have G:=cU t;have M:=0;obtain⟨s1,g1,J,U⟩:=bk 0 ht;obtain⟨Z,g2,b2,x2⟩:=bk 1 ht;obtain⟨r,e,z,y,m⟩:=Ja ht ih t.kids.length 3 (aag _) (by decide) (l++[⟨s1,t.text⟩,⟨Z,[40]⟩]) (by simp only[aac,aad,aae,List.take_length];omega);simp only[aac,aad,aae,List.take_length]at z;obtain⟨s9,g9,b9,x9⟩:=bk 2 ht;refine⟨r++[⟨s9,[41]⟩],?_,by simp only[aac,aad,aae];omega,λhq=>by have :=y (by simp only[bP,bD];exact⟨hq,⟨J,by omega⟩,⟨b2,by decide⟩,bR⟩);simp only[bP,bD];exact⟨this,⟨b9,by decide⟩,bR⟩,by simp[dv,dd,E,m,x9,U,x2]⟩
 exact Re (M+2) (by rw[E];decide) (mx (M+1) _ _ _ ⟨λ_=>tG (M) _ _ _ ⟨_,g1,_,g2,by simp only[aac,aad,aae];omega,_,e,_,g9,by simp only[aac,aad,aae];omega,rfl⟩,λh=>absurd E h⟩)
theorem Ta(E:t.kind=18)(hs:shapeK t=true)(ht:tbulk t<=2000000)(ih:∀(i:Nat) (u:Tree),t.kids[i]?=some u->Pok u):Pok t:=λl hl=>by
 have hb:=bt t;have G:=cU t;have M:=0;obtain⟨s1,g1,J,U⟩:=bk 0 ht;obtain⟨r,e,z,y,m⟩:=Ja ht ih t.kids.length 2 (aag _) (by decide) (l++[⟨s1,[91]⟩]) (by simp only[aac,aad,aae,List.take_length];omega);simp only[aac,aad,aae,List.take_length]at z;obtain⟨Z,g9,b9,x9⟩:=bk 1 ht;refine⟨r++[⟨Z,[93]⟩],?_,by simp only[aac,aad,aae];omega,λhq=>by have :=y (by simp only[bP,bD];exact⟨hq,⟨J,by decide⟩,bR⟩);simp only[bP,bD];exact⟨this,⟨b9,by decide⟩,bR⟩,by simp[dv,dd,E,m,x9,U]⟩
 exact Rg (M+2) (by rw[E];decide) (mA (M+1) _ _ _ ⟨λ_=>tA (M) _ _ _ ⟨_,g1,by simp only[aac,aad,aae];omega,_,e,_,g9,by simp only[aac,aad,aae];omega,rfl⟩,λh=>absurd E h⟩)
theorem p_2(E:t.kind=2)(hs:shapeK t=true)(ht:tbulk t<=2000000)(ih:∀(i:Nat) (u:Tree),t.kids[i]?=some u->Pok u):Pok t:=λl hl=>by
 have hb:=bt t;have htx:=cU t;have hn:=(dX hs).1 E;have hkl:=cS t;have M:=0;obtain⟨s1,g1,b1,x1⟩:=bk 0 ht;obtain⟨s2,g2,b2,x2⟩:=bk 1 ht;obtain⟨s3,g3,b3,x3⟩:=bk 2 ht;obtain⟨s4,g4,b4,x4⟩:=bk 3 ht;obtain⟨s5,g5,b5,x5⟩:=bk 4 ht;obtain⟨s6,g6,b6,x6⟩:=bk 5 ht;obtain⟨r,e,z,y,m⟩:=Ja ht ih (t.kids.length-2) 6 (by omega) (by decide) (l++[⟨s1,[100,101,102]⟩,⟨s2,t.text⟩,⟨s3,[40]⟩]) (by have :=zD t.kids<|t.kids.length-2;simp only[aac,aad,aae];omega);simp only[aac,aad,aae]at z;obtain⟨u,G,_⟩|h':=aZ t.kids<|t.kids.length-2
 rotate_left
 ·omega
 obtain⟨v,hv,_⟩|h':=aZ t.kids<|t.kids.length-1
 rotate_left
 ·omega
 have J:=zD t.kids<|t.kids.length-2;have U:=bJ G;have Z:t.kids.drop (t.kids.length-2+1)=v::t.kids.drop (t.kids.length-1+1):=by rw[show t.kids.length-2+1=t.kids.length-1 by omega];exact bJ hv
 rw[U,kbulk,Z,kbulk]at J;have hup:=bK u;have hvp:=bK v;have e':ep (l++[⟨s1,[100,101,102]⟩,⟨s2,t.text⟩,⟨s3,[40]⟩]) t 0 (((t.kids.length:Nat):Int)-2) 6 r:=by rw[show((t.kids.length:Nat):Int)-2=((t.kids.length-2:Nat):Int) by omega];exact e
 obtain⟨r1,e1,z1,y1,m1⟩:=ih _ u G (r++[⟨s4,[41]⟩,⟨s5,[58]⟩]) (by simp only[aac,aad,aae];omega);simp only[aac,aad,aae]at z1;obtain⟨r2,e2,z2,y2,m2⟩:=ih _ v hv (r1++[⟨s6,[61]⟩]) (by simp only[aac,aad,aae];omega);simp only[aac,aad,aae]at z2;refine⟨r2,?_,by omega,λhq=>?_,by simp[dv,dd,E,m,m1,m2,x1,x2,x3,x4,x5,x6,en G,en hv,LO,Nr]⟩
 ·exact dn1 (M+2) (by rw[E];decide) (nv (M+1) _ _ _ ⟨λ_=>uX (M) _ _ _ ⟨_,g1,_,g2,_,g3,by simp only[aac,aad,aae];omega,by omega,r,e',_,g4,_,g5,by simp only[aac,aad,aae];omega,by omega,t.kids.length-2,by omega,u,G,r1,e1,_,g6,by simp only[aac,aad,aae];omega,by omega,t.kids.length-1,by omega,v,hv,r2,e2,rfl⟩,λh=>absurd E h⟩)
 ·have q1:=y (by simp only[bP,bD];exact⟨hq,⟨b1,by decide⟩,⟨b2,by omega⟩,⟨b3,by decide⟩,bR⟩);have q2:=y1 (by simp only[bP,bD];exact⟨q1,⟨b4,by decide⟩,⟨b5,by decide⟩,bR⟩);exact y2 (by simp only[bP,bD];exact⟨q2,⟨b6,by decide⟩,bR⟩)
theorem p_1(hk:t.kind=1)(hs:shapeK t=true)(ht:tbulk t<=2000000)(ih:∀(i:Nat) (u:Tree),t.kids[i]?=some u->Pok u):Pok t:=λl hl=>by
 have hb:=bt t;have htx:=cU t;have hkl:=cS t;obtain⟨s1,g1,b1,x1⟩:=bk 0 ht;obtain⟨s2,g2,b2,x2⟩:=bk 1 ht;obtain⟨s3,g3,b3,x3⟩:=bk 2 ht;have loop:∀k i l,t.kids.length-i<=k->l.length+8*kbulk (t.kids.drop i)<=899999996->∃r,dU (k+1) t l i r∧r.length<=l.length+8*kbulk (t.kids.drop i)+1∧(Qp l->Qp r)∧r=l++((pcTs<|t.kids.drop i).flatten++[⟨t.leads.getD 2 [],[]⟩]):=λk=>by
  have last:∀k i l,¬i<t.kids.length->l.length<=899999996->∃r,dU (k+1) t l i r∧r.length<=l.length+8*kbulk (t.kids.drop i)+1∧(Qp l->Qp r)∧r=l++((pcTs<|t.kids.drop i).flatten++[⟨t.leads.getD 2 [],[]⟩]):=λk i l hi hl=>by
   refine⟨l++[⟨s3,[]⟩],nl k _ _ _ _ ⟨λh=>absurd h hi,λ_=>⟨s3,g3,by simp only[aac,aad,aae];omega,rfl⟩⟩,by simp only[aac,aad,aae];omega,λhq=>by simp only[bP,bD];exact⟨hq,⟨b3,by decide⟩,bR⟩,by rw[List.drop_of_length_le<|by omega];simp[pcTs,x3]⟩
  induction k with
  |zero=>intro i l hi hl;exact last 0 i l (by omega) (by omega)
  | succ k ihk=>
   intro i l hi hl;obtain⟨u,hu,hul⟩|h':=aZ t.kids i
   ·have hd:=bJ hu;rw[hd,kbulk]at hl⊢;obtain⟨r,e,z,y,m⟩:=ih i u hu l (by omega);obtain⟨r2,e2,z2,y2,m2⟩:=ihk (i+1) r (by omega) (by omega);exact⟨r2,nl (k+1) _ _ _ _ ⟨λ_=>⟨u,hu,r,e,by omega,e2⟩,λh=>absurd hul h⟩,by omega,λhq=>y2<|y hq,by simp[pcTs,m2,m]⟩
   ·exact last (k+1) i l h' (by omega)
 obtain⟨r,e,z,y,m⟩:=loop t.kids.length 0 (l++[⟨s1,[109,111,100,117,108,101]⟩,⟨s2,t.text⟩]) (by omega) (by simp only[aac,aad,aae,List.drop_zero];omega);simp only[aac,aad,aae,List.drop_zero]at z;refine⟨r,oz (t.kids.length+2) _ _ _ ⟨λ_=>vk (t.kids.length+1) _ _ _ ⟨_,g1,_,g2,by simp only[aac,aad,aae];omega,e⟩,λh=>absurd hk h⟩,by omega,λhq=>y (by simp only[bP,bD];exact⟨hq,⟨b1,by decide⟩,⟨b2,by omega⟩,bR⟩),by simp[dv,dd,hk,m,x1,x2]⟩
theorem FE:∀t:Tree,tbulk t<=2000000->shapeK t=true->Pok t:=df λt ih ht hs=>by
 have ih':∀(i:Nat) (u:Tree),t.kids[i]?=some u->Pok u:=λi u G=>ih i u G (by have :=dx G;omega) (iB hs G).1;by_cases h:∃c∈[(1:Int),2,3,4,5,6,7,13,14,15,8,16,17,18,19,20,21,22],t.kind=c
 ·obtain⟨c,E,e⟩:=h;simp only[aai,List.not_mem_nil,or_false]at E;rcases E with rfl|rfl|rfl|rfl|rfl|rfl|rfl|rfl|rfl|rfl|rfl|rfl|rfl|rfl|rfl|rfl|rfl|rfl
  ·exact p_1 e hs ht ih'
  ·exact p_2 e hs ht ih'
  ·exact p_3 e hs ht ih'
  ·exact p_4 e hs ht ih'
  ·exact p_5 e ht
  ·exact p_6 e ht
  ·exact p_7 e ht
  ·exact Tj e ht
  ·exact SW e ht
  ·exact TH e ht
  ·exact p_8 e hs ht ih'
  ·exact SY e hs ht ih'
  ·exact SX e hs ht ih'
  ·exact Ta e hs ht ih'
  ·exact TB e hs ht ih'
  ·exact Tz e hs ht ih'
  ·exact SZ e hs ht ih'
  ·exact Tm e hs ht ih'
 ·exact RQ (λc E e=>h ⟨c,E,e⟩) ht
def vV(k n:Int):Int:=
 if k=1 then(if n<0 then-1 else 3)
 else if k=2 then(if n<2 then-1 else if 2<n then 6+(n-3)else 6)
 else if k=16 then(if n<0 then-1 else if 0<n then 3+(n-1)else 3)
 else if k=18 then(if n<1 then-1 else 2+(n-1))
 else if k=3 then(if n=1 then 3 else-1)
 else if k=4∨k=8∨k=22 then(if n=1 then 2 else-1)
 else if k=17 then(if n=1 then 0 else-1)
 else if k=19 then(if n=3 then 3 else-1)
 else if k=20 then(if n=2 then 4 else-1)
 else if k=21 then(if n=2 then 1 else-1)
 else if k=5∨k=6∨k=7∨k=9∨k=10∨k=11∨k=12∨k=13∨k=14∨k=15 then(if n=0 then 1 else-1)
 else-1
set_option maxHeartbeats 2000000 in
theorem RB(a b:YB)(w:World)(ha:a.length<=140737488355328)(hb:b.length<=140737488355328):Calls prog 179 #[.string ⟨a.toArray⟩,.string ⟨b.toArray⟩] w λe w'=>e=.returned (.bool<|fusesT a b)∧Ext w w':=by
 have hx:=FK;obtain⟨ka,G⟩:∃k,bj a=k:=⟨_,rfl⟩;obtain⟨kb,J⟩:∃k,bj b=k:=⟨_,rfl⟩;have HKa:=Lib.hid G;have HKb:=Lib.hid J;clear G J
 go_enter func179,ntmps179
 go_wp2_with fail
 refine(EQ _ _<|by omega).mono ?_;rintro e1 w1 ⟨rfl,rfl⟩;rw[HKa.out];by_cases h1:ka=0
 ·subst h1
  go_wp2_with fail
  go_ret
  exact⟨aX (tS<|.inl HKa.out).symm,Ext.refl _⟩
 have h1b:((ka:Int)==0)=false:=by simp;omega
 go_wp2_with fail
 refine(EQ _ _<|by omega).mono ?_;rintro e2 w2 ⟨rfl,rfl⟩;rw[HKb.out];by_cases h2:kb=0
 ·subst h2
  go_wp2_with fail
  go_ret
  exact⟨aX (tS<|.inr HKb.out).symm,Ext.refl _⟩
 have h2b:((kb:Int)==0)=false:=by simp;omega
 have HN:=Lib.hid (show¬(bj a=0∨bj b=0)from by rw[HKa.out,HKb.out];omega);obtain⟨Rs,U⟩:∃Rs,fj (a++b)=Rs:=⟨_,rfl⟩;have HRs:=Lib.hid U;clear U
 go_wp2_with fail
 refine(St _ _ (by simp;omega)).mono ?_;rintro e3 w3 ⟨v,rfl,Z,hx3⟩;rw[HRs.out]at Z⊢;obtain⟨A,c,rfl,hc1,hc2,E⟩:=Z;unfold maxLen at hc2;have HX3:=Lib.hid<|hx3;clear hx3;have HRow:=Lib.hid E;clear E;obtain⟨toks,tail,place,er⟩:=Rs;simp only at HRow hc1 hc2⊢;by_cases h3:er=0
 rotate_left
 ·have h3b:((er:Int)!=0)=true:=by simp;omega
  have HF:=Lib.hid (jn HN.out λh=>h3 (by rw[HRs.out]at h;exact h.1))
  go_wp2_with fail
  go_ret
  exact⟨aX HF.out.symm,HX3.out⟩
 subst h3;by_cases h4:toks.length=2
 rotate_left
 ·have h4b:((toks.length:Int)!=2)=true:=by simp;omega
  have HF:=Lib.hid (jn HN.out λh=>h4 (by rw[HRs.out]at h;exact h.2.1))
  go_wp2_with fail
  go_ret
  exact⟨aX HF.out.symm,HX3.out⟩
 by_cases h5:tail=[]
 rotate_left
 ·have h5b:(tail==[])=false:=by simpa using h5
  have h5c:tail.isEmpty=false:=by simpa using h5
  obtain⟨t0,t1,rfl⟩:=ww h4;have HF:=Lib.hid (jn HN.out λh=>h5 (by rw[HRs.out]at h;exact h.2.2));clear h5 h4
  go_wp2_with fail
  go_ret
  exact⟨aX HF.out.symm,HX3.out⟩
 subst h5;obtain⟨t0,t1,rfl⟩:=ww h4;clear h4;obtain⟨b0,off,rfl,hb0,p0,p1,p2⟩:=um HRow.out (k:=0) (by simp);obtain⟨b0',off',heq,_,q0,q1,q2⟩:=um HRow.out (k:=1) (by simp);obtain⟨rfl,rfl⟩:b0=b0'∧off=off':=by simpa using heq
 clear heq;have HF:=Lib.hid (Bm HN.out (by rw[HRs.out]) (by rw[HRs.out])<|by rw[HRs.out]);simp only[Nat.zero_mul,Nat.one_mul,Nat.add_zero,List.getElem_cons_zero,List.getElem_cons_succ]at p0 p1 p2 q0 q1 q2;cases g0:(t0.lead==[])
 ·skip
  have g0':t0.lead.isEmpty=false:=by simpa using g0
  go_wp2_with fail
  go_ret
  exact⟨aX (by rw[HF.out,g0];rfl),HX3.out⟩
 have g0':t0.lead.isEmpty=true:=by simpa using g0
 cases g1:(t0.text==a)
 ·skip
  go_wp2_with fail
  go_ret
  exact⟨aX (by rw[HF.out,g0,g1];rfl),HX3.out⟩
 cases g2:(t1.lead==[])
 ·skip
  have g2':t1.lead.isEmpty=false:=by simpa using g2
  go_wp2_with fail
  go_ret
  exact⟨aX (by rw[HF.out,g0,g1,g2];rfl),HX3.out⟩
 have g2':t1.lead.isEmpty=true:=by simpa using g2
 cases g3:(t1.text==b)
 all_goals
  go_wp2_with fail
  go_ret
  exact⟨aX (by rw[HF.out,g0,g1,g2,g3];rfl),HX3.out⟩
def iJ(k:Int):List YB->Nat->Bool
 |[],_=>true
 |l::r,i=>cC false l (k==1&&(i:Int)==2)&&iJ k r (i+1)
mutual
def leadedT:Tree->Bool
 |.node k _ ls ks=>decide ((ls.length:Int)=vV k ks.length)&&iJ k ls 0&&leadedsT ks
def leadedsT:YT->Bool
 |[]=>true
 |t::r=>leadedT t&&leadedsT r
end
set_option maxHeartbeats 1000000 in
theorem OU(l:YB)(fin:Bool)(w:World)(hl:l.length<=281474976710656):Calls prog 79 #[.string ⟨l.toArray⟩,.bool fin] w λe w'=>e=.returned (.bool<|cC false l fin)∧w=w':=by
 obtain⟨r,hr⟩:∃r,cC false l fin=r:=⟨_,rfl⟩;rw[hr];have HR:=Lib.hid hr;clear hr
 go_enter func79,ntmps79
 go_wp2_with fail
 go_loopg [5,6] l.length (λg s5 s6 wx=>∃(i:Nat) (c:Bool),g=l.length-i∧wx=w∧i<=l.length∧s5=.bool c∧s6=.int .i64 i∧Hid (cC c (l.drop i) fin=r))
 case atStart=>exact⟨0,false,rfl,rfl,aat _,rfl,rfl,Lib.hid<|by simpa using HR.out⟩
 case round=>
  obtain⟨i,c,rfl,rfl,hil,rfl,rfl,HT⟩:=hrel;by_cases hit:i<l.length
  rotate_left
  ·have HF:=Lib.hid (show(!c||fin)=r from by rw[<-HT.out,Gv<|by omega]);cases c<;>(go_wp2_with fail;go_ret;exact⟨aX (by rw[<-HF.out];rfl),rfl⟩)
  obtain⟨x,hx⟩:∃c,({data:=l.toArray}:ByteArray)[i]'hit=c:=⟨_,rfl⟩;have HXi:=Lib.hid<|show l[i]=x from hx;have HS:=Lib.hid<|HT.out.symm.trans<|Ex hit HXi.out;clear HT;cases ha:aT x
  ·go_wp2_with (first|(go_at_call 80;refine qmm (fX _ _) ?_)|(go_at_call 81;refine qmm (bb _ _) ?_))
   go_ret
   exact⟨aX (by rw[HS.out,if_pos ha]),I⟩
  cases c with
  |true=>
   go_wp2_with (first|(go_at_call 80;refine qmm (fX _ _) ?_)|(go_at_call 81;refine qmm (bb _ _) ?_))
   go_roundg (l.length-(i+1))
   case measure=>omega
   case rel=>exact⟨i+1,!(x.toNat==10),rfl,rfl,by omega,by rw[Sz],by go_num,Lib.hid<|by rw[HS.out,if_neg (by simp[ha]),if_pos<|by trivial]⟩
  | false=>
   cases h35:((x.toNat:Int)==35)
   rotate_left
   ·go_wp2_with (first|(go_at_call 80;refine qmm (fX _ _) ?_)|(go_at_call 81;refine qmm (bb _ _) ?_))
    go_roundg (l.length-(i+1))
    case measure=>omega
    case rel=>exact⟨i+1,true,rfl,rfl,by omega,rfl,by go_num,Lib.hid<|by rw[HS.out,if_neg (by simp[ha]),if_neg (by simp),if_pos<|cJ (m:=35) h35]⟩
   cases hw:bH x
   ·go_wp2_with (first|(go_at_call 80;refine qmm (fX _ _) ?_)|(go_at_call 81;refine qmm (bb _ _) ?_))
    go_ret
    exact⟨aX (by rw[HS.out,if_neg (by simp[ha]),if_neg (by simp),if_neg<|bG (m:=35) h35,if_pos hw]),rfl⟩
   ·go_wp2_with (first|(go_at_call 80;refine qmm (fX _ _) ?_)|(go_at_call 81;refine qmm (bb _ _) ?_))
    go_roundg (l.length-(i+1))
    case measure=>omega
    case rel=>exact⟨i+1,false,rfl,rfl,by omega,rfl,by go_num,Lib.hid<|by rw[HS.out,if_neg (by simp[ha]),if_neg (by simp),if_neg<|bG (m:=35) h35,if_neg<|by simp[hw]]⟩
theorem ue(a:YB)(f:Bool)(E:a.length<=140737488351232):lQ a f (cC false a f):=sum0_calls rfl rfl λS w ρ xs hx=>by
 simp only[LRel]at hx;obtain⟨x,ys,rfl,h1,y,zs,rfl,h2,rfl⟩:=hx;simp only[VRel]at h1 h2;subst h1 h2;exact(OU a f w<|by omega).mono λe w' ⟨h1,h2⟩=>⟨_,h1,by simp only[VRel],h2▸Chg.refl _ _⟩
theorem nw(k n:Int):vV k n=bB k n:=by
 unfold vV bB f0
 repeat' split
 all_goals first|rfl|omega
theorem Lr:∀t:Tree,tbulk t<=40000000->shapeK t=true->lj t (leadedT t):=df λt ih ht hs=>by
 have hk:=cS t;have hl:=yB t;have hbt:=bt t;have kids:∀k i,t.kids.length-i<=k->∃M,gM M t i (leadedsT<|t.kids.drop i):=λk=>by
  have last:∀i,¬i<t.kids.length->∃M,gM M t i (leadedsT<|t.kids.drop i):=λi hi=>by
   rw[List.drop_of_length_le<|by omega];exact⟨1,rD 0 _ _ _ ⟨λh=>absurd h hi,λ_=>I⟩⟩
  induction k with
  |zero=>intro i hi;exact last i (by omega)
  | succ k ihk=>
   intro i hi;obtain⟨u,hu,hul⟩|h':=aZ t.kids i
   ·have :=dx hu;have hb:=ih i u hu (by omega) (iB hs hu).1;obtain⟨M,hM⟩:=ihk (i+1) (by omega);rw[bJ hu,leadedsT];refine⟨M+1,rD M _ _ _ ⟨λ_=>⟨u,hu,_,hb,λe=>?_,λe=>?_⟩,λh=>absurd hul h⟩⟩
    ·rw[e];rfl
    ·rw[e];exact⟨by omega,hM⟩
   ·exact last i h'
 obtain⟨M0,h0⟩:=kids t.kids.length 0 (by omega);rw[List.drop_zero]at h0;have lead:∀k i,t.leads.length-i<=k->∃M,fe M t i (iJ t.kind (t.leads.drop i) i&&leadedsT t.kids):=λk=>by
  have last:∀i,¬i<t.leads.length->∃M,fe M t i (iJ t.kind (t.leads.drop i) i&&leadedsT t.kids):=λi hi=>by
   rw[List.drop_of_length_le<|by omega];exact⟨_,mL _ _ _ _ ⟨λh=>absurd h hi,λ_=>h0⟩⟩
  induction k with
  |zero=>intro i hi;exact last i (by omega)
  | succ k ihk=>
   intro i hi;obtain⟨s,hs,hsl⟩|h':=aZ t.leads i
   ·have hsl2:=ta hs;obtain⟨M,hM⟩:=ihk (i+1) (by omega);rw[bJ hs,iJ];by_cases h1:t.kind=1
    ·have ht1:=ue s (((i:Nat):Int)==2) (by omega);have e1:(t.kind==1&&(i:Int)==2)=((i:Int)==2):=by simp[h1]
     rw[e1];refine⟨M+1,mL M _ _ _ ⟨λ_=>⟨s,hs,λ_=>⟨_,ht1,λe=>?_,λe=>?_⟩,λh=>absurd h1 h⟩,λh=>absurd hsl h⟩⟩
     ·rw[e];rfl
     ·rw[e];exact⟨by omega,hM⟩
    ·have ht1:=ue s false (by omega);have e1:(t.kind==1&&(i:Int)==2)=false:=by simp[h1]
     rw[e1];refine⟨M+1,mL M _ _ _ ⟨λ_=>⟨s,hs,λh=>absurd h h1,λ_=>⟨_,ht1,λe=>?_,λe=>?_⟩⟩,λh=>absurd hsl h⟩⟩
     ·rw[e];rfl
     ·rw[e];exact⟨by omega,hM⟩
   ·exact last i h'
 have e:leadedT t=(decide ((t.leads.length:Int)=vV t.kind t.kids.length)&&(iJ t.kind t.leads 0&&leadedsT t.kids)):=by cases t;simp only[leadedT,Bool.and_assoc];rfl
 rw[nw]at e;by_cases h:((t.leads.length:Nat):Int)=bB t.kind t.kids.length
 ·obtain⟨M,hM⟩:=lead t.leads.length 0 (by omega);rw[List.drop_zero]at hM;refine sT M _ _ ⟨_,Ch (by omega) (by omega),λh'=>absurd h h',λ_=>?_⟩;rw[e,decide_eq_true h];exact hM
 ·refine sT 0 _ _ ⟨_,Ch (by omega) (by omega),λ_=>?_,λh'=>absurd h' h⟩;rw[e,decide_eq_false h];rfl
theorem LI:∀t:Tree,tbulk t<=40000000->shapeK t=true->gW t (leadedT t):=df λt ih ht hs=>by
 have hk:=cS t;have hl:=yB t;have hbt:=bt t;have kids:∀k i,t.kids.length-i<=k->∃M,ej M t i (leadedsT<|t.kids.drop i):=λk=>by
  have last:∀i,¬i<t.kids.length->∃M,ej M t i (leadedsT<|t.kids.drop i):=λi hi=>by
   rw[List.drop_of_length_le<|by omega];exact⟨1,oG 0 _ _ _ ⟨λh=>absurd h hi,λ_=>I⟩⟩
  induction k with
  |zero=>intro i hi;exact last i (by omega)
  | succ k ihk=>
   intro i hi;obtain⟨u,hu,hul⟩|h':=aZ t.kids i
   ·have :=dx hu;have hb:=ih i u hu (by omega) (iB hs hu).1;obtain⟨M,hM⟩:=ihk (i+1) (by omega);rw[bJ hu,leadedsT];refine⟨M+1,oG M _ _ _ ⟨λ_=>⟨u,hu,_,hb,λe=>?_,λe=>?_⟩,λh=>absurd hul h⟩⟩
    ·rw[e];rfl
    ·rw[e];exact hM
   ·exact last i h'
 obtain⟨M0,h0⟩:=kids t.kids.length 0 (by omega);rw[List.drop_zero]at h0;have lead:∀k i,t.leads.length-i<=k->∃M,dk M t i (iJ t.kind (t.leads.drop i) i&&leadedsT t.kids):=λk=>by
  have last:∀i,¬i<t.leads.length->∃M,dk M t i (iJ t.kind (t.leads.drop i) i&&leadedsT t.kids):=λi hi=>by
   rw[List.drop_of_length_le<|by omega];exact⟨_,jv _ _ _ _ ⟨λh=>absurd h hi,λ_=>h0⟩⟩
  induction k with
  |zero=>intro i hi;exact last i (by omega)
  | succ k ihk=>
   intro i hi;obtain⟨s,hs,hsl⟩|h':=aZ t.leads i
   ·have hsl2:=ta hs;obtain⟨M,hM⟩:=ihk (i+1) (by omega);rw[bJ hs,iJ];by_cases h1:t.kind=1
    ·have ht1:=Dh s (((i:Nat):Int)==2) (by omega);have e1:(t.kind==1&&(i:Int)==2)=((i:Int)==2):=by simp[h1]
     rw[e1];refine⟨M+1,jv M _ _ _ ⟨λ_=>⟨s,hs,λ_=>⟨_,ht1,λe=>?_,λe=>?_⟩,λh=>absurd h1 h⟩,λh=>absurd hsl h⟩⟩
     ·rw[e];rfl
     ·rw[e];exact hM
    ·have ht1:=Dh s false (by omega);have e1:(t.kind==1&&(i:Int)==2)=false:=by simp[h1]
     rw[e1];refine⟨M+1,jv M _ _ _ ⟨λ_=>⟨s,hs,λh=>absurd h h1,λ_=>⟨_,ht1,λe=>?_,λe=>?_⟩⟩,λh=>absurd hsl h⟩⟩
     ·rw[e];rfl
     ·rw[e];exact hM
   ·exact last i h'
 have e:leadedT t=(decide ((t.leads.length:Int)=vV t.kind t.kids.length)&&(iJ t.kind t.leads 0&&leadedsT t.kids)):=by cases t;simp only[leadedT,Bool.and_assoc];rfl
 rw[nw]at e;by_cases h:((t.leads.length:Nat):Int)=bB t.kind t.kids.length
 ·obtain⟨M,hM⟩:=lead t.leads.length 0 (by omega);rw[List.drop_zero]at hM;refine pw M _ _ ⟨_,xh (by omega) (by omega),λh'=>absurd h h',λ_=>?_⟩;rw[e,decide_eq_true h];exact hM
 ·refine pw 0 _ _ ⟨_,xh (by omega) (by omega),λ_=>?_,λh'=>absurd h' h⟩;rw[e,decide_eq_false h];rfl
theorem xz(t:Tree)(ht:tbulk t<=40000000):eQ t (shapeK t&&leadedT t):=by
 refine su 0 _ _ ⟨_,CH t (by omega),λh=>?_,λh=>?_⟩
 ·exact⟨_,LI t ht h,by rw[h];rfl⟩
 ·rw[h];rfl
def u8i(x:UInt8):Int:=x.toNat
section
variable{S:Nat->Prop}{w:World}{ρ:Nat->Option Value}
theorem OE:∀{l:YB} {xs:List Value},CRel S w ρ 1 (List.map (V.int .u8)<|l.map u8i) xs->xs=Lib.byteCells l
 |[],xs,h=>by simp only[aau,CRel]at h;exact h
 |b::r,xs,h=>by simp only[aah,CRel,VRel]at h;obtain⟨x,ys,rfl,_,rfl,E⟩:=h;rw[OE E];rfl
theorem LJ:∀l:YB,CRel S w ρ 1 (List.map (V.int .u8)<|l.map u8i) (Lib.byteCells l)
 |[]=>by simp only[aau,CRel];rfl
 |b::r=>by simp only[aah,CRel];exact⟨.int .u8 b.toNat,Lib.byteCells r,rfl,⟨rfl,rfl⟩,by simp only[VRel];rfl,LJ r⟩
end
abbrev PrH(x l:YB):Hp:=⟨2,[(1,.row 5 1 (List.map (V.int .u8) (l.map u8i))),(0,.var 142 [.np 0,.sl 1,.str x])]⟩
theorem Hz{w:World}{x l:YB}(hr:HRel S w ρ (PrH x l).get)(hb:ρ 0=some (.pointer<|some ⟨b,0,none⟩)):∃p v,(p=.pointer none∨p=.pointer (some ⟨b,0,none⟩))∧ρ 1=some v∧PrB b p v x w∧Buf v l w:=by
 obtain⟨b',cs,h1,J,E⟩:eK S w ρ 0 (.var 142 [.np 0,.sl 1,.str x]):=hr.ob 0;rw[hb]at h1;simp only[aaa,Value.pointer.injEq,Addr.mk.injEq,and_true]at h1;subst h1;simp only[LRel,VRel]at E;obtain⟨p,_,rfl,hp,v,_,rfl,⟨hv,_⟩,z,_,rfl,rfl,rfl⟩:=E;obtain⟨v',ys,g1,G,Z⟩:eK S w ρ 1 (.row 5 1<|List.map (V.int .u8)<|l.map u8i):=hr.ob 1;rw[hv]at g1;cases g1;have :=OE Z;subst this;refine⟨p,v,?_,hv,J,by simpa using G⟩;rcases hp with h|⟨b2,U,e2⟩
 ·exact .inl h
 ·rw[hb]at U;cases U;exact .inr e2
theorem sN(x l:YB)(i:Nat):(PrH x l).get (i+2)=.free:=by
 unfold Hp.get;split
 ·rename_i h;simp only[Nat.blt_eq]at h;omega
 ·rfl
theorem NO {x l s:List UInt8} (h:l.length+s.length<=140737488355328):de (l.map u8i) x s s.length () ((l++s).map u8i) x:=λS w ρ xs hr hx=>by
  simp only[LRel,VRel]at hx;obtain⟨_,_,rfl,⟨b,hb,rfl⟩,_,_,rfl,rfl,rfl⟩:=hx;obtain⟨p,v,hp,hv,hbk,hown⟩:=Hz hr hb;refine(FQ hp hbk hown h).mono ?_;rintro e w' ⟨rfl,v',k1,k2,k3,k4⟩;have o0:∀k,k=b->own ρ 0 ((PrH x l).get 0) k:=λk e=>by rw[e];exact hb
  have o1:∀k,v.ownBlock=some k->own ρ 1 ((PrH x l).get 1) k:=λk e=>⟨v,hv,e⟩;have hsz:=k4.size;have hlt:=zY hbk;have n0:∀g,v'.ownBlock=some g->g≠b:=λg hg e=>Lib.ownBlock_ne k2 k1 (by decide)<|e▸hg;refine⟨_,S,λi=>match i with|0=>ρ 0|1=>some v'|_=>none,_,PrH x<|l++s,rfl,⟨rfl,rfl⟩,⟨λi=>?_,λi k hk hs=>?_,λi j k hi hj=>?_,⟨λk hk=>aaw (hr.slt.lt k hk) hsz,λp hp=>by cases hp⟩⟩,⟨k4.mono λk e=>?_,λ_ h=>h,λ_ h=>.inl h,λi k hk=>?_,λi y hy=>?_⟩,by simp only[VRel,LRel];exact⟨_,rfl,_,_,rfl,rfl,_,_,rfl,⟨rfl,rfl⟩,rfl⟩⟩
  · match i with
    | 0 =>exact⟨b,[.pointer (some ⟨b,0,none⟩),v',.string ⟨x.toArray⟩],hb,k1,by
        simp only[LRel,VRel];refine⟨_,_,I,.inr ⟨b,hb,I⟩,_,_,I,⟨I,?_⟩,_,_,I,I,I⟩;rcases k2.2 with⟨rfl,_⟩|⟨g,cap,cur,rfl,_⟩<;>rfl⟩
    |1=>exact⟨v',_,rfl,by rw[aam,aam];exact k2,LJ _⟩
    |i+2=>rw[sN];rfl
  · match i with
    | 0 =>
      have hk':k=b:=by
        have :ρ 0=some (.pointer<|some ⟨k,0,none⟩):=hk;rw[hb]at this;cases this;rfl
      exact hr.sep 0 k (o0 k hk') hs
    | 1=>
      obtain⟨q,e1,e2⟩:=hk;cases e1;rcases k3 k e2 with h1|h1
      ·exact hr.sep 1 k (o1 k h1) hs
      ·have :=hr.slt.lt k hs;omega
    |i+2=>rw[sN]at hk;exact hk
  · have z:∀k,own (λi=>match i with|0=>ρ 0|1=>some v'|_=>none) 0 ((PrH x<|l++s).get 0) k->own (λi=>match i with|0=>ρ 0|1=>some v'|_=>none) 1 ((PrH x<|l++s).get 1) k->False:=λk h0 h1=>by
      have :ρ 0=some (.pointer<|some ⟨k,0,none⟩):=h0;rw[hb]at this;cases this;obtain⟨q,e1,e2⟩:=h1;cases e1;exact n0 _ e2 I
    match i,j with
    |0,0=>rfl
    |1,1=>rfl
    |0,1=>exact(z k hi hj).elim
    |1,0=>exact(z k hj hi).elim
    |i+2,_=>rw[sN]at hi;exact hi.elim
    |_,j+2=>rw[sN]at hj;exact hj.elim
  · rcases e with e|e
    ·exact⟨0,o0 k e⟩
    ·exact⟨1,o1 k e⟩
  · match i with
    | 0=>
      have :ρ 0=some (.pointer<|some ⟨k,0,none⟩):=hk;exact .inl ⟨0,this⟩
    | 1=>
      obtain⟨q,e1,e2⟩:=hk;cases e1;rcases k3 k e2 with h1|h1
      ·exact .inl ⟨1,o1 k h1⟩
      ·exact .inr h1
    |i+2=>rw[sN]at hk;exact hk.elim
  · match i with
    |0=>exact hy
    |1=>cases hy
    |i+2=>simp only[pU,sN,iH]at hy;cases hy
theorem RP(x l:YB):lJ (l.map u8i) x l:=λS w ρ xs hr hx=>by
 simp only[LRel,VRel]at hx;obtain⟨_,_,rfl,⟨b,hb,rfl⟩,rfl⟩:=hx;obtain⟨p,v,hp,hv,J,E⟩:=Hz hr hb;refine(BL J E).mono ?_;rintro e w' ⟨rfl,Z⟩;have hsz:=Z.size;have U:∀i k (ρ':Nat->Option Value),¬own ρ' i ((⟨2,[]⟩:Hp).get i) k:=λi k ρ' h=>by unfold Hp.get at h;split at h<;>exact h
 refine⟨_,S,λi=>match Nat.blt i 2 with|true=>ρ i|false=>none,_,⟨2,[]⟩,rfl,⟨rfl,rfl⟩,⟨λi=>?_,λi k G=>(U _ _ _ G).elim,λi j k hi=>(U _ _ _ hi).elim,⟨λk G=>aaw (hr.slt.lt k G) hsz,λp hp=>by cases hp⟩⟩,⟨Z.mono λk e=>?_,λ_ h=>h,λ_ h=>.inl h,λi k G=>(U _ _ _ G).elim,λi y hy=>?_⟩,by simp only[VRel]⟩
 ·unfold Hp.get;split
  ·trivial
  ·rename_i h;simp only[eK,h]
 ·rcases e with e|e
  ·exact⟨0,by rw[e];exact hb⟩
  ·exact⟨1,v,hv,e⟩
 ·match i with
  |0=>exact hy
  |1=>cases hy
  |i+2=>simp only[pU,sN,iH]at hy;cases hy
def kq(last lead tok:YB):YB:=if lead=[]∧last≠[]∧fusesT last tok=true then[32]else lead
abbrev WS:=YB×YB
def om(lead tok:YB)(s:WS):WS:=(tok,s.2++kq s.1 lead tok++tok)
def be(l:List Pce)(s:WS):WS:=l.foldl (λs p=>om p.Lead p.Text s) s
theorem og(s:WS):be [] s=s:=rfl
theorem ew(p:Pce)(l:List Pce)(s:WS):be (p::l) s=be l (om p.Lead p.Text s):=rfl
theorem ee(a b:List Pce)(s:WS):be (a++b) s=be b (be a s):=by simp[be]
theorem zh:∀(r:List Pce) (s:WS),s.2.length<=(be r s).2.length
 |[],s=>aag _
 |p::r,s=>by
  have :=zh r<|om p.Lead p.Text s;rw[ew];refine aao ?_ this;simp only[om,aac];omega
abbrev PtW(t:Tree)(s s':WS):Prop:=aH (s.2.map u8i) s.1 t (s'.2.map u8i) s'.1
abbrev PpW(lead x:YB)(s s':WS):Prop:=aw (s.2.map u8i) s.1 lead x (s'.2.map u8i) s'.1
theorem DM(a b:YB)(E:a.length<=140737488355328)(hb:b.length<=140737488355328):zz a b (fusesT a b):=sum0_calls rfl rfl λS w ρ xs hx=>by simp only[LRel]at hx;obtain⟨x,ys,rfl,h1,y,zs,rfl,h2,rfl⟩:=hx;simp only[VRel]at h1 h2;subst h1 h2;exact(RB a b w E hb).mono λe w' ⟨h1,h2⟩=>⟨_,h1,by simp only[VRel],Cq h2⟩
variable{s:WS}
theorem Jd{lead x:YB}(h:s.2.length+lead.length+x.length<=140737488355328):db 1 (s.2.map u8i) s.1 x lead ((s.2++lead++x).map u8i) x:=
 rL0_syntax_printer_put 0 _ _ _ _ _ _ ⟨_,_,_,_,NO (by omega),_,_,_,_,NO (by simp only[aac];omega),rfl,rfl⟩
theorem cr{lead x:YB}(ho:s.1.length<=140737488355328)(hN:(be (⟨lead,x⟩::r) s).2.length<=140737488355328):PpW lead x s (om lead x s)∧(om lead x s).1.length<=140737488355328∧(be r<|om lead x s).2.length<=140737488355328:=by
 have h1:=aao (zh r<|om lead x s) hN;simp only[om,aac]at h1;refine⟨?_,by show x.length<=140737488355328;omega,hN⟩;unfold om kq at *;by_cases h2:lead=[]
 ·by_cases E:s.1=[]
  ·rw[if_neg λh=>h.2.1 E]at h1⊢;exact fK 1 _ _ _ _ _ _ ⟨λ_=>⟨λh=>absurd E h,λ_=>Jd h1⟩,λh=>absurd h2 h⟩
  ·rcases Bool.eq_false_or_eq_true (fusesT s.1 x)with hf|hf
   ·rw[if_pos ⟨h2,E,hf⟩]at h1⊢;exact fK 1 _ _ _ _ _ _ ⟨λ_=>⟨λ_=>⟨_,DM _ _ ho (by omega),λ_=>Jd h1,λh=>by rw[hf]at h;cases h⟩,λh=>absurd h E⟩,λh=>absurd h2 h⟩
   ·rw[if_neg (λh=>by rw[hf]at h;cases h.2.2)]at h1⊢;exact fK 1 _ _ _ _ _ _ ⟨λ_=>⟨λ_=>⟨_,DM _ _ ho (by omega),(λh=>by rw[hf]at h;cases h),λ_=>Jd h1⟩,λh=>absurd h E⟩,λh=>absurd h2 h⟩
 ·rw[if_neg λh=>h2 h.1]at h1⊢;exact fK 1 _ _ _ _ _ _ ⟨λh=>absurd h h2,λ_=>Jd h1⟩
def Tk(t:Tree):Prop:=∀s:WS,s.1.length<=140737488355328->(be (pcT t) s).2.length<=140737488355328->PtW t s (be (pcT t) s)∧(be (pcT t) s).1.length<=140737488355328
theorem qI(E:Tk u)(ho:s.1.length<=140737488355328)(hN:(be (pcT u++r) s).2.length<=140737488355328):PtW u s (be (pcT u) s)∧(be (pcT u) s).1.length<=140737488355328∧(be r<|be (pcT u) s).2.length<=140737488355328:=by
 rw[ee]at hN;obtain⟨h1,h2⟩:=E s ho<|aao (zh r _) hN;exact⟨h1,h2,hN⟩
theorem bp{ls:List YB}(h:i<ls.length):ls[i]?=some (ls.getD i []):=by rw[List.getD_eq_getElem?_getD,List.getElem?_eq_getElem h];rfl
theorem Jw{p:Tree}{us:YT}{c:Nat}(hu:∀u∈us,Tk u)(hc:1<=c)(hc2:c<=10)(hl:c+us.length<=p.leads.length+1)(hb:us.length<=1000000000)(ho:s.1.length<=140737488355328)(hN:(be (ei p.leads c (pcTs us) 0++r) s).2.length<=140737488355328):
  S_syntax_printer_list (s.2.map u8i) s.1 p us c ((be (ei p.leads c (pcTs us) 0) s).2.map u8i) (be (ei p.leads c (pcTs us) 0) s).1∧(be (ei p.leads c (pcTs us) 0) s).1.length<=140737488355328∧(be r<|be (ei p.leads c (pcTs us) 0) s).2.length<=140737488355328:=by
 have loop:∀k i (s:WS),us.length-i<=k->s.1.length<=140737488355328->(be (ei p.leads c (pcTs<|us.drop i) i) s).2.length<=140737488355328->cN (k+1) p us c (s.2.map u8i) s.1 i ((be (ei p.leads c (pcTs<|us.drop i) i) s).2.map u8i) (be (ei p.leads c (pcTs<|us.drop i) i) s).1∧(be (ei p.leads c (pcTs<|us.drop i) i) s).1.length<=140737488355328:=λk=>by
  have fin:∀m i (s:WS),¬i<us.length->s.1.length<=140737488355328->cN (m+1) p us c (s.2.map u8i) s.1 i ((be (ei p.leads c (pcTs<|us.drop i) i) s).2.map u8i) (be (ei p.leads c (pcTs<|us.drop i) i) s).1∧(be (ei p.leads c (pcTs<|us.drop i) i) s).1.length<=140737488355328:=λm i s hi ho=>by
   rw[List.drop_of_length_le<|by omega];exact⟨ic m _ _ _ _ _ _ _ _ ⟨λh=>absurd h hi,λ_=>⟨I,I⟩⟩,ho⟩
  induction k with
  |zero=>intro i s hi ho _;exact fin 0 i s (by omega) ho
  | succ k ih=>
   intro i s hi ho hN;rcases aZ us i with⟨u,hu',hlt⟩|h'
   ·have tk:=hu u<|List.mem_of_getElem? hu';rw[bJ hu']at hN⊢;simp only[pcTs,ei]at hN⊢;by_cases h0:0<i
    ·rw[if_pos h0,aap,aal]at hN⊢;obtain⟨q1,o1,n1⟩:=cr ho hN;obtain⟨q2,o2,n2⟩:=qI tk o1 n1;obtain⟨q3,o3⟩:=ih (i+1) _ (by omega) o2 n2;rw[ew,ee];exact⟨ic (k+1) _ _ _ _ _ _ _ _ ⟨λ_=>⟨u,hu',λ_=>⟨by constructor<;>omega,by constructor<;>omega,c+i-1,by omega,_,bp (by omega),_,_,q1,_,_,q2,by omega,q3⟩,λh=>absurd (by omega) h⟩,λh=>absurd hlt h⟩,o3⟩
    ·rw[if_neg h0,aal]at hN⊢;obtain⟨q2,o2,n2⟩:=qI tk ho hN;obtain⟨q3,o3⟩:=ih (i+1) _ (by omega) o2 n2;rw[ee];exact⟨ic (k+1) _ _ _ _ _ _ _ _ ⟨λ_=>⟨u,hu',λh=>absurd h (by omega),λ_=>⟨_,_,q2,by omega,q3⟩⟩,λh=>absurd hlt h⟩,o3⟩
   ·exact fin _ i s h' ho
 rw[ee]at hN;obtain⟨h1,h2⟩:=loop us.length 0 s (by omega) ho (by rw[List.drop_zero];exact aao (zh r _) hN);rw[List.drop_zero]at h1 h2;exact⟨uU (us.length+1) _ _ _ _ _ _ _ h1,h2,hN⟩
section
variable{m:Nat}{t:Tree}{b b':YI}{l l':YB}
theorem tD(h:t.kind=1∨t.kind=2∨t.kind=3∨t.kind=4)(k:fJ b l t b' l'):aH b l t b' l':=by have d:cO 1 b l t true b' l':=mF 0 _ _ _ _ _ _ ⟨λ_=>⟨_,_,k,rfl,rfl⟩,λh=>(by cases h)⟩;refine rS_syntax_printer_tree 1 _ _ _ _ _ ⟨λ_=>d,λh1=>⟨λ_=>d,λh2=>⟨λ_=>d,λE=>?_⟩⟩⟩;rw[show(t.kind==4)=true from beq_iff_eq.2 (by omega)];exact d
theorem t0(h:¬(t.kind=1∨t.kind=2∨t.kind=3∨t.kind=4))(k:fo m b l t b' l'):aH b l t b' l':=
 rS_syntax_printer_tree (m+1) _ _ _ _ _ ⟨λe=>absurd (.inl e) h,λ_=>⟨λe=>absurd (.inr<|.inl e) h,λ_=>⟨λe=>absurd (.inr<|.inr<|.inl e) h,λ_=>mF m _ _ _ _ _ _ ⟨λe=>absurd (.inr<|.inr<|.inr<|eq_of_beq e) h,λ_=>k⟩⟩⟩⟩
theorem t1(h:t.kind≠17)(k:fx m b l t b' l'):fo (m+1) b l t b' l':=mn m _ _ _ _ _ ⟨λe=>absurd e h,λ_=>k⟩
theorem t2(h:t.kind≠8)(k:fu m b l t b' l'):fx (m+1) b l t b' l':=my m _ _ _ _ _ ⟨λe=>absurd e h,λ_=>k⟩
theorem t4(h:t.kind≠16)(k:fp m b l t b' l'):fu (m+1) b l t b' l':=mB m _ _ _ _ _ ⟨λe=>absurd e h,λ_=>k⟩
theorem t6(h:t.kind≠18)(k:fw m b l t b' l'):fp (m+1) b l t b' l':=mu m _ _ _ _ _ ⟨λe=>absurd e h,λ_=>k⟩
theorem t8(h:t.kind≠19)(k:eM m b l t b' l'):fw (m+1) b l t b' l':=mG m _ _ _ _ _ ⟨λe=>absurd e h,λ_=>k⟩
theorem t10(h:t.kind≠20)(k:eO m b l t b' l'):eM (m+1) b l t b' l':=ly m _ _ _ _ _ ⟨λe=>absurd e h,λ_=>k⟩
theorem t12(h:t.kind≠21)(k:ib m b l t b' l'):eO (m+1) b l t b' l':=lw m _ _ _ _ _ ⟨λe=>absurd e h,λ_=>k⟩
end
def Cn(k:Int)(s:YB):YB:=
 if k=5 then[73,110,116]else if k=6 then[84,101,120,116]else if k=7 then[66,111,111,108]else if k=13 then[116,114,117,101]else if k=14 then[102,97,108,115,101]else if k=15 then[63]else s
theorem NY(t:Tree):pn t (Cn t.kind t.text):=zI 0 _ _ (by
 unfold Cn
 repeat' (refine And.intro (λ_=>?_) λ_=>?_)
 all_goals simp[*])
theorem Ci{k:Int}{i:Int}{kk:Int}(h:gZ k n i kk=true):kk≠1:=by
 intro e;subst e;unfold gZ at h
 repeat' split at h
 all_goals (revert h;simp[mb,nP,ux])
theorem RW(x:YB)(ls:List YB)(gs:List<|List Pce)(a b:List Pce):dd 2 x ls (gs++[a,b])=⟨ls.getD 0 [],[100,101,102]⟩::⟨ls.getD 1 [],x⟩::⟨ls.getD 2 [],[40]⟩::(ei ls 6 gs 0++(⟨ls.getD 3 [],[41]⟩::⟨ls.getD 4 [],[58]⟩::(a++(⟨ls.getD 5 [],[61]⟩::b)))):=by
 show⟨ls.getD 0 [],[100,101,102]⟩::⟨ls.getD 1 [],x⟩::⟨ls.getD 2 [],[40]⟩::(ei ls 6 ((gs++[a,b]).take<|(gs++[a,b]).length-2) 0++(⟨ls.getD 3 [],[41]⟩::⟨ls.getD 4 [],[58]⟩::((gs++[a,b]).getD ((gs++[a,b]).length-2) []++(⟨ls.getD 5 [],[61]⟩::(gs++[a,b]).getD ((gs++[a,b]).length-1) []))))=_;have h1:(gs++[a,b]).length-2=gs.length:=by simp
 have h2:(gs++[a,b]).length-1=gs.length+1:=by simp
 rw[h1,h2];simp[List.getD_eq_getElem?_getD]
theorem MI(a b:YT):pcTs (a++b)=pcTs a++pcTs b:=by simp[qv]
theorem BF{α:Type}:∀(l:List α),0<l.length->∃us a,l=us++[a]
 |[a],_=>⟨[],a,rfl⟩
 |a::b::r,_=>by obtain⟨us,c,e⟩:=BF (b::r) (by simp);exact⟨a::us,c,by rw[e];rfl⟩
theorem LH(hs:shapeK t=true):(t.kind=2->∃us a b,t.kids=us++[a,b])∧(t.kind=3∨t.kind=4∨t.kind=8∨t.kind=17∨t.kind=22->∃a,t.kids=[a])∧(t.kind=19->∃a b c,t.kids=[a,b,c])∧(t.kind=20∨t.kind=21->∃a b,t.kids=[a,b]):=by
 have hn:=dX hs;refine⟨λh2=>?_,λh=>List.length_eq_one_iff.1 (hn.2.2.1 h),λh=>?_,λh=>?_⟩
 ·obtain⟨G,b,E⟩:=BF t.kids (by have :=hn.1 h2;omega);obtain⟨us,a,J⟩:=BF G (by have :=hn.1 h2;rw[E,aac]at this;simp at this;omega);exact⟨us,a,b,by rw[E,J];simp⟩
 ·exact match t.kids,hn.2.2.2.1 h with|[a,b,c],_=>⟨a,b,c,rfl⟩
 ·exact match t.kids,hn.2.2.2.2 h with|[a,b],_=>⟨a,b,rfl⟩
theorem oS:∀{ks:YT} {i:Nat} {u:Tree},leadedsT ks=true->ks[i]?=some u->leadedT u=true
 |[],i,u,h,E=>by simp at E
 |t::r,0,u,h,E=>by simp only[leadedsT,aab]at h;simp only[List.getElem?_cons_zero,aaa]at E;subst E;exact h.1
 |t::r,i+1,u,h,E=>by simp only[leadedsT,aab]at h;exact oS h.2 (by simpa using E)
theorem oP(h:leadedT t=true):(t.leads.length:Int)=vV t.kind t.kids.length∧iJ t.kind t.leads 0=true∧leadedsT t.kids=true:=by cases t;simp only[leadedT,aab,aas]at h;exact⟨h.1.1,h.1.2,h.2⟩
theorem Hs:∀t:Tree,t.kind≠1->tbulk t<=1000000000->shapeK t=true->leadedT t=true->Tk t:=df λt ih h1 ht hs hl s ho hN=>by
 obtain⟨f2,f1,f3,f20⟩:=LH hs;obtain⟨g1,_,g3⟩:=oP hl;rw[nw]at g1;have hkl:=cS t;have hn:=dX hs;have tk:∀(i:Nat) (u:Tree),t.kids[i]?=some u->Tk u:=λi u hu=>ih i u hu (Ci (iB hs hu).2) (by have :=dx hu;omega) (iB hs hu).1 (oS g3 hu);have tkm:∀u∈t.kids,Tk u:=λu hu=>by obtain⟨i,hi⟩:=List.mem_iff_getElem?.1 hu;exact tk i u hi
 have e:=dv t;rw[e]at hN⊢;by_cases h2:t.kind=2
 ·obtain⟨us,x,y,E⟩:=f2 h2;have hk:t.kids.length=us.length+2:=by rw[E];simp
  have hx:t.kids[us.length]?=some x:=by rw[E];simp
  have hy:t.kids[us.length+1]?=some y:=by rw[E];simp
  have G:6+us.length<=t.leads.length+1∧6<=t.leads.length:=by
   rw[h2,hk]at g1;simp only[bB,f0]at g1;simp at g1;split at g1<;>first|omega|(split at g1<;>omega)
  have etk:t.kids.take us.length=us:=by rw[E];simp
  rw[h2,E,MI]at hN⊢;change (be (dd 2 t.text t.leads<|pcTs us++[pcT x,pcT y]) s).2.length<=140737488355328 at hN;show PtW t s (be (dd 2 t.text t.leads<|pcTs us++[pcT x,pcT y]) s)∧(be (dd 2 t.text t.leads<|pcTs us++[pcT x,pcT y]) s).1.length<=140737488355328;rw[RW]at hN⊢;obtain⟨U,Z,n1⟩:=cr ho hN;obtain⟨q2,o2,n2⟩:=cr Z n1;obtain⟨q3,o3,n3⟩:=cr o2 n2;obtain⟨q4,o4,n4⟩:=Jw (p:=t) (λu hu=>tkm u (by rw[E];simp[hu])) (by decide) (by decide) G.1 (by omega) o3 n3;obtain⟨q5,o5,n5⟩:=cr o4 n4;obtain⟨q6,o6,n6⟩:=cr o5 n5;obtain⟨q7,o7,n7⟩:=qI (tk _ x hx) o6 n6;obtain⟨q8,o8,n8⟩:=cr o7 n7;obtain⟨q9,o9⟩:=tk _ y hy _ o8 n8;simp only[ew,ee];exact⟨tD (.inr<|.inl h2) (dm 2 _ _ _ _ _ ⟨λe=>absurd e h1,λ_=>eD 1 _ _ _ _ _ ⟨λ_=>pH 0 _ _ _ _ _ ⟨_,bp (by omega),_,_,U,_,bp (by omega),_,_,q2,_,bp (by omega),_,_,q3,us.length,by omega,by omega,_,_,by rw[etk];exact q4,_,bp (by omega),_,_,q5,_,bp (by omega),_,_,q6,us.length,by omega,x,hx,_,_,q7,_,bp (by omega),_,_,q8,us.length+1,by omega,y,hy,_,_,q9,I,I⟩,λe=>absurd h2 e⟩⟩),o9⟩
 by_cases h3:t.kind=3
 ·obtain⟨x,E⟩:=f1 (by omega);have hx:t.kids[0]?=some x:=by rw[E];rfl
  have G:t.leads.length=3:=by rw[h3,E]at g1;simp[bB,f0]at g1;omega
  rw[h3,E]at hN⊢;obtain⟨U,Z,n1⟩:=cr ho hN;obtain⟨q2,o2,n2⟩:=cr Z n1;obtain⟨q3,o3,n3⟩:=cr o2 n2;obtain⟨q4,o4⟩:=tk _ x hx _ o3 n3;exact⟨tD (.inr<|.inr<|.inl h3) (dm 3 _ _ _ _ _ ⟨λe=>absurd e h1,λ_=>eD 2 _ _ _ _ _ ⟨λe=>absurd e h2,λ_=>je 1 _ _ _ _ _ ⟨λ_=>pF 0 _ _ _ _ _ ⟨_,bp (by omega),_,_,U,_,bp (by omega),_,_,q2,_,bp (by omega),_,_,q3,x,hx,_,_,q4,I,I⟩,λe=>absurd h3 e⟩⟩⟩),o4⟩
 by_cases h4:t.kind=4
 ·obtain⟨x,E⟩:=f1 (by omega);have hx:t.kids[0]?=some x:=by rw[E];rfl
  have G:t.leads.length=2:=by rw[h4,E]at g1;simp[bB,f0]at g1;omega
  rw[h4,E]at hN⊢;obtain⟨U,Z,n1⟩:=cr ho hN;obtain⟨q2,o2,n2⟩:=cr Z n1;obtain⟨q4,o4⟩:=tk _ x hx _ o2 n2;exact⟨tD (.inr<|.inr<|.inr h4) (dm 4 _ _ _ _ _ ⟨λe=>absurd e h1,λ_=>eD 3 _ _ _ _ _ ⟨λe=>absurd e h2,λ_=>je 2 _ _ _ _ _ ⟨λe=>absurd e h3,λ_=>pI 1 _ _ _ _ _ ⟨λ_=>pJ 0 _ _ _ _ _ ⟨_,bp (by omega),_,_,U,_,bp (by omega),_,_,q2,x,hx,_,_,q4,I,I⟩,λe=>absurd h4 e⟩⟩⟩⟩),o4⟩
 have hd:¬(t.kind=1∨t.kind=2∨t.kind=3∨t.kind=4):=by omega
 by_cases J:t.kind=17
 ·obtain⟨x,E⟩:=f1 (by omega);have hx:t.kids[0]?=some x:=by rw[E];rfl
  rw[J,E]at hN⊢;obtain⟨U,Z⟩:=tk _ x hx _ ho hN;exact⟨t0 hd<|mn 0 _ _ _ _ _ ⟨λ_=>⟨x,hx,_,_,U,I,I⟩,λe=>absurd J e⟩,Z⟩
 by_cases h8:t.kind=8
 ·obtain⟨x,E⟩:=f1 (by omega);have hx:t.kids[0]?=some x:=by rw[E];rfl
  have G:t.leads.length=2:=by rw[h8,E]at g1;simp[bB,f0]at g1;omega
  rw[h8,E]at hN⊢;obtain⟨U,Z,n1⟩:=cr ho hN;obtain⟨q2,o2,n2⟩:=qI (tk _ x hx) Z n1;obtain⟨q3,o3,_⟩:=cr o2 n2;show PtW t s (be (⟨_,_⟩::(pcT x++[⟨_,_⟩])) s)∧(be (⟨_,_⟩::(pcT x++[⟨_,_⟩])) s).1.length<=140737488355328;simp only[ew,ee,og];exact⟨t0 hd (t1 J<|my 1 _ _ _ _ _ ⟨λ_=>tJ 0 _ _ _ _ _ ⟨_,bp (by omega),_,_,U,x,hx,_,_,q2,_,bp (by omega),_,_,q3,I,I⟩,λe=>absurd h8 e⟩),o3⟩
 by_cases h16:t.kind=16
 ·have G:3+t.kids.length<=t.leads.length+1∧3<=t.leads.length:=by
   rw[h16]at g1;simp only[bB,f0]at g1;simp at g1;split at g1<;>first|omega|(split at g1<;>omega)
  rw[h16]at hN⊢;obtain⟨U,Z,n1⟩:=cr ho hN;obtain⟨q2,o2,n2⟩:=cr Z n1;obtain⟨q3,o3,n3⟩:=Jw (p:=t) tkm (by decide) (by decide) G.1 (by omega) o2 n2;obtain⟨q4,o4,_⟩:=cr o3 n3;show PtW t s (be (⟨_,_⟩::⟨_,_⟩::(ei t.leads 3 (pcTs t.kids) 0++[⟨_,_⟩])) s)∧(be (⟨_,_⟩::⟨_,_⟩::(ei t.leads 3 (pcTs t.kids) 0++[⟨_,_⟩])) s).1.length<=140737488355328;simp only[ew,ee,og];exact⟨t0 hd (t1 J<|t2 h8<|mB 1 _ _ _ _ _ ⟨λ_=>tH 0 _ _ _ _ _ ⟨_,bp (by omega),_,_,U,_,bp (by omega),_,_,q2,_,_,q3,_,bp (by omega),_,_,q4,I,I⟩,λe=>absurd h16 e⟩),o4⟩
 by_cases h18:t.kind=18
 ·have h4':=hn.2.1 h18;have G:2+t.kids.length<=t.leads.length+1∧2<=t.leads.length:=by
   rw[h18]at g1;simp only[bB,f0]at g1;simp at g1;split at g1<;>first|omega|(split at g1<;>omega)
  rw[h18]at hN⊢;obtain⟨U,Z,n1⟩:=cr ho hN;obtain⟨q2,o2,n2⟩:=Jw (p:=t) tkm (by decide) (by decide) G.1 (by omega) Z n1;obtain⟨q3,o3,_⟩:=cr o2 n2;show PtW t s (be (⟨_,_⟩::(ei t.leads 2 (pcTs t.kids) 0++[⟨_,_⟩])) s)∧(be (⟨_,_⟩::(ei t.leads 2 (pcTs t.kids) 0++[⟨_,_⟩])) s).1.length<=140737488355328;simp only[ew,ee,og];exact⟨t0 hd (t1 J<|t2 h8<|t4 h16<|mu 1 _ _ _ _ _ ⟨λ_=>tB 0 _ _ _ _ _ ⟨_,bp (by omega),_,_,U,_,_,q2,_,bp (by omega),_,_,q3,I,I⟩,λe=>absurd h18 e⟩),o3⟩
 by_cases h19:t.kind=19
 ·obtain⟨x,y,z,E⟩:=f3 h19;have hx:t.kids[0]?=some x:=by rw[E];rfl
  have hy:t.kids[1]?=some y:=by rw[E];rfl
  have hz:t.kids[2]?=some z:=by rw[E];rfl
  have G:t.leads.length=3:=by rw[h19,E]at g1;simp[bB,f0]at g1;omega
  rw[h19,E]at hN⊢;obtain⟨U,Z,n1⟩:=cr ho hN;obtain⟨q2,o2,n2⟩:=qI (tk _ x hx) Z n1;obtain⟨q3,o3,n3⟩:=cr o2 n2;obtain⟨q4,o4,n4⟩:=qI (tk _ y hy) o3 n3;obtain⟨q5,o5,n5⟩:=cr o4 n4;obtain⟨q6,o6⟩:=tk _ z hz _ o5 n5;show PtW t s (be (⟨_,_⟩::(pcT x++(⟨_,_⟩::(pcT y++(⟨_,_⟩::pcT z))))) s)∧(be (⟨_,_⟩::(pcT x++(⟨_,_⟩::(pcT y++(⟨_,_⟩::pcT z))))) s).1.length<=140737488355328;simp only[ew,ee,og];exact⟨t0 hd (t1 J<|t2 h8<|t4 h16<|t6 h18<|mG 1 _ _ _ _ _ ⟨λ_=>tw 0 _ _ _ _ _ ⟨_,bp (by omega),_,_,U,x,hx,_,_,q2,_,bp (by omega),_,_,q3,y,hy,_,_,q4,_,bp (by omega),_,_,q5,z,hz,_,_,q6,I,I⟩,λe=>absurd h19 e⟩),o6⟩
 by_cases h20:t.kind=20
 ·obtain⟨x,y,E⟩:=f20 (by omega);have hx:t.kids[0]?=some x:=by rw[E];rfl
  have hy:t.kids[1]?=some y:=by rw[E];rfl
  have G:t.leads.length=4:=by rw[h20,E]at g1;simp[bB,f0]at g1;omega
  rw[h20,E]at hN⊢;obtain⟨U,Z,n1⟩:=cr ho hN;obtain⟨q2,o2,n2⟩:=cr Z n1;obtain⟨q3,o3,n3⟩:=cr o2 n2;obtain⟨q4,o4,n4⟩:=qI (tk _ x hx) o3 n3;obtain⟨q5,o5,n5⟩:=cr o4 n4;obtain⟨q6,o6⟩:=tk _ y hy _ o5 n5;show PtW t s (be (⟨_,_⟩::⟨_,_⟩::⟨_,_⟩::(pcT x++(⟨_,_⟩::pcT y))) s)∧(be (⟨_,_⟩::⟨_,_⟩::⟨_,_⟩::(pcT x++(⟨_,_⟩::pcT y))) s).1.length<=140737488355328;simp only[ew,ee,og];exact⟨t0 hd (t1 J<|t2 h8<|t4 h16<|t6 h18<|t8 h19<|ly 1 _ _ _ _ _ ⟨λ_=>sj 0 _ _ _ _ _ ⟨_,bp (by omega),_,_,U,_,bp (by omega),_,_,q2,_,bp (by omega),_,_,q3,x,hx,_,_,q4,_,bp (by omega),_,_,q5,y,hy,_,_,q6,I,I⟩,λe=>absurd h20 e⟩),o6⟩
 by_cases h21:t.kind=21
 ·obtain⟨x,y,E⟩:=f20 (by omega);have hx:t.kids[0]?=some x:=by rw[E];rfl
  have hy:t.kids[1]?=some y:=by rw[E];rfl
  have G:t.leads.length=1:=by rw[h21,E]at g1;simp[bB,f0]at g1;omega
  rw[h21,E]at hN⊢;obtain⟨U,Z,n1⟩:=qI (tk _ x hx) ho hN;obtain⟨q2,o2,n2⟩:=cr Z n1;obtain⟨q3,o3⟩:=tk _ y hy _ o2 n2;show PtW t s (be (pcT x++(⟨_,_⟩::pcT y)) s)∧(be (pcT x++(⟨_,_⟩::pcT y)) s).1.length<=140737488355328;simp only[ew,ee,og];exact⟨t0 hd (t1 J<|t2 h8<|t4 h16<|t6 h18<|t8 h19<|t10 h20<|lw 1 _ _ _ _ _ ⟨λ_=>tn 0 _ _ _ _ _ ⟨x,hx,_,_,U,_,bp (by omega),_,_,q2,y,hy,_,_,q3,I,I⟩,λe=>absurd h21 e⟩),o3⟩
 by_cases h22:t.kind=22
 ·obtain⟨x,E⟩:=f1 (by omega);have hx:t.kids[0]?=some x:=by rw[E];rfl
  have G:t.leads.length=2:=by rw[h22,E]at g1;simp[bB,f0]at g1;omega
  rw[h22,E]at hN⊢;obtain⟨U,Z,n1⟩:=cr ho hN;obtain⟨q2,o2,n2⟩:=qI (tk _ x hx) Z n1;obtain⟨q3,o3,_⟩:=cr o2 n2;show PtW t s (be (⟨_,_⟩::(pcT x++[⟨_,_⟩])) s)∧(be (⟨_,_⟩::(pcT x++[⟨_,_⟩])) s).1.length<=140737488355328;simp only[ew,ee,og];exact⟨t0 hd (t1 J<|t2 h8<|t4 h16<|t6 h18<|t8 h19<|t10 h20<|t12 h21<|lE 1 _ _ _ _ _ ⟨λ_=>sS 0 _ _ _ _ _ ⟨_,bp (by omega),_,_,U,x,hx,_,_,q2,_,bp (by omega),_,_,q3,I,I⟩,λe=>absurd h22 e⟩),o3⟩
 have el:dd t.kind t.text t.leads (pcTs t.kids)=[⟨t.leads.getD 0 [],Cn t.kind t.text⟩]:=by simp only[dd,h1,h2,h3,h4,h8,h16,J,h18,h19,h20,h21,h22,if_false];rfl
 have G:1<=t.leads.length:=by
  simp only[bB,f0,h1,h2,h3,h4,h8,h16,J,h18,h19,h20,h21,h22,if_false]at g1;split at g1
  ·split at g1<;>first|omega|(split at g1<;>omega)
  ·omega
 rw[el]at hN⊢;obtain⟨U,Z,_⟩:=cr ho hN;exact⟨t0 hd (t1 J<|t2 h8<|t4 h16<|t6 h18<|t8 h19<|t10 h20<|t12 h21<|lE 0 _ _ _ _ _ ⟨λe=>absurd e h22,λ_=>⟨_,bp (by omega),_,NY t,_,_,U,I,I⟩⟩),Z⟩
def pcM(t:Tree):List Pce:=⟨t.leads.getD 0 [],[109,111,100,117,108,101]⟩::⟨t.leads.getD 1 [],t.text⟩::(pcTs t.kids).flatten
def qE(t:Tree):YB:=if t.kind=1 then(be (pcM t) ([],[])).2++t.leads.getD 2 []else(be (pcT t) ([],[])).2
theorem HH(E:t.kind=1)(_:shapeK t=true):qE t=(be (pcM t) ([],[])).2++t.leads.getD 2 []:=if_pos E
theorem EO{c:Nat}:∀(r:List Pce) (s:WS),(∀p∈r,p.Lead.length+p.Text.length+1<=c)->(be r s).2.length<=s.2.length+r.length*c
 |[],s,h=>by simp[be]
 | p::r,s,h=>by
  have h1:=EO r (om p.Lead p.Text s) λq hq=>h q (by simp[hq]);have h2:=h p (by simp);have h3:(kq s.1 p.Lead p.Text).length<=p.Lead.length+1:=by
   unfold kq;split
   ·simp
   ·omega
  have e:(r.length+1)*c=r.length*c+c:=Nat.succ_mul _ _;have h4:(om p.Lead p.Text s).2.length=s.2.length+(kq s.1 p.Lead p.Text).length+p.Text.length:=by simp only[om,aac]
  rw[ew,aad,e];omega
theorem Rz(t:Tree)(ht:tbulk t<=2000000)(hs:shapeK t=true)(hl:leadedT t=true):ru t (qE t):=by
 obtain⟨r,_,h1,h2,rfl⟩:=FE t ht hs [] (by simp only[aae];omega);rw[aal]at h1 h2;have hq:=h2 bR;have hlen:∀(r:List Pce),r.length<=16000000->Qp r->(be r ([],[])).2.length<=100000000000000:=λr hr hq=>by
  have :=EO (c:=4000011) r ([],[]) λp hp=>by have :=hq p hp;omega
  have h3:r.length*4000011<=16000000*4000011:=Nat.mul_le_mul_right _ hr;simp only[aae]at this;omega
 simp only[aae]at h1;obtain⟨g1,_,g3⟩:=oP hl;rw[nw]at g1;have hkl:=cS t;by_cases hk:t.kind=1
 ·have hll:t.leads.length=3:=by rw[hk]at g1;simp only[bB]at g1;simp at g1;omega
  have e:pcT t=pcM t++[⟨t.leads.getD 2 [],[]⟩]:=by rw[dv,hk];rfl
  rw[e]at h1 hq;rw[aac,List.length_singleton]at h1;have hn:=hlen (pcM t) (by omega) (bP.1 hq).1;have hl2:=((bP.1 hq).2 _ (List.mem_singleton.2 rfl)).1;simp only at hl2;have loop:∀k i (s:WS),t.kids.length-i<=k->s.1.length<=140737488355328->(be (pcTs<|t.kids.drop i).flatten s).2.length<=100000000000000->∃x,cn (k+1) t (s.2.map u8i) s.1 i (((be (pcTs<|t.kids.drop i).flatten s).2++t.leads.getD 2 []).map u8i) x:=λk=>by
   have fin:∀m i (s:WS),¬i<t.kids.length->(be (pcTs<|t.kids.drop i).flatten s).2.length<=100000000000000->∃x,cn (m+1) t (s.2.map u8i) s.1 i (((be (pcTs<|t.kids.drop i).flatten s).2++t.leads.getD 2 []).map u8i) x:=λm i s hi hN=>by
    rw[List.drop_of_length_le<|by omega]at hN⊢;exact⟨_,jf m _ _ _ _ _ _ ⟨λh=>absurd h hi,λ_=>⟨_,bp (by omega),_,_,_,_,NO (by have :s.2.length<=100000000000000:=hN;omega),I,I⟩⟩⟩
   induction k with
   |zero=>intro i s hi _ hN;exact fin 0 i s (by omega) hN
   | succ k ih=>
    intro i s hi ho hN;rcases aZ t.kids i with⟨u,hu,hlt⟩|h'
    ·have tk:=Hs u (Ci (iB hs hu).2) (by have :=dx hu;omega) (iB hs hu).1 (oS g3 hu);rw[bJ hu]at hN⊢;simp only[pcTs,List.flatten_cons]at hN⊢;obtain⟨q,o,n⟩:=qI tk ho (aao hN<|by decide);rw[ee]at hN⊢;obtain⟨x,hx⟩:=ih (i+1) _ (by omega) o hN;exact⟨x,jf (k+1) _ _ _ _ _ _ ⟨λ_=>⟨u,hu,_,_,q,by omega,hx⟩,λh=>absurd hlt h⟩⟩
    ·exact fin _ i s h' hN
  obtain⟨q1,o1,n1⟩:=cr (s:=([],[])) (aat _) (aao hn<|by decide);obtain⟨q2,o2,n2⟩:=cr o1 n1;obtain⟨x,hx⟩:=loop t.kids.length 0 _ (by omega) o2 hn;rw[HH hk hs];exact wk 0 _ _ ⟨_,x,tD (.inl hk) (dm (t.kids.length+2) _ _ _ _ _ ⟨λ_=>pG (t.kids.length+1) _ _ _ _ _ ⟨_,bp (by omega),_,_,q1,_,bp (by omega),_,_,q2,hx⟩,λe=>absurd hk e⟩),_,RP _ _,I⟩
 ·have hn:=hlen (pcT t) (by omega) hq;have e:qE t=(be (pcT t) ([],[])).2:=if_neg hk;rw[e];obtain⟨q,_⟩:=Hs t hk (by omega) hs hl ([],[]) (aat _) (aao hn<|by decide);exact wk 0 _ _ ⟨_,_,q,_,RP _ _,I⟩
theorem Eb{x:YB}(h:bj x≠0):x≠[]:=by rintro rfl;exact h I
def oQ:YB->List Pce->YB
 |_,[]=>[]
 |last,p::r=>kq last p.Lead p.Text++(p.Text++oQ p.Text r)
theorem Gg:∀(l:List Pce) (last out:YB),(be l (last,out)).2=out++oQ last l
 |[],last,out=>by simp[be,oQ]
 |p::r,last,out=>by rw[ew];show(be r (p.Text,out++kq last p.Lead p.Text++p.Text)).2=_;rw[Gg r];simp only[oQ,aak]
theorem Lf(a:YB):fusesT a []=false:=by simp[fusesT,bj]
theorem Ps(E:t.kind=1):pcT t=pcM t++[⟨t.leads.getD 2 [],[]⟩]:=by rw[dv,E];simp[dd,pcM]
theorem RL(hs:shapeK t=true):qE t=oQ [] (pcT t):=by
 by_cases E:t.kind=1
 ·rw[HH E hs];have h:=Gg (pcT t) [] [];rw[aal]at h;rw[<-h,Ps E,ee];show _=(om (t.leads.getD 2 []) []<|be (pcM t) ([],[])).2;simp only[om,kq,Lf,aaz];rw[if_neg λh=>absurd h.2.2 (by decide)]
 ·have h:=Gg (pcT t) [] [];rw[aal]at h;rw[show qE t=_ from if_neg E,h]
def qM(l:List Pce)(i:Nat):YB:=if i=0 then[]else((l[i-1]?).map (·.Text)).getD []
theorem JS{x:Pce}(h:l[i]?=some x):qM l (i+1)=x.Text:=by unfold qM;rw[if_neg (by omega),Nat.add_sub_cancel,h];rfl
theorem MV{y:Pce}(E:0<i)(h:l[i-1]?=some y):qM l i=y.Text:=by unfold qM;rw[if_neg (by omega),h];rfl
theorem NV (t:Tree) (ht:tbulk t<=2000000):kP t (if(shapeK t&&leadedT t)=true then qE t else[]):=by
 have hp:=xz t (by omega);cases h:(shapeK t&&leadedT t)with
 |false=>
  rw[h]at hp;exact pk 0 _ _ ⟨_,hp,λ_=>rfl,λh=>(by cases h)⟩
 | true =>
  rw[h]at hp;simp only[aab]at h;obtain⟨l,e,z,q,el⟩:=FE t ht h.1 [] (by simp;omega);have hq:=q bR;simp only[aae]at z;rw[aal]at el;have loop:∀k i (s:List UInt8),l.length-i<=k->s.length<=i*4000020->i<=l.length->bI (k+1) l s i (s++oQ (qM l i) (l.drop i)):=λk=>by
   induction k with
   |zero=>intro i s hi hsl hil;exact dc 0 _ _ _ _ ⟨λh=>by omega,λ_=>by rw[List.drop_of_length_le<|by omega];simp[oQ]⟩
   | succ k ihk=>
    intro i s hi hsl hil;obtain⟨x,hx,hxl⟩|h':=aZ l i
    ·obtain⟨hx1,hx2⟩:=hq x<|List.mem_of_getElem? hx;have hmul:(i+1)*4000020=i*4000020+4000020:=Nat.succ_mul _ _;have hr1:=ihk (i+1) (((s++[32])++x.Lead)++x.Text) (by omega) (by simp only[aac,aad,aae];omega) (by omega);have hr2:=ihk (i+1) ((s++x.Lead)++x.Text) (by omega) (by simp only[aac];omega) (by omega);rw[JS hx]at hr1 hr2;rw[bJ hx,oQ];have plain (hg:kq (qM l i) x.Lead x.Text=x.Lead):s.length+x.Lead.length<=9223372036854775807∧∃y:Pce,l[i]?=some y∧(s++x.Lead).length+y.Text.length<=9223372036854775807∧bI (k+1) l ((s++x.Lead)++y.Text) (i+1) (s++(kq (qM l i) x.Lead x.Text++(x.Text++oQ x.Text (l.drop<|i+1)))):=⟨by omega,x,hx,by simp only[aac];omega,by rw[hg];simpa[aak]using hr2⟩;by_cases h0:(0:Int)<((i:Nat):Int)
     ·by_cases hle:x.Lead=[]
      ·obtain⟨y,hy,hyl⟩|h':=aZ l (i-1)
       rotate_left
       ·omega
       obtain⟨hy1,hy2⟩:=hq y<|List.mem_of_getElem? hy;have hf:=NE y.Text x.Text (by omega) (by omega);have hly:qM l i=y.Text:=MV (by omega) hy;cases hb2:fusesT y.Text x.Text with
       | true=>
        rw[hb2]at hf;have hg:kq (qM l i) x.Lead x.Text=[32]:=by rw[hly,kq,if_pos ⟨hle,λe=>(by rw[e]at hb2;cases hb2),hb2⟩]
        rw[hg];have hr1':bI (k+1) l (((s++[32])++x.Lead)++x.Text) (i+1) (s++([32]++(x.Text++oQ x.Text (l.drop<|i+1)))):=by simpa[hle,aak]using hr1
        exact(dc (k+1) _ _ _ _ ⟨λ_=>⟨λ_=>⟨x,hx,λ_=>⟨by omega,i-1,by omega,y,hy,x,hx,_,hf,λ_=>⟨by simp only[aad,aae];omega,x,hx,by simp only[aac,aad,aae];omega,x,hx,by simp only[aac,aad,aae];omega,hr1'⟩,λh=>by(cases h)⟩,λh=>absurd hle h⟩,λh=>absurd h0 h⟩,λh=>absurd hxl h⟩)
       |false=>
        rw[hb2]at hf;exact(dc (k+1) _ _ _ _ ⟨λ_=>⟨λ_=>⟨x,hx,λ_=>⟨by omega,i-1,by omega,y,hy,x,hx,_,hf,λh=>by(cases h),λ_=>⟨x,hx,plain<|by rw[hly,kq,if_neg (λh=>by rw[hb2]at h;exact absurd h.2.2 (by decide))]⟩⟩,λh=>absurd hle h⟩,λh=>absurd h0 h⟩,λh=>absurd hxl h⟩)
      ·exact(dc (k+1) _ _ _ _ ⟨λ_=>⟨λ_=>⟨x,hx,λh=>absurd h hle,λ_=>⟨x,hx,plain<|by rw[kq,if_neg λh=>hle h.1]⟩⟩,λh=>absurd h0 h⟩,λh=>absurd hxl h⟩)
     ·exact(dc (k+1) _ _ _ _ ⟨λ_=>⟨λh=>absurd h h0,λ_=>⟨x,hx,plain<|by rw[kq,if_neg λh=>h.2.1 (by rw[show i=0 by omega];rfl)]⟩⟩,λh=>absurd hxl h⟩)
    ·exact dc (k+1) _ _ _ _ ⟨λh=>absurd h h',λ_=>by rw[List.drop_of_length_le<|by omega];simp[oQ]⟩
  have hr:=loop l.length 0 [] (by omega) (by simp) (by omega);rw[show qM l 0=[]from rfl,List.drop_zero,aal,el,<-RL h.1,<-el]at hr;exact pk (l.length+1) _ _ ⟨_,hp,λh=>(by cases h),λ_=>⟨l,vM 0 _ _ ⟨_,e,rfl⟩,hr⟩⟩
mutual
def limK:Tree->Bool
 |.node k _ _ ks=>decide ((k=1->ks.length<=40)∧(k=2->ks.length<=10)∧(k=16->ks.length<=8)∧(k=18->ks.length<=16))&&limKs ks
def limKs:YT->Bool
 |[]=>true
 |t::r=>limK t&&limKs r
end
theorem vJ(t:Tree):limK t=(decide ((t.kind=1->t.kids.length<=40)∧(t.kind=2->t.kids.length<=10)∧(t.kind=16->t.kids.length<=8)∧(t.kind=18->t.kids.length<=16))&&limKs t.kids):=by cases t;simp only[limK];rfl
mutual
def depK:Tree->Nat
 |.node _ _ _ ks=>depKs ks+1
def depKs:YT->Nat
 |[]=>0
 |t::r=>max (depK t)<|depKs r
end
theorem ON(t:Tree):depK t=depKs t.kids+1:=by cases t;simp only[depK];rfl
mutual
def cntK:Tree->Nat
 |.node _ _ _ ks=>cntKs ks+1
def cntKs:YT->Nat
 |[]=>0
 |t::r=>cntK t+cntKs r
end
theorem rY(t:Tree):cntK t=cntKs t.kids+1:=by cases t;simp only[cntK];rfl
theorem zm:∀ks:YT,ks.length<=cntKs ks
 |[]=>aag _
 |t::r=>by have :=zm r;have :=rY t;simp only[cntKs,aad];omega
theorem sf:∀{ks:YT} {i:Nat} {u:Tree},ks[i]?=some u->cntK u<=cntKs ks
 |[],i,t,h=>by simp at h
 |u::r,0,t,h=>by simp only[List.getElem?_cons_zero,aaa]at h;subst h;simp only[cntKs];omega
 |u::r,i+1,t,h=>by have :=sf (ks:=r) (i:=i) (by simpa using h);simp only[cntKs];omega
mutual
theorem cnt_bulk:∀t:Tree,cntK t<=tbulk t
 |.node _ _ _ ks=>by have :=cnt_bulks ks;simp only[cntK,tbulk];omega
theorem cnt_bulks:∀ks:YT,cntKs ks<=kbulk ks
 |[]=>aag _
 |t::r=>by have :=cnt_bulk t;have :=cnt_bulks r;simp only[cntKs,kbulk];omega
end
mutual
theorem dep_cnt:∀t:Tree,depK t<=cntK t
 |.node _ _ _ ks=>by have :=dep_cnts ks;simp only[cntK,depK];omega
theorem dep_cnts:∀ks:YT,depKs ks<=cntKs ks
 |[]=>aag _
 |t::r=>by have :=dep_cnt t;have :=dep_cnts r;simp only[cntKs,depKs];omega
end
theorem Hl{L:Nat->Tree->Int->Nat->Int->Prop}{S:Tree->Int->Prop}(t:Tree)(ht:cntK t<=1000000000)(hS:∀(i:Nat) (u:Tree),t.kids[i]?=some u->S u (depK u))
  (r:∀m (z:Int) (i:Nat) (x:Int),((i<t.kids.length)->∃u,t.kids[i]?=some u∧∃n,S u n∧i+1<=9223372036854775807∧L m t (max z n) (i+1) x)∧((¬i<t.kids.length)->InI (z+1)∧z+1=x)->L (m+1) t z i x):∃m,L m t 0 0 (depK t):=by
 have hc:=rY t;have hl:=zm t.kids;have hd:=dep_cnts t.kids;have loop:∀k i (z:Nat),t.kids.length-i<=k->z<=1000000000->L (k+1) t z i ((max z (depKs<|t.kids.drop i)+1:Nat):Int):=λk=>by
  have fin:∀m i (z:Nat),¬i<t.kids.length->z<=1000000000->L (m+1) t z i ((max z (depKs<|t.kids.drop i)+1:Nat):Int):=λm i z hi hz=>r m _ _ _ ⟨λh=>absurd h hi,λ_=>⟨by constructor<;>omega,by rw[List.drop_of_length_le<|by omega];simp only[depKs];omega⟩⟩
  induction k with
  |zero=>intro i z hi hz;exact fin 0 i z (by omega) hz
  | succ k ihk=>
   intro i z hi hz;obtain⟨u,hu,hul⟩|h':=aZ t.kids i
   ·have h1:=sf hu;have h2:=dep_cnt u;have :=ihk (i+1) (max z<|depK u) (by omega) (by omega);refine r (k+1) _ _ _ ⟨λ_=>⟨u,hu,_,hS i u hu,by omega,?_⟩,λh=>absurd hul h⟩;rw[bJ hu,depKs];rw[show max ((z:Nat):Int) ((depK u:Nat):Int)=((max z (depK u):Nat):Int) by omega,<-Nat.max_assoc];exact this
   ·exact fin _ i z h' hz
 have :=loop t.kids.length 0 0 (by omega) (by omega);rw[List.drop_zero,Nat.zero_max,<-ON]at this;exact⟨_,this⟩
theorem Oc:∀t:Tree,cntK t<=1000000000->jB t (depK t):=df λt ih ht=>by have J:=rY t;obtain⟨m,G⟩:=Hl (L:=lh) (S:=jB) t ht (λi u E=>ih i u E (by have :=sf E;omega)) λm z i x h=>zP m t z i x h;exact AW m _ _ G
theorem NP:∀t:Tree,cntK t<=1000000000->eS t (depK t):=df λt ih ht=>by have J:=rY t;obtain⟨m,G⟩:=Hl (L:=gc) (S:=eS) t ht (λi u E=>ih i u E (by have :=sf E;omega)) (λm z i x h=>vo m t z i x ⟨λhi=>by obtain⟨u,E,n,hn,_,hr⟩:=h.1 hi;exact⟨u,E,n,hn,hr⟩,h.2⟩);exact wU m _ _ G
theorem Ma:∀t:Tree,cntK t<=1000000000->gb t (limK t):=df λt ih ht=>by
 have hl:=zm t.kids;have hc:=rY t;have kids:∀k i,t.kids.length-i<=k->aI (k+1) t i (limKs<|t.kids.drop i):=λk=>by
  have fin:∀m i,¬i<t.kids.length->aI (m+1) t i (limKs<|t.kids.drop i):=λm i hi=>iR m _ _ _ ⟨λh=>absurd h hi,λ_=>by rw[List.drop_of_length_le<|by omega];rfl⟩
  induction k with
  |zero=>intro i hi;exact fin 0 i (by omega)
  | succ k ihk=>
   intro i hi;obtain⟨u,hu,hul⟩|h':=aZ t.kids i
   ·have :=sf hu;have hb:=ih i u hu (by omega);rw[bJ hu,limKs];cases h:limK u with
    |false=>rw[h]at hb;exact iR (k+1) _ _ _ ⟨λ_=>⟨u,hu,_,hb,λ_=>rfl,λh=>(by cases h)⟩,λh=>absurd hul h⟩
    |true=>rw[h]at hb;exact iR (k+1) _ _ _ ⟨λ_=>⟨u,hu,_,hb,λh=>(by cases h),λ_=>⟨by omega,ihk (i+1)<|by omega⟩⟩,λh=>absurd hul h⟩
   ·exact fin _ i h'
 have hk:=kids t.kids.length 0 (by omega);rw[List.drop_zero]at hk;rw[vJ];by_cases hall:(t.kind=1->t.kids.length<=40)∧(t.kind=2->t.kids.length<=10)∧(t.kind=16->t.kids.length<=8)∧(t.kind=18->t.kids.length<=16)
 ·rw[decide_eq_true hall,Bool.true_and];refine oF (t.kids.length+1) _ _ ?_
  repeat' (refine And.intro (λ_=>?_) λ_=>?_)
  all_goals first|exact hk|(exfalso;omega)
 ·rw[decide_eq_false hall,Bool.false_and];refine oF (t.kids.length+1) _ _ ?_
  repeat' (refine And.intro (λ_=>?_) λ_=>?_)
  all_goals first|rfl|(exfalso;omega)
structure Vld (t:Tree):Prop where
 shape:shapeK t=true
 lead:leadedT t=true
 lim:limK t=true
 dep:depK t<=40
 size:(qE t).length<=4096
theorem Ny(t:Tree)(ht:tbulk t<=2000000):∃b,eU t b∧(b=true↔Vld t):=by
 have hp:=xz t (by omega);have hcn:=cnt_bulk t;cases h:(shapeK t&&leadedT t)with
 |false=>
  rw[h]at hp;exact⟨false,gn 0 _ _ ⟨_,hp,λh=>(by cases h),λ_=>rfl⟩,λh=>(by cases h),λv=>by rw[v.shape,v.lead]at h;cases h⟩
 | true=>
  rw[h]at hp;have hpr:=NV t ht;rw[h,if_pos rfl]at hpr;simp only[aab]at h;have hb2:=Ma t (by omega);cases hl:limK t with
  |false=>
   rw[hl]at hb2;exact⟨false,gn 0 _ _ ⟨_,hp,λ_=>⟨_,hb2,λh=>(by cases h),λ_=>rfl⟩,λh=>(by cases h)⟩,λh=>(by cases h),λv=>by rw[v.lim]at hl;cases hl⟩
  |true=>
   rw[hl]at hb2;have hn:=NP t (by omega);by_cases h40:(depK t:Int)<=40
   ·exact⟨_,gn 0 _ _ ⟨_,hp,λ_=>⟨_,hb2,λ_=>⟨_,hn,λ_=>⟨_,hpr,rfl⟩,λh=>absurd h40 h⟩,λh=>(by cases h)⟩,λh=>(by cases h)⟩,λhd=>⟨h.1,h.2,hl,by omega,by have :=of_decide_eq_true hd;omega⟩,λv=>decide_eq_true (by have :=v.size;omega)⟩
   ·exact⟨false,gn 0 _ _ ⟨_,hp,λ_=>⟨_,hb2,λ_=>⟨_,hn,λh=>absurd h h40,λ_=>rfl⟩,λh=>(by cases h)⟩,λh=>(by cases h)⟩,λh=>(by cases h),λv=>by have :=v.dep;omega⟩
theorem NM:∀t:Tree,cntK t<=1000000000->ma t (limK t):=df λt ih ht=>by
 have hl:=zm t.kids;have hc:=rY t;have kids:∀k i,t.kids.length-i<=k->cZ (k+1) t i (limKs<|t.kids.drop i):=λk=>by
  have fin:∀m i,¬i<t.kids.length->cZ (m+1) t i (limKs<|t.kids.drop i):=λm i hi=>ou m _ _ _ ⟨λh=>absurd h hi,λ_=>by rw[List.drop_of_length_le<|by omega];rfl⟩
  induction k with
  |zero=>intro i hi;exact fin 0 i (by omega)
  | succ k ihk=>
   intro i hi;obtain⟨u,hu,hul⟩|h':=aZ t.kids i
   ·have :=sf hu;have hb:=ih i u hu (by omega);rw[bJ hu,limKs];cases h:limK u with
    |false=>rw[h]at hb;exact ou (k+1) _ _ _ ⟨λ_=>⟨u,hu,_,hb,λ_=>rfl,λh=>(by cases h)⟩,λh=>absurd hul h⟩
    |true=>rw[h]at hb;exact ou (k+1) _ _ _ ⟨λ_=>⟨u,hu,_,hb,λh=>(by cases h),λ_=>⟨by omega,ihk (i+1)<|by omega⟩⟩,λh=>absurd hul h⟩
   ·exact fin _ i h'
 have hk:=kids t.kids.length 0 (by omega);rw[List.drop_zero]at hk;rw[vJ];by_cases hall:(t.kind=1->t.kids.length<=40)∧(t.kind=2->t.kids.length<=10)∧(t.kind=16->t.kids.length<=8)∧(t.kind=18->t.kids.length<=16)
 ·rw[decide_eq_true hall,Bool.true_and];refine tQ (t.kids.length+1) _ _ ?_
  repeat' (refine And.intro (λ_=>?_) λ_=>?_)
  all_goals first|exact hk|(exfalso;omega)
 ·rw[decide_eq_false hall,Bool.false_and];refine tQ (t.kids.length+1) _ _ ?_
  repeat' (refine And.intro (λ_=>?_) λ_=>?_)
  all_goals first|rfl|(exfalso;omega)
def kH(E:Bool):Prop:=qS 8 []<|.bool E
def Ad(E:YB)(G:Tree)(J U:Int):Prop:=qS 19 [.str E]<|.tup [.agg<|an G,qi J,qi U]
def nr(E:List aj)(G J:Int)(U:ak):Prop:=qS 20 [.row 6<|List.map aj.w E,qi G,qi J]<|.agg<|ak.c U
def oy(E:Bool):Prop:=qS 8 []<|.bool E
def lz(m:Nat)(E:List aj)(G J:Int)(a:Nat)(U:ak):Prop:=z8 m [] Tryz.f20 (z6<|.agg<|ak.c U) (xI<|cB<|ab Tryz.f20) [.blk 0,.seq<|xA<|ab Tryz.f20] 29 [(1,qi G),(2,qi J),(6,.ptr 0 0),(9,.row 6<|List.map aj.w E),(10,qi (E.length:Int)),(11,qi (a:Int))] ⟨1,[(0,vF 0 (.bool false) [] 0)]⟩
theorem DQ(m:Nat)(p0:List aj)(p1 p2:Int)(r0:ak)(h:lz m p0 p1 p2 0 r0):nr p0 p1 p2 r0:=by
 refine⟨I,I,?_⟩;refine qA 29 [] func20 λK hK=>?_;exact gR 10 I<|gV 10 (qi (p0.length:Int)) I (aN<|az aj.w _) I<|gLB 9 I (az aj.w _) λa=>gR 4 I<|go_loop m<|qW hK h [0]
theorem xw(m:Nat)(E:List aj)(J U:Int)(b:Nat)(G:ak)(h:y6 (b<E.length) (∃a,E[b]?=some a∧y9 a.Id J (y9 a.Field U (a.V_=G)<|b+1<=9223372036854775807∧lz m E J U (b+1) G) (b+1<=9223372036854775807∧lz m E J U (b+1) G))<|(ak.mk 0 false [] 0)=G):lz (m+1) E J U b G:=by
 refine qj λK j1 Z d=>?_;refine gR 6 rfl<|qXh 12 rfl rfl rfl h bQ bS ?_ ?_<;>intro hd h;refine gR 7 I ?_;obtain⟨a,c,h⟩:=h;refine gY (ax (av (f:=aj.w) c) ac rfl rfl rfl rfl) rfl rfl<|gR 12 rfl<|qXeZ 19 18 rfl rfl rfl rfl h ?_ ?_<;>intro hd h;refine gR 7 rfl<|qXe 24 rfl rfl rfl h ?_ ?_<;>intro hd h;refine gR 11 I<|go_xloopR<|gR 2 I ?_;subst h;exact go_sub (F':=(mkF 29 0 [(6,.ptr 0 0)])) (H':=⟨1,[(0,.var 42<|ak.c a.V_)]⟩) [0] [] I Z pq1 (pqo1 I I) I<|qN [.cell 6 42];refine gR 5 I ?_;obtain⟨hb,h⟩:=h;exact gR 1 I<|gV 27 (qi ((b+1:Nat):Int)) I (am (by omega)<|by omega) I<|gR 2 I<|go_xloop<|qW Z h [0];refine gR 12 I ?_;obtain⟨hb,h⟩:=h;exact gR 1 I<|gV 27 (qi ((b+1:Nat):Int)) I (am (by omega)<|by omega) I<|gR 2 I<|go_xloop<|qW Z h [0];refine gR 3 I<|go_xloopE<|gR 9 I ?_;subst h;exact go_sub (F':=(mkF 29 0 [(6,.ptr 0 0)])) (H':=⟨1,[(0,vF ((ak.mk 0 false [] 0).N) (.bool<|(ak.mk 0 false [] 0).Flag) ((ak.mk 0 false [] 0).Text)<|(ak.mk 0 false [] 0).Ref)]⟩) [0] [] I Z pq1 (pqo1 I I) I<|qN [.cell 6 42]
theorem vb(m:Nat)(E:Bool)(h:∃d j f,Ad [109,111,100,117,108,101,32,77,32,100,101,102,32,102,40,120,58,32,73,110,116,41,58,32,73,110,116,32,61,32,102,40,120,41] d j f∧∃e g i,jw [d] 1048576 e g i∧((f=0)->((i=0)->((g=1048584)->∃a,nr e.Cells 1048582 4 a∧((a.N=16∧a.Flag=false∧a.Text=[]∧a.Ref=1048578)->∃b,nr e.Cells 1048583 4 b∧((b.N=17∧b.Flag=false∧b.Text=[]∧b.Ref=1048579)->∃c,nr e.Cells 1048584 4 c∧(ds c.N c.Flag c.Text c.Ref 12 false [] 1048579)=E)∧((¬(b.N=17∧b.Flag=false∧b.Text=[]∧b.Ref=1048579))->false=E))∧((¬(a.N=16∧a.Flag=false∧a.Text=[]∧a.Ref=1048578))->false=E))∧((g≠1048584)->false=E))∧((i≠0)->false=E))∧((f≠0)->false=E)):oy E:=by
 refine⟨I,I,?_⟩;refine qA 50 [] func8 λK G=>?_;refine gR 7 I ?_;obtain⟨d,j,f,l,h⟩:=h;refine qC0 l I<|gR 14 I<|gHR 1 (kidsV [d]) I (qt d) I<|gFR 1 I (dJ _) I I ?_;obtain⟨e,g,i,n,h⟩:=h;refine qC0 n rfl<|gR 15 rfl<|qBeZ 21 20 rfl rfl rfl rfl h ?_ ?_<;>intro h;refine gR 4 rfl<|qBeZ 25 24 rfl rfl rfl rfl h ?_ ?_<;>intro h;refine gR 4 rfl<|qBeZ 29 28 rfl rfl rfl rfl h ?_ ?_<;>intro h;refine gR 2 I ?_;obtain⟨a,o,h⟩:=h;refine qC0 o rfl<|gR 1 rfl<|gY (v:=.bool<|ds a.N a.Flag a.Text a.Ref 16 false [] 1048578) (sD (neg:=false) (r:=(ds a.N a.Flag a.Text a.Ref 16 false [] 1048578)) (by kernel_rfl) rfl rfl rfl rfl<|lA underlying42 (by kernel_rfl) (by decide) ⟨rfl,rfl,rfl,rfl⟩ underlying3 underlying4 underlying9 underlying3 _ _ _ _ _ _ _ _) rfl rfl<|gR 2 rfl<|qBhZ 36 35 rfl rfl rfl rfl h qX qU ?_ ?_<;>intro h;refine gR 2 I ?_;obtain⟨b,p,h⟩:=h;refine qC0 p rfl<|gR 1 rfl<|gY (v:=.bool<|ds b.N b.Flag b.Text b.Ref 17 false [] 1048579) (sD (neg:=false) (r:=(ds b.N b.Flag b.Text b.Ref 17 false [] 1048579)) (by kernel_rfl) rfl rfl rfl rfl<|lA underlying42 (by kernel_rfl) (by decide) ⟨rfl,rfl,rfl,rfl⟩ underlying3 underlying4 underlying9 underlying3 _ _ _ _ _ _ _ _) rfl rfl<|gR 2 rfl<|qBhZ 43 42 rfl rfl rfl rfl h qX qU ?_ ?_<;>intro h;refine gR 2 I ?_;obtain⟨c,k,h⟩:=h;refine qC0 k rfl<|gR 1 rfl<|gY (v:=.bool<|ds c.N c.Flag c.Text c.Ref 12 false [] 1048579) (sD (neg:=false) (r:=(ds c.N c.Flag c.Text c.Ref 12 false [] 1048579)) (by kernel_rfl) rfl rfl rfl rfl<|lA underlying42 (by kernel_rfl) (by decide) ⟨rfl,rfl,rfl,rfl⟩ underlying3 underlying4 underlying9 underlying3 _ _ _ _ _ _ _ _) rfl rfl<|gR 5 rfl ?_;subst h;exact qN [.tmp 0];refine gR 10 I ?_;subst h;exact qN [.tmp 0];refine gR 17 I ?_;subst h;exact qN [.tmp 0];refine gR 24 I ?_;subst h;exact qN [.tmp 0];refine gR 28 I ?_;subst h;exact qN [.tmp 0];refine gR 32 I ?_;subst h;exact qN [.tmp 0]
noncomputable def ov (t:Tree):Bool:= @decide (Vld t) (Classical.propDecidable _)
theorem qo(t:Tree):ov t=true↔Vld t:=by simp[ov]
theorem Mi(t:Tree)(ht:tbulk t<=2000000):lV t (ov t):=by
 have no:¬Vld t->ov t=false:=λh=>by rw[Bool.eq_false_iff];exact λhv=>h<|(qo t).1 hv
 have hc:=cnt_bulk t;have h1:=Az t (by omega);cases hs:shapeK t with
 |false=>
  rw[hs]at h1;rw[no (λv=>by have :=v.shape;rw[hs]at this;cases this)];exact iA 0 _ _ (⟨_,h1,λ_=>rfl,λh=>by cases h⟩)
 | true=>
  rw[hs]at h1;have h2:=Lr t (by omega) hs;cases hl:leadedT t with
  |false=>
   rw[hl]at h2;rw[no (λv=>by have :=v.lead;rw[hl]at this;cases this)];exact iA 0 _ _ (⟨_,h1,λh=>(by cases h),λ_=>⟨_,h2,λ_=>rfl,λh=>by cases h⟩⟩)
  | true=>
   rw[hl]at h2;have h3:=NM t (by omega);cases hm:limK t with
   |false=>
    rw[hm]at h3;rw[no (λv=>by have :=v.lim;rw[hm]at this;cases this)];exact iA 0 _ _ (⟨_,h1,λh=>(by cases h),λ_=>⟨_,h2,λh=>(by cases h),λ_=>⟨_,h3,λ_=>rfl,λh=>by cases h⟩⟩⟩)
   | true=>
    rw[hm]at h3;have h4:=Oc t (by omega);by_cases h40:(depK t:Int)<=40
    ·have h5:=Rz t ht hs hl;have e:ov t=decide (((qE t).length:Int)<=4096):=by
      by_cases hz:((qE t).length:Int)<=4096
      ·rw[decide_eq_true hz];exact(qo t).2 ⟨hs,hl,hm,by omega,by omega⟩
      ·rw[decide_eq_false hz];exact no (λv=>by have :=v.size;omega)
     rw[e];exact iA 0 _ _ (⟨_,h1,λh=>(by cases h),λ_=>⟨_,h2,λh=>(by cases h),λ_=>⟨_,h3,λh=>(by cases h),λ_=>⟨_,h4,λh=>absurd h (by omega),λ_=>⟨_,h5,rfl⟩⟩⟩⟩⟩)
    ·rw[no (λv=>by have :=v.dep;omega)];exact iA 0 _ _ (⟨_,h1,λh=>(by cases h),λ_=>⟨_,h2,λh=>(by cases h),λ_=>⟨_,h3,λh=>(by cases h),λ_=>⟨_,h4,λ_=>rfl,λh=>absurd h<|by omega⟩⟩⟩⟩)
def Ah:List aj->Int->Int->ak
 |[],_,_=>⟨0,false,[],0⟩
 |c::r,i,f=>if c.Id=i∧c.Field=f then c.V_ else Ah r i f
theorem IU(l:List aj)(i f:Int)(hl:l.length<=1000000000):nr l i f (Ah l i f):=by
 have loop:∀k n,k+n=l.length->lz (k+1) l i f n (Ah (l.drop n) i f):=λk=>by
  induction k with
  |zero=>
   intro n hn;refine xw 0 _ _ _ _ _ (⟨λh=>by omega,λ_=>?_⟩);rw[List.drop_of_length_le<|by omega];rfl
  |succ k ih=>
   intro n hn;obtain⟨c,E⟩:∃c,l[n]?=some c:=⟨_,List.getElem?_eq_getElem (by omega)⟩;have :=ih (n+1) (by omega);rw[bV E,Ah];refine xw (k+1) _ _ _ _ _ (⟨λ_=>⟨c,E,λh1=>⟨λh2=>?_,λh2=>⟨by omega,?_⟩⟩,λh1=>⟨by omega,?_⟩⟩,λh=>by omega⟩)
   ·rw[if_pos ⟨h1,h2⟩]
   ·rw[if_neg λh=>h2 h.2];exact this
   ·rw[if_neg λh=>h1 h.1];exact this
 exact DQ _ _ _ _ _ (by simpa using loop l.length 0 (by omega))
def LX:YB:=[109,111,100,117,108,101,32,77,32,100,101,102,32,102,40,120,58,32,73,110,116,41,58,32,73,110,116,32,61,32,102,40,120,41]
def bN:Tree:=(Rl LX).1
end Go.Proofs.YtehhanlhfdoiaaaGreat
