/- Contracts of the functions that the law reaches, part 7. -/
import Derived.Test.YthnohcipianijaaGreatDoorTy6
set_option linter.unusedVariables false
set_option linter.unusedSimpArgs false
namespace Go.Proofs.YthnohcipianijaaGreatDoor
open _root_.Go.Proofs.Tryz
open Go.RowKit
def eM(R:YN)(l:List<|Nat×Ob):List (Nat×Ob):=l.filter λp=>ly p.1 R
def ung:Ob->Ob
 |.free=>.gone
 |o=>o
def fQ(nx:Nat)(R:YN)(l:List<|Nat×Ob):List (Nat×Ob):=(l.filter λp=>!ly p.1 R&&Nat.blt p.1 nx).map λp=>(p.1,ung p.2)
theorem wM{α:Type}{R:YN}:∀(l:List<|Nat×Ob) (c:List (Nat×Ob)->α),zD R l c=c (eM R l)
 |[],c=>rfl
 |(i,o)::r,c=>by
  simp only[zD];cases h:ly i R
  ·simp only;rw[wM r];simp[eM,h]
  ·simp only;rw[wM r];simp[eM,h]
theorem xh{α:Type}{nx:Nat}{R:YN}:∀(l:List<|Nat×Ob) (c:List (Nat×Ob)->α),xw nx R l c=c (fQ nx R l)
 |[],c=>rfl
 |(i,o)::r,c=>by
  simp only[xw];cases h:(!ly i R&&Nat.blt i nx)
  ·simp only;rw[xh r];simp only[fQ,List.filter_cons,h];rfl
  ·cases o<;>(simp only;rw[xh r];simp only[fQ,List.filter_cons,h];rfl)
theorem uE{R:YN}{i:Nat}:∀{l:List<|Nat×Ob},aE (eM R l) i=aE l i∨(ly i R=false∧aE (eM R l) i=.gone)
 |[]=>.inl rfl
 | (j, o)::r=>by
  by_cases hj:j=i
  ·subst hj;cases h:ly j R
   ·right;refine⟨I,?_⟩;have ih:=uE (R:=R) (i:=j) (l:=r);simp only[eM,List.filter_cons,h]at ih⊢;simp only[aaA,if_false];clear ih;have key:∀(l:List<|Nat×Ob),aE (l.filter λp=>ly p.1 R) j=.gone:=by
     intro l
     induction l with
     |nil=>rfl
     | cons q t ih=>
      obtain⟨k,o'⟩:=q;simp only[List.filter_cons];split
      ·rename_i hk;have :k≠j:=λe=>by subst e;simp[h]at hk
       simp only[aE,nbF this];exact ih
      ·exact ih
    exact key r
   ·left;simp only[eM,List.filter_cons,h,if_true,aE,nbT]
  ·have ih:=uE (R:=R) (i:=i) (l:=r);simp only[eM,List.filter_cons];split
   ·simp only[aE,nbF hj];exact ih
   ·simp only[aE,nbF hj];exact ih
variable{i:Nat}
theorem Dy{R:YN}(h:ly i R=false)(l:List<|Nat×Ob):aE (eM R l) i=.gone:=by
 induction l with
 |nil=>rfl
 | cons q t ih=>
  obtain⟨k,o'⟩:=q;simp only[eM,List.filter_cons];split
  ·rename_i hk;have :k≠i:=λe=>by subst e;simp[h]at hk
   simp only[aE,nbF this];exact ih
  ·exact ih
theorem Lq{nx:Nat}{R:YN}(l:List<|Nat×Ob):aE (fQ nx R l) i=if(!ly i R&&Nat.blt i nx)=true then ung (aE l i)else .gone:=by
 induction l with
 |nil=>simp[fQ,aE,ung]
 | cons q t ih=>
  obtain⟨k,o⟩:=q;by_cases hk:k=i
  ·subst hk;cases h:(!ly k R&&Nat.blt k nx)
   ·rw[h]at ih;simp only[fQ,List.filter_cons,h,aaA,if_false]at ih⊢;exact ih
   ·simp only[fQ,List.filter_cons,h,if_true,aan,aE,nbT]
  ·have e:aE ((k,o)::t) i=aE t i:=by simp only[aE,nbF hk]
   rw[e,<-ih];simp only[fQ,List.filter_cons];split
   ·simp only[aan,aE,nbF hk]
   ·rfl
variable{S:Nat->Prop}{x:Value}
variable{k:Nat}{xs:List Value}
section
variable{P:Program}{T:Tab}{K:Ctx}{Q:Exit->Act->World->Prop}{s:List EI}{n:Nat}{F:Fm}{H:Hp}
theorem Ht (lo:Nat) (H:Hp) (v:V):∃v' H',(∀(α:Type) (c:V->Hp->α),Jz lo H v c=c v' H')∧H'.nx=H.nx∧(∀K S w ρ x,HRel S w ρ H.get->Inv K S w ρ H.get->VRel S w ρ v x->∃S',HRel S' w ρ H'.get∧Inv K S' w ρ H'.get∧Up S S' w w ρ ρ∧VRel S' w ρ v' x):=by
 have triv:∃v' H',(∀(α:Type) (c:V->Hp->α),c v H=c v' H')∧H'.nx=H.nx∧(∀K S w ρ x,HRel S w ρ H.get->Inv K S w ρ H.get->VRel S w ρ v x->∃S',HRel S' w ρ H'.get∧Inv K S' w ρ H'.get∧Up S S' w w ρ ρ∧VRel S' w ρ v' x):=⟨v,H,λ_ _=>rfl,rfl,λK S w ρ x h1 h2 h3=>⟨S,h1,h2,Up.refl,h3⟩⟩;cases v with
 | sl id=>
  simp only[Jz];split
  ·split
   ·rename_i e sz els ho;split
    ·rename_i hpu;refine⟨.row sz els,⟨H.nx,sh id H.es⟩,λα c=>by rw[zh],I,λK S w ρ x hr hi hx=>?_⟩;have hg:(⟨H.nx,sh id H.es⟩:Hp).get=bQ H.get id .gone:=by
      funext i
      unfold Hp.get;by_cases hii:i=id
      ·subst hii;rw[bD];simp only[];have hlt:Nat.blt i H.nx=true:=by
        unfold Hp.get at ho;split at ho
        ·assumption
        ·cases ho
       rw[hlt];simp only[rP,if_true]
      ·rw[co _ _ hii];simp only[rP,if_neg hii]
     refine⟨_,by rw[hg];exact(fE hr).1,by rw[hg];exact hi.frz hr id,(fE hr).2,tm hr ho hpu hx⟩
    ·exact triv
   ·exact triv
  ·exact triv
 |_=>exact triv
theorem GO(lo:Nat):∀(vs:List V) (H:Hp),∃vs' H',(∀(α:Type) (c:List V->Hp->α),Kg lo H vs c=c vs' H')∧H'.nx=H.nx∧(∀K S w ρ xs,HRel S w ρ H.get->Inv K S w ρ H.get->LRel S w ρ vs xs->∃S',HRel S' w ρ H'.get∧Inv K S' w ρ H'.get∧Up S S' w w ρ ρ∧LRel S' w ρ vs' xs)
 |[],H=>⟨[],H,λ_ _=>rfl,rfl,λK S w ρ x h1 h2 O=>⟨S,h1,h2,Up.refl,O⟩⟩
 |v::r,H=>by
  obtain⟨Z,H1,e1,n1,k1⟩:=Ht lo H v;obtain⟨r',H2,e2,n2,k2⟩:=GO lo r H1;refine⟨Z::r',H2,λα c=>by simp only[Kg,e1,e2],n2.trans n1,λK S w ρ xs hr hi hx=>?_⟩;simp only[LRel]at hx;obtain⟨x,ys,rfl,h1,h2⟩:=hx;obtain⟨S1,a1,a2,G,a4⟩:=k1 K S w ρ x hr hi h1;obtain⟨S2,b1,b2,J,b4⟩:=k2 K S1 w ρ ys a1 a2<|h2.up G;exact⟨S2,b1,b2,⟨λb hb=>J.s b<|G.s b hb,λ_ _ _=>I,λ_ _ h=>h⟩,x,ys,I,a4.up J,b4⟩
theorem OJ(lo:Nat)(H:Hp)(v:V):∃G H',(∀(α:Type) (c:V->Hp->α),Mo lo H v c=c G H')∧H'.nx=H.nx∧(∀K S w ρ x,HRel S w ρ H.get->Inv K S w ρ H.get->VRel S w ρ v x->∃S',HRel S' w ρ H'.get∧Inv K S' w ρ H'.get∧Up S S' w w ρ ρ∧VRel S' w ρ G x):=by
 have J:=Ht lo H v;cases v
 case agg cs=>
  obtain⟨vs',H',e,O,k⟩:=GO lo cs H;refine⟨.agg vs',H',λα c=>by simp only[Mo,e],O,λK S w ρ x hr hi hx=>?_⟩;simp only[VRel]at hx;obtain⟨xs,rfl,h1⟩:=hx;obtain⟨S',a1,Z,a3,a4⟩:=k K S w ρ xs hr hi h1;exact⟨S',a1,Z,a3,by simp only[VRel];exact⟨xs,rfl,a4⟩⟩
 all_goals exact J
theorem Ck(lo:Nat):∀(vs:List V) (H:Hp),∃vs' H',(∀(α:Type) (c:List V->Hp->α),DT lo H vs c=c vs' H')∧H'.nx=H.nx∧(∀K S w ρ xs,HRel S w ρ H.get->Inv K S w ρ H.get->LRel S w ρ vs xs->∃S',HRel S' w ρ H'.get∧Inv K S' w ρ H'.get∧Up S S' w w ρ ρ∧LRel S' w ρ vs' xs)
 |[],H=>⟨[],H,λ_ _=>rfl,rfl,λK S w ρ x h1 h2 O=>⟨S,h1,h2,Up.refl,O⟩⟩
 |v::r,H=>by
  obtain⟨Z,H1,e1,n1,k1⟩:=OJ lo H v;obtain⟨r',H2,e2,n2,k2⟩:=Ck lo r H1;refine⟨Z::r',H2,λα c=>by simp only[DT,e1,e2],n2.trans n1,λK S w ρ xs hr hi hx=>?_⟩;simp only[LRel]at hx;obtain⟨x,ys,rfl,h1,h2⟩:=hx;obtain⟨S1,a1,a2,G,a4⟩:=k1 K S w ρ x hr hi h1;obtain⟨S2,b1,b2,J,b4⟩:=k2 K S1 w ρ ys a1 a2<|h2.up G;exact⟨S2,b1,b2,⟨λb hb=>J.s b<|G.s b hb,λ_ _ _=>I,λ_ _ h=>h⟩,x,ys,I,a4.up J,b4⟩
variable{all:Array Oper}{rest:List Oper}{o:Oper}{u:V}{H':Hp}
theorem PU{ok:Bool}(Z:bt F all o.guard=some true)(hx:oO P K o [] ok n F H u H')(k:Go P K Q (.ops all rest) s n (F.seto o.dst<|some u) H'):Go P K Q (.ops all<|o::rest) s n F H:=λS w ρ a hr hi G=>by
 show wpList P all (ea P Q s) (o::rest) a w;unfold wpList;rw[if_pos<|cj G Z];exact .inl<|hx S w ρ a hr hi G _ _ λx S' w' ρ' J O hu _ _ hv=>k S' w' ρ' _ J O<|cP (G.up hu) o.dst hv
variable{L:YN}{m left i:Nat}{listed:Array Bool}
theorem RJ(G:Region.ready .any all listed=[i])(hi:all[i]?=some o)(hw:bt F all o.guard=some true)(hx:oO P K o L ((listed.setIfInBounds i true).getD m false) n F H u H')(k:Go P K Q (.drw all L m left<|listed.setIfInBounds i true) s n (F.seto o.dst<|some u) H'):Go P K Q (.drw all L m (left+1) listed) s n F H:=λS w ρ a hr J O hs=>by
 refine pC (S:=S) G ?_;unfold wpOp;simp only[hi];rw[if_pos<|cj O hw];exact .inl<|hx S w ρ a hr J O _ _ λx S' w' ρ' Z hi' hu hA hL hv=>kB hu hA hL<|k S' w' ρ' _ Z hi' (cP (O.up hu) o.dst hv) hs
def lX(P:Program)(K:Ctx)(Q:Exit->Act->World->Prop)(n:Nat):Rs->Prop
 |.ok e F H=>∀S w ρ a,HRel S w ρ H.get->Inv K S w ρ H.get->FRel S w ρ a n F->Q (match e with|true=>.ret|false=>.normal) a w
 |.pt p s F H=>Go P K Q p s n F H
 |.er _ _=>False
variable{ih:EP->List EI->Fm->Hp->Rs}
theorem Hd{w:World}{ρ:Nat->Option Value}:∀{rs:List V},VRel S w ρ (oU rs) x->∃ys,LRel S w ρ rs ys∧x=yn ys
 |[],G=>by simp only[oU,VRel]at G;obtain⟨ys,rfl,h1⟩:=G;exact⟨ys,h1,by simp only[LRel]at h1;subst h1;rfl⟩
 |[v],G=>⟨[x],⟨x,[],rfl,G,rfl⟩,rfl⟩
 |v::u::r,G=>by simp only[oU,VRel]at G;obtain⟨ys,rfl,h1⟩:=G;refine⟨ys,h1,?_⟩;simp only[LRel]at h1;obtain⟨_,_,rfl,_,_,_,rfl,_⟩:=h1;rfl
theorem Ns (hT:TabOk P T) (IH:∀p s F H K Q n,lX P K Q n (ih p s F H)->Go P K Q p s n F H) {X:Rs->Prop} (hX:∀n m,¬X (.er n m)) {keep ok:Bool} {vs:List V} {fid:FuncId} {fn:Func} {b:Code} {c:V->Hp->Rs} (hf:P.funcs[fid]?=some fn) (hb:fn.body=some b) (hl:Nat.ble vs.length fn.ntmps=true)
  (h:X<|Kb T ih keep vs fn b H L ok c):∃u H' L',(L'=L∨ok=true)∧CallR P K fid vs H L' (λu' H''=>u'=u∧H''=H')∧X (c u H'):=by
 unfold Kb at h;simp only[]at h;generalize hR:sr H 40 (xf vs []) []=R at h;split at h
 ·rename_i hok;rw[wM]at h;split at h
  ·rename_i e F1 H1 hrun;split at h
   ·rename_i rs hres;split at h
    ·rename_i hnx;have hnx':H.nx<=H1.nx:=Nat.le_of_ble_eq_true hnx;have hin:∀i,(⟨H.nx,eM R H.es⟩:Hp).get i=H.get i∨(⟨H.nx,eM R H.es⟩:Hp).get i=.gone:=λi=>by
      unfold Hp.get;simp only[];split
      ·rcases uE (R:=R) (i:=i) (l:=H.es)with e|⟨_,e⟩
       ·exact .inl e
       ·exact .inr e
      ·exact .inl I
     have hout:∀i,ly i R=false->Nat.blt i H.nx=true->(⟨H.nx,eM R H.es⟩:Hp).get i=.gone:=λi hi hlt=>by unfold Hp.get;simp only[hlt];exact Dy hi _
     have key:∀(H2:Hp) (es3:List<|Nat×Ob),H2.nx=H1.nx->(∀i,aE es3 i=aE H2.es i∨aE es3 i=.gone)->∀i,((⟨H2.nx,es3++fQ H.nx R H.es⟩:Hp).get i=H2.get i∨(⟨H2.nx,es3++fQ H.nx R H.es⟩:Hp).get i=.gone)∨((⟨H2.nx,es3++fQ H.nx R H.es⟩:Hp).get i=H.get i∧(⟨H.nx,eM R H.es⟩:Hp).get i=.gone∧H.get i≠.free):=λH2 es3 hn h3 i=>by
      by_cases hlt2:Nat.blt i H2.nx=true
      ·have e0:(⟨H2.nx,es3++fQ H.nx R H.es⟩:Hp).get i=aE (es3++fQ H.nx R H.es) i:=by unfold Hp.get;simp only[hlt2]
       have e2:H2.get i=aE H2.es i:=by unfold Hp.get;rw[hlt2]
       rw[e0,e2];rcases FZ es3 (fQ H.nx R H.es) i with e|⟨e',e⟩
       ·rw[e];rcases h3 i with h3|h3
        ·exact .inl<|.inl h3
        ·exact .inl<|.inr h3
       ·rw[e];rw[Lq];cases hm:(!ly i R&&Nat.blt i H.nx)
        ·exact .inl (.inr<|by simp)
        ·have hm':=hm;simp only[aaa,Bool.not_eq_true']at hm';have eH:H.get i=aE H.es i:=by unfold Hp.get;rw[hm'.2]
         rw[if_pos rfl];cases hf:aE H.es i
         case free=>exact .inl<|.inr rfl
         all_goals exact .inr ⟨by rw[eH,hf];rfl,hout i hm'.1 hm'.2,by rw[eH,hf];simp⟩
      ·have e0:(⟨H2.nx,es3++fQ H.nx R H.es⟩:Hp).get i=.free:=by
        unfold Hp.get;simp only[Bool.not_eq_true]at hlt2;simp only[hlt2]
       have e2:H2.get i=.free:=by unfold Hp.get;simp only[Bool.not_eq_true]at hlt2;rw[hlt2]
       exact .inl (.inl<|by rw[e0,e2])
     have fin:∀(H2:Hp) (es3:List<|Nat×Ob) (rs2:List V),H2.nx=H1.nx->(∀i,aE es3 i=aE H2.es i∨aE es3 i=.gone)->
       (∀K S w ρ xs,HRel S w ρ H1.get->Inv K S w ρ H1.get->LRel S w ρ rs xs->∃S',HRel S' w ρ H2.get∧Inv K S' w ρ H2.get∧Up S S' w w ρ ρ∧LRel S' w ρ rs2 xs)->
       ∃L',(L'=L∨ok=true)∧CallR P K fid vs H L' (λu' H''=>u'=oU rs2∧H''=⟨H2.nx,es3++fQ H.nx R H.es⟩):=λH2 es3 rs2 hn h3 hfz=>by
      have main:∀L',(∀(S:Nat->Prop) (w:World) (ρ:Nat->Option Value),HRel S w ρ H.get->L'=[]∨(db H.get L'=true∧∀id,id∈L'->(⟨H.nx,eM R H.es⟩:Hp).get id=.gone))->CallR P K fid vs H L' (λu' H''=>u'=oU rs2∧H''=⟨H2.nx,es3++fQ H.nx R H.es⟩):=λL' hL' S w ρ xs hr hi hx=>by
       have hr1:=hr.drop (h':=(⟨H.nx,eM R H.es⟩:Hp).get) hin;have hi1:Inv ⟨w,S,λb=>∃id,own ρ id ((⟨H.nx,eM R H.es⟩:Hp).get id) b,ρ⟩ S w ρ (⟨H.nx,eM R H.es⟩:Hp).get:=⟨ChgP.refl _ _,λ_ h=>h,λ_ h=>.inl h,λid b hb=>.inl ⟨id,hb⟩,λ_ _ h=>h⟩;refine Az hf hb hl hr1 hi1 hx<|IH _ _ _ _ _ _ _ ?_;rw[hrun];intro S' w' ρ' a' hr' hi' hF';obtain⟨rl,hrl⟩:∃l:List ResultVar,fn.results=l.toArray:=⟨fn.results.toList,by simp⟩;rw[hrl]at hres;refine ret_go hT (rs:=rl) (by cases e<;>simp) hrl hr' hF' (by simpa using hres) λx hvx=>?_;have hLR:=Hd hvx;obtain⟨ys,hys,rfl⟩:=hLR;obtain⟨S2,a1,a2,a3,a4⟩:=hfz _ S' w' ρ' ys hr' hi' hys;obtain⟨m1,m2,m3,m4⟩:=Fb (h1:=(⟨H.nx,eM R H.es⟩:Hp).get) (h2:=(⟨H2.nx,es3++fQ H.nx R H.es⟩:Hp).get) hr hi hin a1 a2<|key H2 es3 hn h3;refine⟨_,S2,ρ',_,_,I,⟨I,I⟩,m1,m2,m3,Hy a4,?_⟩;rcases hL' S w ρ hr with rfl|⟨g1,g2⟩
       ·intro id hid;simp at hid
       ·exact m4 L' g1 g2
      rcases zt hok with hok|hok
      ·simp only[aaa]at hok;refine⟨L,.inl I,main L λS w ρ hr=>.inr ⟨hok.1,λid hid=>?_⟩⟩;have hmem:=List.all_eq_true.1 hok.2 id hid;simp only[Bool.not_eq_true']at hmem;by_cases hlt:Nat.blt id H.nx=true
       ·exact hout id hmem hlt
       ·exfalso;have hfree:H.get id=.free:=by unfold Hp.get;simp only[Bool.not_eq_true]at hlt;rw[hlt]
        have hnl:∀(l:YN),id∈l->db H.get l=true->False:=by
         intro l
         induction l with
         |nil=>intro h;simp at h
         | cons j t ih=>
          intro hm hl;simp only[db]at hl;rcases List.mem_cons.1 hm with e|e
          ·subst e;rw[hfree]at hl;cases hl
          ·split at hl
           ·exact ih e hl
           ·exact ih e hl
           ·cases hl
        exact hnl L hid hok.1
      ·exact⟨[],.inr hok,main [] λ_ _ _ _=>.inl I⟩
     split at h
     ·rw[xh]at h;obtain⟨L',g1,g2⟩:=fin H1 H1.es rs rfl (λi=>.inl rfl) λK S w ρ xs h1 h2 h3=>⟨S,h1,h2,Up.refl,h3⟩;exact⟨_,_,L',g1,g2,h⟩
     ·obtain⟨rs2,H2,e1,e2,e3⟩:=Ck H.nx rs H1;rw[e1]at h;rw[wM,xh]at h;obtain⟨L',g1,g2⟩:=fin H2 (eM _ H2.es) rs2 e2 (λi=>by
       rcases uE (R:=sr H2 60 (xf rs2 R) []) (i:=i) (l:=H2.es)with e|⟨_,e⟩
       ·exact .inl e
       ·exact .inr e) e3
      exact⟨_,_,L',g1,g2,h⟩
    ·exact absurd h<|hX _ _
   ·exact absurd h<|hX _ _
  ·exact absurd h<|hX _ _
  ·exact absurd h<|hX _ _
 ·exact absurd h<|hX _ _
theorem tD (hT:TabOk P T) (IH:∀p s F H K Q n,lX P K Q n (ih p s F H)->Go P K Q p s n F H) {X:Rs->Prop} (hX:∀n m,¬X (.er n m)) {ok:Bool} {c:Option V->Hp->Rs} (h:X<|xo T ih F H L ok o c):∃u H',oO P K o L ok n F H u H'∧X (c (some u) H'):=by
 unfold xo at h;split at h
 ·rename_i v hv;exact⟨v,H,Ll hT hv,h⟩
 ·rw [dY]at h;split at h
  ·rename_i v ed hv;split at h
   ·rename_i hc;rw[Hp.ap_eq]at h;refine⟨_,_,aG hT hv hc,?_⟩;cases v with
    |none=>exact h
    |some v=>exact h
   ·exact absurd h<|hX _ _
  ·split at h
   ·rename_i fid args tys hop;split at h
    ·rename_i vs hvs;split at h
     ·rename_i v hn;obtain⟨he,hnat⟩:=hT.nat _ _ _ hn;refine⟨v,H,cb (L':=L) he (by rw[hop]) hvs (λS w ρ xs hr hi hx=>?_)<|.inl I,h⟩;obtain⟨x,h1,h2⟩:=hnat S w ρ xs hx;refine h2.mono λe w' hR=>?_;obtain⟨rfl,rfl⟩:=hR;exact⟨x,S,ρ,v,H,I,⟨I,I⟩,hr,hi,Up.refl,h1,rH⟩
     ·split at h
      ·rename_i fn hfn;obtain⟨hf,he⟩:=hT.fn _ _ hfn;split at h
       ·rename_i b hb;split at h
        ·rename_i hl;obtain⟨u,H',L',g1,g2,g3⟩:=Ns (K:=K) hT IH hX hf hb hl h;exact⟨u,H',cb he (by rw[hop]) hvs g2 g1,g3⟩
        ·exact absurd h<|hX _ _
       ·exact absurd h<|hX _ _
      ·exact absurd h<|hX _ _
    ·exact absurd h<|hX _ _
   ·exact absurd h<|hX _ _
theorem LL{l:YN}{j:Nat}(h:Gb l j=true):l=[j]:=by
 unfold Gb at h;split at h
 ·rw[aag h]
 ·cases h
theorem Ei (hT:TabOk P T) (IH:∀p s F H K Q n,lX P K Q n (ih p s F H)->Go P K Q p s n F H) {i:Nat} {ps:List<|Nat×Operand} {vs:List<|Nat×V} {v:V} (hp:va T all i vs=some (o,ps,v)):∀(left:Nat) (listed:Array Bool) (F:Fm) (H:Hp),lX P K Q n (DG T ih all L m i o ps v s left listed F H)->GoP P K Q all L m left listed s n F H i o ps vs v
 | left, listed,F,H,h=>by
  unfold DG at h;split at h
  ·rename_i hl;split at h
   ·rename_i x hrd;split at h
    ·rename_i hb;have :=aag hb;subst this;rw[Fm.puto_eq]at h;exact Pd hT hp hrd hl<|IH _ _ _ _ _ _ _ h
    ·exact h.elim
   ·rename_i x y hrd;cases left with
    |zero=>exact h.elim
    | succ left=>
     simp only[dY]at h;generalize hj:IK x y i=j at h;unfold IK at hj;split at h
     ·exact h.elim
     ·rename_i hji;have hne:j≠i:=Nat.ne_of_beq_eq_false hji;split at h
      ·rename_i oj hoj;split at h
       ·rename_i hc;simp only[aaa]at hc;obtain⟨⟨⟨hc1,hc2⟩,hc3⟩,hc4⟩:=hc;split at h
        ·rename_i hw;obtain⟨u,H',hx,hk⟩:=tD (K:=K) (n:=n) hT IH (X:=lX P K Q n) (λ_ _ h=>h) h;rw[Fm.puto_eq]at hk;have ih2:=Ei hT IH hp left _ _ _ hk;have hpair:(match Region.ready .any all listed with|[x,y]=>(Nat.beq x i&&Nat.beq y j)||(Nat.beq x j&&Nat.beq y i)|_=>false)=true:=by
          rw[hrd];simp only[];cases hx1:Nat.beq x i
          ·rw[hx1]at hj;cases hy1:Nat.beq y i
           ·rw[hy1]at hj;exact absurd hj.symm hne
           ·rw[hy1]at hj;simp only at hj;subst hj;simp
          ·rw[hx1]at hj;simp only at hj;subst hj;simp
         refine Mv hT hp hoj hpair (LL hc1) hl (λt ht=>?_) hc2 hc3 (Array.setIfInBounds_comm _ _<|Ne.symm hne) (Post:=λu' H''=>u'=u∧H''=H') (λS w ρ a hr hi hF K2 hK2=>?_) (λu' H'' hP=>by obtain⟨rfl,rfl⟩:=hP;exact ih2)
         ·rw[ht]at hc4;simp only[Option.isNone_iff_eq_none]at hc4;exact hc4
         ·unfold wpOp;simp only[hoj];rw[if_pos<|cj hF hw];refine .inl<|hx S w ρ a hr hi hF _ _ λx S' w' ρ' hr' hi' hu hA hL hv=>hK2 x S' w' ρ' u H' ⟨I,I⟩ hr' hi' hu hA (hL.imp id λh=>?_) hv;simpa only[aaa]using h
        ·exact h.elim
       ·exact h.elim
      ·exact h.elim
   ·exact h.elim
  ·exact h.elim
theorem Pp (hT:TabOk P T) (IH:∀p s F H K Q n,lX P K Q n (ih p s F H)->Go P K Q p s n F H) {i j:Nat} {left:Nat} {listed:Array Bool} (hrd:Region.ready .any all listed=[i,j]) (h:lX P K Q n<|MW T ih all L m left i j listed s F H):Go P K Q (.drw all L m (left+1) listed) s n F H:=by
 unfold MW at h;split at h
 ·rename_i oi hoi;split at h
  ·rename_i oj hoj;split at h
   ·rename_i hwi;split at h
    ·rename_i hwj;obtain⟨ui,Hi,xi,hk⟩:=tD (K:=K) (n:=n) hT IH (X:=lX P K Q n) (λ_ _ h=>h) h;rw[Fm.puto_eq]at hk;split at hk
     ·rename_i F1 H1 e1;obtain⟨uj,Hj,xj,hk2⟩:=tD (K:=K) (n:=n) hT IH (X:=lX P K Q n) (λ_ _ h=>h) hk;rw[Fm.puto_eq]at hk2;split at hk2
      ·rename_i F2 H2 e2;split at hk2
       ·rename_i hal;have c:Go P K Q (.ex .normal) s n F1 H1:=IH _ _ _ _ _ _ _ hk2;intro S w ρ a hr hi hF;have hpin:∀id x,K.pin id=some x->id<H.nx:=λid x hx=>Decidable.byContradiction λhn=>by
         have h1:=hi.pin id x hx;have h2:=hr.ob id;have h3:H.get id=.free:=by
          unfold Hp.get;have :Nat.blt id H.nx=false:=by
           cases hb:Nat.blt id H.nx
           ·rfl
           ·exact absurd (by simpa[Nat.blt_eq]using hb) hn
          simp only[this]
         rw[h3]at h2;have h4:ρ id=none:=h2;rw[h4]at h1;cases h1
        have g1:Go P K (ea P Q s) (.drw all L m left<|listed.setIfInBounds i true) [] n (F.seto oi.dst<|some ui) Hi:=IH _ _ _ _ _ _ _ (by rw[e1];exact λS w ρ a hr hi hF=>c S w ρ a hr hi hF);have g2:Go P K (ea P Q s) (.drw all L m left<|listed.setIfInBounds j true) [] n (F.seto oj.dst<|some uj) Hj:=IH _ _ _ _ _ _ _ (by rw[e2];exact λS w ρ a hr hi hF=>go_alike hal hpin c S w ρ a hr hi hF);exact bf (by rw[hrd];simp) hoi hoj hwi hwj xi xj g1 g2 S w ρ a hr hi hF
       ·exact hk2.elim
      ·exact hk2.elim
      ·exact hk2.elim
     ·exact hk.elim
     ·exact hk.elim
    ·exact h.elim
   ·exact h.elim
  ·exact h.elim
 ·exact h.elim
theorem uS:∀{R:YN} {i:Nat} {ps:List<|Nat×Operand} {v:V},we T F all R=some (i,o,ps,v)->∃vs,ov F ps=some vs∧va T all i vs=some (o,ps,v)
 |[],_,_,_,h=>by cases h
 | j ::r,i,ps,v,h=>by
  unfold we at h;split at h
  ·rename_i hj;split at h
   ·rename_i vs hvs;split at h
    ·rename_i o' ps' v' hpb;simp only[aad,Prod.mk.injEq]at h;obtain⟨rfl,rfl,rfl,rfl⟩:=h;refine⟨vs,?_,hpb⟩;have :=hpb;unfold va at this;rw[hj]at this;simp only at this
     repeat' (split at this)
     all_goals first
      |(cases this;done)
      |(simp only[dY,aad,Prod.mk.injEq]at this;obtain⟨_,rfl,_⟩:=this;exact hvs)
    ·exact uS h
   ·exact uS h
  ·exact uS h
theorem Pa (hT:TabOk P T) (hm:P.follows .mixedOrders=true) (IH:∀p s F H K Q n,lX P K Q n (ih p s F H)->Go P K Q p s n F H):∀(p:EP) (s:List EI) (F:Fm) (H:Hp),lX P K Q n (Kk T ih p s F H)->Go P K Q p s n F H
 | .code c,s,F,H,h=>by
  replace h:lX P K Q n (In T ih c s F H):=h;unfold In at h;split at h
  ·exact Lp<|IH _ _ _ _ _ _ _ h
  ·exact EM<|IH _ _ _ _ _ _ _ h
  ·exact Ha<|IH _ _ _ _ _ _ _ h
  ·exact go_ret<|IH _ _ _ _ _ _ _ h
  ·exact Hw<|IH _ _ _ _ _ _ _ h
  ·exact MG<|IH _ _ _ _ _ _ _ h
  ·exact Mk<|IH _ _ _ _ _ _ _ h
  ·exact go_loop 1000000 (IH _ _ _ _ _ _ _ h)
  ·split at h
   ·exact DS ‹_› (IH _ _ _ _ _ _ _ h)
   ·exact DX ‹_› (IH _ _ _ _ _ _ _ h)
   ·exact h.elim
  ·exact Cy<|IH _ _ _ _ _ _ _ h
  ·split at h
   ·rename_i hs;simp only[dl,dY]at h;exact HB _ _ _ rfl hm hs<|IH _ _ _ _ _ _ _ h
   ·exact h.elim
  ·exact h.elim
 | .ops all rest,s,F,H,h=>by
  replace h:lX P K Q n (DW T ih all rest s F H):=h;unfold DW at h;split at h
  ·exact Kq<|IH _ _ _ _ _ _ _ h
  ·split at h
   ·rw[Fm.puto_eq]at h;exact KO ‹_› (IH _ _ _ _ _ _ _ h)
   ·obtain⟨u,H',hx,hk⟩:=tD (K:=K) (n:=n) hT IH (X:=lX P K Q n) (λ_ _ h=>h) h;rw[Fm.puto_eq]at hk;exact PU ‹_› hx (IH _ _ _ _ _ _ _ hk)
   ·exact h.elim
 | .ex e,s,F,H,h=>by
  replace h:lX P K Q n (JV ih e s F H):=h;unfold JV at h;split at h
  ·split at h
   ·exact λS w ρ a hr hi hF=>h S w ρ a hr hi hF
   ·exact λS w ρ a hr hi hF=>h S w ρ a hr hi hF
   ·exact h.elim
  ·split at h
   ·exact GM<|IH _ _ _ _ _ _ _ h
   ·exact FM<|IH _ _ _ _ _ _ _ h
   ·exact En<|IH _ _ _ _ _ _ _ h
   ·exact h.elim
  ·split at h
   ·split at h
    ·exact h.elim
    ·exact go_xloop<|IH _ _ _ _ _ _ _ h
   ·exact go_xloopE<|IH _ _ _ _ _ _ _ h
   ·exact go_xloopR<|IH _ _ _ _ _ _ _ h
   ·exact h.elim
  ·split at h
   ·exact MI<|IH _ _ _ _ _ _ _ h
   ·exact Nc<|IH _ _ _ _ _ _ _ h
   ·exact MF<|IH _ _ _ _ _ _ _ h
   ·exact h.elim
  ·split at h
   ·exact EU<|IH _ _ _ _ _ _ _ h
   ·split at h
    ·exact Fa ‹_› (IH _ _ _ _ _ _ _ h)
    ·exact Er ‹_› (IH _ _ _ _ _ _ _ h)
   ·exact EX<|IH _ _ _ _ _ _ _ h
   ·exact h.elim
 | .drw all L m left listed,s,F,H,h=>by
  replace h:lX P K Q n (IL T ih all L m left listed s F H):=h;unfold IL at h;split at h
  ·exact FH ‹_› (IH _ _ _ _ _ _ _ h)
  ·rename_i i R hrd;cases left with
   |zero=>exact h.elim
   | succ left=>
    simp only[]at h;split at h
    ·split at h
     ·rename_i o ho;split at h
      ·rw[Fm.puto_eq]at h;exact go_d1S hrd ho ‹_› (IH _ _ _ _ _ _ _ h)
      ·obtain⟨u,H',hx,hk⟩:=tD (K:=K) (n:=n) hT IH (X:=lX P K Q n) (λ_ _ h=>h) h;rw[Fm.puto_eq]at hk;exact RJ hrd ho ‹_› hx (IH _ _ _ _ _ _ _ hk)
      ·exact h.elim
     ·exact h.elim
    ·split at h
     ·split at h
      ·rename_i o ho;split at h
       ·rename_i hc;simp only[aaa,Bool.not_eq_true']at hc;obtain⟨⟨hc1,hc2⟩,hc3⟩:=hc;split at h
        ·rw[Fm.puto_eq]at h;exact IS hc3 ho hc2 hc1 ‹_› (IH _ _ _ _ _ _ _ h)
        ·rename_i hw;split at h
         ·rename_i v hv;rw[Fm.puto_eq]at h;exact NP hT hc3 ho hc2 hc1 hw hv<|IH _ _ _ _ _ _ _ h
         ·split at h
          ·rename_i id hid;split at h
           ·rename_i hL;simp only[aaa,Bool.not_eq_true']at hL;obtain⟨⟨hL1,hL2⟩,hL3⟩:=hL;split at h
            ·rename_i v ed hv;rw[Fm.puto_eq]at h;exact Js hT hc3 hL2 hL3 ho hc2 hc1 hw hid hL1 hv<|IH _ _ _ _ _ _ _ h
            ·exact h.elim
           ·exact h.elim
          ·exact h.elim
        ·exact h.elim
       ·exact h.elim
      ·exact h.elim
     ·split at h
      ·rename_i i' o ps v hpo;rw[Fm.puto_eq]at h;obtain⟨vs,g1,g2⟩:=uS hpo;exact Ky g1<|Ei hT IH g2 left listed _ _ h
      ·split at h
       ·exact Pp hT IH hrd h
       ·exact h.elim
theorem LY(G:TabOk P T)(J:P.follows .mixedOrders=true):∀(k:Nat) (p:EP) (s:List EI) (F:Fm) (H:Hp) (K:Ctx) (Q:Exit->Act->World->Prop) (n:Nat),lX P K Q n (run T k p s F H)->Go P K Q p s n F H
 |0,p,s,F,H,K,Q,n,h=>h
 |k+1,p,s,F,H,K,Q,n,h=>Pa G J (λp s F H K Q n h=>LY G J k p s F H K Q n h) p s F H h
def MP (T:Tab) (k:Nat) (fid:FuncId) (vs:List V) (H:Hp):Option (List V×Hp):=match T.fn fid with
 |some fn=>match fn.body with
  |some b=>match Nat.ble vs.length fn.ntmps with
   |true=>match run T k (.code b) [] (nL fn.ntmps vs) H with
    |.ok _ F1 H1=>match tX T H1.get F1 fn.results.toList with
     |some rs=>some (rs,H1)
     |none=>none
    |_=>none
   |false=>none
  |none=>none
 |none=>none
theorem PH(hT:TabOk P T)(hm:P.follows .mixedOrders=true){fid:FuncId}{vs rs:List V}{H H1:Hp}(h:MP T k fid vs H=some (rs,H1)){w:World}{ρ:Nat->Option Value}(hr:HRel S w ρ H.get)(hx:LRel S w ρ vs xs):cZ P fid=true∧
  Calls P fid xs.toArray w λe w'=>∃S' ρ' ys,e=.returned (yn ys)∧HRel S' w' ρ' H1.get∧Inv ⟨w,S,λb=>∃id,own ρ id (H.get id) b,ρ⟩ S' w' ρ' H1.get∧LRel S' w' ρ' rs ys:=by
 unfold MP at h;split at h
 ·rename_i fn hfn;obtain⟨hf,he⟩:=hT.fn _ _ hfn;split at h
  ·rename_i b hb;split at h
   ·rename_i hl;split at h
    ·rename_i e F1 H1' J;split at h
     ·rename_i rs' G;simp only[aad,Prod.mk.injEq]at h;obtain⟨rfl,rfl⟩:=h;refine⟨he,?_⟩;have hi1:Inv ⟨w,S,λb=>∃id,own ρ id (H.get id) b,ρ⟩ S w ρ H.get:=⟨ChgP.refl _ _,λ_ h=>h,λ_ h=>.inl h,λid b hb=>.inl ⟨id,hb⟩,λ_ _ h=>h⟩;refine Az hf hb hl hr hi1 hx<|LY hT hm k _ _ _ _ _ _ _ ?_;rw[J];intro S' w' ρ' a' O hi' hF';obtain⟨rl,Z⟩:∃l:List ResultVar,fn.results=l.toArray:=⟨fn.results.toList,by simp⟩;rw[Z]at G;refine ret_go hT (rs:=rl) (by cases e<;>simp) Z O hF' (by simpa using G) λx hvx=>?_;have hLR:=Hd hvx;obtain⟨ys,hys,rfl⟩:=hLR;exact⟨S',ρ',ys,I,O,hi',hys⟩
     ·cases h
    ·cases h
   ·cases h
  ·cases h
 ·cases h
end
open Go.RowKit Lx Sx
set_option maxRecDepth 100000
def DJ:List YB->List V->Bool
 |[],[]=>true
 |s::r,.str l::q=>lEq s l&&DJ r q
 |_,_=>false
def ES(ls:List YB):V->Bool
 |.nils=>ls.isEmpty
 |.row sz els=>Nat.beq sz 1&&DJ ls els
 |_=>false
mutual
def treeB:Tree->V->Bool
 |.node k s ls ks,v=>match v with
  |.agg [.int .i64 k',.str s',l,r]=>iEq k k'&&lEq s s'&&ES ls l&&(match r with
   |.nils=>ks.isEmpty
   |.row sz els=>Nat.beq sz 4&&kidsB ks els
   |_=>false)
  |_=>false
def kidsB:YT->List V->Bool
 |[],vs=>match vs with
  |[]=>true
  |_=>false
 |t::r,vs=>match vs with
  |v::q=>treeB t v&&kidsB r q
  |[]=>false
end
section
variable{S:Nat->Prop}{w:World}
theorem Gc{ρ:Nat->Option Value}:∀{ls:List YB} {els:List V} {xs:List Value},DJ ls els=true->CRel S w ρ 1 els xs->els.length=ls.length∧xs=ls.map sM
 |[],[],xs,_,G=>by simp only[CRel]at G;subst G;exact⟨rfl,rfl⟩
 |s::r,v::q,xs,hb,G=>by
  cases v<;>simp only[DJ]at hb<;>first|(cases hb;done)|skip
  rename_i l;simp only[aaa]at hb;have J:=hb.1;rw[wi]at J;simp only[aap]at J;subst J;simp only[CRel]at G;obtain⟨x,ys,rfl,_,O,Z⟩:=G;simp only[VRel]at O;subst O;obtain⟨h5,h6⟩:=Gc hb.2 Z;exact⟨by simp[h5],by simp[h6,Value.cells]⟩
 |[],_::_,_,hb,_=>by cases hb
 |_::_,[],_,hb,_=>by cases hb
theorem LV{ρ:Nat->Option Value}{ls:List YB}{v:V}(hb:ES ls v=true)(hx:VRel S w ρ v x):∃A m,x=.slice A ls.length m∧ls.length<=m∧m<=maxLen∧RowIn S w 1 A ls.length (ls.map sM):=by
 cases v<;>simp only[ES]at hb<;>first|(cases hb;done)|skip
 ·simp only[List.isEmpty_iff]at hb;subst hb;simp only[VRel]at hx;subst hx;exact⟨none,0,rfl,aaf _,by decide,RowIn.none_⟩
 ·rename_i sz els;simp only[aaa,Nat.beq_eq]at hb;obtain⟨rfl,hb⟩:=hb;simp only[VRel]at hx;obtain⟨A,c,xs,rfl,G,O,Z,J⟩:=hx;obtain⟨h7,rfl⟩:=Gc hb Z;rw[h7]at G J⊢;exact⟨A,c,I,G,O,J⟩
mutual
theorem treeB_ok{ρ:Nat->Option Value}:∀{t:Tree} {v:V} {x:Value},treeB t v=true->VRel S w ρ v x->∃c,x=.agg c.toArray∧TreeIs S w t c
 | .node k s ls ks,v,x,hb,hx=>by
  unfold treeB at hb;split at hb
  ·rename_i k' s' l r;simp only[aaa]at hb;obtain⟨⟨⟨hb1,hb2⟩,hb3⟩,hb4⟩:=hb;rw[yO]at hb1;rw[wi]at hb2;simp only[aap]at hb1 hb2;subst hb1 hb2;simp only[VRel]at hx;obtain⟨xs,rfl,hl⟩:=hx;simp only[LRel]at hl;obtain⟨x0,_,rfl,h0,x1,_,rfl,h1,x2,_,rfl,h2,x3,_,rfl,h3,rfl⟩:=hl;simp only[VRel]at h0 h1;subst h0 h1;obtain⟨A,m,rfl,g1,g2,g3⟩:=LV hb3 h2;have kk:∃B n,x3=.slice B ks.length n∧ks.length<=n∧n<=maxLen∧∃cs,KidsAre S w ks cs∧RowIn S w 4 B ks.length cs:=by
    split at hb4
    ·simp only[List.isEmpty_iff]at hb4;subst hb4;simp only[VRel]at h3;subst h3;exact⟨none,0,rfl,aaf _,by decide,[],by simp only[KidsAre],RowIn.none_⟩
    ·rename_i sz els;simp only[aaa,Nat.beq_eq]at hb4;obtain⟨rfl,hb4⟩:=hb4;simp only[VRel]at h3;obtain⟨B,c,ys,rfl,q3,q4,q5,q6⟩:=h3;obtain⟨q7,q8⟩:=kidsB_ok hb4 q5;rw[q7]at q3 q6⊢;exact⟨B,c,rfl,q3,q4,ys,q8,q6⟩
    ·cases hb4
   obtain⟨B,n,rfl,k1,k2,cs,k3,k4⟩:=kk;exact⟨_,rfl,Ov g1 g2 k1 k2 g3 k3 k4⟩
  ·cases hb
theorem kidsB_ok{ρ:Nat->Option Value}:∀{ts:YT} {vs:List V} {xs:List Value},kidsB ts vs=true->CRel S w ρ 4 vs xs->vs.length=ts.length∧KidsAre S w ts xs
 |[],vs,xs,hb,hc=>by
  unfold kidsB at hb;split at hb
  ·simp only[CRel]at hc;subst hc;exact⟨rfl,by simp only[KidsAre]⟩
  ·cases hb
 | t::r,vs,xs,hb,hc=>by
  unfold kidsB at hb;split at hb
  ·rename_i v q;simp only[aaa]at hb;simp only[CRel]at hc;obtain⟨x,ys,rfl,_,h3,h4⟩:=hc;obtain⟨c,rfl,hT⟩:=treeB_ok hb.1 h3;obtain⟨h5,h6⟩:=kidsB_ok hb.2 h4;exact⟨by simp[h5],by simp only[KidsAre];exact⟨c,ys,by simp[Value.cells],hT,h6⟩⟩
  ·cases hb
end
end
def Eu(T:Tab)(k:Nat)(fid:FuncId)(vs:List V):Option (List V):=match MP T k fid vs ⟨0,[]⟩with
 |some (rs,H1)=>DT 0 H1 rs λrs' _=>some rs'
 |none=>none
theorem yV(i:Nat):(⟨0,[]⟩:Hp).get i=.free:=by
 unfold Hp.get;have :Nat.blt i 0=false:=by cases i<;>rfl
 simp only[this]
theorem NV{w:World}(G:SOk S w):HRel S w (λ_=>none) (⟨0,[]⟩:Hp).get:=
 ⟨λi=>by rw[yV];rfl,λi b hb=>by rw[yV]at hb;exact hb.elim,λi j b hb _=>by rw[yV]at hb;exact hb.elim,G⟩
theorem PM{P:Program}{T:Tab}(hT:TabOk P T)(hm:P.follows .mixedOrders=true){fid:FuncId}{vs rs:List V}(h:Eu T k fid vs=some rs){w:World}(hg:SOk S w)(hx:LRel S w (λ_=>none) vs xs):
  Calls P fid xs.toArray w λe w'=>∃S' ρ' ys,e=.returned (yn ys)∧SOk S' w'∧(∀b,S b->S' b)∧(∀b,S' b->S b∨w.heap.size<=b)∧Chg [] w w'∧LRel S' w' ρ' rs ys:=by
 unfold Eu at h;split at h
 ·rename_i O H1 G;obtain⟨rs2,H2,e1,_,e3⟩:=Ck 0 O H1;rw[e1]at h;injection h with h;subst h
  refine(PH hT hm G (NV hg) hx).2.mono λe w' hR=>?_;obtain⟨S',ρ',ys,rfl,hr,hi,hl⟩:=hR;obtain⟨S2,a1,Z,a3,a4⟩:=e3 _ S' w' ρ' ys hr hi hl;have J:∀b,¬∃id,own (λ_=>none) id ((⟨0,[]⟩:Hp).get id) b:=λb ⟨id,hb⟩=>by rw[yV]at hb;exact hb
  refine⟨S2,ρ',ys,I,a1.slt,Z.s0,λb hb=>?_,⟨hi.chg.os,hi.chg.tape,hi.chg.output,hi.chg.size,λb hb _=>hi.chg.block b hb<|J b⟩,a4⟩;rcases Z.s1 b hb with h|h|h
  ·exact .inl h
  ·exact absurd h<|J b
  ·exact .inr h
 ·cases h
def MH(fid:FuncId)(vs:List V):Option V:=match Nat.beq fid 121 with
 |true=>match vs with
  |[.str s,.int .u8 (.ofNat c)]=>Ih (Lib.indexByte s c.toUInt8) λn=>some<|.int .i64 n
  |_=>none
 |false=>none
noncomputable def Jw:Tab:=⟨true,rZ tyL,rZ fnL,MH,λf=>Nat.beq f 50⟩
theorem OQ:TabOk prog Jw:=by
 refine⟨KI,RW,λi vs v hv=>?_⟩;replace hv:MH i vs=some v:=hv;unfold MH at hv;split at hv
 ·rename_i hb;have :=aag hb;subst this;split at hv
  ·rename_i s c;rw[Hx]at hv;injection hv with hv;subst hv
   refine⟨by kernel_rfl,λS w ρ xs hx=>?_⟩;simp only[LRel]at hx;obtain⟨J,_,rfl,G,O,_,rfl,h1,rfl⟩:=hx;simp only[VRel]at G h1;subst G h1;exact⟨_,by simp only[VRel];rfl,Je _ _ _⟩
  ·cases hv
 ·cases hv
def zr(t:Tree):Option (List V)->Bool
 |some [v,.int .i64 a,.int .i64 e]=>treeB t v&&iEq a 0&&iEq e 0
 |_=>false
variable{t:Tree}
theorem KN{l:YB}(h:zr t (Eu Jw k 27 [.str l])=true){w:World}(hg:SOk S w):Calls prog 27 [sM l].toArray w λe w'=>∃S' G J O Z,e=.returned (.tuple #[.agg #[G,J,O,Z],.int .i64 0,.int .i64 0])∧SOk S' w'∧(∀b,S b->S' b)∧(∀b,S' b->S b∨w.heap.size<=b)∧TreeIs S' w' t [G,J,O,Z]∧Chg [] w w':=by
 unfold zr at h;split at h
 ·rename_i v a e hr;simp only[aaa,yO,aap]at h;obtain⟨⟨h1,rfl⟩,rfl⟩:=h;refine(PM OQ (by kernel_rfl) hr hg (xs:=[sM l]) ⟨_,[],rfl,by simp only[VRel],rfl⟩).mono λe w' hR=>?_;obtain⟨S',ρ',ys,rfl,g0,g1,g2,g4,g3⟩:=hR;simp only[LRel]at g3;obtain⟨x0,_,rfl,h0,x1,_,rfl,h2,x2,_,rfl,h3,rfl⟩:=g3;simp only[VRel]at h2 h3;subst h2 h3;obtain⟨c,rfl,hT⟩:=treeB_ok h1 h0;have h4:=hT.four
  match c,h4,hT with
  |[G,J,O,Z],_,hT=>exact⟨S',G,J,O,Z,rfl,g0,g1,g2,hT,g4⟩
 ·cases h
section
variable{S:Nat->Prop}{w:World}{ρ:Nat->Option Value}
theorem Eb:∀ls:List YB,CRel S w ρ 1 (ls.map .str) (ls.map sM)
 |[]=>by simp[CRel]
 |s::r=>by simp only[aan,CRel];exact⟨sM s,r.map sM,by simp[Value.cells,sM],⟨rfl,rfl⟩,by unfold VRel;rfl,Eb r⟩
theorem Ej:∀ls:YI,CRel S w ρ 1 (ls.map<|V.int .i64) (ls.map λz=>.int .i64 z)
 |[]=>by simp[CRel]
 |s::r=>by simp only[aan,CRel];exact⟨.int .i64 s,_,by simp[Value.cells],⟨rfl,rfl⟩,by unfold VRel;rfl,Ej r⟩
mutual
theorem TreeIs.vrel:∀{ρ:Nat->Option Value} {t:Tree} {c:List Value},TreeIs S w t c->LRel S w ρ (ao t) c
 |ρ,.node k s ls ks,c,h=>by simp only[TreeIs]at h;obtain⟨A,m,B,n,rfl,h1,h2,h3,h4,h5,cs,h6,h7⟩:=h;simp only[ao,Tree.kind,Tree.text,Tree.leads,Tree.kids,LRel,VRel];exact⟨_,_,rfl,rfl,_,_,rfl,rfl,_,_,rfl,⟨A,m,_,by simp,by simpa using h1,h2,Eb ls,by simpa using h5⟩,_,_,rfl,⟨B,n,cs,by simp[sp],by simpa[sp]using h3,h4,KidsAre.crel h6,by simpa[sp]using h7⟩,rfl⟩
theorem KidsAre.crel:∀{ρ:Nat->Option Value} {ts:YT} {cs:List Value},KidsAre S w ts cs->CRel S w ρ 4 (kidsV ts) cs
 |ρ,[],cs,h=>by simp only[KidsAre]at h;simp only[kidsV,CRel];exact h
 |ρ,t::r,cs,h=>by simp only[KidsAre]at h;obtain⟨c,d,rfl,h1,h2⟩:=h;simp only[kidsV,CRel,nb];exact⟨.agg c.toArray,d,by simp[Value.cells],⟨by simp[Value.cells,h1.four],by simpa[Value.cells]using h1.one⟩,by simp only[VRel];exact⟨c,rfl,h1.vrel⟩,KidsAre.crel h2⟩
end
end
theorem Pe{l:YB}(h:zr t (Eu Jw k 27 [.str l])=true):sO prog 27 [.str l] (.tup [.agg<|ao t,.int .i64 0,.int .i64 0]):=by
 refine⟨I,I,λS w ρ xs hr hx=>?_⟩;simp only[LRel,VRel]at hx;obtain⟨x,ys,rfl,rfl,rfl⟩:=hx;refine(KN h hr.slt).mono ?_;rintro e w' ⟨S',G,J,O,Z,rfl,g0,g1,g2,hT,hc⟩;have g:=hr.chg0 hc;refine⟨_,S',ρ,_,⟨0,[]⟩,I,I,⟨λi=>?_,λi b hb=>?_,λi j b hb _=>?_,g0⟩,⟨ChgP.of0 hc,g1,λb hb=>(g2 b hb).elim .inl λh=>.inr<|.inr h,λid b hb=>.inl ⟨id,hb⟩,λid x h=>?_⟩,?_⟩
 ·have :=g.ob i;rw[yV]at this⊢;exact this
 ·rw[yV]at hb;exact hb.elim
 ·rw[yV]at hb;exact hb.elim
 ·simp only[xm]at h;split at h
  ·exact h
  ·cases h
 ·have hk:=TreeIs.vrel (ρ:=ρ) hT;simp only[VRel];exact⟨[.agg #[G,J,O,Z],.int .i64 0,.int .i64 0],rfl,.agg #[G,J,O,Z],_,rfl,by simp only[VRel];exact⟨_,rfl,hk⟩,_,_,rfl,by simp only[VRel],_,_,rfl,by simp only[VRel],rfl⟩
set_option maxHeartbeats 1100000
def Om:YB:=[109,111,100,117,108,101,32,77,32,100,101,102,32,102,40,110,58,32,73,110,116,41,58,32,73,110,116,32,61,32,105,102,32,110,32,60,32,49,32,116,104,101,110,32,48,32,101,108,115,101,32,110,32,43,32,102,40,110,32,45,32,49,41]
def sa:Tree:=(QO Om).1
end Go.Proofs.YthnohcipianijaaGreatDoor
