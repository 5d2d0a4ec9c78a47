/- Contracts of the functions that the law reaches, part 2. -/
import Derived.Test.YthnohcipianijaaGreatDoorTy1
set_option linter.unusedVariables false
set_option linter.unusedSimpArgs false
namespace Go.Proofs.YthnohcipianijaaGreatDoor
open _root_.Go.Proofs.Tryz
open Go.RowKit
def Jq(d:Nat):Operand->Bool
 |.tmp t=>!Nat.beq t d
 |_=>true
def vV(d:Option Tmp)(ps:List<|Nat×Operand):Bool:=match d with
 |some d=>ps.all λp=>Jq d p.2
 |none=>true
def DI(d e:Option Tmp):Bool:=match d,e with
 |some d,some e=>!Nat.beq d e
 |_,_=>true
variable{x:Operand}
variable{d:Option Tmp}
variable{b:Nat}
variable{h:Nat->Ob}
variable{j:Nat}
section
variable{P:Program}{T:Tab}{K:Ctx}{Q:Exit->Act->World->Prop}{s:List EI}{n:Nat}{F:Fm}{H:Hp}{S:Nat->Prop}{w:World}{ρ:Nat->Option Value}{a:Act}
theorem OR{d:Nat}{y:Value}(h:Jq d x=true):aR (fA<|a.put (some d) y) x=aR (fA a) x:=by
 cases x with
 |tmp t=>
  have G:t≠d:=λe=>by subst e;simp[Jq]at h
  simp only[aR,fA,Act.put,Array.getElem?_setIfInBounds];rw[if_neg λe=>G e.symm]
 |_=>rfl
theorem LZ{y:Value}:∀{ps:List<|Nat×Operand},vV d ps=true->gr (fA<|a.put d y) ps=gr (fA a) ps:=by
 intro ps h;cases d with
 |none=>rfl
 | some d=>
  induction ps with
  |nil=>rfl
  |cons p r ih=>
   obtain⟨i,x⟩:=p;simp only[vV,List.all_cons,aaa]at h;have ih':=ih (by simp only[vV];exact h.2);simp only[gr,OR h.1,ih']
theorem kH.up{S':Nat->Prop}{w':World}{ρ':Nat->Option Value}(u:Up S S' w w' ρ ρ'):∀{vs:List<|Nat×V} {ys:List<|Nat×Value},kH S w ρ vs ys->kH S' w' ρ' vs ys
 |[],ys,h=>h
 |(i,v)::r,ys,h=>by simp only[kH]at h⊢;obtain⟨x,zs,h1,h2,G⟩:=h;exact⟨x,zs,h1,h2.up u,kH.up u G⟩
theorem KH{e:Option Tmp}{v u:Option V}(h:DI d e=true):(F.seto d v).seto e u=(F.seto e u).seto d v:=by
 cases d with
 |none=>rfl
 |some d=>cases e with
  |none=>rfl
  |some e=>
   have :d≠e:=λx=>by subst x;simp[DI]at h
   simp only[Fm.seto];exact List.set_comm _ _ this
theorem Kv{v:V}(Z:∀t,d=some t->F.get t=none)(G:FRel S w ρ a n<|F.seto d<|some v):FRel S w ρ a n F:=by
 cases d with
 |none=>exact G
 |some d=>
  refine⟨G.size,G.defers,G.gl,by have :=G.len;simpa[Fm.seto]using this,λi u J=>G.get i u ?_⟩;have O:d≠i:=λe=>by subst e;rw[Z d rfl]at J;cases J
  rw[Fm.get_eq]at J⊢;simp only[Fm.seto,List.getElem?_set,if_neg O];exact J
variable{all:Array Oper}{L:YN}{m left i:Nat}{listed:Array Bool}{o:Oper}
def GoP (P:Program) (K:Ctx) (Q:Exit->Act->World->Prop) (all:Array Oper) (L:List Nat) (m left:Nat) (listed:Array Bool) (s:List EI) (n:Nat) (F:Fm) (H:Hp) (i:Nat) (o:Oper) (ps:List<|Nat×Operand) (vs:List<|Nat×V) (v:V):Prop:=
  ∀ S w ρ a,HRel S w ρ H.get->Inv K S w ρ H.get->Region.noSelect all=true->
    (FRel S w ρ a n F->(∃ys,gr (fA a) ps=some ys∧kH S w ρ vs ys)->wpB P all (NoPanic<|ea P Q s) (Agree S w) (Ls ρ L w) m (left+1) listed a w)∧
    (FRel S w ρ a n (F.seto o.dst<|some v)->wpB P all (NoPanic<|ea P Q s) (Agree S w) (Ls ρ L w) m left (listed.setIfInBounds i true) a w)
theorem Ky{ps:List<|Nat×Operand}{vs:List<|Nat×V}{v:V}(hv:ov F ps=some vs)(k:GoP P K Q all L m left listed s n (F.seto o.dst none) H i o ps vs v):Go P K Q (.drw all L m (left+1) listed) s n F H:=λS w ρ a hr hi G hs=>by
 obtain⟨ys,h1,h2⟩:=sv G hv;refine(k S w ρ a hr hi hs).1 ?_ ⟨ys,h1,h2⟩;refine⟨G.size,G.defers,G.gl,?_,λj u J=>?_⟩
 ·cases O:o.dst with
  |none=>exact G.len
  |some d=>have :=G.len;simpa[Fm.seto]using this
 ·cases O:o.dst with
  |none=>rw[O]at J;exact G.get j u J
  |some d=>
   rw[O,Fm.get_eq]at J;simp only[Fm.seto,List.getElem?_set]at J;split at J
   ·split at J<;>simp at J
   ·exact G.get j u (by rw[Fm.get_eq];exact J)
theorem zk{w':World}(J:Chg [] w w'):Up S (λc=>S c∨c=b) w w' ρ ρ:=⟨λ_ h=>.inl h,λc _ G=>J.block c G (by simp),λ_ _ h=>h⟩
theorem Kl{w':World}(hr:HRel S w ρ h)(J:Chg [] w w')(hb:b=w.heap.size)(O:b<w'.heap.size):HRel (λc=>S c∨c=b) w' ρ h:=by
 refine⟨λi=>(hr.ob i).up (zk J) (λhf=>?_) (λc G=>J.block c (gv (hr.ob i) G)<|by simp),λi c G=>?_,hr.dis,hr.slt.up (zk (ρ:=ρ) J) λc G=>?_⟩
 ·have :=hr.ob i;rw[hf]at this;exact this
 ·rintro(h1|h1)
  ·exact hr.sep i c G h1
  ·have :=gv (hr.ob i) G;omega
 ·rcases G with h1|h1
  ·exact aaz (hr.slt c h1) J.size
  ·omega
theorem MS{w':World}(hi:Inv K S w ρ h)(J:Chg [] w w')(hb:b=w.heap.size):Inv K (λc=>S c∨c=b) w' ρ h:=by
 have O:=hi.chg0 J;refine⟨O.chg,λc G=>.inl<|hi.s0 c G,λc G=>?_,hi.ow,hi.pin⟩;rcases G with h1|h1
 ·exact hi.s1 c h1
 ·have :=hi.chg.size;exact .inr (.inr<|by omega)
theorem Gs{t e:TypeId}{ps:List<|Nat×Operand}{vs:List<|Nat×V}{ys:List<|Nat×Value}{d:TD}{k:Nat}{ty:TypeId}{els:List V}(hT:TabOk P T)(hr:HRel S w ρ h)(hi:Inv K S w ρ h)(fr:Fr a n<|fA a)(G:gr (fA a) ps=some ys)(hpr:kH S w ρ vs ys)
  {x1 x2:Nat} {x3:V} (ht:T.ty t=some ⟨x1,x2,x3,.sl e⟩) (he:T.ty e=some d) (hp:mO d.size 0 vs=some els) (hb:(Nat.beq els.length k&&Nat.ble (k*d.size) 16777216&&Nat.ble k 16777216&&pureL els)=true):
  ∃x S' w',Runs P a ty (.buildSlice t k ps.toArray) w (.value x) w'∧HRel S' w' ρ h∧Inv K S' w' ρ h∧Up S S' w w' ρ ρ∧Chg [] w w'∧VRel S' w' ρ (.row d.size els) x:=by
 simp only[aaa,Nat.beq_eq]at hb;obtain⟨⟨⟨hl,hsm⟩,hm⟩,hpu⟩:=hb;have hmm:k<=16777216:=Nat.le_of_ble_eq_true hm;obtain⟨z,hz1,hz2⟩:=(hT.ty _ _ he).zeroT;obtain⟨h1,h2,h3⟩:=vc hpr hp;have J:ps.map (·.1)=List.range k:=by
  have :ps.map (·.1)=ys.map (·.1):=by rw[<-fr.parts G];simp
  rw[this,h1,hl,List.range_eq_range']
 obtain⟨w',b,g1,g2,O,g4,g5⟩:=Cu (P:=P) (t:=t) (m:=k) fr G ((hT.ty _ _ ht).sl rfl) (hT.ty _ _ he).size hz1 J h2 hsm rfl w ty;have Z:=h3.length;refine⟨_,λc=>S c∨c=b,w',g1,Kl hr O g4 g5,MS hi O g4,zk O,O,?_⟩;simp only[VRel];refine⟨some ⟨b,0,none⟩,k,_,by rw[hl],by omega,by simp only[maxLen];omega,(h3.up<|zk O).pure hpu,Z,λ_=>⟨b,0,rfl,.inr rfl,g5,λj hj=>by rw[Nat.zero_add,g2.cell]⟩⟩
def va (T:Tab) (all:Array Oper) (i:Nat) (vs:List<|Nat×V):Option (Oper×List (Nat×Operand)×V):=match all[i]? with
 |some ⟨dst,.buildSlice t k ⟨ps⟩,ty,pp,af,none⟩=>match T.ty t with
  |some ⟨_,_,_,.sl e⟩=>match T.ty e with
   |some d=>match mO d.size 0 vs with
    |some els=>match Nat.beq els.length k&&Nat.ble (k*d.size) 16777216&&Nat.ble k 16777216&&pureL els with
     |true=>hZ d.size λsz=>some (⟨dst,.buildSlice t k ⟨ps⟩,ty,pp,af,none⟩,ps,.row sz els)
     |false=>none
    |none=>none
   |none=>none
  |_=>none
 |_=>none
variable{ps:List (Nat×Operand)}{vs:List (Nat×V)}{v:V}
theorem CR(hT:TabOk P T)(G:va T all i vs=some (o,ps,v))(hr:HRel S w ρ H.get)(J:Inv K S w ρ H.get)(O:FRel S w ρ a n F){ys:List<|Nat×Value}(Z:gr (fA a) ps=some ys)(hpr:kH S w ρ vs ys)(hs:Region.noSelect all=true)
  (hl:(db H.get L||(listed.setIfInBounds i true).getD m false)=true)
  (D:∀S w ρ a,HRel S w ρ H.get->Inv K S w ρ H.get->FRel S w ρ a n (F.seto o.dst<|some v)->wpB P all (NoPanic<|ea P Q s) (Agree S w) (Ls ρ L w) m left (listed.setIfInBounds i true) a w):
  wpOp P all (NoPanic<|ea P Q s) i (λa' w'=>Agree S w w'∧(Ls ρ L w w'∨(listed.setIfInBounds i true).getD m false=true)∧wpB P all (NoPanic<|ea P Q s) (Agree S w) (Ls ρ L w) m left (listed.setIfInBounds i true) a' w') a w:=by
 unfold va at G;split at G
 ·rename_i dst t k ps' ty pp af hi;split at G
  ·rename_i e ht;split at G
   ·rename_i d he;split at G
    ·rename_i els hrp;split at G
     ·rename_i hb;rw[dY]at G;simp only[aad,Prod.mk.injEq]at G;obtain⟨rfl,rfl,rfl⟩:=G;obtain⟨x,S',w',g1,g2,g3,g4,g5,g6⟩:=Gs (ty:=ty) hT hr J O.fr Z hpr ht he hrp hb;unfold wpOp;simp only[hi];rw[if_pos<|cj O (o:=⟨dst,.buildSlice t k ⟨ps'⟩,ty,pp,af,none⟩) rfl];refine .inl ?_;have hk:=D S' w' ρ _ g2 g3<|cP (O.up g4) dst g6;unfold Oper.wp;rw[g1 dst pp af none];refine kB g4 (λb hb=>g5.block b (hr.slt b hb)<|by simp) ((zt hl).imp (λhl id hid x b hx hb=>?_) id) hk;exact g5.block b (gv (hr.ob id)<|mZ hr hl id hid x b hx hb) (by simp)
     ·cases G
    ·cases G
   ·cases G
  ·cases G
 ·cases G
theorem Pd(hT:TabOk P T)(hp:va T all i vs=some (o,ps,v))(O:Region.ready .any all listed=[i])(hl:(db H.get L||(listed.setIfInBounds i true).getD m false)=true)
  (kk:Go P K Q (.drw all L m left<|listed.setIfInBounds i true) s n (F.seto o.dst<|some v) H):GoP P K Q all L m left listed s n F H i o ps vs v:=λS w ρ a hr G hs=>by
 refine⟨λJ ⟨ys,Z,hpr⟩=>pC (S:=S) O<|CR hT hp hr G J Z hpr hs hl λS w ρ a hr G J=>kk S w ρ a hr G J hs,λJ=>kk S w ρ a hr G J hs⟩
theorem HU{B Sx:World->Prop}{Q':Exit->Act->World->Prop}(G:(match Region.ready .any all listed with|[x,y]=>(Nat.beq x i&&Nat.beq y j)||(Nat.beq x j&&Nat.beq y i)|_=>false)=true)
  (h1:wpOp P all Q' i (λa' w'=>B w'∧(Sx w'∨(listed.setIfInBounds i true).getD m false=true)∧wpB P all Q' B Sx m left (listed.setIfInBounds i true) a' w') a w)
  (h2:wpOp P all Q' j (λa' w'=>B w'∧(Sx w'∨(listed.setIfInBounds j true).getD m false=true)∧wpB P all Q' B Sx m left (listed.setIfInBounds j true) a' w') a w):wpB P all Q' B Sx m (left+1) listed a w:=by
 split at G
 ·rename_i x y hr;refine⟨λO=>(by rw[hr]at O;cases O),λc J=>?_⟩;rw[hr]at J;simp only[aaB,aaa,Nat.beq_eq]at G;simp only[aah,List.not_mem_nil,or_false]at J;rcases G with⟨rfl,rfl⟩|⟨rfl,rfl⟩
  ·rcases J with rfl|rfl
   ·exact h1
   ·exact h2
  ·rcases J with rfl|rfl
   ·exact h2
   ·exact h1
 ·cases G
theorem Mv(hT:TabOk P T)(hp:va T all i vs=some (o,ps,v)){oj:Oper}(hj:all[j]?=some oj)(hrd:(match Region.ready .any all listed with|[x,y]=>(Nat.beq x i&&Nat.beq y j)||(Nat.beq x j&&Nat.beq y i)|_=>false)=true)(hrd1:Region.ready .any all (listed.setIfInBounds i true)=[j])
  (hl:(db H.get L||(listed.setIfInBounds i true).getD m false)=true) (hd:∀t,o.dst=some t->F.get t=none) (hne:DI o.dst oj.dst=true) (hpn:vV oj.dst ps=true) (hcomm:(listed.setIfInBounds i true).setIfInBounds j true=(listed.setIfInBounds j true).setIfInBounds i true)
  {Post:V->Hp->Prop}
  (hx:∀S w ρ a,HRel S w ρ H.get->Inv K S w ρ H.get->FRel S w ρ a n F->∀(K2:Act->World->Prop),(∀x S' w' ρ' u H',Post u H'->HRel S' w' ρ' H'.get->Inv K S' w' ρ' H'.get->Up S S' w w' ρ ρ'->Agree S w w'->(Ls ρ L w w'∨((listed.setIfInBounds j true).getD m false=true∧((listed.setIfInBounds j true).setIfInBounds i true).getD m false=true))->VRel S' w' ρ' u x->K2 (a.put oj.dst x) w')->wpOp P all (NoPanic<|ea P Q s) j K2 a w)
  (kk:∀u H',Post u H'->GoP P K Q all L m left (listed.setIfInBounds j true) s n (F.seto oj.dst<|some u) H' i o ps vs v):GoP P K Q all L m (left+1) listed s n F H i o ps vs v:=λS w ρ a hr G hs=>by
 have D:∀S w ρ a,HRel S w ρ H.get->Inv K S w ρ H.get->FRel S w ρ a n (F.seto o.dst<|some v)->wpB P all (NoPanic<|ea P Q s) (Agree S w) (Ls ρ L w) m (left+1) (listed.setIfInBounds i true) a w:=λS w ρ a hr G Z=>by
  refine pC (S:=S) hrd1 ?_;refine hx S w ρ a hr G (Kv hd Z) _ λx S' w' ρ' u H' hP J O hu hA hL hv=>?_;rw[hcomm];refine kB hu hA (hL.imp id (·.2))<|(kk u H' hP S' w' ρ' _ J O hs).2 ?_;rw[<-KH hne];exact cP (Z.up hu) oj.dst hv
 refine⟨λZ ⟨ys,hps,hpr⟩=>?_,D S w ρ a hr G⟩;refine HU hrd (CR hT hp hr G Z hps hpr hs hl D) ?_;refine hx S w ρ a hr G Z _ λx S' w' ρ' u H' hP J O hu hA hL hv=>?_;refine kB hu hA (hL.imp id (·.1))<|(kk u H' hP S' w' ρ' _ J O hs).1 (cP (Z.up hu) oj.dst hv) ⟨ys,?_,hpr.up hu⟩;rw[LZ hpn];exact hps
end
variable{fid:FuncId}
variable{i:Nat}
section
variable{P:Program}{T:Tab}{K:Ctx}{Q:Exit->Act->World->Prop}{s:List EI}{n:Nat}{F:Fm}{H:Hp}
def oO (P:Program) (K:Ctx) (o:Oper) (L:List Nat) (ok:Bool) (n:Nat) (F:Fm) (H:Hp) (u:V) (H':Hp):Prop:=
  ∀ S w ρ a,HRel S w ρ H.get->Inv K S w ρ H.get->FRel S w ρ a n F->∀(Q':Exit->Act->World->Prop) (K2:Act->World->Prop),
    (∀x S' w' ρ',HRel S' w' ρ' H'.get->Inv K S' w' ρ' H'.get->Up S S' w w' ρ ρ'->Agree S w w'->(Ls ρ L w w'∨ok=true)->VRel S' w' ρ' u x->K2 (a.put o.dst x) w')->o.wp P a w K2 Q'
theorem Ll(G:TabOk P T){o:Oper}{L:YN}{ok:Bool}{v:V}(hv:qf T H.get F o.op=some v):oO P K o L ok n F H v H:=λS w ρ a hr hi J Q' K2 k=>by obtain⟨x,h1,h2⟩:=wQ (ty:=o.type) G hr J hv;have :=k x S w ρ hr hi Up.refl Agree.refl (.inl rH) h1;obtain⟨d,op,ty,ps,af,g⟩:=o;unfold Oper.wp;rw[h2 w Agree.refl d ps af g];exact this
theorem aG(hT:TabOk P T){o:Oper}{L:YN}{ok:Bool}{v:Option V}{ed:ED}(hv:mJ T H.get F H.nx o.op=some (v,ed))(hc:((db H.get L&&ed.clear L)||ok)=true):oO P K o L ok n F H (v.getD<|.tup []) (H.app ed):=λS w ρ a hr hi hF Q' K2 k=>by
 obtain⟨nx,w',ρ',h1,h2,Z⟩:=zo (ty:=o.type) hT hr hF H.get_free hv;have G:=h2.hr;have J:=hi.eff h2;rw[<-Hp.get_app (uP hv)]at G J;have O:Ls ρ L w w'∨ok=true:=(zt hc).imp (λh=>by simp only[aaa]at h;exact Ee hr h2 h.1 h.2) id
 have kk:=λx hx=>k x S w' ρ' G J h2.up (tT hr h2) O hx;obtain⟨d,op,ty,ps,af,g⟩:=o;unfold Oper.wp;rw[h1 d ps af g];cases v with
 |none=>
  subst Z;exact kk undef xy
 |some v=>
  obtain⟨x,rfl,h4⟩:=Z;exact kk x h4
theorem cb{o:Oper}{L:YN}{ok:Bool}{args:List Operand}{tys:Array TypeId}{vs:List V}{u:V}{H':Hp}{L':YN}(he:cZ P fid=true)(ho:o.op=.call {callee:=.value<|.func fid,args:=args.toArray,argTypes:=tys})(hv:gd F args=some vs)(hC:CallR P K fid vs H L' λu' H''=>u'=u∧H''=H')(hL:L'=L∨ok=true):oO P K o L ok n F H u H':=λS w ρ a hr hi hF Q' K2 k=>by
 obtain⟨xs,h1,h2⟩:=pk hF hv;have G:=hC S w ρ xs hr hi h2;obtain⟨d,op,ty,ps,af,g⟩:=o;simp only at ho;subst ho;have hx:(execOp a.eval ⟨d,.call {callee:=.value<|.func fid,args:=args.toArray,argTypes:=tys},ty,ps,af,g⟩).run P w=.ok (.enter fid xs.toArray) w:=by
  have e:args.toArray.map a.eval=xs.toArray:=by rw[<-hF.fr.vals h1];simp
  simp only[execOp,resolve,e];simp[Act.eval,Deferred.ofValue,invoke,mC he]
 unfold Oper.wp;rw[hx,Oper.upon_enter];refine G.mono λe w1 hR=>?_;obtain⟨x,S',ρ',v,H'',rfl,⟨rfl,rfl⟩,J,O,hu,Z,hls⟩:=hR;exact k x S' w1 ρ' J O hu (λb hb=>hu.blk b hb<|hr.slt b hb) (hL.imp (λe=>by subst e;exact hls) id) Z
theorem bf{all:Array Oper}{L:YN}{m left:Nat}{listed:Array Bool}{oi oj:Oper}{ui uj:V}{Hi Hj:Hp}(hrd:(match Region.ready .any all listed with|[x,y]=>(Nat.beq x i&&Nat.beq y j)||(Nat.beq x j&&Nat.beq y i)|_=>false)=true)(hi:all[i]?=some oi)(hj:all[j]?=some oj)(hwi:bt F all oi.guard=some true)(hwj:bt F all oj.guard=some true)
  (xi:oO P K oi L ((listed.setIfInBounds i true).getD m false) n F H ui Hi) (xj:oO P K oj L ((listed.setIfInBounds j true).getD m false) n F H uj Hj)
  (ki:Go P K Q (.drw all L m left<|listed.setIfInBounds i true) s n (F.seto oi.dst<|some ui) Hi) (kj:Go P K Q (.drw all L m left<|listed.setIfInBounds j true) s n (F.seto oj.dst<|some uj) Hj):Go P K Q (.drw all L m (left+1) listed) s n F H:=λS w ρ a hr Z O hs=>by
 refine HU hrd ?_ ?_
 ·unfold wpOp;simp only[hi];rw[if_pos<|cj O hwi];exact .inl<|xi S w ρ a hr Z O _ _ λx S' w' ρ' G J hu hA hL hv=>kB hu hA hL<|ki S' w' ρ' _ G J (cP (O.up hu) oi.dst hv) hs
 ·unfold wpOp;simp only[hj];rw[if_pos<|cj O hwj];exact .inl<|xj S w ρ a hr Z O _ _ λx S' w' ρ' G J hu hA hL hv=>kB hu hA hL<|kj S' w' ρ' _ G J (cP (O.up hu) oj.dst hv) hs
end
def atN:YN->Nat->Option Nat
 |[],_=>none
 |x::_,0=>some x
 |_::r,i+1=>atN r i
theorem ri:∀(l:YN) (i:Nat),atN l i=l[i]?
 |[],i=>by simp[atN]
 |x::r,0=>by simp[atN]
 |x::r,i+1=>by simp[atN,ri r i]
abbrev Jx:V:=.raw (.agg #[])
mutual
def V.ren(σ:YN):V->V
 |.ptr id o=>match atN σ id with
  |some j=>.ptr j o
  |none=>Jx
 |.el id sz i o=>match atN σ id with
  |some j=>.el j sz i o
  |none=>Jx
 |.sl id=>match atN σ id with
  |some j=>.sl j
  |none=>Jx
 |.np id=>match atN σ id with
  |some j=>.np j
  |none=>.nilp
 |.agg cs=>.agg<|renL σ cs
 |.tup cs=>.tup<|renL σ cs
 |.clo fid cs=>.clo fid<|renL σ cs
 |.int k n=>.int k n
 |.bool b=>.bool b
 |.str l=>.str l
 |.nilp=>.nilp
 |.nils=>.nils
 |.raw x=>.raw x
 |.box cs o=>.box cs o
 |.row sz els=>.row sz els
 |.lk els=>.lk els
def renL(σ:YN):List V->List V
 |[]=>[]
 |v::r=>v.ren σ::renL σ r
end
def Ob.ren(σ:YN):Ob->Ob
 |.var t cs=>.var t<|renL σ cs
 |.row e sz els=>.row e sz<|renL σ els
 |o=>o
def gu(σ:YN)(ρ:Nat->Option Value):Nat->Option Value:=λj=>match atN σ j with
 |some i=>ρ i
 |none=>none
section
variable{S:Nat->Prop}{w:World}{ρ:Nat->Option Value}{σ:YN}
theorem DO{x:Value}(h:VRel S w ρ Jx x):False:=by simp only[VRel,Value.oneCell']at h;exact absurd h.2 (by simp)
mutual
theorem VRel.ren:∀{v:V} {x:Value},VRel S w ρ (v.ren σ) x->VRel S w (gu σ ρ) v x
 |.int _ _,x,h=>by simp only[V.ren,VRel]at h⊢;exact h
 |.bool _,x,h=>by simp only[V.ren,VRel]at h⊢;exact h
 |.str _,x,h=>by simp only[V.ren,VRel]at h⊢;exact h
 |.nilp,x,h=>by simp only[V.ren,VRel]at h⊢;exact h
 |.nils,x,h=>by simp only[V.ren,VRel]at h⊢;exact h
 |.raw _,x,h=>by simp only[V.ren,VRel]at h⊢;exact h
 |.box _ _,x,h=>by simp only[V.ren,VRel]at h⊢;exact h
 |.row _ _,x,h=>by simp only[V.ren,VRel]at h⊢;exact h
 |.lk _,x,h=>by simp only[V.ren,VRel]at h⊢;exact h
 | .ptr id o,x,h=>by
  simp only[V.ren]at h;split at h
  ·rename_i j hj;simp only[VRel]at h⊢;obtain⟨b,h1,h2⟩:=h;exact⟨b,by simp only[gu,hj];exact h1,h2⟩
  ·exact(DO h).elim
 | .el id sz i o,x,h=>by
  simp only[V.ren]at h;split at h
  ·rename_i j hj;simp only[VRel]at h⊢;obtain⟨b,n,c,h1,h2⟩:=h;exact⟨b,n,c,by simp only[gu,hj];exact h1,h2⟩
  ·exact(DO h).elim
 | .sl id,x,h=>by
  simp only[V.ren]at h;split at h
  ·rename_i j hj;simp only[VRel]at h⊢;exact⟨by simp only[gu,hj];exact h.1,h.2⟩
  ·exact(DO h).elim
 | .np id,x,h=>by
  simp only[V.ren]at h;split at h
  ·rename_i j hj;simp only[VRel]at h⊢;exact h.imp_right λ⟨b,h1,h2⟩=>⟨b,by simp only[gu,hj];exact h1,h2⟩
  ·simp only[VRel]at h⊢;exact .inl h
 |.agg cs,x,h=>by simp only[V.ren,VRel]at h⊢;obtain⟨xs,h1,h2⟩:=h;exact⟨xs,h1,LRel.ren h2⟩
 |.tup cs,x,h=>by simp only[V.ren,VRel]at h⊢;obtain⟨xs,h1,h2⟩:=h;exact⟨xs,h1,LRel.ren h2⟩
 |.clo fid cs,x,h=>by simp only[V.ren,VRel]at h⊢;obtain⟨xs,h1,h2⟩:=h;exact⟨xs,h1,LRel.ren h2⟩
theorem LRel.ren:∀{v:List V} {x:List Value},LRel S w ρ (renL σ v) x->LRel S w (gu σ ρ) v x
 |[],x,h=>by simp only[renL,LRel]at h⊢;exact h
 |v::r,x,h=>by simp only[renL,LRel]at h⊢;obtain⟨y,ys,h1,h2,h3⟩:=h;exact⟨y,ys,h1,VRel.ren h2,LRel.ren h3⟩
end
theorem zT:∀(l:List V),(renL σ l).length=l.length
 |[]=>by simp[renL]
 |v::r=>by simp[renL,zT r]
theorem CRel.ren{sz:Nat}:∀{v:List V} {x:List Value},CRel S w ρ sz (renL σ v) x->CRel S w (gu σ ρ) sz v x
 |[],x,h=>by simp only[renL,CRel]at h⊢;exact h
 |v::r,x,h=>by simp only[renL,CRel]at h⊢;obtain⟨y,ys,h1,h2,G,J⟩:=h;exact⟨y,ys,h1,h2,VRel.ren G,CRel.ren J⟩
mutual
theorem VRel.bwd{ρ':Nat->Option Value}(hσ:∀j x,ρ j=some x->∃i,atN σ j=some i∧ρ' i=some x):∀{v:V} {x:Value},VRel S w ρ v x->VRel S w ρ' (v.ren σ) x
 |.int _ _,x,h=>by simp only[V.ren,VRel]at h⊢;exact h
 |.bool _,x,h=>by simp only[V.ren,VRel]at h⊢;exact h
 |.str _,x,h=>by simp only[V.ren,VRel]at h⊢;exact h
 |.nilp,x,h=>by simp only[V.ren,VRel]at h⊢;exact h
 |.nils,x,h=>by simp only[V.ren,VRel]at h⊢;exact h
 |.raw _,x,h=>by simp only[V.ren,VRel]at h⊢;exact h
 |.box _ _,x,h=>by simp only[V.ren,VRel]at h⊢;exact h
 |.row _ _,x,h=>by simp only[V.ren,VRel]at h⊢;exact h
 |.lk _,x,h=>by simp only[V.ren,VRel]at h⊢;exact h
 |.ptr id o,x,h=>by simp only[VRel]at h;obtain⟨b,h1,h2⟩:=h;obtain⟨i,h3,h4⟩:=hσ _ _ h1;simp only[V.ren,h3,VRel];exact⟨b,h4,h2⟩
 |.el id sz i o,x,h=>by simp only[VRel]at h;obtain⟨b,n,c,h1,h2⟩:=h;obtain⟨i',h3,h4⟩:=hσ _ _ h1;simp only[V.ren,h3,VRel];exact⟨b,n,c,h4,h2⟩
 |.sl id,x,h=>by simp only[VRel]at h;obtain⟨i,h3,h4⟩:=hσ _ _ h.1;simp only[V.ren,h3,VRel];exact⟨h4,h.2⟩
 | .np id,x,h=>by
  simp only[VRel]at h;rcases h with h|⟨b,h1,h2⟩
  ·simp only[V.ren];split
   ·simp only[VRel];exact .inl h
   ·simp only[VRel];exact h
  ·obtain⟨i,h3,h4⟩:=hσ _ _ h1;simp only[V.ren,h3,VRel];exact .inr ⟨b,h4,h2⟩
 |.agg cs,x,h=>by simp only[V.ren,VRel]at h⊢;obtain⟨xs,h1,h2⟩:=h;exact⟨xs,h1,LRel.bwd hσ h2⟩
 |.tup cs,x,h=>by simp only[V.ren,VRel]at h⊢;obtain⟨xs,h1,h2⟩:=h;exact⟨xs,h1,LRel.bwd hσ h2⟩
 |.clo fid cs,x,h=>by simp only[V.ren,VRel]at h⊢;obtain⟨xs,h1,h2⟩:=h;exact⟨xs,h1,LRel.bwd hσ h2⟩
theorem LRel.bwd{ρ':Nat->Option Value}(hσ:∀j x,ρ j=some x->∃i,atN σ j=some i∧ρ' i=some x):∀{v:List V} {x:List Value},LRel S w ρ v x->LRel S w ρ' (renL σ v) x
 |[],x,h=>by simp only[renL,LRel]at h⊢;exact h
 |v::r,x,h=>by simp only[renL,LRel]at h⊢;obtain⟨y,ys,h1,h2,h3⟩:=h;exact⟨y,ys,h1,VRel.bwd hσ h2,LRel.bwd hσ h3⟩
end
theorem CRel.bwd{ρ':Nat->Option Value}(hσ:∀j x,ρ j=some x->∃i,atN σ j=some i∧ρ' i=some x){sz:Nat}:∀{v:List V} {x:List Value},CRel S w ρ sz v x->CRel S w ρ' sz (renL σ v) x
 |[],x,h=>by simp only[renL,CRel]at h⊢;exact h
 |v::r,x,h=>by simp only[renL,CRel]at h⊢;obtain⟨y,ys,h1,h2,G,J⟩:=h;exact⟨y,ys,h1,h2,VRel.bwd hσ G,CRel.bwd hσ J⟩
end
def cq(v u:V):Prop:=∀S w ρ x,VRel S w ρ v x->VRel S w ρ u x
theorem cq.rfl{v:V}:cq v v:=λ_ _ _ _ h=>h
theorem cq.of_eq{v u:V}(h:v=u):cq v u:=h▸cq.rfl
theorem cq.nil(sz:Nat):cq .nils (.row sz []):=λS w ρ x h=>by simp only[VRel]at h⊢;subst h;exact⟨none,0,[],by simp,aaf _,by decide,by simp[CRel],RowIn.none_⟩
def aD:List V->List V->Prop
 |[],us=>us=[]
 |v::r,us=>∃u q,us=u::q∧cq v u∧aD r q
theorem aD.rel{S:Nat->Prop}{w:World}{ρ:Nat->Option Value}:∀{vs us:List V} {xs:List Value},aD vs us->LRel S w ρ vs xs->LRel S w ρ us xs
 |[],us,xs,h,G=>by simp only[aD]at h;subst h;exact G
 |v::r,us,xs,h,G=>by simp only[aD]at h;obtain⟨u,q,rfl,h1,h2⟩:=h;simp only[LRel]at G⊢;obtain⟨y,ys,rfl,J,O⟩:=G;exact⟨y,ys,I,h1 _ _ _ _ J,aD.rel h2 O⟩
theorem aD.rfl:∀{vs:List V},aD vs vs
 |[]=>by simp[aD]
 |v::r=>⟨v,r,by rfl,cq.rfl,aD.rfl⟩
variable{us:List V}
theorem cq.agg{vs:List V}(h:aD vs us):cq (.agg vs) (.agg us):=λS w ρ x hx=>by simp only[VRel]at hx⊢;obtain⟨xs,h1,h2⟩:=hx;exact⟨xs,h1,h.rel h2⟩
theorem aD.cons{v u:V}{r q:List V}(h:cq v u)(k:aD r q):aD (v::r) (u::q):=⟨u,q,by rfl,h,k⟩
theorem aD.nil:aD [] []:=by simp[aD]
def oS:Ob->Ob->Prop
 |_,.gone=>True
 |.var t cs,.var J cs'=>t=J∧aD cs cs'
 |.row e sz els,.row G sz' els'=>e=G∧sz=sz'∧els=els'
 |.mp k e ks vs,.mp k' G ks' vs'=>k=k'∧e=G∧ks=ks'∧vs=vs'
 |_,_=>False
def leF(σ:YN):Fm->Fm->Prop
 |_,[]=>True
 |[],none::G=>leF σ [] G
 |[],some _::_=>False
 |x::r,none::G=>leF σ r G
 |x::r,some u::G=>(∃v,x=some v∧cq v (u.ren σ))∧leF σ r G
def leH(σ:YN)(H:Hp):List (Nat×Ob)->Prop
 |[]=>True
 |(j,o)::r=>(∃i,atN σ j=some i∧oS (H.get i) (o.ren σ))∧leH σ H r
def df:YN->Bool
 |[]=>true
 |i::r=>!r.contains i&&df r
variable{o':Ob}
variable{PL:YN}{fn:Func}{H0:Hp}
variable{Post:V->Hp->Prop}
section
variable{P:Program}{T:Tab}{K:Ctx}{Q:Exit->Act->World->Prop}{s:List EI}{n:Nat}{F F':Fm}{H H':Hp}{σ:YN}{S:Nat->Prop}{w:World}{ρ:Nat->Option Value}{a:Act}
theorem zy:∀{F F':Fm},leF σ F F'->∀i u,F'.get i=some u->∃v,F.get i=some v∧cq v (u.ren σ)
 |F,[],h,i,u,G=>by simp[Fm.get]at G
 |[],none::J,h,0,u,G=>by simp[Fm.get]at G
 |[],none::J,h,i+1,u,G=>by obtain⟨v,h1,_⟩:=zy (F:=[]) (F':=J) (by simpa[leF]using h) i u (by simpa[Fm.get]using G);simp[Fm.get]at h1
 |[],some _::_,h,i,u,G=>by simp[leF]at h
 |x::r,none::J,h,0,u,G=>by simp[Fm.get]at G
 |x::r,none::J,h,i+1,u,G=>by have :=zy (F:=r) (F':=J) (by simpa[leF]using h) i u (by simpa[Fm.get]using G);simpa[Fm.get]using this
 |x::r,some O::J,h,0,u,G=>by simp only[leF]at h;simp only[Fm.get,aad]at G;subst G;obtain⟨v,h1,h2⟩:=h.1;exact⟨v,by simp[Fm.get,h1],h2⟩
 |x::r,some O::J,h,i+1,u,G=>by simp only[leF]at h;have :=zy h.2 i u (by simpa[Fm.get]using G);simpa[Fm.get]using this
theorem MT(h:leF σ F F')(J:F'.length<=n)(G:FRel S w ρ a n F):FRel S w (gu σ ρ) a n F':=
 ⟨G.size,G.defers,G.gl,J,λi u O=>by obtain⟨v,h1,h2⟩:=zy h i u O;obtain⟨x,Z,h4⟩:=G.get i v h1;exact⟨x,Z,(h2 _ _ _ _ h4).ren⟩⟩
theorem Aq:∀{l:List<|Nat×Ob},leH σ H l->∀j,aE l j=.gone∨∃i,atN σ j=some i∧oS (H.get i) ((aE l j).ren σ)
 |[],_,j=>.inl rfl
 | (k,o)::r,h,j=>by
  simp only[leH]at h;simp only[aE];split
  ·rename_i hb;have :=aag hb;subst this;exact .inr h.1
  ·exact Aq h.2 j
theorem uF:∀{l:YN},df l=true->∀i j x,atN l i=some x->atN l j=some x->i=j
 |[],_,i,j,x,hi,G=>by simp[atN]at hi
 |y::r,h,0,0,x,hi,G=>rfl
 |y::r,h,0,j+1,x,hi,G=>by simp only[df,aaa,Bool.not_eq_true']at h;simp only[atN,aad]at hi G;subst hi;rw[ri]at G;have :=List.mem_of_getElem? G;simp[this]at h
 |y::r,h,i+1,0,x,hi,G=>by simp only[df,aaa,Bool.not_eq_true']at h;simp only[atN,aad]at hi G;subst G;rw[ri]at hi;have :=List.mem_of_getElem? hi;simp[this]at h
 |y::r,h,i+1,j+1,x,hi,G=>by simp only[df,aaa]at h;have :=uF h.2 i j x (by simpa[atN]using hi) (by simpa[atN]using G);omega
theorem MM{o:Ob}(hij:atN σ j=some i)(h:oS o<|o'.ren σ)(ho':o'≠.gone)(hr:kx S w ρ i o):kx S w (gu σ ρ) j o'∧∀b,own (gu σ ρ) j o' b->own ρ i o b:=by
 have hρ:gu σ ρ j=ρ i:=by simp only[gu,hij]
 cases o' with
 |gone=>exact absurd rfl ho'
 |free=>cases o<;>simp[Ob.ren,oS]at h
 |ext bs Φ=>cases o<;>simp[Ob.ren,oS]at h
 |mp kt' et' ks' vs'=>
  cases o<;>simp only[Ob.ren,oS]at h;rename_i kt et ks vs;obtain⟨rfl,rfl,rfl,rfl⟩:=h;obtain⟨b,es,ck,h1,h2,h3,h4⟩:=hr;exact⟨⟨b,es,ck,by rw[hρ];exact h1,h2,h3,h4⟩,λc hc=>by simp only[own]at hc⊢;rw[hρ]at hc;exact hc⟩
 |var t' cs'=>
  cases o<;>simp only[Ob.ren,oS]at h;rename_i t cs;obtain⟨rfl,h⟩:=h;obtain⟨b,xs,h1,h2,h3⟩:=hr;exact⟨⟨b,xs,by rw[hρ];exact h1,h2,(h.rel h3).ren⟩,λc hc=>by simp only[own]at hc⊢;rw[hρ]at hc;exact hc⟩
 | row e' sz' els'=>
  cases o<;>simp only[Ob.ren,oS]at h;rename_i e sz els;obtain⟨rfl,rfl,rfl⟩:=h;obtain⟨v,xs,h1,h2,h3⟩:=hr;rw[zT]at h2;exact⟨⟨v,xs,by rw[hρ];exact h1,h2,h3.ren⟩,λc hc=>by obtain⟨q,e1,e2⟩:=hc;exact⟨q,by rw[<-hρ];exact e1,e2⟩⟩
def aw(K:Ctx)(pv:YN):Prop:=∀id x,K.pin id=some x->id∈pv
def xe(σ pv:YN):Bool:=pv.all λi=>match atN σ i with|some j=>Nat.beq i j|none=>false
theorem Fu(hH:leH σ H H'.es)(hn:df σ=true)(G:Nat.ble σ.length H'.nx=true)(hr:HRel S w ρ H.get):HRel S w (gu σ ρ) H'.get∧∀j b,own (gu σ ρ) j (H'.get j) b->∃i,atN σ j=some i∧own ρ i (H.get i) b:=by
 have key:∀j,kx S w (gu σ ρ) j (H'.get j)∧∀b,own (gu σ ρ) j (H'.get j) b->∃i,atN σ j=some i∧own ρ i (H.get i) b:=λj=>by
  unfold Hp.get;split
  ·rcases Aq hH j with e|⟨i,h1,h2⟩
   ·rw[e];exact⟨trivial,λb hb=>hb.elim⟩
   ·by_cases hg:aE H'.es j=.gone
    ·rw[hg];exact⟨trivial,λb hb=>hb.elim⟩
    ·obtain⟨O,Z⟩:=MM h1 h2 hg<|hr.ob i;exact⟨O,λb hb=>⟨i,h1,Z b hb⟩⟩
  ·rename_i J;refine⟨?_,λb hb=>hb.elim⟩;show gu σ ρ j=none;have hj:¬j<H'.nx:=λh=>by rw[nlT h]at J;cases J
   have hl:σ.length<=H'.nx:=Nat.le_of_ble_eq_true G;simp only[gu,ri];rw[List.getElem?_eq_none<|by omega]
 refine⟨⟨λj=>(key j).1,λj b hb=>?_,λi j b hbi hbj=>?_,hr.slt⟩,λj=>(key j).2⟩
 ·obtain⟨i,_,h⟩:=(key j).2 b hb;exact hr.sep i b h
 ·obtain⟨i',h1,h2⟩:=(key i).2 b hbi;obtain⟨j',O,Z⟩:=(key j).2 b hbj;have :=hr.dis i' j' b h2 Z;subst this;exact uF hn i j i' h1 O
def EP.still:EP->Bool
 |.drw .. =>false
 |_=>true
theorem go_sub{p:EP}(σ pv:YN)(hp:p.still=true)(G:aw K pv)(hF:leF σ F F')(hH:leH σ H H'.es)(Z:(df σ&&Nat.ble σ.length H'.nx&&xe σ pv&&Nat.ble F'.length n)=true)(k:Go P K Q p s n F' H'):Go P K Q p s n F H:=λS w ρ a hr hi hf=>by
 simp only[aaa]at Z;obtain⟨⟨⟨h1,h2⟩,h3⟩,h4⟩:=Z;obtain⟨g1,g2⟩:=Fu hH h1 h2 hr;have J:Inv K S w (gu σ ρ) H'.get:=⟨hi.chg,hi.s0,hi.s1,λj b hb=>by obtain⟨i,_,h⟩:=g2 j b hb;exact hi.ow i b h,λid x hx=>by
  have O:=List.all_eq_true.1 h3 id (G id x hx);simp only[gu];split at O
  ·rename_i j hj;have :=aag O;subst this
   first|exact hi.pin id x hx|(rw[hj];exact hi.pin id x hx)
  ·cases O⟩
 have :=k S w (gu σ ρ) a g1 J<|MT hF (Nat.le_of_ble_eq_true h4) hf;cases p with
 |drw=>cases hp
 |code c=>exact this
 |ops all rest=>exact this
 |ex e=>exact this
def SP(K:Ctx)(Post:V->Hp->Prop)(e:Ending)(w':World):Prop:=
 ∃x S' ρ' v H',e=.returned x∧Post v H'∧HRel S' w' ρ' H'.get∧Inv K S' w' ρ' H'.get∧VRel S' w' ρ' v x
def lD(PL:YN)(i:Nat):Ob->Bool
 |.var _ _=>true
 |.ext _ _=>true
 |.mp _ _ _ _=>true
 |.row _ _ _=>PL.contains i
 |_=>false
def xm(PL:YN)(h:Nat->Ob)(ρ:Nat->Option Value):Nat->Option Value:=λi=>match lD PL i (h i)with
 |true=>ρ i
 |false=>none
def bv(PL:YN)(P:Program)(fid:FuncId)(vs:List V)(H0:Hp)(Post:V->Hp->Prop):Prop:=
 ∀S w ρ xs,HRel S w ρ H0.get->LRel S w ρ vs xs->Calls P fid xs.toArray w (SP ⟨w,S,λb=>∃id,own ρ id (H0.get id) b,xm PL H0.get ρ⟩ Post)
abbrev Sum(P:Program)(fid:FuncId)(vs:List V)(H0:Hp)(Post:V->Hp->Prop):Prop:=bv [] P fid vs H0 Post
theorem LM{c:Code}{vs:List V}{Post:V->Hp->Prop}(N:Nat)(pv:YN)(hf:P.funcs[fid]?=some fn)(hb:fn.body=some c)(J:fn.ntmps=N)(O:Nat.ble vs.length N=true)(G:∀i,lD PL i (H0.get i)=true->i∈pv)
  (k:∀K,aw K pv->Go P K (bodyPost P fn<|SP K Post) (.code c) [] N (nL N vs) H0):bv PL P fid vs H0 Post:=λS w ρ xs hr hx=>by
 subst J;have hi:Inv ⟨w,S,λb=>∃id,own ρ id (H0.get id) b,xm PL H0.get ρ⟩ S w ρ H0.get:=⟨ChgP.refl _ _,λ_ h=>h,λ_ h=>.inl h,λid b hb=>.inl ⟨id,hb⟩,λid x h=>by
  simp only[xm]at h;split at h
  ·exact h
  ·cases h⟩
 refine Az hf hb O hr hi hx<|k _ λid x h=>G id ?_;simp only[xm]at h;split at h
 ·assumption
 ·cases h
theorem RQ(J:TabOk P T){rs:List ResultVar}{vs:List V}{e:Exit}(G:fn.results=rs.toArray)(hv:tX T H.get F rs=some vs)(O:Post (oU vs) H)(Z:e=.ret∨e=.normal:=by first|exact .inl rfl|exact .inr rfl):Go P K (bodyPost P fn<|SP K Post) (.ex e) [] n F H:=λS w ρ a hr hi hF=>
 ret_go J Z G hr hF hv λx hx=>⟨x,S,ρ,_,H,rfl,O,hr,hi,hx⟩
end
def mB:YN->Nat->Option Nat
 |[],_=>none
 |x::r,i=>match Nat.beq x i with
  |true=>some 0
  |false=>match mB r i with
   |some j=>some<|j+1
   |none=>none
theorem jq:∀{l:YN} {i j:Nat},mB l i=some j->atN l j=some i
 |[],i,j,h=>by cases h
 | x::r,i,j,h=>by
  simp only[mB]at h;split at h
  ·rename_i hb;have :=aag hb;injection h with h;subst h;subst this;rfl
  ·split at h
   ·rename_i j' hj;injection h with h;subst h
    simpa[atN]using jq hj
   ·cases h
theorem Dh:∀{l:YN} {i:Nat},mB l i=none->∀j,atN l j≠some i
 |[],i,h,j=>by simp[atN]
 | x::r,i,h,0=>by
  simp only[mB]at h;split at h
  ·cases h
  ·rename_i hb;simp only[atN,ne_eq,aad];exact Nat.ne_of_beq_eq_false hb
 | x::r,i,h,j+1=>by
  simp only[mB]at h;split at h
  ·cases h
  ·split at h
   ·cases h
   ·rename_i hn;simpa[atN]using Dh hn j
theorem OW{l:YN}(G:df l=true)(h:atN l j=some i):mB l i=some j:=by
 cases hi:mB l i with
 |none=>exact absurd h<|Dh hi j
 |some k=>rw[uF G k j i (jq hi) h]
def sgN(PL:YN)(nx:Nat)(G:Nat->Ob):Nat->YN->Nat->YN
 |0,_,_=>[]
 |m+1,σ,j=>match σ with
  |[]=>(nx+j)::sgN PL nx G m [] (j+1)
  |i::r=>(match lD PL j (G j)with|true=>i|false=>nx+j)::sgN PL nx G m r (j+1)
theorem Cq(PL:YN)(nx:Nat)(G:Nat->Ob):∀(m:Nat) (σ:YN) (j:Nat),(sgN PL nx G m σ j).length=m
 |0,_,_=>rfl
 |m+1,[],j=>by simp[sgN,Cq PL nx G m]
 |m+1,i::r,j=>by simp[sgN,Cq PL nx G m]
theorem EF(PL:YN)(nx:Nat)(G:Nat->Ob):∀(m:Nat) (σ:YN) (j k:Nat),k<m->atN (sgN PL nx G m σ j) k=some (match atN σ k,lD PL (j+k) (G<|j+k)with|some i,true=>i|_,_=>nx+(j+k))
 |0,_,_,k,h=>by omega
 |m+1,[],j,0,h=>by simp[sgN,atN]
 |m+1,[],j,k+1,h=>by have :=EF PL nx G m [] (j+1) k (by omega);simp only[sgN,atN]at this⊢;rw[this];simp only[show j+1+k=j+(k+1) by omega]
 |m+1,i::r,j,0,h=>by simp only[sgN,atN,Nat.add_zero];cases lD PL j (G j)<;>rfl
 |m+1,i::r,j,k+1,h=>by have :=EF PL nx G m r (j+1) k (by omega);simp only[sgN,atN]at this⊢;rw[this];simp only[show j+1+k=j+(k+1) by omega]
def zb(σ:YN):List (Nat×Ob)->List (Nat×Ob)
 |[]=>[]
 |(j,o)::r=>match atN σ j with
  |some i=>(i,o.ren σ)::zb σ r
  |none=>zb σ r
def tK(σ:YN)(nx:Nat):List (Nat×Ob)->List (Nat×Ob)
 |[]=>[]
 |(j,o)::r=>match !σ.contains j&&Nat.blt j nx with
  |true=>match o with
   |.free=>(j,.gone)::tK σ nx r
   |o=>(j,o)::tK σ nx r
  |false=>tK σ nx r
def pj(PL:YN)(H:Hp)(σ:YN)(H0 H':Hp):Hp:=⟨H.nx+H'.nx,zb (sgN PL H.nx H0.get H'.nx σ 0) H'.es++tK σ H.nx H.es⟩
theorem Cz{σ:YN}(hn:df σ=true){i:Nat}:∀{l:List<|Nat×Ob},aE (zb σ l) i=match mB σ i with|some j=>(aE l j).ren σ|none=>.gone
 |[]=>by simp only[zb,aE];cases mB σ i<;>rfl
 | (k,o)::r=>by
  have ih:=Cz hn (i:=i) (l:=r);simp only[zb];split
  ·rename_i i' hi';simp only[aE];by_cases e:i'=i
   ·subst e;rw[nbT,OW hn hi'];simp only[nbT]
   ·rw[nbF e,ih];cases hj:mB σ i with
    |none=>rfl
    |some j=>
     have hne:k≠j:=λe'=>by subst e';rw[jq hj]at hi';injection hi' with h;exact e h.symm
     simp only[nbF hne]
  ·rename_i hk;rw[ih];cases hj:mB σ i with
   |none=>rfl
   |some j=>
    have hne:k≠j:=λe'=>by subst e';rw[jq hj]at hk;cases hk
    simp only[aE,nbF hne]
theorem Dg{σ:YN}{nx i:Nat}:∀{l:List<|Nat×Ob},aE (tK σ nx l) i=.gone∨(aE (tK σ nx l) i=aE l i∧σ.contains i=false∧i<nx∧aE l i≠.free)
 |[]=>.inl rfl
 | (k, o)::r=>by
  have ih:=Dg (σ:=σ) (nx:=nx) (i:=i) (l:=r);simp only[tK];by_cases hk:k=i
  ·subst hk;cases hc:(!σ.contains k&&Nat.blt k nx)
   ·simp only;left;have key:∀(l:List<|Nat×Ob),aE (tK σ nx l) k=.gone:=by
     intro l
     induction l with
     |nil=>rfl
     | cons q t ih=>
      obtain⟨m,o'⟩:=q;simp only[tK];by_cases hm:m=k
      ·subst hm;rw[hc];exact ih
      ·cases hc':(!σ.contains m&&Nat.blt m nx)
       ·exact ih
       ·cases o'<;>(simp only[aE,nbF hm];exact ih)
    exact key r
   ·simp only[aaa,Bool.not_eq_true']at hc;have hlt:k<nx:=by simpa[Nat.blt_eq]using hc.2
    cases o with
    |free=>left;simp only[aE,nbT]
    |gone=>left;simp only[aE,nbT]
    |var t cs=>right;simp only[aE,nbT];exact⟨trivial,hc.1,hlt,by simp⟩
    |row e sz els=>right;simp only[aE,nbT];exact⟨trivial,hc.1,hlt,by simp⟩
    |ext bs Φ=>right;simp only[aE,nbT];exact⟨trivial,hc.1,hlt,by simp⟩
    |mp kt et ks vs=>right;simp only[aE,nbT];exact⟨trivial,hc.1,hlt,by simp⟩
  ·have e2:aE ((k,o)::r) i=aE r i:=by simp only[aE,nbF hk]
   rw[e2];cases hc:(!σ.contains k&&Nat.blt k nx)
   ·exact ih
   ·cases o<;>(simp only[aE,nbF hk];exact ih)
theorem yx:∀{l:YN},(∀i j x,atN l i=some x->atN l j=some x->i=j)->df l=true
 |[],_=>rfl
 | y::r,h=>by
  simp only[df,aaa,Bool.not_eq_true'];refine⟨?_,yx λi j x hi hj=>by have :=h (i+1) (j+1) x (by simpa[atN]using hi) (by simpa[atN]using hj);omega⟩;cases hc:r.contains y
  ·rfl
  ·exfalso;have hm:y∈r:=by simpa using hc
   obtain⟨k,hk,e⟩:=aat hm;have :=h 0 (k+1) y (by simp[atN]) (by simp only[atN,ri];rw[List.getElem?_eq_getElem hk,e]);omega
variable{ρ:Nat->Option Value}
section
variable{P:Program}{K:Ctx}{H H0:Hp}{σ:YN}{S:Nat->Prop}{w:World}
theorem RV{ρ':Nat->Option Value}{o:Ob}(hσ:∀j x,ρ j=some x->∃i,atN σ j=some i∧ρ' i=some x)(hj:atN σ j=some i)(O:ρ j=none->ρ' i=none∨o≠.free)(h:kx S w ρ j o):kx S w ρ' i (o.ren σ)∧∀b,own ρ' i (o.ren σ) b->own ρ j o b:=by
 have hs:∀x,ρ j=some x->ρ' i=some x:=λx hx=>by
  obtain⟨i',h1,h2⟩:=hσ j x hx;rw[hj]at h1;injection h1 with h1;subst h1;exact h2
 cases o with
 |free=>exact⟨(O h).resolve_right (by simp),λb hb=>hb⟩
 |gone=>exact⟨trivial,λb hb=>hb⟩
 |ext bs Φ=>exact⟨h,λb hb=>hb⟩
 |mp kt et ks vs=>
  obtain⟨b,es,ck,h1,h2,J⟩:=h;refine⟨⟨b,es,ck,hs _ h1,h2,J⟩,λc G=>?_⟩;simp only[Ob.ren,own]at G⊢;rw[hs _ h1]at G;rw[h1];exact G
 |var t cs=>
  obtain⟨b,xs,h1,h2,J⟩:=h;refine⟨⟨b,xs,hs _ h1,h2,J.bwd hσ⟩,λc G=>?_⟩;simp only[Ob.ren,own]at G⊢;rw[hs _ h1]at G;rw[h1];exact G
 |row e sz els=>
  obtain⟨v,xs,h1,h2,J⟩:=h;refine⟨⟨v,xs,hs _ h1,by rw[zT];exact h2,J.bwd hσ⟩,λc G=>?_⟩;obtain⟨q,Z,e2⟩:=G;rw[hs _ h1]at Z;cases Z;exact⟨v,h1,e2⟩
theorem wX{vs:List V}(hS:bv PL P fid us H0 Post)(σ:YN)(hv:aD vs<|renL σ us)(hH:leH σ H H0.es)(hc:(df σ&&Nat.beq σ.length H0.nx&&σ.all λi=>Nat.blt i H.nx)=true)(L:YN)(hL:(db H.get L&&L.all λi=>!σ.contains i)=true):
  CallR P K fid vs H L (λv' H''=>∃v H',Post v H'∧v'=v.ren (sgN PL H.nx H0.get H'.nx σ 0)∧H''=pj PL H σ H0 H'):=λS w ρ xs hr hi hx=>by
 simp only[aaa]at hc hL;obtain⟨⟨hc1,hc2⟩,hc3⟩:=hc;have hlen:σ.length=H0.nx:=by simpa using hc2
 have hσlt:∀j i,atN σ j=some i->i<H.nx:=λj i h=>by rw[ri]at h;have :=List.all_eq_true.1 hc3 i (List.mem_of_getElem? h);simpa[Nat.blt_eq]using this
 obtain⟨g1,g2⟩:=Fu (H':=H0) hH hc1 (by simp[hlen]) hr;refine(hS S w (gu σ ρ) xs g1<|(hv.rel hx).ren).mono λe w' hR=>?_;obtain⟨x,S',ρ1,v,H',rfl,hP,hr',hi',hvr⟩:=hR;obtain⟨τ,hτ⟩:∃τ,τ=sgN PL H.nx H0.get H'.nx σ 0:=⟨_,rfl⟩;have hτlen:τ.length=H'.nx:=by rw[hτ];exact Cq _ _ _ _ _ _
 have hτat:∀j,j<H'.nx->atN τ j=some (match atN σ j,lD PL j (H0.get j)with|some i,true=>i|_,_=>H.nx+j):=λj hj=>by rw[hτ,EF _ _ _ _ _ _ _ hj];simp only[Nat.zero_add]
 have hτlt:∀j i,atN τ j=some i->j<H'.nx:=λj i h=>by rw[ri]at h;have :=(List.getElem?_eq_some_iff.1 h).1;omega
 have hτc:∀j i,atN τ j=some i->(atN σ j=some i∧lD PL j (H0.get j)=true)∨i=H.nx+j:=λj i h=>by
  have hj:=hτlt j i h;rw[hτat j hj]at h;simp only[aad]at h;cases h1:atN σ j with
  |none=>rw[h1]at h;exact .inr h.symm
  |some i1=>
   rw[h1]at h;cases h2:lD PL j<|H0.get j
   ·rw[h2]at h;exact .inr h.symm
   ·rw[h2]at h;simp only at h;subst h;exact .inl ⟨rfl,rfl⟩
 have hτbd:∀j i,atN τ j=some i->i<H.nx+H'.nx:=λj i h=>by
  have hj:=hτlt j i h;rcases hτc j i h with⟨h1,_⟩|h1
  ·have :=hσlt j i h1;omega
  ·omega
 have hτinj:df τ=true:=yx λj k i h1 h2=>by
  rcases hτc j i h1 with⟨a1,_⟩|a1<;>rcases hτc k i h2 with⟨a2,_⟩|a2
  ·exact uF hc1 j k i a1 a2
  ·have :=hσlt j i a1;omega
  ·have :=hσlt k i a2;omega
  ·omega
 have hfreeρ:∀i,H.nx<=i->ρ i=none:=λi hi'=>by
  have :=hr.ob i;have e:H.get i=.free:=by
   unfold Hp.get;have :Nat.blt i H.nx=false:=by cases hb:Nat.blt i H.nx;rfl;simp[Nat.blt_eq]at hb;omega
   rw[this]
  rw[e]at this;exact this
 have hfree1:∀j,H'.nx<=j->ρ1 j=none:=λj hj=>by
  have :=hr'.ob j;have e:H'.get j=.free:=by
   unfold Hp.get;have :Nat.blt j H'.nx=false:=by cases hb:Nat.blt j H'.nx;rfl;simp[Nat.blt_eq]at hb;omega
   rw[this]
  rw[e]at this;exact this
 obtain⟨ρ2,hρ2⟩:∃ρ2:Nat->Option Value,ρ2=λi=>if i<H.nx then ρ i else ρ1 (i-H.nx):=⟨_,rfl⟩
 have hup:∀i y,ρ i=some y->ρ2 i=some y:=λi y h=>by
  by_cases hlt:i<H.nx
  ·rw[hρ2];simp only[hlt,if_true];exact h
  ·rw[hfreeρ i<|by omega]at h;cases h
 have hpin:∀j,lD PL j (H0.get j)=true->∀y,gu σ ρ j=some y->ρ1 j=some y:=λj hv y h=>hi'.pin j y (by simp only[xm,hv];exact h);have hnoext:∀j i,atN σ j=some i->∀bs Φ,H0.get j=.ext bs Φ->False:=λj i h1 bs Φ hy'=>by
  have hl:=Aq hH j;have hlt:j<H0.nx:=by rw[<-hlen];rw[ri]at h1;exact(List.getElem?_eq_some_iff.1 h1).1
  have e0:H0.get j=aE H0.es j:=by unfold Hp.get;rw[nlT hlt]
  rw[<-e0,hy']at hl;rcases hl with hl|⟨i',_,hl⟩
  ·cases hl
  ·cases ho:H.get i'<;>rw[ho]at hl<;>simp[Ob.ren,oS]at hl
 have hτρ:∀j y,ρ1 j=some y->∃i,atN τ j=some i∧ρ2 i=some y:=λj y h=>by
  have hj:j<H'.nx:=by
   rcases Nat.lt_or_ge j H'.nx with h1|h1
   ·exact h1
   ·rw[hfree1 j h1]at h;cases h
  obtain⟨i,hji⟩:∃i,atN τ j=some i:=⟨_,hτat j hj⟩;refine⟨i,hji,?_⟩;rcases hτc j i hji with⟨h1,h2⟩|h1
  ·
   have hob:=g1.ob j;have hsome:∃y',gu σ ρ j=some y'∨∃bs Φ,H0.get j=.ext bs Φ:=by
    cases ho:H0.get j with
    |var t cs=>rw[ho]at hob;obtain⟨b,_,hb,_⟩:=hob;exact⟨_,.inl hb⟩
    |row e sz els=>rw[ho]at hob;obtain⟨b,_,hb,_⟩:=hob;exact⟨_,.inl hb⟩
    |ext bs Φ=>exact⟨.bool true,.inr ⟨bs,Φ,rfl⟩⟩
    |mp kt et ks vs=>rw[ho]at hob;obtain⟨b,_,_,hb,_⟩:=hob;exact⟨_,.inl hb⟩
    |_=>rw[ho]at h2;cases h2
   obtain⟨y',hy'|⟨bs,Φ,hy'⟩⟩:=hsome
   ·have :=hpin j h2 y' hy';rw[h]at this;injection this with this;subst this
    simp only[gu,h1]at hy';exact hup _ _ hy'
   ·exact(hnoext j i h1 bs Φ hy').elim
  ·subst h1;rw[hρ2];simp only[show¬H.nx+j<H.nx by omega,if_false,Nat.add_sub_cancel_left];exact h
 obtain⟨h1',hh1'⟩:∃h1':Nat->Ob,h1'=λi=>match mB τ i with|some j=>(H'.get j).ren τ|none=>if i<H.nx+H'.nx then .gone else .free:=⟨_,rfl⟩
 obtain⟨h1,hh1⟩:∃h1:Nat->Ob,h1=λi=>match σ.contains i with|true=>H.get i|false=>.gone:=⟨_,rfl⟩
 have hin:∀i,h1 i=H.get i∨h1 i=.gone:=λi=>by rw[hh1];simp only[];cases σ.contains i<;>simp
 have hkey:∀i,kx S' w' ρ2 i (h1' i)∧∀b,own ρ2 i (h1' i) b->∃j,mB τ i=some j∧own ρ1 j (H'.get j) b:=λi=>by
  rw[hh1'];simp only[];cases hj:mB τ i with
  | none=>
   simp only[];split
   ·exact⟨trivial,λb hb=>hb.elim⟩
   ·rename_i hlt;refine⟨?_,λb hb=>hb.elim⟩;show ρ2 i=none;rw[hρ2];simp only[show¬i<H.nx by omega,if_false];exact hfree1 _ (by omega)
  | some j=>
   have hat:=jq hj;obtain⟨k1,k2⟩:=RV hτρ hat (λhn=>by
    have hjl:=hτlt j i hat;by_cases hf:H'.get j=.free
    ·left;rcases hτc j i hat with⟨a1,a2⟩|a1
     ·
      have hob:=g1.ob j;exfalso;cases ho:H0.get j with
      |var t cs=>
       rw[ho]at hob;obtain⟨b,_,hb,_⟩:=hob;have :=hpin j a2 _ hb;rw[hn]at this;cases this
      |row e sz els=>
       rw[ho]at hob;obtain⟨b,_,hb,_⟩:=hob;have :=hpin j a2 _ hb;rw[hn]at this;cases this
      |ext bs Φ=>exact hnoext j i a1 bs Φ ho
      |mp kt et ks vs=>
       rw[ho]at hob;obtain⟨b,_,_,hb,_⟩:=hob;have :=hpin j a2 _ hb;rw[hn]at this;cases this
      |_=>rw[ho]at a2;cases a2
     ·subst a1;rw[hρ2];simp only[show¬H.nx+j<H.nx by omega,if_false,Nat.add_sub_cancel_left];exact hn
    ·exact .inr hf) (hr'.ob j)
   exact⟨k1,λb hb=>⟨j,I,k2 b hb⟩⟩
 have hX:∀b,(∃id,own (gu σ ρ) id (H0.get id) b)->∃id,own ρ id (h1 id) b:=λb ⟨id,hb⟩=>by
  obtain⟨i,h2,h3⟩:=g2 id b hb;refine⟨i,?_⟩;have hm:σ.contains i=true:=by rw[ri]at h2;simpa using List.mem_of_getElem? h2
  rw[hh1];simp only[hm];exact h3
 have hrel1:HRel S' w' ρ2 h1':=⟨λi=>(hkey i).1,λi b hb=>by obtain⟨j,_,h⟩:=(hkey i).2 b hb;exact hr'.sep j b h,λi k b hbi hbk=>by obtain⟨j,e1,h1⟩:=(hkey i).2 b hbi;obtain⟨j',e2,h2⟩:=(hkey k).2 b hbk;have :=hr'.dis j j' b h1 h2;subst this;have a1:=jq e1;have a2:=jq e2;rw[a1]at a2;injection a2,hr'.slt⟩
 have hinv1:Inv ⟨w,S,λb=>∃id,own ρ id (h1 id) b,ρ⟩ S' w' ρ2 h1':=⟨hi'.chg.mono hX,hi'.s0,λb hb=>by
  rcases hi'.s1 b hb with h|h|h
  ·exact .inl h
  ·exact .inr<|.inl<|hX b h
  ·exact .inr<|.inr h,λi b hb=>by
  obtain⟨j,_,h⟩:=(hkey i).2 b hb;rcases hi'.ow j b h with h|h
  ·exact .inl<|hX b h
  ·exact .inr h,λid y h=>hup id y h⟩
 have hh2:∀i,((pj PL H σ H0 H').get i=h1' i∨(pj PL H σ H0 H').get i=.gone)∨((pj PL H σ H0 H').get i=H.get i∧h1 i=.gone∧H.get i≠.free):=λi=>by
  by_cases hlt:i<H.nx+H'.nx
  ·have e0:(pj PL H σ H0 H').get i=aE (zb τ H'.es++tK σ H.nx H.es) i:=by
    unfold Hp.get pj;simp only[nlT hlt,hτ]
   rw[e0];rcases FZ (zb τ H'.es) (tK σ H.nx H.es) i with e|⟨_,e⟩
   ·rw[e,Cz hτinj];cases hj:mB τ i with
    |none=>exact .inl<|.inr rfl
    |some j=>
     left;left;rw[hh1'];simp only[hj];have hjl:=hτlt j i<|jq hj;unfold Hp.get;rw[nlT hjl]
   ·rw[e];rcases Dg (σ:=σ) (nx:=H.nx) (i:=i) (l:=H.es)with e1|⟨e1,e2,e3,e4⟩
    ·exact .inl<|.inr e1
    ·right;have eH:H.get i=aE H.es i:=by unfold Hp.get;rw[nlT e3]
     refine⟨by rw[e1,eH],?_,by rw[eH];exact e4⟩;rw[hh1];simp only[e2]
  ·left;left;have e0:(pj PL H σ H0 H').get i=.free:=by
    unfold Hp.get pj;have :Nat.blt i (H.nx+H'.nx)=false:=by cases hb:Nat.blt i<|H.nx+H'.nx;rfl;simp[Nat.blt_eq]at hb;omega
    simp only[this]
   rw[e0,hh1'];simp only[];cases hj:mB τ i with
   |none=>simp only[hlt,if_false]
   |some j=>have :=hτbd j i<|jq hj;omega
 obtain⟨m1,m2,m3,m4⟩:=Fb (h2:=(pj PL H σ H0 H').get) hr hi hin hrel1 hinv1 hh2;refine⟨x,S',ρ2,_,_,I,⟨v,H',hP,I,I⟩,m1,m2,m3,by rw[<-hτ];exact hvr.bwd hτρ,m4 L hL.1 λid hid=>?_⟩;have :=List.all_eq_true.1 hL.2 id hid;simp only[Bool.not_eq_true']at this;rw[hh1];simp only[this]
end
variable{α:Type}
section
variable(T:Tab)
def opS(F:Fm)(H:Hp)(o:Oper)(c:Fm->Hp->Option α):Option α:=
 match qf T H.get F o.op with
 |some v=>F.puto o.dst (some v) λF'=>c F' H
 |none=>match mJ T H.get F H.nx o.op with
  |some (v,ed)=>H.ap ed λH'=>match v with
   |some v=>F.puto o.dst (some v) λF'=>c F' H'
   |none=>F.puto o.dst (some<|.tup []) λF'=>c F' H'
  |none=>none
def gZ:Nat->EP->List EI->Fm->Hp->Option (EP×List EI×Fm×Hp)
 |0,p,s,F,H=>some (p,s,F,H)
 |k+1,.code c,s,F,H=>match c with
  |.seq x y=>gZ k (.code x) (.seq y::s) F H
  |.block id c=>gZ k (.code c) (.blk id::s) F H
  |.skip=>gZ k (.ex .normal) s F H
  |.ret=>gZ k (.ex .ret) s F H
  |.exit id=>gZ k (.ex<|.exit id) s F H
  |.cond c x y=>match aO F c with
   |some (.bool true)=>gZ k (.code x) s F H
   |some (.bool false)=>gZ k (.code y) s F H
   |_=>none
  |.region _ ⟨l⟩ false=>gZ k (.ops ⟨l⟩ l) s F H
  |_=>none
 |k+1,.ops all rest,s,F,H=>match rest with
  |[]=>gZ k (.ex .normal) s F H
  |o::r=>match bt F all o.guard with
   |some true=>opS T F H o λF' H'=>gZ k (.ops all r) s F' H'
   |some false=>F.puto o.dst (some<|.tup []) λF'=>gZ k (.ops all r) s F' H
   |none=>none
 |k +1,.ex e,s,F,H=>match s with
  |[]=>none
  |.seq c::s=>match e with
   |.normal=>gZ k (.code c) s F H
   |.exit i=>gZ k (.ex<|.exit i) s F H
   |.ret=>gZ k (.ex .ret) s F H
   |_=>none
  |.blk id::s=>match e with
   |.normal=>gZ k (.ex .normal) s F H
   |.exit i=>match Nat.beq i id with
    |true=>gZ k (.ex .normal) s F H
    |false=>gZ k (.ex<|.exit i) s F H
   |.ret=>gZ k (.ex .ret) s F H
   |_=>none
  |_=>none
 |k+1,.drw ..,_,_,_=>none
def rn (all:Array Oper) (L:List Nat):List (Nat×Nat)->Fm->Hp->Option (Fm×Hp)
 |[],F,H=>some (F,H)
 |(i, f)::r,F,H=>match all[i]? with
  |some o=>match bt F all o.guard with
   |some false=>F.puto o.dst (some<|.tup []) λF'=>rn all L r F' H
   |some true=>match f with
    |2=>match qf T H.get F o.op with
     |some v=>F.puto o.dst (some v) λF'=>rn all L r F' H
     |none=>none
    |3 =>match sx F o.op with
     |some id=>match L.contains id with
      |true=>match mJ T H.get F H.nx o.op with
       |some (some v,_)=>F.puto o.dst (some v) λF'=>rn all L r F' H
       |_=>none
      |false=>none
     |none=>none
    |f =>match qf T H.get F o.op with
     |some v=>F.puto o.dst (some v) λF'=>rn all L r F' H
     |none=>match mJ T H.get F H.nx o.op with
      |some (v,ed)=>match(db H.get L&&ed.clear L)||Nat.beq f 1 with
       |true=>H.ap ed λH'=>match v with
        |some v=>F.puto o.dst (some v) λF'=>rn all L r F' H'
        |none=>F.puto o.dst (some<|.tup []) λF'=>rn all L r F' H'
       |false=>none
      |none=>none
   |none=>none
  |none=>none
end
def FY(all:Array Oper)(m:Nat):List (Nat×Nat)->Array Bool->Bool
 |[],_=>true
 |(i,f)::r,listed=>(match f with
  |2=>!Nat.beq i m&&Region.free .any all listed i&&(Region.ready .any all listed).contains i
  |3=>!Nat.beq i m&&Region.free .any all listed i&&(Region.ready .any all listed).contains i&&zl .any all m i&&!listed.getD m false
  |1=>(match Region.ready .any all listed with|[j]=>Nat.beq i j|_=>false)&&(listed.setIfInBounds i true).getD m false
  |_=>(match Region.ready .any all listed with|[j]=>Nat.beq i j|_=>false))&&FY all m r (listed.setIfInBounds i true)
def Ji:List (Nat×Nat)->Array Bool->Array Bool
 |[],l=>l
 |(i,_)::r,l=>Ji r<|l.setIfInBounds i true
variable{l:Int}
variable{t e:TypeId}{sz:Nat}
variable{els:List V}{ty:TypeId}
variable{cs:List V}
section
variable{P:Program}{T:Tab}{K:Ctx}{Q:Exit->Act->World->Prop}{p p':EP}{s s':List EI}{n:Nat}{F F' F1 F2:Fm}{H H' H1:Hp}
theorem Rd(G:TabOk P T){all:Array Oper}{rest:List Oper}{o:Oper}{c:Fm->Hp->Option α}{x:α}(J:bt F all o.guard=some true)(h:opS T F H o c=some x):∃F' H',c F' H'=some x∧(Go P K Q (.ops all rest) s n F' H'->Go P K Q (.ops all<|o::rest) s n F H):=by
 unfold opS at h;split at h
 ·rename_i v hv;rw[Fm.puto_eq]at h;exact⟨_,_,h,λk=>go_opP G J hv k⟩
 ·split at h
  ·rename_i v ed hv;rw[Hp.ap_eq]at h;cases v with
   |none=>
    simp only[Fm.puto_eq]at h;exact⟨_,_,h,λk=>go_opE G J hv k⟩
   |some v=>
    simp only[Fm.puto_eq]at h;exact⟨_,_,h,λk=>go_opE G J hv k⟩
  ·cases h
theorem dG(hT:TabOk P T):∀(k:Nat) (p:EP) (s:List EI) (F:Fm) (H:Hp),gZ T k p s F H=some (p',s',F',H')->Go P K Q p' s' n F' H'->Go P K Q p s n F H
 |0,p,s,F,H,h,kk=>by simp only[gZ,aad,Prod.mk.injEq]at h;obtain⟨rfl,rfl,rfl,rfl⟩:=h;exact kk
 | k+1,.code c,s,F,H,h,kk=>by
  unfold gZ at h;split at h
  ·exact Lp<|dG hT k _ _ _ _ h kk
  ·exact EM<|dG hT k _ _ _ _ h kk
  ·exact Ha<|dG hT k _ _ _ _ h kk
  ·exact go_ret<|dG hT k _ _ _ _ h kk
  ·exact Hw<|dG hT k _ _ _ _ h kk
  ·split at h
   ·exact DS ‹_› (dG hT k _ _ _ _ h kk)
   ·exact DX ‹_› (dG hT k _ _ _ _ h kk)
   ·cases h
  ·exact Cy<|dG hT k _ _ _ _ h kk
  ·cases h
 | k+1,.ops all rest,s,F,H,h,kk=>by
  unfold gZ at h;split at h
  ·exact Kq<|dG hT k _ _ _ _ h kk
  ·split at h
   ·obtain⟨F1,H1,h1,h2⟩:=Rd (P:=P) (K:=K) (Q:=Q) (s:=s) (n:=n) hT ‹_› h;exact h2<|dG hT k _ _ _ _ h1 kk
   ·rw[Fm.puto_eq]at h;exact KO ‹_› (dG hT k _ _ _ _ h kk)
   ·cases h
 | k+1,.ex e,s,F,H,h,kk=>by
  unfold gZ at h;split at h
  ·cases h
  ·split at h
   ·exact GM<|dG hT k _ _ _ _ h kk
   ·exact FM<|dG hT k _ _ _ _ h kk
   ·exact En<|dG hT k _ _ _ _ h kk
   ·cases h
  ·split at h
   ·exact EU<|dG hT k _ _ _ _ h kk
   ·split at h
    ·exact Fa ‹_› (dG hT k _ _ _ _ h kk)
    ·exact Er ‹_› (dG hT k _ _ _ _ h kk)
   ·exact EX<|dG hT k _ _ _ _ h kk
   ·cases h
  ·cases h
 |k+1,.drw ..,s,F,H,h,kk=>by simp[gZ]at h
variable{all:Array Oper}{rest:List Oper}{o:Oper}{L:YN}{m fuel:Nat}{listed:Array Bool}
theorem CL(h:(match Region.ready .any all listed with|[j]=>Nat.beq i j|_=>false)=true):Region.ready .any all listed=[i]:=by
 split at h
 ·rename_i j G;rw[G,aag h]
 ·cases h
theorem pn (hT:TabOk P T):∀(is:List<|Nat×Nat) (fuel:Nat) (listed:Array Bool) (F:Fm) (H:Hp),FY all m is listed=true->rn T all L is F H=some (F',H')->Go P K Q (.drw all L m fuel<|Ji is listed) s n F' H'->Go P K Q (.drw all L m (fuel+is.length) listed) s n F H
 |[],fuel,listed,F,H,hc,hr,k=>by simp only[rn,aad,Prod.mk.injEq]at hr;obtain⟨rfl,rfl⟩:=hr;exact k
 | (i, f)::r,fuel,listed,F,H,hc,hr,k=>by
  simp only[FY,aaa]at hc;obtain⟨hc1,hc2⟩:=hc;show Go P K Q (.drw all L m (fuel+r.length+1) listed) s n F H;unfold rn at hr;split at hr
  ·rename_i o ho;split at hr
   ·rename_i hw;rw[Fm.puto_eq]at hr;have ih:=pn hT r fuel _ _ _ hc2 hr k;have single:(match Region.ready .any all listed with|[j]=>Nat.beq i j|_=>false)=true->Go P K Q (.drw all L m (fuel+r.length+1) listed) s n F H:=λhx=>go_d1S (CL hx) ho hw ih;split at hc1
    ·simp only[aaa,Bool.not_eq_true']at hc1;exact IS hc1.1.1 ho hc1.1.2 hc1.2 hw ih
    ·simp only[aaa,Bool.not_eq_true']at hc1;exact IS hc1.1.1.1.1 ho hc1.1.1.1.2 hc1.1.1.2 hw ih
    ·simp only[aaa]at hc1;exact single hc1.1
    ·exact single hc1
   ·rename_i hw;split at hr
    ·split at hr
     ·rename_i v hv;rw[Fm.puto_eq]at hr;have ih:=pn hT r fuel _ _ _ hc2 hr k;simp only[aaa,Bool.not_eq_true']at hc1;exact NP hT hc1.1.1 ho hc1.1.2 hc1.2 hw hv ih
     ·cases hr
    ·split at hr
     ·rename_i id hid;split at hr
      ·rename_i hL;split at hr
       ·rename_i v ed hv;rw[Fm.puto_eq]at hr;have ih:=pn hT r fuel _ _ _ hc2 hr k;simp only[aaa,Bool.not_eq_true']at hc1;exact Js hT hc1.1.1.1.1 hc1.1.2 hc1.2 ho hc1.1.1.1.2 hc1.1.1.2 hw hid hL hv ih
       ·cases hr
      ·cases hr
     ·cases hr
    ·rename_i h2 h3;have hs:(match Region.ready .any all listed with|[j]=>Nat.beq i j|_=>false)=true∧(Nat.beq f 1=true->(listed.setIfInBounds i true).getD m false=true):=by
      split at hc1
      ·exact absurd I h2
      ·exact absurd I h3
      ·simp only[aaa]at hc1;exact⟨hc1.1,λ_=>hc1.2⟩
      ·rename_i h1;exact⟨hc1,λhb=>absurd (aag hb) h1⟩
     have hrd:=CL hs.1;split at hr
     ·rename_i v hv;rw[Fm.puto_eq]at hr;have ih:=pn hT r fuel _ _ _ hc2 hr k;exact LQ hrd ho hw (λS w ρ a hr hF=>wQ hT hr hF hv) ih
     ·split at hr
      ·rename_i v ed hv;split at hr
       ·rename_i hcl;rw[Hp.ap_eq]at hr;have hcl':((db H.get L&&ed.clear L)||(listed.setIfInBounds i true).getD m false)=true:=by
         rcases zt hcl with h|h
         ·rw[h];rfl
         ·rw[hs.2 h];simp
        cases v with
        |none=>
         simp only[Fm.puto_eq]at hr;exact Fw hrd ho hw (λS w ρ a hr hF=>zo hT hr hF H.get_free hv) (uP hv) hcl'<|pn hT r fuel _ _ _ hc2 hr k
        |some v=>
         simp only[Fm.puto_eq]at hr;exact Fw hrd ho hw (λS w ρ a hr hF=>zo hT hr hF H.get_free hv) (uP hv) hcl'<|pn hT r fuel _ _ _ hc2 hr k
       ·cases hr
      ·cases hr
   ·cases hr
  ·cases hr
theorem tu{d:Nat}{v O:V}(Z:F.get d=some v)(hs:cq v O)(k:Go P K Q p s n (F.set d<|some O) H):Go P K Q p s n F H:=λS w ρ a hr hi J=>by
 refine k S w ρ a hr hi ⟨J.size,J.defers,J.gl,by have :=J.len;simpa using this,λi u G=>?_⟩;rw[Fm.get_eq,List.getElem?_set]at G;split at G
 ·rename_i e;subst e;split at G
  ·simp only[Option.bind_some,id_eq,aad]at G;subst G;obtain⟨x,h1,h2⟩:=J.get d v Z;exact⟨x,h1,hs _ _ _ _ h2⟩
  ·cases G
 ·exact J.get i u (by rw[Fm.get_eq];exact G)
theorem gB{e:Bool}(d:Nat)(J:F.get d=some (.bool e))(h1:F.put d (some<|.bool true) id=F1)(h2:F.put d (some<|.bool false) id=F2)(kT:e=true->Go P K Q p s n F1 H)(kF:e=false->Go P K Q p s n F2 H):Go P K Q p s n F H:=by
 rw[Fm.put_eq]at h1 h2;subst h1 h2;cases G:e with
 |true=>exact tu J (by rw[G];exact cq.rfl)<|kT G
 |false=>exact tu J (by rw[G];exact cq.rfl)<|kF G
theorem gT{e:Bool}(d:Nat)(G:F.get d=some (.bool e))(J:e=true)(h1:F.put d (some<|.bool true) id=F1)(k:Go P K Q p s n F1 H):Go P K Q p s n F H:=by rw[Fm.put_eq]at h1;subst h1;exact tu G (by rw[J];exact cq.rfl) k
theorem gF{e:Bool}(d:Nat)(G:F.get d=some (.bool e))(J:e=false)(h1:F.put d (some<|.bool false) id=F1)(k:Go P K Q p s n F1 H):Go P K Q p s n F H:=by rw[Fm.put_eq]at h1;subst h1;exact tu G (by rw[J];exact cq.rfl) k
theorem gV{v:V}(d:Nat)(G:V)(J:F.get d=some v)(O:v=G)(h1:F.put d (some G) id=F1)(k:Go P K Q p s n F1 H):Go P K Q p s n F H:=by rw[Fm.put_eq]at h1;subst h1;exact tu J (by rw[O];exact cq.rfl) k
theorem am{m:Int}(h:-9223372036854775808<=m∧m<=9223372036854775807)(e:m=l):V.int .i64 (IntKind.i64.wrap m)=.int .i64 l:=by
 subst e;rw[IntWalk.i64_in _<|by omega]
def slT(T:Tab)(t:TypeId):Option (TypeId×Nat):=match T.ty t with
 |some ⟨_,_,_,.sl e⟩=>match T.ty e with
  |some ⟨sz,_,_,_⟩=>some (e,sz)
  |none=>none
 |_=>none
theorem qH(G:TabOk P T)(h:slT T t=some (e,sz)):P.underlying t=some (.slice e)∧gc P e=some sz:=by
 unfold slT at h;split at h
 ·rename_i ht;split at h
  ·rename_i J;simp only[aad,Prod.mk.injEq]at h;obtain⟨rfl,rfl⟩:=h;exact⟨(G.ty _ _ ht).sl I,(G.ty _ _ J).size⟩
  ·cases h
 ·cases h
theorem yIR(J:TabOk P T){y:Operand}{v:V}(ht:slT T t=some (e,sz))(hx:aO F x=some (.row sz els))(hy:aO F y=some (.int .i64 (i:Int)))(hi:els[i]?=some v):∀S w ρ a,HRel S w ρ H.get->FRel S w ρ a n F->Yld P S w ρ a ty (.indexAddr t x y) (.box v.cells 0):=λS w ρ a hr G=>
 p_idxR G.fr (qH J ht).1 (qH J ht).2 (au G hx) (au G hy) hi
theorem yIO(J:TabOk P T){O:TypeId}{y:Operand}{id:Nat}(ht:slT T t=some (e,sz))(hx:aO F x=some (.sl id))(Z:H.get id=.row O sz els)(hy:aO F y=some (.int .i64 (i:Int)))(hi:i<els.length):∀S w ρ a,HRel S w ρ H.get->FRel S w ρ a n F->Yld P S w ρ a ty (.indexAddr t x y) (.el id sz i 0):=λS w ρ a hr G=>
 p_idxO hr Z G.fr (qH J ht).1 (qH J ht).2 (au G hx) (au G hy) hi
theorem gY{v:V}(hy:∀S w ρ a,HRel S w ρ H.get->FRel S w ρ a n F->Yld P S w ρ a o.type o.op v)(G:bt F all o.guard=some true)(h1:F.puto o.dst (some v) id=F1)(k:Go P K Q (.ops all rest) s n F1 H):Go P K Q (.ops all<|o::rest) s n F H:=by rw[Fm.puto_eq]at h1;subst h1;exact go_opY G hy k
mutual
def mapV(f:V->V):V->V
 |.agg cs=>.agg<|mapVs f cs
 |.tup cs=>.tup<|mapVs f cs
 |.clo fid cs=>.clo fid<|mapVs f cs
 |.sl j=>f<|.sl j
 |.int k n=>f<|.int k n
 |.bool b=>f<|.bool b
 |.str l=>f<|.str l
 |.nilp=>f .nilp
 |.nils=>f .nils
 |.raw x=>f<|.raw x
 |.ptr i o=>f<|.ptr i o
 |.el i sz j o=>f<|.el i sz j o
 |.box cs o=>f<|.box cs o
 |.row sz els=>f<|.row sz els
 |.lk els=>f<|.lk els
 |.np i=>f<|.np i
def mapVs(f:V->V):List V->List V
 |[]=>[]
 |v::r=>mapV f v::mapVs f r
end
mutual
theorem VRel.mapV{S S':Nat->Prop}{w:World}{ρ:Nat->Option Value}{f:V->V}(hf:∀v x,VRel S w ρ v x->VRel S' w ρ (f v) x):∀{v:V} {x:Value},VRel S w ρ v x->VRel S' w ρ (mapV f v) x
 |.int _ _,x,h=>by simp only[Go.Proofs.YthnohcipianijaaGreatDoor.mapV];exact hf _ _ h
 |.bool _,x,h=>by simp only[Go.Proofs.YthnohcipianijaaGreatDoor.mapV];exact hf _ _ h
 |.str _,x,h=>by simp only[Go.Proofs.YthnohcipianijaaGreatDoor.mapV];exact hf _ _ h
 |.nilp,x,h=>by simp only[Go.Proofs.YthnohcipianijaaGreatDoor.mapV];exact hf _ _ h
 |.nils,x,h=>by simp only[Go.Proofs.YthnohcipianijaaGreatDoor.mapV];exact hf _ _ h
 |.raw _,x,h=>by simp only[Go.Proofs.YthnohcipianijaaGreatDoor.mapV];exact hf _ _ h
 |.box _ _,x,h=>by simp only[Go.Proofs.YthnohcipianijaaGreatDoor.mapV];exact hf _ _ h
 |.row _ _,x,h=>by simp only[Go.Proofs.YthnohcipianijaaGreatDoor.mapV];exact hf _ _ h
 |.lk _,x,h=>by simp only[Go.Proofs.YthnohcipianijaaGreatDoor.mapV];exact hf _ _ h
 |.ptr _ _,x,h=>by simp only[Go.Proofs.YthnohcipianijaaGreatDoor.mapV];exact hf _ _ h
 |.el _ _ _ _,x,h=>by simp only[Go.Proofs.YthnohcipianijaaGreatDoor.mapV];exact hf _ _ h
 |.sl j,x,h=>by simp only[Go.Proofs.YthnohcipianijaaGreatDoor.mapV];exact hf _ _ h
 |.np j,x,h=>by simp only[Go.Proofs.YthnohcipianijaaGreatDoor.mapV];exact hf _ _ h
 |.agg cs,x,h=>by simp only[Go.Proofs.YthnohcipianijaaGreatDoor.mapV,VRel]at h⊢;obtain⟨xs,h1,h2⟩:=h;exact⟨xs,h1,LRel.mapV hf h2⟩
 |.tup cs,x,h=>by simp only[Go.Proofs.YthnohcipianijaaGreatDoor.mapV,VRel]at h⊢;obtain⟨xs,h1,h2⟩:=h;exact⟨xs,h1,LRel.mapV hf h2⟩
 |.clo fid cs,x,h=>by simp only[Go.Proofs.YthnohcipianijaaGreatDoor.mapV,VRel]at h⊢;obtain⟨xs,h1,h2⟩:=h;exact⟨xs,h1,LRel.mapV hf h2⟩
theorem LRel.mapV{S S':Nat->Prop}{w:World}{ρ:Nat->Option Value}{f:V->V}(hf:∀v x,VRel S w ρ v x->VRel S' w ρ (f v) x):∀{v:List V} {x:List Value},LRel S w ρ v x->LRel S' w ρ (mapVs f v) x
 |[],x,h=>by simp only[mapVs,LRel]at h⊢;exact h
 |v::r,x,h=>by simp only[mapVs,LRel]at h⊢;obtain⟨y,ys,h1,h2,h3⟩:=h;exact⟨y,ys,h1,VRel.mapV hf h2,LRel.mapV hf h3⟩
end
def qz(f:V->V):Fm->Fm
 |[]=>[]
 |none::r=>none::qz f r
 |some v::r=>some (mapV f v)::qz f r
theorem AF{f:V->V}:∀(F:Fm) (i:Nat),(qz f F).get i=(F.get i).map (mapV f)
 |[],i=>by simp[qz,Fm.get]
 |none::r,0=>by simp[qz,Fm.get]
 |some v::r,0=>by simp[qz,Fm.get]
 |none::r,i+1=>by simp[qz,Fm.get,AF r i]
 |some v::r,i+1=>by simp[qz,Fm.get,AF r i]
theorem Aj{f:V->V}:∀(F:Fm),(qz f F).length=F.length
 |[]=>rfl
 |none::r=>by simp[qz,Aj r]
 |some v::r=>by simp[qz,Aj r]
def qE(f:V->V)(id:Nat):List (Nat×Ob)->List (Nat×Ob)
 |[]=>[]
 |(j,o)::r=>match Nat.beq j id with
  |true=>qE f id r
  |false=>match o with
   |.var t cs=>(j,.var t<|mapVs f cs)::qE f id r
   |o=>(j,o)::qE f id r
theorem yp{f:V->V}{id i:Nat}:∀{l:List<|Nat×Ob},aE (qE f id l) i=if i=id then .gone else match aE l i with|.var t cs=>.var t (mapVs f cs)|o=>o
 |[]=>by simp[qE,aE]
 | (j,o)::r=>by
  have ih:=yp (f:=f) (id:=id) (i:=i) (l:=r);simp only[qE];by_cases hj:j=id
  ·subst hj;rw[nbT];simp only[];rw[ih];by_cases hi:i=j
   ·simp[hi]
   ·rw[if_neg hi,if_neg hi];simp only[aE,nbF<|Ne.symm hi]
  ·rw[nbF hj];simp only[];by_cases hi:j=i
   ·subst hi;rw[if_neg hj];cases o<;>simp only[aE,nbT]
   ·have e2:aE ((j,o)::r) i=aE r i:=by simp only[aE,nbF hi]
    rw[e2,<-ih];cases o<;>simp only[aE,nbF hi]
theorem go_frz{f:V->V}{id:Nat}(hid:H.get id≠.free)(hf:∀S w ρ,HRel S w ρ H.get->∀v x,VRel S w ρ v x->VRel (λb=>S b∨own ρ id (H.get id) b) w ρ (f v) x)(h1:qz f F=F1)(h2:(⟨H.nx,qE f id H.es⟩:Hp)=H1)(k:Go P K Q p s n F1 H1):Go P K Q p s n F H:=λS w ρ a hr hi Z=>by
 subst h1 h2;obtain⟨g1,g2⟩:=fE (id:=id) hr;have hlt:id<H.nx:=by
  rcases Nat.lt_or_ge id H.nx with h|h
  ·exact h
  ·exfalso;apply hid;unfold Hp.get;have :Nat.blt id H.nx=false:=by cases hb:Nat.blt id H.nx;rfl;simp[Nat.blt_eq]at hb;omega
   rw[this]
 have hg:∀i,(⟨H.nx,qE f id H.es⟩:Hp).get i=if i=id then .gone else match H.get i with|.var t cs=>.var t (mapVs f cs)|o=>o:=λi=>by
  unfold Hp.get;by_cases hi:i=id
  ·subst hi;simp only[nlT hlt,if_true,yp]
  ·simp only[if_neg hi];cases hb:Nat.blt i H.nx
   ·rfl
   ·simp only[yp,if_neg hi]
 have hob:∀i,i≠id->own ρ i ((⟨H.nx,qE f id H.es⟩:Hp).get i)=own ρ i (H.get i):=λi G=>by rw[hg i,if_neg G];cases H.get i<;>rfl
 have hhr:HRel (λb=>S b∨own ρ id (H.get id) b) w ρ (⟨H.nx,qE f id H.es⟩:Hp).get:=by
  have O:∀i b,own ρ i ((⟨H.nx,qE f id H.es⟩:Hp).get i) b->i≠id∧own ρ i (H.get i) b:=λi b hb=>by
   by_cases G:i=id
   ·subst G;rw[hg i,if_pos rfl]at hb;exact hb.elim
   ·rw[hob i G]at hb;exact⟨G,hb⟩
  refine⟨λi=>?_,λi b hb=>?_,λi j b hbi hbj=>hr.dis i j b (O i b hbi).2 (O j b hbj).2,g1.slt⟩
  ·rw[hg i];by_cases G:i=id
   ·rw[if_pos G];trivial
   ·rw[if_neg G];have J:=g1.ob i;rw[co _ _ G]at J;have h1:=hr.ob i;cases ho:H.get i with
    |var t cs=>
     rw[ho]at h1;obtain⟨b,xs,q1,q2,q3⟩:=h1;exact⟨b,xs,q1,q2,q3.mapV<|hf S w ρ hr⟩
    |_=>rw[ho]at J;exact J
  ·have :=O i b hb;exact g1.sep i b (by rw[co _ _ this.1];exact this.2)
 have G:Inv K (λb=>S b∨own ρ id (H.get id) b) w ρ (⟨H.nx,qE f id H.es⟩:Hp).get:=by
  have J:=hi.frz hr id;refine⟨J.chg,J.s0,J.s1,λi b hb=>?_,J.pin⟩;by_cases G:i=id
  ·subst G;rw[hg i,if_pos rfl]at hb;exact hb.elim
  ·rw[hob i G]at hb;exact hi.ow i b hb
 have :=k _ w ρ a hhr G ⟨Z.size,Z.defers,λp hp=>(Z.gl p hp).up (fE (id:=id) hr).2.z,by rw[Aj];exact Z.len,λi u hu=>by rw[AF]at hu;obtain⟨v,h3,h4⟩:=Option.map_eq_some_iff.1 hu;obtain⟨x,h5,h6⟩:=Z.get i v h3;exact⟨x,h5,by rw[<-h4];exact h6.mapV (hf S w ρ hr)⟩⟩
 cases p with
 |drw all L m left listed=>exact λhs=>Aw (wG (λb hb=>.inl hb) Agree.refl) (λx _ h=>h) _ _ _ _<|this hs
 |code c=>exact this
 |ops all rest=>exact this
 |ex e=>exact this
def fzR(id sz:Nat)(els:List V):V->V
 |.sl j=>match Nat.beq j id with
  |true=>.row sz els
  |false=>.sl j
 |v=>v
def fzP(id:Nat)(cs:List V):V->V
 |.ptr j o=>match Nat.beq j id with
  |true=>.box cs o
  |false=>.ptr j o
 |v=>v
theorem gFR(id:Nat)(J:H.get id=.row e sz els)(G:pureL els=true)(h1:qz (fzR id sz els) F=F1)(h2:(⟨H.nx,qE (fzR id sz els) id H.es⟩:Hp)=H1)(k:Go P K Q p s n F1 H1):Go P K Q p s n F H:=
 go_frz (f:=fzR id sz els) (by rw[J];simp) (λS w ρ hr v x hx=>by
  unfold fzR;split
  ·split
   ·rename_i hb;have :=aag hb;subst this;exact tm hr J G hx
   ·exact hx.up (fE hr).2
  ·exact hx.up (fE hr).2) h1 h2 k
theorem gFP(id:Nat)(J:H.get id=.var t cs)(G:pureL cs=true)(h1:qz (fzP id cs) F=F1)(h2:(⟨H.nx,qE (fzP id cs) id H.es⟩:Hp)=H1)(k:Go P K Q p s n F1 H1):Go P K Q p s n F H:=
 go_frz (f:=fzP id cs) (by rw[J];simp) (λS w ρ hr v x hx=>by
  unfold fzP;split
  ·split
   ·rename_i hb;have :=aag hb;subst this;exact IZ hr J G hx
   ·exact hx.up (fE hr).2
  ·exact hx.up (fE hr).2) h1 h2 k
def At(K:Ctx)(n:Nat)(F:Fm)(H:Hp)(a:Act)(w:World):Prop:=∃S ρ,HRel S w ρ H.get∧Inv K S w ρ H.get∧FRel S w ρ a n F
def mkF:Nat->Nat->List (Nat×V)->Fm
 |0,_,_=>[]
 |n+1,i,[]=>none::mkF n (i+1) []
 |n+1,i,(j,v)::r=>match Nat.beq i j with
  |true=>some v::mkF n (i+1) r
  |false=>none::mkF n (i+1) ((j,v)::r)
end
mutual
def vEq:V->V->Bool
 |.int k n,v=>match v with
  |.int k' n'=>kEq k k'&&iEq n n'
  |_=>false
 |.bool b,v=>match v with
  |.bool c=>b==c
  |_=>false
 |.str l,v=>match v with
  |.str l'=>lEq l l'
  |_=>false
 |.nilp,v=>match v with
  |.nilp=>true
  |_=>false
 |.nils,v=>match v with
  |.nils=>true
  |_=>false
 |.ptr i o,v=>match v with
  |.ptr j p=>Nat.beq i j&&Nat.beq o p
  |_=>false
 |.el i z k o,v=>match v with
  |.el i' z' k' o'=>Nat.beq i i'&&Nat.beq z z'&&Nat.beq k k'&&Nat.beq o o'
  |_=>false
 |.sl i,v=>match v with
  |.sl j=>Nat.beq i j
  |_=>false
 |.np i,v=>match v with
  |.np j=>Nat.beq i j
  |_=>false
 |.row z cs,v=>match v with
  |.row z' cs'=>Nat.beq z z'&&vEqL cs cs'
  |_=>false
 |.agg cs,v=>match v with
  |.agg cs'=>vEqL cs cs'
  |_=>false
 |.tup cs,v=>match v with
  |.tup cs'=>vEqL cs cs'
  |_=>false
 |.raw _,_=>false
 |.box _ _,_=>false
 |.clo _ _,_=>false
 |.lk _,_=>false
def vEqL:List V->List V->Bool
 |[],vs=>match vs with
  |[]=>true
  |_::_=>false
 |v::r,vs=>match vs with
  |u::q=>vEq v u&&vEqL r q
  |[]=>false
end
mutual
theorem vEq_eq:∀{v u:V},vEq v u=true->v=u
 | .int k n,u,h=>by
  unfold vEq at h;split at h
  ·rename_i k' n';simp only[aaa,yO,aap]at h;obtain⟨h1,h2⟩:=h;have :k=k':=by
    unfold kEq at h1;split at h1<;>first|rfl|cases h1
   rw[this,h2]
  ·cases h
 |.bool b,u,h=>by
  unfold vEq at h;split at h
  ·rw[aap]at h;rw[h]
  ·cases h
 |.str l,u,h=>by
  unfold vEq at h;split at h
  ·rw[wi,aap]at h;rw[h]
  ·cases h
 |.nilp,u,h=>by
  unfold vEq at h;split at h
  ·rfl
  ·cases h
 |.nils,u,h=>by
  unfold vEq at h;split at h
  ·rfl
  ·cases h
 | .ptr i o,u,h=>by
  unfold vEq at h;split at h
  ·simp only[aaa,Nat.beq_eq]at h;obtain⟨rfl,rfl⟩:=h;rfl
  ·cases h
 | .el i z k o,u,h=>by
  unfold vEq at h;split at h
  ·simp only[aaa,Nat.beq_eq]at h;obtain⟨⟨⟨rfl,rfl⟩,rfl⟩,rfl⟩:=h;rfl
  ·cases h
 |.sl i,u,h=>by
  unfold vEq at h;split at h
  ·rw[Nat.beq_eq]at h;rw[h]
  ·cases h
 |.np i,u,h=>by
  unfold vEq at h;split at h
  ·rw[Nat.beq_eq]at h;rw[h]
  ·cases h
 | .row z cs,u,h=>by
  unfold vEq at h;split at h
  ·simp only[aaa,Nat.beq_eq]at h;obtain⟨rfl,h2⟩:=h;rw[vEqL_eq h2]
  ·cases h
 |.agg cs,u,h=>by
  unfold vEq at h;split at h
  ·rw[vEqL_eq h]
  ·cases h
 |.tup cs,u,h=>by
  unfold vEq at h;split at h
  ·rw[vEqL_eq h]
  ·cases h
 |.raw _,u,h=>by unfold vEq at h;cases h
 |.box _ _,u,h=>by unfold vEq at h;cases h
 |.clo _ _,u,h=>by unfold vEq at h;cases h
 |.lk _,u,h=>by unfold vEq at h;cases h
theorem vEqL_eq:∀{v u:List V},vEqL v u=true->v=u
 |[],u,h=>by
  unfold vEqL at h;split at h
  ·rfl
  ·cases h
 | v::r,u,h=>by
  unfold vEqL at h;split at h
  ·simp only[aaa]at h;rw[vEq_eq h.1,vEqL_eq h.2]
  ·cases h
end
def fmB (σ:List Nat):Fm->Fm->Bool
 |[],F'=>match F' with
  |[]=>true
  |_::_=>false
 |x ::r,F'=>match F' with
  |[]=>false
  |y::r'=>(match y with
   |none=>true
   |some u=>match x with
    |some v=>vEq v<|u.ren σ
    |none=>false)&&fmB σ r r'
theorem Lg{σ:YN}:∀{F F':Fm},fmB σ F F'=true->leF σ F F'∧F.length=F'.length
 |[],F',h=>by
  unfold fmB at h;split at h
  ·simp[leF]
  ·cases h
 | x ::r,F',h=>by
  unfold fmB at h;split at h
  ·cases h
  ·rename_i y r';simp only[aaa]at h;obtain⟨h1,h2⟩:=h;obtain⟨g1,g2⟩:=Lg h2;refine⟨?_,by simp[g2]⟩;cases y with
   |none=>simp only[leF];exact g1
   | some u=>
    simp only at h1;split at h1
    ·rename_i v;simp only[leF];exact⟨⟨v,I,cq.of_eq<|vEq_eq h1⟩,g1⟩
    ·cases h1
theorem aD.of_eq{v u:List V}(h:v=u):aD v u:=h▸aD.rfl
def obB(o:Ob):Ob->Bool
 |.gone=>true
 |.var t cs=>match o with
  |.var G cs'=>Nat.beq G t&&vEqL cs' cs
  |_=>false
 |.row e z els=>match o with
  |.row J O els'=>Nat.beq J e&&Nat.beq O z&&vEqL els' els
  |_=>false
 |_=>false
theorem Qk{o:Ob}(h:obB o o'=true):oS o o':=by
 unfold obB at h;split at h
 ·cases o<;>simp[oS]
 ·split at h
  ·simp only[aaa,Nat.beq_eq]at h;obtain⟨rfl,h2⟩:=h;exact⟨I,aD.of_eq<|vEqL_eq h2⟩
  ·cases h
 ·split at h
  ·simp only[aaa,Nat.beq_eq]at h;obtain⟨⟨rfl,rfl⟩,h2⟩:=h;exact⟨I,I,vEqL_eq h2⟩
  ·cases h
 ·cases h
def hpB(σ:YN)(H:Hp):List (Nat×Ob)->Bool
 |[]=>true
 |(j,o)::r=>(match atN σ j with
  |some i=>obB (H.get i)<|o.ren σ
  |none=>false)&&hpB σ H r
theorem KX{σ:YN}{H:Hp}:∀{l:List<|Nat×Ob},hpB σ H l=true->leH σ H l
 |[],_=>by simp[leH]
 | (j,o)::r,h=>by
  simp only[hpB,aaa]at h;obtain⟨h1,h2⟩:=h;simp only[leH];refine⟨?_,KX h2⟩;split at h1
  ·rename_i i hi;exact⟨i,hi,Qk h1⟩
  ·cases h1
def SW(k i:Nat):Nat:=match Nat.beq i k with
 |true=>k+1
 |false=>match Nat.beq i (k+1)with
  |true=>k
  |false=>i
def Oh(k:Nat):Nat->YN->YN
 |0,acc=>acc
 |n+1,acc=>hZ (SW k n) λx=>Oh k n<|x::acc
def Fk(k:Nat)(F:Fm)(H:Hp)(F':Fm)(H':Hp):Bool:=
 listK (Oh k H'.nx []) λσ=>fmB σ F F'&&hpB σ H H'.es&&(df σ&&Nat.ble σ.length H'.nx&&xe σ (List.range k))
variable{P:Program}{H:Hp}{k:Nat}
theorem go_alike{K:Ctx}{Q:Exit->Act->World->Prop}{s:List EI}{n:Nat}{F F':Fm}{H':Hp}{e:Exit}(h:Fk k F H F' H'=true)(G:∀id x,K.pin id=some x->id<k)(c:Go P K Q (.ex e) s n F' H'):Go P K Q (.ex e) s n F H:=λS w ρ a hr hi hf=>by unfold Fk at h;rw[dl]at h;simp only[aaa]at h;obtain⟨⟨h1,h2⟩,⟨J,O⟩,Z⟩:=h;obtain⟨g1,g2⟩:=Lg h1;refine go_sub _ (List.range k) I (λid x h=>List.mem_range.2 (G id x h)) g1 (KX h2) ?_ c S w ρ a hr hi hf;simp only[aaa];exact⟨⟨⟨J,O⟩,Z⟩,by rw[<-g2];exact Nat.ble_eq_true_of_le hf.len⟩
inductive Rs where
 |ok (e:Bool) (F:Fm) (H:Hp)
 |pt (p:EP) (s:List EI) (F:Fm) (H:Hp)
 |er (n m:Nat)
def RE:V->YN->YN
 |.ptr id _,acc=>id::acc
 |.el id _ _ _,acc=>id::acc
 |.sl id,acc=>id::acc
 |_,acc=>acc
def Nu:List V->YN->YN
 |[],acc=>acc
 |v::r,acc=>Nu r<|RE v acc
def QZ:V->YN->YN
 |.agg cs,acc=>Nu cs acc
 |v,acc=>RE v acc
def xf:List V->YN->YN
 |[],acc=>acc
 |.tup vs::r,acc=>xf r<|vs.foldl (λacc v=>QZ v acc) acc
 |v::r,acc=>xf r<|QZ v acc
def ly(i:Nat):YN->Bool
 |[]=>false
 |j::r=>match Nat.beq i j with
  |true=>true
  |false=>ly i r
def sr(H:Hp):Nat->YN->YN->YN
 |0,_,acc=>acc
 |_+1,[],acc=>acc
 |n+1,id::r,acc=>match ly id acc with
  |true=>sr H n r acc
  |false=>match H.get id with
   |.var _ cs=>sr H n (Nu cs r)<|id::acc
   |_=>sr H n r<|id::acc
def zD{α:Type}(R:YN):List (Nat×Ob)->(List (Nat×Ob)->α)->α
 |[],c=>c []
 |(i,o)::r,c=>match ly i R with
  |true=>zD R r λG=>c<|(i,o)::G
  |false=>zD R r c
def xw{α:Type}(nx:Nat)(R:YN):List (Nat×Ob)->(List (Nat×Ob)->α)->α
 |[],c=>c []
 |(i,o)::r,c=>match !ly i R&&Nat.blt i nx with
  |true=>match o with
   |.free=>xw nx R r λG=>c<|(i,.gone)::G
   |o=>xw nx R r λG=>c<|(i,o)::G
  |false=>xw nx R r c
def Jz {α:Type} (lo:Nat) (H:Hp) (v:V) (c:V->Hp->α):α:=match v with
 |.sl id=>match Nat.ble lo id with
  |true=>match H.get id with
   |.row _ sz els=>match pureL els with
    |true=>Cg id H.es λes=>c (.row sz els) ⟨H.nx,es⟩
    |false=>c v H
   |_=>c v H
  |false=>c v H
 |_=>c v H
def Kg{α:Type}(lo:Nat)(H:Hp):List V->(List V->Hp->α)->α
 |[],c=>c [] H
 |v::r,c=>Jz lo H v λG H'=>Kg lo H' r λJ H''=>c (G::J) H''
def Mo(lo:Nat)(H:Hp)(v:V)(c:V->Hp->α):α:=match v with
 |.agg cs=>Kg lo H cs λcs H'=>c (.agg cs) H'
 |v=>Jz lo H v c
def DT{α:Type}(lo:Nat)(H:Hp):List V->(List V->Hp->α)->α
 |[],c=>c [] H
 |v::r,c=>Mo lo H v λG H'=>DT lo H' r λJ H''=>c (G::J) H''
def Lo(H:Hp):YN->Bool
 |[]=>false
 |i::r=>match H.get i with
  |.row _ _ _=>true
  |_=>Lo H r
def OY(o:Oper):Bool:=match o.op with
 |.store .. =>true
 |_=>false
def Qw(o:Oper):Bool:=match o.op with
 |.alloc .. =>false
 |.box .. =>false
 |.store .. =>false
 |.buildSlice .. =>false
 |.makeSlice .. =>false
 |.call ⟨.builtin .len,_,_⟩=>true
 |.call ⟨.builtin .max,_,_⟩=>true
 |.call .. =>false
 |_=>true
def GE:Nat->List Oper->Nat
 |i,[]=>i
 |i,o::r=>match OY o with
  |true=>i
  |false=>GE (i+1) r
def yF (T:Tab) (H:Hp) (all:Array Oper):List Oper->Fm->List Nat->List Nat->List Nat
 |[],_,rd,cl=>rd.filter λi=>!ly i cl
 |o ::r,F,rd,cl=>match bt F all o.guard with
  |some false=>F.puto o.dst (some<|.tup []) λF'=>yF T H all r F' rd cl
  |_ =>match qf T H.get F o.op with
   |some v=>F.puto o.dst (some v) λF'=>yF T H all r F' rd cl
   |none=>match sx F o.op with
    |some id=>match mJ T H.get F H.nx o.op with
     |some (v,_)=>F.puto o.dst v λF'=>yF T H all r F' (match ly id rd with|true=>rd|false=>id::rd) cl
     |none=>F.puto o.dst none λF'=>yF T H all r F' rd cl
    |none=>match o.op with
     |.call ⟨.value (.func _),⟨args⟩,_⟩=>match gd F args with
      |some vs=>F.puto o.dst none λF'=>yF T H all r F' rd<|sr H 40 (xf vs []) cl
      |none=>F.puto o.dst none λF'=>yF T H all r F' rd cl
     |_=>F.puto o.dst none λF'=>yF T H all r F' rd cl
def AW (F:Fm) (all:Array Oper) (L:List Nat) (m:Nat) (listed:Array Bool):List Nat->Option Nat
 |[]=>none
 |i ::r=>match all[i]? with
  |some o=>match Nat.beq i m with
   |true=>AW F all L m listed r
   |false=>match Qw o with
    |true=>match Region.free .any all listed i with
     |true=>some i
     |false=>AW F all L m listed r
    |false=>AW F all L m listed r
  |none=>none
section
variable(T:Tab)(ih:EP->List EI->Fm->Hp->Rs)
def Kb (keep:Bool) (vs:List V) (fn:Func) (b:Code) (H:Hp) (L:List Nat) (ok:Bool) (c:V->Hp->Rs):Rs:=
 match sr H 40 (xf vs []) []with
 |R => match(db H.get L&&L.all λi=>!ly i R)||ok with
  |true=>zD R H.es λes1=>match ih (.code b) [] (nL fn.ntmps vs) ⟨H.nx,es1⟩with
   |.ok _ F1 H1=>match tX T H1.get F1 fn.results.toList with
    |some rs=>match Nat.ble H.nx H1.nx with
     |true=>match keep||Lo H R with
      |true=>xw H.nx R H.es λes2=>c (oU rs) ⟨H1.nx,H1.es++es2⟩
      |false=>DT H.nx H1 rs λrs H2=>match sr H2 60 (xf rs R) []with
       |R2=>zD R2 H2.es λes3=>xw H.nx R H.es λes2=>c (oU rs) ⟨H2.nx,es3++es2⟩
     |false=>.er 1 0
    |none=>.er 2 0
   |.er n m=>.er n m
   |.pt .. =>.er 3 0
  |false=>.er 4 0
def xo (F:Fm) (H:Hp) (L:List Nat) (ok:Bool) (o:Oper) (c:Option V->Hp->Rs):Rs:=
 match qf T H.get F o.op with
 |some v=>c (some v) H
 |none =>match hZ H.nx λnid=>mJ T H.get F nid o.op with
  |some (v,ed)=>match(db H.get L&&ed.clear L)||ok with
   |true=>H.ap ed λH'=>match v with
    |some v=>c (some v) H'
    |none=>c (some<|.tup []) H'
   |false=>.er 5 0
  |none =>match o.op with
   |.call ⟨.value (.func fid),⟨args⟩,_⟩=>match gd F args with
    |some vs=>match T.nat fid vs with
     |some v=>c (some v) H
     |none=>match T.fn fid with
      |some fn=>match fn.body with
       |some b=>match Nat.ble vs.length fn.ntmps with
        |true=>Kb T ih (T.keep fid) vs fn b H L ok λv H'=>c (some v) H'
        |false=>.er 6 fid
       |none=>.er 7 fid
      |none=>.er 8 fid
    |none=>.er 9 fid
   |_=>.er (10000+o.type) (match o.dst with|some d=>d|none=>999)
def Gb(l:YN)(j:Nat):Bool:=match l with
 |[x]=>Nat.beq x j
 |_=>false
def IK(x y i:Nat):Nat:=match Nat.beq x i with
 |true=>y
 |false=>match Nat.beq y i with
  |true=>x
  |false=>i
def DG (all:Array Oper) (L:List Nat) (m i:Nat) (o:Oper) (ps:List<|Nat×Operand) (v:V) (s:List EI):Nat->Array Bool->Fm->Hp->Rs
 |left, listed,F,H=>match db H.get L||(listed.setIfInBounds i true).getD m false with
  |true =>match Region.ready .any all listed with
   |[x]=>match Nat.beq x i with
    |true=>F.puto o.dst (some v) λF'=>ih (.drw all L m left<|listed.setIfInBounds i true) s F' H
    |false=>.er 41 i
   |[x, y]=>match left with
    |0=>.er 42 i
    |left+1=>hZ (IK x y i) λj=>match Nat.beq j i with
     |true=>.er 43 i
     |false=>match all[j]? with
      |some oj=>match Gb (Region.ready .any all<|listed.setIfInBounds i true) j&&DI o.dst oj.dst&&vV oj.dst ps&&(match o.dst with|some t=>(F.get t).isNone|none=>true)with
       |true=>match bt F all oj.guard with
        |some true=>xo T ih F H L ((listed.setIfInBounds j true).getD m false&&((listed.setIfInBounds j true).setIfInBounds i true).getD m false) oj λu H'=>F.puto oj.dst u λF'=>DG all L m i o ps v s left (listed.setIfInBounds j true) F' H'
        |_=>.er 44 i
       |false=>.er 45 i
      |none=>.er 46 i
   |_=>.er 47 i
  |false=>.er 48 i
def we (T:Tab) (F:Fm) (all:Array Oper):List Nat->Option (Nat×Oper×List (Nat×Operand)×V)
 |[]=>none
 |i ::r=>match all[i]? with
  |some ⟨_,.buildSlice _ _ ⟨ps⟩,_,_,_,none⟩=>match ov F ps with
   |some vs=>match va T all i vs with
    |some (o,ps',v)=>some (i,o,ps',v)
    |none=>we T F all r
   |none=>we T F all r
  |_=>we T F all r
def MW (all:Array Oper) (L:List Nat) (m left i j:Nat) (listed:Array Bool) (s:List EI) (F:Fm) (H:Hp):Rs:=match all[i]? with
 |some oi=>match all[j]? with
  |some oj=>match bt F all oi.guard with
   |some true=>match bt F all oj.guard with
    |some true=>xo T ih F H L ((listed.setIfInBounds i true).getD m false) oi λui Hi=>F.puto oi.dst ui λFi=>match ih (.drw all L m left<|listed.setIfInBounds i true) [] Fi Hi with
     |.ok false F1 H1=>xo T ih F H L ((listed.setIfInBounds j true).getD m false) oj λuj Hj=>F.puto oj.dst uj λFj=>match ih (.drw all L m left<|listed.setIfInBounds j true) [] Fj Hj with
      |.ok false F2 H2=>match Fk H.nx F2 H2 F1 H1 with
       |true=>ih (.ex .normal) s F1 H1
       |false=>.er 51 i
      |.er a b=>.er a b
      |_=>.er 52 i
     |.er a b=>.er a b
     |_=>.er 53 i
    |_=>.er 54 i
   |_=>.er 55 i
  |none=>.er 56 i
 |none=>.er 57 i
def In(c:Code)(s:List EI)(F:Fm)(H:Hp):Rs:=match c with
 |.seq x y=>ih (.code x) (.seq y::s) F H
 |.block id c=>ih (.code c) (.blk id::s) F H
 |.skip=>ih (.ex .normal) s F H
 |.ret=>ih (.ex .ret) s F H
 |.exit id=>ih (.ex<|.exit id) s F H
 |.scope c=>ih (.code c) (.scp::s) F H
 |.label _=>ih (.ex .normal) s F H
 |.loop c=>ih (.code c) (.loop c 1000000::s) F H
 |.cond c x y=>match aO F c with
  |some (.bool true)=>ih (.code x) s F H
  |some (.bool false)=>ih (.code y) s F H
  |_=>.er 11 0
 |.region _ ⟨l⟩ false=>ih (.ops ⟨l⟩ l) s F H
 |.region _ ⟨l⟩ true=>match Region.noSelect ⟨l⟩with
  |true=>listK (yF T H ⟨l⟩ l F [] []) λL=>hZ (GE 0 l) λm=>hZ l.length λn=>ih (.drw ⟨l⟩ L m n<|Array.replicate n false) s F H
  |false=>.er 13 0
 |_=>.er 14 0
def DW(all:Array Oper)(rest:List Oper)(s:List EI)(F:Fm)(H:Hp):Rs:=match rest with
 |[]=>ih (.ex .normal) s F H
 |o::r=>match bt F all o.guard with
  |some false=>F.puto o.dst (some<|.tup []) λF'=>ih (.ops all r) s F' H
  |some true=>xo T ih F H [] true o λv H'=>F.puto o.dst v λF'=>ih (.ops all r) s F' H'
  |none=>.er 15 0
def JV(e:Exit)(s:List EI)(F:Fm)(H:Hp):Rs:=match s with
 |[]=>match e with
  |.normal=>.ok false F H
  |.ret=>.ok true F H
  |_=>.er 16 0
 |.seq c::s=>match e with
  |.normal=>ih (.code c) s F H
  |.exit i=>ih (.ex<|.exit i) s F H
  |.ret=>ih (.ex .ret) s F H
  |_=>.er 17 0
 |.loop c j::s=>match e with
  |.normal=>match j with
   |0=>.er 18 0
   |j+1=>ih (.code c) (.loop c j::s) F H
  |.exit i=>ih (.ex<|.exit i) s F H
  |.ret=>ih (.ex .ret) s F H
  |_=>.er 19 0
 |.scp::s=>match e with
  |.normal=>ih (.ex .normal) s F H
  |.exit i=>ih (.ex<|.exit i) s F H
  |.ret=>ih (.ex .ret) s F H
  |_=>.er 20 0
 |.blk id::s=>match e with
  |.normal=>ih (.ex .normal) s F H
  |.exit i=>match Nat.beq i id with
   |true=>ih (.ex .normal) s F H
   |false=>ih (.ex<|.exit i) s F H
  |.ret=>ih (.ex .ret) s F H
  |_=>.er 21 0
def IL (all:Array Oper) (L:List Nat) (m left:Nat) (listed:Array Bool) (s:List EI) (F:Fm) (H:Hp):Rs:=match Region.ready .any all listed with
 |[]=>ih (.ex .normal) s F H
 |i :: R =>match left with
  |0=>.er 22 0
  |left + 1=>match R with
   |[]=>match all[i]? with
    |some o=>match bt F all o.guard with
     |some false=>F.puto o.dst (some<|.tup []) λF'=>ih (.drw all L m left<|listed.setIfInBounds i true) s F' H
     |some true=>xo T ih F H L ((listed.setIfInBounds i true).getD m false) o λv H'=>F.puto o.dst v λF'=>ih (.drw all L m left<|listed.setIfInBounds i true) s F' H'
     |none=>.er (6000+all.size) i
    |none=>.er 24 0
   |_ => match AW F all L m listed (i::R)with
    |some i=>match all[i]? with
     |some o=>match(Region.ready .any all listed).contains i&&Region.free .any all listed i&&!Nat.beq i m with
      |true=>match bt F all o.guard with
       |some false=>F.puto o.dst (some<|.tup []) λF'=>ih (.drw all L m left<|listed.setIfInBounds i true) s F' H
       |some true=>match qf T H.get F o.op with
        |some v=>F.puto o.dst (some v) λF'=>ih (.drw all L m left<|listed.setIfInBounds i true) s F' H
        |none=>match sx F o.op with
         |some id=>match L.contains id&&zl .any all m i&&!listed.getD m false with
          |true=>match mJ T H.get F H.nx o.op with
           |some (some v,_)=>F.puto o.dst (some v) λF'=>ih (.drw all L m left<|listed.setIfInBounds i true) s F' H
           |_=>.er (4000+all.size) i
          |false=>.er (2000+all.size) i
         |none=>.er (3000+all.size) i
       |none=>.er (5000+all.size) i
      |false=>.er 29 i
     |none=>.er 30 i
    |none=>match we T F all (i::R)with
     |some (i,o,ps,v)=>F.puto o.dst none λF'=>DG T ih all L m i o ps v s left listed F' H
     |none=>match R with
      |[j]=>MW T ih all L m left i j listed s F H
      |_=>.er (1000+all.size) i
def Kk(p:EP)(s:List EI)(F:Fm)(H:Hp):Rs:=match p with
 |.code c=>In T ih c s F H
 |.ops all rest=>DW T ih all rest s F H
 |.ex e=>JV ih e s F H
 |.drw all L m left listed=>IL T ih all L m left listed s F H
end
def run(T:Tab):Nat->EP->List EI->Fm->Hp->Rs
 |0,p,s,F,H=>.pt p s F H
 |k+1,p,s,F,H=>Kk T (run T k) p s F H
set_option maxRecDepth 100000
def tyL:List (Nat×TD):=[
 (3,⟨1,8,.int .i64 0,.sc⟩),
 (35,⟨4,72,.agg [.int .i64 0,.str [],.nils,.nils],.struct [(0,1,true),(1,1,true),(2,1,true),(3,1,true)]⟩),
 (31,⟨1,24,.nils,.sl 35⟩),
 (24,⟨4,56,.agg [.int .i64 0,.int .i64 0,.str [],.nils],.struct [(0,1,true),(1,1,true),(2,1,true),(3,1,true)]⟩),
 (9,⟨1,16,.str [],.str⟩),
 (33,⟨1,24,.nils,.sl 9⟩),
 (102,⟨2,16,.agg [.int .i64 0,.int .i64 0],.struct [(0,1,true),(1,1,true)]⟩),
 (22,⟨1,24,.nils,.sl 24⟩),
 (149,⟨1,24,.nils,.sl 152⟩),
 (5,⟨1,1,.int .u8 0,.sc⟩),
 (86,⟨1,8,.nilp,.sc⟩),
 (29,⟨1,24,.nils,.sl 3⟩),
 (2,⟨1,8,.int .i64 0,.sc⟩),
 (90,⟨3,40,.agg [.int .i64 0,.str [],.str []],.struct [(0,1,true),(1,1,true),(2,1,true)]⟩),
 (55,⟨1,8,.nilp,.sc⟩),
 (36,⟨1,8,.int .i64 0,.sc⟩),
 (92,⟨1,8,.nilp,.sc⟩),
 (218,⟨4,32,.agg [.int .i64 0,.int .i64 0,.int .i64 0,.int .i64 0],.struct [(0,1,true),(1,1,true),(2,1,true),(3,1,true)]⟩),
 (52,⟨1,24,.nils,.sl 98⟩),
 (152,⟨2,32,.agg [.str [],.str []],.struct [(0,1,true),(1,1,true)]⟩),
 (67,⟨1,24,.nils,.sl 71⟩),
 (71,⟨6,72,.agg [.int .i64 0,.int .i64 0,.int .i64 0,.bool false,.str [],.nils],.struct [(0,1,true),(1,1,true),(2,1,true),(3,1,true),(4,1,true),(5,1,true)]⟩),
 (98,⟨3,40,.agg [.int .i64 0,.nils,.int .i64 0],.struct [(0,2,false),(2,1,true)]⟩),
 (104,⟨11,168,.agg [.nils,.nils,.raw<|.map none,.raw<|.map none,.int .i64 0,.nils,.nils,.int .i64 0,.nils,.int .i64 0,.int .i64 0],.struct [(0,1,true),(1,1,true),(2,1,true),(3,1,true),(4,1,true),(5,1,true),(6,1,true),(7,2,false),(9,2,false)]⟩),
 (117,⟨5,56,.agg [.int .i64 0,.nils,.int .i64 0,.int .i64 0,.bool false],.struct [(0,2,false),(2,1,true),(3,1,true),(4,1,true)]⟩),
 (83,⟨1,24,.nils,.sl 90⟩),
 (180,⟨2,16,.agg [.int .i64 0,.int .i64 0],.struct [(0,1,true),(1,1,true)]⟩),
 (88,⟨5,56,.agg [.nils,.int .i64 0,.int .i64 0,.int .i64 0,.int .i64 0],.struct [(0,1,true),(1,1,true),(2,1,true),(3,1,true),(4,1,true)]⟩),
 (64,⟨1,24,.nils,.sl 117⟩),
 (174,⟨1,8,.nilp,.sc⟩),
 (136,⟨3,40,.agg [.nils,.int .i64 0,.int .i64 0],.struct [(0,1,true),(1,2,false)]⟩),
 (66,⟨1,8,.nilp,.sc⟩),
 (76,⟨1,8,.nilp,.sc⟩),
 (114,⟨4,80,.agg [.nils,.int .i64 0,.nils,.nils],.struct [(0,1,true),(1,1,true),(2,1,true),(3,1,true)]⟩),
 (118,⟨1,8,.nilp,.sc⟩),
 (4,⟨1,1,.bool false,.bool⟩),
 (79,⟨1,8,.nilp,.sc⟩),
 (122,⟨1,8,.nilp,.sc⟩),
 (96,⟨2,32,.agg [.int .i64 0,.nils],.struct [(0,1,true),(1,1,true)]⟩),
 (237,⟨4,32,.agg [.int .i64 0,.int .i64 0,.int .i64 0,.int .i64 0],.arr 2 102⟩),
 (134,⟨1,24,.nils,.sl 102⟩),
 (69,⟨3,40,.agg [.nils,.int .i64 0,.int .i64 0],.struct [(0,1,true),(1,1,true),(2,1,true)]⟩),
 (81,⟨3,40,.agg [.nils,.int .i64 0,.int .i64 0],.struct [(0,1,true),(1,1,true),(2,1,true)]⟩),
 (108,⟨2,32,.agg [.nils,.int .i64 0],.struct [(0,1,true),(1,1,true)]⟩),
 (120,⟨6,80,.agg [.str [],.int .i64 0,.int .i64 0,.str [],.nils,.nilp],.struct [(0,1,true),(1,4,false),(5,1,true)]⟩),
 (124,⟨6,80,.agg [.str [],.int .i64 0,.int .i64 0,.str [],.nils,.nilp],.struct [(0,1,true),(1,4,false),(5,1,true)]⟩),
 (176,⟨4,40,.agg [.str [],.int .i64 0,.int .i64 0,.nilp],.struct [(0,1,true),(1,2,false),(3,1,true)]⟩),
 (50,⟨20,280,.agg [.int .i64 0,.int .i64 0,.str [],.nils,.int .i64 0,.int .i64 0,.str [],.nils,.int .i64 0,.int .i64 0,.str [],.nils,.int .i64 0,.int .i64 0,.str [],.nils,.int .i64 0,.int .i64 0,.str [],.nils],.arr 5 24⟩),
 (204,⟨2,24,.agg [.int .i64 0,.str []],.struct [(0,1,true),(1,1,true)]⟩),
 (49,⟨5,80,.agg [.str [],.str [],.str [],.str [],.str []],.arr 5 9⟩),
 (212,⟨1,8,.int .u64 0,.sc⟩),
 (100,⟨1,8,.raw<|.map none,.sc⟩),
 (139,⟨2,16,.agg [.int .i64 0,.int .i64 0],.struct [(0,1,true),(1,1,true)]⟩),
 (73,⟨1,8,.nilp,.sc⟩),
 (109,⟨3,48,.agg [.str [],.str [],.str []],.arr 3 9⟩),
 (210,⟨1,24,.nils,.sl 29⟩),
 (99,⟨1,8,.raw<|.map none,.sc⟩),
 (156,⟨1,8,.nilp,.sc⟩)]
def rZ{α:Type}:List (Nat×α)->Nat->Option α
 |[],_=>none
 |(i,x)::r,j=>match Nat.beq i j with
  |true=>some x
  |false=>rZ r j
def tyB(P:Program):List (Nat×TD)->Bool
 |[]=>true
 |(t,d)::r=>tdB P t d&&tyB P r
theorem KZ{P:Program}:∀{l:List<|Nat×TD},tyB P l=true->∀t d,rZ l t=some d->TdOk P t d
 |[],_,t,d,h=>by cases h
 | (i,x)::r,hb,t,d,h=>by
  simp only[tyB,aaa]at hb;simp only[rZ]at h;split at h
  ·rename_i e;have :=aag e;subst this;injection h with h;subst h
   exact Qo hb.1
  ·exact KZ hb.2 t d h
theorem KI:∀t d,rZ tyL t=some d->TdOk prog t d:=KZ (by kernel_rfl)
noncomputable def fnL:List (Nat×Func):=[(27,f27),(49,f49),(50,f50),(51,f51),(72,f72),(73,f73),(74,f74),(75,f75),(76,f76),(77,f77),(78,f78),(79,f79),(80,f80),(116,f116),(117,f117),(118,f118),(119,f119),(120,f120),(122,f122),(123,f123),(124,f124),(125,f125),(159,f159),(160,f160),(161,f161),(162,f162),(144,f144),(164,f164),(186,f186),(187,f187),(209,f209),(210,f210)]
def fnB(P:Program):List (Nat×Func)->Prop
 |[]=>True
 |(i,f)::r=>(P.funcs[i]?=some f∧cZ P i=true)∧fnB P r
theorem Kx{P:Program}:∀{l:List<|Nat×Func},fnB P l->∀i f,rZ l i=some f->P.funcs[i]?=some f∧cZ P i=true
 |[],_,i,f,h=>by cases h
 | (j,x)::r,hb,i,f,h=>by
  simp only[rZ]at h;split at h
  ·rename_i e;have :=aag e;subst this;injection h with h;subst h
   exact hb.1
  ·exact Kx hb.2 i f h
theorem RW:∀i f,rZ fnL i=some f->prog.funcs[i]?=some f∧cZ prog i=true:=Kx ⟨⟨func27,by kernel_rfl⟩,⟨func49,by kernel_rfl⟩,⟨func50,by kernel_rfl⟩,⟨func51,by kernel_rfl⟩,⟨func72,by kernel_rfl⟩,⟨func73,by kernel_rfl⟩,⟨func74,by kernel_rfl⟩,⟨func75,by kernel_rfl⟩,⟨func76,by kernel_rfl⟩,⟨func77,by kernel_rfl⟩,⟨func78,by kernel_rfl⟩,⟨func79,by kernel_rfl⟩,⟨func80,by kernel_rfl⟩,⟨func116,by kernel_rfl⟩,⟨func117,by kernel_rfl⟩,⟨func118,by kernel_rfl⟩,⟨func119,by kernel_rfl⟩,⟨func120,by kernel_rfl⟩,⟨func122,by kernel_rfl⟩,⟨func123,by kernel_rfl⟩,⟨func124,by kernel_rfl⟩,⟨func125,by kernel_rfl⟩,⟨func159,by kernel_rfl⟩,⟨func160,by kernel_rfl⟩,⟨func161,by kernel_rfl⟩,⟨func162,by kernel_rfl⟩,⟨func144,by kernel_rfl⟩,⟨func164,by kernel_rfl⟩,⟨func186,by kernel_rfl⟩,⟨func187,by kernel_rfl⟩,⟨func209,by kernel_rfl⟩,⟨func210,by kernel_rfl⟩,trivial⟩
open Go.RowKit Lx Sx
def BE:Tab:=⟨false,rZ tyL,λ_=>none,λ_ _=>none,λ_=>false⟩
theorem ai:TabOk prog BE:=⟨KI,(λ_ _ h=>by cases h),(λ_ _ _ h=>by cases h)⟩
mutual
def treeV:Tree->V
 |.node k s ls ks=>.agg [.int .i64 k,.str s,.row 1<|ls.map .str,.row 4<|kidsV ks]
def kidsV:YT->List V
 |[]=>[]
 |t::r=>treeV t::kidsV r
end
abbrev ao(t:Tree):List V:=[.int .i64 t.kind,.str t.text,.row 1 (t.leads.map .str),.row 4 (kidsV t.kids)]
abbrev wW(t:Tree):V:=.agg (ao t)
theorem nb(t:Tree):treeV t=wW t:=by cases t;simp[treeV,Tree.kind,Tree.text,Tree.leads,Tree.kids]
theorem sp:∀(ks:YT),(kidsV ks).length=ks.length
 |[]=>rfl
 |t::r=>by simp[kidsV,sp r]
theorem ay:∀{ks:YT} {i:Nat} {u:Tree},ks[i]?=some u->(kidsV ks)[i]?=some (wW u)
 |[],i,u,h=>by simp at h
 |t::r,0,u,h=>by simp only[List.getElem?_cons_zero,aad]at h;subst h;simp[kidsV,nb]
 |t::r,i+1,u,h=>by simp only[List.getElem?_cons_succ]at h;simpa[kidsV]using ay h
theorem jB:∀(a b:YT),kidsV (a++b)=kidsV a++kidsV b
 |[],b=>rfl
 |t::r,b=>by simp[kidsV,jB r b]
theorem Jy(t:Tree):(wW t).pure=true:=rfl
theorem By:∀(ks:YT),pureL (kidsV ks)=true
 |[]=>rfl
 |t::r=>by simp only[kidsV,pureL,nb,Jy,By r]
def sO(P:Program)(fid:FuncId)(us:List V)(v:V):Prop:=pureL us=true∧v.pure=true∧Sum P fid us ⟨0,[]⟩ (λu _=>u=v)
theorem uL(i:Nat):(⟨0,[]⟩:Hp).get i=.free:=by
 unfold Hp.get;have :Nat.blt i 0=false:=by cases i<;>rfl
 simp only[this]
theorem iT{K:Ctx}{vs:List V}{v:V}(hS:sO P fid us v)(hs:aD vs us)(L:YN)(hL:db H.get L=true):CallR P K fid vs H L (λv' H''=>v'=v∧H''=H):=λS w ρ xs hr hi hx=>by
 obtain⟨h1,h2,h3⟩:=hS;have hr0:HRel S w ρ0 (⟨0,[]⟩:Hp).get:=⟨λi=>by rw[uL];rfl,λi b hb=>by rw[uL]at hb;exact hb.elim,λi j b hb _=>by rw[uL]at hb;exact hb.elim,hr.slt⟩;refine(h3 S w ρ0 xs hr0<|(hs.rel hx).pure h1).mono λe w' hR=>?_;obtain⟨x,S',ρ',u,H',rfl,rfl,hr',G,hv⟩:=hR;have J:∀b,¬∃id,own ρ0 id ((⟨0,[]⟩:Hp).get id) b:=λb ⟨id,hb⟩=>by rw[uL]at hb;exact hb
 have Z:Chg [] w w':=⟨G.chg.os,G.chg.tape,G.chg.output,G.chg.size,λb hb _=>G.chg.block b hb<|J b⟩;have up:Up S S' w w' ρ ρ:=⟨G.s0,λb hb hlt=>Z.block b hlt (by simp),λ_ _ h=>h⟩;have O:∀b,S' b->S b∨w.heap.size<=b:=λb hb=>by
  rcases G.s1 b hb with h|h|h
  ·exact .inl h
  ·exact absurd h<|J b
  ·exact .inr h
 refine⟨x,S',ρ,u,H,rfl,⟨rfl,rfl⟩,⟨λi=>(hr.ob i).up up (λhf=>?_) (λb hb=>Z.block b (gv (hr.ob i) hb)<|by simp),λi b hb=>?_,hr.dis,hr'.slt⟩,⟨hi.chg.trans (ChgP.of Z) (λb hb=>by simp at hb),λb hb=>G.s0 b<|hi.s0 b hb,λb hb=>?_,hi.ow,hi.pin⟩,up,hv.pure h2,λid hid y b hy hb=>?_⟩
 ·have :=hr.ob i;rw[hf]at this;exact this
 ·intro hS;rcases O b hS with h|h
  ·exact hr.sep i b hb h
  ·have :=gv (hr.ob i) hb;omega
 ·rcases O b hb with h|h
  ·exact hi.s1 b h
  ·exact .inr<|.inr<|aao hi.chg.size h
 ·exact Z.block b (gv (hr.ob id)<|mZ hr hL id hid y b hy hb) (by simp)
theorem bH[BEq α][LawfulBEq α]{a b:α}(h:(a !=b)=false):a=b:=by simpa using h
variable{g:Option (Nat×Bool)}
section
variable{K:Ctx}{Q:Exit->Act->World->Prop}{p p':EP}{s s':List EI}{n:Nat}{F F' F1 F2:Fm}{H H' H1:Hp}{all:Array Oper}{rest:List Oper}{o:Oper}
theorem gR(k:Nat)(h:gZ BE k p s F H=some (p',s',F',H'))(kk:Go prog K Q p' s' n F' H'):Go prog K Q p s n F H:=dG ai k p s F H h kk
theorem gC{args:List Operand}{tys:Array TypeId}{vs:List V}{d:Option Tmp}{ty:TypeId}{ps:String}{af:Array Edge}(G:bv PL prog fid us H0 Post)(σ:YN)(J:cZ prog fid=true)(O:bt F all g=some true)(hv:gd F args=some vs)(hs:aD vs<|renL σ us)(hH:leH σ H H0.es)(Z:(df σ&&Nat.beq σ.length H0.nx&&σ.all λi=>Nat.blt i H.nx)=true)
  (k:∀v H',Post v H'->Go prog K Q (.ops all rest) s n (F.seto d<|some<|v.ren<|sgN PL H.nx H0.get H'.nx σ 0) (pj PL H σ H0 H')):Go prog K Q (.ops all<|⟨d,.call {callee:=.value<|.func fid,args:=args.toArray,argTypes:=tys},ty,ps,af,g⟩::rest) s n F H:=
 go_opC (o:=⟨d,.call {callee:=.value<|.func fid,args:=args.toArray,argTypes:=tys},ty,ps,af,g⟩) J rfl O hv (wX G σ hs hH Z []<|by simp[db]) λv' H'' ⟨v,H',hP,e1,e2⟩=>by subst e1 e2;exact k v H' hP
theorem gC0{args:List Operand}{tys:Array TypeId}{vs:List V}{v:V}{ty:TypeId}{ps:String}{af:Array Edge}(G:sO prog fid us v)(J:cZ prog fid=true)(O:bt F all g=some true)(hv:gd F args=some vs)(hs:aD vs us)(h1:F.puto d (some v) id=F1)
  (k:Go prog K Q (.ops all rest) s n F1 H):Go prog K Q (.ops all<|⟨d,.call {callee:=.value<|.func fid,args:=args.toArray,argTypes:=tys},ty,ps,af,g⟩::rest) s n F H:=by
 rw[Fm.puto_eq]at h1;subst h1;exact go_opC (o:=⟨d,.call {callee:=.value<|.func fid,args:=args.toArray,argTypes:=tys},ty,ps,af,g⟩) J rfl O hv (iT G hs [] rfl) λv' H'' ⟨Z,e2⟩=>by subst Z e2;exact k
def slB(T:Tab)(t:TypeId):Option (TypeId×Nat×Nat):=match T.ty t with
 |some ⟨_,_,_,.sl e⟩=>match T.ty e with
  |some ⟨sz,by_,_,_⟩=>match Nat.blt 0 sz&&Nat.ble by_ 100000 with
   |true=>some (e,sz,by_)
   |false=>none
  |none=>none
 |_=>none
theorem Qg{T:Tab}(G:TabOk P T){by_:Nat}(h:slB T t=some (e,sz,by_)):P.underlying t=some (.slice e)∧0<sz∧by_<=100000∧∃z:Value,(P.info? e).map (λi=>(i.zero,i.size,i.bytes))=some (some z,sz,by_)∧z.cells.size=sz:=by
 unfold slB at h;split at h
 ·rename_i ht;split at h
  ·rename_i J;split at h
   ·rename_i hb;simp only[aad,Prod.mk.injEq]at h;obtain⟨rfl,rfl,rfl⟩:=h;simp only[aaa,Nat.blt_eq,Nat.ble_eq]at hb;obtain⟨z,h1,_,O,_⟩:=(G.ty _ _ J).info;exact⟨(G.ty _ _ ht).sl I,hb.1,hb.2,z,h1,O⟩
   ·cases h
  ·cases h
 ·cases h
theorem dAp{T:Tab}(J:TabOk P T){y:Operand}{by_ id:Nat}{news:List V}{v:V}{ty:TypeId}(ht:slB T t=some (e,sz,by_))(hx:aO F x=some (.sl id))(O:H.get id=.row e sz els)(hy:aO F y=some v)(hs:EZ H.get sz v=some news)(hb:els.length+news.length<=1000000000):
  ∀S w ρ a,HRel S w ρ H.get->FRel S w ρ a n F->Does P S w ρ H.get a ty (.call {callee:=.builtin .append,args:=#[x,y],argTypes:=#[t,t]}) (some<|.sl H.nx) ((ED.repl id<|.row e sz<|els++news).app H.get H.nx) (ED.repl id<|.row e sz<|els++news).tch:=λS w ρ a hr G=>by
 obtain⟨h1,h2,Z,z,h4,h5⟩:=Qg J ht;obtain⟨u,g1,g2⟩:=Hg hr G hy hs;exact Ew hr G.fr H.get_free g1 g2 h1 h4 h5 h2 (au G hx) O (by simp only[maxLen];omega) (aao (Nat.mul_le_mul hb Z)<|by decide)
variable{L:YN}{m fuel c:Nat}{listed:Array Bool}
theorem gDs{id:Nat}{l:List Oper}(L:YN)(m sz:Nat)(hsz:l.length=sz)(G:prog.follows .mixedOrders=true)(hs:Region.noSelect l.toArray=true)(k:Go prog K Q (.drw l.toArray L m sz<|Array.replicate sz false) s n F H):Go prog K Q (.code<|.region id l.toArray true) s n F H:=HB L m sz hsz G hs k
theorem gDr(is:List<|Nat×Nat)(G:FY all m is listed=true)(J:is.length=c)(hr:rn BE all L is F H=some (F',H'))(k:Go prog K Q (.drw all L m fuel<|Ji is listed) s n F' H'):Go prog K Q (.drw all L m (fuel+c) listed) s n F H:=by subst J;exact pn ai is fuel listed F H G hr k
theorem gDe(G:Region.ready .any all listed=[])(k:Go prog K Q (.ex .normal) s n F H):Go prog K Q (.drw all L m fuel listed) s n F H:=FH G k
theorem bg{args:List Operand}{tys:Array TypeId}{vs:List V}{v:V}{ty:TypeId}{ps:String}{af:Array Edge}{g:Option<|Nat×Bool}(i:Nat)(J:sO prog fid us v)(O:cZ prog fid=true)(hi:all[i]?=some ⟨d,.call {callee:=.value<|.func fid,args:=args.toArray,argTypes:=tys},ty,ps,af,g⟩)(G:Region.ready .any all listed=[i])(Z:bt F all g=some true)(hv:gd F args=some vs)(hs:aD vs us)(hL:db H.get L=true)(h1:F.puto d (some v) id=F1)
  (k:Go prog K Q (.drw all L m fuel<|listed.setIfInBounds i true) s n F1 H):Go prog K Q (.drw all L m (fuel+1) listed) s n F H:=by
 rw[Fm.puto_eq]at h1;subst h1;exact go_d1C O G hi rfl Z hv (iT J hs L hL) (.inl rfl) λv' H'' ⟨e1,e2⟩=>by subst e1 e2;exact k
theorem gDC{args:List Operand}{tys:Array TypeId}{vs:List V}{ty:TypeId}{ps:String}{af:Array Edge}{g:Option<|Nat×Bool}(i:Nat)(J:bv PL prog fid us H0 Post)(σ:YN)(O:cZ prog fid=true)(hi:all[i]?=some ⟨d,.call {callee:=.value<|.func fid,args:=args.toArray,argTypes:=tys},ty,ps,af,g⟩)(G:Region.ready .any all listed=[i])(Z:bt F all g=some true)(hv:gd F args=some vs)(hs:aD vs<|renL σ us)(hH:leH σ H H0.es)(hc:(df σ&&Nat.beq σ.length H0.nx&&σ.all λi=>Nat.blt i H.nx)=true)(hL:(db H.get L&&L.all λi=>!σ.contains i)=true)
  (k:∀v H',Post v H'->Go prog K Q (.drw all L m fuel<|listed.setIfInBounds i true) s n (F.seto d<|some<|v.ren<|sgN PL H.nx H0.get H'.nx σ 0) (pj PL H σ H0 H')):Go prog K Q (.drw all L m (fuel+1) listed) s n F H:=
 go_d1C O G hi rfl Z hv (wX J σ hs hH hc L hL) (.inl rfl) λv' H'' ⟨v,H',hP,e1,e2⟩=>by subst e1 e2;exact k v H' hP
end
def aj(f:Func):Code:=match f.body with
 |some c=>c
 |none=>.skip
def cA:Code->Code
 |.seq x _=>x
 |c=>c
def cB:Code->Code
 |.seq _ y=>y
 |c=>c
def cK:Code->Code
 |.block _ c=>c
 |c=>c
def cL:Code->Code
 |.loop c=>c
 |c=>c
def cT:Code->Code
 |.cond _ x _=>x
 |c=>c
def cE:Code->Code
 |.cond _ _ y=>y
 |c=>c
theorem apM(f:α->V)(l:List α)(x:α):List.map f l++[f x]=List.map f (l++[x]):=by simp
theorem Co(l:YT):l.map wW=kidsV l:=by
 induction l with
 |nil=>rfl
 |cons t r ih=>simp[kidsV,nb,ih]
theorem eg(x:Tree):[wW x]=kidsV [x]:=by simp[kidsV,nb]
theorem uA:∀(l:YT),kidsV l=l.map wW
 |[]=>rfl
 |t::r=>by simp[kidsV,nb,uA r]
theorem aB{f:α->V}{l:List α}{x:α}(h:l[i]?=some x):(List.map f l)[i]?=some (f x):=by simp[h]
theorem aJ(l:YT):(kidsV l).length=l.length:=sp l
theorem aQ(f:α->V)(l:List α):(List.map f l).length=l.length:=aaD ..
theorem aP{n:Nat}{m:Nat}(h:n=m):V.int .i64 (n:Int)=.int .i64 (m:Int):=by rw[h]
theorem Mw:∀(l:YT) (i:Nat) (x:Tree),(kidsV l).set i (wW x)=kidsV (l.set i x)
 |[],i,x=>rfl
 |t::r,0,x=>by simp[kidsV,nb]
 |t::r,i+1,x=>by simp[kidsV,Mw r i x]
theorem lp(f:α->V)(l:List α)(i:Nat)(x:α):(List.map f l).set i (f x)=List.map f (l.set i x):=by simp
theorem NX(f:α->V)(l:List α)(i:Nat):(List.map f l).take i=List.map f (l.take i):=by simp
theorem Rq(l:YT)(i j:Nat):((kidsV l).drop i).take j=kidsV ((l.drop i).take j):=by simp[uA,List.map_drop,List.map_take]
theorem QV(f:α->V)(l:List α)(i j:Nat):((List.map f l).drop i).take j=List.map f ((l.drop i).take j):=by simp[List.map_drop,List.map_take]
theorem BJ(σ:YN):∀(l:YT),renL σ (kidsV l)=kidsV l
 |[]=>rfl
 |t::r=>by simp only[kidsV,renL,BJ σ r];rw[nb];rfl
theorem mL{α:Type}(σ:YN)(f:α->V)(hf:∀x,(f x).ren σ=f x):∀(l:List α),renL σ (List.map f l)=List.map f l
 |[]=>rfl
 |x::r=>by simp only[aan,renL,hf,mL σ f hf r]
theorem bu(l:YT):pureL (kidsV l)=true:=By l
theorem iV{α:Type}(f:α->V)(hf:∀x,(f x).pure=true):∀(l:List α),pureL (List.map f l)=true
 |[]=>rfl
 |x::r=>by simp only[aan,pureL,hf,iV f hf r]
theorem cv{e:Bool}(h:(!e)=true):e=false:=by simpa using h
theorem cu{e:Bool}(h:(!e)=false):e=true:=by simpa using h
theorem cz[BEq α][LawfulBEq α]{a b:α}(h:(a !=b)=true):a≠b:=by simpa using h
theorem cg{a:Nat}(h:decide ((a:Int)<(b:Int))=true):a<b:=by have :=of_decide_eq_true h;omega
theorem ch{a:Nat}(h:decide ((a:Int)<(b:Int))=false):¬a<b:=by have :=of_decide_eq_false h;omega
theorem Tv{a:Nat}(h:decide ((a:Int)<=(b:Int))=true):a<=b:=by have :=of_decide_eq_true h;omega
theorem To{a:Nat}(h:decide ((a:Int)<=(b:Int))=false):¬a<=b:=by have :=of_decide_eq_false h;omega
theorem JL{a:Nat}(h:((a:Int)!=(b:Int))=true):a≠b:=by have :=cz h;omega
theorem Ix{a:Nat}(h:((a:Int)!=(b:Int))=false):a=b:=by have :=bH h;omega
variable{m:Int}
theorem bd{n:Int}(h:n=m):V.int .i64 n=.int .i64 m:=by rw[h]
abbrev InI(x:Int):Prop:=-9223372036854775808<=x∧x<=9223372036854775807
variable{S:Nat->Prop}
variable{N:Nat}
variable{a:Act}
variable{els':List V}
variable{f:Nat->Option Value}{u:TypeId}
variable{td:TD}
section
variable{P:Program}{T:Tab}{K:Ctx}{Q:Exit->Act->World->Prop}{p p':EP}{s s':List EI}{n:Nat}{F F' F1 F2:Fm}{H H' H1:Hp}{all:Array Oper}{rest:List Oper}{o:Oper}{L:YN}{m fuel:Nat}{listed:Array Bool}
theorem gS{v:V}(d:Nat)(G:V)(J:F.get d=some v)(hs:cq v G)(h1:F.put d (some G) id=F1)(k:Go P K Q p s n F1 H):Go P K Q p s n F H:=by rw[Fm.put_eq]at h1;subst h1;exact tu J hs k
theorem EB{id:Nat}{o:Ob}(G:h id=o):bQ h id o=h:=by
 funext i
 by_cases hi:i=id
 ·subst hi;rw[bD,G]
 ·rw[co _ _ hi]
theorem gHR(id:Nat)(els':List V)(G:H.get id=.row e sz els)(O:els=els')(h2:H.ap (.set id<|.row e sz els') _root_.id=H1)(k:Go P K Q p s n F H1):Go P K Q p s n F H:=by
 subst O;rw[Hp.ap_eq]at h2;subst h2;have J:(H.app<|.set id<|.row e sz els).get=H.get:=by
  rw[Hp.get_app<|by exact⟨by rw[G];simp,by rw[G];simp⟩];exact EB G
 intro S w ρ a hr hi Z;exact k S w ρ a (by rw[id_eq,J];exact hr) (by rw[id_eq,J];exact hi) Z
theorem CRel.sub{w:World}:∀{vs us:List V} {xs:List Value},aD vs us->CRel S w ρ sz vs xs->CRel S w ρ sz us xs
 |[],us,xs,h,G=>by simp only[aD]at h;subst h;exact G
 |v::r,us,xs,h,G=>by simp only[aD]at h;obtain⟨u,q,rfl,h1,h2⟩:=h;simp only[CRel]at G⊢;obtain⟨x,ys,rfl,J,O,Z⟩:=G;exact⟨x,ys,I,J,h1 _ _ _ _ O,Z.sub h2⟩
theorem aD.len:∀{vs us:List V},aD vs us->us.length=vs.length
 |[],us,h=>by simp only[aD]at h;subst h;rfl
 |v::r,us,h=>by simp only[aD]at h;obtain⟨u,q,rfl,_,h2⟩:=h;simp[h2.len]
theorem aD.rep{a b:V}(h:cq a b):∀n,aD (List.replicate n a) (List.replicate n b)
 |0=>aD.nil
 |n+1=>aD.cons h<|aD.rep h n
theorem gHW(id:Nat)(els':List V)(hp:p.still=true)(O:H.get id=.row e sz els)(Z:aD els els')(h2:H.ap (.set id<|.row e sz els') _root_.id=H1)(k:Go P K Q p s n F H1):Go P K Q p s n F H:=by
 rw[Hp.ap_eq]at h2;subst h2;have hg:(H.app<|.set id<|.row e sz els').get=bQ H.get id (.row e sz els'):=Hp.get_app (by exact⟨by rw[O];simp,by rw[O];simp⟩);intro S w ρ a hr hi hF;have G:∀i b,own ρ i (bQ H.get id (.row e sz els') i) b↔own ρ i (H.get i) b:=λi b=>by
  by_cases hi:i=id
  ·subst hi;rw[bD,O];rfl
  ·rw[co _ _ hi]
 refine k S w ρ a ?_ ?_ hF
 ·rw[id_eq,hg];refine⟨λi=>?_,λi b hb=>hr.sep i b<|(G i b).1 hb,λi j b h1 h2=>hr.dis i j b ((G i b).1 h1)<|(G j b).1 h2,hr.slt⟩;by_cases J:i=id
  ·subst J;rw[bD];obtain⟨v,xs,h1,h2,h3⟩:=jK hr O;exact⟨v,xs,h1,by rw[Z.len];exact h2,h3.sub Z⟩
  ·rw[co _ _ J];exact hr.ob i
 ·rw[id_eq,hg];exact⟨hi.chg,hi.s0,hi.s1,λi b hb=>hi.ow i b<|(G i b).1 hb,hi.pin⟩
def DB(PL:YN):List (Nat×Ob)->YN->Bool
 |[],_=>true
 |(i,o)::r,pv=>(!lD PL i o||pv.contains i)&&DB PL r pv
theorem El{PL:YN}:∀{es:List<|Nat×Ob} {pv:YN},DB PL es pv=true->∀i,lD PL i (aE es i)=true->i∈pv
 |[],pv,h,i,hi=>by simp[aE,lD]at hi
 | (j,o)::r,pv,h,i,hi=>by
  simp only[DB,aaa,aaB,Bool.not_eq_true']at h;simp only[aE]at hi;split at hi
  ·rename_i e;have :=aag e;subst this;rcases h.1 with h1|h1
   ·rw[h1]at hi;cases hi
   ·simpa using h1
  ·exact El h.2 i hi
theorem SF{nx:Nat}{es:List<|Nat×Ob}{pv:YN}(h:DB PL es pv=true):∀i,lD PL i ((⟨nx,es⟩:Hp).get i)=true->i∈pv:=λi hi=>by
 unfold Hp.get at hi;split at hi
 ·exact El h i hi
 ·simp[lD]at hi
def rg(ids:YN):List (Nat×Ob)->List (Nat×Ob)
 |[]=>[]
 |(j,o)::r=>match ids.contains j with
  |true=>rg ids r
  |false=>(j,o)::rg ids r
theorem Bk{ids:YN}{i:Nat}:∀{l:List<|Nat×Ob},aE (rg ids l) i=aE l i∨aE (rg ids l) i=.gone
 |[]=>.inl rfl
 | (j, o)::r=>by
  have ih:=Bk (ids:=ids) (i:=i) (l:=r);simp only[rg];split
  ·rename_i hc;by_cases hj:j=i
   ·subst hj;refine .inr ?_;have :∀l:List<|Nat×Ob,aE (rg ids l) j=.gone:=λl=>by
     induction l with
     |nil=>rfl
     | cons p q ihq=>
      obtain⟨k,o'⟩:=p;simp only[rg];split
      ·exact ihq
      ·rename_i hk;have hne:k≠j:=λe=>by subst e;rw[hc]at hk;cases hk
       simp only[aE,nbF hne];exact ihq
    exact this r
   ·simp only[aE,nbF hj];exact ih
  ·simp only[aE];split
   ·exact .inl I
   ·exact ih
theorem PK{rs:List ResultVar}{vs:List V}{e:Exit}(ids:YN)(O:TabOk P T)(G:fn.results=rs.toArray)(hv:tX T H.get F rs=some vs)(Z:Post (oU vs) ⟨H.nx,rg ids H.es⟩)(he:e=.ret∨e=.normal:=by first|exact .inl rfl|exact .inr rfl):Go P K (bodyPost P fn<|SP K Post) (.ex e) [] n F H:=λS w ρ a hr hi hF=>by
 have J:∀i,(⟨H.nx,rg ids H.es⟩:Hp).get i=H.get i∨(⟨H.nx,rg ids H.es⟩:Hp).get i=.gone:=λi=>by
  unfold Hp.get;cases hb:Nat.blt i H.nx
  ·exact .inl I
  ·exact Bk
 exact ret_go O he G hr hF hv λx hx=>⟨x,S,ρ,_,_,I,Z,hr.drop J,hi.drop J,hx⟩
theorem gJ(k:Go P K Q p s n F' H')(σ pv:YN)(J:p.still=true)(G:aw K pv)(O:leF σ F F')(hH:leH σ H H'.es)(Z:(df σ&&Nat.ble σ.length H'.nx&&xe σ pv&&Nat.ble F'.length n)=true):Go P K Q p s n F H:=go_sub σ pv J G O hH Z k
theorem Ca{w:World}{nid:Nat}(e:TypeId)(sz:Nat)(hr:HRel S w ρ h)(hf:h nid=.free):Eff S w w ρ (dS ρ nid<|.slice none 0 0) h (bQ h nid<|.row e sz []) (λ_=>False):=
 eff_new hr hf (Chg.refl _ _) ⟨_,[],bb _ _ _,⟨by simp,.inl ⟨rfl,rfl⟩⟩,by simp[CRel]⟩ (λb hb=>by obtain⟨v,h1,h2⟩:=hb;rw[bb]at h1;cases h1;cases h2)
theorem gNS(d:Nat)(e:TypeId)(sz:Nat)(hp:p.still=true)(hd:F.get d=some .nils)(h1:F.put d (some<|.sl H.nx) id=F1)(h2:H.ap (.new<|.row e sz []) id=H1)(k:Go P K Q p s n F1 H1):Go P K Q p s n F H:=by
 rw[Fm.put_eq]at h1;rw[Hp.ap_eq]at h2;subst h1 h2;intro S w ρ a hr hi Z;have O:=Ca e sz hr H.get_free;have hg:(H.app (.new (.row e sz []))).get=bQ H.get H.nx (.row e sz []):=Hp.get_app trivial;have :=k S w (dS ρ H.nx (.slice none 0 0)) a (by rw[id_eq,hg];exact O.hr) (by rw[id_eq,hg];exact hi.eff O) (by
  have J:=Z.up O.up;refine⟨J.size,J.defers,J.gl,by simpa using J.len,λi u G=>?_⟩;rw[id_eq,Fm.get_eq,List.getElem?_set]at G;split at G
  ·rename_i e1;subst e1;split at G
   ·simp only[Option.bind_some,id_eq,aad]at G;subst G;obtain⟨x,h3,h4⟩:=Z.get d _ hd;simp only[VRel]at h4;subst h4;exact⟨_,h3,by simp only[VRel];exact⟨bb _ _ _,rfl⟩⟩
   ·cases G
  ·exact J.get i u (by rw[Fm.get_eq];exact G))
 cases p with
 |drw all L m left listed=>cases hp
 |code c=>exact this
 |ops all rest=>exact this
 |ex e=>exact this
theorem gNC(id o:Nat)(e:TypeId)(sz:Nat)(hp:p.still=true)(ho:H.get id=.var t cs)(hc:cs[o]?=some .nils)(h2:(H.ap (.new<|.row e sz []) λH1=>H1.ap (.set id<|.var t<|cs.set o<|.sl H.nx) _root_.id)=H1)(k:Go P K Q p s n F H1):Go P K Q p s n F H:=by
 rw[Hp.ap_eq,Hp.ap_eq]at h2;subst h2;intro S w ρ a hr hi hF;have he:=Ca e sz hr H.get_free;have hg:(H.app<|.new<|.row e sz []).get=bQ H.get H.nx (.row e sz []):=Hp.get_app trivial;have hne:id≠H.nx:=λe1=>by subst e1;rw[H.get_free]at ho;cases ho
 have G:(H.app<|.new<|.row e sz []).get id=.var t cs:=by rw[hg,co _ _ hne,ho]
 have O:((H.app<|.new<|.row e sz []).app<|.set id<|.var t<|cs.set o<|.sl H.nx).get=bQ (H.app<|.new<|.row e sz []).get id (.var t<|cs.set o<|.sl H.nx):=Hp.get_app (by exact⟨by rw[G];simp,by rw[G];simp⟩);have h1:HRel S w (dS ρ H.nx<|.slice none 0 0) (H.app<|.new<|.row e sz []).get:=by rw[hg];exact he.hr
 have h2:Inv K S w (dS ρ H.nx<|.slice none 0 0) (H.app<|.new<|.row e sz []).get:=by rw[hg];exact hi.eff he
 have J:∀i b,own (dS ρ H.nx<|.slice none 0 0) i (bQ (H.app<|.new<|.row e sz []).get id (.var t<|cs.set o<|.sl H.nx) i) b↔own (dS ρ H.nx<|.slice none 0 0) i ((H.app<|.new<|.row e sz []).get i) b:=λi b=>by
  by_cases hi:i=id
  ·subst hi;rw[bD,G];rfl
  ·rw[co _ _ hi]
 have :=k S w (dS ρ H.nx (.slice none 0 0)) a (by
  rw[id_eq,O];refine⟨λi=>?_,λi b hb=>h1.sep i b<|(J i b).1 hb,λi j b q1 q2=>h1.dis i j b ((J i b).1 q1)<|(J j b).1 q2,h1.slt⟩;by_cases Z:i=id
  ·subst Z;rw[bD];obtain⟨b,xs,q1,q2,q3⟩:=ub h1 G;obtain⟨x,q4,q5⟩:=q3.get hc;simp only[VRel]at q5;subst q5;refine⟨b,xs,q1,q2,?_⟩;have :=q3.set (i:=o) (v:=.sl H.nx) (x:=.slice none 0 0) (by simp only[VRel];exact⟨bb _ _ _,rfl⟩);have e2:xs.set o (.slice none 0 0)=xs:=by
    obtain⟨hl,q6⟩:=List.getElem?_eq_some_iff.1 q4;rw[<-q6];exact List.set_getElem_self ..
   rw[e2]at this;exact this
  ·rw[co _ _ Z];exact h1.ob i) (by
  rw[id_eq,O];exact⟨h2.chg,h2.s0,h2.s1,λi b hb=>h2.ow i b ((J i b).1 hb),h2.pin⟩) (hF.up he.up)
 cases p with
 |drw all L m left listed=>cases hp
 |code c=>exact this
 |ops all rest=>exact this
 |ex e=>exact this
theorem gLB(d:Nat)(J:F.get d=some (.row sz els))(Z:els.length=N)(k:N<=9223372036854775807->Go P K Q p s n F H):Go P K Q p s n F H:=λS w ρ a hr hi G=>by obtain⟨x,h1,h2⟩:=G.get d _ J;simp only[VRel]at h2;obtain⟨A,c,xs,rfl,h3,O,_⟩:=h2;exact k (by simp only[maxLen]at O;omega) S w ρ a hr hi G
theorem gLO(id:Nat)(G:H.get id=.row e sz els)(Z:els.length=N)(k:N<=9223372036854775807->Go P K Q p s n F H):Go P K Q p s n F H:=λS w ρ a hr hi J=>by
 obtain⟨v,xs,h1,h2,h3⟩:=jK hr G;refine k ?_ S w ρ a hr hi J;rcases h2.2 with⟨_,h⟩|⟨g,cap,cur,_,_,_,h4,O,_⟩
 ·omega
 ·simp only[maxLen]at O;omega
theorem Tq(G:TabOk P T)(ht:(match T.ty t with|some ⟨_,_,_,.str⟩=>true|_=>false)=true):P.underlying t=some .string:=by
 split at ht
 ·rename_i h;exact(G.ty _ _ h).str rfl
 ·cases ht
def xb(F:Fm)(y:Option Operand)(i:Nat)(dflt:Nat):Prop:=(y=none∧i=dflt)∨∃z,y=some z∧aO F z=some (.int .i64 (i:Int))
theorem BO:xb F none i i:=.inl ⟨rfl,rfl⟩
theorem yr{z:Operand}{d:Nat}(h:aO F z=some (.int .i64 (i:Int))):xb F (some z) i d:=.inr ⟨z,rfl,h⟩
theorem Bc{w:World}(G:FRel S w ρ a n F){y:Option Operand}{d:Nat}(h:xb F y i d):(y=none∧i=d)∨∃z,y=some z∧Opd S w ρ a z (.int .i64 (i:Int)):=h.imp _root_.id λ⟨z,e,h⟩=>⟨z,e,au G h⟩
theorem ySS(hT:TabOk P T){lo hi:Option Operand}{l r:YB}(ht:(match T.ty t with|some ⟨_,_,_,.str⟩=>true|_=>false)=true)(hx:aO F x=some (.str l))(J:xb F lo i 0)(O:xb F hi j l.length)(Z:i<=j)(hj:j<=l.length)(he:(l.drop i).take (j-i)=r):∀S w ρ a,HRel S w ρ H.get->FRel S w ρ a n F->Yld P S w ρ a ty (.slice t x lo hi none) (.str r):=λS w ρ a hr G=>by subst he;exact NO G.fr (Tq hT ht) (au G hx) (Bc G J) (Bc G O) Z hj
theorem ySR(hT:TabOk P T){lo hi:Option Operand}(ht:slT T t=some (e,sz))(hx:aO F x=some (.row sz els))(J:xb F lo i 0)(O:xb F hi j els.length)(Z:i<=j)(hj:j<=els.length)(he:(els.drop i).take (j-i)=els'):∀S w ρ a,HRel S w ρ H.get->FRel S w ρ a n F->Yld P S w ρ a ty (.slice t x lo hi none) (.row sz els'):=λS w ρ a hr G=>by subst he;exact Oj G.fr (qH hT ht).1 (qH hT ht).2 (au G hx) (Bc G J) (Bc G O) Z hj
theorem Kh{lo hi:Option Operand}(Z:els.length=N)(hT:TabOk P T)(ht:slT T t=some (e,sz))(hx:aO F x=some (.row sz els))(G:xb F lo i 0)(J:xb F hi j N)(O:i<=j)(hj:j<=N)(he:(els.drop i).take (j-i)=els'):∀S w ρ a,HRel S w ρ H.get->FRel S w ρ a n F->Yld P S w ρ a ty (.slice t x lo hi none) (.row sz els'):=by subst Z;exact ySR hT ht hx G J O hj he
theorem AC(l:List α)(i:Nat):(l.drop i).take (l.length-i)=l.drop i:=by
 rw[List.take_of_length_le<|by simp]
theorem An(l:List α)(j:Nat):(l.drop 0).take (j-0)=l.take j:=by simp
theorem aI{y:Operand}{v:V}(hi:els[i]?=some v)(G:TabOk P T)(ht:slT T t=some (e,sz))(hx:aO F x=some (.row sz els))(hy:aO F y=some (.int .i64 (i:Int)))(J:v.cells=cs):∀S w ρ a,HRel S w ρ H.get->FRel S w ρ a n F->Yld P S w ρ a ty (.indexAddr t x y) (.box cs 0):=by subst J;exact yIR G ht hx hy hi
theorem Po{w:World}{y:Operand}{m:Int}(h:Fr a n f)(hx:aR f x=some (.int .i64 m))(hy:aR f y=some (.int .i64 l))(G:l≠0):Runs P a ty (.binOp .rem t x y u) w (.value<|.int .i64<|Int.tmod m l) w:=λ_ _ _ _=>by simp only[execOp,h.eval hx,h.eval hy];simp[go_sem,eqGuard,Op.intDiv,G]
theorem PA{w:World}{y:Operand}{m:Int}(h:Fr a n f)(hx:aR f x=some (.int .i64 m))(hy:aR f y=some (.int .i64 l))(hb:InI<|m*l):Runs P a ty (.binOp .mul t x y u) w (.value<|.int .i64<|m*l) w:=λ_ _ _ _=>by have e:IntKind.i64.wrap (m*l)=m*l:=IntWalk.i64_in _ (by omega);simp only[execOp,h.eval hx,h.eval hy];simp[go_sem,eqGuard,e]
theorem Oq{w:World}{y:Operand}{m l:YB}(h:Fr a n f)(hx:aR f x=some (.string ⟨m.toArray⟩))(hy:aR f y=some (.string ⟨l.toArray⟩))(hb:m.length+l.length<=9223372036854775807):Runs P a ty (.binOp .add t x y u) w (.value<|.string ⟨(m++l).toArray⟩) w:=λ_ _ _ _=>by simp only[execOp,h.eval hx,h.eval hy];simp[go_sem,eqGuard,show¬9223372036854775807<m.length+l.length by omega];rfl
theorem Bv{w:World}(d:Nat)(A:Option Addr)(k c:Nat)(ht:P.underlying t=some (.slice e)):(Op.equalIn (d+1) t (.slice A k c)<|.slice none 0 0).run P w=.ok A.isNone w:=by cases A<;>simp[Op.equalIn,run_underlying ht]
theorem Dp{w:World}(A:Option Addr)(k c:Nat)(ht:P.underlying t=some (.slice e)):(Op.equal t (.slice A k c)<|.slice none 0 0).run P w=.ok A.isNone w:=Bv 9999 A k c ht
theorem Qj{w:World}{A:Option Addr}{c:Nat}(h:Fr a n f)(ht:P.underlying t=some (.slice e))(hx:aR f x=some (.slice A k c)):Runs P a ty (.binOp .eql t x (.const<|.slice none 0 0) u) w (.value<|.bool A.isNone) w:=λ_ _ _ _=>by
 have hb:(binOp .eql t (.slice A k c)<|.slice none 0 0).run P w=.ok (.bool A.isNone) w:=by simp only[binOp];simp[Dp A k c ht]
 simp only[execOp,h.eval hx];simp[go_sem,eqGuard,hb]
def Nm(h:Nat->Ob):V->Bool
 |.row _ _=>true
 |.sl i=>match h i with|.row _ _ _=>true|_=>false
 |.nils=>true
 |_=>false
def Nl(h:Nat->Ob):V->Nat
 |.row _ els=>els.length
 |.sl i=>match h i with|.row _ _ els=>els.length|_=>0
 |_=>0
theorem Ou{w:World}{v:V}{x:Value}(hr:HRel S w ρ h)(hs:Nm h v=true)(hx:VRel S w ρ v x):∃A k c,x=.slice A k c∧(A.isNone=true->Nl h v=0):=by
 unfold Nm at hs;split at hs
 ·simp only[VRel]at hx;obtain⟨A,c,xs,rfl,_,_,_,O⟩:=hx;refine⟨_,_,_,I,λG=>?_⟩;refine Nat.eq_zero_of_not_pos λZ=>?_;obtain⟨b,off,rfl,_⟩:=O.2 Z;cases G
 ·split at hs
  ·rename_i J;obtain⟨v,xs,h1,h2,_⟩:=jK hr J;simp only[VRel]at hx;rw[h1]at hx;obtain⟨e,_⟩:=hx;injection e with e;subst e
   rcases h2.2 with⟨rfl,h3⟩|⟨_,_,_,rfl,_⟩
   ·exact⟨_,_,_,rfl,λ_=>by simp only[Nl,J];exact h3⟩
   ·exact⟨_,_,_,rfl,λG=>by cases G⟩
  ·cases hs
 ·simp only[VRel]at hx;subst hx;exact⟨_,_,_,rfl,λ_=>rfl⟩
 ·cases hs
theorem Sg{v:V}{ps:String}{af:Array Edge}(J:TabOk P T)(O:bt F all g=some true)(ht:slT T t=some (e,sz))(hx:aO F x=some v)(hv:Nm H.get v=true)(Z:Nl H.get v=N)(k:∀b:Bool,(b=true->N=0)->Go P K Q (.ops all rest) s n (F.seto d<|some<|.bool b) H):Go P K Q (.ops all<|⟨d,.binOp .eql t x (.const<|.slice none 0 0) u,ty,ps,af,g⟩::rest) s n F H:=λS w ρ a hr hi G=>by
 show wpList P all (ea P Q s) (⟨d,.binOp .eql t x (.const<|.slice none 0 0) u,ty,ps,af,g⟩::rest) a w;unfold wpList;rw[if_pos<|cj G O];refine .inl ?_;obtain⟨y,h1,h2⟩:=au G hx;obtain⟨A,kk,c,rfl,hl⟩:=Ou hr hv h2;have :=Qj (P:=P) (w:=w) (ty:=ty) (u:=u) G.fr (qH J ht).1 h1;unfold Oper.wp;rw[this d ps af g];exact k A.isNone (λhb=>by subst Z;exact hl<|by simpa using hb) S w ρ _ hr hi (cP G d<|by simp only[VRel])
theorem Tg{y:Operand}{m:Int}(hx:aO F x=some (.int .i64 m))(hy:aO F y=some (.int .i64 l))(J:l≠0):∀S w ρ a,HRel S w ρ H.get->FRel S w ρ a n F->Yld P S w ρ a ty (.binOp .rem t x y u) (.int .i64<|Int.tmod m l):=λS w ρ a hr G=>⟨_,by simp only[VRel],λw' _=>Po G.fr (bj<|au G hx) (bj<|au G hy) J⟩
theorem IP{y:Operand}{m:Int}(hx:aO F x=some (.int .i64 m))(hy:aO F y=some (.int .i64 l))(hb:InI<|m*l):∀S w ρ a,HRel S w ρ H.get->FRel S w ρ a n F->Yld P S w ρ a ty (.binOp .mul t x y u) (.int .i64<|m*l):=λS w ρ a hr G=>⟨_,by simp only[VRel],λw' _=>PA G.fr (bj<|au G hx) (bj<|au G hy) hb⟩
theorem vm{y:Operand}{m l:YB}(hx:aO F x=some (.str m))(hy:aO F y=some (.str l))(hb:m.length+l.length<=9223372036854775807):∀S w ρ a,HRel S w ρ H.get->FRel S w ρ a n F->Yld P S w ρ a ty (.binOp .add t x y u) (.str<|m++l):=λS w ρ a hr G=>⟨_,by simp only[VRel],λw' _=>Oq G.fr (kR<|au G hx) (kR<|au G hy) hb⟩
theorem pS{vs:List V}{v:V}{G:Hp}(O:bv PL P fid us H0 λu G'=>u=v∧G'=G)(σ:YN)(hv:aD vs<|renL σ us)(hH:leH σ H H0.es)(Z:(df σ&&Nat.beq σ.length H0.nx&&σ.all λi=>Nat.blt i H.nx)=true)(L:YN)(hL:(db H.get L&&L.all λi=>!σ.contains i)=true):
  CallR P K fid vs H L (λJ H''=>J=v.ren (sgN PL H.nx H0.get G.nx σ 0)∧H''=pj PL H σ H0 G):=λS w ρ xs hr hi hx=>
 (wX O σ hv hH Z L hL S w ρ xs hr hi hx).mono λe w' hh=>by obtain⟨x,S',ρ',J,H',h1,⟨u,G',⟨q1,q2⟩,e1,e2⟩,h3⟩:=hh;subst q1 q2;exact⟨x,S',ρ',J,H',h1,⟨e1,e2⟩,h3⟩
theorem pD{o:Oper}{L:YN}{ok:Bool}{v:Option V}(ed:ED)(hd:∀S w ρ a,HRel S w ρ H.get->FRel S w ρ a n F->Does P S w ρ H.get a o.type o.op v (ed.app H.get H.nx) ed.tch)(hl:ed.ok H.get)(hc:((db H.get L&&ed.clear L)||ok)=true):oO P K o L ok n F H (v.getD<|.tup []) (H.app ed):=λS w ρ a hr hi hF Q' K2 k=>by
 obtain⟨nx,w',ρ',h1,h2,Z⟩:=hd S w ρ a hr hF;have G:=h2.hr;have J:=hi.eff h2;rw[<-Hp.get_app hl]at G J;have O:Ls ρ L w w'∨ok=true:=(zt hc).imp (λh=>by simp only[aaa]at h;exact Ee hr h2 h.1 h.2) _root_.id
 have kk:=λx hx=>k x S w' ρ' G J h2.up (tT hr h2) O hx;obtain⟨d,op,ty,ps,af,g⟩:=o;unfold Oper.wp;rw[h1 d ps af g];cases v with
 |none=>
  subst Z;exact kk undef xy
 |some v=>
  obtain⟨x,rfl,h4⟩:=Z;exact kk x h4
theorem HY{w:World}{ty:TypeId}{y:Operand}{o len r:Nat}{i:Int}{k:Nat}(h:Fr a n f)(ht:P.underlying t=some (.array len e))(O:(P.info? e).map (·.size)=some sz)(hx:aR f x=some (.pointer<|some ⟨b,o,none⟩))(hy:aR f y=some (.int .i64 i))
  (Z:i=(k:Int)) (G:k<len) (hr:o+k*sz=r):Runs P a ty (.indexAddr t x y) w (.value<|.pointer<|some ⟨b,r,none⟩) w:=λ_ _ _ _=>by
 obtain⟨inf,hi,hs⟩:=Option.map_eq_some_iff.1 O;have J:(sizeOf e).run P w=.ok sz w:=by simp[sizeOf,typeInfo,hi,hs]
 subst Z hr;simp only[execOp,h.eval hx,h.eval hy];simp[Instr.indexAt,asIntOf,run_underlying ht,Instr.sureAddr,J,G,rU]
theorem LRel.sub{w:World}{vs:List V}{xs:List Value}(h:LRel S w ρ vs xs)(i j:Nat):LRel S w ρ ((vs.drop i).take j) ((xs.drop i).take j):=(h.drop i).take j
theorem yIA(hT:TabOk P T){y:Operand}{len o:Nat}{cs':List V}{tz:TD}(ht:T.ty t=some tz)(G:(match tz.kind with|.arr l e'=>Nat.beq l len&&Nat.beq e e'|_=>false)=true)(Z:T.ty e=some td)(hsz:td.size=sz)(hx:aO F x=some (.box cs o))(hy:aO F y=some (.int .i64 (k:Int)))(hlt:k<len)(hc:(cs.drop<|o+k*sz).take sz=cs')(hl:o+k*sz+sz<=cs.length):
  ∀S w ρ a,HRel S w ρ H.get->FRel S w ρ a n F->Yld P S w ρ a ty (.indexAddr t x y) (.box cs' 0):=λS w ρ a hr hF=>by
 subst hc hsz;obtain⟨y0,h1,h2⟩:=au hF hx;simp only[VRel]at h2;obtain⟨b,off,xs,rfl,hS,hb,J,hcell⟩:=h2;have O:P.underlying t=some (.array len e):=by
  split at G
  ·rename_i l e' he';simp only[aaa]at G;have h3:=aag G.1;have h4:=aag G.2;subst h3 h4;exact(hT.ty _ _ ht).arr he'
  ·cases G
 refine⟨_,?_,λw' _=>HY hF.fr O (hT.ty _ _ Z).size h1 (bj<|au hF hy) I hlt I⟩;simp only[VRel];refine⟨b,off+o+k*td.size,(xs.drop<|o+k*td.size).take td.size,by simp,hS,hb,J.sub _ _,λj hj=>?_⟩;have hxl:=J.length;simp only[aak,aal]at hj;rw[show off+o+k*td.size+j=off+(o+k*td.size+j) by omega,hcell _ (by omega),List.getElem?_take,if_pos (by omega),List.getElem?_drop]
theorem KC{vs:List V}{L:YN}(i:Nat)(e:TypeId)(sz:Nat)(hv:vs[i]?=some .nils)(k:CallR P K fid (vs.set i<|.sl H.nx) (H.app<|.new<|.row e sz []) L Post):CallR P K fid vs H L Post:=λS w ρ xs hr hi hx=>by
 have G:=Ca e sz hr H.get_free;have Z:(H.app<|.new<|.row e sz []).get=bQ H.get H.nx (.row e sz []):=Hp.get_app trivial;have J:LRel S w (dS ρ H.nx<|.slice none 0 0) (vs.set i<|.sl H.nx) xs:=by
  obtain⟨x,h1,h2⟩:=hx.get hv;simp only[VRel]at h2;subst h2;have :=(hx.up G.up).set (i:=i) (v:=.sl H.nx) (x:=.slice none 0 0) (by simp only[VRel];exact⟨bb _ _ _,rfl⟩);have e2:xs.set i (.slice none 0 0)=xs:=by obtain⟨hl,q6⟩:=List.getElem?_eq_some_iff.1 h1;rw[<-q6];exact List.set_getElem_self ..
  rw[e2]at this;exact this
 refine(k S w (dS ρ H.nx<|.slice none 0 0) xs (by rw[Z];exact G.hr) (by rw[Z];exact hi.eff G) J).mono λe w' hh=>?_;obtain⟨x,S',ρ',v,H',h1,h2,h3,h4,O,h6,h7⟩:=hh;exact⟨x,S',ρ',v,H',h1,h2,h3,h4,⟨O.s,O.blk,λi y h=>O.r i y<|G.up.r i y h⟩,h6,λid hid y b hy hb=>h7 id hid y b (G.up.r _ _ hy) hb⟩
theorem yMF{caps:List Operand}{vs:List V}(hv:gd F caps=some vs):∀S w ρ a,HRel S w ρ H.get->FRel S w ρ a n F->Yld P S w ρ a ty (.makeFunc (.func fid) #[] caps.toArray) (.clo fid vs):=λS w ρ a hr G=>by
 obtain⟨xs,h1,h2⟩:=pk G hv;refine⟨.func (.func fid) #[] xs.toArray,by simp only[VRel];exact⟨xs,rfl,h2⟩,λw' _=>λ_ _ _ _=>?_⟩;have e:caps.toArray.map a.eval=xs.toArray:=by rw[<-G.fr.vals h1];simp
 simp only[execOp,e];simp[Instr.makeFunc]
theorem Tn{t:Tmp}{args:List Operand}{tys:Array TypeId}{vs caps:List V}{v:V}{ty:TypeId}{ps:String}{af:Array Edge}(hS:sO P fid us v)(he:cZ P fid=true)(hw:bt F all g=some true)(hf:aO F (.tmp t)=some (.clo fid caps))(hv:gd F args=some vs)(hs:aD (vs++caps) us)(h1:F.puto d (some v) id=F1)
  (k:Go P K Q (.ops all rest) s n F1 H):Go P K Q (.ops all<|⟨d,.call {callee:=.value<|.tmp t,args:=args.toArray,argTypes:=tys},ty,ps,af,g⟩::rest) s n F H:=λS w ρ a hr hi G=>by
 rw[Fm.puto_eq]at h1;subst h1;show wpList P all (ea P Q s) (⟨d,.call {callee:=.value<|.tmp t,args:=args.toArray,argTypes:=tys},ty,ps,af,g⟩::rest) a w;unfold wpList;rw[if_pos<|cj G hw];refine .inl ?_;obtain⟨xs,h1,h2⟩:=pk G hv;obtain⟨y,h3,h4⟩:=au G hf;simp only[VRel]at h4;obtain⟨ys,rfl,h5⟩:=h4;have hc:=iT (K:=K) (H:=H) hS hs [] rfl S w ρ (xs++ys) hr hi<|h2.append h5;have hx:(execOp a.eval ⟨d,.call {callee:=.value<|.tmp t,args:=args.toArray,argTypes:=tys},ty,ps,af,g⟩).run P w=.ok (.enter fid (xs++ys).toArray) w:=by
  have e:args.toArray.map a.eval=xs.toArray:=by rw[<-G.fr.vals h1];simp
  have e2:a.eval (.tmp t)=.func (.func fid) #[] ys.toArray:=G.fr.eval h3;simp only[execOp,resolve,e,e2];simp[Deferred.ofValue,invoke,mC he]
 unfold Oper.wp;rw[hx,Oper.upon_enter];refine hc.mono λe w1 hR=>?_;obtain⟨x,S',ρ',v',H',rfl,⟨rfl,rfl⟩,J,O,hu,Z,_⟩:=hR;exact k S' w1 ρ' _ J O<|cP (G.up hu) d Z
theorem gYd{v:V}(i:Nat)(hi:all[i]?=some o)(G:(!Nat.beq i m&&Region.free .any all listed i&&(Region.ready .any all listed).contains i)=true)(hy:∀S w ρ a,HRel S w ρ H.get->FRel S w ρ a n F->Yld P S w ρ a o.type o.op v)(J:bt F all o.guard=some true)(h1:F.puto o.dst (some v) id=F1)(k:Go P K Q (.drw all L m fuel<|listed.setIfInBounds i true) s n F1 H):Go P K Q (.drw all L m (fuel+1) listed) s n F H:=by rw[Fm.puto_eq]at h1;subst h1;simp only[aaa,Bool.not_eq_true']at G;exact NS G.1.1 hi G.1.2 G.2 J hy k
theorem cw{v:V}(i:Nat)(hi:all[i]?=some o)(G:Region.ready .any all listed=[i])(hy:∀S w ρ a,HRel S w ρ H.get->FRel S w ρ a n F->Yld P S w ρ a o.type o.op v)(J:bt F all o.guard=some true)(h1:F.puto o.dst (some v) id=F1)(k:Go P K Q (.drw all L m fuel<|listed.setIfInBounds i true) s n F1 H):Go P K Q (.drw all L m (fuel+1) listed) s n F H:=by rw[Fm.puto_eq]at h1;subst h1;exact LQ G hi J hy k
theorem gDo{v:Option V}(ed:ED)(G:∀S w ρ a,HRel S w ρ H.get->FRel S w ρ a n F->Does P S w ρ H.get a o.type o.op v (ed.app H.get H.nx) ed.tch)(J:ed.ok H.get)(O:bt F all o.guard=some true)(h1:F.puto o.dst (Et v) id=F1)(h2:H.ap ed id=H1)(k:Go P K Q (.ops all rest) s n F1 H1):Go P K Q (.ops all<|o::rest) s n F H:=by rw[Fm.puto_eq]at h1;rw[Hp.ap_eq]at h2;subst h1 h2;exact go_opD O G J k
theorem bo{v:Option V}(i:Nat)(ed:ED)(hi:all[i]?=some o)(G:Region.ready .any all listed=[i])(J:∀S w ρ a,HRel S w ρ H.get->FRel S w ρ a n F->Does P S w ρ H.get a o.type o.op v (ed.app H.get H.nx) ed.tch)(O:ed.ok H.get)(Z:bt F all o.guard=some true)(hc:((db H.get L&&ed.clear L)||(listed.setIfInBounds i true).getD m false)=true)(h1:F.puto o.dst (Et v) id=F1)(h2:H.ap ed id=H1)(k:Go P K Q (.drw all L m fuel<|listed.setIfInBounds i true) s n F1 H1):Go P K Q (.drw all L m (fuel+1) listed) s n F H:=by rw[Fm.puto_eq]at h1;rw[Hp.ap_eq]at h2;subst h1 h2;exact Fw G hi Z J O hc k
theorem bI{y:Operand}{by_ id:Nat}{news:List V}{v:V}{ty:TypeId}(G:TabOk P T)(ht:slB T t=some (e,sz,by_))(hx:aO F x=some (.sl id))(J:H.get id=.row e sz els)(hy:aO F y=some v)(hs:EZ H.get sz v=some news)(O:els++news=els')(hb:els'.length<=1000000000):
  ∀S w ρ a,HRel S w ρ H.get->FRel S w ρ a n F->Does P S w ρ H.get a ty (.call {callee:=.builtin .append,args:=#[x,y],argTypes:=#[t,t]}) (some<|.sl H.nx) ((ED.repl id<|.row e sz els').app H.get H.nx) (ED.repl id<|.row e sz els').tch:=by
 subst O;exact dAp G ht hx J hy hs (by simpa using hb)
theorem okR{id:Nat}(G:H.get id=.row e sz els):(ED.repl id o').ok H.get:=by exact⟨by rw[G];simp,by rw[G];simp⟩
theorem okS{id:Nat}(G:H.get id=.row e sz els):(ED.set id o').ok H.get:=by exact⟨by rw[G];simp,by rw[G];simp⟩
theorem dTr(J:TabOk P T){y:Operand}{id:Nat}{ty:TypeId}(ht:slT T t=some (e,sz))(hx:aO F x=some (.sl id))(O:H.get id=.row e sz els)(hy:aO F y=some (.int .i64 (k:Int)))(Z:k<=els.length)(he:els.take k=els'):
  ∀S w ρ a,HRel S w ρ H.get->FRel S w ρ a n F->Does P S w ρ H.get a ty (.slice t x none (some y) none) (some<|.sl H.nx) ((ED.repl id<|.row e sz els').app H.get H.nx) (ED.repl id<|.row e sz els').tch:=λS w ρ a hr G=>by
 subst he;exact GZ hr G.fr H.get_free (au G hx) (au G hy) O (qH J ht).1 (qH J ht).2 Z
theorem dLe(O:TabOk P T){id o:Nat}{v0 v:V}(ht:T.ty t=some td)(hx:aO F x=some (.el id sz i o))(J:H.get id=.row e sz els)(hi:els[i]?=some v0)(hv:qF td v0.cells o=some v):
  ∀S w ρ a,HRel S w ρ H.get->FRel S w ρ a n F->Does P S w ρ H.get a ty (.load t x) (some v) (ED.nop.app H.get H.nx) ED.nop.tch:=λS w ρ a hr G=>by
 rcases rL (O.ty _ _ ht) hv with⟨h1,h2⟩|⟨h1,h2,rfl⟩
 ·exact Hb hr G.fr (au G hx) J h1 hi h2
 ·exact FP hr G.fr (au G hx) J h1 hi h2
theorem dSe(Z:TabOk P T){y:Operand}{id o:Nat}{v0 v:V}(ht:T.ty t=some td)(hx:aO F x=some (.el id sz i o))(hy:aO F y=some v)(ho:H.get id=.row e sz els)(hi:els[i]?=some v0)(O:(Nat.beq v.cells.length td.size&&v.cells.all V.one&&Nat.ble (o+td.size) v0.cells.length&&(match v0 with|.agg _=>true|v0=>v0.one&&v.one))=true)(he:els.set i (v0.over o v.cells)=els'):
  ∀S w ρ a,HRel S w ρ H.get->FRel S w ρ a n F->Does P S w ρ H.get a ty (.store t x y) none ((ED.set id<|.row e sz els').app H.get H.nx) (ED.set id<|.row e sz els').tch:=λS w ρ a hr G=>by
 subst he;simp only[aaa]at O;obtain⟨⟨⟨h1,h2⟩,h3⟩,J⟩:=O;exact AB hr G.fr (au G hx) (au G hy) ho (Z.ty _ _ ht).size hi (aag h1) h2 (Nat.le_of_ble_eq_true h3) (by
  cases v0 with
  |agg cs=>exact .inl ⟨cs,rfl⟩
  |_=>simp only[aaa]at J;exact .inr ⟨xU J.1,xU J.2⟩)
theorem dMk(hT:TabOk P T){y:Operand}{m:Nat}{G:V}{tz:TD}(ht:T.ty t=some tz)(J:(match tz.kind with|.sl e'=>Nat.beq e e'|_=>false)=true)(O:T.ty e=some td)(hx:aO F x=some (.int .i64 (m:Int)))(hy:aO F y=some (.int .i64 (m:Int)))(hsz:td.size=sz)(Z:td.zero=G)(hc:(Nat.blt 0 td.size&&Nat.ble td.bytes 1000)=true)(hm:m<=1000000000):
  ∀S w ρ a,HRel S w ρ H.get->FRel S w ρ a n F->Does P S w ρ H.get a ty (.makeSlice t x y) (some<|.sl H.nx) ((ED.new<|.row e sz<|List.replicate m G).app H.get H.nx) (ED.new<|.row e sz<|List.replicate m G).tch:=λS w ρ a hr hF=>by
 subst hsz Z;simp only[aaa,Nat.blt_eq]at hc;obtain⟨z,h1,h2,h3,h4⟩:=(hT.ty _ _ O).info;have hsl:P.underlying t=some (.slice e):=by
  split at J
  ·rename_i e' he';have :=aag J;subst this;exact(hT.ty _ _ ht).sl he'
  ·cases J
 have hb:td.bytes<=1000:=Nat.le_of_ble_eq_true hc.2;exact LN hr hF.fr H.get_free (au hF hx) (au hF hy) hsl h1 h3 hc.1 h4 h2 (aao (Nat.mul_le_mul hb hm)<|by decide) (by simp only[maxLen];omega)
theorem gCn{args:List Operand}{tys:Array TypeId}{vs:List V}{d:Option Tmp}{ty:TypeId}{ps:String}{af:Array Edge}(i:Nat)(e:TypeId)(sz:Nat)(J:bv PL P fid us H0 Post)(σ:YN)(O:cZ P fid=true)(Z:bt F all g=some true)(hv:gd F args=some vs)(G:vs[i]?=some .nils)(h2:H.ap (.new<|.row e sz []) id=H1)(hs:aD (vs.set i<|.sl H.nx)<|renL σ us)(hH:leH σ H1 H0.es)(hc:(df σ&&Nat.beq σ.length H0.nx&&σ.all λi=>Nat.blt i H1.nx)=true)
  (k:∀v H',Post v H'->Go P K Q (.ops all rest) s n (F.seto d<|some<|v.ren<|sgN PL H1.nx H0.get H'.nx σ 0) (pj PL H1 σ H0 H')):Go P K Q (.ops all<|⟨d,.call {callee:=.value<|.func fid,args:=args.toArray,argTypes:=tys},ty,ps,af,g⟩::rest) s n F H:=by
 rw[Hp.ap_eq]at h2;subst h2;exact go_opC (o:=⟨d,.call {callee:=.value<|.func fid,args:=args.toArray,argTypes:=tys},ty,ps,af,g⟩) O rfl Z hv (KC i e sz G<|wX J σ hs hH hc []<|by simp[db]) λv' H'' ⟨v,H',hP,e1,e2⟩=>by subst e1 e2;exact k v H' hP
end
abbrev qS(f:FuncId)(a:List V)(r:V):Prop:=sO prog f a r
abbrev qLG(K:Ctx)(fn:Func)(Q:V->Hp->Prop)(c:Code)(s:List EI)(n:Nat)(F:Fm)(H:Hp):Prop:=Go prog K (bodyPost prog fn (SP K Q)) (.code c) s n F H
abbrev q9(v:V):V->Hp->Prop:=λu _=>u=v
abbrev z6(v:V)(H:Hp):V->Hp->Prop:=λu G=>u=v∧G=H
abbrev z7(m:Nat)(L:YN)(f:Func)(P:V->Hp->Prop)(c:Code)(s:List EI)(n:Nat)(l:List (Nat×V))(H:Hp):Prop:=∀(K:Ctx) (j:Nat),aw K L->m<=j->qLG K f P c (.loop c j::s) n (mkF n 0 l) H
abbrev z8(L:YN)(f:Func)(P:V->Hp->Prop)(c:Code)(s:List EI)(n:Nat)(l:List (Nat×V))(H:Hp):Prop:=∀(K:Ctx),aw K L->qLG K f P c s n (mkF n 0 l) H
abbrev y4(L:YN)(f:Func)(P:V->Hp->Prop)(s:List EI)(n:Nat)(l:List (Nat×V))(H:Hp):Prop:=∀(K:Ctx),aw K L->Go prog K (bodyPost prog f (SP K P)) (.ex .normal) s n (mkF n 0 l) H
abbrev y5(c A B:Prop):Prop:=(c->A)∧(¬c->B)
abbrev y6(c:Bool)(A B:Prop):Prop:=(c=true->A)∧(c=false->B)
abbrev y7(c:Bool)(A B:Prop):Prop:=(c=false->A)∧(c=true->B)
abbrev y8{α:Type}(x y:α)(A B:Prop):Prop:=(x=y->A)∧(x≠y->B)
abbrev y9{α:Type}(x y:α)(A B:Prop):Prop:=(x≠y->A)∧(x=y->B)
variable{A B C D:Prop}
section
variable{P:Program}{K:Ctx}{Q:Exit->Act->World->Prop}{p:EP}{s:List EI}{n:Nat}{F F1 F2 F3 F4:Fm}{H:Hp}
theorem qBh{e:Bool}(d:Nat)(G:F.get d=some (.bool e))(h1:F.put d (some<|.bool true) id=F1)(h2:F.put d (some<|.bool false) id=F2)(h:(A->C)∧(B->D))(a:e=true->A)(b:e=false->B)(kT:C->Go P K Q p s n F1 H)(kF:D->Go P K Q p s n F2 H):Go P K Q p s n F H:=gB d G h1 h2 (λz=>kT<|h.1 (a z)) λz=>kF<|h.2 (b z)
theorem qBi{e:Bool}(d:Nat)(G:F.get d=some (.bool e))(h1:F.put d (some<|.bool true) id=F1)(h2:F.put d (some<|.bool false) id=F2)(h:(e=true->C)∧(e=false->D))(kT:C->Go P K Q p s n F1 H)(kF:D->Go P K Q p s n F2 H):Go P K Q p s n F H:=qBh d G h1 h2 h id id kT kF
theorem qBe[BEq α][LawfulBEq α]{x y:α}(d:Nat)(G:F.get d=some (.bool<|x==y))(h1:F.put d (some<|.bool true) id=F1)(h2:F.put d (some<|.bool false) id=F2)(h:(x=y->C)∧(x≠y->D))(kT:C->Go P K Q p s n F1 H)(kF:D->Go P K Q p s n F2 H):Go P K Q p s n F H:=qBh d G h1 h2 h eq_of_beq ne_of_beq_false kT kF
theorem qBd{x:Prop}[Decidable x](d:Nat)(G:F.get d=some (.bool<|decide x))(h1:F.put d (some<|.bool true) id=F1)(h2:F.put d (some<|.bool false) id=F2)(h:(x->C)∧(¬x->D))(kT:C->Go P K Q p s n F1 H)(kF:D->Go P K Q p s n F2 H):Go P K Q p s n F H:=qBh d G h1 h2 h of_decide_eq_true of_decide_eq_false kT kF
theorem qBhZ{e:Bool}(d i:Nat)(G:F.get d=some (.bool e))(hi:Fm.get (F.set d none) i=some (.bool e))(h1:F.put d (some<|.bool true) (λF=>F.put i (some<|.bool true) id)=F3)(h2:F.put d (some<|.bool false) (λF=>F.put i (some<|.bool false) id)=F4)(h:(A->C)∧(B->D))(a:e=true->A)(b:e=false->B)(kT:C->Go P K Q p s n F3 H)(kF:D->Go P K Q p s n F4 H):Go P K Q p s n F H:=by
 rw[Fm.put_eq,Fm.put_eq]at h1 h2;have w (v:V):Fm.get (F.set d<|some v) i=some (.bool e):=by
  rw[Fm.get_eq,List.getElem?_set]at hi⊢;split at hi
  ·split at hi<;>simp at hi
  ·rename_i e;rw[if_neg e];exact hi
 exact gB d G (Fm.put_eq ..) (Fm.put_eq ..) (λz=>gT i (w _) z ((Fm.put_eq ..).trans h1)<|kT<|h.1 (a z)) λz=>gF i (w _) z ((Fm.put_eq ..).trans h2)<|kF<|h.2 (b z)
theorem qBiZ{e:Bool}(d i:Nat)(G:F.get d=some (.bool e))(hi:Fm.get (F.set d none) i=some (.bool e))(h1:F.put d (some<|.bool true) (λF=>F.put i (some<|.bool true) id)=F3)(h2:F.put d (some<|.bool false) (λF=>F.put i (some<|.bool false) id)=F4)(h:(e=true->C)∧(e=false->D))(kT:C->Go P K Q p s n F3 H)(kF:D->Go P K Q p s n F4 H):Go P K Q p s n F H:=qBhZ d i G hi h1 h2 h id id kT kF
theorem qBeZ[BEq α][LawfulBEq α]{x y:α}(d i:Nat)(G:F.get d=some (.bool<|x==y))(hi:Fm.get (F.set d none) i=some (.bool<|x==y))(h1:F.put d (some<|.bool true) (λF=>F.put i (some<|.bool true) id)=F3)(h2:F.put d (some<|.bool false) (λF=>F.put i (some<|.bool false) id)=F4)(h:(x=y->C)∧(x≠y->D))(kT:C->Go P K Q p s n F3 H)(kF:D->Go P K Q p s n F4 H):Go P K Q p s n F H:=qBhZ d i G hi h1 h2 h eq_of_beq ne_of_beq_false kT kF
theorem qBdZ{x:Prop}[Decidable x](d i:Nat)(G:F.get d=some (.bool<|decide x))(hi:Fm.get (F.set d none) i=some (.bool<|decide x))(h1:F.put d (some<|.bool true) (λF=>F.put i (some<|.bool true) id)=F3)(h2:F.put d (some<|.bool false) (λF=>F.put i (some<|.bool false) id)=F4)(h:(x->C)∧(¬x->D))(kT:C->Go P K Q p s n F3 H)(kF:D->Go P K Q p s n F4 H):Go P K Q p s n F H:=qBhZ d i G hi h1 h2 h of_decide_eq_true of_decide_eq_false kT kF
end
section
variable{K:Ctx}{Q:Exit->Act->World->Prop}{s:List EI}{n:Nat}{F:Fm}{H H0 H1:Hp}{all:Array Oper}{rest:List Oper}{L PL:YN}{m fuel:Nat}{listed:Array Bool}{fid:FuncId}{args:List Operand}{tys:Array TypeId}{vs us:List V}{v1:V}{d:Option Tmp}{ty:TypeId}{ps:String}{af:Array Edge}{g:Option (Nat×Bool)}
end
theorem pqq{v:V}:∃u,some v=some u∧cq u v:=⟨v,rfl,cq.rfl⟩
variable{a0:V}
theorem pq1:(∃u,some a0=some u∧cq u a0)∧True:=⟨pqq,trivial⟩
variable{a1:V}
theorem pq2:(∃u,some a0=some u∧cq u a0)∧(∃u,some a1=some u∧cq u a1)∧True:=⟨pqq,pqq,trivial⟩
theorem pq3{G:V}:(∃u,some a0=some u∧cq u a0)∧(∃u,some a1=some u∧cq u a1)∧(∃u,some G=some u∧cq u G)∧True:=⟨pqq,pqq,pqq,trivial⟩
theorem pq4{G J:V}:(∃u,some a0=some u∧cq u a0)∧(∃u,some a1=some u∧cq u a1)∧(∃u,some G=some u∧cq u G)∧(∃u,some J=some u∧cq u J)∧True:=⟨pqq,pqq,pqq,pqq,trivial⟩
theorem pq7{G J O a5 Z:V}:(∃u,some a0=some u∧cq u a0)∧(∃u,some a1=some u∧cq u a1)∧(∃u,some G=some u∧cq u G)∧(∃u,some J=some u∧cq u J)∧(∃u,some O=some u∧cq u O)∧(∃u,some a5=some u∧cq u a5)∧(∃u,some Z=some u∧cq u Z)∧True:=⟨pqq,pqq,pqq,pqq,pqq,pqq,pqq,trivial⟩
theorem pqo{x:Option Nat}(h1:x=some i)(h2:H.get i=.var t cs):∃i,x=some i∧oS (H.get i) (.var t cs):=⟨i,h1,by rw[h2];exact⟨rfl,aD.rfl⟩⟩
theorem pqo1{G:Option Nat}{J:Nat}{O:TypeId}{Z:List V}(h0:G=some J)(k0:H.get J=.var O Z):(∃i,G=some i∧oS (H.get i) (.var O Z))∧True:=⟨pqo h0 k0,trivial⟩
theorem pqo2{G:Option Nat}{J:Nat}{O:TypeId}{Z:List V}(h0:G=some J)(k0:H.get J=.var O Z){x1:Option Nat}{i1:Nat}{t1:TypeId}{c1:List V}(h1:x1=some i1)(k1:H.get i1=.var t1 c1):(∃i,G=some i∧oS (H.get i) (.var O Z))∧(∃i,x1=some i∧oS (H.get i) (.var t1 c1))∧True:=⟨pqo h0 k0,pqo h1 k1,trivial⟩
section
variable{P:Program}{K:Ctx}{Q:Exit->Act->World->Prop}{p:EP}{s:List EI}{n:Nat}{F F1 F2 F3 F4:Fm}{H:Hp}
theorem qXh{e:Bool}(d:Nat)(G:F.get d=some (.bool e))(h1:F.put d (some<|.bool true) id=F1)(h2:F.put d (some<|.bool false) id=F2)(h:(A->C)∧(B->D))(a:e=true->A)(b:e=false->B)(kT:A->C->Go P K Q p s n F1 H)(kF:B->D->Go P K Q p s n F2 H):Go P K Q p s n F H:=gB d G h1 h2 (λz=>kT (a z)<|h.1 (a z)) λz=>kF (b z)<|h.2 (b z)
theorem qXi{e:Bool}(d:Nat)(G:F.get d=some (.bool e))(h1:F.put d (some<|.bool true) id=F1)(h2:F.put d (some<|.bool false) id=F2)(h:(e=true->C)∧(e=false->D))(kT:e=true->C->Go P K Q p s n F1 H)(kF:e=false->D->Go P K Q p s n F2 H):Go P K Q p s n F H:=qXh d G h1 h2 h id id kT kF
theorem qXe[BEq α][LawfulBEq α]{x y:α}(d:Nat)(G:F.get d=some (.bool<|x==y))(h1:F.put d (some<|.bool true) id=F1)(h2:F.put d (some<|.bool false) id=F2)(h:(x=y->C)∧(x≠y->D))(kT:x=y->C->Go P K Q p s n F1 H)(kF:x≠y->D->Go P K Q p s n F2 H):Go P K Q p s n F H:=qXh d G h1 h2 h eq_of_beq ne_of_beq_false kT kF
theorem qXd{x:Prop}[Decidable x](d:Nat)(G:F.get d=some (.bool<|decide x))(h1:F.put d (some<|.bool true) id=F1)(h2:F.put d (some<|.bool false) id=F2)(h:(x->C)∧(¬x->D))(kT:x->C->Go P K Q p s n F1 H)(kF:¬x->D->Go P K Q p s n F2 H):Go P K Q p s n F H:=qXh d G h1 h2 h of_decide_eq_true of_decide_eq_false kT kF
theorem qXhZ{e:Bool}(d i:Nat)(G:F.get d=some (.bool e))(hi:Fm.get (F.set d none) i=some (.bool e))(h1:F.put d (some<|.bool true) (λF=>F.put i (some<|.bool true) id)=F3)(h2:F.put d (some<|.bool false) (λF=>F.put i (some<|.bool false) id)=F4)(h:(A->C)∧(B->D))(a:e=true->A)(b:e=false->B)(kT:A->C->Go P K Q p s n F3 H)(kF:B->D->Go P K Q p s n F4 H):Go P K Q p s n F H:=qBhZ (A:=A) (B:=B) (C:=A∧C) (D:=B∧D) d i G hi h1 h2 ⟨λx=>⟨x,h.1 x⟩,λx=>⟨x,h.2 x⟩⟩ a b (λz=>kT z.1 z.2) λz=>kF z.1 z.2
theorem qXeZ[BEq α][LawfulBEq α]{x y:α}(d i:Nat)(G:F.get d=some (.bool<|x==y))(hi:Fm.get (F.set d none) i=some (.bool<|x==y))(h1:F.put d (some<|.bool true) (λF=>F.put i (some<|.bool true) id)=F3)(h2:F.put d (some<|.bool false) (λF=>F.put i (some<|.bool false) id)=F4)(h:(x=y->C)∧(x≠y->D))(kT:x=y->C->Go P K Q p s n F3 H)(kF:x≠y->D->Go P K Q p s n F4 H):Go P K Q p s n F H:=qXhZ d i G hi h1 h2 h eq_of_beq ne_of_beq_false kT kF
theorem qXdZ{x:Prop}[Decidable x](d i:Nat)(G:F.get d=some (.bool<|decide x))(hi:Fm.get (F.set d none) i=some (.bool<|decide x))(h1:F.put d (some<|.bool true) (λF=>F.put i (some<|.bool true) id)=F3)(h2:F.put d (some<|.bool false) (λF=>F.put i (some<|.bool false) id)=F4)(h:(x->C)∧(¬x->D))(kT:x->C->Go P K Q p s n F3 H)(kF:¬x->D->Go P K Q p s n F4 H):Go P K Q p s n F H:=qXhZ d i G hi h1 h2 h of_decide_eq_true of_decide_eq_false kT kF
theorem qG{l:List α}{x:α}(h:l[i]?=some x):i<l.length:=(List.getElem?_eq_some_iff.1 h).1
theorem qj{m:Nat}{R:Ctx->Prop}{B:Ctx->Nat->Prop}(h:∀K j,R K->m+1<=j+1->B K (j+1)):∀K j,R K->m+1<=j->B K j:=λK j a b=>by obtain⟨j,rfl⟩:∃i,j=i+1:=⟨j-1,by omega⟩;exact h K j a b
end
section
variable{P:Program}{T:Tab}{K:Ctx}{Q:Exit->Act->World->Prop}{p:EP}{s:List EI}{n:Nat}{F F':Fm}{H H':Hp}{pv:YN}
theorem qJ(G:aw K pv)(k:Go P K Q p s n F' H')(σ:YN)(J:leF σ F F':=by repeat (first|exact trivial|refine⟨pqq,?_⟩))(hH:leH σ H H'.es:=by repeat (first|exact trivial|refine⟨⟨_,rfl,by first|exact⟨rfl,aD.rfl⟩|exact⟨rfl,rfl,(mL _ _ (λ_=>rfl) _).symm⟩|exact⟨rfl,rfl,(BJ _ _).symm⟩|exact⟨rfl,rfl,rfl⟩|exact⟨rfl,rfl,rfl,rfl⟩⟩,?_⟩))(O:p.still=true:=by rfl)(Z:(df σ&&Nat.ble σ.length H'.nx&&xe σ pv&&Nat.ble F'.length n)=true:=by rfl):Go P K Q p s n F H:=go_sub σ pv O G J hH Z k
theorem qW{m:Nat}{Q:Ctx->Exit->Act->World->Prop}{s:Ctx->Nat->List EI}(G:aw K pv)(h:∀K j,aw K pv->m<=j->Go P K (Q K) p (s K j) n F' H')(σ:YN)(J:leF σ F F':=by repeat (first|exact trivial|refine⟨pqq,?_⟩))(hH:leH σ H H'.es:=by repeat (first|exact trivial|refine⟨⟨_,rfl,by first|exact⟨rfl,aD.rfl⟩|exact⟨rfl,rfl,(mL _ _ (λ_=>rfl) _).symm⟩|exact⟨rfl,rfl,(BJ _ _).symm⟩|exact⟨rfl,rfl,rfl⟩|exact⟨rfl,rfl,rfl,rfl⟩⟩,?_⟩))(O:p.still=true:=by rfl)(Z:(df σ&&Nat.ble σ.length H'.nx&&xe σ pv&&Nat.ble F'.length n)=true:=by rfl)(hm:m<=j:=by omega):Go P K (Q K) p (s K j) n F H:=go_sub σ pv O G J hH Z<|h K j G hm
theorem qJH(G:aw K pv)(k:Go P K Q p s n F' H')(σ:YN)(hH:leH σ H H'.es)(J:leF σ F F':=by repeat (first|exact trivial|refine⟨pqq,?_⟩))(O:p.still=true:=by rfl)(Z:(df σ&&Nat.ble σ.length H'.nx&&xe σ pv&&Nat.ble F'.length n)=true:=by rfl):Go P K Q p s n F H:=go_sub σ pv O G J hH Z k
theorem gE{fn:Func}{v0:V}{H0:Hp}{vs:List V}{e:Exit}(J:aw K pv)(X:List<|Nat×Ob)(L:List<|Nat×V)(σ:YN)(rs:List ResultVar)(hF:leF σ F (mkF n 0 L):=by repeat (first|exact trivial|refine⟨pqq,?_⟩))(hH:leH σ H (X++H0.es):=by repeat (first|exact trivial|refine⟨⟨_,rfl,by first|exact⟨rfl,aD.rfl⟩|exact⟨rfl,rfl,(mL _ _ (λ_=>rfl) _).symm⟩|exact⟨rfl,rfl,(BJ _ _).symm⟩|exact⟨rfl,rfl,rfl⟩|exact⟨rfl,rfl,rfl,rfl⟩⟩,?_⟩))(hc:(df σ&&Nat.ble σ.length H0.nx&&xe σ pv&&Nat.ble (mkF n 0 L).length n)=true:=by rfl)(O:fn.results=rs.toArray:=by rfl)(hv:tX BE (⟨H0.nx,X++H0.es⟩:Hp).get (mkF n 0 L) rs=some vs:=by rfl)(Z:oU vs=v0:=by rfl)(hP2:(⟨H0.nx,rg (X.map (·.1))<|X++H0.es⟩:Hp)=H0:=by rfl)(he:e=.ret∨e=.normal:=by first|exact .inl rfl|exact .inr rfl):Go prog K (bodyPost prog fn<|SP K λu G=>u=v0∧G=H0) (.ex e) [] n F H:=go_sub (F':=mkF n 0 L) (H':=⟨H0.nx,X++H0.es⟩) σ pv rfl J hF hH hc (PK (X.map (·.1)) ai O hv ⟨Z,hP2⟩ he)
end
section
variable{K:Ctx}{Q:Exit->Act->World->Prop}{s:List EI}{n:Nat}{F F':Fm}{H H' H0 H1:Hp}{all:Array Oper}{rest:List Oper}{L PL:YN}{m fuel c:Nat}{listed:Array Bool}{fid:FuncId}{args:List Operand}{tys:Array TypeId}{vs us:List V}{v1:V}{d:Option Tmp}{ty:TypeId}{ps:String}{af:Array Edge}{g:Option (Nat×Bool)}
theorem qC(G:bv PL prog fid us H0 λv H'=>v=v1∧H'=H1)(σ:YN)(k:Go prog K Q (.ops all rest) s n (F.seto d<|some<|v1.ren<|sgN PL H.nx H0.get H1.nx σ 0)<|pj PL H σ H0 H1)(J:cZ prog fid=true:=by kernel_rfl)(O:bt F all g=some true:=by rfl)(hv:gd F args=some vs:=by rfl)(hs:aD vs (renL σ us):=by exact .rfl)(hH:leH σ H H0.es:=by repeat (first|exact trivial|refine⟨⟨_,rfl,by first|exact⟨rfl,aD.rfl⟩|exact⟨rfl,rfl,(mL _ _ (λ_=>rfl) _).symm⟩|exact⟨rfl,rfl,(BJ _ _).symm⟩|exact⟨rfl,rfl,rfl⟩|exact⟨rfl,rfl,rfl,rfl⟩⟩,?_⟩))(Z:(df σ&&Nat.beq σ.length H0.nx&&σ.all λi=>Nat.blt i H.nx)=true:=by rfl):Go prog K Q (.ops all<|⟨d,.call {callee:=.value<|.func fid,args:=args.toArray,argTypes:=tys},ty,ps,af,g⟩::rest) s n F H:=gC G σ J O hv hs hH Z λ_ _ ⟨e1,e2⟩=>by subst e1 e2;exact k
theorem qDC(i:Nat)(J:bv PL prog fid us H0 λv H'=>v=v1∧H'=H1)(σ:YN)(hi:all[i]?=some ⟨d,.call {callee:=.value<|.func fid,args:=args.toArray,argTypes:=tys},ty,ps,af,g⟩)(k:Go prog K Q (.drw all L m fuel<|listed.setIfInBounds i true) s n (F.seto d<|some<|v1.ren<|sgN PL H.nx H0.get H1.nx σ 0)<|pj PL H σ H0 H1)(O:cZ prog fid=true:=by kernel_rfl)(G:Region.ready .any all listed=[i]:=by kernel_rfl)(Z:bt F all g=some true:=by rfl)(hv:gd F args=some vs:=by rfl)(hs:aD vs (renL σ us):=by exact .rfl)(hH:leH σ H H0.es:=by repeat (first|exact trivial|refine⟨⟨_,rfl,by first|exact⟨rfl,aD.rfl⟩|exact⟨rfl,rfl,(mL _ _ (λ_=>rfl) _).symm⟩|exact⟨rfl,rfl,(BJ _ _).symm⟩|exact⟨rfl,rfl,rfl⟩|exact⟨rfl,rfl,rfl,rfl⟩⟩,?_⟩))(hc:(df σ&&Nat.beq σ.length H0.nx&&σ.all λi=>Nat.blt i H.nx)=true:=by kernel_rfl)(hL:(db H.get L&&L.all λi=>!σ.contains i)=true:=by rfl):Go prog K Q (.drw all L m (fuel+1) listed) s n F H:=gDC i J σ O hi G Z hv hs hH hc hL λ_ _ ⟨e1,e2⟩=>by subst e1 e2;exact k
theorem qC0{v:V}(G:sO prog fid us v)(h1:F.puto d (some v) id=F')(k:Go prog K Q (.ops all rest) s n F' H)(J:cZ prog fid=true:=by kernel_rfl)(O:bt F all g=some true:=by rfl)(hv:gd F args=some vs:=by rfl)(hs:aD vs us:=by exact .rfl):Go prog K Q (.ops all<|⟨d,.call {callee:=.value<|.func fid,args:=args.toArray,argTypes:=tys},ty,ps,af,g⟩::rest) s n F H:=gC0 G J O hv hs h1 k
theorem qDe(k:Go prog K Q (.ex .normal) s n F H)(G:Region.ready .any all listed=[]:=by kernel_rfl):Go prog K Q (.drw all L m fuel listed) s n F H:=gDe G k
theorem qA{c:Code}(N:Nat)(pv:YN)(hf:prog.funcs[fid]?=some fn)(k:∀K,aw K pv->Go prog K (bodyPost prog fn<|SP K Post) (.code c) [] N (nL N vs) H0)(hb:fn.body=some c:=by exact rfl)(J:fn.ntmps=N:=by exact rfl)(O:Nat.ble vs.length N=true:=by rfl)(G:∀i,lD PL i (H0.get i)=true->i∈pv:=by exact SF rfl):bv PL prog fid vs H0 Post:=LM N pv hf hb J O G k
theorem qN{Post:V->Hp->Prop}{e:Exit}(rs:List ResultVar)(G:fn.results=rs.toArray:=by exact rfl)(hv:tX BE H.get F rs=some vs:=by exact rfl)(J:Post (oU vs) H:=by exact rfl)(O:e=.ret∨e=.normal:=by first|exact .inl rfl|exact .inr rfl):Go prog K (bodyPost prog fn<|SP K Post) (.ex e) [] n F H:=RQ ai G hv J O
@[reducible] def qR : Nat -> Nat -> Nat -> List (Nat × Nat) -> List (Nat × Nat)
 |_,0,_,r=>r
 |i,n+1,f,r=>(i,f)::qR (i+1) n f r
theorem qDr(is:List<|Nat×Nat)(G:is.length=c)(hr:rn BE all L is F H=some (F',H'))(k:Go prog K Q (.drw all L m fuel<|Ji is listed) s n F' H')(J:FY all m is listed=true:=by kernel_rfl):Go prog K Q (.drw all L m (fuel+c) listed) s n F H:=gDr is J G hr k
theorem qDs{id:Nat}{l:List Oper}(L:YN)(m sz:Nat)(k:Go prog K Q (.drw l.toArray L m sz<|Array.replicate sz false) s n F H)(hsz:l.length=sz:=by rfl)(G:prog.follows .mixedOrders=true:=by kernel_rfl)(hs:Region.noSelect l.toArray=true:=by kernel_rfl):Go prog K Q (.code<|.region id l.toArray true) s n F H:=gDs L m sz hsz G hs k
end
abbrev xA(c:Code):Code:=cB (cB c)
abbrev xB(c:Code):Code:=cE (cB c)
abbrev xC(c:Code):Code:=xB (xB c)
abbrev xD(c:Code):Code:=cK (cB c)
abbrev xE(c:Code):Code:=xD (cA c)
abbrev xF(c:Code):Code:=xE (xA c)
abbrev xG(c:Code):Code:=xC (xC c)
abbrev xH(c:Code):Code:=xA (cB c)
abbrev xI(c:Code):Code:=cL (xF c)
abbrev xJ(c:Code):Code:=xA (xA c)
abbrev xK(c:Code):Code:=cT (cB c)
abbrev xL(c:Code):Code:=cK (cA c)
abbrev xM(c:Code):Code:=xB (xF c)
abbrev xN(c:Code):Code:=xG (xG c)
variable{k':IntKind}
section
variable{P:Program}{T:Tab}{K:Ctx}{Q:Exit->Act->World->Prop}{s:List EI}{n:Nat}{F:Fm}{H:Hp}{all:Array Oper}{rest:List Oper}{o:Oper}
theorem Sq{w:World}{src dst:TypeId}{k k1:IntKind}(h:Fr a n f)(hs:P.underlying src=some (.int k1))(ht:P.underlying dst=some (.int k))(hx:aR f x=some (.int k' m))(G:k.wrap m=m):Runs P a ty (.convert src dst x) w (.value<|.int k m) w:=λ_ _ _ _=>by simp only[execOp,h.eval hx];simp[go_sem,convert,run_underlying hs,run_underlying ht,Conv.intToInt,G]
theorem OK{w:World}{y:Operand}{k:IntKind}(h:Fr a n f)(hx:aR f x=some (.int k m))(hy:aR f y=some (.int k' 1))   :Runs P a ty (.binOp .shr t x y u) w (.value<|.int k<|m.fdiv 2) w:=λ_ _ _ _=>by simp only[execOp,h.eval hx,h.eval hy];cases k<;>simp[go_sem,eqGuard,Op.shift]
theorem DE(G:0<=m)(h1:m<=9223372036854775807):IntKind.u64.wrap m=m:=IntWalk.u64_in m (by omega)
theorem DC(G:0<=m)(h1:m<=9223372036854775807):IntKind.i64.wrap m=m:=IntWalk.i64_in m (by omega)
theorem yCv{src dst:TypeId}{k k1:IntKind}(hs:P.underlying src=some (.int k1))(ht:P.underlying dst=some (.int k))(hx:aO F x=some (.int k' m))(J:k.wrap m=m):∀S w ρ a,HRel S w ρ H.get->FRel S w ρ a n F->Yld P S w ρ a ty (.convert src dst x) (.int k m):=λS w ρ a hr G=>⟨_,by simp only[VRel],λw' _=>Sq G.fr hs ht (bj<|au G hx) J⟩
theorem IV{y:Operand}{k:IntKind}{m:Nat}(hx:aO F x=some (.int k (m:Int)))(hy:aO F y=some (.int k' 1)):∀S w ρ a,HRel S w ρ H.get->FRel S w ρ a n F->Yld P S w ρ a ty (.binOp .shr t x y u) (.int k ((m/2:Nat):Int)):=λS w ρ a hr G=>by
 have e:((m/2:Nat):Int)=(m:Int).fdiv 2:=by rw[Int.fdiv_eq_ediv_of_nonneg _<|by decide];omega
 rw[e];exact⟨_,by simp only[VRel],λw' _=>OK G.fr (bj<|au G hx)<|bj<|au G hy⟩
end
section
variable{P:Program}{T:Tab}{K:Ctx}{Q:Exit->Act->World->Prop}{s:List EI}{n:Nat}{F F1:Fm}{H:Hp}{all:Array Oper}{L:YN}{m fuel:Nat}{listed:Array Bool}
theorem wT{e:TypeId}{id sz j o':Nat}{els:List V}{v0 v:V}{td:TD}{ps:String}{af:Array Edge}(i:Nat)(hi:all[i]?=some ⟨d,.load t x,ty,ps,af,g⟩)
  (G:(!Nat.beq i m&&zl .any all m i&&!(listed.getD m false)&&Region.free .any all listed i&&(Region.ready .any all listed).contains i&&L.contains id)=true) (J:bt F all g=some true) (O:TabOk P T) (ht:T.ty t=some td) (hx:aO F x=some (.el id sz j o')) (Z:H.get id=.row e sz els) (hj:els[j]?=some v0) (hv:qF td v0.cells o'=some v)
  (h1:F.puto d (some v) _root_.id=F1) (k:Go P K Q (.drw all L m fuel<|listed.setIfInBounds i true) s n F1 H):Go P K Q (.drw all L m (fuel+1) listed) s n F H:=by
 rw[Fm.puto_eq]at h1;subst h1;simp only[aaa,Bool.not_eq_true']at G;obtain⟨⟨⟨⟨⟨c1,c2⟩,c3⟩,c4⟩,c5⟩,c6⟩:=G;have he:mJ T H.get F H.nx (.load t x)=some (some v,.nop):=by have hb:Nat.beq sz sz=true:=Nat.beq_refl sz;unfold mJ;simp only[hx,ht,Z,hb,oe,hj,hv]
 exact Js (o:=⟨d,.load t x,ty,ps,af,g⟩) (id:=id) O c1 c2 c3 hi c4 c5 J (by show sx F (.load t x)=some id;unfold sx;simp only[hx]) c6 he k
end
section
variable{α β:Type}[DecidableEq α]
def aL(a:α):List (α×β)->Option β
 |[]=>none
 |p::r=>if p.1=a then some p.2 else aL a r
def bS(a:α)(b:β):List (α×β)->List (α×β)
 |[]=>[(a,b)]
 |p::r=>if p.1=a then(a,b)::r else p::bS a b r
theorem iy(a c:α)(b:β):∀l:List<|α×β,aL c (bS a b l)=if c=a then some b else aL c l
 |[]=>by
  simp only[bS,aL];by_cases h:c=a
  ·rw[if_pos h,if_pos h.symm]
  ·rw[if_neg h,if_neg λe=>h e.symm]
 | p::r=>by
  simp only[bS];split
  ·rename_i hp;simp only[aL];by_cases h:c=a
   ·rw[if_pos h,if_pos h.symm]
   ·rw[if_neg h,if_neg λe=>h e.symm,if_neg λe=>h<|by rw[<-e,hp]]
  ·rename_i hp;simp only[aL,iy a c b r];by_cases h:p.1=c
   ·rw[if_pos h,if_pos h,if_neg λe=>hp<|by rw[h,e]]
   ·rw[if_neg h,if_neg h]
def qe(a:α):List (α×β)->List MapEntry->Nat->Option (Nat×Value)
 |p::r,e::es,i=>if p.1=a then some (i,e.val)else qe a r es (i+1)
 |_,_,_=>none
end
structure KeyT (P:Program) (kt:TypeId) (α:Type) [DecidableEq α] (enc:α->V) where
 val:α->Value
 rel:∀a S w ρ x,VRel S w ρ (enc a) x↔x=val a
 chk:∀w em a,(Instr.checkKey em 10000 kt (val a)).run P w=.ok () w
 fnd:∀w a (β:Type) (l:List (α×β)) (es:List MapEntry),es.map (·.key)=l.map (λp=>val p.1)->(Instr.findKey kt (val a) es).run P w=.ok (qe a l es 0) w
 stay:∀w a,(Instr.keyThatStays (val a) (val a)).run P w=.ok (val a) w
variable{et:TypeId}
variable{ks:List V}
section
variable{P:Program}{α β:Type}[DecidableEq α]{enc:α->V}{kt:TypeId}
theorem yl(val:α->Value)(a:α):∀(l:List<|α×β) (es:List MapEntry) (i:Nat),es.map (·.key)=l.map (λp=>val p.1)->
  (qe a l es i=none∧aL a l=none∧∀b,bS a b l=l++[(a,b)])∨∃j e d,qe a l es i=some (i+j,e.val)∧es[j]?=some e∧e.key=val a∧l[j]?=some (a,d)∧aL a l=some d∧∀b,bS a b l=l.set j (a,b)
 |[],[],i,h=>.inl ⟨rfl,rfl,λb=>rfl⟩
 |[],e::es,i,h=>by simp at h
 |p::r,[],i,h=>by simp at h
 | p::r,e::es,i,h=>by
  simp only[aan,List.cons.injEq]at h;by_cases hp:p.1=a
  ·refine .inr ⟨0,e,p.2,by simp only[qe,if_pos hp];rfl,rfl,by rw[h.1,hp],by rw[<-hp];rfl,by simp only[aL,if_pos hp],λb=>by simp only[bS,if_pos hp];rfl⟩
  ·rcases yl val a r es (i+1) h.2 with⟨h1,h2,h3⟩|⟨j,e',d,h1,h2,h3,h4,h5,h6⟩
   ·exact .inl ⟨by simp only[qe,if_neg hp,h1],by simp only[aL,if_neg hp,h2],λb=>by simp only[bS,if_neg hp,h3 b];rfl⟩
   ·exact .inr ⟨j+1,e',d,by simp only[qe,if_neg hp,h1,show i+1+j=i+(j+1) by omega],by simpa using h2,h3,by simpa using h4,by simp only[aL,if_neg hp,h5],λb=>by simp only[bS,if_neg hp,h6 b];rfl⟩
theorem tW{val:α->Value}{w:World}(hs:∀a b,(Op.equal kt (val a)<|val b).run P w=.ok (decide<|b=a) w)(a:α):∀(l:List<|α×β) (es:List MapEntry) (i:Nat),es.map (·.key)=l.map (λp=>val p.1)->(Instr.findAsking kt (val a) es i).run P w=.ok (qe a l es i) w
 |[],[],i,h=>by simp[Instr.findAsking,qe]
 |[],e::es,i,h=>by simp at h
 |p::r,[],i,h=>by simp at h
 | p::r,e::es,i,h=>by
  simp only[aan,List.cons.injEq]at h;unfold Instr.findAsking;by_cases hp:p.1=a
  ·simp[h.1,hs,hp,qe]
  ·have :=tW hs a r es (i+1) h.2;simp[h.1,hs,hp,qe,this]
theorem yJ{w:World}{f0 f1:Field}{a b c d:Value}{x y:Bool}(ht:P.underlying kt=some (.struct #[f0,f1]))(hs:P.stoodInHeld kt=false) (n0:(f0.name != "_")=true) (n1:(f1.name != "_")=true) (o0:f0.offset=0) (o1:f1.offset=1) (p0:P.plainKey f0.type=true) (p1:P.plainKey f1.type=true)
  (h0:(Op.equalIn 9999 f0.type a c).run P w=.ok x w) (h1:(Op.equalIn 9999 f1.type b d).run P w=.ok y w):(Op.equal kt (.agg #[a,b])<|.agg #[c,d]).run P w=.ok (x&&y) w:=by
 have hf:P.fieldsOf kt=#[f0,f1]:=by simp[Program.fieldsOf,ht]
 show(Op.equalIn (9999+1) kt (.agg #[a,b]) (.agg #[c,d])).run P w=_;rw[run_equalIn_struct w 9999 kt _ _ (by rw[ht,hf]) hs,hf];have q0:=run_part_plain w p0 (xs:=#[a,b]) (off:=f0.offset) (v:=a) (by rw[o0];rfl);have q1:=run_part_plain w p0 (xs:=#[c,d]) (off:=f0.offset) (v:=c) (by rw[o0];rfl);have q2:=run_part_plain w p1 (xs:=#[a,b]) (off:=f1.offset) (v:=b) (by rw[o1];rfl);have q3:=run_part_plain w p1 (xs:=#[c,d]) (off:=f1.offset) (v:=d) (by rw[o1];rfl);have m0:f0.name≠ "_" :=by simpa using n0
 have m1:f1.name≠ "_" :=by simpa using n1
 cases x<;>cases y<;>simp[Op.eqFields,m0,m1,q0,q1,q2,q3,h0,h1,Result.andThen]
theorem GQ{w:World}{f0 f1:Field}{a b:Value}{em:Bool}(ht:P.underlying kt=some (.struct #[f0,f1])) (n0:(f0.name != "_")=true) (n1:(f1.name != "_")=true) (o0:f0.offset=0) (o1:f1.offset=1) (p0:P.plainKey f0.type=true) (p1:P.plainKey f1.type=true)
  (h0:(Instr.checkKey em 9999 f0.type a).run P w=.ok () w) (h1:(Instr.checkKey em 9999 f1.type b).run P w=.ok () w):(Instr.checkKey em 10000 kt<|.agg #[a,b]).run P w=.ok () w:=by
 show(Instr.checkKey em (9999+1) kt (.agg #[a,b])).run P w=_;have q0:=run_part_plain w p0 (xs:=#[a,b]) (off:=f0.offset) (v:=a) (by rw[o0];rfl);have q2:=run_part_plain w p1 (xs:=#[a,b]) (off:=f1.offset) (v:=b) (by rw[o1];rfl);have m0:f0.name≠ "_" :=by simpa using n0
 have m1:f1.name≠ "_" :=by simpa using n1
 unfold Instr.checkKey;simp only[Sem.run_bind,run_underlying ht,Result.andThen_ok];rw[<-Array.forIn_toList];simp[m0,m1,q0,q2,h0,h1,Result.andThen]
def Ol{γ:Type}[DecidableEq γ]{f0 f1:Field}(g0 g1:γ->Int)(hg:∀x y,g0 x=g0 y->g1 x=g1 y->x=y)(ht:P.underlying kt=some (.struct #[f0,f1]))(hs:P.stoodInHeld kt=false) (n0:(f0.name != "_")=true) (n1:(f1.name != "_")=true) (o0:f0.offset=0) (o1:f1.offset=1) (u0:P.underlying f0.type=some (.int .i64)) (u1:P.underlying f1.type=some (.int .i64)):KeyT P kt γ (λx=>.agg [.int .i64 (g0 x),.int .i64 (g1 x)]) where
 val x:=.agg #[.int .i64<|g0 x,.int .i64<|g1 x]
 rel a S w ρ x:=by
  simp only[VRel,LRel];constructor
  ·rintro⟨xs,rfl,_,_,rfl,rfl,_,_,rfl,rfl,rfl⟩;rfl
  ·rintro rfl;exact⟨_,rfl,_,_,rfl,rfl,_,_,rfl,rfl,rfl⟩
 chk w em a:=GQ ht n0 n1 o0 o1 (by simp[Program.plainKey,u0]) (by simp[Program.plainKey,u1])
  (by show(Instr.checkKey em (9998+1) f0.type _).run P w=_;unfold Instr.checkKey;simp[run_underlying u0])
  (by show(Instr.checkKey em (9998+1) f1.type _).run P w=_;unfold Instr.checkKey;simp[run_underlying u1])
 fnd w a β l es h:=by
  rw[run_findKey_eq w<|by simp[ht]];refine tW (val:=λx=>Value.agg #[.int .i64<|g0 x,.int .i64<|g1 x]) (λx y=>?_) a l es 0 h;rw[yJ ht hs n0 n1 o0 o1 (by simp[Program.plainKey,u0]) (by simp[Program.plainKey,u1]) (run_equalIn_int w 9998 _ _ _ _ _ u0)<|run_equalIn_int w 9998 _ _ _ _ _ u1]
  congr 1
  by_cases e:y=x
  ·subst e;simp
  ·have :¬(g0 x=g0 y∧g1 x=g1 y):=λh'=>e (hg _ _ h'.1 h'.2).symm;rw[decide_eq_false e];simpa using λh0 h1=>this ⟨h0,h1⟩
 stay w a:=by
  have :∀z:Int,Instr.sameBits 9999 (.int .i64 z) (.int .i64 z)=true:=λz=>by unfold Instr.sameBits;simp
  have h2:Instr.sameBits 10000 (.agg #[.int .i64<|g0 a,.int .i64<|g1 a]) (.agg #[.int .i64<|g0 a,.int .i64<|g1 a])=true:=by show Instr.sameBits (9999+1) _ _=true;unfold Instr.sameBits;simp[this]
  simp[Instr.keyThatStays,h2]
def SI{γ:Type}[DecidableEq γ]{f0 f1:Field}(g0:γ->Int)(g1:γ->YB)(hg:∀x y,g0 x=g0 y->g1 x=g1 y->x=y)(ht:P.underlying kt=some (.struct #[f0,f1]))(hs:P.stoodInHeld kt=false) (n0:(f0.name != "_")=true) (n1:(f1.name != "_")=true) (o0:f0.offset=0) (o1:f1.offset=1) (u0:P.underlying f0.type=some (.int .i64)) (u1:P.underlying f1.type=some .string):KeyT P kt γ (λx=>.agg [.int .i64 (g0 x),.str (g1 x)]) where
 val x:=.agg #[.int .i64<|g0 x,.string ⟨(g1 x).toArray⟩]
 rel a S w ρ x:=by
  simp only[VRel,LRel];constructor
  ·rintro⟨xs,rfl,_,_,rfl,rfl,_,_,rfl,rfl,rfl⟩;rfl
  ·rintro rfl;exact⟨_,rfl,_,_,rfl,rfl,_,_,rfl,rfl,rfl⟩
 chk w em a:=GQ ht n0 n1 o0 o1 (by simp[Program.plainKey,u0]) (by simp[Program.plainKey,u1])
  (by show(Instr.checkKey em (9998+1) f0.type _).run P w=_;unfold Instr.checkKey;simp[run_underlying u0])
  (by show(Instr.checkKey em (9998+1) f1.type _).run P w=_;unfold Instr.checkKey;simp[run_underlying u1])
 fnd w a β l es h:=by
  rw[run_findKey_eq w<|by simp[ht]];refine tW (val:=λx=>Value.agg #[.int .i64<|g0 x,.string ⟨(g1 x).toArray⟩]) (λx y=>?_) a l es 0 h;rw[yJ ht hs n0 n1 o0 o1 (by simp[Program.plainKey,u0]) (by simp[Program.plainKey,u1]) (run_equalIn_int w 9998 _ _ _ _ _ u0)<|run_equalIn_string w 9998 _ _ _ u1]
  congr 1
  have ey:∀l:YB,(⟨l.toArray⟩:ByteArray).toList=l:=λl=>by simp
  rw[ey,ey];by_cases e:y=x
  ·subst e;simp
  ·have :¬(g0 x=g0 y∧g1 x=g1 y):=λh'=>e (hg _ _ h'.1 h'.2).symm;rw[decide_eq_false e];simpa using λh0 h1=>this ⟨h0,h1⟩
 stay w a:=by
  have :∀z:Int,Instr.sameBits 9999 (.int .i64 z) (.int .i64 z)=true:=λz=>by unfold Instr.sameBits;simp
  have h3:∀z:ByteArray,Instr.sameBits 9999 (.string z) (.string z)=true:=λz=>by unfold Instr.sameBits;rw[beq_toListBytes];simp
  have h2:Instr.sameBits 10000 (.agg #[.int .i64<|g0 a,.string ⟨(g1 a).toArray⟩]) (.agg #[.int .i64<|g0 a,.string ⟨(g1 a).toArray⟩])=true:=by show Instr.sameBits (9999+1) _ _=true;unfold Instr.sameBits;simp[this,h3]
  simp[Instr.keyThatStays,h2]
variable{S:Nat->Prop}{w w':World}{ρ ρ':Nat->Option Value}{h h':Nat->Ob}{a:Act}{n:Nat}{ty:TypeId}
theorem EC:Runs P a ty (.makeMap t none) w (.value<|.map<|some w.heap.size) (w.alloc<|.map #[] 0):=λ_ _ _ _=>by simp only[execOp,Option.map_none];simp[run_makeMap]
theorem e_mkMap{kt:TypeId}{nid:Nat}(hr:HRel S w ρ h)(hf:h nid=.free):Does P S w ρ h a ty (.makeMap t none) (some<|.sl nid) (bQ h nid<|.mp kt et [] []) (λ_=>False):=by
 have G:Chg [] w (w.alloc<|.map #[] 0):=Chg.alloc w _;refine⟨_,_,dS ρ nid<|.map<|some w.heap.size,EC,eff_new hr hf G ⟨w.heap.size,#[],0,bb _ _ _,heap_alloc_new w _,by simp[LRel],by simp[LRel]⟩ λb hb=>?_,_,rfl,?_⟩
 ·simp only[own]at hb;rw[bb]at hb;simp only[aad,Value.map.injEq]at hb;omega
 ·simp only[VRel];exact⟨bb _ _ _,rfl⟩
def JD(c:Bool)(o:Option β)(encV:β->V)(zv:V):V:=match o with
 |some d=>match c with|true=>.tup [encV d,.bool true]|false=>encV d
 |none=>match c with|true=>.tup [zv,.bool false]|false=>zv
theorem NM{id:Nat}{vs:List V}(hr:HRel S w ρ h)(G:h id=.mp kt et ks vs):∃b es clock,ρ id=some (.map<|some b)∧w.heap[b]?=some (.map es clock)∧LRel S w ρ0 ks (es.toList.map (·.key))∧LRel S w ρ0 vs (es.toList.map (·.val)):=by have :=hr.ob id;rw[G]at this;exact this
theorem Ao(D:KeyT P kt α enc){f:β->α}:∀{l:List β} {xs:List Value},LRel S w ρ0 (l.map λp=>enc<|f p) xs->xs=l.map λp=>D.val (f p)
 |[],xs,h=>by simp only[aaC,LRel]at h;simp[h]
 |p::r,xs,h=>by simp only[aan,LRel]at h;obtain⟨x,ys,rfl,h1,h2⟩:=h;rw[(D.rel _ _ _ _ _).1 h1,Ao D h2];rfl
theorem Fv{f:β->V}:∀{l:List β} {xs:List Value} {j:Nat} {x:Value} {d:β},LRel S w ρ0 (l.map f) xs->xs[j]?=some x->l[j]?=some d->VRel S w ρ0 (f d) x
 |[],xs,j,x,d,h,_,G=>by simp at G
 |p::r,xs,0,x,d,h,hx,G=>by simp only[aan,LRel]at h;obtain⟨y,ys,rfl,h1,h2⟩:=h;simp only[List.getElem?_cons_zero,aad]at hx G;subst hx G;exact h1
 |p::r,xs,j+1,x,d,h,hx,G=>by simp only[aan,LRel]at h;obtain⟨y,ys,rfl,h1,h2⟩:=h;exact Fv h2 (by simpa using hx) (by simpa using G)
theorem GS(D:KeyT P kt α enc){encV:β->V}{y:Operand}{id:Nat}{k:α}{l:List<|α×β}{c:Bool}{zv:V}{z:Value}(hr:HRel S w ρ h)(fr:Fr a n<|fA a)(hx:Opd S w ρ a x<|.sl id)(hy:Opd S w ρ a y<|enc k)(ho:h id=.mp kt et (l.map λp=>enc p.1) (l.map λp=>encV p.2))(ht:P.underlying t=some (.map kt et))(hz:(zeroValue et).run P w=.ok z w)(J:VRel S w ρ zv z):
  Does P S w ρ h a ty (.lookup t x y c) (some<|JD c (aL k l) encV zv) h (λ_=>False):=by
 obtain⟨u,k1,k2⟩:=hx;obtain⟨q,k3,k4⟩:=hy;simp only[VRel]at k2;obtain⟨b,es,ck,h1,h2,h3,h4⟩:=NM hr ho;rw[k2.1]at h1;cases h1;rw[D.rel]at k4;subst k4;have O:=Ao D h3;have G:=D.fnd w k β l es.toList O;have key:∀v,(Instr.lookup t (.map<|some b) (D.val k) c).run P w=.ok v w->Runs P a ty (.lookup t x y c) w (.value v) w:=λv hv _ _ _ _=>by simp only[execOp,fr.eval k1,fr.eval k3];simp[hv]
 rcases yl D.val k l es.toList 0 O with⟨Z,g2,_⟩|⟨j,e,d,Z,g2,g3,g4,g5,_⟩
 ·rw[Z]at G;refine⟨_,w,ρ,key (if c then .tuple #[z,.bool false]else z) ?_,Eff.refl hr,_,I,?_⟩
  ·simp[Instr.lookup,run_underlying ht,MapKept.run_getObj_map h2,D.chk,G,hz,Result.andThen]
  ·rw[g2];cases c with
   |true=>simp only[JD,if_true,VRel];exact⟨[z,.bool false],rfl,z,_,rfl,J,_,_,rfl,rfl,rfl⟩
   |false=>exact J
 ·rw[Z]at G;have hv:VRel S w ρ (encV d) e.val:=(Fv (f:=λp:α×β=>encV p.2) h4 (by rw[List.getElem?_map,g2];rfl) g4).up up0;refine⟨_,w,ρ,key (if c then .tuple #[e.val,.bool true]else e.val) ?_,Eff.refl hr,_,I,?_⟩
  ·simp[Instr.lookup,run_underlying ht,MapKept.run_getObj_map h2,D.chk,G,Result.andThen]
  ·rw[g5];cases c with
   |true=>simp only[JD,if_true,VRel];exact⟨[e.val,.bool true],rfl,e.val,_,rfl,hv,_,_,rfl,rfl,rfl⟩
   |false=>exact hv
theorem QQ(D:KeyT P kt α enc){encV:β->V}{y z:Operand}{id:Nat}{k:α}{d:β}{l:List<|α×β}(hr:HRel S w ρ h)(fr:Fr a n<|fA a)(hx:Opd S w ρ a x<|.sl id)(hy:Opd S w ρ a y<|enc k)(hz:Opd S w ρ a z<|encV d)(hp:(encV d).pure=true)(ho:h id=.mp kt et (l.map λp=>enc p.1) (l.map λp=>encV p.2))(ht:P.underlying t=some (.map kt et)):
  Does P S w ρ h a ty (.mapUpdate t x y z) none (bQ h id<|.mp kt et ((bS k d l).map λp=>enc p.1)<|(bS k d l).map λp=>encV p.2) (·=id):=by
 obtain⟨u,k1,k2⟩:=hx;obtain⟨q,k3,k4⟩:=hy;obtain⟨v,k5,k6⟩:=hz;simp only[VRel]at k2;obtain⟨b,es,ck,h1,h2,h3,h4⟩:=NM hr ho;rw[k2.1]at h1;cases h1;rw[D.rel]at k4;subst k4;have hks:=Ao D h3;have J:=D.fnd w k β l es.toList hks;have hlt:b<w.heap.size:=by
  rcases Nat.lt_or_ge b w.heap.size with h5|h5
  ·exact h5
  ·rw[Array.getElem?_eq_none h5]at h2;cases h2
 have key:∀w',(Instr.mapUpdate t (.map<|some b) (D.val k) v).run P w=.ok () w'->Runs P a ty (.mapUpdate t x y z) w .skip w':=λw' hv _ _ _ _=>by simp only[execOp,fr.eval k1,fr.eval k3,fr.eval k5];simp[hv]
 have hX:∀c,c∈[b]->own ρ id (h id) c:=λc Z=>by simp only[List.mem_singleton]at Z;subst Z;rw[ho];exact k2.1
 have Z:∀o,Chg [b] w {w with heap:=w.heap.setIfInBounds b o}:=λo=>⟨rfl,rfl,rfl,by simp,λc Z G=>by simp only[List.mem_singleton]at G;simp only[Array.getElem?_setIfInBounds];rw[if_neg (λe=>G e.symm)]⟩
 have hob:∀o,({w with heap:=w.heap.setIfInBounds b o}:World).heap[b]?=some o:=λo=>by simp[Array.getElem?_setIfInBounds,hlt]
 have up:∀o,Up S S w {w with heap:=w.heap.setIfInBounds b o} ρ0 ρ0:=λo=>⟨λ_ h=>h,λc hc' hcl=>(Z o).block c hcl (λG=>by simp only[List.mem_singleton]at G;subst G;exact hr.sep id c (hX c<|by simp) hc'),λ_ _ h=>h⟩;have O:∀ks vs c,own ρ id (.mp kt et ks vs) c->own ρ id (h id) c:=λks vs c hb=>by rw[ho];exact hb
 have hv0:VRel S w ρ0 (encV d) v:=k6.pure hp;rcases yl D.val k l es.toList 0 hks with⟨g1,_,g3⟩|⟨j,e,d',g1,g2,g3,g4,_,g6⟩
 ·rw[g1]at J;refine⟨_,_,ρ,key {w with heap:=w.heap.setIfInBounds b<|.map (es.push ⟨D.val k,v,ck⟩)<|ck+1} ?_,zw hr (Z _) hX ⟨b,_,_,k2.1,hob _,?_,?_⟩<|O _ _,I⟩
  ·simp[Instr.mapUpdate,run_underlying ht,MapKept.run_getObj_map h2,D.chk,J,MapKept.run_setObj_map _ h2,Result.andThen]
  ·rw[g3];simp only[aaw,aan,aaC,Array.toList_push];exact(LRel.up (up _) h3).append ⟨_,_,I,(D.rel _ _ _ _ _).2 I,I⟩
  ·rw[g3];simp only[aaw,aan,aaC,Array.toList_push];exact(LRel.up (up _) h4).append ⟨_,_,I,VRel.up (up _) hv0,I⟩
 ·rw[g1,Nat.zero_add]at J;have hj:es[j]?=some e:=by simpa using g2
  have hlist:(es.modify j (λe'=>{e' with key:=D.val k,val:=v})).toList=es.toList.set j {e with key:=D.val k,val:=v}:=by rw[Array.toList_modify,ChangeMaps.modify_eq_set _ _ _ _ g2]
  refine⟨_,_,ρ,key {w with heap:=w.heap.setIfInBounds b (.map (es.modify j (λe'=>{e' with key:=D.val k,val:=v})) ck)} ?_,zw hr (Z _) hX ⟨b,_,_,k2.1,hob _,?_,?_⟩<|O _ _,I⟩
  ·simp[Instr.mapUpdate,run_underlying ht,MapKept.run_getObj_map h2,D.chk,J,hj,g3,D.stay,MapKept.run_setObj_map _ h2,Result.andThen]
  ·rw[g6,hlist];simp only[List.map_set];exact(LRel.up (up _) h3).set<|(D.rel _ _ _ _ _).2 I
  ·rw[g6,hlist];simp only[List.map_set];exact(LRel.up (up _) h4).set<|VRel.up (up _) hv0
end
section
variable{P:Program}{T:Tab}{K:Ctx}{Q:Exit->Act->World->Prop}{p:EP}{s:List EI}{n:Nat}{F F1:Fm}{H H1:Hp}{α β:Type}[DecidableEq α]{enc:α->V}{kt:TypeId}
theorem dMM(kt et:TypeId):∀S w ρ a,HRel S w ρ H.get->FRel S w ρ a n F->Does P S w ρ H.get a ty (.makeMap t none) (some<|.sl H.nx) ((ED.new<|.mp kt et [] []).app H.get H.nx) (ED.new<|.mp kt et [] []).tch:=λS w ρ a hr G=>
 e_mkMap hr H.get_free
theorem tN(D:KeyT P kt α enc){encV:β->V}{y:Operand}{id:Nat}{k:α}{l:List<|α×β}{c:Bool}{zv v:V}{z:Value}{ty:TypeId}(O:aL k l=none)(ht:P.underlying t=some (.map kt et))(Z:∀w,(zeroValue et).run P w=.ok z w)(G:zEq z zv=true)(hx:aO F x=some (.sl id))(hy:aO F y=some (enc k))(ho:H.get id=.mp kt et (l.map λp=>enc p.1) (l.map λp=>encV p.2))(hv:(match c with|true=>V.tup [zv,.bool false]|false=>zv)=v):
  ∀S w ρ a,HRel S w ρ H.get->FRel S w ρ a n F->Does P S w ρ H.get a ty (.lookup t x y c) (some v) (ED.nop.app H.get H.nx) ED.nop.tch:=λS w ρ a hr J=>by
 have :=GS (ty:=ty) (c:=c) (zv:=zv) D hr J.fr (au J hx) (au J hy) ho ht (Z w)<|Eg G;rw[O]at this;subst hv;exact this
theorem tV(D:KeyT P kt α enc){encV:β->V}{y:Operand}{id:Nat}{k:α}{l:List<|α×β}{c:Bool}{v:V}{z:Value}{ty:TypeId}{d:β}{zv:V}(O:aL k l=some d)(ht:P.underlying t=some (.map kt et))(Z:∀w,(zeroValue et).run P w=.ok z w)(G:zEq z zv=true)(hx:aO F x=some (.sl id))(hy:aO F y=some (enc k))(ho:H.get id=.mp kt et (l.map λp=>enc p.1) (l.map λp=>encV p.2))(hv:(match c with|true=>V.tup [encV d,.bool true]|false=>encV d)=v):
  ∀S w ρ a,HRel S w ρ H.get->FRel S w ρ a n F->Does P S w ρ H.get a ty (.lookup t x y c) (some v) (ED.nop.app H.get H.nx) ED.nop.tch:=λS w ρ a hr J=>by
 have :=GS (ty:=ty) (c:=c) (zv:=zv) D hr J.fr (au J hx) (au J hy) ho ht (Z w)<|Eg G;rw[O]at this;subst hv;exact this
theorem yA(D:KeyT P kt α enc){encV:β->V}{y z:Operand}{id:Nat}{k:α}{d:β}{l:List<|α×β}{v:V}{ty:TypeId}{vs:List V}(ht:P.underlying t=some (.map kt et))(hx:aO F x=some (.sl id))(hy:aO F y=some (enc k))(O:aO F z=some v)(hv:v=encV d)(Z:v.pure=true)(ho:H.get id=.mp kt et (l.map λp=>enc p.1) (l.map λp=>encV p.2))(hk:((bS k d l).map λp=>enc p.1)=ks)(J:((bS k d l).map λp=>encV p.2)=vs):
  ∀S w ρ a,HRel S w ρ H.get->FRel S w ρ a n F->Does P S w ρ H.get a ty (.mapUpdate t x y z) none ((ED.set id<|.mp kt et ks vs).app H.get H.nx) (ED.set id<|.mp kt et ks vs).tch:=λS w ρ a hr G=>by
 subst hv hk J;exact QQ D hr G.fr (au G hx) (au G hy) (au G O) Z ho ht
theorem okM{kt:TypeId}{vs:List V}{id:Nat}(G:H.get id=.mp kt et ks vs):(ED.set id o').ok H.get:=by exact⟨by rw[G];simp,by rw[G];simp⟩
theorem gHM{kt:TypeId}{vs:List V}(id:Nat)(ks' vs':List V)(G:H.get id=.mp kt et ks vs)(h1:ks=ks')(h2:vs=vs')(J:H.ap (.set id<|.mp kt et ks' vs') _root_.id=H1)(k:Go P K Q p s n F H1):Go P K Q p s n F H:=by
 subst h1 h2;rw[Hp.ap_eq]at J;subst J;have O:(H.app<|.set id<|.mp kt et ks vs).get=H.get:=by
  rw[Hp.get_app<|by exact⟨by rw[G];simp,by rw[G];simp⟩];exact EB G
 intro S w ρ a hr hi Z;exact k S w ρ a (by rw[id_eq,O];exact hr) (by rw[id_eq,O];exact hi) Z
theorem lkN:cq .nilp (.lk []):=λS w ρ x h=>by simp only[VRel,KRel]at h⊢;exact h
theorem Kd:cq (.lk []) .nilp:=λS w ρ x h=>by simp only[VRel,KRel]at h⊢;exact h
theorem lkC{r:List<|List V}{l:List V}(hl:l=cs++[.lk r]):cq (.box l 0) (.lk<|cs::r):=λS w ρ x h=>by
 subst hl;simp only[VRel,KRel]at h⊢;obtain⟨b,off,xs,rfl,h2,h3,J,h5⟩:=h;have G:=J.length;rw[aab,List.length_singleton]at G;obtain⟨ys,y,rfl⟩:∃ys y,xs=ys++[y]:=by
  rcases List.eq_nil_or_concat xs with e|⟨ys,y,e⟩
  ·rw[e]at G;simp at G
  ·exact⟨ys,y,by rw[e];simp⟩
 have hy:ys.length=cs.length:=by simpa using G
 have Z:=LRel.take (w:=w) (S:=S) (ρ:=ρ0) cs.length J;have O:=LRel.drop (w:=w) (S:=S) (ρ:=ρ0) cs.length J;rw[List.take_append_of_le_length<|aaf _,List.take_length,List.take_append_of_le_length (by omega),<-hy,List.take_length]at Z;rw[List.drop_append_of_le_length<|aaf _,List.drop_length,aax,List.drop_append_of_le_length (by omega),<-hy,List.drop_length,aax]at O;simp only[LRel]at O;obtain⟨z,zs,e,hz,hzs⟩:=O;simp only[List.cons.injEq]at e;obtain⟨rfl,_⟩:=e;refine⟨b,off,ys,y,by simp,h2,h3,Z,by simpa only[VRel]using hz,hz.one rfl,λj hj=>h5 j<|by simpa using hj⟩
theorem IM{r:List<|List V}{l:List V}(G:l=cs++[.lk r]):cq (.lk<|cs::r) (.box l 0):=λS w ρ x h=>by
 subst G;simp only[VRel,KRel]at h⊢;obtain⟨b,off,xs,y,rfl,h2,J,O,Z,_,h7⟩:=h;exact⟨b,off,xs++[y],by simp,h2,J,O.append ⟨y,[],rfl,by simp only[VRel];exact Z,rfl⟩,λj hj=>h7 j<|by simpa using hj⟩
theorem MD{a b c d:Int}(h:(a==b&&c==d)=true):a=b∧c=d:=by simpa using h
theorem Mz{a b c d:Int}(h:(a==b&&c==d)=false):¬(a=b∧c=d):=λ⟨G,J⟩=>by subst G J;simp at h
theorem Cb{neg:Bool}{f0 f1:Field}{t u ty:TypeId}{x y:Operand}{a0 a1 b0 b1:V}{x0 x1 y0 y1:Value}{r0 r1:Bool}(ht:P.underlying t=some (.struct #[f0,f1]))(hs:P.stoodInHeld t=false)(hm:P.eqGuardType P.depth t=false) (n0:(f0.name != "_")=true) (n1:(f1.name != "_")=true) (o0:f0.offset=0) (o1:f1.offset=1) (p0:P.plainKey f0.type=true) (p1:P.plainKey f1.type=true)
  (hx:aO F x=some (.agg [a0,a1])) (hy:aO F y=some (.agg [b0,b1])) (q0:∀S w ρ z,VRel S w ρ a0 z->z=x0) (q1:∀S w ρ z,VRel S w ρ a1 z->z=x1) (q2:∀S w ρ z,VRel S w ρ b0 z->z=y0) (q3:∀S w ρ z,VRel S w ρ b1 z->z=y1)
  (h0:∀w,(Op.equalIn 9999 f0.type x0 y0).run P w=.ok r0 w) (h1:∀w,(Op.equalIn 9999 f1.type x1 y1).run P w=.ok r1 w):
  ∀S w ρ a,HRel S w ρ H.get->FRel S w ρ a n F->Yld P S w ρ a ty (.binOp (if neg then .neq else .eql) t x y u) (.bool<|if neg then !(r0&&r1)else(r0&&r1)):=λS w ρ a hr hF=>by
 obtain⟨v,k1,k2⟩:=au hF hx;obtain⟨v',k3,k4⟩:=au hF hy;simp only[VRel,LRel]at k2 k4;obtain⟨xs,rfl,z0,_,rfl,m0,z1,_,rfl,m1,rfl⟩:=k2;obtain⟨ys,rfl,z2,_,rfl,m2,z3,_,rfl,m3,rfl⟩:=k4;rw[q0 _ _ _ _ m0,q1 _ _ _ _ m1]at k1;rw[q2 _ _ _ _ m2,q3 _ _ _ _ m3]at k3;refine⟨.bool<|if neg then !(r0&&r1)else(r0&&r1),by simp only[VRel],λw' _ _ _ _ _=>?_⟩;have he:=λw=>yJ (w:=w) ht hs n0 n1 o0 o1 p0 p1 (h0 w)<|h1 w;have he':∀w,(Op.equalIn 10000 t (.agg #[x0,x1])<|.agg #[y0,y1]).run P w=.ok (r0&&r1) w:=he;simp only[execOp,hF.fr.eval k1,hF.fr.eval k3];cases neg
 ·simp[run_eqGuard_agg _ _ _ _ _ _ _ hm,run_eql_struct,he',Result.andThen]
 ·simp[run_eqGuard_agg _ _ _ _ _ _ _ hm,run_neq_struct,he',Result.andThen]
theorem qI{k:IntKind}{z:Int}:∀S w ρ x,VRel S w ρ (.int k z) x->x=Value.int k z:=λS w ρ x h=>by simpa only[VRel]using h
theorem eI{a b:Int}(h:P.underlying t=some (.int .i64)):∀w,(Op.equalIn 9999 t (.int .i64 a)<|.int .i64 b).run P w=.ok (a==b) w:=λw=>run_equalIn_int w 9998 t _ _ a b h
theorem FT{w:World}{neg:Bool}{q:Option Addr}(hf:Fr a n f)(ht:P.underlying t=some (.pointer e))(hx:aR f x=some (.pointer q)):Runs P a ty (.binOp (if neg then .neq else .eql) t x (.const<|.pointer none) u) w (.value<|.bool<|if neg then q.isSome else q.isNone) w:=λ_ _ _ _=>by
 have J:P.pointee t=e:=by simp[Program.pointee,ht]
 have O:P.underlying t=some (.pointer<|P.pointee t):=by rw[J];exact ht
 have G:(Op.equal t (.pointer q)<|.pointer none).run P w=.ok q.isNone w:=run_equal_pointer_nil w t q O;have Z:a.eval (.const<|.pointer none)=.pointer none:=rfl;simp only[execOp,hf.eval hx,Z];cases neg
 ·have :(binOp .eql t (.pointer q)<|.pointer none).run P w=.ok (.bool q.isNone) w:=by simp only[binOp];simp[G]
  simp[eqGuard,this]
 ·have :(binOp .neq t (.pointer q)<|.pointer none).run P w=.ok (.bool !q.isNone) w:=by simp only[binOp];simp[G]
  cases q<;>simp_all[eqGuard]
section
variable{t e u ty:TypeId}{x:Operand}
theorem RR(ht:P.underlying t=some (.pointer e))(hx:aO F x=some .nilp):∀S w ρ a,HRel S w ρ H.get->FRel S w ρ a n F->Yld P S w ρ a ty (.binOp .neq t x (.const<|.pointer none) u) (.bool false):=λS w ρ a hr G=>by obtain⟨y,h1,h2⟩:=au G hx;simp only[VRel]at h2;subst h2;exact⟨.bool false,by simp only[VRel],λw' _=>by have :=FT (P:=P) (w:=w') (neg:=true) (u:=u) (ty:=ty) G.fr ht h1;simpa using this⟩
theorem Rm{o:Nat}(ht:P.underlying t=some (.pointer e))(hx:aO F x=some (.box cs o)):∀S w ρ a,HRel S w ρ H.get->FRel S w ρ a n F->Yld P S w ρ a ty (.binOp .neq t x (.const<|.pointer none) u) (.bool true):=λS w ρ a hr G=>by obtain⟨y,h1,h2⟩:=au G hx;simp only[VRel]at h2;obtain⟨b,off,xs,rfl,_⟩:=h2;exact⟨.bool true,by simp only[VRel],λw' _=>by have :=FT (P:=P) (w:=w') (neg:=true) (u:=u) (ty:=ty) G.fr ht h1;simpa using this⟩
end
end
section
variable{P:Program}{T:Tab}{n:Nat}{F:Fm}{H:Hp}
theorem yIP(hT:TabOk P T){y:Operand}{len o id r:Nat}{tz:TD}(ht:T.ty t=some tz)(G:(match tz.kind with|.arr l e'=>Nat.beq l len&&Nat.beq e e'|_=>false)=true)(O:T.ty e=some td)(hsz:td.size=sz)(hx:aO F x=some (.ptr id o))(hy:aO F y=some (.int .i64 (k:Int)))(Z:Nat.blt k len=true)(hl:o+k*sz=r):
  ∀S w ρ a,HRel S w ρ H.get->FRel S w ρ a n F->Yld P S w ρ a ty (.indexAddr t x y) (.ptr id r):=λS w ρ a hr hF=>by
 subst hl hsz;obtain⟨y0,h1,h2⟩:=au hF hx;simp only[VRel]at h2;obtain⟨b,h3,rfl⟩:=h2;have J:P.underlying t=some (.array len e):=by
  split at G
  ·rename_i l e' he';simp only[aaa]at G;have h3:=aag G.1;have h4:=aag G.2;subst h3 h4;exact(hT.ty _ _ ht).arr he'
  ·cases G
 exact⟨_,by simp only[VRel];exact⟨b,h3,rfl⟩,λw' _=>HY hF.fr J (hT.ty _ _ O).size h1 (bj<|au hF hy) rfl (Nat.le_of_ble_eq_true Z) rfl⟩
theorem yMn:∀S w ρ a,HRel S w ρ H.get->FRel S w ρ a n F->Yld P S w ρ a ty (.assign<|.const<|.map none) (.raw<|.map none):=λS w ρ a hr G=>
 ⟨.map none,by simp only[VRel];exact⟨trivial,rfl⟩,λw' _ _ _ _ _=>by simp only[execOp,G.fr.eval (x:=.const<|.map none) rfl];rfl⟩
end
section
variable{P:Program}{n:Nat}{F:Fm}{H:Hp}
theorem OT{w:World}{y:Operand}(h:Fr a n f)(hx:aR f x=some (.int .i64 m))(hy:aR f y=some (.int .i64 l)):Runs P a ty (.binOp .mul t x y u) w (.value<|.int .i64<|IntKind.i64.wrap<|m*l) w:=λ_ _ _ _=>by simp only[execOp,h.eval hx,h.eval hy];simp[go_sem,eqGuard]
theorem Sp{y:Operand}(hx:aO F x=some (.int .i64 m))(hy:aO F y=some (.int .i64 l)):∀S w ρ a,HRel S w ρ H.get->FRel S w ρ a n F->Yld P S w ρ a ty (.binOp .mul t x y u) (.int .i64<|IntKind.i64.wrap<|m*l):=λS w ρ a hr G=>⟨_,by simp only[VRel],λw' _=>OT G.fr (bj<|au G hx)<|bj<|au G hy⟩
end
section
variable{P:Program}{T:Tab}{K:Ctx}{Q:Exit->Act->World->Prop}{s:List EI}{n:Nat}{F:Fm}{H:Hp}
theorem Bi{all:Array Oper}{L:YN}{m left l:Nat}{listed:Array Bool}{oi oj ol:Oper}{ui uj ul:V}{Hi Hj Hl:Hp}(O:(match Region.ready .any all listed with|[x,y,z]=>Nat.beq x i&&Nat.beq y j&&Nat.beq z l|_=>false)=true)(hi:all[i]?=some oi)(hj:all[j]?=some oj)(hl:all[l]?=some ol)(hwi:bt F all oi.guard=some true)(hwj:bt F all oj.guard=some true)(hwl:bt F all ol.guard=some true)
  (xi:oO P K oi L ((listed.setIfInBounds i true).getD m false) n F H ui Hi) (xj:oO P K oj L ((listed.setIfInBounds j true).getD m false) n F H uj Hj) (xl:oO P K ol L ((listed.setIfInBounds l true).getD m false) n F H ul Hl)
  (ki:Go P K Q (.drw all L m left<|listed.setIfInBounds i true) s n (F.seto oi.dst<|some ui) Hi) (kj:Go P K Q (.drw all L m left<|listed.setIfInBounds j true) s n (F.seto oj.dst<|some uj) Hj) (kl:Go P K Q (.drw all L m left<|listed.setIfInBounds l true) s n (F.seto ol.dst<|some ul) Hl):Go P K Q (.drw all L m (left+1) listed) s n F H:=λS w ρ a hr hiv Z hs=>by
 split at O
 ·rename_i x y z hre;simp only[aaa,Nat.beq_eq]at O;obtain⟨⟨rfl,rfl⟩,rfl⟩:=O;refine⟨λh0=>(by rw[hre]at h0;cases h0),λc hc=>?_⟩;rw[hre]at hc;simp only[aah,List.not_mem_nil,or_false]at hc;rcases hc with rfl|rfl|rfl
  ·unfold wpOp;simp only[hi];rw[if_pos<|cj Z hwi];exact .inl<|xi S w ρ a hr hiv Z _ _ λx S' w' ρ' G J hu hA hL hv=>kB hu hA hL<|ki S' w' ρ' _ G J (cP (Z.up hu) oi.dst hv) hs
  ·unfold wpOp;simp only[hj];rw[if_pos<|cj Z hwj];exact .inl<|xj S w ρ a hr hiv Z _ _ λx S' w' ρ' G J hu hA hL hv=>kB hu hA hL<|kj S' w' ρ' _ G J (cP (Z.up hu) oj.dst hv) hs
  ·unfold wpOp;simp only[hl];rw[if_pos<|cj Z hwl];exact .inl<|xl S w ρ a hr hiv Z _ _ λx S' w' ρ' G J hu hA hL hv=>kB hu hA hL<|kl S' w' ρ' _ G J (cP (Z.up hu) ol.dst hv) hs
 ·cases O
end
section
variable{P:Program}{K:Ctx}{Q:Exit->Act->World->Prop}{p:EP}{s:List EI}{n:Nat}{F:Fm}{H H1:Hp}
theorem gHX(id:Nat)(els':List V)(O:H.get id=.row e sz els)(Z:aD els els')(h2:H.ap (.set id<|.row e sz els') _root_.id=H1)(k:Go P K Q p s n F H1):Go P K Q p s n F H:=by
 rw[Hp.ap_eq]at h2;subst h2;have hg:(H.app<|.set id<|.row e sz els').get=bQ H.get id (.row e sz els'):=Hp.get_app (by exact⟨by rw[O];simp,by rw[O];simp⟩);intro S w ρ a hr hi hF;have G:∀i b,own ρ i (bQ H.get id (.row e sz els') i) b↔own ρ i (H.get i) b:=λi b=>by
  by_cases hi:i=id
  ·subst hi;rw[bD,O];rfl
  ·rw[co _ _ hi]
 refine k S w ρ a ?_ ?_ hF
 ·rw[id_eq,hg];refine⟨λi=>?_,λi b hb=>hr.sep i b<|(G i b).1 hb,λi j b h1 h2=>hr.dis i j b ((G i b).1 h1)<|(G j b).1 h2,hr.slt⟩;by_cases J:i=id
  ·subst J;rw[bD];obtain⟨v,xs,h1,h2,h3⟩:=jK hr O;exact⟨v,xs,h1,by rw[Z.len];exact h2,h3.sub Z⟩
  ·rw[co _ _ J];exact hr.ob i
 ·rw[id_eq,hg];exact⟨hi.chg,hi.s0,hi.s1,λi b hb=>hi.ow i b<|(G i b).1 hb,hi.pin⟩
end
set_option maxHeartbeats 4000000
structure ac where
 Kind:Int
 N:Int
 S:(List UInt8)
 L:(List ac)
mutual
def ac.v:ac->V
 |.mk a0 a1 a2 a3=>.agg [.int .i64 a0,.int .i64 a1,.str a2,.row 4<|ac.vs a3]
def ac.vs:List ac->List V
 |[]=>[]
 |t::r=>ac.v t::ac.vs r
end
abbrev ac.c(x:ac):List V:=[.int .i64 x.Kind,.int .i64 x.N,.str x.S,.row 4 (ac.vs x.L)]
abbrev ac.w(x:ac):V:=.agg x.c
theorem ac.v_eq(x:ac):x.v=x.w:=by cases x;simp[ac.v]
theorem ac.vs_map:∀l:List ac,ac.vs l=l.map ac.w
 |[]=>by simp[ac.vs]
 |t::r=>by simp[ac.vs,ac.v_eq,ac.vs_map r]
theorem ac.vlen(l:List ac):(ac.vs l).length=l.length:=by rw[ac.vs_map,aaD]
theorem ac.vget{l:List ac}{u:ac}(h:l[i]?=some u):(ac.vs l)[i]?=some u.w:=by rw[ac.vs_map,List.getElem?_map,h];rfl
theorem ac.vapp(a b:List ac):ac.vs (a++b)=ac.vs a++ac.vs b:=by simp[ac.vs_map]
theorem ac.vren(σ:YN)(l:List ac):renL σ (ac.vs l)=ac.vs l:=by rw[ac.vs_map];exact mL σ ac.w (λ_=>rfl) l
theorem ac.vpure(l:List ac):pureL (ac.vs l)=true:=by rw[ac.vs_map];exact iV ac.w (λ_=>rfl) l
theorem ac.vone(x:ac):[x.w]=ac.vs [x]:=by rw[ac.vs_map];rfl
abbrev vG(a0:Int)(a1:Int)(a2:YB):Ob:=.var 24 [.int .i64 a0,.int .i64 a1,.str a2,.nils]
abbrev vF(a0:Int)(a1:Int)(a2:YB)(a3:V):Ob:=.var 24 [.int .i64 a0,.int .i64 a1,.str a2,a3]
def qx(G:ac)(p1 J:Int):Prop:=qS 37 [.agg<|ac.c G,qi p1]<|qi J
def oM(G:ac)(J:Int):Prop:=qS 16 [.agg<|ac.c G]<|qi J
def oQ(G:ac)(J:Bool):Prop:=qS 35 [.agg<|ac.c G]<|.bool J
def qU(G:ac)(J:Bool):Prop:=qS 14 [.agg<|ac.c G]<|.bool J
def nX(G p1:ac)(J:Bool):Prop:=qS 18 [.agg<|ac.c G,.agg<|ac.c p1]<|.bool J
def oP(G J:ac):Prop:=qS 46 [.agg<|ac.c G]<|.agg<|ac.c J
def dM(G:Int)(J:ac):Prop:=qS 28 [qi G]<|.agg<|ac.c J
def oH(m:Nat)(G:ac)(p1 a:Int)(b:Nat)(J:Int):Prop:=z7 m [] f37 (q9<|qi J) (xI<|xA<|aj f37) [.blk 0,.seq<|xA<|xH<|aj f37] 40 [(1,qi p1),(5,qi a),(22,.row 4<|ac.vs G.L),(23,qi (G.L.length:Int)),(24,qi (b:Int))] ⟨0,[]⟩
theorem Du(m:Nat)(p0:ac)(p1 r0:Int)(h:InI (p1-1)∧(((p1-1)<=(p0.S.length:Int))->p1=r0)∧((¬(p1-1)<=(p0.S.length:Int))->1+p0.S.length<=9223372036854775807∧oH m p0 p1 ((1+p0.S.length:Nat):Int) 0 r0)):qx p0 p1 r0:=by
 refine⟨I,I,?_⟩;refine qA 40 [] func37 λK hK=>?_;refine gR 3 I<|gFP 0 I I I I<|gR 16 I ?_;obtain⟨hb,h⟩:=h;refine gR 1 rfl<|gV 13 (qi<|p1-1) rfl (am hb rfl) rfl<|gR 3 rfl<|qXd 14 rfl rfl rfl h ?_ ?_<;>intro hd h;refine gR 9 I ?_;subst h;exact qN [.tmp 4];refine gR 9 I ?_;obtain⟨hb,h⟩:=h;exact gR 1 I<|gV 20 (qi ((1+p0.S.length:Nat):Int)) I (am (by omega)<|by omega) I<|gR 9 I<|gV 23 (qi (p0.L.length:Int)) I (aP<|ac.vlen _) I<|gLB 22 I (ac.vlen _) λa=>gR 4 I<|go_loop m<|qW hK h []
theorem vU(m:Nat)(G:ac)(p1 a:Int)(b:Nat)(J:Int)(h:y5 (b<G.L.length) (∃d,G.L[b]?=some d∧y5 (p1<=a) (a=J) (InI (p1-a)∧∃c,qx d (p1-a) c∧InI (a+c)∧b+1<=9223372036854775807∧oH m G p1 (a+c) (b+1) J))<|a=J):oH (m+1) G p1 a b J:=by
 refine qj λK j1 O g=>?_;refine gR 6 rfl<|qXh 25 rfl rfl rfl h cg ch ?_ ?_<;>intro Z h;refine gR 7 I ?_;obtain⟨d,e,h⟩:=h;refine gY (aI (ac.vget e) ai rfl rfl rfl rfl) rfl rfl<|gR 13 rfl<|qXd 30 rfl rfl rfl h ?_ ?_<;>intro Z h;refine gR 5 I<|go_xloopE<|gR 9 I ?_;subst h;exact qN [.tmp 4];refine gR 8 I ?_;obtain⟨hb,h⟩:=h;refine gR 1 I<|gV 35 (qi<|p1-a) I (am hb I) I ?_;obtain⟨c,f,h⟩:=h;refine qC0 f I ?_;obtain⟨hb,h⟩:=h;refine gR 1 I<|gV 37 (qi<|a+c) I (am hb I) I<|gR 5 I ?_;obtain⟨hb,h⟩:=h;exact gR 1 I<|gV 38 (qi ((b+1:Nat):Int)) I (am (by omega)<|by omega) I<|gR 2 I<|go_xloop<|qW O h [];refine gR 3 I<|go_xloopE<|gR 9 I ?_;subst h;exact qN [.tmp 4]
theorem BF(m:Nat)(G:ac)(J:Int)(h:∃a,qx G 4097 a∧a=J):oM G J:=by
 refine⟨I,I,?_⟩;refine qA 5 [] func16 λK O=>?_;refine gR 3 I<|gFP 0 I I I I<|gR 6 I ?_;obtain⟨a,b,h⟩:=h;refine qC0 b I<|gR 4 I ?_;subst h;exact qN [.tmp 2]
def nj(m:Nat)(G:ac)(a:Nat)(J:Bool):Prop:=z7 m [] f35 (q9<|.bool J) (cL<|xE<|xK<|xC<|xB<|xE<|cB<|aj f35) [.blk 1,.seq<|cB<|xK<|xC<|xB<|xE<|cB<|aj f35,.blk 0,.seq<|xA<|aj f35] 71 [(1,.box (ac.c G) 0),(53,.row 4<|ac.vs G.L),(54,qi (G.L.length:Int)),(55,qi (a:Int))] ⟨0,[]⟩
theorem Cn(m:Nat)(p0:ac)(r0:Bool)(h:((p0.Kind=1)->((p0.S=[])->((p0.L.length:Int)==0)=r0)∧((p0.S≠[])->false=r0))∧((p0.Kind≠1)->((p0.Kind=2)->((p0.N=0)->((p0.L.length:Int)==0)=r0)∧((p0.N≠0)->false=r0))∧((p0.Kind≠2)->((p0.Kind=3)->((p0.S=[])->(((p0.L.length:Int)=0)->((p0.N=0)->true=r0)∧((p0.N≠0)->(p0.N==1)=r0))∧(((p0.L.length:Int)≠0)->false=r0))∧((p0.S≠[])->false=r0))∧((p0.Kind≠3)->((p0.Kind=4)->nj m p0 0 r0)∧((p0.Kind≠4)->false=r0))))):oQ p0 r0:=by
 refine⟨I,I,?_⟩;refine qA 71 [] func35 λK hK=>?_;refine gR 3 rfl<|gFP 0 rfl rfl rfl rfl<|gR 17 rfl<|qXeZ 7 8 rfl rfl rfl rfl h ?_ ?_<;>intro hd h;refine gR 7 rfl<|qXeZ 12 11 rfl rfl rfl rfl h ?_ ?_<;>intro hd h;refine gR 3 I<|gV 15 (qi (p0.L.length:Int)) I (aP<|ac.vlen _) I<|gLB 14 I (ac.vlen _) λa=>gR 8 I ?_;subst h;exact qN [.tmp 2];refine gR 11 I ?_;subst h;exact qN [.tmp 2];refine gR 7 rfl<|qXeZ 18 19 rfl rfl rfl rfl h ?_ ?_<;>intro hd h;refine gR 7 rfl<|qXeZ 23 22 rfl rfl rfl rfl h ?_ ?_<;>intro hd h;refine gR 3 I<|gV 26 (qi (p0.L.length:Int)) I (aP<|ac.vlen _) I<|gLB 25 I (ac.vlen _) λb=>gR 8 I ?_;subst h;exact qN [.tmp 2];refine gR 11 I ?_;subst h;exact qN [.tmp 2];refine gR 7 rfl<|qXeZ 29 30 rfl rfl rfl rfl h ?_ ?_<;>intro hd h;refine gR 7 rfl<|qXeZ 34 33 rfl rfl rfl rfl h ?_ ?_<;>intro hd h;refine gR 3 rfl<|gV 37 (qi (p0.L.length:Int)) rfl (aP<|ac.vlen _) rfl<|gLB 36 rfl (ac.vlen _) λc=>gR 3 rfl<|qXeZ 40 39 rfl rfl rfl rfl h ?_ ?_<;>intro hd h;refine gR 4 rfl<|qXeZ 44 43 rfl rfl rfl rfl h ?_ ?_<;>intro hd h;refine gR 11 I ?_;subst h;exact qN [.tmp 2];refine gR 11 I ?_;subst h;exact qN [.tmp 2];refine gR 15 I ?_;subst h;exact qN [.tmp 2];refine gR 21 I ?_;subst h;exact qN [.tmp 2];refine gR 7 rfl<|qXeZ 50 51 rfl rfl rfl rfl h ?_ ?_<;>intro hd h;exact gR 7 I<|gV 54 (qi (p0.L.length:Int)) I (aP<|ac.vlen _) I<|gLB 53 I (ac.vlen _) λd=>gR 4 I<|go_loop m<|qW hK h [];refine gR 10 I ?_;subst h;exact qN [.tmp 2]
theorem uQ(m:Nat)(G:ac)(a:Nat)(J:Bool)(h:y5 (a<G.L.length) (∃c,G.L[a]?=some c∧∃b,oQ c b∧y7 b (false=J) (a+1<=9223372036854775807∧nj m G (a+1) J))<|y8 G.S [] ((G.N==0)=J)<|false=J):nj (m+1) G a J:=by
 refine qj λK j1 Z f=>?_;refine gR 6 rfl<|qXh 56 rfl rfl rfl h cg ch ?_ ?_<;>intro O h;refine gR 7 I ?_;obtain⟨c,d,h⟩:=h;refine gY (aI (ac.vget d) ai I I I I) I I<|gR 8 I ?_;obtain⟨b,e,h⟩:=h;refine qC0 e rfl<|gR 3 rfl<|qXh 61 rfl rfl rfl h cv cu ?_ ?_<;>intro O h;refine gR 9 I<|go_xloopR<|gR 4 I ?_;subst h;exact qN [.tmp 2];refine gR 5 I ?_;obtain⟨hb,h⟩:=h;exact gR 1 I<|gV 62 (qi ((a+1:Nat):Int)) I (am (by omega)<|by omega) I<|gR 2 I<|go_xloop<|qW Z h [];refine gR 3 rfl<|go_xloopE<|gR 8 rfl<|qXeZ 66 65 rfl rfl rfl rfl h ?_ ?_<;>intro O h;refine gR 10 I ?_;subst h;exact qN [.tmp 2];refine gR 10 I ?_;subst h;exact qN [.tmp 2]
theorem Dq(m:Nat)(G:ac)(J:Bool)(h:∃a,oM G a∧((a<=4096)->∃b,oQ G b∧b=J)∧((¬a<=4096)->false=J)):qU G J:=by
 refine⟨I,I,?_⟩;refine qA 10 [] func14 λK O=>?_;refine gR 3 I<|gFP 0 I I I I<|gR 6 I ?_;obtain⟨a,c,h⟩:=h;refine qC0 c rfl<|gR 2 rfl<|qBdZ 6 5 rfl rfl rfl rfl h ?_ ?_<;>intro h;refine gR 1 I ?_;obtain⟨b,d,h⟩:=h;refine qC0 d I<|gR 5 I ?_;subst h;exact qN [.tmp 2];refine gR 7 I ?_;subst h;exact qN [.tmp 2]
def rm(m:Nat)(G p1:ac)(a:Nat)(J:Bool):Prop:=z7 m [] f18 (q9<|.bool J) (xI<|aj f18) [.blk 0,.seq<|xH<|aj f18] 53 [(2,.box (ac.c G) 0),(3,.box (ac.c p1) 0),(36,qi (G.L.length:Int)),(37,qi (a:Int))] ⟨0,[]⟩
theorem Ed(m:Nat)(p0 p1:ac)(r0:Bool)(h:((p0.Kind≠p1.Kind)->false=r0)∧((p0.Kind=p1.Kind)->((p0.N≠p1.N)->false=r0)∧((p0.N=p1.N)->((p0.S≠p1.S)->false=r0)∧((p0.S=p1.S)->((p0.L.length≠p1.L.length)->false=r0)∧((p0.L.length=p1.L.length)->rm m p0 p1 0 r0))))):nX p0 p1 r0:=by
 refine⟨I,I,?_⟩;refine qA 53 [] func18 λK hK=>?_;refine gR 3 rfl<|gFP 0 rfl rfl rfl rfl<|gR 1 rfl<|gFP 1 rfl rfl rfl rfl<|gR 12 rfl<|qXhZ 11 10 rfl rfl rfl rfl h cz bH ?_ ?_<;>intro hd h;refine gR 32 I ?_;subst h;exact qN [.tmp 4];refine gR 7 rfl<|qXhZ 18 17 rfl rfl rfl rfl h cz bH ?_ ?_<;>intro hd h;refine gR 25 I ?_;subst h;exact qN [.tmp 4];refine gR 7 rfl<|qXhZ 25 24 rfl rfl rfl rfl h cz bH ?_ ?_<;>intro hd h;refine gR 18 I ?_;subst h;exact qN [.tmp 4];refine gR 3 rfl<|gV 28 (qi (p0.L.length:Int)) rfl (aP<|ac.vlen _) rfl<|gLB 27 rfl (ac.vlen _) λa=>gR 3 rfl<|gV 31 (qi (p1.L.length:Int)) rfl (aP<|ac.vlen _) rfl<|gLB 30 rfl (ac.vlen _) λb=>gR 4 rfl<|qXh 33 rfl rfl rfl h JL Ix ?_ ?_<;>intro hd h;refine gR 8 I ?_;subst h;exact qN [.tmp 4];exact gR 9 I<|gV 36 (qi (p0.L.length:Int)) I (aP<|ac.vlen _) I<|gR 4 I<|go_loop m<|qW hK h []
theorem xZ(m:Nat)(G p1:ac)(a:Nat)(J:Bool)(h:y5 (a<G.L.length) (∃c,G.L[a]?=some c∧∃d,p1.L[a]?=some d∧∃b,nX c d b∧y7 b (false=J) (a+1<=9223372036854775807∧rm m G p1 (a+1) J))<|true=J):rm (m+1) G p1 a J:=by
 refine qj λK j1 O i=>?_;refine gR 6 rfl<|qXh 38 rfl rfl rfl h cg ch ?_ ?_<;>intro Z h;refine gR 12 I<|qDs [] 12 12<|qDr (qR 0 3 2 []) I I ?_;obtain⟨c,e,h⟩:=h;refine gYd 3 I (by kernel_rfl) (aI (ac.vget e) ai I I I I) I I<|qDr (qR 4 3 2 [(7,0)]) I I ?_;obtain⟨d,f,h⟩:=h;refine cw 8 I (by kernel_rfl) (aI (ac.vget f) ai I I I I) I I ?_;refine qDr [(9,0)] I I ?_;obtain⟨b,g,h⟩:=h;refine bg 10 g (by kernel_rfl) I (by kernel_rfl) I I .rfl I I ?_;refine qDr [(11,0)] rfl rfl<|qDe<|gR 1 rfl<|qXh 51 rfl rfl rfl h cv cu ?_ ?_<;>intro Z h;refine gR 9 I<|go_xloopR<|gR 2 I ?_;subst h;exact qN [.tmp 4];refine gR 5 I ?_;obtain⟨hb,h⟩:=h;exact gR 1 I<|gV 52 (qi ((a+1:Nat):Int)) I (am (by omega)<|by omega) I<|gR 2 I<|go_xloop<|qW O h [];refine gR 3 I<|go_xloopE<|gR 8 I ?_;subst h;exact qN [.tmp 4]
def nf(m:Nat)(G:ac)(a:List ac)(b:Nat)(J:ac):Prop:=z7 m [] f46 (q9<|.agg<|ac.c J) (xI<|aj f46) [.blk 0,.seq<|xH<|aj f46] 22 [(1,.ptr 0 0),(2,.ptr 1 0),(3,.sl 2),(7,.row 4<|ac.vs G.L),(8,qi (G.L.length:Int)),(9,qi (b:Int))] ⟨3,[(2,.row 24 4<|ac.vs a),(1,vG 0 0 []),(0,.var 24<|ac.c G)]⟩
theorem BW(m:Nat)(p0 r0:ac)(h:nf m p0 ([]:List ac) 0 r0):oP p0 r0:=by
 refine⟨I,I,?_⟩;refine qA 22 [] func46 λK hK=>?_;exact gR 17 I<|gV 8 (qi (p0.L.length:Int)) I (aP<|ac.vlen _) I<|gLB 7 I (ac.vlen _) λa=>gR 4 I<|go_loop m<|gNS 3 24 4 I I I I<|qW hK h [0,1,2]
theorem uX(m:Nat)(G:ac)(a:List ac)(c:Nat)(J:ac)(h:y5 (c<G.L.length) (∃d,G.L[c]?=some d∧∃b,oP d b∧(a++[b]).length<=1000000000∧c+1<=9223372036854775807∧nf m G (a++[b]) (c+1) J)<|(ac.mk G.Kind G.N G.S a)=J):nf (m+1) G a c J:=by
 refine qj λK Z O g=>?_;refine gR 6 rfl<|qXh 10 rfl rfl rfl h cg ch ?_ ?_<;>intro hd h;refine gR 7 I ?_;obtain⟨d,e,h⟩:=h;refine gY (aI (ac.vget e) ai I I I I) I I<|gR 8 I ?_;obtain⟨b,f,h⟩:=h;refine qC0 f I<|gR 1 I<|gHR 4 (ac.vs [b]) I (ac.vone b) I ?_;obtain⟨hb,h⟩:=h;refine gDo (.repl 2<|.row 24 4<|ac.vs<|a++[b]) (bI ai I I I I I (ac.vapp a [b]).symm (by rw[ac.vlen];exact hb)) (okR I) I I I<|gR 5 I ?_;obtain⟨hb,h⟩:=h;exact gR 1 I<|gV 18 (qi ((c+1:Nat):Int)) I (am (by omega)<|by omega) I<|gR 2 I<|go_xloop<|qJH O (h K _ O<|by omega) [0,1,5] ⟨⟨_,I,⟨I,I,(ac.vren _<|a++[b]).symm⟩⟩,⟨⟨_,I,⟨I,aD.rfl⟩⟩,⟨⟨_,I,⟨I,aD.rfl⟩⟩,trivial⟩⟩⟩;refine gR 3 I<|go_xloopE<|gR 16 I<|gFR 2 I (ac.vpure _) I I ?_;subst h;exact go_sub (F':=(mkF 22 0 [(2,.ptr 0 0)])) (H':=⟨1,[(0,.var 24<|ac.c<|ac.mk G.Kind G.N G.S a)]⟩) [1] [] I O pq1 (pqo1 I I) I<|qN [.cell 2 24]
theorem wu(m:Nat)(G:Int)(J:ac)(h:(ac.mk 1 G [] [])=J):dM G J:=by
 refine⟨I,I,?_⟩;refine qA 5 [] func28 λK O=>?_;refine gR 13 I ?_;subst h;exact go_sub (F':=(mkF 5 0 [(2,.ptr 0 0)])) (H':=⟨1,[(0,vF ((ac.mk 1 G [] []).Kind) ((ac.mk 1 G [] []).N) ((ac.mk 1 G [] []).S)<|.row 4<|ac.vs<|(ac.mk 1 G [] []).L)]⟩) [0] [] I O pq1 ⟨⟨_,I,I,(.cons .rfl<|.cons .rfl<|.cons .rfl<|.cons (.nil 4) .nil)⟩,trivial⟩ I<|qN [.cell 2 24]
def oW(G J:YI):Prop:=bv [0] prog 101 [.sl 0] ⟨1,[(0,.row 3 1<|List.map (V.int .i64) G)]⟩<|z6 (.row 1<|List.map (V.int .i64) J) ⟨1,[(0,.row 3 1<|List.map (V.int .i64) G)]⟩
theorem zI(m:Nat)(G J:YI)(h:∀(a:Bool),(a=true->G.length=0)->y6 a ([]=J) (G.length<=1000000000∧G=J)):oW G J:=by
 refine qA 8 [0] func101 λK O=>?_;refine gR 9 I<|Sg (N:=G.length) ai I I I I (aQ (V.int .i64) G) λa hb=>?_;replace h:=h a hb;refine gR 2 rfl<|qBi 4 rfl rfl rfl h ?_ ?_<;>intro h;refine gR 8 I ?_;subst h;exact gE O [] [(2,.row 1<|List.map (V.int .i64) [])] [0] [.tmp 2] ⟨⟨_,I,(.nil 1)⟩,trivial⟩;refine gR 7 I ?_;obtain⟨hb,h⟩:=h;refine gDo (.repl 1<|.row 3 1<|List.map (V.int .i64) G) (bI ai I I I I I (aax _) (by rw[aQ];exact hb)) (okR I) I I I<|gR 4 I<|gFR 2 I (iV _ (λ_=>I) _) I I ?_;subst h;exact gE O [] [(2,.row 1<|List.map (V.int .i64) G)] [0] [.tmp 2]
end Go.Proofs.YthnohcipianijaaGreatDoor
