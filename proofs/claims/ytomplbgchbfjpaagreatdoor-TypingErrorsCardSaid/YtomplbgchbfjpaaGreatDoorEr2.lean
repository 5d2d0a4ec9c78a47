/- Contracts of the functions that the law reaches, part 2. -/
import Derived.Test.YtomplbgchbfjpaaGreatDoorEr1
set_option linter.unusedVariables false
set_option linter.unusedSimpArgs false
namespace Go.Proofs.YtomplbgchbfjpaaGreatDoor
open _root_.Go.Proofs.Tryz
open Go.RowKit
def JL(d:Nat):Operand→Bool
 |.tmp t=>!Nat.beq t d
 |_=>true
def xe(d:Option Tmp)(ps:List (Nat×Operand)):Bool:=match d with
 |some d=>ps.all λp=>JL d p.2
 |none=>true
def DP(d e:Option Tmp):Bool:=match d,e with
 |some d,some e=>!Nat.beq d e
 |_,_=>true
variable{x:Operand}
variable{d:Option Tmp}
variable{b:Nat}
variable{h:Nat→Ob}
variable{j:Nat}
section
variable{P:Program}{T:Tab}{K:Ctx}{Q:Exit→Act→World→Prop}{s:List EI}{n:Nat}{F:Fm}{H:Hp}{S:Nat→Prop}{w:World}{ρ:Nat→Option Value}{a:Act}
theorem NT{d:Nat}{y:Value}(h:JL d x=true):aS (fA (a.put (some d) y)) x=aS (fA a) x:=by
 cases x with
 |tmp t=>
  have G:t≠d:=λe=>by subst e;simp[JL]at h
  simp only[aS,fA,Act.put,Array.getElem?_setIfInBounds];rw[if_neg (λe=>G e.symm)]
 |_=>rfl
theorem KO{y:Value}:∀{ps:List (Nat×Operand)},xe d ps=true→io (fA (a.put d y)) ps=io (fA a) ps:=by
 intro ps h;cases d with
 |none=>rfl
 | some d=>
  induction ps with
  |nil=>rfl
  |cons p r ih=>
   obtain⟨i,x⟩:=p;simp only[xe,List.all_cons,Bool.and_eq_true]at h;have ih':=ih (by simp only[xe];exact h.2);simp only[io,NT h.1,ih']
theorem lH.up{S':Nat→Prop}{w':World}{ρ':Nat→Option Value}(u:Up S S' w w' ρ ρ'):∀{vs:List (Nat×V)} {ys:List (Nat×Value)},lH S w ρ vs ys→lH S' w' ρ' vs ys
 |[],ys,h=>h
 |(i,v)::r,ys,h=>by
  simp only[lH]at h⊢;obtain⟨x,zs,h1,h2,G⟩:=h;exact⟨x,zs,h1,h2.up u,lH.up u G⟩
theorem LK{e:Option Tmp}{v u:Option V}(h:DP d e=true):(F.seto d v).seto e u=(F.seto e u).seto d v:=by
 cases d with
 |none=>rfl
 |some d=>cases e with
  |none=>rfl
  |some e=>
   have :d≠e:=λx=>by subst x;simp[DP]at h
   simp only[Fm.seto];exact List.set_comm _ _ this
theorem LA{v:V}(U:∀t,d=some t→F.get t=none)(G:FRel S w ρ a n (F.seto d (some v))):FRel S w ρ a n F:=by
 cases d with
 |none=>exact G
 |some d=>
  refine⟨G.size,G.defers,G.gl,by have :=G.len;simpa[Fm.seto]using this,λi u J=>G.get i u ?_⟩;have O:d≠i:=λe=>by subst e;rw[U d rfl]at J;cases J
  rw[Fm.get_eq]at J⊢;simp only[Fm.seto,List.getElem?_set,if_neg O];exact J
variable{all:Array Oper}{L:List Nat}{m left i:Nat}{listed:Array Bool}{o:Oper}
def GoP (P:Program) (K:Ctx) (Q:Exit→Act→World→Prop) (all:Array Oper) (L:List Nat) (m left:Nat) (listed:Array Bool) (s:List EI) (n:Nat) (F:Fm) (H:Hp) (i:Nat) (o:Oper) (ps:List (Nat×Operand)) (vs:List (Nat×V)) (v:V):Prop:=
  ∀ S w ρ a,HRel S w ρ H.get→Inv K S w ρ H.get→Region.noSelect all=true→
    (FRel S w ρ a n F→(∃ys,io (fA a) ps=some ys∧lH S w ρ vs ys)→wpB P all (NoPanic (eW P Q s)) (Agree S w) (Ls ρ L w) m (left+1) listed a w)∧
    (FRel S w ρ a n (F.seto o.dst (some v))→wpB P all (NoPanic (eW P Q s)) (Agree S w) (Ls ρ L w) m left (listed.setIfInBounds i true) a w)
theorem Lt{ps:List (Nat×Operand)}{vs:List (Nat×V)}{v:V}(hv:pY F ps=some vs)(k:GoP P K Q all L m left listed s n (F.seto o.dst none) H i o ps vs v):Go P K Q (.drw all L m (left+1) listed) s n F H:=λS w ρ a hr hi G hs=>by
 obtain⟨ys,h1,h2⟩:=tq G hv;refine(k S w ρ a hr hi hs).1 ?_ ⟨ys,h1,h2⟩;refine⟨G.size,G.defers,G.gl,?_,λj u J=>?_⟩
 ·cases O:o.dst with
  |none=>exact G.len
  |some d=>have :=G.len;simpa[Fm.seto]using this
 ·cases O:o.dst with
  |none=>rw[O]at J;exact G.get j u J
  |some d=>
   rw[O,Fm.get_eq]at J;simp only[Fm.seto,List.getElem?_set]at J;split at J
   ·split at J<;>simp at J
   ·exact G.get j u (by rw[Fm.get_eq];exact J)
theorem zI{w':World}(J:Chg [] w w'):Up S (λc=>S c∨c=b) w w' ρ ρ:=⟨λ_ h=>.inl h,λc _ G=>J.block c G (by simp),λ_ _ h=>h⟩
theorem Ks{w':World}(hr:HRel S w ρ h)(J:Chg [] w w')(hb:b=w.heap.size)(O:b<w'.heap.size):HRel (λc=>S c∨c=b) w' ρ h:=by
 refine⟨λi=>(hr.ob i).up (zI J) (λhf=>?_) (λc G=>J.block c (gU (hr.ob i) G) (by simp)),λi c G=>?_,hr.dis,hr.slt.up (zI (ρ:=ρ) J) λc G=>?_⟩
 ·have :=hr.ob i;rw[hf]at this;exact this
 ·rintro(h1|h1)
  ·exact hr.sep i c G h1
  ·have :=gU (hr.ob i) G;omega
 ·rcases G with h1|h1
  ·exact Nat.lt_of_lt_of_le (hr.slt c h1) J.size
  ·omega
theorem LY{w':World}(hi:Inv K S w ρ h)(J:Chg [] w w')(hb:b=w.heap.size):Inv K (λc=>S c∨c=b) w' ρ h:=by
 have O:=hi.chg0 J;refine⟨O.chg,λc G=>.inl (hi.s0 c G),λc G=>?_,hi.ow,hi.pin⟩;rcases G with h1|h1
 ·exact hi.s1 c h1
 ·have :=hi.chg.size;exact .inr (.inr (by omega))
theorem GI{t e:TypeId}{ps:List (Nat×Operand)}{vs:List (Nat×V)}{ys:List (Nat×Value)}{d:TD}{k:Nat}{ty:TypeId}{els:List V}(Z:TabOk P T)(hr:HRel S w ρ h)(hi:Inv K S w ρ h)(fr:Fr a n (fA a))(G:io (fA a) ps=some ys)(hpr:lH S w ρ vs ys)
  {x1 x2:Nat} {x3:V} (ht:T.ty t=some ⟨x1,x2,x3,.sl e⟩) (he:T.ty e=some d) (hp:oH d.size 0 vs=some els) (hb:(Nat.beq els.length k&&Nat.ble (k*d.size) 16777216&&Nat.ble k 16777216&&pureL els)=true):
  ∃x S' w',Runs P a ty (.buildSlice t k ps.toArray) w (.value x) w'∧HRel S' w' ρ h∧Inv K S' w' ρ h∧Up S S' w w' ρ ρ∧Chg [] w w'∧VRel S' w' ρ (.row d.size els) x:=by
 simp only[Bool.and_eq_true,Nat.beq_eq]at hb;obtain⟨⟨⟨hl,hsm⟩,hm⟩,hpu⟩:=hb;have hmm:k≤16777216:=Nat.le_of_ble_eq_true hm;obtain⟨z,hz1,hz2⟩:=(Z.ty _ _ he).zeroT;obtain⟨h1,h2,h3⟩:=wj hpr hp;have J:ps.map (·.1)=List.range k:=by
  have :ps.map (·.1)=ys.map (·.1):=by rw[←fr.parts G];simp
  rw[this,h1,hl,List.range_eq_range']
 obtain⟨w',b,g1,g2,O,g4,g5⟩:=Ds (P:=P) (t:=t) (m:=k) fr G ((Z.ty _ _ ht).sl rfl) (Z.ty _ _ he).size hz1 J h2 hsm rfl w ty;have U:=h3.length;refine⟨_,λc=>S c∨c=b,w',g1,Ks hr O g4 g5,LY hi O g4,zI O,O,?_⟩;simp only[VRel];refine⟨some ⟨b,0,none⟩,k,_,by rw[hl],by omega,by simp only[maxLen];omega,(h3.up (zI O)).pure hpu,U,λ_=>⟨b,0,rfl,.inr rfl,g5,λj hj=>by rw[Nat.zero_add,g2.cell]⟩⟩
def vY (T:Tab) (all:Array Oper) (i:Nat) (vs:List (Nat×V)):Option (Oper×List (Nat×Operand)×V):=match all[i]? with
 |some ⟨dst,.buildSlice t k ⟨ps⟩,ty,pp,af,none⟩=>match T.ty t with
  |some ⟨_,_,_,.sl e⟩=>match T.ty e with
   |some d=>match oH d.size 0 vs with
    |some els=>match Nat.beq els.length k&&Nat.ble (k*d.size) 16777216&&Nat.ble k 16777216&&pureL els with
     |true=>jj d.size λsz=>some (⟨dst,.buildSlice t k ⟨ps⟩,ty,pp,af,none⟩,ps,.row sz els)
     |false=>none
    |none=>none
   |none=>none
  |_=>none
 |_=>none
variable{ps:List (Nat×Operand)}{vs:List (Nat×V)}{v:V}
theorem Dq(hT:TabOk P T)(G:vY T all i vs=some (o,ps,v))(hr:HRel S w ρ H.get)(J:Inv K S w ρ H.get)(O:FRel S w ρ a n F){ys:List (Nat×Value)}(U:io (fA a) ps=some ys)(Z:lH S w ρ vs ys)(hs:Region.noSelect all=true)
  (hl:(dB H.get L||(listed.setIfInBounds i true).getD m false)=true)
  (D:∀S w ρ a,HRel S w ρ H.get→Inv K S w ρ H.get→FRel S w ρ a n (F.seto o.dst (some v))→wpB P all (NoPanic (eW P Q s)) (Agree S w) (Ls ρ L w) m left (listed.setIfInBounds i true) a w):
  wpOp P all (NoPanic (eW P Q s)) i (λa' w'=>Agree S w w'∧(Ls ρ L w w'∨(listed.setIfInBounds i true).getD m false=true)∧wpB P all (NoPanic (eW P Q s)) (Agree S w) (Ls ρ L w) m left (listed.setIfInBounds i true) a' w') a w:=by
 unfold vY at G;split at G
 ·rename_i dst t k ps' ty pp af hi;split at G
  ·rename_i e ht;split at G
   ·rename_i d he;split at G
    ·rename_i els hrp;split at G
     ·rename_i hb;rw[eU]at G;simp only[Option.some.injEq,Prod.mk.injEq]at G;obtain⟨rfl,rfl,rfl⟩:=G;obtain⟨x,S',w',g1,g2,g3,g4,g5,g6⟩:=GI (ty:=ty) hT hr J O.fr U Z ht he hrp hb;unfold wpOp;simp only[hi];rw[if_pos (cD O (o:=⟨dst,.buildSlice t k ⟨ps'⟩,ty,pp,af,none⟩) rfl)];refine .inl ?_;have hk:=D S' w' ρ _ g2 g3 (df (O.up g4) dst g6);unfold Oper.wp;rw[g1 dst pp af none];refine lK g4 (λb hb=>g5.block b (hr.slt b hb) (by simp)) ((zH hl).imp (λhl id hid x b hx hb=>?_) id) hk;exact g5.block b (gU (hr.ob id) (oJ hr hl id hid x b hx hb)) (by simp)
     ·cases G
    ·cases G
   ·cases G
  ·cases G
 ·cases G
theorem Oj(hT:TabOk P T)(hp:vY T all i vs=some (o,ps,v))(O:Region.ready .any all listed=[i])(hl:(dB H.get L||(listed.setIfInBounds i true).getD m false)=true)
  (kk:Go P K Q (.drw all L m left (listed.setIfInBounds i true)) s n (F.seto o.dst (some v)) H):GoP P K Q all L m left listed s n F H i o ps vs v:=λS w ρ a hr G hs=>by
 refine⟨λJ ⟨ys,U,Z⟩=>rf (S:=S) O (Dq hT hp hr G J U Z hs hl λS w ρ a hr G J=>kk S w ρ a hr G J hs),λJ=>kk S w ρ a hr G J hs⟩
theorem Hw{B Sx:World→Prop}{Q':Exit→Act→World→Prop}(G:(match Region.ready .any all listed with|[x,y]=>(Nat.beq x i&&Nat.beq y j)||(Nat.beq x j&&Nat.beq y i)|_=>false)=true)
  (h1:wpOp P all Q' i (λa' w'=>B w'∧(Sx w'∨(listed.setIfInBounds i true).getD m false=true)∧wpB P all Q' B Sx m left (listed.setIfInBounds i true) a' w') a w)
  (h2:wpOp P all Q' j (λa' w'=>B w'∧(Sx w'∨(listed.setIfInBounds j true).getD m false=true)∧wpB P all Q' B Sx m left (listed.setIfInBounds j true) a' w') a w):wpB P all Q' B Sx m (left+1) listed a w:=by
 split at G
 ·rename_i x y hr;refine⟨λO=>(by rw[hr]at O;cases O),λc J=>?_⟩;rw[hr]at J;simp only[Bool.or_eq_true,Bool.and_eq_true,Nat.beq_eq]at G;simp only[List.mem_cons,List.not_mem_nil,or_false]at J;rcases G with⟨rfl,rfl⟩|⟨rfl,rfl⟩
  ·rcases J with rfl|rfl
   ·exact h1
   ·exact h2
  ·rcases J with rfl|rfl
   ·exact h2
   ·exact h1
 ·cases G
theorem LP(hT:TabOk P T)(hp:vY T all i vs=some (o,ps,v)){oj:Oper}(hj:all[j]?=some oj)(hrd:(match Region.ready .any all listed with|[x,y]=>(Nat.beq x i&&Nat.beq y j)||(Nat.beq x j&&Nat.beq y i)|_=>false)=true)(hrd1:Region.ready .any all (listed.setIfInBounds i true)=[j])
  (hl:(dB H.get L||(listed.setIfInBounds i true).getD m false)=true) (hd:∀t,o.dst=some t→F.get t=none) (hne:DP o.dst oj.dst=true) (hpn:xe oj.dst ps=true) (hcomm:(listed.setIfInBounds i true).setIfInBounds j true=(listed.setIfInBounds j true).setIfInBounds i true)
  {Post:V→Hp→Prop}
  (hx:∀S w ρ a,HRel S w ρ H.get→Inv K S w ρ H.get→FRel S w ρ a n F→∀(K2:Act→World→Prop),(∀x S' w' ρ' u H',Post u H'→HRel S' w' ρ' H'.get→Inv K S' w' ρ' H'.get→Up S S' w w' ρ ρ'→Agree S w w'→(Ls ρ L w w'∨((listed.setIfInBounds j true).getD m false=true∧((listed.setIfInBounds j true).setIfInBounds i true).getD m false=true))→VRel S' w' ρ' u x→K2 (a.put oj.dst x) w')→wpOp P all (NoPanic (eW P Q s)) j K2 a w)
  (kk:∀u H',Post u H'→GoP P K Q all L m left (listed.setIfInBounds j true) s n (F.seto oj.dst (some u)) H' i o ps vs v):GoP P K Q all L m (left+1) listed s n F H i o ps vs v:=λS w ρ a hr G hs=>by
 have D:∀S w ρ a,HRel S w ρ H.get→Inv K S w ρ H.get→FRel S w ρ a n (F.seto o.dst (some v))→wpB P all (NoPanic (eW P Q s)) (Agree S w) (Ls ρ L w) m (left+1) (listed.setIfInBounds i true) a w:=λS w ρ a hr G U=>by
  refine rf (S:=S) hrd1 ?_;refine hx S w ρ a hr G (LA hd U) _ λx S' w' ρ' u H' hP J O Z hA hL hv=>?_;rw[hcomm];refine lK Z hA (hL.imp id (·.2)) ((kk u H' hP S' w' ρ' _ J O hs).2 ?_);rw[←LK hne];exact df (U.up Z) oj.dst hv
 refine⟨λU ⟨ys,hps,hpr⟩=>?_,D S w ρ a hr G⟩;refine Hw hrd (Dq hT hp hr G U hps hpr hs hl D) ?_;refine hx S w ρ a hr G U _ λx S' w' ρ' u H' hP J O Z hA hL hv=>?_;refine lK Z hA (hL.imp id (·.1)) ((kk u H' hP S' w' ρ' _ J O hs).1 (df (U.up Z) oj.dst hv) ⟨ys,?_,hpr.up Z⟩);rw[KO hpn];exact hps
end
variable{fid:FuncId}
variable{i:Nat}
section
variable{P:Program}{T:Tab}{K:Ctx}{Q:Exit→Act→World→Prop}{s:List EI}{n:Nat}{F:Fm}{H:Hp}
def qr (P:Program) (K:Ctx) (o:Oper) (L:List Nat) (ok:Bool) (n:Nat) (F:Fm) (H:Hp) (u:V) (H':Hp):Prop:=
  ∀ S w ρ a,HRel S w ρ H.get→Inv K S w ρ H.get→FRel S w ρ a n F→∀(Q':Exit→Act→World→Prop) (K2:Act→World→Prop),
    (∀x S' w' ρ',HRel S' w' ρ' H'.get→Inv K S' w' ρ' H'.get→Up S S' w w' ρ ρ'→Agree S w w'→(Ls ρ L w w'∨ok=true)→VRel S' w' ρ' u x→K2 (a.put o.dst x) w')→o.wp P a w K2 Q'
theorem KL(G:TabOk P T){o:Oper}{L:List Nat}{ok:Bool}{v:V}(hv:rp T H.get F o.op=some v):qr P K o L ok n F H v H:=λS w ρ a hr hi J Q' K2 k=>by
 obtain⟨x,h1,h2⟩:=ye (ty:=o.type) G hr J hv;have :=k x S w ρ hr hi Up.refl Agree.refl (.inl sG) h1;obtain⟨d,op,ty,ps,af,g⟩:=o;unfold Oper.wp;rw[h2 w Agree.refl d ps af g];exact this
theorem bn(Z:TabOk P T){o:Oper}{L:List Nat}{ok:Bool}{v:Option V}{ed:ED}(hv:od T H.get F H.nx o.op=some (v,ed))(hc:((dB H.get L&&ed.clear L)||ok)=true):qr P K o L ok n F H (v.getD (.tup [])) (H.app ed):=λS w ρ a hr hi hF Q' K2 k=>by
 obtain⟨nx,w',ρ',h1,h2,U⟩:=zA (ty:=o.type) Z hr hF H.get_free hv;have G:=h2.hr;have J:=hi.eff h2;rw[←Hp.get_app (vN hv)]at G J;have O:Ls ρ L w w'∨ok=true:=(zH hc).imp (λh=>by
  simp only[Bool.and_eq_true]at h;exact Ey hr h2 h.1 h.2) id
 have kk:=λx hx=>k x S w' ρ' G J h2.up (uQ hr h2) O hx;obtain⟨d,op,ty,ps,af,g⟩:=o;unfold Oper.wp;rw[h1 d ps af g];cases v with
 |none=>
  subst U;exact kk undef yb
 |some v=>
  obtain⟨x,rfl,h4⟩:=U;exact kk x h4
theorem cy{o:Oper}{L:List Nat}{ok:Bool}{args:List Operand}{tys:Array TypeId}{vs:List V}{u:V}{H':Hp}{L':List Nat}(he:dg P fid=true)(ho:o.op=.call {callee:=.value (.func fid),args:=args.toArray,argTypes:=tys})(hv:gz F args=some vs)(hC:CallR P K fid vs H L' (λu' H''=>u'=u∧H''=H'))(hL:L'=L∨ok=true):qr P K o L ok n F H u H':=λS w ρ a hr hi hF Q' K2 k=>by
 obtain⟨xs,h1,h2⟩:=qB hF hv;have G:=hC S w ρ xs hr hi h2;obtain⟨d,op,ty,ps,af,g⟩:=o;simp only at ho;subst ho;have hx:(execOp a.eval ⟨d,.call {callee:=.value (.func fid),args:=args.toArray,argTypes:=tys},ty,ps,af,g⟩).run P w=.ok (.enter fid xs.toArray) w:=by
  have e:args.toArray.map a.eval=xs.toArray:=by rw[←hF.fr.vals h1];simp
  simp only[execOp,resolve,e];simp[Act.eval,Deferred.ofValue,invoke,oE he]
 unfold Oper.wp;rw[hx,Oper.upon_enter];refine G.mono λe w1 hR=>?_;obtain⟨x,S',ρ',v,H'',rfl,⟨rfl,rfl⟩,J,O,hu,U,Z⟩:=hR;exact k x S' w1 ρ' J O hu (λb hb=>hu.blk b hb (hr.slt b hb)) (hL.imp (λe=>by subst e;exact Z) id) U
theorem bR{all:Array Oper}{L:List Nat}{m left:Nat}{listed:Array Bool}{oi oj:Oper}{ui uj:V}{Hi Hj:Hp}(hrd:(match Region.ready .any all listed with|[x,y]=>(Nat.beq x i&&Nat.beq y j)||(Nat.beq x j&&Nat.beq y i)|_=>false)=true)(hi:all[i]?=some oi)(hj:all[j]?=some oj)(hwi:bA F all oi.guard=some true)(hwj:bA F all oj.guard=some true)
  (xi:qr P K oi L ((listed.setIfInBounds i true).getD m false) n F H ui Hi) (xj:qr P K oj L ((listed.setIfInBounds j true).getD m false) n F H uj Hj)
  (ki:Go P K Q (.drw all L m left (listed.setIfInBounds i true)) s n (F.seto oi.dst (some ui)) Hi) (kj:Go P K Q (.drw all L m left (listed.setIfInBounds j true)) s n (F.seto oj.dst (some uj)) Hj):Go P K Q (.drw all L m (left+1) listed) s n F H:=λS w ρ a hr U O hs=>by
 refine Hw hrd ?_ ?_
 ·unfold wpOp;simp only[hi];rw[if_pos (cD O hwi)];exact .inl (xi S w ρ a hr U O _ _ λx S' w' ρ' G J Z hA hL hv=>lK Z hA hL (ki S' w' ρ' _ G J (df (O.up Z) oi.dst hv) hs))
 ·unfold wpOp;simp only[hj];rw[if_pos (cD O hwj)];exact .inl (xj S w ρ a hr U O _ _ λx S' w' ρ' G J Z hA hL hv=>lK Z hA hL (kj S' w' ρ' _ G J (df (O.up Z) oj.dst hv) hs))
end
def atN:List Nat→Nat→Option Nat
 |[],_=>none
 |x::_,0=>some x
 |_::r,i+1=>atN r i
theorem rF:∀(l:List Nat) (i:Nat),atN l i=l[i]?
 |[],i=>by simp[atN]
 |x::r,0=>by simp[atN]
 |x::r,i+1=>by simp[atN,rF r i]
abbrev Jm:V:=.raw (.agg #[])
mutual
def V.ren(σ:List Nat):V→V
 |.ptr id o=>match atN σ id with
  |some j=>.ptr j o
  |none=>Jm
 |.el id sz i o=>match atN σ id with
  |some j=>.el j sz i o
  |none=>Jm
 |.sl id=>match atN σ id with
  |some j=>.sl j
  |none=>Jm
 |.np id=>match atN σ id with
  |some j=>.np j
  |none=>.nilp
 |.agg cs=>.agg (renL σ cs)
 |.tup cs=>.tup (renL σ cs)
 |.clo fid cs=>.clo fid (renL σ cs)
 |.int k n=>.int k n
 |.bool b=>.bool b
 |.str l=>.str l
 |.nilp=>.nilp
 |.nils=>.nils
 |.raw x=>.raw x
 |.box cs o=>.box cs o
 |.row sz els=>.row sz els
 |.lk els=>.lk els
def renL(σ:List Nat):List V→List V
 |[]=>[]
 |v::r=>v.ren σ::renL σ r
end
def Ob.ren(σ:List Nat):Ob→Ob
 |.var t cs=>.var t (renL σ cs)
 |.row e sz els=>.row e sz (renL σ els)
 |o=>o
def ip(σ:List Nat)(ρ:Nat→Option Value):Nat→Option Value:=λj=>match atN σ j with
 |some i=>ρ i
 |none=>none
section
variable{S:Nat→Prop}{w:World}{ρ:Nat→Option Value}{σ:List Nat}
theorem Fd{x:Value}(h:VRel S w ρ Jm x):False:=by simp only[VRel,Value.oneCell']at h;exact absurd h.2 (by simp)
mutual
theorem VRel.ren:∀{v:V} {x:Value},VRel S w ρ (v.ren σ) x→VRel S w (ip σ ρ) v x
 |.int _ _,x,h=>by simp only[V.ren,VRel]at h⊢;exact h
 |.bool _,x,h=>by simp only[V.ren,VRel]at h⊢;exact h
 |.str _,x,h=>by simp only[V.ren,VRel]at h⊢;exact h
 |.nilp,x,h=>by simp only[V.ren,VRel]at h⊢;exact h
 |.nils,x,h=>by simp only[V.ren,VRel]at h⊢;exact h
 |.raw _,x,h=>by simp only[V.ren,VRel]at h⊢;exact h
 |.box _ _,x,h=>by simp only[V.ren,VRel]at h⊢;exact h
 |.row _ _,x,h=>by simp only[V.ren,VRel]at h⊢;exact h
 |.lk _,x,h=>by simp only[V.ren,VRel]at h⊢;exact h
 | .ptr id o,x,h=>by
  simp only[V.ren]at h;split at h
  ·rename_i j hj;simp only[VRel]at h⊢;obtain⟨b,h1,h2⟩:=h;exact⟨b,by simp only[ip,hj];exact h1,h2⟩
  ·exact(Fd h).elim
 | .el id sz i o,x,h=>by
  simp only[V.ren]at h;split at h
  ·rename_i j hj;simp only[VRel]at h⊢;obtain⟨b,n,c,h1,h2⟩:=h;exact⟨b,n,c,by simp only[ip,hj];exact h1,h2⟩
  ·exact(Fd h).elim
 | .sl id,x,h=>by
  simp only[V.ren]at h;split at h
  ·rename_i j hj;simp only[VRel]at h⊢;exact⟨by simp only[ip,hj];exact h.1,h.2⟩
  ·exact(Fd h).elim
 | .np id,x,h=>by
  simp only[V.ren]at h;split at h
  ·rename_i j hj;simp only[VRel]at h⊢;exact h.imp_right λ⟨b,h1,h2⟩=>⟨b,by simp only[ip,hj];exact h1,h2⟩
  ·simp only[VRel]at h⊢;exact .inl h
 |.agg cs,x,h=>by
  simp only[V.ren,VRel]at h⊢;obtain⟨xs,h1,h2⟩:=h;exact⟨xs,h1,LRel.ren h2⟩
 |.tup cs,x,h=>by
  simp only[V.ren,VRel]at h⊢;obtain⟨xs,h1,h2⟩:=h;exact⟨xs,h1,LRel.ren h2⟩
 |.clo fid cs,x,h=>by
  simp only[V.ren,VRel]at h⊢;obtain⟨xs,h1,h2⟩:=h;exact⟨xs,h1,LRel.ren h2⟩
theorem LRel.ren:∀{v:List V} {x:List Value},LRel S w ρ (renL σ v) x→LRel S w (ip σ ρ) v x
 |[],x,h=>by simp only[renL,LRel]at h⊢;exact h
 |v::r,x,h=>by
  simp only[renL,LRel]at h⊢;obtain⟨y,ys,h1,h2,h3⟩:=h;exact⟨y,ys,h1,VRel.ren h2,LRel.ren h3⟩
end
theorem AC:∀(l:List V),(renL σ l).length=l.length
 |[]=>by simp[renL]
 |v::r=>by simp[renL,AC r]
theorem CRel.ren{sz:Nat}:∀{v:List V} {x:List Value},CRel S w ρ sz (renL σ v) x→CRel S w (ip σ ρ) sz v x
 |[],x,h=>by simp only[renL,CRel]at h⊢;exact h
 |v::r,x,h=>by
  simp only[renL,CRel]at h⊢;obtain⟨y,ys,h1,h2,G,J⟩:=h;exact⟨y,ys,h1,h2,VRel.ren G,CRel.ren J⟩
mutual
theorem VRel.bwd{ρ':Nat→Option Value}(hσ:∀j x,ρ j=some x→∃i,atN σ j=some i∧ρ' i=some x):∀{v:V} {x:Value},VRel S w ρ v x→VRel S w ρ' (v.ren σ) x
 |.int _ _,x,h=>by simp only[V.ren,VRel]at h⊢;exact h
 |.bool _,x,h=>by simp only[V.ren,VRel]at h⊢;exact h
 |.str _,x,h=>by simp only[V.ren,VRel]at h⊢;exact h
 |.nilp,x,h=>by simp only[V.ren,VRel]at h⊢;exact h
 |.nils,x,h=>by simp only[V.ren,VRel]at h⊢;exact h
 |.raw _,x,h=>by simp only[V.ren,VRel]at h⊢;exact h
 |.box _ _,x,h=>by simp only[V.ren,VRel]at h⊢;exact h
 |.row _ _,x,h=>by simp only[V.ren,VRel]at h⊢;exact h
 |.lk _,x,h=>by simp only[V.ren,VRel]at h⊢;exact h
 |.ptr id o,x,h=>by
  simp only[VRel]at h;obtain⟨b,h1,h2⟩:=h;obtain⟨i,h3,h4⟩:=hσ _ _ h1;simp only[V.ren,h3,VRel];exact⟨b,h4,h2⟩
 |.el id sz i o,x,h=>by
  simp only[VRel]at h;obtain⟨b,n,c,h1,h2⟩:=h;obtain⟨i',h3,h4⟩:=hσ _ _ h1;simp only[V.ren,h3,VRel];exact⟨b,n,c,h4,h2⟩
 |.sl id,x,h=>by
  simp only[VRel]at h;obtain⟨i,h3,h4⟩:=hσ _ _ h.1;simp only[V.ren,h3,VRel];exact⟨h4,h.2⟩
 | .np id,x,h=>by
  simp only[VRel]at h;rcases h with h|⟨b,h1,h2⟩
  ·simp only[V.ren];split
   ·simp only[VRel];exact .inl h
   ·simp only[VRel];exact h
  ·obtain⟨i,h3,h4⟩:=hσ _ _ h1;simp only[V.ren,h3,VRel];exact .inr ⟨b,h4,h2⟩
 |.agg cs,x,h=>by
  simp only[V.ren,VRel]at h⊢;obtain⟨xs,h1,h2⟩:=h;exact⟨xs,h1,LRel.bwd hσ h2⟩
 |.tup cs,x,h=>by
  simp only[V.ren,VRel]at h⊢;obtain⟨xs,h1,h2⟩:=h;exact⟨xs,h1,LRel.bwd hσ h2⟩
 |.clo fid cs,x,h=>by
  simp only[V.ren,VRel]at h⊢;obtain⟨xs,h1,h2⟩:=h;exact⟨xs,h1,LRel.bwd hσ h2⟩
theorem LRel.bwd{ρ':Nat→Option Value}(hσ:∀j x,ρ j=some x→∃i,atN σ j=some i∧ρ' i=some x):∀{v:List V} {x:List Value},LRel S w ρ v x→LRel S w ρ' (renL σ v) x
 |[],x,h=>by simp only[renL,LRel]at h⊢;exact h
 |v::r,x,h=>by
  simp only[renL,LRel]at h⊢;obtain⟨y,ys,h1,h2,h3⟩:=h;exact⟨y,ys,h1,VRel.bwd hσ h2,LRel.bwd hσ h3⟩
end
theorem CRel.bwd{ρ':Nat→Option Value}(hσ:∀j x,ρ j=some x→∃i,atN σ j=some i∧ρ' i=some x){sz:Nat}:∀{v:List V} {x:List Value},CRel S w ρ sz v x→CRel S w ρ' sz (renL σ v) x
 |[],x,h=>by simp only[renL,CRel]at h⊢;exact h
 |v::r,x,h=>by
  simp only[renL,CRel]at h⊢;obtain⟨y,ys,h1,h2,G,J⟩:=h;exact⟨y,ys,h1,h2,VRel.bwd hσ G,CRel.bwd hσ J⟩
end
def cJ(v u:V):Prop:=∀S w ρ x,VRel S w ρ v x→VRel S w ρ u x
theorem cJ.rfl{v:V}:cJ v v:=λ_ _ _ _ h=>h
theorem cJ.of_eq{v u:V}(h:v=u):cJ v u:=h▸cJ.rfl
theorem cJ.nil(sz:Nat):cJ .nils (.row sz []):=λS w ρ x h=>by
 simp only[VRel]at h⊢;subst h;exact⟨none,0,[],by simp,Nat.le_refl _,by decide,by simp[CRel],RowIn.none_⟩
def aK:List V→List V→Prop
 |[],us=>us=[]
 |v::r,us=>∃u q,us=u::q∧cJ v u∧aK r q
theorem aK.rel{S:Nat→Prop}{w:World}{ρ:Nat→Option Value}:∀{vs us:List V} {xs:List Value},aK vs us→LRel S w ρ vs xs→LRel S w ρ us xs
 |[],us,xs,h,G=>by simp only[aK]at h;subst h;exact G
 |v::r,us,xs,h,G=>by
  simp only[aK]at h;obtain⟨u,q,rfl,h1,h2⟩:=h;simp only[LRel]at G⊢;obtain⟨y,ys,rfl,J,O⟩:=G;exact⟨y,ys,rfl,h1 _ _ _ _ J,aK.rel h2 O⟩
theorem aK.rfl:∀{vs:List V},aK vs vs
 |[]=>by simp[aK]
 |v::r=>⟨v,r,by rfl,cJ.rfl,aK.rfl⟩
variable{vs us:List V}
theorem cJ.agg(h:aK vs us):cJ (.agg vs) (.agg us):=λS w ρ x hx=>by
 simp only[VRel]at hx⊢;obtain⟨xs,h1,h2⟩:=hx;exact⟨xs,h1,h.rel h2⟩
theorem aK.cons{v u:V}{r q:List V}(h:cJ v u)(k:aK r q):aK (v::r) (u::q):=⟨u,q,by rfl,h,k⟩
theorem aK.nil:aK [] []:=by simp[aK]
def nv:Ob→Ob→Prop
 |_,.gone=>True
 |.var t cs,.var J cs'=>t=J∧aK cs cs'
 |.row e sz els,.row G sz' els'=>e=G∧sz=sz'∧els=els'
 |.mp k e ks vs,.mp k' G ks' vs'=>k=k'∧e=G∧ks=ks'∧vs=vs'
 |_,_=>False
def leF(σ:List Nat):Fm→Fm→Prop
 |_,[]=>True
 |[],none::G=>leF σ [] G
 |[],some _::_=>False
 |x::r,none::G=>leF σ r G
 |x::r,some u::G=>(∃v,x=some v∧cJ v (u.ren σ))∧leF σ r G
def leH(σ:List Nat)(H:Hp):List (Nat×Ob)→Prop
 |[]=>True
 |(j,o)::r=>(∃i,atN σ j=some i∧nv (H.get i) (o.ren σ))∧leH σ H r
def dx:List Nat→Bool
 |[]=>true
 |i::r=>!r.contains i&&dx r
variable{o':Ob}
variable{PL:List Nat}{fn:Func}{H0:Hp}
variable{Post:V→Hp→Prop}
section
variable{P:Program}{T:Tab}{K:Ctx}{Q:Exit→Act→World→Prop}{s:List EI}{n:Nat}{F F':Fm}{H H':Hp}{σ:List Nat}{S:Nat→Prop}{w:World}{ρ:Nat→Option Value}{a:Act}
theorem zB:∀{F F':Fm},leF σ F F'→∀i u,F'.get i=some u→∃v,F.get i=some v∧cJ v (u.ren σ)
 |F,[],h,i,u,G=>by simp[Fm.get]at G
 |[],none::J,h,0,u,G=>by simp[Fm.get]at G
 |[],none::J,h,i+1,u,G=>by
  obtain⟨v,h1,_⟩:=zB (F:=[]) (F':=J) (by simpa[leF]using h) i u (by simpa[Fm.get]using G);simp[Fm.get]at h1
 |[],some _::_,h,i,u,G=>by simp[leF]at h
 |x::r,none::J,h,0,u,G=>by simp[Fm.get]at G
 |x::r,none::J,h,i+1,u,G=>by
  have :=zB (F:=r) (F':=J) (by simpa[leF]using h) i u (by simpa[Fm.get]using G);simpa[Fm.get]using this
 |x::r,some u'::J,h,0,u,G=>by
  simp only[leF]at h;simp only[Fm.get,Option.some.injEq]at G;subst G;obtain⟨v,h1,h2⟩:=h.1;exact⟨v,by simp[Fm.get,h1],h2⟩
 |x::r,some u'::J,h,i+1,u,G=>by
  simp only[leF]at h;have :=zB h.2 i u (by simpa[Fm.get]using G);simpa[Fm.get]using this
theorem Mf(h:leF σ F F')(J:F'.length≤n)(G:FRel S w ρ a n F):FRel S w (ip σ ρ) a n F':=
 ⟨G.size,G.defers,G.gl,J,λi u O=>by
  obtain⟨v,h1,h2⟩:=zB h i u O;obtain⟨x,U,Z⟩:=G.get i v h1;exact⟨x,U,(h2 _ _ _ _ Z).ren⟩⟩
theorem AT:∀{l:List (Nat×Ob)},leH σ H l→∀j,aE l j=.gone∨∃i,atN σ j=some i∧nv (H.get i) ((aE l j).ren σ)
 |[],_,j=>.inl rfl
 | (k,o)::r,h,j=>by
  simp only[leH]at h;simp only[aE];split
  ·rename_i hb;have :=Nat.eq_of_beq_eq_true hb;subst this;exact .inr h.1
  ·exact AT h.2 j
theorem wg:∀{l:List Nat},dx l=true→∀i j x,atN l i=some x→atN l j=some x→i=j
 |[],_,i,j,x,hi,G=>by simp[atN]at hi
 |y::r,h,0,0,x,hi,G=>rfl
 |y::r,h,0,j+1,x,hi,G=>by
  simp only[dx,Bool.and_eq_true,Bool.not_eq_true']at h;simp only[atN,Option.some.injEq]at hi G;subst hi;rw[rF]at G;have :=List.mem_of_getElem? G;simp[this]at h
 |y::r,h,i+1,0,x,hi,G=>by
  simp only[dx,Bool.and_eq_true,Bool.not_eq_true']at h;simp only[atN,Option.some.injEq]at hi G;subst G;rw[rF]at hi;have :=List.mem_of_getElem? hi;simp[this]at h
 |y::r,h,i+1,j+1,x,hi,G=>by
  simp only[dx,Bool.and_eq_true]at h;have :=wg h.2 i j x (by simpa[atN]using hi) (by simpa[atN]using G);omega
theorem MF{o:Ob}(hij:atN σ j=some i)(h:nv o (o'.ren σ))(ho':o'≠.gone)(hr:lD S w ρ i o):lD S w (ip σ ρ) j o'∧∀b,own (ip σ ρ) j o' b→own ρ i o b:=by
 have hρ:ip σ ρ j=ρ i:=by simp only[ip,hij]
 cases o' with
 |gone=>exact absurd rfl ho'
 |free=>cases o<;>simp[Ob.ren,nv]at h
 |ext bs Φ=>cases o<;>simp[Ob.ren,nv]at h
 |mp kt' et' ks' vs'=>
  cases o<;>simp only[Ob.ren,nv]at h;rename_i kt et ks vs;obtain⟨rfl,rfl,rfl,rfl⟩:=h;obtain⟨b,es,ck,h1,h2,h3,h4⟩:=hr;exact⟨⟨b,es,ck,by rw[hρ];exact h1,h2,h3,h4⟩,λc hc=>by simp only[own]at hc⊢;rw[hρ]at hc;exact hc⟩
 |var t' cs'=>
  cases o<;>simp only[Ob.ren,nv]at h;rename_i t cs;obtain⟨rfl,h⟩:=h;obtain⟨b,xs,h1,h2,h3⟩:=hr;exact⟨⟨b,xs,by rw[hρ];exact h1,h2,(h.rel h3).ren⟩,λc hc=>by simp only[own]at hc⊢;rw[hρ]at hc;exact hc⟩
 | row e' sz' els'=>
  cases o<;>simp only[Ob.ren,nv]at h;rename_i e sz els;obtain⟨rfl,rfl,rfl⟩:=h;obtain⟨v,xs,h1,h2,h3⟩:=hr;rw[AC]at h2;exact⟨⟨v,xs,by rw[hρ];exact h1,h2,h3.ren⟩,λc hc=>by
   obtain⟨q,e1,e2⟩:=hc;exact⟨q,by rw[←hρ];exact e1,e2⟩⟩
def aw(K:Ctx)(pv:List Nat):Prop:=∀id x,K.pin id=some x→id∈pv
def yi(σ pv:List Nat):Bool:=pv.all λi=>match atN σ i with|some j=>Nat.beq i j|none=>false
theorem Gi(hH:leH σ H H'.es)(hn:dx σ=true)(G:Nat.ble σ.length H'.nx=true)(hr:HRel S w ρ H.get):HRel S w (ip σ ρ) H'.get∧∀j b,own (ip σ ρ) j (H'.get j) b→∃i,atN σ j=some i∧own ρ i (H.get i) b:=by
 have key:∀j,lD S w (ip σ ρ) j (H'.get j)∧∀b,own (ip σ ρ) j (H'.get j) b→∃i,atN σ j=some i∧own ρ i (H.get i) b:=λj=>by
  unfold Hp.get;split
  ·rcases AT hH j with e|⟨i,h1,h2⟩
   ·rw[e];exact⟨trivial,λb hb=>hb.elim⟩
   ·by_cases hg:aE H'.es j=.gone
    ·rw[hg];exact⟨trivial,λb hb=>hb.elim⟩
    ·obtain⟨O,U⟩:=MF h1 h2 hg (hr.ob i);exact⟨O,λb hb=>⟨i,h1,U b hb⟩⟩
  ·rename_i J;refine⟨?_,λb hb=>hb.elim⟩;show ip σ ρ j=none;have hj:¬j<H'.nx:=λh=>by rw[nlT h]at J;cases J
   have hl:σ.length≤H'.nx:=Nat.le_of_ble_eq_true G;simp only[ip,rF];rw[List.getElem?_eq_none (by omega)]
 refine⟨⟨λj=>(key j).1,λj b hb=>?_,λi j b Z hbj=>?_,hr.slt⟩,λj=>(key j).2⟩
 ·obtain⟨i,_,h⟩:=(key j).2 b hb;exact hr.sep i b h
 ·obtain⟨i',h1,h2⟩:=(key i).2 b Z;obtain⟨j',O,U⟩:=(key j).2 b hbj;have :=hr.dis i' j' b h2 U;subst this;exact wg hn i j i' h1 O
def EP.still:EP→Bool
 |.drw .. =>false
 |_=>true
theorem go_sub{p:EP}(σ pv:List Nat)(Z:p.still=true)(G:aw K pv)(hF:leF σ F F')(hH:leH σ H H'.es)(U:(dx σ&&Nat.ble σ.length H'.nx&&yi σ pv&&Nat.ble F'.length n)=true)(k:Go P K Q p s n F' H'):Go P K Q p s n F H:=λS w ρ a hr hi hf=>by
 simp only[Bool.and_eq_true]at U;obtain⟨⟨⟨h1,h2⟩,h3⟩,h4⟩:=U;obtain⟨g1,g2⟩:=Gi hH h1 h2 hr;have J:Inv K S w (ip σ ρ) H'.get:=⟨hi.chg,hi.s0,hi.s1,λj b hb=>by obtain⟨i,_,h⟩:=g2 j b hb;exact hi.ow i b h,λid x hx=>by
  have O:=List.all_eq_true.1 h3 id (G id x hx);simp only[ip];split at O
  ·rename_i j hj;have :=Nat.eq_of_beq_eq_true O;subst this
   first|exact hi.pin id x hx|(rw[hj];exact hi.pin id x hx)
  ·cases O⟩
 have :=k S w (ip σ ρ) a g1 J (Mf hF (Nat.le_of_ble_eq_true h4) hf);cases p with
 |drw=>cases Z
 |code c=>exact this
 |ops all rest=>exact this
 |ex e=>exact this
def SP(K:Ctx)(Post:V→Hp→Prop)(e:Ending)(w':World):Prop:=
 ∃x S' ρ' v H',e=.returned x∧Post v H'∧HRel S' w' ρ' H'.get∧Inv K S' w' ρ' H'.get∧VRel S' w' ρ' v x
def mT(PL:List Nat)(i:Nat):Ob→Bool
 |.var _ _=>true
 |.ext _ _=>true
 |.mp _ _ _ _=>true
 |.row _ _ _=>PL.contains i
 |_=>false
def wi(PL:List Nat)(h:Nat→Ob)(ρ:Nat→Option Value):Nat→Option Value:=λi=>match mT PL i (h i)with
 |true=>ρ i
 |false=>none
def bv(PL:List Nat)(P:Program)(fid:FuncId)(vs:List V)(H0:Hp)(Post:V→Hp→Prop):Prop:=
 ∀S w ρ xs,HRel S w ρ H0.get→LRel S w ρ vs xs→Calls P fid xs.toArray w (SP ⟨w,S,λb=>∃id,own ρ id (H0.get id) b,wi PL H0.get ρ⟩ Post)
abbrev Sum(P:Program)(fid:FuncId)(vs:List V)(H0:Hp)(Post:V→Hp→Prop):Prop:=bv [] P fid vs H0 Post
theorem Lk{c:Code}{Post:V→Hp→Prop}(N:Nat)(pv:List Nat)(hf:P.funcs[fid]?=some fn)(hb:fn.body=some c)(J:fn.ntmps=N)(O:Nat.ble vs.length N=true)(G:∀i,mT PL i (H0.get i)=true→i∈pv)
  (k:∀K,aw K pv→Go P K (bodyPost P fn (SP K Post)) (.code c) [] N (pE N vs) H0):bv PL P fid vs H0 Post:=λS w ρ xs hr hx=>by
 subst J;have hi:Inv ⟨w,S,λb=>∃id,own ρ id (H0.get id) b,wi PL H0.get ρ⟩ S w ρ H0.get:=⟨ChgP.refl _ _,λ_ h=>h,λ_ h=>.inl h,λid b hb=>.inl ⟨id,hb⟩,λid x h=>by
  simp only[wi]at h;split at h
  ·exact h
  ·cases h⟩
 refine Ay hf hb O hr hi hx (k _ λid x h=>G id ?_);simp only[wi]at h;split at h
 ·assumption
 ·cases h
theorem Rm(J:TabOk P T){rs:List ResultVar}{e:Exit}(G:fn.results=rs.toArray)(hv:uU T H.get F rs=some vs)(O:Post (mD vs) H)(U:e=.ret∨e=.normal:=by first|exact .inl rfl|exact .inr rfl):Go P K (bodyPost P fn (SP K Post)) (.ex e) [] n F H:=λS w ρ a hr hi Z=>
 ret_go J U G hr Z hv λx hx=>⟨x,S,ρ,_,H,rfl,O,hr,hi,hx⟩
end
def oM:List Nat→Nat→Option Nat
 |[],_=>none
 |x::r,i=>match Nat.beq x i with
  |true=>some 0
  |false=>match oM r i with
   |some j=>some (j+1)
   |none=>none
theorem kw:∀{l:List Nat} {i j:Nat},oM l i=some j→atN l j=some i
 |[],i,j,h=>by cases h
 | x::r,i,j,h=>by
  simp only[oM]at h;split at h
  ·rename_i hb;have :=Nat.eq_of_beq_eq_true hb;injection h with h;subst h;subst this;rfl
  ·split at h
   ·rename_i j' hj;injection h with h;subst h
    simpa[atN]using kw hj
   ·cases h
theorem Df:∀{l:List Nat} {i:Nat},oM l i=none→∀j,atN l j≠some i
 |[],i,h,j=>by simp[atN]
 | x::r,i,h,0=>by
  simp only[oM]at h;split at h
  ·cases h
  ·rename_i hb;simp only[atN,ne_eq,Option.some.injEq];exact Nat.ne_of_beq_eq_false hb
 | x::r,i,h,j+1=>by
  simp only[oM]at h;split at h
  ·cases h
  ·split at h
   ·cases h
   ·rename_i hn;simpa[atN]using Df hn j
theorem Og{l:List Nat}(G:dx l=true)(h:atN l j=some i):oM l i=some j:=by
 cases hi:oM l i with
 |none=>exact absurd h (Df hi j)
 |some k=>rw[wg G k j i (kw hi) h]
def sgN(PL:List Nat)(nx:Nat)(G:Nat→Ob):Nat→List Nat→Nat→List Nat
 |0,_,_=>[]
 |m+1,σ,j=>match σ with
  |[]=>(nx+j)::sgN PL nx G m [] (j+1)
  |i::r=>(match mT PL j (G j)with|true=>i|false=>nx+j)::sgN PL nx G m r (j+1)
theorem Cn(PL:List Nat)(nx:Nat)(G:Nat→Ob):∀(m:Nat) (σ:List Nat) (j:Nat),(sgN PL nx G m σ j).length=m
 |0,_,_=>rfl
 |m+1,[],j=>by simp[sgN,Cn PL nx G m]
 |m+1,i::r,j=>by simp[sgN,Cn PL nx G m]
theorem DS(PL:List Nat)(nx:Nat)(G:Nat→Ob):∀(m:Nat) (σ:List Nat) (j k:Nat),k<m→atN (sgN PL nx G m σ j) k=some (match atN σ k,mT PL (j+k) (G (j+k))with|some i,true=>i|_,_=>nx+(j+k))
 |0,_,_,k,h=>by omega
 |m+1,[],j,0,h=>by simp[sgN,atN]
 |m+1,[],j,k+1,h=>by
  have :=DS PL nx G m [] (j+1) k (by omega);simp only[sgN,atN]at this⊢;rw[this];simp only[show j+1+k=j+(k+1) by omega]
 |m+1,i::r,j,0,h=>by
  simp only[sgN,atN,Nat.add_zero];cases mT PL j (G j)<;>rfl
 |m+1,i::r,j,k+1,h=>by
  have :=DS PL nx G m r (j+1) k (by omega);simp only[sgN,atN]at this⊢;rw[this];simp only[show j+1+k=j+(k+1) by omega]
def yY(σ:List Nat):List (Nat×Ob)→List (Nat×Ob)
 |[]=>[]
 |(j,o)::r=>match atN σ j with
  |some i=>(i,o.ren σ)::yY σ r
  |none=>yY σ r
def uG(σ:List Nat)(nx:Nat):List (Nat×Ob)→List (Nat×Ob)
 |[]=>[]
 |(j,o)::r=>match !σ.contains j&&Nat.blt j nx with
  |true=>match o with
   |.free=>(j,.gone)::uG σ nx r
   |o=>(j,o)::uG σ nx r
  |false=>uG σ nx r
def pC(PL:List Nat)(H:Hp)(σ:List Nat)(H0 H':Hp):Hp:=⟨H.nx+H'.nx,yY (sgN PL H.nx H0.get H'.nx σ 0) H'.es++uG σ H.nx H.es⟩
theorem Da{σ:List Nat}(hn:dx σ=true){i:Nat}:∀{l:List (Nat×Ob)},aE (yY σ l) i=match oM σ i with|some j=>(aE l j).ren σ|none=>.gone
 |[]=>by simp only[yY,aE];cases oM σ i<;>rfl
 | (k,o)::r=>by
  have ih:=Da hn (i:=i) (l:=r);simp only[yY];split
  ·rename_i i' hi';simp only[aE];by_cases e:i'=i
   ·subst e;rw[nbT,Og hn hi'];simp only[nbT]
   ·rw[nbF e,ih];cases hj:oM σ i with
    |none=>rfl
    |some j=>
     have hne:k≠j:=λe'=>by subst e';rw[kw hj]at hi';injection hi' with h;exact e h.symm
     simp only[nbF hne]
  ·rename_i hk;rw[ih];cases hj:oM σ i with
   |none=>rfl
   |some j=>
    have hne:k≠j:=λe'=>by subst e';rw[kw hj]at hk;cases hk
    simp only[aE,nbF hne]
theorem CJ{σ:List Nat}{nx i:Nat}:∀{l:List (Nat×Ob)},aE (uG σ nx l) i=.gone∨(aE (uG σ nx l) i=aE l i∧σ.contains i=false∧i<nx∧aE l i≠.free)
 |[]=>.inl rfl
 | (k, o)::r=>by
  have ih:=CJ (σ:=σ) (nx:=nx) (i:=i) (l:=r);simp only[uG];by_cases hk:k=i
  ·subst hk;cases hc:(!σ.contains k&&Nat.blt k nx)
   ·simp only;left;have key:∀(l:List (Nat×Ob)),aE (uG σ nx l) k=.gone:=by
     intro l
     induction l with
     |nil=>rfl
     | cons q t ih=>
      obtain⟨m,o'⟩:=q;simp only[uG];by_cases hm:m=k
      ·subst hm;rw[hc];exact ih
      ·cases hc':(!σ.contains m&&Nat.blt m nx)
       ·exact ih
       ·cases o'<;>(simp only[aE,nbF hm];exact ih)
    exact key r
   ·simp only[Bool.and_eq_true,Bool.not_eq_true']at hc;have hlt:k<nx:=by simpa[Nat.blt_eq]using hc.2
    cases o with
    |free=>left;simp only[aE,nbT]
    |gone=>left;simp only[aE,nbT]
    |var t cs=>right;simp only[aE,nbT];exact⟨trivial,hc.1,hlt,by simp⟩
    |row e sz els=>right;simp only[aE,nbT];exact⟨trivial,hc.1,hlt,by simp⟩
    |ext bs Φ=>right;simp only[aE,nbT];exact⟨trivial,hc.1,hlt,by simp⟩
    |mp kt et ks vs=>right;simp only[aE,nbT];exact⟨trivial,hc.1,hlt,by simp⟩
  ·have e2:aE ((k,o)::r) i=aE r i:=by simp only[aE,nbF hk]
   rw[e2];cases hc:(!σ.contains k&&Nat.blt k nx)
   ·exact ih
   ·cases o<;>(simp only[aE,nbF hk];exact ih)
theorem zw:∀{l:List Nat},(∀i j x,atN l i=some x→atN l j=some x→i=j)→dx l=true
 |[],_=>rfl
 | y::r,h=>by
  simp only[dx,Bool.and_eq_true,Bool.not_eq_true'];refine⟨?_,zw λi j x hi hj=>by have :=h (i+1) (j+1) x (by simpa[atN]using hi) (by simpa[atN]using hj);omega⟩;cases hc:r.contains y
  ·rfl
  ·exfalso;have hm:y∈r:=by simpa using hc
   obtain⟨k,hk,e⟩:=List.getElem_of_mem hm;have :=h 0 (k+1) y (by simp[atN]) (by simp only[atN,rF];rw[List.getElem?_eq_getElem hk,e]);omega
variable{ρ:Nat→Option Value}
section
variable{P:Program}{K:Ctx}{H H0:Hp}{σ:List Nat}{S:Nat→Prop}{w:World}
theorem QU{ρ':Nat→Option Value}{o:Ob}(hσ:∀j x,ρ j=some x→∃i,atN σ j=some i∧ρ' i=some x)(Z:atN σ j=some i)(O:ρ j=none→ρ' i=none∨o≠.free)(h:lD S w ρ j o):lD S w ρ' i (o.ren σ)∧∀b,own ρ' i (o.ren σ) b→own ρ j o b:=by
 have hs:∀x,ρ j=some x→ρ' i=some x:=λx hx=>by
  obtain⟨i',h1,h2⟩:=hσ j x hx;rw[Z]at h1;injection h1 with h1;subst h1;exact h2
 cases o with
 |free=>exact⟨(O h).resolve_right (by simp),λb hb=>hb⟩
 |gone=>exact⟨trivial,λb hb=>hb⟩
 |ext bs Φ=>exact⟨h,λb hb=>hb⟩
 |mp kt et ks vs=>
  obtain⟨b,es,ck,h1,h2,J⟩:=h;refine⟨⟨b,es,ck,hs _ h1,h2,J⟩,λc G=>?_⟩;simp only[Ob.ren,own]at G⊢;rw[hs _ h1]at G;rw[h1];exact G
 |var t cs=>
  obtain⟨b,xs,h1,h2,J⟩:=h;refine⟨⟨b,xs,hs _ h1,h2,J.bwd hσ⟩,λc G=>?_⟩;simp only[Ob.ren,own]at G⊢;rw[hs _ h1]at G;rw[h1];exact G
 |row e sz els=>
  obtain⟨v,xs,h1,h2,J⟩:=h;refine⟨⟨v,xs,hs _ h1,by rw[AC];exact h2,J.bwd hσ⟩,λc G=>?_⟩;obtain⟨q,U,e2⟩:=G;rw[hs _ h1]at U;cases U;exact⟨v,h1,e2⟩
theorem uE(hS:bv PL P fid us H0 Post)(σ:List Nat)(hv:aK vs (renL σ us))(hH:leH σ H H0.es)(hc:(dx σ&&Nat.beq σ.length H0.nx&&σ.all λi=>Nat.blt i H.nx)=true)(L:List Nat)(hL:(dB H.get L&&L.all λi=>!σ.contains i)=true):
  CallR P K fid vs H L (λv' H''=>∃v H',Post v H'∧v'=v.ren (sgN PL H.nx H0.get H'.nx σ 0)∧H''=pC PL H σ H0 H'):=λS w ρ xs hr hi hx=>by
 simp only[Bool.and_eq_true]at hc hL;obtain⟨⟨hc1,hc2⟩,hc3⟩:=hc;have hlen:σ.length=H0.nx:=by simpa using hc2
 have hσlt:∀j i,atN σ j=some i→i<H.nx:=λj i h=>by
  rw[rF]at h;have :=List.all_eq_true.1 hc3 i (List.mem_of_getElem? h);simpa[Nat.blt_eq]using this
 obtain⟨g1,g2⟩:=Gi (H':=H0) hH hc1 (by simp[hlen]) hr;refine(hS S w (ip σ ρ) xs g1 ((hv.rel hx).ren)).mono λe w' hR=>?_;obtain⟨x,S',ρ1,v,H',rfl,hP,hr',hi',hvr⟩:=hR;obtain⟨τ,hτ⟩:∃τ,τ=sgN PL H.nx H0.get H'.nx σ 0:=⟨_,rfl⟩;have hτlen:τ.length=H'.nx:=by rw[hτ];exact Cn _ _ _ _ _ _
 have hτat:∀j,j<H'.nx→atN τ j=some (match atN σ j,mT PL j (H0.get j)with|some i,true=>i|_,_=>H.nx+j):=λj hj=>by
  rw[hτ,DS _ _ _ _ _ _ _ hj];simp only[Nat.zero_add]
 have hτlt:∀j i,atN τ j=some i→j<H'.nx:=λj i h=>by
  rw[rF]at h;have :=(List.getElem?_eq_some_iff.1 h).1;omega
 have hτc:∀j i,atN τ j=some i→(atN σ j=some i∧mT PL j (H0.get j)=true)∨i=H.nx+j:=λj i h=>by
  have hj:=hτlt j i h;rw[hτat j hj]at h;simp only[Option.some.injEq]at h;cases h1:atN σ j with
  |none=>rw[h1]at h;exact .inr h.symm
  |some i1=>
   rw[h1]at h;cases h2:mT PL j (H0.get j)
   ·rw[h2]at h;exact .inr h.symm
   ·rw[h2]at h;simp only at h;subst h;exact .inl ⟨rfl,rfl⟩
 have hτbd:∀j i,atN τ j=some i→i<H.nx+H'.nx:=λj i h=>by
  have hj:=hτlt j i h;rcases hτc j i h with⟨h1,_⟩|h1
  ·have :=hσlt j i h1;omega
  ·omega
 have hτinj:dx τ=true:=zw λj k i h1 h2=>by
  rcases hτc j i h1 with⟨a1,_⟩|a1<;>rcases hτc k i h2 with⟨a2,_⟩|a2
  ·exact wg hc1 j k i a1 a2
  ·have :=hσlt j i a1;omega
  ·have :=hσlt k i a2;omega
  ·omega
 have hfreeρ:∀i,H.nx≤i→ρ i=none:=λi hi'=>by
  have :=hr.ob i;have e:H.get i=.free:=by
   unfold Hp.get;have :Nat.blt i H.nx=false:=by cases hb:Nat.blt i H.nx;rfl;simp[Nat.blt_eq]at hb;omega
   rw[this]
  rw[e]at this;exact this
 have hfree1:∀j,H'.nx≤j→ρ1 j=none:=λj hj=>by
  have :=hr'.ob j;have e:H'.get j=.free:=by
   unfold Hp.get;have :Nat.blt j H'.nx=false:=by cases hb:Nat.blt j H'.nx;rfl;simp[Nat.blt_eq]at hb;omega
   rw[this]
  rw[e]at this;exact this
 obtain⟨ρ2,hρ2⟩:∃ρ2:Nat→Option Value,ρ2=λi=>if i<H.nx then ρ i else ρ1 (i-H.nx):=⟨_,rfl⟩
 have hup:∀i y,ρ i=some y→ρ2 i=some y:=λi y h=>by
  by_cases hlt:i<H.nx
  ·rw[hρ2];simp only[hlt,if_true];exact h
  ·rw[hfreeρ i (by omega)]at h;cases h
 have hpin:∀j,mT PL j (H0.get j)=true→∀y,ip σ ρ j=some y→ρ1 j=some y:=λj hv y h=>hi'.pin j y (by simp only[wi,hv];exact h);have hnoext:∀j i,atN σ j=some i→∀bs Φ,H0.get j=.ext bs Φ→False:=λj i h1 bs Φ hy'=>by
  have hl:=AT hH j;have hlt:j<H0.nx:=by
   rw[←hlen];rw[rF]at h1;exact(List.getElem?_eq_some_iff.1 h1).1
  have e0:H0.get j=aE H0.es j:=by unfold Hp.get;rw[nlT hlt]
  rw[←e0,hy']at hl;rcases hl with hl|⟨i',_,hl⟩
  ·cases hl
  ·cases ho:H.get i'<;>rw[ho]at hl<;>simp[Ob.ren,nv]at hl
 have hτρ:∀j y,ρ1 j=some y→∃i,atN τ j=some i∧ρ2 i=some y:=λj y h=>by
  have hj:j<H'.nx:=by
   rcases Nat.lt_or_ge j H'.nx with h1|h1
   ·exact h1
   ·rw[hfree1 j h1]at h;cases h
  obtain⟨i,hji⟩:∃i,atN τ j=some i:=⟨_,hτat j hj⟩;refine⟨i,hji,?_⟩;rcases hτc j i hji with⟨h1,h2⟩|h1
  ·
   have hob:=g1.ob j;have hsome:∃y',ip σ ρ j=some y'∨∃bs Φ,H0.get j=.ext bs Φ:=by
    cases ho:H0.get j with
    |var t cs=>rw[ho]at hob;obtain⟨b,_,hb,_⟩:=hob;exact⟨_,.inl hb⟩
    |row e sz els=>rw[ho]at hob;obtain⟨b,_,hb,_⟩:=hob;exact⟨_,.inl hb⟩
    |ext bs Φ=>exact⟨.bool true,.inr ⟨bs,Φ,rfl⟩⟩
    |mp kt et ks vs=>rw[ho]at hob;obtain⟨b,_,_,hb,_⟩:=hob;exact⟨_,.inl hb⟩
    |_=>rw[ho]at h2;cases h2
   obtain⟨y',hy'|⟨bs,Φ,hy'⟩⟩:=hsome
   ·have :=hpin j h2 y' hy';rw[h]at this;injection this with this;subst this
    simp only[ip,h1]at hy';exact hup _ _ hy'
   ·exact(hnoext j i h1 bs Φ hy').elim
  ·subst h1;rw[hρ2];simp only[show¬H.nx+j<H.nx by omega,if_false,Nat.add_sub_cancel_left];exact h
 obtain⟨h1',hh1'⟩:∃h1':Nat→Ob,h1'=λi=>match oM τ i with|some j=>(H'.get j).ren τ|none=>if i<H.nx+H'.nx then .gone else .free:=⟨_,rfl⟩
 obtain⟨h1,hh1⟩:∃h1:Nat→Ob,h1=λi=>match σ.contains i with|true=>H.get i|false=>.gone:=⟨_,rfl⟩
 have hin:∀i,h1 i=H.get i∨h1 i=.gone:=λi=>by rw[hh1];simp only[];cases σ.contains i<;>simp
 have hkey:∀i,lD S' w' ρ2 i (h1' i)∧∀b,own ρ2 i (h1' i) b→∃j,oM τ i=some j∧own ρ1 j (H'.get j) b:=λi=>by
  rw[hh1'];simp only[];cases hj:oM τ i with
  | none=>
   simp only[];split
   ·exact⟨trivial,λb hb=>hb.elim⟩
   ·rename_i hlt;refine⟨?_,λb hb=>hb.elim⟩;show ρ2 i=none;rw[hρ2];simp only[show¬i<H.nx by omega,if_false];exact hfree1 _ (by omega)
  | some j=>
   have hat:=kw hj;obtain⟨k1,k2⟩:=QU hτρ hat (λhn=>by
    have hjl:=hτlt j i hat;by_cases hf:H'.get j=.free
    ·left;rcases hτc j i hat with⟨a1,a2⟩|a1
     ·
      have hob:=g1.ob j;exfalso;cases ho:H0.get j with
      |var t cs=>
       rw[ho]at hob;obtain⟨b,_,hb,_⟩:=hob;have :=hpin j a2 _ hb;rw[hn]at this;cases this
      |row e sz els=>
       rw[ho]at hob;obtain⟨b,_,hb,_⟩:=hob;have :=hpin j a2 _ hb;rw[hn]at this;cases this
      |ext bs Φ=>exact hnoext j i a1 bs Φ ho
      |mp kt et ks vs=>
       rw[ho]at hob;obtain⟨b,_,_,hb,_⟩:=hob;have :=hpin j a2 _ hb;rw[hn]at this;cases this
      |_=>rw[ho]at a2;cases a2
     ·subst a1;rw[hρ2];simp only[show¬H.nx+j<H.nx by omega,if_false,Nat.add_sub_cancel_left];exact hn
    ·exact .inr hf) (hr'.ob j)
   exact⟨k1,λb hb=>⟨j,rfl,k2 b hb⟩⟩
 have hX:∀b,(∃id,own (ip σ ρ) id (H0.get id) b)→∃id,own ρ id (h1 id) b:=λb ⟨id,hb⟩=>by
  obtain⟨i,h2,h3⟩:=g2 id b hb;refine⟨i,?_⟩;have hm:σ.contains i=true:=by
   rw[rF]at h2;simpa using List.mem_of_getElem? h2
  rw[hh1];simp only[hm];exact h3
 have hrel1:HRel S' w' ρ2 h1':=⟨λi=>(hkey i).1,λi b hb=>by obtain⟨j,_,h⟩:=(hkey i).2 b hb;exact hr'.sep j b h,λi k b hbi hbk=>by
  obtain⟨j,e1,h1⟩:=(hkey i).2 b hbi;obtain⟨j',e2,h2⟩:=(hkey k).2 b hbk;have :=hr'.dis j j' b h1 h2;subst this;have a1:=kw e1;have a2:=kw e2;rw[a1]at a2;injection a2,hr'.slt⟩
 have hinv1:Inv ⟨w,S,λb=>∃id,own ρ id (h1 id) b,ρ⟩ S' w' ρ2 h1':=⟨hi'.chg.mono hX,hi'.s0,λb hb=>by
  rcases hi'.s1 b hb with h|h|h
  ·exact .inl h
  ·exact .inr (.inl (hX b h))
  ·exact .inr (.inr h),λi b hb=>by
  obtain⟨j,_,h⟩:=(hkey i).2 b hb;rcases hi'.ow j b h with h|h
  ·exact .inl (hX b h)
  ·exact .inr h,λid y h=>hup id y h⟩
 have hh2:∀i,((pC PL H σ H0 H').get i=h1' i∨(pC PL H σ H0 H').get i=.gone)∨((pC PL H σ H0 H').get i=H.get i∧h1 i=.gone∧H.get i≠.free):=λi=>by
  by_cases hlt:i<H.nx+H'.nx
  ·have e0:(pC PL H σ H0 H').get i=aE (yY τ H'.es++uG σ H.nx H.es) i:=by
    unfold Hp.get pC;simp only[nlT hlt,hτ]
   rw[e0];rcases FV (yY τ H'.es) (uG σ H.nx H.es) i with e|⟨_,e⟩
   ·rw[e,Da hτinj];cases hj:oM τ i with
    |none=>exact .inl (.inr rfl)
    |some j=>
     left;left;rw[hh1'];simp only[hj];have hjl:=hτlt j i (kw hj);unfold Hp.get;rw[nlT hjl]
   ·rw[e];rcases CJ (σ:=σ) (nx:=H.nx) (i:=i) (l:=H.es)with e1|⟨e1,e2,e3,e4⟩
    ·exact .inl (.inr e1)
    ·right;have eH:H.get i=aE H.es i:=by unfold Hp.get;rw[nlT e3]
     refine⟨by rw[e1,eH],?_,by rw[eH];exact e4⟩;rw[hh1];simp only[e2]
  ·left;left;have e0:(pC PL H σ H0 H').get i=.free:=by
    unfold Hp.get pC;have :Nat.blt i (H.nx+H'.nx)=false:=by cases hb:Nat.blt i (H.nx+H'.nx);rfl;simp[Nat.blt_eq]at hb;omega
    simp only[this]
   rw[e0,hh1'];simp only[];cases hj:oM τ i with
   |none=>simp only[hlt,if_false]
   |some j=>have :=hτbd j i (kw hj);omega
 obtain⟨m1,m2,m3,m4⟩:=ER (h2:=(pC PL H σ H0 H').get) hr hi hin hrel1 hinv1 hh2;refine⟨x,S',ρ2,_,_,rfl,⟨v,H',hP,rfl,rfl⟩,m1,m2,m3,by rw[←hτ];exact hvr.bwd hτρ,m4 L hL.1 λid hid=>?_⟩;have :=List.all_eq_true.1 hL.2 id hid;simp only[Bool.not_eq_true']at this;rw[hh1];simp only[this]
end
variable{α:Type}
section
variable(T:Tab)
def opS(F:Fm)(H:Hp)(o:Oper)(c:Fm→Hp→Option α):Option α:=
 match rp T H.get F o.op with
 |some v=>F.puto o.dst (some v) λF'=>c F' H
 |none=>match od T H.get F H.nx o.op with
  |some (v,ed)=>H.ap ed λH'=>match v with
   |some v=>F.puto o.dst (some v) λF'=>c F' H'
   |none=>F.puto o.dst (some (.tup [])) λF'=>c F' H'
  |none=>none
def iP:Nat→EP→List EI→Fm→Hp→Option (EP×List EI×Fm×Hp)
 |0,p,s,F,H=>some (p,s,F,H)
 |k+1,.code c,s,F,H=>match c with
  |.seq x y=>iP k (.code x) (.seq y::s) F H
  |.block id c=>iP k (.code c) (.blk id::s) F H
  |.skip=>iP k (.ex .normal) s F H
  |.ret=>iP k (.ex .ret) s F H
  |.exit id=>iP k (.ex (.exit id)) s F H
  |.cond c x y=>match aM F c with
   |some (.bool true)=>iP k (.code x) s F H
   |some (.bool false)=>iP k (.code y) s F H
   |_=>none
  |.region _ ⟨l⟩ false=>iP k (.ops ⟨l⟩ l) s F H
  |_=>none
 |k+1,.ops all rest,s,F,H=>match rest with
  |[]=>iP k (.ex .normal) s F H
  |o::r=>match bA F all o.guard with
   |some true=>opS T F H o λF' H'=>iP k (.ops all r) s F' H'
   |some false=>F.puto o.dst (some (.tup [])) λF'=>iP k (.ops all r) s F' H
   |none=>none
 |k +1,.ex e,s,F,H=>match s with
  |[]=>none
  |.seq c::s=>match e with
   |.normal=>iP k (.code c) s F H
   |.exit i=>iP k (.ex (.exit i)) s F H
   |.ret=>iP k (.ex .ret) s F H
   |_=>none
  |.blk id::s=>match e with
   |.normal=>iP k (.ex .normal) s F H
   |.exit i=>match Nat.beq i id with
    |true=>iP k (.ex .normal) s F H
    |false=>iP k (.ex (.exit i)) s F H
   |.ret=>iP k (.ex .ret) s F H
   |_=>none
  |_=>none
 |k+1,.drw ..,_,_,_=>none
def rS (all:Array Oper) (L:List Nat):List (Nat×Nat)→Fm→Hp→Option (Fm×Hp)
 |[],F,H=>some (F,H)
 |(i, f)::r,F,H=>match all[i]? with
  |some o=>match bA F all o.guard with
   |some false=>F.puto o.dst (some (.tup [])) λF'=>rS all L r F' H
   |some true=>match f with
    |2=>match rp T H.get F o.op with
     |some v=>F.puto o.dst (some v) λF'=>rS all L r F' H
     |none=>none
    |3 =>match tx F o.op with
     |some id=>match L.contains id with
      |true=>match od T H.get F H.nx o.op with
       |some (some v,_)=>F.puto o.dst (some v) λF'=>rS all L r F' H
       |_=>none
      |false=>none
     |none=>none
    |f =>match rp T H.get F o.op with
     |some v=>F.puto o.dst (some v) λF'=>rS all L r F' H
     |none=>match od T H.get F H.nx o.op with
      |some (v,ed)=>match(dB H.get L&&ed.clear L)||Nat.beq f 1 with
       |true=>H.ap ed λH'=>match v with
        |some v=>F.puto o.dst (some v) λF'=>rS all L r F' H'
        |none=>F.puto o.dst (some (.tup [])) λF'=>rS all L r F' H'
       |false=>none
      |none=>none
   |none=>none
  |none=>none
end
def Fv(all:Array Oper)(m:Nat):List (Nat×Nat)→Array Bool→Bool
 |[],_=>true
 |(i,f)::r,listed=>(match f with
  |2=>!Nat.beq i m&&Region.free .any all listed i&&(Region.ready .any all listed).contains i
  |3=>!Nat.beq i m&&Region.free .any all listed i&&(Region.ready .any all listed).contains i&&zO .any all m i&&!listed.getD m false
  |1=>(match Region.ready .any all listed with|[j]=>Nat.beq i j|_=>false)&&(listed.setIfInBounds i true).getD m false
  |_=>(match Region.ready .any all listed with|[j]=>Nat.beq i j|_=>false))&&Fv all m r (listed.setIfInBounds i true)
def JS:List (Nat×Nat)→Array Bool→Array Bool
 |[],l=>l
 |(i,_)::r,l=>JS r (l.setIfInBounds i true)
variable{l:Int}
variable{t e:TypeId}{sz:Nat}
variable{els:List V}{ty:TypeId}
variable{cs:List V}
section
variable{P:Program}{T:Tab}{K:Ctx}{Q:Exit→Act→World→Prop}{p p':EP}{s s':List EI}{n:Nat}{F F' F1 F2:Fm}{H H' H1:Hp}
theorem PO(G:TabOk P T){all:Array Oper}{rest:List Oper}{o:Oper}{c:Fm→Hp→Option α}{x:α}(J:bA F all o.guard=some true)(h:opS T F H o c=some x):∃F' H',c F' H'=some x∧(Go P K Q (.ops all rest) s n F' H'→Go P K Q (.ops all (o::rest)) s n F H):=by
 unfold opS at h;split at h
 ·rename_i v hv;rw[Fm.puto_eq]at h;exact⟨_,_,h,λk=>go_opP G J hv k⟩
 ·split at h
  ·rename_i v ed hv;rw[Hp.ap_eq]at h;cases v with
   |none=>
    simp only[Fm.puto_eq]at h;exact⟨_,_,h,λk=>go_opE G J hv k⟩
   |some v=>
    simp only[Fm.puto_eq]at h;exact⟨_,_,h,λk=>go_opE G J hv k⟩
  ·cases h
theorem eg(hT:TabOk P T):∀(k:Nat) (p:EP) (s:List EI) (F:Fm) (H:Hp),iP T k p s F H=some (p',s',F',H')→Go P K Q p' s' n F' H'→Go P K Q p s n F H
 |0,p,s,F,H,h,kk=>by
  simp only[iP,Option.some.injEq,Prod.mk.injEq]at h;obtain⟨rfl,rfl,rfl,rfl⟩:=h;exact kk
 | k+1,.code c,s,F,H,h,kk=>by
  unfold iP at h;split at h
  ·exact Kb (eg hT k _ _ _ _ h kk)
  ·exact Ea (eg hT k _ _ _ _ h kk)
  ·exact GX (eg hT k _ _ _ _ h kk)
  ·exact go_ret (eg hT k _ _ _ _ h kk)
  ·exact Hv (eg hT k _ _ _ _ h kk)
  ·split at h
   ·exact Gn ‹_› (eg hT k _ _ _ _ h kk)
   ·exact EU ‹_› (eg hT k _ _ _ _ h kk)
   ·cases h
  ·exact CM (eg hT k _ _ _ _ h kk)
  ·cases h
 | k+1,.ops all rest,s,F,H,h,kk=>by
  unfold iP at h;split at h
  ·exact Lb (eg hT k _ _ _ _ h kk)
  ·split at h
   ·obtain⟨F1,H1,h1,h2⟩:=PO (P:=P) (K:=K) (Q:=Q) (s:=s) (n:=n) hT ‹_› h;exact h2 (eg hT k _ _ _ _ h1 kk)
   ·rw[Fm.puto_eq]at h;exact Li ‹_› (eg hT k _ _ _ _ h kk)
   ·cases h
 | k+1,.ex e,s,F,H,h,kk=>by
  unfold iP at h;split at h
  ·cases h
  ·split at h
   ·exact Ie (eg hT k _ _ _ _ h kk)
   ·exact FX (eg hT k _ _ _ _ h kk)
   ·exact FP (eg hT k _ _ _ _ h kk)
   ·cases h
  ·split at h
   ·exact Fs (eg hT k _ _ _ _ h kk)
   ·split at h
    ·exact Fp ‹_› (eg hT k _ _ _ _ h kk)
    ·exact DZ ‹_› (eg hT k _ _ _ _ h kk)
   ·exact Gl (eg hT k _ _ _ _ h kk)
   ·cases h
  ·cases h
 |k+1,.drw ..,s,F,H,h,kk=>by simp[iP]at h
variable{all:Array Oper}{rest:List Oper}{o:Oper}{L:List Nat}{m fuel:Nat}{listed:Array Bool}
theorem CS(h:(match Region.ready .any all listed with|[j]=>Nat.beq i j|_=>false)=true):Region.ready .any all listed=[i]:=by
 split at h
 ·rename_i j G;rw[G,Nat.eq_of_beq_eq_true h]
 ·cases h
theorem qz (hT:TabOk P T):∀(is:List (Nat×Nat)) (fuel:Nat) (listed:Array Bool) (F:Fm) (H:Hp),Fv all m is listed=true→rS T all L is F H=some (F',H')→Go P K Q (.drw all L m fuel (JS is listed)) s n F' H'→Go P K Q (.drw all L m (fuel+is.length) listed) s n F H
 |[],fuel,listed,F,H,hc,hr,k=>by
  simp only[rS,Option.some.injEq,Prod.mk.injEq]at hr;obtain⟨rfl,rfl⟩:=hr;exact k
 | (i, f)::r,fuel,listed,F,H,hc,hr,k=>by
  simp only[Fv,Bool.and_eq_true]at hc;obtain⟨hc1,hc2⟩:=hc;show Go P K Q (.drw all L m (fuel+r.length+1) listed) s n F H;unfold rS at hr;split at hr
  ·rename_i o ho;split at hr
   ·rename_i hw;rw[Fm.puto_eq]at hr;have ih:=qz hT r fuel _ _ _ hc2 hr k;have single:(match Region.ready .any all listed with|[j]=>Nat.beq i j|_=>false)=true→Go P K Q (.drw all L m (fuel+r.length+1) listed) s n F H:=λhx=>go_d1S (CS hx) ho hw ih;split at hc1
    ·simp only[Bool.and_eq_true,Bool.not_eq_true']at hc1;exact JU hc1.1.1 ho hc1.1.2 hc1.2 hw ih
    ·simp only[Bool.and_eq_true,Bool.not_eq_true']at hc1;exact JU hc1.1.1.1.1 ho hc1.1.1.1.2 hc1.1.1.2 hw ih
    ·simp only[Bool.and_eq_true]at hc1;exact single hc1.1
    ·exact single hc1
   ·rename_i hw;split at hr
    ·split at hr
     ·rename_i v hv;rw[Fm.puto_eq]at hr;have ih:=qz hT r fuel _ _ _ hc2 hr k;simp only[Bool.and_eq_true,Bool.not_eq_true']at hc1;exact Nh hT hc1.1.1 ho hc1.1.2 hc1.2 hw hv ih
     ·cases hr
    ·split at hr
     ·rename_i id hid;split at hr
      ·rename_i hL;split at hr
       ·rename_i v ed hv;rw[Fm.puto_eq]at hr;have ih:=qz hT r fuel _ _ _ hc2 hr k;simp only[Bool.and_eq_true,Bool.not_eq_true']at hc1;exact IA hT hc1.1.1.1.1 hc1.1.2 hc1.2 ho hc1.1.1.1.2 hc1.1.1.2 hw hid hL hv ih
       ·cases hr
      ·cases hr
     ·cases hr
    ·rename_i h2 h3;have hs:(match Region.ready .any all listed with|[j]=>Nat.beq i j|_=>false)=true∧(Nat.beq f 1=true→(listed.setIfInBounds i true).getD m false=true):=by
      split at hc1
      ·exact absurd rfl h2
      ·exact absurd rfl h3
      ·simp only[Bool.and_eq_true]at hc1;exact⟨hc1.1,λ_=>hc1.2⟩
      ·rename_i h1;exact⟨hc1,λhb=>absurd (Nat.eq_of_beq_eq_true hb) h1⟩
     have hrd:=CS hs.1;split at hr
     ·rename_i v hv;rw[Fm.puto_eq]at hr;have ih:=qz hT r fuel _ _ _ hc2 hr k;exact Kv hrd ho hw (λS w ρ a hr hF=>ye hT hr hF hv) ih
     ·split at hr
      ·rename_i v ed hv;split at hr
       ·rename_i hcl;rw[Hp.ap_eq]at hr;have hcl':((dB H.get L&&ed.clear L)||(listed.setIfInBounds i true).getD m false)=true:=by
         rcases zH hcl with h|h
         ·rw[h];rfl
         ·rw[hs.2 h];simp
        cases v with
        |none=>
         simp only[Fm.puto_eq]at hr;exact DU hrd ho hw (λS w ρ a hr hF=>zA hT hr hF H.get_free hv) (vN hv) hcl' (qz hT r fuel _ _ _ hc2 hr k)
        |some v=>
         simp only[Fm.puto_eq]at hr;exact DU hrd ho hw (λS w ρ a hr hF=>zA hT hr hF H.get_free hv) (vN hv) hcl' (qz hT r fuel _ _ _ hc2 hr k)
       ·cases hr
      ·cases hr
   ·cases hr
  ·cases hr
theorem uB{d:Nat}{v O:V}(U:F.get d=some v)(hs:cJ v O)(k:Go P K Q p s n (F.set d (some O)) H):Go P K Q p s n F H:=λS w ρ a hr hi J=>by
 refine k S w ρ a hr hi ⟨J.size,J.defers,J.gl,by have :=J.len;simpa using this,λi u G=>?_⟩;rw[Fm.get_eq,List.getElem?_set]at G;split at G
 ·rename_i e;subst e;split at G
  ·simp only[Option.bind_some,id_eq,Option.some.injEq]at G;subst G;obtain⟨x,h1,h2⟩:=J.get d v U;exact⟨x,h1,hs _ _ _ _ h2⟩
  ·cases G
 ·exact J.get i u (by rw[Fm.get_eq];exact G)
theorem gB{e:Bool}(d:Nat)(J:F.get d=some (.bool e))(h1:F.put d (some (.bool true)) id=F1)(h2:F.put d (some (.bool false)) id=F2)(kT:e=true→Go P K Q p s n F1 H)(kF:e=false→Go P K Q p s n F2 H):Go P K Q p s n F H:=by
 rw[Fm.put_eq]at h1 h2;subst h1 h2;cases G:e with
 |true=>exact uB J (by rw[G];exact cJ.rfl) (kT G)
 |false=>exact uB J (by rw[G];exact cJ.rfl) (kF G)
theorem gT{e:Bool}(d:Nat)(G:F.get d=some (.bool e))(J:e=true)(h1:F.put d (some (.bool true)) id=F1)(k:Go P K Q p s n F1 H):Go P K Q p s n F H:=by
 rw[Fm.put_eq]at h1;subst h1;exact uB G (by rw[J];exact cJ.rfl) k
theorem gF{e:Bool}(d:Nat)(G:F.get d=some (.bool e))(J:e=false)(h1:F.put d (some (.bool false)) id=F1)(k:Go P K Q p s n F1 H):Go P K Q p s n F H:=by
 rw[Fm.put_eq]at h1;subst h1;exact uB G (by rw[J];exact cJ.rfl) k
theorem gV{v:V}(d:Nat)(G:V)(J:F.get d=some v)(O:v=G)(h1:F.put d (some G) id=F1)(k:Go P K Q p s n F1 H):Go P K Q p s n F H:=by
 rw[Fm.put_eq]at h1;subst h1;exact uB J (by rw[O];exact cJ.rfl) k
theorem ao{m:Int}(h:-9223372036854775808≤m∧m≤9223372036854775807)(e:m=l):V.int .i64 (IntKind.i64.wrap m)=.int .i64 l:=by
 subst e;rw[IntWalk.i64_in _ (by omega)]
def slT(T:Tab)(t:TypeId):Option (TypeId×Nat):=match T.ty t with
 |some ⟨_,_,_,.sl e⟩=>match T.ty e with
  |some ⟨sz,_,_,_⟩=>some (e,sz)
  |none=>none
 |_=>none
theorem rD(G:TabOk P T)(h:slT T t=some (e,sz)):P.underlying t=some (.slice e)∧jt P e=some sz:=by
 unfold slT at h;split at h
 ·rename_i ht;split at h
  ·rename_i J;simp only[Option.some.injEq,Prod.mk.injEq]at h;obtain⟨rfl,rfl⟩:=h;exact⟨(G.ty _ _ ht).sl rfl,(G.ty _ _ J).size⟩
  ·cases h
 ·cases h
theorem yIR(J:TabOk P T){y:Operand}{v:V}(ht:slT T t=some (e,sz))(hx:aM F x=some (.row sz els))(hy:aM F y=some (.int .i64 (i:Int)))(hi:els[i]?=some v):∀S w ρ a,HRel S w ρ H.get→FRel S w ρ a n F→Yld P S w ρ a ty (.indexAddr t x y) (.box v.cells 0):=λS w ρ a hr G=>
 p_idxR G.fr (rD J ht).1 (rD J ht).2 (au G hx) (au G hy) hi
theorem yIO(J:TabOk P T){O:TypeId}{y:Operand}{id:Nat}(ht:slT T t=some (e,sz))(hx:aM F x=some (.sl id))(U:H.get id=.row O sz els)(hy:aM F y=some (.int .i64 (i:Int)))(hi:i<els.length):∀S w ρ a,HRel S w ρ H.get→FRel S w ρ a n F→Yld P S w ρ a ty (.indexAddr t x y) (.el id sz i 0):=λS w ρ a hr G=>
 p_idxO hr U G.fr (rD J ht).1 (rD J ht).2 (au G hx) (au G hy) hi
theorem gY{v:V}(hy:∀S w ρ a,HRel S w ρ H.get→FRel S w ρ a n F→Yld P S w ρ a o.type o.op v)(G:bA F all o.guard=some true)(h1:F.puto o.dst (some v) id=F1)(k:Go P K Q (.ops all rest) s n F1 H):Go P K Q (.ops all (o::rest)) s n F H:=by
 rw[Fm.puto_eq]at h1;subst h1;exact go_opY G hy k
mutual
def mapV(f:V→V):V→V
 |.agg cs=>.agg (mapVs f cs)
 |.tup cs=>.tup (mapVs f cs)
 |.clo fid cs=>.clo fid (mapVs f cs)
 |.sl j=>f (.sl j)
 |.int k n=>f (.int k n)
 |.bool b=>f (.bool b)
 |.str l=>f (.str l)
 |.nilp=>f .nilp
 |.nils=>f .nils
 |.raw x=>f (.raw x)
 |.ptr i o=>f (.ptr i o)
 |.el i sz j o=>f (.el i sz j o)
 |.box cs o=>f (.box cs o)
 |.row sz els=>f (.row sz els)
 |.lk els=>f (.lk els)
 |.np i=>f (.np i)
def mapVs(f:V→V):List V→List V
 |[]=>[]
 |v::r=>mapV f v::mapVs f r
end
mutual
theorem VRel.mapV{S S':Nat→Prop}{w:World}{ρ:Nat→Option Value}{f:V→V}(hf:∀v x,VRel S w ρ v x→VRel S' w ρ (f v) x):∀{v:V} {x:Value},VRel S w ρ v x→VRel S' w ρ (mapV f v) x
 |.int _ _,x,h=>by simp only[Go.Proofs.YtomplbgchbfjpaaGreatDoor.mapV];exact hf _ _ h
 |.bool _,x,h=>by simp only[Go.Proofs.YtomplbgchbfjpaaGreatDoor.mapV];exact hf _ _ h
 |.str _,x,h=>by simp only[Go.Proofs.YtomplbgchbfjpaaGreatDoor.mapV];exact hf _ _ h
 |.nilp,x,h=>by simp only[Go.Proofs.YtomplbgchbfjpaaGreatDoor.mapV];exact hf _ _ h
 |.nils,x,h=>by simp only[Go.Proofs.YtomplbgchbfjpaaGreatDoor.mapV];exact hf _ _ h
 |.raw _,x,h=>by simp only[Go.Proofs.YtomplbgchbfjpaaGreatDoor.mapV];exact hf _ _ h
 |.box _ _,x,h=>by simp only[Go.Proofs.YtomplbgchbfjpaaGreatDoor.mapV];exact hf _ _ h
 |.row _ _,x,h=>by simp only[Go.Proofs.YtomplbgchbfjpaaGreatDoor.mapV];exact hf _ _ h
 |.lk _,x,h=>by simp only[Go.Proofs.YtomplbgchbfjpaaGreatDoor.mapV];exact hf _ _ h
 |.ptr _ _,x,h=>by simp only[Go.Proofs.YtomplbgchbfjpaaGreatDoor.mapV];exact hf _ _ h
 |.el _ _ _ _,x,h=>by simp only[Go.Proofs.YtomplbgchbfjpaaGreatDoor.mapV];exact hf _ _ h
 |.sl j,x,h=>by simp only[Go.Proofs.YtomplbgchbfjpaaGreatDoor.mapV];exact hf _ _ h
 |.np j,x,h=>by simp only[Go.Proofs.YtomplbgchbfjpaaGreatDoor.mapV];exact hf _ _ h
 |.agg cs,x,h=>by
  simp only[Go.Proofs.YtomplbgchbfjpaaGreatDoor.mapV,VRel]at h⊢;obtain⟨xs,h1,h2⟩:=h;exact⟨xs,h1,LRel.mapV hf h2⟩
 |.tup cs,x,h=>by
  simp only[Go.Proofs.YtomplbgchbfjpaaGreatDoor.mapV,VRel]at h⊢;obtain⟨xs,h1,h2⟩:=h;exact⟨xs,h1,LRel.mapV hf h2⟩
 |.clo fid cs,x,h=>by
  simp only[Go.Proofs.YtomplbgchbfjpaaGreatDoor.mapV,VRel]at h⊢;obtain⟨xs,h1,h2⟩:=h;exact⟨xs,h1,LRel.mapV hf h2⟩
theorem LRel.mapV{S S':Nat→Prop}{w:World}{ρ:Nat→Option Value}{f:V→V}(hf:∀v x,VRel S w ρ v x→VRel S' w ρ (f v) x):∀{v:List V} {x:List Value},LRel S w ρ v x→LRel S' w ρ (mapVs f v) x
 |[],x,h=>by simp only[mapVs,LRel]at h⊢;exact h
 |v::r,x,h=>by
  simp only[mapVs,LRel]at h⊢;obtain⟨y,ys,h1,h2,h3⟩:=h;exact⟨y,ys,h1,VRel.mapV hf h2,LRel.mapV hf h3⟩
end
def rM(f:V→V):Fm→Fm
 |[]=>[]
 |none::r=>none::rM f r
 |some v::r=>some (mapV f v)::rM f r
theorem Be{f:V→V}:∀(F:Fm) (i:Nat),(rM f F).get i=(F.get i).map (mapV f)
 |[],i=>by simp[rM,Fm.get]
 |none::r,0=>by simp[rM,Fm.get]
 |some v::r,0=>by simp[rM,Fm.get]
 |none::r,i+1=>by simp[rM,Fm.get,Be r i]
 |some v::r,i+1=>by simp[rM,Fm.get,Be r i]
theorem AB{f:V→V}:∀(F:Fm),(rM f F).length=F.length
 |[]=>rfl
 |none::r=>by simp[rM,AB r]
 |some v::r=>by simp[rM,AB r]
def rC(f:V→V)(id:Nat):List (Nat×Ob)→List (Nat×Ob)
 |[]=>[]
 |(j,o)::r=>match Nat.beq j id with
  |true=>rC f id r
  |false=>match o with
   |.var t cs=>(j,.var t (mapVs f cs))::rC f id r
   |o=>(j,o)::rC f id r
theorem zt{f:V→V}{id i:Nat}:∀{l:List (Nat×Ob)},aE (rC f id l) i=if i=id then .gone else match aE l i with|.var t cs=>.var t (mapVs f cs)|o=>o
 |[]=>by simp[rC,aE]
 | (j,o)::r=>by
  have ih:=zt (f:=f) (id:=id) (i:=i) (l:=r);simp only[rC];by_cases hj:j=id
  ·subst hj;rw[nbT];simp only[];rw[ih];by_cases hi:i=j
   ·simp[hi]
   ·rw[if_neg hi,if_neg hi];simp only[aE,nbF (Ne.symm hi)]
  ·rw[nbF hj];simp only[];by_cases hi:j=i
   ·subst hi;rw[if_neg hj];cases o<;>simp only[aE,nbT]
   ·have e2:aE ((j,o)::r) i=aE r i:=by simp only[aE,nbF hi]
    rw[e2,←ih];cases o<;>simp only[aE,nbF hi]
theorem go_frz{f:V→V}{id:Nat}(hid:H.get id≠.free)(hf:∀S w ρ,HRel S w ρ H.get→∀v x,VRel S w ρ v x→VRel (λb=>S b∨own ρ id (H.get id) b) w ρ (f v) x)(h1:rM f F=F1)(h2:(⟨H.nx,rC f id H.es⟩:Hp)=H1)(k:Go P K Q p s n F1 H1):Go P K Q p s n F H:=λS w ρ a hr hi U=>by
 subst h1 h2;obtain⟨g1,g2⟩:=gx (id:=id) hr;have hlt:id<H.nx:=by
  rcases Nat.lt_or_ge id H.nx with h|h
  ·exact h
  ·exfalso;apply hid;unfold Hp.get;have :Nat.blt id H.nx=false:=by cases hb:Nat.blt id H.nx;rfl;simp[Nat.blt_eq]at hb;omega
   rw[this]
 have hg:∀i,(⟨H.nx,rC f id H.es⟩:Hp).get i=if i=id then .gone else match H.get i with|.var t cs=>.var t (mapVs f cs)|o=>o:=λi=>by
  unfold Hp.get;by_cases hi:i=id
  ·subst hi;simp only[nlT hlt,if_true,zt]
  ·simp only[if_neg hi];cases hb:Nat.blt i H.nx
   ·rfl
   ·simp only[zt,if_neg hi]
 have Z:∀i,i≠id→own ρ i ((⟨H.nx,rC f id H.es⟩:Hp).get i)=own ρ i (H.get i):=λi G=>by
  rw[hg i,if_neg G];cases H.get i<;>rfl
 have hhr:HRel (λb=>S b∨own ρ id (H.get id) b) w ρ (⟨H.nx,rC f id H.es⟩:Hp).get:=by
  have O:∀i b,own ρ i ((⟨H.nx,rC f id H.es⟩:Hp).get i) b→i≠id∧own ρ i (H.get i) b:=λi b hb=>by
   by_cases G:i=id
   ·subst G;rw[hg i,if_pos rfl]at hb;exact hb.elim
   ·rw[Z i G]at hb;exact⟨G,hb⟩
  refine⟨λi=>?_,λi b hb=>?_,λi j b hbi hbj=>hr.dis i j b (O i b hbi).2 (O j b hbj).2,g1.slt⟩
  ·rw[hg i];by_cases G:i=id
   ·rw[if_pos G];trivial
   ·rw[if_neg G];have J:=g1.ob i;rw[dj _ _ G]at J;have h1:=hr.ob i;cases ho:H.get i with
    |var t cs=>
     rw[ho]at h1;obtain⟨b,xs,q1,q2,q3⟩:=h1;exact⟨b,xs,q1,q2,q3.mapV (hf S w ρ hr)⟩
    |_=>rw[ho]at J;exact J
  ·have :=O i b hb;exact g1.sep i b (by rw[dj _ _ this.1];exact this.2)
 have G:Inv K (λb=>S b∨own ρ id (H.get id) b) w ρ (⟨H.nx,rC f id H.es⟩:Hp).get:=by
  have J:=hi.frz hr id;refine⟨J.chg,J.s0,J.s1,λi b hb=>?_,J.pin⟩;by_cases G:i=id
  ·subst G;rw[hg i,if_pos rfl]at hb;exact hb.elim
  ·rw[Z i G]at hb;exact hi.ow i b hb
 have :=k _ w ρ a hhr G ⟨U.size,U.defers,λp hp=>(U.gl p hp).up (gx (id:=id) hr).2.z,by rw[AB];exact U.len,λi u hu=>by
  rw[Be]at hu;obtain⟨v,h3,h4⟩:=Option.map_eq_some_iff.1 hu;obtain⟨x,h5,h6⟩:=U.get i v h3;exact⟨x,h5,by rw[←h4];exact h6.mapV (hf S w ρ hr)⟩⟩
 cases p with
 |drw all L m left listed=>exact λhs=>Aq (xT (λb hb=>.inl hb) Agree.refl) (λx _ h=>h) _ _ _ _ (this hs)
 |code c=>exact this
 |ops all rest=>exact this
 |ex e=>exact this
def fzR(id sz:Nat)(els:List V):V→V
 |.sl j=>match Nat.beq j id with
  |true=>.row sz els
  |false=>.sl j
 |v=>v
def fzP(id:Nat)(cs:List V):V→V
 |.ptr j o=>match Nat.beq j id with
  |true=>.box cs o
  |false=>.ptr j o
 |v=>v
theorem gFR(id:Nat)(J:H.get id=.row e sz els)(G:pureL els=true)(h1:rM (fzR id sz els) F=F1)(h2:(⟨H.nx,rC (fzR id sz els) id H.es⟩:Hp)=H1)(k:Go P K Q p s n F1 H1):Go P K Q p s n F H:=
 go_frz (f:=fzR id sz els) (by rw[J];simp) (λS w ρ hr v x hx=>by
  unfold fzR;split
  ·split
   ·rename_i hb;have :=Nat.eq_of_beq_eq_true hb;subst this;exact uv hr J G hx
   ·exact hx.up (gx hr).2
  ·exact hx.up (gx hr).2) h1 h2 k
theorem gFP(id:Nat)(J:H.get id=.var t cs)(G:pureL cs=true)(h1:rM (fzP id cs) F=F1)(h2:(⟨H.nx,rC (fzP id cs) id H.es⟩:Hp)=H1)(k:Go P K Q p s n F1 H1):Go P K Q p s n F H:=
 go_frz (f:=fzP id cs) (by rw[J];simp) (λS w ρ hr v x hx=>by
  unfold fzP;split
  ·split
   ·rename_i hb;have :=Nat.eq_of_beq_eq_true hb;subst this;exact IV hr J G hx
   ·exact hx.up (gx hr).2
  ·exact hx.up (gx hr).2) h1 h2 k
def At(K:Ctx)(n:Nat)(F:Fm)(H:Hp)(a:Act)(w:World):Prop:=∃S ρ,HRel S w ρ H.get∧Inv K S w ρ H.get∧FRel S w ρ a n F
def mkF:Nat→Nat→List (Nat×V)→Fm
 |0,_,_=>[]
 |n+1,i,[]=>none::mkF n (i+1) []
 |n+1,i,(j,v)::r=>match Nat.beq i j with
  |true=>some v::mkF n (i+1) r
  |false=>none::mkF n (i+1) ((j,v)::r)
end
mutual
def vEq:V→V→Bool
 |.int k n,v=>match v with
  |.int k' n'=>kEq k k'&&iEq n n'
  |_=>false
 |.bool b,v=>match v with
  |.bool c=>b==c
  |_=>false
 |.str l,v=>match v with
  |.str l'=>lEq l l'
  |_=>false
 |.nilp,v=>match v with
  |.nilp=>true
  |_=>false
 |.nils,v=>match v with
  |.nils=>true
  |_=>false
 |.ptr i o,v=>match v with
  |.ptr j p=>Nat.beq i j&&Nat.beq o p
  |_=>false
 |.el i z k o,v=>match v with
  |.el i' z' k' o'=>Nat.beq i i'&&Nat.beq z z'&&Nat.beq k k'&&Nat.beq o o'
  |_=>false
 |.sl i,v=>match v with
  |.sl j=>Nat.beq i j
  |_=>false
 |.np i,v=>match v with
  |.np j=>Nat.beq i j
  |_=>false
 |.row z cs,v=>match v with
  |.row z' cs'=>Nat.beq z z'&&vEqL cs cs'
  |_=>false
 |.agg cs,v=>match v with
  |.agg cs'=>vEqL cs cs'
  |_=>false
 |.tup cs,v=>match v with
  |.tup cs'=>vEqL cs cs'
  |_=>false
 |.raw _,_=>false
 |.box _ _,_=>false
 |.clo _ _,_=>false
 |.lk _,_=>false
def vEqL:List V→List V→Bool
 |[],vs=>match vs with
  |[]=>true
  |_::_=>false
 |v::r,vs=>match vs with
  |u::q=>vEq v u&&vEqL r q
  |[]=>false
end
mutual
theorem vEq_eq:∀{v u:V},vEq v u=true→v=u
 | .int k n,u,h=>by
  unfold vEq at h;split at h
  ·rename_i k' n';simp only[Bool.and_eq_true,yN,beq_iff_eq]at h;obtain⟨h1,h2⟩:=h;have :k=k':=by
    unfold kEq at h1;split at h1<;>first|rfl|cases h1
   rw[this,h2]
  ·cases h
 |.bool b,u,h=>by
  unfold vEq at h;split at h
  ·rw[beq_iff_eq]at h;rw[h]
  ·cases h
 |.str l,u,h=>by
  unfold vEq at h;split at h
  ·rw[xm,beq_iff_eq]at h;rw[h]
  ·cases h
 |.nilp,u,h=>by
  unfold vEq at h;split at h
  ·rfl
  ·cases h
 |.nils,u,h=>by
  unfold vEq at h;split at h
  ·rfl
  ·cases h
 | .ptr i o,u,h=>by
  unfold vEq at h;split at h
  ·simp only[Bool.and_eq_true,Nat.beq_eq]at h;obtain⟨rfl,rfl⟩:=h;rfl
  ·cases h
 | .el i z k o,u,h=>by
  unfold vEq at h;split at h
  ·simp only[Bool.and_eq_true,Nat.beq_eq]at h;obtain⟨⟨⟨rfl,rfl⟩,rfl⟩,rfl⟩:=h;rfl
  ·cases h
 |.sl i,u,h=>by
  unfold vEq at h;split at h
  ·rw[Nat.beq_eq]at h;rw[h]
  ·cases h
 |.np i,u,h=>by
  unfold vEq at h;split at h
  ·rw[Nat.beq_eq]at h;rw[h]
  ·cases h
 | .row z cs,u,h=>by
  unfold vEq at h;split at h
  ·simp only[Bool.and_eq_true,Nat.beq_eq]at h;obtain⟨rfl,h2⟩:=h;rw[vEqL_eq h2]
  ·cases h
 |.agg cs,u,h=>by
  unfold vEq at h;split at h
  ·rw[vEqL_eq h]
  ·cases h
 |.tup cs,u,h=>by
  unfold vEq at h;split at h
  ·rw[vEqL_eq h]
  ·cases h
 |.raw _,u,h=>by unfold vEq at h;cases h
 |.box _ _,u,h=>by unfold vEq at h;cases h
 |.clo _ _,u,h=>by unfold vEq at h;cases h
 |.lk _,u,h=>by unfold vEq at h;cases h
theorem vEqL_eq:∀{v u:List V},vEqL v u=true→v=u
 |[],u,h=>by
  unfold vEqL at h;split at h
  ·rfl
  ·cases h
 | v::r,u,h=>by
  unfold vEqL at h;split at h
  ·simp only[Bool.and_eq_true]at h;rw[vEq_eq h.1,vEqL_eq h.2]
  ·cases h
end
def fmB (σ:List Nat):Fm→Fm→Bool
 |[],F'=>match F' with
  |[]=>true
  |_::_=>false
 |x ::r,F'=>match F' with
  |[]=>false
  |y::r'=>(match y with
   |none=>true
   |some u=>match x with
    |some v=>vEq v (u.ren σ)
    |none=>false)&&fmB σ r r'
theorem KR{σ:List Nat}:∀{F F':Fm},fmB σ F F'=true→leF σ F F'∧F.length=F'.length
 |[],F',h=>by
  unfold fmB at h;split at h
  ·simp[leF]
  ·cases h
 | x ::r,F',h=>by
  unfold fmB at h;split at h
  ·cases h
  ·rename_i y r';simp only[Bool.and_eq_true]at h;obtain⟨h1,h2⟩:=h;obtain⟨g1,g2⟩:=KR h2;refine⟨?_,by simp[g2]⟩;cases y with
   |none=>simp only[leF];exact g1
   | some u=>
    simp only at h1;split at h1
    ·rename_i v;simp only[leF];exact⟨⟨v,rfl,cJ.of_eq (vEq_eq h1)⟩,g1⟩
    ·cases h1
theorem aK.of_eq{v u:List V}(h:v=u):aK v u:=h▸aK.rfl
def obB(o:Ob):Ob→Bool
 |.gone=>true
 |.var t cs=>match o with
  |.var G cs'=>Nat.beq G t&&vEqL cs' cs
  |_=>false
 |.row e z els=>match o with
  |.row J O els'=>Nat.beq J e&&Nat.beq O z&&vEqL els' els
  |_=>false
 |_=>false
theorem Pg{o:Ob}(h:obB o o'=true):nv o o':=by
 unfold obB at h;split at h
 ·cases o<;>simp[nv]
 ·split at h
  ·simp only[Bool.and_eq_true,Nat.beq_eq]at h;obtain⟨rfl,h2⟩:=h;exact⟨rfl,aK.of_eq (vEqL_eq h2)⟩
  ·cases h
 ·split at h
  ·simp only[Bool.and_eq_true,Nat.beq_eq]at h;obtain⟨⟨rfl,rfl⟩,h2⟩:=h;exact⟨rfl,rfl,vEqL_eq h2⟩
  ·cases h
 ·cases h
def hpB(σ:List Nat)(H:Hp):List (Nat×Ob)→Bool
 |[]=>true
 |(j,o)::r=>(match atN σ j with
  |some i=>obB (H.get i) (o.ren σ)
  |none=>false)&&hpB σ H r
theorem KX{σ:List Nat}{H:Hp}:∀{l:List (Nat×Ob)},hpB σ H l=true→leH σ H l
 |[],_=>by simp[leH]
 | (j,o)::r,h=>by
  simp only[hpB,Bool.and_eq_true]at h;obtain⟨h1,h2⟩:=h;simp only[leH];refine⟨?_,KX h2⟩;split at h1
  ·rename_i i hi;exact⟨i,hi,Pg h1⟩
  ·cases h1
def RC(k i:Nat):Nat:=match Nat.beq i k with
 |true=>k+1
 |false=>match Nat.beq i (k+1)with
  |true=>k
  |false=>i
def Nl(k:Nat):Nat→List Nat→List Nat
 |0,acc=>acc
 |n+1,acc=>jj (RC k n) λx=>Nl k n (x::acc)
def Gb(k:Nat)(F:Fm)(H:Hp)(F':Fm)(H':Hp):Bool:=
 listK (Nl k H'.nx []) λσ=>fmB σ F F'&&hpB σ H H'.es&&(dx σ&&Nat.ble σ.length H'.nx&&yi σ (List.range k))
variable{P:Program}{H:Hp}{k:Nat}
theorem go_alike{K:Ctx}{Q:Exit→Act→World→Prop}{s:List EI}{n:Nat}{F F':Fm}{H':Hp}{e:Exit}(h:Gb k F H F' H'=true)(G:∀id x,K.pin id=some x→id<k)(c:Go P K Q (.ex e) s n F' H'):Go P K Q (.ex e) s n F H:=λS w ρ a hr hi hf=>by
 unfold Gb at h;rw[dG]at h;simp only[Bool.and_eq_true]at h;obtain⟨⟨h1,h2⟩,⟨J,O⟩,U⟩:=h;obtain⟨Z,g2⟩:=KR h1;refine go_sub _ (List.range k) rfl (λid x h=>List.mem_range.2 (G id x h)) Z (KX h2) ?_ c S w ρ a hr hi hf;simp only[Bool.and_eq_true];exact⟨⟨⟨J,O⟩,U⟩,by rw[←g2];exact Nat.ble_eq_true_of_le hf.len⟩
inductive Rs where
 |ok (e:Bool) (F:Fm) (H:Hp)
 |pt (p:EP) (s:List EI) (F:Fm) (H:Hp)
 |er (n m:Nat)
def QF:V→List Nat→List Nat
 |.ptr id _,acc=>id::acc
 |.el id _ _ _,acc=>id::acc
 |.sl id,acc=>id::acc
 |_,acc=>acc
def ME:List V→List Nat→List Nat
 |[],acc=>acc
 |v::r,acc=>ME r (QF v acc)
def Rg:V→List Nat→List Nat
 |.agg cs,acc=>ME cs acc
 |v,acc=>QF v acc
def xR:List V→List Nat→List Nat
 |[],acc=>acc
 |.tup vs::r,acc=>xR r (vs.foldl (λacc v=>Rg v acc) acc)
 |v::r,acc=>xR r (Rg v acc)
def mv(i:Nat):List Nat→Bool
 |[]=>false
 |j::r=>match Nat.beq i j with
  |true=>true
  |false=>mv i r
def tB(H:Hp):Nat→List Nat→List Nat→List Nat
 |0,_,acc=>acc
 |_+1,[],acc=>acc
 |n+1,id::r,acc=>match mv id acc with
  |true=>tB H n r acc
  |false=>match H.get id with
   |.var _ cs=>tB H n (ME cs r) (id::acc)
   |_=>tB H n r (id::acc)
def zM{α:Type}(R:List Nat):List (Nat×Ob)→(List (Nat×Ob)→α)→α
 |[],c=>c []
 |(i,o)::r,c=>match mv i R with
  |true=>zM R r λG=>c ((i,o)::G)
  |false=>zM R r c
def xQ{α:Type}(nx:Nat)(R:List Nat):List (Nat×Ob)→(List (Nat×Ob)→α)→α
 |[],c=>c []
 |(i,o)::r,c=>match !mv i R&&Nat.blt i nx with
  |true=>match o with
   |.free=>xQ nx R r λG=>c ((i,.gone)::G)
   |o=>xQ nx R r λG=>c ((i,o)::G)
  |false=>xQ nx R r c
def IF {α:Type} (lo:Nat) (H:Hp) (v:V) (c:V→Hp→α):α:=match v with
 |.sl id=>match Nat.ble lo id with
  |true=>match H.get id with
   |.row _ sz els=>match pureL els with
    |true=>Cf id H.es λes=>c (.row sz els) ⟨H.nx,es⟩
    |false=>c v H
   |_=>c v H
  |false=>c v H
 |_=>c v H
def JP{α:Type}(lo:Nat)(H:Hp):List V→(List V→Hp→α)→α
 |[],c=>c [] H
 |v::r,c=>IF lo H v λG H'=>JP lo H' r λJ H''=>c (G::J) H''
def MW(lo:Nat)(H:Hp)(v:V)(c:V→Hp→α):α:=match v with
 |.agg cs=>JP lo H cs λcs H'=>c (.agg cs) H'
 |v=>IF lo H v c
def ES{α:Type}(lo:Nat)(H:Hp):List V→(List V→Hp→α)→α
 |[],c=>c [] H
 |v::r,c=>MW lo H v λG H'=>ES lo H' r λJ H''=>c (G::J) H''
def Lr(H:Hp):List Nat→Bool
 |[]=>false
 |i::r=>match H.get i with
  |.row _ _ _=>true
  |_=>Lr H r
def OX(o:Oper):Bool:=match o.op with
 |.store .. =>true
 |_=>false
def Pk(o:Oper):Bool:=match o.op with
 |.alloc .. =>false
 |.box .. =>false
 |.store .. =>false
 |.buildSlice .. =>false
 |.makeSlice .. =>false
 |.call ⟨.builtin .len,_,_⟩=>true
 |.call ⟨.builtin .max,_,_⟩=>true
 |.call .. =>false
 |_=>true
def Ij:Nat→List Oper→Nat
 |i,[]=>i
 |i,o::r=>match OX o with
  |true=>i
  |false=>Ij (i+1) r
def zf (T:Tab) (H:Hp) (all:Array Oper):List Oper→Fm→List Nat→List Nat→List Nat
 |[],_,rd,cl=>rd.filter λi=>!mv i cl
 |o ::r,F,rd,cl=>match bA F all o.guard with
  |some false=>F.puto o.dst (some (.tup [])) λF'=>zf T H all r F' rd cl
  |_ =>match rp T H.get F o.op with
   |some v=>F.puto o.dst (some v) λF'=>zf T H all r F' rd cl
   |none=>match tx F o.op with
    |some id=>match od T H.get F H.nx o.op with
     |some (v,_)=>F.puto o.dst v λF'=>zf T H all r F' (match mv id rd with|true=>rd|false=>id::rd) cl
     |none=>F.puto o.dst none λF'=>zf T H all r F' rd cl
    |none=>match o.op with
     |.call ⟨.value (.func _),⟨args⟩,_⟩=>match gz F args with
      |some vs=>F.puto o.dst none λF'=>zf T H all r F' rd (tB H 40 (xR vs []) cl)
      |none=>F.puto o.dst none λF'=>zf T H all r F' rd cl
     |_=>F.puto o.dst none λF'=>zf T H all r F' rd cl
def BQ (F:Fm) (all:Array Oper) (L:List Nat) (m:Nat) (listed:Array Bool):List Nat→Option Nat
 |[]=>none
 |i ::r=>match all[i]? with
  |some o=>match Nat.beq i m with
   |true=>BQ F all L m listed r
   |false=>match Pk o with
    |true=>match Region.free .any all listed i with
     |true=>some i
     |false=>BQ F all L m listed r
    |false=>BQ F all L m listed r
  |none=>none
section
variable(T:Tab)(ih:EP→List EI→Fm→Hp→Rs)
def Jv (keep:Bool) (vs:List V) (fn:Func) (b:Code) (H:Hp) (L:List Nat) (ok:Bool) (c:V→Hp→Rs):Rs:=
 match tB H 40 (xR vs []) []with
 |R => match(dB H.get L&&L.all λi=>!mv i R)||ok with
  |true=>zM R H.es λes1=>match ih (.code b) [] (pE fn.ntmps vs) ⟨H.nx,es1⟩with
   |.ok _ F1 H1=>match uU T H1.get F1 fn.results.toList with
    |some rs=>match Nat.ble H.nx H1.nx with
     |true=>match keep||Lr H R with
      |true=>xQ H.nx R H.es λes2=>c (mD rs) ⟨H1.nx,H1.es++es2⟩
      |false=>ES H.nx H1 rs λrs H2=>match tB H2 60 (xR rs R) []with
       |R2=>zM R2 H2.es λes3=>xQ H.nx R H.es λes2=>c (mD rs) ⟨H2.nx,es3++es2⟩
     |false=>.er 1 0
    |none=>.er 2 0
   |.er n m=>.er n m
   |.pt .. =>.er 3 0
  |false=>.er 4 0
def xO (F:Fm) (H:Hp) (L:List Nat) (ok:Bool) (o:Oper) (c:Option V→Hp→Rs):Rs:=
 match rp T H.get F o.op with
 |some v=>c (some v) H
 |none =>match jj H.nx λnid=>od T H.get F nid o.op with
  |some (v,ed)=>match(dB H.get L&&ed.clear L)||ok with
   |true=>H.ap ed λH'=>match v with
    |some v=>c (some v) H'
    |none=>c (some (.tup [])) H'
   |false=>.er 5 0
  |none =>match o.op with
   |.call ⟨.value (.func fid),⟨args⟩,_⟩=>match gz F args with
    |some vs=>match T.nat fid vs with
     |some v=>c (some v) H
     |none=>match T.fn fid with
      |some fn=>match fn.body with
       |some b=>match Nat.ble vs.length fn.ntmps with
        |true=>Jv T ih (T.keep fid) vs fn b H L ok λv H'=>c (some v) H'
        |false=>.er 6 fid
       |none=>.er 7 fid
      |none=>.er 8 fid
    |none=>.er 9 fid
   |_=>.er (10000+o.type) (match o.dst with|some d=>d|none=>999)
def EZ(l:List Nat)(j:Nat):Bool:=match l with
 |[x]=>Nat.beq x j
 |_=>false
def IOx(x y i:Nat):Nat:=match Nat.beq x i with
 |true=>y
 |false=>match Nat.beq y i with
  |true=>x
  |false=>i
def DG (all:Array Oper) (L:List Nat) (m i:Nat) (o:Oper) (ps:List (Nat×Operand)) (v:V) (s:List EI):Nat→Array Bool→Fm→Hp→Rs
 |left, listed,F,H=>match dB H.get L||(listed.setIfInBounds i true).getD m false with
  |true =>match Region.ready .any all listed with
   |[x]=>match Nat.beq x i with
    |true=>F.puto o.dst (some v) λF'=>ih (.drw all L m left (listed.setIfInBounds i true)) s F' H
    |false=>.er 41 i
   |[x, y]=>match left with
    |0=>.er 42 i
    |left+1=>jj (IOx x y i) λj=>match Nat.beq j i with
     |true=>.er 43 i
     |false=>match all[j]? with
      |some oj=>match EZ (Region.ready .any all (listed.setIfInBounds i true)) j&&DP o.dst oj.dst&&xe oj.dst ps&&(match o.dst with|some t=>(F.get t).isNone|none=>true)with
       |true=>match bA F all oj.guard with
        |some true=>xO T ih F H L ((listed.setIfInBounds j true).getD m false&&((listed.setIfInBounds j true).setIfInBounds i true).getD m false) oj λu H'=>F.puto oj.dst u λF'=>DG all L m i o ps v s left (listed.setIfInBounds j true) F' H'
        |_=>.er 44 i
       |false=>.er 45 i
      |none=>.er 46 i
   |_=>.er 47 i
  |false=>.er 48 i
def wS (T:Tab) (F:Fm) (all:Array Oper):List Nat→Option (Nat×Oper×List (Nat×Operand)×V)
 |[]=>none
 |i ::r=>match all[i]? with
  |some ⟨_,.buildSlice _ _ ⟨ps⟩,_,_,_,none⟩=>match pY F ps with
   |some vs=>match vY T all i vs with
    |some (o,ps',v)=>some (i,o,ps',v)
    |none=>wS T F all r
   |none=>wS T F all r
  |_=>wS T F all r
def MK (all:Array Oper) (L:List Nat) (m left i j:Nat) (listed:Array Bool) (s:List EI) (F:Fm) (H:Hp):Rs:=match all[i]? with
 |some oi=>match all[j]? with
  |some oj=>match bA F all oi.guard with
   |some true=>match bA F all oj.guard with
    |some true=>xO T ih F H L ((listed.setIfInBounds i true).getD m false) oi λui Hi=>F.puto oi.dst ui λFi=>match ih (.drw all L m left (listed.setIfInBounds i true)) [] Fi Hi with
     |.ok false F1 H1=>xO T ih F H L ((listed.setIfInBounds j true).getD m false) oj λuj Hj=>F.puto oj.dst uj λFj=>match ih (.drw all L m left (listed.setIfInBounds j true)) [] Fj Hj with
      |.ok false F2 H2=>match Gb H.nx F2 H2 F1 H1 with
       |true=>ih (.ex .normal) s F1 H1
       |false=>.er 51 i
      |.er a b=>.er a b
      |_=>.er 52 i
     |.er a b=>.er a b
     |_=>.er 53 i
    |_=>.er 54 i
   |_=>.er 55 i
  |none=>.er 56 i
 |none=>.er 57 i
def IL(c:Code)(s:List EI)(F:Fm)(H:Hp):Rs:=match c with
 |.seq x y=>ih (.code x) (.seq y::s) F H
 |.block id c=>ih (.code c) (.blk id::s) F H
 |.skip=>ih (.ex .normal) s F H
 |.ret=>ih (.ex .ret) s F H
 |.exit id=>ih (.ex (.exit id)) s F H
 |.scope c=>ih (.code c) (.scp::s) F H
 |.label _=>ih (.ex .normal) s F H
 |.loop c=>ih (.code c) (.loop c 1000000::s) F H
 |.cond c x y=>match aM F c with
  |some (.bool true)=>ih (.code x) s F H
  |some (.bool false)=>ih (.code y) s F H
  |_=>.er 11 0
 |.region _ ⟨l⟩ false=>ih (.ops ⟨l⟩ l) s F H
 |.region _ ⟨l⟩ true=>match Region.noSelect ⟨l⟩with
  |true=>listK (zf T H ⟨l⟩ l F [] []) λL=>jj (Ij 0 l) λm=>jj l.length λn=>ih (.drw ⟨l⟩ L m n (Array.replicate n false)) s F H
  |false=>.er 13 0
 |_=>.er 14 0
def EC(all:Array Oper)(rest:List Oper)(s:List EI)(F:Fm)(H:Hp):Rs:=match rest with
 |[]=>ih (.ex .normal) s F H
 |o::r=>match bA F all o.guard with
  |some false=>F.puto o.dst (some (.tup [])) λF'=>ih (.ops all r) s F' H
  |some true=>xO T ih F H [] true o λv H'=>F.puto o.dst v λF'=>ih (.ops all r) s F' H'
  |none=>.er 15 0
def JR(e:Exit)(s:List EI)(F:Fm)(H:Hp):Rs:=match s with
 |[]=>match e with
  |.normal=>.ok false F H
  |.ret=>.ok true F H
  |_=>.er 16 0
 |.seq c::s=>match e with
  |.normal=>ih (.code c) s F H
  |.exit i=>ih (.ex (.exit i)) s F H
  |.ret=>ih (.ex .ret) s F H
  |_=>.er 17 0
 |.loop c j::s=>match e with
  |.normal=>match j with
   |0=>.er 18 0
   |j+1=>ih (.code c) (.loop c j::s) F H
  |.exit i=>ih (.ex (.exit i)) s F H
  |.ret=>ih (.ex .ret) s F H
  |_=>.er 19 0
 |.scp::s=>match e with
  |.normal=>ih (.ex .normal) s F H
  |.exit i=>ih (.ex (.exit i)) s F H
  |.ret=>ih (.ex .ret) s F H
  |_=>.er 20 0
 |.blk id::s=>match e with
  |.normal=>ih (.ex .normal) s F H
  |.exit i=>match Nat.beq i id with
   |true=>ih (.ex .normal) s F H
   |false=>ih (.ex (.exit i)) s F H
  |.ret=>ih (.ex .ret) s F H
  |_=>.er 21 0
def Jl (all:Array Oper) (L:List Nat) (m left:Nat) (listed:Array Bool) (s:List EI) (F:Fm) (H:Hp):Rs:=match Region.ready .any all listed with
 |[]=>ih (.ex .normal) s F H
 |i :: R =>match left with
  |0=>.er 22 0
  |left + 1=>match R with
   |[]=>match all[i]? with
    |some o=>match bA F all o.guard with
     |some false=>F.puto o.dst (some (.tup [])) λF'=>ih (.drw all L m left (listed.setIfInBounds i true)) s F' H
     |some true=>xO T ih F H L ((listed.setIfInBounds i true).getD m false) o λv H'=>F.puto o.dst v λF'=>ih (.drw all L m left (listed.setIfInBounds i true)) s F' H'
     |none=>.er (6000+all.size) i
    |none=>.er 24 0
   |_ => match BQ F all L m listed (i::R)with
    |some i=>match all[i]? with
     |some o=>match(Region.ready .any all listed).contains i&&Region.free .any all listed i&&!Nat.beq i m with
      |true=>match bA F all o.guard with
       |some false=>F.puto o.dst (some (.tup [])) λF'=>ih (.drw all L m left (listed.setIfInBounds i true)) s F' H
       |some true=>match rp T H.get F o.op with
        |some v=>F.puto o.dst (some v) λF'=>ih (.drw all L m left (listed.setIfInBounds i true)) s F' H
        |none=>match tx F o.op with
         |some id=>match L.contains id&&zO .any all m i&&!listed.getD m false with
          |true=>match od T H.get F H.nx o.op with
           |some (some v,_)=>F.puto o.dst (some v) λF'=>ih (.drw all L m left (listed.setIfInBounds i true)) s F' H
           |_=>.er (4000+all.size) i
          |false=>.er (2000+all.size) i
         |none=>.er (3000+all.size) i
       |none=>.er (5000+all.size) i
      |false=>.er 29 i
     |none=>.er 30 i
    |none=>match wS T F all (i::R)with
     |some (i,o,ps,v)=>F.puto o.dst none λF'=>DG T ih all L m i o ps v s left listed F' H
     |none=>match R with
      |[j]=>MK T ih all L m left i j listed s F H
      |_=>.er (1000+all.size) i
def Kw(p:EP)(s:List EI)(F:Fm)(H:Hp):Rs:=match p with
 |.code c=>IL T ih c s F H
 |.ops all rest=>EC T ih all rest s F H
 |.ex e=>JR ih e s F H
 |.drw all L m left listed=>Jl T ih all L m left listed s F H
end
def run(T:Tab):Nat→EP→List EI→Fm→Hp→Rs
 |0,p,s,F,H=>.pt p s F H
 |k+1,p,s,F,H=>Kw T (run T k) p s F H
set_option maxRecDepth 100000
def tyL:List (Nat×TD):=[
 (3,⟨1,8,.int .i64 0,.sc⟩),
 (29,⟨4,72,.agg [.int .i64 0,.str [],.nils,.nils],.struct [(0,1,true),(1,1,true),(2,1,true),(3,1,true)]⟩),
 (22,⟨1,24,.nils,.sl 29⟩),
 (9,⟨1,16,.str [],.str⟩),
 (23,⟨1,24,.nils,.sl 3⟩),
 (27,⟨1,24,.nils,.sl 9⟩),
 (58,⟨2,16,.agg [.int .i64 0,.int .i64 0],.struct [(0,1,true),(1,1,true)]⟩),
 (64,⟨5,80,.agg [.bool false,.int .i64 0,.str [],.nils,.nils],.struct [(0,1,true),(1,4,false)]⟩),
 (161,⟨1,24,.nils,.sl 164⟩),
 (5,⟨1,1,.int .u8 0,.sc⟩),
 (88,⟨1,8,.nilp,.sc⟩),
 (36,⟨1,24,.nils,.sl 47⟩),
 (47,⟨3,40,.agg [.int .i64 0,.nils,.int .i64 0],.struct [(0,2,false),(2,1,true)]⟩),
 (92,⟨3,40,.agg [.int .i64 0,.str [],.str []],.struct [(0,1,true),(1,1,true),(2,1,true)]⟩),
 (25,⟨2,32,.agg [.int .i64 0,.nils],.struct [(0,1,true),(1,1,true)]⟩),
 (52,⟨1,8,.nilp,.sc⟩),
 (189,⟨4,32,.agg [.int .i64 0,.int .i64 0,.int .i64 0,.int .i64 0],.struct [(0,1,true),(1,1,true),(2,1,true),(3,1,true)]⟩),
 (79,⟨1,8,.nilp,.sc⟩),
 (164,⟨2,32,.agg [.str [],.str []],.struct [(0,1,true),(1,1,true)]⟩),
 (62,⟨1,8,.nilp,.sc⟩),
 (60,⟨11,168,.agg [.nils,.nils,.raw (.map none),.raw (.map none),.int .i64 0,.nils,.nils,.int .i64 0,.nils,.int .i64 0,.int .i64 0],.struct [(0,1,true),(1,1,true),(2,1,true),(3,1,true),(4,1,true),(5,1,true),(6,1,true),(7,2,false),(9,2,false)]⟩),
 (31,⟨1,8,.int .i64 0,.sc⟩),
 (85,⟨1,24,.nils,.sl 92⟩),
 (105,⟨1,24,.nils,.sl 107⟩),
 (144,⟨2,16,.agg [.int .i64 0,.int .i64 0],.struct [(0,1,true),(1,1,true)]⟩),
 (90,⟨5,56,.agg [.nils,.int .i64 0,.int .i64 0,.int .i64 0,.int .i64 0],.struct [(0,1,true),(1,1,true),(2,1,true),(3,1,true),(4,1,true)]⟩),
 (66,⟨9,160,.agg [.nils,.int .i64 0,.nils,.nils,.bool false,.int .i64 0,.str [],.nils,.nils],.struct [(0,1,true),(1,1,true),(2,1,true),(3,1,true),(4,5,false)]⟩),
 (151,⟨5,56,.agg [.int .i64 0,.nils,.int .i64 0,.int .i64 0,.bool false],.struct [(0,2,false),(2,1,true),(3,1,true),(4,1,true)]⟩),
 (113,⟨2,16,.agg [.int .i64 0,.int .i64 0],.arr 2 3⟩),
 (138,⟨1,8,.nilp,.sc⟩),
 (97,⟨3,40,.agg [.nils,.int .i64 0,.int .i64 0],.struct [(0,1,true),(1,2,false)]⟩),
 (135,⟨4,80,.agg [.nils,.int .i64 0,.nils,.nils],.struct [(0,1,true),(1,1,true),(2,1,true),(3,1,true)]⟩),
 (197,⟨4,32,.agg [.int .i64 0,.int .i64 0,.int .i64 0,.int .i64 0],.arr 2 58⟩),
 (54,⟨1,24,.nils,.sl 151⟩),
 (95,⟨1,24,.nils,.sl 58⟩),
 (4,⟨1,1,.bool false,.bool⟩),
 (41,⟨1,24,.nils,.sl 23⟩),
 (114,⟨1,24,.nils,.sl 113⟩),
 (118,⟨2,32,.agg [.nils,.int .i64 0],.struct [(0,1,true),(1,1,true)]⟩),
 (140,⟨4,40,.agg [.str [],.int .i64 0,.int .i64 0,.nilp],.struct [(0,1,true),(1,2,false),(3,1,true)]⟩),
 (107,⟨6,96,.agg [.str [],.bool false,.int .i64 0,.str [],.nils,.nils],.struct [(0,1,true),(1,5,false)]⟩),
 (176,⟨2,24,.agg [.int .i64 0,.str []],.struct [(0,1,true),(1,1,true)]⟩),
 (180,⟨1,8,.int .u64 0,.sc⟩),
 (56,⟨1,8,.raw (.map none),.sc⟩),
 (100,⟨2,16,.agg [.int .i64 0,.int .i64 0],.struct [(0,1,true),(1,1,true)]⟩),
 (133,⟨1,8,.nilp,.sc⟩),
 (55,⟨1,8,.raw (.map none),.sc⟩),
 (171,⟨1,8,.nilp,.sc⟩)]
def oV{α:Type}:List (Nat×α)→Nat→Option α
 |[],_=>none
 |(i,x)::r,j=>match Nat.beq i j with
  |true=>some x
  |false=>oV r j
def tyB(P:Program):List (Nat×TD)→Bool
 |[]=>true
 |(t,d)::r=>tdB P t d&&tyB P r
theorem Ld{P:Program}:∀{l:List (Nat×TD)},tyB P l=true→∀t d,oV l t=some d→TdOk P t d
 |[],_,t,d,h=>by cases h
 | (i,x)::r,hb,t,d,h=>by
  simp only[tyB,Bool.and_eq_true]at hb;simp only[oV]at h;split at h
  ·rename_i e;have :=Nat.eq_of_beq_eq_true e;subst this;injection h with h;subst h
   exact Pq hb.1
  ·exact Ld hb.2 t d h
theorem EX:∀t d,oV tyL t=some d→TdOk prog t d:=Ld (by kernel_rfl)
noncomputable def fnL:List (Nat×Func):=[(20,f20),(46,f46),(47,f47),(48,f48),(77,f77),(78,f78),(79,f79),(80,f80),(81,f81),(82,f82),(83,f83),(84,f84),(85,f85),(115,f115),(116,f116),(117,f117),(118,f118),(119,f119),(121,f121),(122,f122),(123,f123),(124,f124),(155,f155),(156,f156),(157,f157),(158,f158),(127,f127),(160,f160),(179,f179),(180,f180),(192,f192),(193,f193)]
def fnB(P:Program):List (Nat×Func)→Prop
 |[]=>True
 |(i,f)::r=>(P.funcs[i]?=some f∧dg P i=true)∧fnB P r
theorem Gm{P:Program}:∀{l:List (Nat×Func)},fnB P l→∀i f,oV l i=some f→P.funcs[i]?=some f∧dg P i=true
 |[],_,i,f,h=>by cases h
 | (j,x)::r,hb,i,f,h=>by
  simp only[oV]at h;split at h
  ·rename_i e;have :=Nat.eq_of_beq_eq_true e;subst this;injection h with h;subst h
   exact hb.1
  ·exact Gm hb.2 i f h
theorem PU:∀i f,oV fnL i=some f→prog.funcs[i]?=some f∧dg prog i=true:=Gm ⟨⟨func20,by kernel_rfl⟩,⟨func46,by kernel_rfl⟩,⟨func47,by kernel_rfl⟩,⟨func48,by kernel_rfl⟩,⟨func77,by kernel_rfl⟩,⟨func78,by kernel_rfl⟩,⟨func79,by kernel_rfl⟩,⟨func80,by kernel_rfl⟩,⟨func81,by kernel_rfl⟩,⟨func82,by kernel_rfl⟩,⟨func83,by kernel_rfl⟩,⟨func84,by kernel_rfl⟩,⟨func85,by kernel_rfl⟩,⟨func115,by kernel_rfl⟩,⟨func116,by kernel_rfl⟩,⟨func117,by kernel_rfl⟩,⟨func118,by kernel_rfl⟩,⟨func119,by kernel_rfl⟩,⟨func121,by kernel_rfl⟩,⟨func122,by kernel_rfl⟩,⟨func123,by kernel_rfl⟩,⟨func124,by kernel_rfl⟩,⟨func155,by kernel_rfl⟩,⟨func156,by kernel_rfl⟩,⟨func157,by kernel_rfl⟩,⟨func158,by kernel_rfl⟩,⟨func127,by kernel_rfl⟩,⟨func160,by kernel_rfl⟩,⟨func179,by kernel_rfl⟩,⟨func180,by kernel_rfl⟩,⟨func192,by kernel_rfl⟩,⟨func193,by kernel_rfl⟩,trivial⟩
open Go.RowKit Lx Sx
def Cq:Tab:=⟨false,oV tyL,λ_=>none,λ_ _=>none,λ_=>false⟩
theorem ai:TabOk prog Cq:=⟨EX,(λ_ _ h=>by cases h),(λ_ _ _ h=>by cases h)⟩
mutual
def treeV:Tree→V
 |.node k s ls ks=>.agg [.int .i64 k,.str s,.row 1 (ls.map .str),.row 4 (kidsV ks)]
def kidsV:List Tree→List V
 |[]=>[]
 |t::r=>treeV t::kidsV r
end
abbrev al(t:Tree):List V:=[.int .i64 t.kind,.str t.text,.row 1 (t.leads.map .str),.row 4 (kidsV t.kids)]
abbrev xq(t:Tree):V:=.agg (al t)
theorem oh(t:Tree):treeV t=xq t:=by cases t;simp[treeV,Tree.kind,Tree.text,Tree.leads,Tree.kids]
theorem tj:∀(ks:List Tree),(kidsV ks).length=ks.length
 |[]=>rfl
 |t::r=>by simp[kidsV,tj r]
theorem aq:∀{ks:List Tree} {i:Nat} {u:Tree},ks[i]?=some u→(kidsV ks)[i]?=some (xq u)
 |[],i,u,h=>by simp at h
 |t::r,0,u,h=>by
  simp only[List.getElem?_cons_zero,Option.some.injEq]at h;subst h;simp[kidsV,oh]
 |t::r,i+1,u,h=>by
  simp only[List.getElem?_cons_succ]at h;simpa[kidsV]using aq h
theorem kr:∀(a b:List Tree),kidsV (a++b)=kidsV a++kidsV b
 |[],b=>rfl
 |t::r,b=>by simp[kidsV,kr r b]
theorem Ja(t:Tree):(xq t).pure=true:=rfl
theorem BP:∀(ks:List Tree),pureL (kidsV ks)=true
 |[]=>rfl
 |t::r=>by simp only[kidsV,pureL,oh,Ja,BP r]
def sF(P:Program)(fid:FuncId)(us:List V)(v:V):Prop:=pureL us=true∧v.pure=true∧Sum P fid us ⟨0,[]⟩ (λu _=>u=v)
theorem oO(i:Nat):(⟨0,[]⟩:Hp).get i=.free:=by
 unfold Hp.get;have :Nat.blt i 0=false:=by cases i<;>rfl
 simp only[this]
theorem sV{K:Ctx}{v:V}(Z:sF P fid us v)(hs:aK vs us)(L:List Nat)(hL:dB H.get L=true):CallR P K fid vs H L (λv' H''=>v'=v∧H''=H):=λS w ρ xs hr hi hx=>by
 obtain⟨h1,h2,h3⟩:=Z;have hr0:HRel S w ρ0 (⟨0,[]⟩:Hp).get:=⟨λi=>by rw[oO];rfl,λi b hb=>by rw[oO]at hb;exact hb.elim,λi j b hb _=>by rw[oO]at hb;exact hb.elim,hr.slt⟩;refine(h3 S w ρ0 xs hr0 ((hs.rel hx).pure h1)).mono λe w' hR=>?_;obtain⟨x,S',ρ',u,H',rfl,rfl,hr',G,hv⟩:=hR;have J:∀b,¬∃id,own ρ0 id ((⟨0,[]⟩:Hp).get id) b:=λb ⟨id,hb⟩=>by rw[oO]at hb;exact hb
 have U:Chg [] w w':=⟨G.chg.os,G.chg.tape,G.chg.output,G.chg.size,λb hb _=>G.chg.block b hb (J b)⟩;have up:Up S S' w w' ρ ρ:=⟨G.s0,λb hb hlt=>U.block b hlt (by simp),λ_ _ h=>h⟩;have O:∀b,S' b→S b∨w.heap.size≤b:=λb hb=>by
  rcases G.s1 b hb with h|h|h
  ·exact .inl h
  ·exact absurd h (J b)
  ·exact .inr h
 refine⟨x,S',ρ,u,H,rfl,⟨rfl,rfl⟩,⟨λi=>(hr.ob i).up up (λhf=>?_) (λb hb=>U.block b (gU (hr.ob i) hb) (by simp)),λi b hb=>?_,hr.dis,hr'.slt⟩,⟨hi.chg.trans (ChgP.of U) (λb hb=>by simp at hb),λb hb=>G.s0 b (hi.s0 b hb),λb hb=>?_,hi.ow,hi.pin⟩,up,hv.pure h2,λid hid y b hy hb=>?_⟩
 ·have :=hr.ob i;rw[hf]at this;exact this
 ·intro Z;rcases O b Z with h|h
  ·exact hr.sep i b hb h
  ·have :=gU (hr.ob i) hb;omega
 ·rcases O b hb with h|h
  ·exact hi.s1 b h
  ·exact .inr (.inr (Nat.le_trans hi.chg.size h))
 ·exact U.block b (gU (hr.ob id) (oJ hr hL id hid y b hy hb)) (by simp)
theorem cv[BEq α][LawfulBEq α]{a b:α}(h:(a !=b)=false):a=b:=by simpa using h
variable{args:List Operand}{g:Option (Nat×Bool)}
section
variable{K:Ctx}{Q:Exit→Act→World→Prop}{p p':EP}{s s':List EI}{n:Nat}{F F' F1 F2:Fm}{H H' H1:Hp}{all:Array Oper}{rest:List Oper}{o:Oper}
theorem gR(k:Nat)(h:iP Cq k p s F H=some (p',s',F',H'))(kk:Go prog K Q p' s' n F' H'):Go prog K Q p s n F H:=eg ai k p s F H h kk
theorem gC{tys:Array TypeId}{d:Option Tmp}{ty:TypeId}{ps:String}{af:Array Edge}(G:bv PL prog fid us H0 Post)(σ:List Nat)(J:dg prog fid=true)(O:bA F all g=some true)(hv:gz F args=some vs)(hs:aK vs (renL σ us))(hH:leH σ H H0.es)(U:(dx σ&&Nat.beq σ.length H0.nx&&σ.all λi=>Nat.blt i H.nx)=true)
  (k:∀v H',Post v H'→Go prog K Q (.ops all rest) s n (F.seto d (some (v.ren (sgN PL H.nx H0.get H'.nx σ 0)))) (pC PL H σ H0 H')):Go prog K Q (.ops all (⟨d,.call {callee:=.value (.func fid),args:=args.toArray,argTypes:=tys},ty,ps,af,g⟩::rest)) s n F H:=
 go_opC (o:=⟨d,.call {callee:=.value (.func fid),args:=args.toArray,argTypes:=tys},ty,ps,af,g⟩) J rfl O hv (uE G σ hs hH U [] (by simp[dB])) λv' H'' ⟨v,H',Z,e1,e2⟩=>by subst e1 e2;exact k v H' Z
theorem gC0{tys:Array TypeId}{v:V}{ty:TypeId}{ps:String}{af:Array Edge}(G:sF prog fid us v)(J:dg prog fid=true)(O:bA F all g=some true)(hv:gz F args=some vs)(hs:aK vs us)(h1:F.puto d (some v) id=F1)
  (k:Go prog K Q (.ops all rest) s n F1 H):Go prog K Q (.ops all (⟨d,.call {callee:=.value (.func fid),args:=args.toArray,argTypes:=tys},ty,ps,af,g⟩::rest)) s n F H:=by
 rw[Fm.puto_eq]at h1;subst h1;exact go_opC (o:=⟨d,.call {callee:=.value (.func fid),args:=args.toArray,argTypes:=tys},ty,ps,af,g⟩) J rfl O hv (sV G hs [] rfl) λv' H'' ⟨U,Z⟩=>by subst U Z;exact k
def slB(T:Tab)(t:TypeId):Option (TypeId×Nat×Nat):=match T.ty t with
 |some ⟨_,_,_,.sl e⟩=>match T.ty e with
  |some ⟨sz,by_,_,_⟩=>match Nat.blt 0 sz&&Nat.ble by_ 100000 with
   |true=>some (e,sz,by_)
   |false=>none
  |none=>none
 |_=>none
theorem Pp{T:Tab}(G:TabOk P T){by_:Nat}(h:slB T t=some (e,sz,by_)):P.underlying t=some (.slice e)∧0<sz∧by_≤100000∧∃z:Value,(P.info? e).map (λi=>(i.zero,i.size,i.bytes))=some (some z,sz,by_)∧z.cells.size=sz:=by
 unfold slB at h;split at h
 ·rename_i ht;split at h
  ·rename_i J;split at h
   ·rename_i hb;simp only[Option.some.injEq,Prod.mk.injEq]at h;obtain⟨rfl,rfl,rfl⟩:=h;simp only[Bool.and_eq_true,Nat.blt_eq,Nat.ble_eq]at hb;obtain⟨z,h1,_,O,_⟩:=(G.ty _ _ J).info;exact⟨(G.ty _ _ ht).sl rfl,hb.1,hb.2,z,h1,O⟩
   ·cases h
  ·cases h
 ·cases h
theorem dAp{T:Tab}(J:TabOk P T){y:Operand}{by_ id:Nat}{news:List V}{v:V}{ty:TypeId}(ht:slB T t=some (e,sz,by_))(hx:aM F x=some (.sl id))(O:H.get id=.row e sz els)(hy:aM F y=some v)(hs:FN H.get sz v=some news)(hb:els.length+news.length≤1000000000):
  ∀S w ρ a,HRel S w ρ H.get→FRel S w ρ a n F→Does P S w ρ H.get a ty (.call {callee:=.builtin .append,args:=#[x,y],argTypes:=#[t,t]}) (some (.sl H.nx)) ((ED.repl id (.row e sz (els++news))).app H.get H.nx) (ED.repl id (.row e sz (els++news))).tch:=λS w ρ a hr G=>by
 obtain⟨h1,h2,U,z,Z,h5⟩:=Pp J ht;obtain⟨u,g1,g2⟩:=GZ hr G hy hs;exact Fn hr G.fr H.get_free g1 g2 h1 Z h5 h2 (au G hx) O (by simp only[maxLen];omega) (Nat.le_trans (Nat.mul_le_mul hb U) (by decide))
variable{L:List Nat}{m fuel c:Nat}{listed:Array Bool}
theorem gDs{id:Nat}{l:List Oper}(L:List Nat)(m sz:Nat)(hsz:l.length=sz)(G:prog.follows .mixedOrders=true)(hs:Region.noSelect l.toArray=true)(k:Go prog K Q (.drw l.toArray L m sz (Array.replicate sz false)) s n F H):Go prog K Q (.code (.region id l.toArray true)) s n F H:=Ik L m sz hsz G hs k
theorem gDr(is:List (Nat×Nat))(G:Fv all m is listed=true)(J:is.length=c)(hr:rS Cq all L is F H=some (F',H'))(k:Go prog K Q (.drw all L m fuel (JS is listed)) s n F' H'):Go prog K Q (.drw all L m (fuel+c) listed) s n F H:=by
 subst J;exact qz ai is fuel listed F H G hr k
theorem gDe(G:Region.ready .any all listed=[])(k:Go prog K Q (.ex .normal) s n F H):Go prog K Q (.drw all L m fuel listed) s n F H:=Fy G k
theorem bz{args:List Operand}{tys:Array TypeId}{vs:List V}{v:V}{ty:TypeId}{ps:String}{af:Array Edge}{g:Option (Nat×Bool)}(i:Nat)(J:sF prog fid us v)(O:dg prog fid=true)(hi:all[i]?=some ⟨d,.call {callee:=.value (.func fid),args:=args.toArray,argTypes:=tys},ty,ps,af,g⟩)(G:Region.ready .any all listed=[i])(U:bA F all g=some true)(hv:gz F args=some vs)(hs:aK vs us)(Z:dB H.get L=true)(h1:F.puto d (some v) id=F1)
  (k:Go prog K Q (.drw all L m fuel (listed.setIfInBounds i true)) s n F1 H):Go prog K Q (.drw all L m (fuel+1) listed) s n F H:=by
 rw[Fm.puto_eq]at h1;subst h1;exact go_d1C O G hi rfl U hv (sV J hs L Z) (.inl rfl) λv' H'' ⟨e1,e2⟩=>by subst e1 e2;exact k
theorem gDC{args:List Operand}{tys:Array TypeId}{vs:List V}{ty:TypeId}{ps:String}{af:Array Edge}{g:Option (Nat×Bool)}(i:Nat)(J:bv PL prog fid us H0 Post)(σ:List Nat)(O:dg prog fid=true)(hi:all[i]?=some ⟨d,.call {callee:=.value (.func fid),args:=args.toArray,argTypes:=tys},ty,ps,af,g⟩)(G:Region.ready .any all listed=[i])(U:bA F all g=some true)(hv:gz F args=some vs)(hs:aK vs (renL σ us))(hH:leH σ H H0.es)(Z:(dx σ&&Nat.beq σ.length H0.nx&&σ.all λi=>Nat.blt i H.nx)=true)(hL:(dB H.get L&&L.all λi=>!σ.contains i)=true)
  (k:∀v H',Post v H'→Go prog K Q (.drw all L m fuel (listed.setIfInBounds i true)) s n (F.seto d (some (v.ren (sgN PL H.nx H0.get H'.nx σ 0)))) (pC PL H σ H0 H')):Go prog K Q (.drw all L m (fuel+1) listed) s n F H:=
 go_d1C O G hi rfl U hv (uE J σ hs hH Z L hL) (.inl rfl) λv' H'' ⟨v,H',hP,e1,e2⟩=>by subst e1 e2;exact k v H' hP
end
def aj(f:Func):Code:=match f.body with
 |some c=>c
 |none=>.skip
def cA:Code→Code
 |.seq x _=>x
 |c=>c
def cB:Code→Code
 |.seq _ y=>y
 |c=>c
def cK:Code→Code
 |.block _ c=>c
 |c=>c
def cL:Code→Code
 |.loop c=>c
 |c=>c
def cT:Code→Code
 |.cond _ x _=>x
 |c=>c
def cE:Code→Code
 |.cond _ _ y=>y
 |c=>c
theorem apM(f:α→V)(l:List α)(x:α):List.map f l++[f x]=List.map f (l++[x]):=by simp
theorem Cc(l:List Tree):l.map xq=kidsV l:=by
 induction l with
 |nil=>rfl
 |cons t r ih=>simp[kidsV,oh,ih]
theorem mS(x:Tree):[xq x]=kidsV [x]:=by simp[kidsV,oh]
theorem wf:∀(l:List Tree),kidsV l=l.map xq
 |[]=>rfl
 |t::r=>by simp[kidsV,oh,wf r]
theorem ar{f:α→V}{l:List α}{x:α}(h:l[i]?=some x):(List.map f l)[i]?=some (f x):=by simp[h]
theorem aD(l:List Tree):(kidsV l).length=l.length:=tj l
theorem aB(f:α→V)(l:List α):(List.map f l).length=l.length:=List.length_map ..
theorem aJ{n:Nat}{m:Nat}(h:n=m):V.int .i64 (n:Int)=.int .i64 (m:Int):=by rw[h]
theorem MV:∀(l:List Tree) (i:Nat) (x:Tree),(kidsV l).set i (xq x)=kidsV (l.set i x)
 |[],i,x=>rfl
 |t::r,0,x=>by simp[kidsV,oh]
 |t::r,i+1,x=>by simp[kidsV,MV r i x]
theorem ln(f:α→V)(l:List α)(i:Nat)(x:α):(List.map f l).set i (f x)=List.map f (l.set i x):=by simp
theorem Nm(f:α→V)(l:List α)(i:Nat):(List.map f l).take i=List.map f (l.take i):=by simp
theorem QN(l:List Tree)(i j:Nat):((kidsV l).drop i).take j=kidsV ((l.drop i).take j):=by simp[wf,List.map_drop,List.map_take]
theorem St(f:α→V)(l:List α)(i j:Nat):((List.map f l).drop i).take j=List.map f ((l.drop i).take j):=by simp[List.map_drop,List.map_take]
theorem Ct(σ:List Nat):∀(l:List Tree),renL σ (kidsV l)=kidsV l
 |[]=>rfl
 |t::r=>by simp only[kidsV,renL,Ct σ r];rw[oh];rfl
theorem om{α:Type}(σ:List Nat)(f:α→V)(hf:∀x,(f x).ren σ=f x):∀(l:List α),renL σ (List.map f l)=List.map f l
 |[]=>rfl
 |x::r=>by simp only[List.map_cons,renL,hf,om σ f hf r]
theorem dn(l:List Tree):pureL (kidsV l)=true:=BP l
theorem fR{α:Type}(f:α→V)(hf:∀x,(f x).pure=true):∀(l:List α),pureL (List.map f l)=true
 |[]=>rfl
 |x::r=>by simp only[List.map_cons,pureL,hf,fR f hf r]
theorem bF{e:Bool}(h:(!e)=true):e=false:=by simpa using h
theorem bG{e:Bool}(h:(!e)=false):e=true:=by simpa using h
theorem dy[BEq α][LawfulBEq α]{a b:α}(h:(a !=b)=true):a≠b:=by simpa using h
variable{a:Nat}
theorem bX(h:decide ((a:Int)<(b:Int))=true):a<b:=by have :=of_decide_eq_true h;omega
theorem bY(h:decide ((a:Int)<(b:Int))=false):¬a<b:=by have :=of_decide_eq_false h;omega
theorem Sr(h:decide ((a:Int)≤(b:Int))=true):a≤b:=by have :=of_decide_eq_true h;omega
theorem Su(h:decide ((a:Int)≤(b:Int))=false):¬a≤b:=by have :=of_decide_eq_false h;omega
theorem Sy(h:((a:Int)==(b:Int))=true):a=b:=by have :=eq_of_beq h;omega
theorem SF(h:((a:Int)==(b:Int))=false):a≠b:=by have :=ne_of_beq_false h;omega
theorem AN(h:((a:Int)!=(b:Int))=true):a≠b:=by have :=dy h;omega
theorem AJ(h:((a:Int)!=(b:Int))=false):a=b:=by have :=cv h;omega
variable{m:Int}
theorem aL{n:Int}(h:n=m):V.int .i64 n=.int .i64 m:=by rw[h]
abbrev InI(x:Int):Prop:=-9223372036854775808≤x∧x≤9223372036854775807
variable{S:Nat→Prop}
variable{N:Nat}
variable{els':List V}
variable{f:Nat→Option Value}{u:TypeId}
variable{td:TD}
section
variable{P:Program}{T:Tab}{K:Ctx}{Q:Exit→Act→World→Prop}{p p':EP}{s s':List EI}{n:Nat}{F F' F1 F2:Fm}{H H' H1:Hp}{all:Array Oper}{rest:List Oper}{o:Oper}{L:List Nat}{m fuel:Nat}{listed:Array Bool}
theorem gS{v:V}(d:Nat)(G:V)(J:F.get d=some v)(hs:cJ v G)(h1:F.put d (some G) id=F1)(k:Go P K Q p s n F1 H):Go P K Q p s n F H:=by
 rw[Fm.put_eq]at h1;subst h1;exact uB J hs k
theorem Er{id:Nat}{o:Ob}(G:h id=o):co h id o=h:=by
 funext i
 by_cases hi:i=id
 ·subst hi;rw[bO,G]
 ·rw[dj _ _ hi]
theorem gHR(id:Nat)(els':List V)(G:H.get id=.row e sz els)(O:els=els')(h2:H.ap (.set id (.row e sz els')) _root_.id=H1)(k:Go P K Q p s n F H1):Go P K Q p s n F H:=by
 subst O;rw[Hp.ap_eq]at h2;subst h2;have J:(H.app (.set id (.row e sz els))).get=H.get:=by
  rw[Hp.get_app (by exact⟨by rw[G];simp,by rw[G];simp⟩)];exact Er G
 intro S w ρ a hr hi U;exact k S w ρ a (by rw[id_eq,J];exact hr) (by rw[id_eq,J];exact hi) U
theorem CRel.sub{w:World}:∀{vs us:List V} {xs:List Value},aK vs us→CRel S w ρ sz vs xs→CRel S w ρ sz us xs
 |[],us,xs,h,G=>by simp only[aK]at h;subst h;exact G
 |v::r,us,xs,h,G=>by
  simp only[aK]at h;obtain⟨u,q,rfl,h1,h2⟩:=h;simp only[CRel]at G⊢;obtain⟨x,ys,rfl,J,O,U⟩:=G;exact⟨x,ys,rfl,J,h1 _ _ _ _ O,U.sub h2⟩
theorem aK.len:∀{vs us:List V},aK vs us→us.length=vs.length
 |[],us,h=>by simp only[aK]at h;subst h;rfl
 |v::r,us,h=>by
  simp only[aK]at h;obtain⟨u,q,rfl,_,h2⟩:=h;simp[h2.len]
theorem aK.rep{a b:V}(h:cJ a b):∀n,aK (List.replicate n a) (List.replicate n b)
 |0=>aK.nil
 |n+1=>aK.cons h (aK.rep h n)
theorem gHW(id:Nat)(els':List V)(hp:p.still=true)(O:H.get id=.row e sz els)(U:aK els els')(h2:H.ap (.set id (.row e sz els')) _root_.id=H1)(k:Go P K Q p s n F H1):Go P K Q p s n F H:=by
 rw[Hp.ap_eq]at h2;subst h2;have Z:(H.app (.set id (.row e sz els'))).get=co H.get id (.row e sz els'):=Hp.get_app (by exact⟨by rw[O];simp,by rw[O];simp⟩);intro S w ρ a hr hi hF;have G:∀i b,own ρ i (co H.get id (.row e sz els') i) b↔own ρ i (H.get i) b:=λi b=>by
  by_cases hi:i=id
  ·subst hi;rw[bO,O];rfl
  ·rw[dj _ _ hi]
 refine k S w ρ a ?_ ?_ hF
 ·rw[id_eq,Z];refine⟨λi=>?_,λi b hb=>hr.sep i b ((G i b).1 hb),λi j b h1 h2=>hr.dis i j b ((G i b).1 h1) ((G j b).1 h2),hr.slt⟩;by_cases J:i=id
  ·subst J;rw[bO];obtain⟨v,xs,h1,h2,h3⟩:=kQ hr O;exact⟨v,xs,h1,by rw[U.len];exact h2,h3.sub U⟩
  ·rw[dj _ _ J];exact hr.ob i
 ·rw[id_eq,Z];exact⟨hi.chg,hi.s0,hi.s1,λi b hb=>hi.ow i b ((G i b).1 hb),hi.pin⟩
def DM(PL:List Nat):List (Nat×Ob)→List Nat→Bool
 |[],_=>true
 |(i,o)::r,pv=>(!mT PL i o||pv.contains i)&&DM PL r pv
theorem Ex{PL:List Nat}:∀{es:List (Nat×Ob)} {pv:List Nat},DM PL es pv=true→∀i,mT PL i (aE es i)=true→i∈pv
 |[],pv,h,i,hi=>by simp[aE,mT]at hi
 | (j,o)::r,pv,h,i,hi=>by
  simp only[DM,Bool.and_eq_true,Bool.or_eq_true,Bool.not_eq_true']at h;simp only[aE]at hi;split at hi
  ·rename_i e;have :=Nat.eq_of_beq_eq_true e;subst this;rcases h.1 with h1|h1
   ·rw[h1]at hi;cases hi
   ·simpa using h1
  ·exact Ex h.2 i hi
theorem Ru{nx:Nat}{es:List (Nat×Ob)}{pv:List Nat}(h:DM PL es pv=true):∀i,mT PL i ((⟨nx,es⟩:Hp).get i)=true→i∈pv:=λi hi=>by
 unfold Hp.get at hi;split at hi
 ·exact Ex h i hi
 ·simp[mT]at hi
def rm(ids:List Nat):List (Nat×Ob)→List (Nat×Ob)
 |[]=>[]
 |(j,o)::r=>match ids.contains j with
  |true=>rm ids r
  |false=>(j,o)::rm ids r
theorem BE{ids:List Nat}{i:Nat}:∀{l:List (Nat×Ob)},aE (rm ids l) i=aE l i∨aE (rm ids l) i=.gone
 |[]=>.inl rfl
 | (j, o)::r=>by
  have ih:=BE (ids:=ids) (i:=i) (l:=r);simp only[rm];split
  ·rename_i hc;by_cases hj:j=i
   ·subst hj;refine .inr ?_;have :∀l:List (Nat×Ob),aE (rm ids l) j=.gone:=λl=>by
     induction l with
     |nil=>rfl
     | cons p q ihq=>
      obtain⟨k,o'⟩:=p;simp only[rm];split
      ·exact ihq
      ·rename_i hk;have hne:k≠j:=λe=>by subst e;rw[hc]at hk;cases hk
       simp only[aE,nbF hne];exact ihq
    exact this r
   ·simp only[aE,nbF hj];exact ih
  ·simp only[aE];split
   ·exact .inl rfl
   ·exact ih
theorem NR{rs:List ResultVar}{e:Exit}(ids:List Nat)(O:TabOk P T)(G:fn.results=rs.toArray)(hv:uU T H.get F rs=some vs)(U:Post (mD vs) ⟨H.nx,rm ids H.es⟩)(Z:e=.ret∨e=.normal:=by first|exact .inl rfl|exact .inr rfl):Go P K (bodyPost P fn (SP K Post)) (.ex e) [] n F H:=λS w ρ a hr hi hF=>by
 have J:∀i,(⟨H.nx,rm ids H.es⟩:Hp).get i=H.get i∨(⟨H.nx,rm ids H.es⟩:Hp).get i=.gone:=λi=>by
  unfold Hp.get;cases hb:Nat.blt i H.nx
  ·exact .inl rfl
  ·exact BE
 exact ret_go O Z G hr hF hv λx hx=>⟨x,S,ρ,_,_,rfl,U,hr.drop J,hi.drop J,hx⟩
theorem gJ(k:Go P K Q p s n F' H')(σ pv:List Nat)(J:p.still=true)(G:aw K pv)(O:leF σ F F')(hH:leH σ H H'.es)(U:(dx σ&&Nat.ble σ.length H'.nx&&yi σ pv&&Nat.ble F'.length n)=true):Go P K Q p s n F H:=go_sub σ pv J G O hH U k
theorem Ce{w:World}{nid:Nat}(e:TypeId)(sz:Nat)(hr:HRel S w ρ h)(hf:h nid=.free):Eff S w w ρ (eN ρ nid (.slice none 0 0)) h (co h nid (.row e sz [])) (λ_=>False):=
 eff_new hr hf (Chg.refl _ _) ⟨_,[],bd _ _ _,⟨by simp,.inl ⟨rfl,rfl⟩⟩,by simp[CRel]⟩ (λb hb=>by
  obtain⟨v,h1,h2⟩:=hb;rw[bd]at h1;cases h1;cases h2)
theorem gNS(d:Nat)(e:TypeId)(sz:Nat)(hp:p.still=true)(hd:F.get d=some .nils)(h1:F.put d (some (.sl H.nx)) id=F1)(h2:H.ap (.new (.row e sz [])) id=H1)(k:Go P K Q p s n F1 H1):Go P K Q p s n F H:=by
 rw[Fm.put_eq]at h1;rw[Hp.ap_eq]at h2;subst h1 h2;intro S w ρ a hr hi U;have O:=Ce e sz hr H.get_free;have Z:(H.app (.new (.row e sz []))).get=co H.get H.nx (.row e sz []):=Hp.get_app trivial;have :=k S w (eN ρ H.nx (.slice none 0 0)) a (by rw[id_eq,Z];exact O.hr) (by rw[id_eq,Z];exact hi.eff O) (by
  have J:=U.up O.up;refine⟨J.size,J.defers,J.gl,by simpa using J.len,λi u G=>?_⟩;rw[id_eq,Fm.get_eq,List.getElem?_set]at G;split at G
  ·rename_i e1;subst e1;split at G
   ·simp only[Option.bind_some,id_eq,Option.some.injEq]at G;subst G;obtain⟨x,h3,h4⟩:=U.get d _ hd;simp only[VRel]at h4;subst h4;exact⟨_,h3,by simp only[VRel];exact⟨bd _ _ _,rfl⟩⟩
   ·cases G
  ·exact J.get i u (by rw[Fm.get_eq];exact G))
 cases p with
 |drw all L m left listed=>cases hp
 |code c=>exact this
 |ops all rest=>exact this
 |ex e=>exact this
theorem gNC(id o:Nat)(e:TypeId)(sz:Nat)(hp:p.still=true)(Z:H.get id=.var t cs)(hc:cs[o]?=some .nils)(h2:(H.ap (.new (.row e sz [])) λH1=>H1.ap (.set id (.var t (cs.set o (.sl H.nx)))) _root_.id)=H1)(k:Go P K Q p s n F H1):Go P K Q p s n F H:=by
 rw[Hp.ap_eq,Hp.ap_eq]at h2;subst h2;intro S w ρ a hr hi hF;have he:=Ce e sz hr H.get_free;have hg:(H.app (.new (.row e sz []))).get=co H.get H.nx (.row e sz []):=Hp.get_app trivial;have hne:id≠H.nx:=λe1=>by subst e1;rw[H.get_free]at Z;cases Z
 have G:(H.app (.new (.row e sz []))).get id=.var t cs:=by rw[hg,dj _ _ hne,Z]
 have O:((H.app (.new (.row e sz []))).app (.set id (.var t (cs.set o (.sl H.nx))))).get=co (H.app (.new (.row e sz []))).get id (.var t (cs.set o (.sl H.nx))):=Hp.get_app (by exact⟨by rw[G];simp,by rw[G];simp⟩);have h1:HRel S w (eN ρ H.nx (.slice none 0 0)) (H.app (.new (.row e sz []))).get:=by rw[hg];exact he.hr
 have h2:Inv K S w (eN ρ H.nx (.slice none 0 0)) (H.app (.new (.row e sz []))).get:=by rw[hg];exact hi.eff he
 have J:∀i b,own (eN ρ H.nx (.slice none 0 0)) i (co (H.app (.new (.row e sz []))).get id (.var t (cs.set o (.sl H.nx))) i) b↔own (eN ρ H.nx (.slice none 0 0)) i ((H.app (.new (.row e sz []))).get i) b:=λi b=>by
  by_cases hi:i=id
  ·subst hi;rw[bO,G];rfl
  ·rw[dj _ _ hi]
 have :=k S w (eN ρ H.nx (.slice none 0 0)) a (by
  rw[id_eq,O];refine⟨λi=>?_,λi b hb=>h1.sep i b ((J i b).1 hb),λi j b q1 q2=>h1.dis i j b ((J i b).1 q1) ((J j b).1 q2),h1.slt⟩;by_cases U:i=id
  ·subst U;rw[bO];obtain⟨b,xs,q1,q2,q3⟩:=vb h1 G;obtain⟨x,q4,q5⟩:=q3.get hc;simp only[VRel]at q5;subst q5;refine⟨b,xs,q1,q2,?_⟩;have :=q3.set (i:=o) (v:=.sl H.nx) (x:=.slice none 0 0) (by simp only[VRel];exact⟨bd _ _ _,rfl⟩);have e2:xs.set o (.slice none 0 0)=xs:=by
    obtain⟨hl,q6⟩:=List.getElem?_eq_some_iff.1 q4;rw[←q6];exact List.set_getElem_self ..
   rw[e2]at this;exact this
  ·rw[dj _ _ U];exact h1.ob i) (by
  rw[id_eq,O];exact⟨h2.chg,h2.s0,h2.s1,λi b hb=>h2.ow i b ((J i b).1 hb),h2.pin⟩) (hF.up he.up)
 cases p with
 |drw all L m left listed=>cases hp
 |code c=>exact this
 |ops all rest=>exact this
 |ex e=>exact this
theorem gLB(d:Nat)(J:F.get d=some (.row sz els))(U:els.length=N)(k:N≤9223372036854775807→Go P K Q p s n F H):Go P K Q p s n F H:=λS w ρ a hr hi G=>by
 obtain⟨x,h1,h2⟩:=G.get d _ J;simp only[VRel]at h2;obtain⟨A,c,xs,rfl,Z,O,_⟩:=h2;exact k (by simp only[maxLen]at O;omega) S w ρ a hr hi G
theorem gLO(id:Nat)(G:H.get id=.row e sz els)(U:els.length=N)(k:N≤9223372036854775807→Go P K Q p s n F H):Go P K Q p s n F H:=λS w ρ a hr hi J=>by
 obtain⟨v,xs,h1,h2,Z⟩:=kQ hr G;refine k ?_ S w ρ a hr hi J;rcases h2.2 with⟨_,h⟩|⟨g,cap,cur,_,_,_,h4,O,_⟩
 ·omega
 ·simp only[maxLen]at O;omega
theorem PC(G:TabOk P T)(ht:(match T.ty t with|some ⟨_,_,_,.str⟩=>true|_=>false)=true):P.underlying t=some .string:=by
 split at ht
 ·rename_i h;exact(G.ty _ _ h).str rfl
 ·cases ht
theorem yIS(J:TabOk P T){y:Operand}{l:List UInt8}{c:UInt8}(ht:(match T.ty t with|some ⟨_,_,_,.str⟩=>true|_=>false)=true)(hx:aM F x=some (.str l))(hy:aM F y=some (.int .i64 (i:Int)))(hi:l[i]?=some c):∀S w ρ a,HRel S w ρ H.get→FRel S w ρ a n F→Yld P S w ρ a ty (.index t x y) (.int .u8 (c.toNat:Int)):=λS w ρ a hr G=>
 p_idxS G.fr (PC J ht) (au G hx) (au G hy) hi
def xW(F:Fm)(y:Option Operand)(i:Nat)(dflt:Nat):Prop:=(y=none∧i=dflt)∨∃z,y=some z∧aM F z=some (.int .i64 (i:Int))
theorem AR:xW F none i i:=.inl ⟨rfl,rfl⟩
theorem AY{z:Operand}{d:Nat}(h:aM F z=some (.int .i64 (i:Int))):xW F (some z) i d:=.inr ⟨z,rfl,h⟩
theorem BG{w:World}{a:Act}(G:FRel S w ρ a n F){y:Option Operand}{d:Nat}(h:xW F y i d):(y=none∧i=d)∨∃z,y=some z∧Opd S w ρ a z (.int .i64 (i:Int)):=h.imp _root_.id λ⟨z,e,h⟩=>⟨z,e,au G h⟩
theorem ySS(Z:TabOk P T){lo hi:Option Operand}{l r:List UInt8}(ht:(match T.ty t with|some ⟨_,_,_,.str⟩=>true|_=>false)=true)(hx:aM F x=some (.str l))(J:xW F lo i 0)(O:xW F hi j l.length)(U:i≤j)(hj:j≤l.length)(he:(l.drop i).take (j-i)=r):∀S w ρ a,HRel S w ρ H.get→FRel S w ρ a n F→Yld P S w ρ a ty (.slice t x lo hi none) (.str r):=λS w ρ a hr G=>by
 subst he;exact Nr G.fr (PC Z ht) (au G hx) (BG G J) (BG G O) U hj
theorem ySR(Z:TabOk P T){lo hi:Option Operand}(ht:slT T t=some (e,sz))(hx:aM F x=some (.row sz els))(J:xW F lo i 0)(O:xW F hi j els.length)(U:i≤j)(hj:j≤els.length)(he:(els.drop i).take (j-i)=els'):∀S w ρ a,HRel S w ρ H.get→FRel S w ρ a n F→Yld P S w ρ a ty (.slice t x lo hi none) (.row sz els'):=λS w ρ a hr G=>by
 subst he;exact Nt G.fr (rD Z ht).1 (rD Z ht).2 (au G hx) (BG G J) (BG G O) U hj
theorem MZ{lo hi:Option Operand}(U:els.length=N)(Z:TabOk P T)(ht:slT T t=some (e,sz))(hx:aM F x=some (.row sz els))(G:xW F lo i 0)(J:xW F hi j N)(O:i≤j)(hj:j≤N)(he:(els.drop i).take (j-i)=els'):∀S w ρ a,HRel S w ρ H.get→FRel S w ρ a n F→Yld P S w ρ a ty (.slice t x lo hi none) (.row sz els'):=by
 subst U;exact ySR Z ht hx G J O hj he
theorem Aw(l:List α)(i:Nat):(l.drop i).take (l.length-i)=l.drop i:=by
 rw[List.take_of_length_le (by simp)]
theorem xy(l:List α)(j:Nat):(l.drop 0).take (j-0)=l.take j:=by simp
theorem aC{y:Operand}{v:V}(hi:els[i]?=some v)(G:TabOk P T)(ht:slT T t=some (e,sz))(hx:aM F x=some (.row sz els))(hy:aM F y=some (.int .i64 (i:Int)))(J:v.cells=cs):∀S w ρ a,HRel S w ρ H.get→FRel S w ρ a n F→Yld P S w ρ a ty (.indexAddr t x y) (.box cs 0):=by
 subst J;exact yIR G ht hx hy hi
theorem OZ{a:Act}{w:World}{y:Operand}{m:Int}(h:Fr a n f)(hx:aS f x=some (.int .i64 m))(hy:aS f y=some (.int .i64 l))(G:l≠0):Runs P a ty (.binOp .rem t x y u) w (.value (.int .i64 (Int.tmod m l))) w:=λ_ _ _ _=>by
 simp only[execOp,h.eval hx,h.eval hy];simp[go_sem,eqGuard,Op.intDiv,G]
theorem Oe{a:Act}{w:World}{y:Operand}{m:Int}(h:Fr a n f)(hx:aS f x=some (.int .i64 m))(hy:aS f y=some (.int .i64 l))(hb:InI (m*l)):Runs P a ty (.binOp .mul t x y u) w (.value (.int .i64 (m*l))) w:=λ_ _ _ _=>by
 have e:IntKind.i64.wrap (m*l)=m*l:=IntWalk.i64_in _ (by omega);simp only[execOp,h.eval hx,h.eval hy];simp[go_sem,eqGuard,e]
theorem OA{a:Act}{w:World}{y:Operand}{m l:List UInt8}(h:Fr a n f)(hx:aS f x=some (.string ⟨m.toArray⟩))(hy:aS f y=some (.string ⟨l.toArray⟩))(hb:m.length+l.length≤9223372036854775807):Runs P a ty (.binOp .add t x y u) w (.value (.string ⟨(m++l).toArray⟩)) w:=λ_ _ _ _=>by
 simp only[execOp,h.eval hx,h.eval hy];simp[go_sem,eqGuard,show¬9223372036854775807<m.length+l.length by omega];rfl
theorem Bq{w:World}(d:Nat)(A:Option Addr)(k c:Nat)(ht:P.underlying t=some (.slice e)):(Op.equalIn (d+1) t (.slice A k c) (.slice none 0 0)).run P w=.ok A.isNone w:=by
 cases A<;>simp[Op.equalIn,run_underlying ht]
theorem DA{w:World}(A:Option Addr)(k c:Nat)(ht:P.underlying t=some (.slice e)):(Op.equal t (.slice A k c) (.slice none 0 0)).run P w=.ok A.isNone w:=Bq 9999 A k c ht
theorem Qe{a:Act}{w:World}{A:Option Addr}{c:Nat}(h:Fr a n f)(ht:P.underlying t=some (.slice e))(hx:aS f x=some (.slice A k c)):Runs P a ty (.binOp .eql t x (.const (.slice none 0 0)) u) w (.value (.bool A.isNone)) w:=λ_ _ _ _=>by
 have hb:(binOp .eql t (.slice A k c) (.slice none 0 0)).run P w=.ok (.bool A.isNone) w:=by simp only[binOp];simp[DA A k c ht]
 simp only[execOp,h.eval hx];simp[go_sem,eqGuard,hb]
def ML(h:Nat→Ob):V→Bool
 |.row _ _=>true
 |.sl i=>match h i with|.row _ _ _=>true|_=>false
 |.nils=>true
 |_=>false
def MJ(h:Nat→Ob):V→Nat
 |.row _ els=>els.length
 |.sl i=>match h i with|.row _ _ els=>els.length|_=>0
 |_=>0
theorem OW{w:World}{v:V}{x:Value}(hr:HRel S w ρ h)(hs:ML h v=true)(hx:VRel S w ρ v x):∃A k c,x=.slice A k c∧(A.isNone=true→MJ h v=0):=by
 unfold ML at hs;split at hs
 ·simp only[VRel]at hx;obtain⟨A,c,xs,rfl,_,_,_,O⟩:=hx;refine⟨_,_,_,rfl,λG=>?_⟩;refine Nat.eq_zero_of_not_pos λU=>?_;obtain⟨b,off,rfl,_⟩:=O.2 U;cases G
 ·split at hs
  ·rename_i J;obtain⟨v,xs,h1,h2,_⟩:=kQ hr J;simp only[VRel]at hx;rw[h1]at hx;obtain⟨e,_⟩:=hx;injection e with e;subst e
   rcases h2.2 with⟨rfl,Z⟩|⟨_,_,_,rfl,_⟩
   ·exact⟨_,_,_,rfl,λ_=>by simp only[MJ,J];exact Z⟩
   ·exact⟨_,_,_,rfl,λG=>by cases G⟩
  ·cases hs
 ·simp only[VRel]at hx;subst hx;exact⟨_,_,_,rfl,λ_=>rfl⟩
 ·cases hs
theorem RL{v:V}{ps:String}{af:Array Edge}(J:TabOk P T)(O:bA F all g=some true)(ht:slT T t=some (e,sz))(hx:aM F x=some v)(hv:ML H.get v=true)(U:MJ H.get v=N)(k:∀b:Bool,(b=true→N=0)→Go P K Q (.ops all rest) s n (F.seto d (some (.bool b))) H):Go P K Q (.ops all (⟨d,.binOp .eql t x (.const (.slice none 0 0)) u,ty,ps,af,g⟩::rest)) s n F H:=λS w ρ a hr hi G=>by
 show wpList P all (eW P Q s) (⟨d,.binOp .eql t x (.const (.slice none 0 0)) u,ty,ps,af,g⟩::rest) a w;unfold wpList;rw[if_pos (cD G O)];refine .inl ?_;obtain⟨y,h1,h2⟩:=au G hx;obtain⟨A,kk,c,rfl,Z⟩:=OW hr hv h2;have :=Qe (P:=P) (w:=w) (ty:=ty) (u:=u) G.fr (rD J ht).1 h1;unfold Oper.wp;rw[this d ps af g];exact k A.isNone (λhb=>by subst U;exact Z (by simpa using hb)) S w ρ _ hr hi (df G d (by simp only[VRel]))
theorem SL{y:Operand}{m:Int}(hx:aM F x=some (.int .i64 m))(hy:aM F y=some (.int .i64 l))(J:l≠0):∀S w ρ a,HRel S w ρ H.get→FRel S w ρ a n F→Yld P S w ρ a ty (.binOp .rem t x y u) (.int .i64 (Int.tmod m l)):=λS w ρ a hr G=>⟨_,by simp only[VRel],λw' _=>OZ G.fr (bu (au G hx)) (bu (au G hy)) J⟩
theorem Jb{y:Operand}{m:Int}(hx:aM F x=some (.int .i64 m))(hy:aM F y=some (.int .i64 l))(hb:InI (m*l)):∀S w ρ a,HRel S w ρ H.get→FRel S w ρ a n F→Yld P S w ρ a ty (.binOp .mul t x y u) (.int .i64 (m*l)):=λS w ρ a hr G=>⟨_,by simp only[VRel],λw' _=>Oe G.fr (bu (au G hx)) (bu (au G hy)) hb⟩
theorem ya{y:Operand}{m l:List UInt8}(hx:aM F x=some (.str m))(hy:aM F y=some (.str l))(hb:m.length+l.length≤9223372036854775807):∀S w ρ a,HRel S w ρ H.get→FRel S w ρ a n F→Yld P S w ρ a ty (.binOp .add t x y u) (.str (m++l)):=λS w ρ a hr G=>⟨_,by simp only[VRel],λw' _=>OA G.fr (lV (au G hx)) (lV (au G hy)) hb⟩
theorem fK{v:V}{G:Hp}(O:bv PL P fid us H0 (λu G'=>u=v∧G'=G))(σ:List Nat)(hv:aK vs (renL σ us))(hH:leH σ H H0.es)(U:(dx σ&&Nat.beq σ.length H0.nx&&σ.all λi=>Nat.blt i H.nx)=true)(L:List Nat)(Z:(dB H.get L&&L.all λi=>!σ.contains i)=true):
  CallR P K fid vs H L (λJ H''=>J=v.ren (sgN PL H.nx H0.get G.nx σ 0)∧H''=pC PL H σ H0 G):=λS w ρ xs hr hi hx=>
 (uE O σ hv hH U L Z S w ρ xs hr hi hx).mono λe w' hh=>by
  obtain⟨x,S',ρ',J,H',h1,⟨u,G',⟨q1,q2⟩,e1,e2⟩,h3⟩:=hh;subst q1 q2;exact⟨x,S',ρ',J,H',h1,⟨e1,e2⟩,h3⟩
theorem tk{o:Oper}{L:List Nat}{ok:Bool}{v:Option V}(ed:ED)(Z:∀S w ρ a,HRel S w ρ H.get→FRel S w ρ a n F→Does P S w ρ H.get a o.type o.op v (ed.app H.get H.nx) ed.tch)(hl:ed.ok H.get)(hc:((dB H.get L&&ed.clear L)||ok)=true):qr P K o L ok n F H (v.getD (.tup [])) (H.app ed):=λS w ρ a hr hi hF Q' K2 k=>by
 obtain⟨nx,w',ρ',h1,h2,U⟩:=Z S w ρ a hr hF;have G:=h2.hr;have J:=hi.eff h2;rw[←Hp.get_app hl]at G J;have O:Ls ρ L w w'∨ok=true:=(zH hc).imp (λh=>by
  simp only[Bool.and_eq_true]at h;exact Ey hr h2 h.1 h.2) _root_.id
 have kk:=λx hx=>k x S w' ρ' G J h2.up (uQ hr h2) O hx;obtain⟨d,op,ty,ps,af,g⟩:=o;unfold Oper.wp;rw[h1 d ps af g];cases v with
 |none=>
  subst U;exact kk undef yb
 |some v=>
  obtain⟨x,rfl,h4⟩:=U;exact kk x h4
theorem He{a:Act}{w:World}{ty:TypeId}{y:Operand}{o len r:Nat}{i:Int}{k:Nat}(h:Fr a n f)(ht:P.underlying t=some (.array len e))(O:(P.info? e).map (·.size)=some sz)(hx:aS f x=some (.pointer (some ⟨b,o,none⟩)))(hy:aS f y=some (.int .i64 i))
  (U:i=(k:Int)) (G:k<len) (hr:o+k*sz=r):Runs P a ty (.indexAddr t x y) w (.value (.pointer (some ⟨b,r,none⟩))) w:=λ_ _ _ _=>by
 obtain⟨inf,hi,hs⟩:=Option.map_eq_some_iff.1 O;have J:(sizeOf e).run P w=.ok sz w:=by simp[sizeOf,typeInfo,hi,hs]
 subst U hr;simp only[execOp,h.eval hx,h.eval hy];simp[Instr.indexAt,asIntOf,run_underlying ht,Instr.sureAddr,J,G,sM]
theorem LRel.sub{w:World}{xs:List Value}(h:LRel S w ρ vs xs)(i j:Nat):LRel S w ρ ((vs.drop i).take j) ((xs.drop i).take j):=(h.drop i).take j
theorem yIA(hT:TabOk P T){y:Operand}{len o:Nat}{cs':List V}{tz:TD}(ht:T.ty t=some tz)(G:(match tz.kind with|.arr l e'=>Nat.beq l len&&Nat.beq e e'|_=>false)=true)(U:T.ty e=some td)(hsz:td.size=sz)(hx:aM F x=some (.box cs o))(hy:aM F y=some (.int .i64 (k:Int)))(Z:k<len)(hc:(cs.drop (o+k*sz)).take sz=cs')(hl:o+k*sz+sz≤cs.length):
  ∀S w ρ a,HRel S w ρ H.get→FRel S w ρ a n F→Yld P S w ρ a ty (.indexAddr t x y) (.box cs' 0):=λS w ρ a hr hF=>by
 subst hc hsz;obtain⟨y0,h1,h2⟩:=au hF hx;simp only[VRel]at h2;obtain⟨b,off,xs,rfl,hS,hb,J,hcell⟩:=h2;have O:P.underlying t=some (.array len e):=by
  split at G
  ·rename_i l e' he';simp only[Bool.and_eq_true]at G;have h3:=Nat.eq_of_beq_eq_true G.1;have h4:=Nat.eq_of_beq_eq_true G.2;subst h3 h4;exact(hT.ty _ _ ht).arr he'
  ·cases G
 refine⟨_,?_,λw' _=>He hF.fr O (hT.ty _ _ U).size h1 (bu (au hF hy)) rfl Z rfl⟩;simp only[VRel];refine⟨b,off+o+k*td.size,(xs.drop (o+k*td.size)).take td.size,by simp,hS,hb,J.sub _ _,λj hj=>?_⟩;have hxl:=J.length;simp only[List.length_take,List.length_drop]at hj;rw[show off+o+k*td.size+j=off+(o+k*td.size+j) by omega,hcell _ (by omega),List.getElem?_take,if_pos (by omega),List.getElem?_drop]
theorem KC{L:List Nat}(i:Nat)(e:TypeId)(sz:Nat)(hv:vs[i]?=some .nils)(k:CallR P K fid (vs.set i (.sl H.nx)) (H.app (.new (.row e sz []))) L Post):CallR P K fid vs H L Post:=λS w ρ xs hr hi hx=>by
 have G:=Ce e sz hr H.get_free;have U:(H.app (.new (.row e sz []))).get=co H.get H.nx (.row e sz []):=Hp.get_app trivial;have J:LRel S w (eN ρ H.nx (.slice none 0 0)) (vs.set i (.sl H.nx)) xs:=by
  obtain⟨x,h1,h2⟩:=hx.get hv;simp only[VRel]at h2;subst h2;have :=(hx.up G.up).set (i:=i) (v:=.sl H.nx) (x:=.slice none 0 0) (by simp only[VRel];exact⟨bd _ _ _,rfl⟩);have Z:xs.set i (.slice none 0 0)=xs:=by
   obtain⟨hl,q6⟩:=List.getElem?_eq_some_iff.1 h1;rw[←q6];exact List.set_getElem_self ..
  rw[Z]at this;exact this
 refine(k S w (eN ρ H.nx (.slice none 0 0)) xs (by rw[U];exact G.hr) (by rw[U];exact hi.eff G) J).mono λe w' hh=>?_;obtain⟨x,S',ρ',v,H',h1,h2,h3,h4,O,h6,h7⟩:=hh;exact⟨x,S',ρ',v,H',h1,h2,h3,h4,⟨O.s,O.blk,λi y h=>O.r i y (G.up.r i y h)⟩,h6,λid hid y b hy hb=>h7 id hid y b (G.up.r _ _ hy) hb⟩
theorem yMF{caps:List Operand}(hv:gz F caps=some vs):∀S w ρ a,HRel S w ρ H.get→FRel S w ρ a n F→Yld P S w ρ a ty (.makeFunc (.func fid) #[] caps.toArray) (.clo fid vs):=λS w ρ a hr G=>by
 obtain⟨xs,h1,h2⟩:=qB G hv;refine⟨.func (.func fid) #[] xs.toArray,by simp only[VRel];exact⟨xs,rfl,h2⟩,λw' _=>λ_ _ _ _=>?_⟩;have e:caps.toArray.map a.eval=xs.toArray:=by rw[←G.fr.vals h1];simp
 simp only[execOp,e];simp[Instr.makeFunc]
theorem SC{t:Tmp}{tys:Array TypeId}{caps:List V}{v:V}{ty:TypeId}{ps:String}{af:Array Edge}(hS:sF P fid us v)(he:dg P fid=true)(hw:bA F all g=some true)(hf:aM F (.tmp t)=some (.clo fid caps))(hv:gz F args=some vs)(hs:aK (vs++caps) us)(h1:F.puto d (some v) id=F1)
  (k:Go P K Q (.ops all rest) s n F1 H):Go P K Q (.ops all (⟨d,.call {callee:=.value (.tmp t),args:=args.toArray,argTypes:=tys},ty,ps,af,g⟩::rest)) s n F H:=λS w ρ a hr hi G=>by
 rw[Fm.puto_eq]at h1;subst h1;show wpList P all (eW P Q s) (⟨d,.call {callee:=.value (.tmp t),args:=args.toArray,argTypes:=tys},ty,ps,af,g⟩::rest) a w;unfold wpList;rw[if_pos (cD G hw)];refine .inl ?_;obtain⟨xs,h1,h2⟩:=qB G hv;obtain⟨y,h3,Z⟩:=au G hf;simp only[VRel]at Z;obtain⟨ys,rfl,h5⟩:=Z;have hc:=sV (K:=K) (H:=H) hS hs [] rfl S w ρ (xs++ys) hr hi (h2.append h5);have hx:(execOp a.eval ⟨d,.call {callee:=.value (.tmp t),args:=args.toArray,argTypes:=tys},ty,ps,af,g⟩).run P w=.ok (.enter fid (xs++ys).toArray) w:=by
  have e:args.toArray.map a.eval=xs.toArray:=by rw[←G.fr.vals h1];simp
  have e2:a.eval (.tmp t)=.func (.func fid) #[] ys.toArray:=G.fr.eval h3;simp only[execOp,resolve,e,e2];simp[Deferred.ofValue,invoke,oE he]
 unfold Oper.wp;rw[hx,Oper.upon_enter];refine hc.mono λe w1 hR=>?_;obtain⟨x,S',ρ',v',H',rfl,⟨rfl,rfl⟩,J,O,hu,U,_⟩:=hR;exact k S' w1 ρ' _ J O (df (G.up hu) d U)
theorem gYd{v:V}(i:Nat)(hi:all[i]?=some o)(G:(!Nat.beq i m&&Region.free .any all listed i&&(Region.ready .any all listed).contains i)=true)(hy:∀S w ρ a,HRel S w ρ H.get→FRel S w ρ a n F→Yld P S w ρ a o.type o.op v)(J:bA F all o.guard=some true)(h1:F.puto o.dst (some v) id=F1)(k:Go P K Q (.drw all L m fuel (listed.setIfInBounds i true)) s n F1 H):Go P K Q (.drw all L m (fuel+1) listed) s n F H:=by
 rw[Fm.puto_eq]at h1;subst h1;simp only[Bool.and_eq_true,Bool.not_eq_true']at G;exact Nk G.1.1 hi G.1.2 G.2 J hy k
theorem bD{v:V}(i:Nat)(hi:all[i]?=some o)(G:Region.ready .any all listed=[i])(hy:∀S w ρ a,HRel S w ρ H.get→FRel S w ρ a n F→Yld P S w ρ a o.type o.op v)(J:bA F all o.guard=some true)(h1:F.puto o.dst (some v) id=F1)(k:Go P K Q (.drw all L m fuel (listed.setIfInBounds i true)) s n F1 H):Go P K Q (.drw all L m (fuel+1) listed) s n F H:=by
 rw[Fm.puto_eq]at h1;subst h1;exact Kv G hi J hy k
theorem gDo{v:Option V}(ed:ED)(G:∀S w ρ a,HRel S w ρ H.get→FRel S w ρ a n F→Does P S w ρ H.get a o.type o.op v (ed.app H.get H.nx) ed.tch)(J:ed.ok H.get)(O:bA F all o.guard=some true)(h1:F.puto o.dst (Gg v) id=F1)(h2:H.ap ed id=H1)(k:Go P K Q (.ops all rest) s n F1 H1):Go P K Q (.ops all (o::rest)) s n F H:=by
 rw[Fm.puto_eq]at h1;rw[Hp.ap_eq]at h2;subst h1 h2;exact go_opD O G J k
theorem bh{v:Option V}(i:Nat)(ed:ED)(hi:all[i]?=some o)(G:Region.ready .any all listed=[i])(J:∀S w ρ a,HRel S w ρ H.get→FRel S w ρ a n F→Does P S w ρ H.get a o.type o.op v (ed.app H.get H.nx) ed.tch)(O:ed.ok H.get)(U:bA F all o.guard=some true)(Z:((dB H.get L&&ed.clear L)||(listed.setIfInBounds i true).getD m false)=true)(h1:F.puto o.dst (Gg v) id=F1)(h2:H.ap ed id=H1)(k:Go P K Q (.drw all L m fuel (listed.setIfInBounds i true)) s n F1 H1):Go P K Q (.drw all L m (fuel+1) listed) s n F H:=by
 rw[Fm.puto_eq]at h1;rw[Hp.ap_eq]at h2;subst h1 h2;exact DU G hi U J O Z k
theorem bI{y:Operand}{by_ id:Nat}{news:List V}{v:V}{ty:TypeId}(G:TabOk P T)(ht:slB T t=some (e,sz,by_))(hx:aM F x=some (.sl id))(J:H.get id=.row e sz els)(hy:aM F y=some v)(hs:FN H.get sz v=some news)(O:els++news=els')(hb:els'.length≤1000000000):
  ∀S w ρ a,HRel S w ρ H.get→FRel S w ρ a n F→Does P S w ρ H.get a ty (.call {callee:=.builtin .append,args:=#[x,y],argTypes:=#[t,t]}) (some (.sl H.nx)) ((ED.repl id (.row e sz els')).app H.get H.nx) (ED.repl id (.row e sz els')).tch:=by
 subst O;exact dAp G ht hx J hy hs (by simpa using hb)
theorem okR{id:Nat}(G:H.get id=.row e sz els):(ED.repl id o').ok H.get:=by exact⟨by rw[G];simp,by rw[G];simp⟩
theorem okS{id:Nat}(G:H.get id=.row e sz els):(ED.set id o').ok H.get:=by exact⟨by rw[G];simp,by rw[G];simp⟩
theorem dTr(J:TabOk P T){y:Operand}{id:Nat}{ty:TypeId}(ht:slT T t=some (e,sz))(hx:aM F x=some (.sl id))(O:H.get id=.row e sz els)(hy:aM F y=some (.int .i64 (k:Int)))(U:k≤els.length)(Z:els.take k=els'):
  ∀S w ρ a,HRel S w ρ H.get→FRel S w ρ a n F→Does P S w ρ H.get a ty (.slice t x none (some y) none) (some (.sl H.nx)) ((ED.repl id (.row e sz els')).app H.get H.nx) (ED.repl id (.row e sz els')).tch:=λS w ρ a hr G=>by
 subst Z;exact Ho hr G.fr H.get_free (au G hx) (au G hy) O (rD J ht).1 (rD J ht).2 U
theorem dLe(O:TabOk P T){id o:Nat}{v0 v:V}(ht:T.ty t=some td)(hx:aM F x=some (.el id sz i o))(J:H.get id=.row e sz els)(hi:els[i]?=some v0)(hv:rh td v0.cells o=some v):
  ∀S w ρ a,HRel S w ρ H.get→FRel S w ρ a n F→Does P S w ρ H.get a ty (.load t x) (some v) (ED.nop.app H.get H.nx) ED.nop.tch:=λS w ρ a hr G=>by
 rcases sK (O.ty _ _ ht) hv with⟨h1,h2⟩|⟨h1,h2,rfl⟩
 ·exact GT hr G.fr (au G hx) J h1 hi h2
 ·exact Fu hr G.fr (au G hx) J h1 hi h2
theorem dSe(U:TabOk P T){y:Operand}{id o:Nat}{v0 v:V}(ht:T.ty t=some td)(hx:aM F x=some (.el id sz i o))(hy:aM F y=some v)(Z:H.get id=.row e sz els)(hi:els[i]?=some v0)(O:(Nat.beq v.cells.length td.size&&v.cells.all V.one&&Nat.ble (o+td.size) v0.cells.length&&(match v0 with|.agg _=>true|v0=>v0.one&&v.one))=true)(he:els.set i (v0.over o v.cells)=els'):
  ∀S w ρ a,HRel S w ρ H.get→FRel S w ρ a n F→Does P S w ρ H.get a ty (.store t x y) none ((ED.set id (.row e sz els')).app H.get H.nx) (ED.set id (.row e sz els')).tch:=λS w ρ a hr G=>by
 subst he;simp only[Bool.and_eq_true]at O;obtain⟨⟨⟨h1,h2⟩,h3⟩,J⟩:=O;exact AQ hr G.fr (au G hx) (au G hy) Z (U.ty _ _ ht).size hi (Nat.eq_of_beq_eq_true h1) h2 (Nat.le_of_ble_eq_true h3) (by
  cases v0 with
  |agg cs=>exact .inl ⟨cs,rfl⟩
  |_=>simp only[Bool.and_eq_true]at J;exact .inr ⟨xu J.1,xu J.2⟩)
theorem dMk(hT:TabOk P T){y:Operand}{m:Nat}{G:V}{tz:TD}(ht:T.ty t=some tz)(J:(match tz.kind with|.sl e'=>Nat.beq e e'|_=>false)=true)(O:T.ty e=some td)(hx:aM F x=some (.int .i64 (m:Int)))(hy:aM F y=some (.int .i64 (m:Int)))(hsz:td.size=sz)(U:td.zero=G)(Z:(Nat.blt 0 td.size&&Nat.ble td.bytes 1000)=true)(hm:m≤1000000000):
  ∀S w ρ a,HRel S w ρ H.get→FRel S w ρ a n F→Does P S w ρ H.get a ty (.makeSlice t x y) (some (.sl H.nx)) ((ED.new (.row e sz (List.replicate m G))).app H.get H.nx) (ED.new (.row e sz (List.replicate m G))).tch:=λS w ρ a hr hF=>by
 subst hsz U;simp only[Bool.and_eq_true,Nat.blt_eq]at Z;obtain⟨z,h1,h2,h3,h4⟩:=(hT.ty _ _ O).info;have hsl:P.underlying t=some (.slice e):=by
  split at J
  ·rename_i e' he';have :=Nat.eq_of_beq_eq_true J;subst this;exact(hT.ty _ _ ht).sl he'
  ·cases J
 have hb:td.bytes≤1000:=Nat.le_of_ble_eq_true Z.2;exact Ln hr hF.fr H.get_free (au hF hx) (au hF hy) hsl h1 h3 Z.1 h4 h2 (Nat.le_trans (Nat.mul_le_mul hb hm) (by decide)) (by simp only[maxLen];omega)
theorem gCn{tys:Array TypeId}{d:Option Tmp}{ty:TypeId}{ps:String}{af:Array Edge}(i:Nat)(e:TypeId)(sz:Nat)(J:bv PL P fid us H0 Post)(σ:List Nat)(O:dg P fid=true)(U:bA F all g=some true)(hv:gz F args=some vs)(G:vs[i]?=some .nils)(h2:H.ap (.new (.row e sz [])) id=H1)(hs:aK (vs.set i (.sl H.nx)) (renL σ us))(hH:leH σ H1 H0.es)(Z:(dx σ&&Nat.beq σ.length H0.nx&&σ.all λi=>Nat.blt i H1.nx)=true)
  (k:∀v H',Post v H'→Go P K Q (.ops all rest) s n (F.seto d (some (v.ren (sgN PL H1.nx H0.get H'.nx σ 0)))) (pC PL H1 σ H0 H')):Go P K Q (.ops all (⟨d,.call {callee:=.value (.func fid),args:=args.toArray,argTypes:=tys},ty,ps,af,g⟩::rest)) s n F H:=by
 rw[Hp.ap_eq]at h2;subst h2;exact go_opC (o:=⟨d,.call {callee:=.value (.func fid),args:=args.toArray,argTypes:=tys},ty,ps,af,g⟩) O rfl U hv (KC i e sz G (uE J σ hs hH Z [] (by simp[dB]))) λv' H'' ⟨v,H',hP,e1,e2⟩=>by subst e1 e2;exact k v H' hP
end
abbrev qS(f:FuncId)(a:List V)(r:V):Prop:=sF prog f a r
abbrev qLG(K:Ctx)(fn:Func)(Q:V→Hp→Prop)(c:Code)(s:List EI)(n:Nat)(F:Fm)(H:Hp):Prop:=Go prog K (bodyPost prog fn (SP K Q)) (.code c) s n F H
variable{A B C D:Prop}
section
variable{P:Program}{K:Ctx}{Q:Exit→Act→World→Prop}{p:EP}{s:List EI}{n:Nat}{F F1 F2 F3 F4:Fm}{H:Hp}
theorem qBh{e:Bool}(d:Nat)(G:F.get d=some (.bool e))(h1:F.put d (some (.bool true)) id=F1)(h2:F.put d (some (.bool false)) id=F2)(h:(A→C)∧(B→D))(a:e=true→A)(b:e=false→B)(kT:C→Go P K Q p s n F1 H)(kF:D→Go P K Q p s n F2 H):Go P K Q p s n F H:=gB d G h1 h2 (λz=>kT (h.1 (a z))) (λz=>kF (h.2 (b z)))
theorem qBi{e:Bool}(d:Nat)(G:F.get d=some (.bool e))(h1:F.put d (some (.bool true)) id=F1)(h2:F.put d (some (.bool false)) id=F2)(h:(e=true→C)∧(e=false→D))(kT:C→Go P K Q p s n F1 H)(kF:D→Go P K Q p s n F2 H):Go P K Q p s n F H:=qBh d G h1 h2 h id id kT kF
theorem qBe[BEq α][LawfulBEq α]{x y:α}(d:Nat)(G:F.get d=some (.bool (x==y)))(h1:F.put d (some (.bool true)) id=F1)(h2:F.put d (some (.bool false)) id=F2)(h:(x=y→C)∧(x≠y→D))(kT:C→Go P K Q p s n F1 H)(kF:D→Go P K Q p s n F2 H):Go P K Q p s n F H:=qBh d G h1 h2 h eq_of_beq ne_of_beq_false kT kF
theorem qBd{x:Prop}[Decidable x](d:Nat)(G:F.get d=some (.bool (decide x)))(h1:F.put d (some (.bool true)) id=F1)(h2:F.put d (some (.bool false)) id=F2)(h:(x→C)∧(¬x→D))(kT:C→Go P K Q p s n F1 H)(kF:D→Go P K Q p s n F2 H):Go P K Q p s n F H:=qBh d G h1 h2 h of_decide_eq_true of_decide_eq_false kT kF
theorem qBhZ{e:Bool}(d i:Nat)(G:F.get d=some (.bool e))(hi:Fm.get (F.set d none) i=some (.bool e))(h1:F.put d (some (.bool true)) (λF=>F.put i (some (.bool true)) id)=F3)(h2:F.put d (some (.bool false)) (λF=>F.put i (some (.bool false)) id)=F4)(h:(A→C)∧(B→D))(a:e=true→A)(b:e=false→B)(kT:C→Go P K Q p s n F3 H)(kF:D→Go P K Q p s n F4 H):Go P K Q p s n F H:=by
 rw[Fm.put_eq,Fm.put_eq]at h1 h2;have w (v:V):Fm.get (F.set d (some v)) i=some (.bool e):=by
  rw[Fm.get_eq,List.getElem?_set]at hi⊢;split at hi
  ·split at hi<;>simp at hi
  ·rename_i e;rw[if_neg e];exact hi
 exact gB d G (Fm.put_eq ..) (Fm.put_eq ..) (λz=>gT i (w _) z ((Fm.put_eq ..).trans h1) (kT (h.1 (a z)))) (λz=>gF i (w _) z ((Fm.put_eq ..).trans h2) (kF (h.2 (b z))))
theorem qBiZ{e:Bool}(d i:Nat)(G:F.get d=some (.bool e))(hi:Fm.get (F.set d none) i=some (.bool e))(h1:F.put d (some (.bool true)) (λF=>F.put i (some (.bool true)) id)=F3)(h2:F.put d (some (.bool false)) (λF=>F.put i (some (.bool false)) id)=F4)(h:(e=true→C)∧(e=false→D))(kT:C→Go P K Q p s n F3 H)(kF:D→Go P K Q p s n F4 H):Go P K Q p s n F H:=qBhZ d i G hi h1 h2 h id id kT kF
theorem qBeZ[BEq α][LawfulBEq α]{x y:α}(d i:Nat)(G:F.get d=some (.bool (x==y)))(hi:Fm.get (F.set d none) i=some (.bool (x==y)))(h1:F.put d (some (.bool true)) (λF=>F.put i (some (.bool true)) id)=F3)(h2:F.put d (some (.bool false)) (λF=>F.put i (some (.bool false)) id)=F4)(h:(x=y→C)∧(x≠y→D))(kT:C→Go P K Q p s n F3 H)(kF:D→Go P K Q p s n F4 H):Go P K Q p s n F H:=qBhZ d i G hi h1 h2 h eq_of_beq ne_of_beq_false kT kF
theorem qBdZ{x:Prop}[Decidable x](d i:Nat)(G:F.get d=some (.bool (decide x)))(hi:Fm.get (F.set d none) i=some (.bool (decide x)))(h1:F.put d (some (.bool true)) (λF=>F.put i (some (.bool true)) id)=F3)(h2:F.put d (some (.bool false)) (λF=>F.put i (some (.bool false)) id)=F4)(h:(x→C)∧(¬x→D))(kT:C→Go P K Q p s n F3 H)(kF:D→Go P K Q p s n F4 H):Go P K Q p s n F H:=qBhZ d i G hi h1 h2 h of_decide_eq_true of_decide_eq_false kT kF
end
section
variable{K:Ctx}{Q:Exit→Act→World→Prop}{s:List EI}{n:Nat}{F:Fm}{H H0 H1:Hp}{all:Array Oper}{rest:List Oper}{L PL:List Nat}{m fuel:Nat}{listed:Array Bool}{fid:FuncId}{args:List Operand}{tys:Array TypeId}{vs us:List V}{v1:V}{d:Option Tmp}{ty:TypeId}{ps:String}{af:Array Edge}{g:Option (Nat×Bool)}
end
theorem pqq{v:V}:∃u,some v=some u∧cJ u v:=⟨v,rfl,cJ.rfl⟩
variable{a0:V}
theorem pq1:(∃u,some a0=some u∧cJ u a0)∧True:=⟨pqq,trivial⟩
variable{a1:V}
theorem pq2:(∃u,some a0=some u∧cJ u a0)∧(∃u,some a1=some u∧cJ u a1)∧True:=⟨pqq,pqq,trivial⟩
theorem pq3{G:V}:(∃u,some a0=some u∧cJ u a0)∧(∃u,some a1=some u∧cJ u a1)∧(∃u,some G=some u∧cJ u G)∧True:=⟨pqq,pqq,pqq,trivial⟩
theorem pq4{G J:V}:(∃u,some a0=some u∧cJ u a0)∧(∃u,some a1=some u∧cJ u a1)∧(∃u,some G=some u∧cJ u G)∧(∃u,some J=some u∧cJ u J)∧True:=⟨pqq,pqq,pqq,pqq,trivial⟩
theorem pq7{G J O U Z:V}:(∃u,some a0=some u∧cJ u a0)∧(∃u,some a1=some u∧cJ u a1)∧(∃u,some G=some u∧cJ u G)∧(∃u,some J=some u∧cJ u J)∧(∃u,some O=some u∧cJ u O)∧(∃u,some U=some u∧cJ u U)∧(∃u,some Z=some u∧cJ u Z)∧True:=⟨pqq,pqq,pqq,pqq,pqq,pqq,pqq,trivial⟩
theorem pqo{x:Option Nat}(h1:x=some i)(h2:H.get i=.var t cs):∃i,x=some i∧nv (H.get i) (.var t cs):=⟨i,h1,by rw[h2];exact⟨rfl,aK.rfl⟩⟩
theorem pqo1{G:Option Nat}{J:Nat}{O:TypeId}{U:List V}(Z:G=some J)(k0:H.get J=.var O U):(∃i,G=some i∧nv (H.get i) (.var O U))∧True:=⟨pqo Z k0,trivial⟩
theorem pqo2{G:Option Nat}{J:Nat}{O:TypeId}{U:List V}(h0:G=some J)(k0:H.get J=.var O U){Z:Option Nat}{i1:Nat}{t1:TypeId}{c1:List V}(h1:Z=some i1)(k1:H.get i1=.var t1 c1):(∃i,G=some i∧nv (H.get i) (.var O U))∧(∃i,Z=some i∧nv (H.get i) (.var t1 c1))∧True:=⟨pqo h0 k0,pqo h1 k1,trivial⟩
theorem pqo3{G:Option Nat}{J:Nat}{O:TypeId}{U:List V}(h0:G=some J)(k0:H.get J=.var O U){Z:Option Nat}{i1:Nat}{t1:TypeId}{c1:List V}(h1:Z=some i1)(k1:H.get i1=.var t1 c1){x2:Option Nat}{i2:Nat}{t2:TypeId}{c2:List V}(h2:x2=some i2)(k2:H.get i2=.var t2 c2):(∃i,G=some i∧nv (H.get i) (.var O U))∧(∃i,Z=some i∧nv (H.get i) (.var t1 c1))∧(∃i,x2=some i∧nv (H.get i) (.var t2 c2))∧True:=⟨pqo h0 k0,pqo h1 k1,pqo h2 k2,trivial⟩
section
variable{P:Program}{K:Ctx}{Q:Exit→Act→World→Prop}{p:EP}{s:List EI}{n:Nat}{F F1 F2 F3 F4:Fm}{H:Hp}
theorem qXh{e:Bool}(d:Nat)(G:F.get d=some (.bool e))(h1:F.put d (some (.bool true)) id=F1)(h2:F.put d (some (.bool false)) id=F2)(h:(A→C)∧(B→D))(a:e=true→A)(b:e=false→B)(kT:A→C→Go P K Q p s n F1 H)(kF:B→D→Go P K Q p s n F2 H):Go P K Q p s n F H:=gB d G h1 h2 (λz=>kT (a z) (h.1 (a z))) (λz=>kF (b z) (h.2 (b z)))
theorem qXi{e:Bool}(d:Nat)(G:F.get d=some (.bool e))(h1:F.put d (some (.bool true)) id=F1)(h2:F.put d (some (.bool false)) id=F2)(h:(e=true→C)∧(e=false→D))(kT:e=true→C→Go P K Q p s n F1 H)(kF:e=false→D→Go P K Q p s n F2 H):Go P K Q p s n F H:=qXh d G h1 h2 h id id kT kF
theorem qXe[BEq α][LawfulBEq α]{x y:α}(d:Nat)(G:F.get d=some (.bool (x==y)))(h1:F.put d (some (.bool true)) id=F1)(h2:F.put d (some (.bool false)) id=F2)(h:(x=y→C)∧(x≠y→D))(kT:x=y→C→Go P K Q p s n F1 H)(kF:x≠y→D→Go P K Q p s n F2 H):Go P K Q p s n F H:=qXh d G h1 h2 h eq_of_beq ne_of_beq_false kT kF
theorem qXd{x:Prop}[Decidable x](d:Nat)(G:F.get d=some (.bool (decide x)))(h1:F.put d (some (.bool true)) id=F1)(h2:F.put d (some (.bool false)) id=F2)(h:(x→C)∧(¬x→D))(kT:x→C→Go P K Q p s n F1 H)(kF:¬x→D→Go P K Q p s n F2 H):Go P K Q p s n F H:=qXh d G h1 h2 h of_decide_eq_true of_decide_eq_false kT kF
theorem qXhZ{e:Bool}(d i:Nat)(G:F.get d=some (.bool e))(hi:Fm.get (F.set d none) i=some (.bool e))(h1:F.put d (some (.bool true)) (λF=>F.put i (some (.bool true)) id)=F3)(h2:F.put d (some (.bool false)) (λF=>F.put i (some (.bool false)) id)=F4)(h:(A→C)∧(B→D))(a:e=true→A)(b:e=false→B)(kT:A→C→Go P K Q p s n F3 H)(kF:B→D→Go P K Q p s n F4 H):Go P K Q p s n F H:=qBhZ (A:=A) (B:=B) (C:=A∧C) (D:=B∧D) d i G hi h1 h2 ⟨λx=>⟨x,h.1 x⟩,λx=>⟨x,h.2 x⟩⟩ a b (λz=>kT z.1 z.2) (λz=>kF z.1 z.2)
theorem qXiZ{e:Bool}(d i:Nat)(G:F.get d=some (.bool e))(hi:Fm.get (F.set d none) i=some (.bool e))(h1:F.put d (some (.bool true)) (λF=>F.put i (some (.bool true)) id)=F3)(h2:F.put d (some (.bool false)) (λF=>F.put i (some (.bool false)) id)=F4)(h:(e=true→C)∧(e=false→D))(kT:e=true→C→Go P K Q p s n F3 H)(kF:e=false→D→Go P K Q p s n F4 H):Go P K Q p s n F H:=qXhZ d i G hi h1 h2 h id id kT kF
theorem qXeZ[BEq α][LawfulBEq α]{x y:α}(d i:Nat)(G:F.get d=some (.bool (x==y)))(hi:Fm.get (F.set d none) i=some (.bool (x==y)))(h1:F.put d (some (.bool true)) (λF=>F.put i (some (.bool true)) id)=F3)(h2:F.put d (some (.bool false)) (λF=>F.put i (some (.bool false)) id)=F4)(h:(x=y→C)∧(x≠y→D))(kT:x=y→C→Go P K Q p s n F3 H)(kF:x≠y→D→Go P K Q p s n F4 H):Go P K Q p s n F H:=qXhZ d i G hi h1 h2 h eq_of_beq ne_of_beq_false kT kF
theorem qXdZ{x:Prop}[Decidable x](d i:Nat)(G:F.get d=some (.bool (decide x)))(hi:Fm.get (F.set d none) i=some (.bool (decide x)))(h1:F.put d (some (.bool true)) (λF=>F.put i (some (.bool true)) id)=F3)(h2:F.put d (some (.bool false)) (λF=>F.put i (some (.bool false)) id)=F4)(h:(x→C)∧(¬x→D))(kT:x→C→Go P K Q p s n F3 H)(kF:¬x→D→Go P K Q p s n F4 H):Go P K Q p s n F H:=qXhZ d i G hi h1 h2 h of_decide_eq_true of_decide_eq_false kT kF
theorem qG{l:List α}{x:α}(h:l[i]?=some x):i<l.length:=(List.getElem?_eq_some_iff.1 h).1
theorem qj{m:Nat}{R:Ctx→Prop}{B:Ctx→Nat→Prop}(h:∀K j,R K→m+1≤j+1→B K (j+1)):∀K j,R K→m+1≤j→B K j:=λK j a b=>by
 obtain⟨j,rfl⟩:∃i,j=i+1:=⟨j-1,by omega⟩;exact h K j a b
end
section
variable{P:Program}{T:Tab}{K:Ctx}{Q:Exit→Act→World→Prop}{p:EP}{s:List EI}{n:Nat}{F F':Fm}{H H':Hp}{pv:List Nat}
theorem qJ(G:aw K pv)(k:Go P K Q p s n F' H')(σ:List Nat)(J:leF σ F F':=by repeat (first|exact trivial|refine⟨pqq,?_⟩))(hH:leH σ H H'.es:=by repeat (first|exact trivial|refine⟨⟨_,rfl,by first|exact⟨rfl,aK.rfl⟩|exact⟨rfl,rfl,(om _ _ (λ_=>rfl) _).symm⟩|exact⟨rfl,rfl,(Ct _ _).symm⟩|exact⟨rfl,rfl,rfl⟩|exact⟨rfl,rfl,rfl,rfl⟩⟩,?_⟩))(O:p.still=true:=by rfl)(U:(dx σ&&Nat.ble σ.length H'.nx&&yi σ pv&&Nat.ble F'.length n)=true:=by rfl):Go P K Q p s n F H:=go_sub σ pv O G J hH U k
theorem qW{m:Nat}{Q:Ctx→Exit→Act→World→Prop}{s:Ctx→Nat→List EI}(G:aw K pv)(h:∀K j,aw K pv→m≤j→Go P K (Q K) p (s K j) n F' H')(σ:List Nat)(J:leF σ F F':=by repeat (first|exact trivial|refine⟨pqq,?_⟩))(hH:leH σ H H'.es:=by repeat (first|exact trivial|refine⟨⟨_,rfl,by first|exact⟨rfl,aK.rfl⟩|exact⟨rfl,rfl,(om _ _ (λ_=>rfl) _).symm⟩|exact⟨rfl,rfl,(Ct _ _).symm⟩|exact⟨rfl,rfl,rfl⟩|exact⟨rfl,rfl,rfl,rfl⟩⟩,?_⟩))(O:p.still=true:=by rfl)(U:(dx σ&&Nat.ble σ.length H'.nx&&yi σ pv&&Nat.ble F'.length n)=true:=by rfl)(Z:m≤j:=by omega):Go P K (Q K) p (s K j) n F H:=go_sub σ pv O G J hH U (h K j G Z)
theorem qJH(G:aw K pv)(k:Go P K Q p s n F' H')(σ:List Nat)(hH:leH σ H H'.es)(J:leF σ F F':=by repeat (first|exact trivial|refine⟨pqq,?_⟩))(O:p.still=true:=by rfl)(U:(dx σ&&Nat.ble σ.length H'.nx&&yi σ pv&&Nat.ble F'.length n)=true:=by rfl):Go P K Q p s n F H:=go_sub σ pv O G J hH U k
theorem gE{fn:Func}{v0:V}{H0:Hp}{vs:List V}{e:Exit}(J:aw K pv)(X:List (Nat×Ob))(L:List (Nat×V))(σ:List Nat)(rs:List ResultVar)(hF:leF σ F (mkF n 0 L):=by repeat (first|exact trivial|refine⟨pqq,?_⟩))(hH:leH σ H (X++H0.es):=by repeat (first|exact trivial|refine⟨⟨_,rfl,by first|exact⟨rfl,aK.rfl⟩|exact⟨rfl,rfl,(om _ _ (λ_=>rfl) _).symm⟩|exact⟨rfl,rfl,(Ct _ _).symm⟩|exact⟨rfl,rfl,rfl⟩|exact⟨rfl,rfl,rfl,rfl⟩⟩,?_⟩))(hc:(dx σ&&Nat.ble σ.length H0.nx&&yi σ pv&&Nat.ble (mkF n 0 L).length n)=true:=by rfl)(O:fn.results=rs.toArray:=by rfl)(hv:uU Cq (⟨H0.nx,X++H0.es⟩:Hp).get (mkF n 0 L) rs=some vs:=by rfl)(U:mD vs=v0:=by rfl)(Z:(⟨H0.nx,rm (X.map (·.1)) (X++H0.es)⟩:Hp)=H0:=by rfl)(he:e=.ret∨e=.normal:=by first|exact .inl rfl|exact .inr rfl):Go prog K (bodyPost prog fn (SP K λu G=>u=v0∧G=H0)) (.ex e) [] n F H:=go_sub (F':=mkF n 0 L) (H':=⟨H0.nx,X++H0.es⟩) σ pv rfl J hF hH hc (NR (X.map (·.1)) ai O hv ⟨U,Z⟩ he)
end
section
variable{K:Ctx}{Q:Exit→Act→World→Prop}{s:List EI}{n:Nat}{F F':Fm}{H H' H0 H1:Hp}{all:Array Oper}{rest:List Oper}{L PL:List Nat}{m fuel c:Nat}{listed:Array Bool}{fid:FuncId}{args:List Operand}{tys:Array TypeId}{vs us:List V}{v1:V}{d:Option Tmp}{ty:TypeId}{ps:String}{af:Array Edge}{g:Option (Nat×Bool)}
theorem qC(G:bv PL prog fid us H0 (λv H'=>v=v1∧H'=H1))(σ:List Nat)(k:Go prog K Q (.ops all rest) s n (F.seto d (some (v1.ren (sgN PL H.nx H0.get H1.nx σ 0)))) (pC PL H σ H0 H1))(J:dg prog fid=true:=by kernel_rfl)(O:bA F all g=some true:=by rfl)(hv:gz F args=some vs:=by rfl)(hs:aK vs (renL σ us):=by exact .rfl)(hH:leH σ H H0.es:=by repeat (first|exact trivial|refine⟨⟨_,rfl,by first|exact⟨rfl,aK.rfl⟩|exact⟨rfl,rfl,(om _ _ (λ_=>rfl) _).symm⟩|exact⟨rfl,rfl,(Ct _ _).symm⟩|exact⟨rfl,rfl,rfl⟩|exact⟨rfl,rfl,rfl,rfl⟩⟩,?_⟩))(U:(dx σ&&Nat.beq σ.length H0.nx&&σ.all λi=>Nat.blt i H.nx)=true:=by rfl):Go prog K Q (.ops all (⟨d,.call {callee:=.value (.func fid),args:=args.toArray,argTypes:=tys},ty,ps,af,g⟩::rest)) s n F H:=gC G σ J O hv hs hH U λ_ _ ⟨Z,e2⟩=>by subst Z e2;exact k
theorem qDC(i:Nat)(J:bv PL prog fid us H0 (λv H'=>v=v1∧H'=H1))(σ:List Nat)(hi:all[i]?=some ⟨d,.call {callee:=.value (.func fid),args:=args.toArray,argTypes:=tys},ty,ps,af,g⟩)(k:Go prog K Q (.drw all L m fuel (listed.setIfInBounds i true)) s n (F.seto d (some (v1.ren (sgN PL H.nx H0.get H1.nx σ 0)))) (pC PL H σ H0 H1))(O:dg prog fid=true:=by kernel_rfl)(G:Region.ready .any all listed=[i]:=by kernel_rfl)(U:bA F all g=some true:=by rfl)(hv:gz F args=some vs:=by rfl)(hs:aK vs (renL σ us):=by exact .rfl)(hH:leH σ H H0.es:=by repeat (first|exact trivial|refine⟨⟨_,rfl,by first|exact⟨rfl,aK.rfl⟩|exact⟨rfl,rfl,(om _ _ (λ_=>rfl) _).symm⟩|exact⟨rfl,rfl,(Ct _ _).symm⟩|exact⟨rfl,rfl,rfl⟩|exact⟨rfl,rfl,rfl,rfl⟩⟩,?_⟩))(Z:(dx σ&&Nat.beq σ.length H0.nx&&σ.all λi=>Nat.blt i H.nx)=true:=by kernel_rfl)(hL:(dB H.get L&&L.all λi=>!σ.contains i)=true:=by rfl):Go prog K Q (.drw all L m (fuel+1) listed) s n F H:=gDC i J σ O hi G U hv hs hH Z hL λ_ _ ⟨e1,e2⟩=>by subst e1 e2;exact k
theorem qC0{v:V}(G:sF prog fid us v)(h1:F.puto d (some v) id=F')(k:Go prog K Q (.ops all rest) s n F' H)(J:dg prog fid=true:=by kernel_rfl)(O:bA F all g=some true:=by rfl)(hv:gz F args=some vs:=by rfl)(hs:aK vs us:=by exact .rfl):Go prog K Q (.ops all (⟨d,.call {callee:=.value (.func fid),args:=args.toArray,argTypes:=tys},ty,ps,af,g⟩::rest)) s n F H:=gC0 G J O hv hs h1 k
theorem qDe(k:Go prog K Q (.ex .normal) s n F H)(G:Region.ready .any all listed=[]:=by kernel_rfl):Go prog K Q (.drw all L m fuel listed) s n F H:=gDe G k
theorem qA{c:Code}(N:Nat)(pv:List Nat)(hf:prog.funcs[fid]?=some fn)(k:∀K,aw K pv→Go prog K (bodyPost prog fn (SP K Post)) (.code c) [] N (pE N vs) H0)(hb:fn.body=some c:=by exact rfl)(J:fn.ntmps=N:=by exact rfl)(O:Nat.ble vs.length N=true:=by rfl)(G:∀i,mT PL i (H0.get i)=true→i∈pv:=by exact Ru rfl):bv PL prog fid vs H0 Post:=Lk N pv hf hb J O G k
theorem qN{Post:V→Hp→Prop}{e:Exit}(rs:List ResultVar)(G:fn.results=rs.toArray:=by exact rfl)(hv:uU Cq H.get F rs=some vs:=by exact rfl)(J:Post (mD vs) H:=by exact rfl)(O:e=.ret∨e=.normal:=by first|exact .inl rfl|exact .inr rfl):Go prog K (bodyPost prog fn (SP K Post)) (.ex e) [] n F H:=Rm ai G hv J O
@[reducible] def qR : Nat → Nat → Nat → List (Nat × Nat) → List (Nat × Nat)
 |_,0,_,r=>r
 |i,n+1,f,r=>(i,f)::qR (i+1) n f r
theorem qDr(is:List (Nat×Nat))(G:is.length=c)(hr:rS Cq all L is F H=some (F',H'))(k:Go prog K Q (.drw all L m fuel (JS is listed)) s n F' H')(J:Fv all m is listed=true:=by kernel_rfl):Go prog K Q (.drw all L m (fuel+c) listed) s n F H:=gDr is J G hr k
theorem qDs{id:Nat}{l:List Oper}(L:List Nat)(m sz:Nat)(k:Go prog K Q (.drw l.toArray L m sz (Array.replicate sz false)) s n F H)(hsz:l.length=sz:=by rfl)(G:prog.follows .mixedOrders=true:=by kernel_rfl)(hs:Region.noSelect l.toArray=true:=by kernel_rfl):Go prog K Q (.code (.region id l.toArray true)) s n F H:=gDs L m sz hsz G hs k
end
abbrev xA(c:Code):Code:=cB (cB c)
abbrev xB(c:Code):Code:=cE (cB c)
abbrev xC(c:Code):Code:=xB (xB c)
abbrev xD(c:Code):Code:=cK (cB c)
abbrev xE(c:Code):Code:=xD (cA c)
abbrev xF(c:Code):Code:=xA (cB c)
abbrev xG(c:Code):Code:=cL (xE c)
abbrev xH(c:Code):Code:=xA (xA c)
abbrev xI(c:Code):Code:=xC (xC c)
abbrev xJ(c:Code):Code:=cT (cB c)
abbrev xK(c:Code):Code:=xG (xF c)
abbrev xL(c:Code):Code:=xG (xA c)
abbrev xM(c:Code):Code:=cL (cK c)
abbrev xN(c:Code):Code:=xB (xE c)
set_option maxHeartbeats 4000000
abbrev vE(a0:Int)(a1:List UInt8):Ob:=.var 29 [.int .i64 a0,.str a1,.nils,.nils]
abbrev vD(a0:Int)(a1:List UInt8)(a2:List (List UInt8))(a3:List Tree):Ob:=.var 29 [.int .i64 a0,.str a1,.row 1 (List.map V.str a2),.row 4 (kidsV a3)]
def qH(G:Tree)(p1:List Int)(J:Tree)(O:Bool):Prop:=qS 27 [.agg (al G),.row 1 (List.map (V.int .i64) p1)] (.tup [.agg (al J),.bool O])
def dc(G p1:List Int)(J:Bool):Prop:=qS 21 [.row 1 (List.map (V.int .i64) G),.row 1 (List.map (V.int .i64) p1)] (.bool J)
def jY(G:(List (List UInt8)))(p1:(List (List UInt8)))(J:Bool):Prop:=qS 30 [.row 1 (List.map V.str G),.row 1 (List.map V.str p1)] (.bool J)
def qF(J O:List Int):Prop:=bv [0] prog 132 [.sl 0] ⟨1,[(0,.row 3 1 (List.map (V.int .i64) J))]⟩ (λu G=>u=.row 1 (List.map (V.int .i64) O)∧G=⟨1,[(0,.row 3 1 (List.map (V.int .i64) J))]⟩)
def lA(m:Nat)(p1:List Int)(a:Tree)(b:Nat)(J:Tree)(O:Bool):Prop:=∀(K:Ctx) (G:Nat),aw K []→m≤G→qLG K f27 (λu _=>u=.tup [.agg (al J),.bool O]) (xG (cB (aj f27))) [.loop (xG (cB (aj f27))) G,.blk 0,.seq (xA (aj f27))] 38 (mkF 38 0 [(1,.row 1 (List.map (V.int .i64) p1)),(2,.ptr 0 0),(4,.ptr 1 0),(6,qi (b:Int))]) ⟨2,[(1,vE 0 []),(0,.var 29 (al a))]⟩
theorem Aa(m:Nat)(p0:Tree)(p1:List Int)(r0:Tree)(r1:Bool)(h:lA m p1 p0 0 r0 r1):qH p0 p1 r0 r1:=by
 refine⟨rfl,rfl,?_⟩;refine qA 38 [] func27 λK hK=>?_;exact gR 14 rfl<|go_loop m<|qW hK h [0,1]
theorem tA(m:Nat)(p1:List Int)(a:Tree)(b:Nat)(G:Tree)(J:Bool)(h:((b<p1.length)→∃c,p1[b]?=some c∧((c<0)→(Tree.node 0 [] [] [])=G∧false=J)∧((¬c<0)→∃d,p1[b]?=some d∧(((a.kids.length:Int)≤d)→(Tree.node 0 [] [] [])=G∧false=J)∧((¬(a.kids.length:Int)≤d)→∃g,p1[b]?=some g∧∃e,g=((e:Nat):Int)∧∃i,a.kids[e]?=some i∧lA m p1 i (b+1) G J)))∧((¬b<p1.length)→a=G∧true=J)):lA (m+1) p1 a b G J:=by
 refine qj λK Z O r=>?_;refine gR 6 rfl<|gV 9 (qi (p1.length:Int)) rfl (aJ (aB (V.int .i64) _)) rfl<|gLB 8 rfl (aB (V.int .i64) _) λp=>gR 3 rfl<|qXh 10 rfl rfl rfl h bX bY ?_ ?_<;>intro U h;refine gR 7 rfl<|qDs [0] 12 15<|qDr [(0,2),(1,0)] rfl rfl ?_;obtain⟨c,j,h⟩:=h;refine bD 2 rfl (by kernel_rfl) (aC (ar (f:=(V.int .i64)) j) ai rfl rfl rfl rfl) rfl rfl ?_;refine qDr (qR 3 3 0 []) rfl rfl<|qXdZ 18 17 rfl rfl rfl rfl h ?_ ?_<;>intro U h;refine qDr (qR 6 4 2 (qR 10 4 0 [(14,1)])) rfl rfl<|qDe<|gR 13 rfl<|go_xloopR<|gR 2 rfl ?_;obtain⟨rfl,rfl⟩:=h;exact go_sub (F':=(mkF 38 0 [(4,.ptr 0 0),(5,.bool false)])) (H':=⟨1,[(0,vD ((Tree.node 0 [] [] []).kind) ((Tree.node 0 [] [] []).text) ((Tree.node 0 [] [] []).leads) ((Tree.node 0 [] [] []).kids))]⟩) [1] [] rfl O pq2 ⟨⟨_,rfl,rfl,(.cons .rfl (.cons .rfl (.cons (.nil 1) (.cons (.nil 4) .nil))))⟩,trivial⟩ rfl<|qN [.cell 4 29,.tmp 5];refine qDr [(6,2),(7,2)] rfl rfl ?_;obtain⟨d,k,h⟩:=h;refine gYd 8 rfl (by kernel_rfl) (aC (ar (f:=(V.int .i64)) k) ai rfl rfl rfl rfl) rfl rfl<|qDr [(9,2),(10,0),(11,0),(12,1)] rfl rfl<|gV 25 (qi (a.kids.length:Int)) rfl (aJ (aD _)) rfl<|gLB 24 rfl (aD _) λq=>qDr [(13,1),(14,1)] rfl rfl<|qDe<|gR 1 rfl<|qXd 27 rfl rfl rfl h ?_ ?_<;>intro U h;refine gR 12 rfl<|go_xloopR<|gR 2 rfl ?_;obtain⟨rfl,rfl⟩:=h;exact go_sub (F':=(mkF 38 0 [(4,.ptr 0 0),(5,.bool false)])) (H':=⟨1,[(0,vD ((Tree.node 0 [] [] []).kind) ((Tree.node 0 [] [] []).text) ((Tree.node 0 [] [] []).leads) ((Tree.node 0 [] [] []).kids))]⟩) [1] [] rfl O pq2 ⟨⟨_,rfl,rfl,(.cons .rfl (.cons .rfl (.cons (.nil 1) (.cons (.nil 4) .nil))))⟩,trivial⟩ rfl<|qN [.cell 4 29,.tmp 5];refine gR 3 rfl<|qDs [0] 8 9<|qDr [(0,2),(1,3),(2,2),(3,0)] rfl rfl ?_;obtain⟨g,l,h⟩:=h;refine bD 4 rfl (by kernel_rfl) (aC (ar (f:=(V.int .i64)) l) ai rfl rfl rfl rfl) rfl rfl ?_;refine qDr [(5,0)] rfl rfl ?_;obtain⟨e,o,h⟩:=h;refine gV 34 (qi ((e:Nat):Int)) rfl (aL o) rfl ?_;obtain⟨i,n,h⟩:=h;refine bD 6 rfl (by kernel_rfl) (aC (aq n) ai rfl rfl rfl rfl) rfl rfl ?_;exact qDr [(7,0),(8,1)] rfl rfl<|qDe<|gR 5 rfl<|gV 12 (qi ((b+1:Nat):Int)) rfl (ao (by have :=p;omega) (by omega)) rfl<|gR 2 rfl<|go_xloop<|qW O h [0,1];refine gR 3 rfl<|go_xloopE<|gR 10 rfl ?_;obtain⟨rfl,rfl⟩:=h;exact go_sub (F':=(mkF 38 0 [(4,.ptr 0 0),(5,.bool true)])) (H':=⟨1,[(0,vD a.kind a.text a.leads a.kids)]⟩) [1] [] rfl O pq2 (pqo1 rfl rfl) rfl<|qN [.cell 4 29,.tmp 5]
def eE(m:Nat)(J p1:List Int)(a:Nat)(O:Bool):Prop:=∀(K:Ctx) (G:Nat),aw K []→m≤G→qLG K f21 (λu _=>u=.bool O) (xL (aj f21)) [.loop (xL (aj f21)) G,.blk 0,.seq (xF (aj f21))] 26 (mkF 26 0 [(0,.row 1 (List.map (V.int .i64) J)),(1,.row 1 (List.map (V.int .i64) p1)),(5,qi (a:Int))]) ⟨0,[]⟩
theorem kh(m:Nat)(p0 p1:List Int)(r0:Bool)(h:((p0.length≠p1.length)→false=r0)∧((p0.length=p1.length)→eE m p0 p1 0 r0)):dc p0 p1 r0:=by
 refine⟨rfl,rfl,?_⟩;refine qA 26 [] func21 λK hK=>?_;refine gR 10 rfl<|gV 7 (qi (p0.length:Int)) rfl (aJ (aB (V.int .i64) _)) rfl<|gLB 6 rfl (aB (V.int .i64) _) λa=>gR 2 rfl<|gV 9 (qi (p1.length:Int)) rfl (aJ (aB (V.int .i64) _)) rfl<|gLB 8 rfl (aB (V.int .i64) _) λb=>gR 3 rfl<|qXh 10 rfl rfl rfl h AN AJ ?_ ?_<;>intro hd h;refine gR 8 rfl ?_;subst h;exact qN [.tmp 4];exact gR 10 rfl<|go_loop m<|qW hK h []
theorem gd(m:Nat)(G p1:List Int)(a:Nat)(J:Bool)(h:((a<G.length)→∃b,G[a]?=some b∧∃c,p1[a]?=some c∧((b≠c)→false=J)∧((b=c)→eE m G p1 (a+1) J))∧((¬a<G.length)→true=J)):eE (m+1) G p1 a J:=by
 refine qj λK Z O i=>?_;refine gR 6 rfl<|gV 13 (qi (G.length:Int)) rfl (aJ (aB (V.int .i64) _)) rfl<|gLB 12 rfl (aB (V.int .i64) _) λg=>gR 3 rfl<|qXh 14 rfl rfl rfl h bX bY ?_ ?_<;>intro U h;refine gR 6 rfl<|qDs [] 9 9<|qDr [(0,2),(1,2)] rfl rfl ?_;obtain⟨b,d,h⟩:=h;refine gYd 2 rfl (by kernel_rfl) (aC (ar (f:=(V.int .i64)) d) ai rfl rfl rfl rfl) rfl rfl<|qDr [(3,2),(4,2),(5,0)] rfl rfl ?_;obtain⟨c,e,h⟩:=h;refine bD 6 rfl (by kernel_rfl) (aC (ar (f:=(V.int .i64)) e) ai rfl rfl rfl rfl) rfl rfl ?_;refine qDr [(7,0),(8,0)] rfl rfl<|qDe<|gR 1 rfl<|qXh 25 rfl rfl rfl h dy cv ?_ ?_<;>intro U h;refine gR 9 rfl<|go_xloopR<|gR 2 rfl ?_;subst h;exact qN [.tmp 4];exact gR 7 rfl<|gV 16 (qi ((a+1:Nat):Int)) rfl (ao (by have :=g;omega) (by omega)) rfl<|gR 2 rfl<|go_xloop<|qW O h [];refine gR 3 rfl<|go_xloopE<|gR 8 rfl ?_;subst h;exact qN [.tmp 4]
def gh(m:Nat)(J:(List (List UInt8)))(p1:(List (List UInt8)))(a:Nat)(O:Bool):Prop:=∀(K:Ctx) (G:Nat),aw K []→m≤G→qLG K f30 (λu _=>u=.bool O) (xL (aj f30)) [.loop (xL (aj f30)) G,.blk 0,.seq (xF (aj f30))] 26 (mkF 26 0 [(0,.row 1 (List.map V.str J)),(1,.row 1 (List.map V.str p1)),(5,qi (a:Int))]) ⟨0,[]⟩
theorem vj(m:Nat)(p0:(List (List UInt8)))(p1:(List (List UInt8)))(r0:Bool)(h:((p0.length≠p1.length)→false=r0)∧((p0.length=p1.length)→gh m p0 p1 0 r0)):jY p0 p1 r0:=by
 refine⟨rfl,rfl,?_⟩;refine qA 26 [] func30 λK hK=>?_;refine gR 10 rfl<|gV 7 (qi (p0.length:Int)) rfl (aJ (aB V.str _)) rfl<|gLB 6 rfl (aB V.str _) λa=>gR 2 rfl<|gV 9 (qi (p1.length:Int)) rfl (aJ (aB V.str _)) rfl<|gLB 8 rfl (aB V.str _) λb=>gR 3 rfl<|qXh 10 rfl rfl rfl h AN AJ ?_ ?_<;>intro hd h;refine gR 8 rfl ?_;subst h;exact qN [.tmp 4];exact gR 10 rfl<|go_loop m<|qW hK h []
theorem nQ(m:Nat)(G:(List (List UInt8)))(p1:(List (List UInt8)))(a:Nat)(J:Bool)(h:((a<G.length)→∃b,G[a]?=some b∧∃c,p1[a]?=some c∧((b≠c)→false=J)∧((b=c)→gh m G p1 (a+1) J))∧((¬a<G.length)→true=J)):gh (m+1) G p1 a J:=by
 refine qj λK Z O i=>?_;refine gR 6 rfl<|gV 13 (qi (G.length:Int)) rfl (aJ (aB V.str _)) rfl<|gLB 12 rfl (aB V.str _) λg=>gR 3 rfl<|qXh 14 rfl rfl rfl h bX bY ?_ ?_<;>intro U h;refine gR 6 rfl<|qDs [] 9 9<|qDr [(0,2),(1,2)] rfl rfl ?_;obtain⟨b,d,h⟩:=h;refine gYd 2 rfl (by kernel_rfl) (aC (ar (f:=V.str) d) ai rfl rfl rfl rfl) rfl rfl<|qDr [(3,2),(4,2),(5,0)] rfl rfl ?_;obtain⟨c,e,h⟩:=h;refine bD 6 rfl (by kernel_rfl) (aC (ar (f:=V.str) e) ai rfl rfl rfl rfl) rfl rfl ?_;refine qDr [(7,0),(8,0)] rfl rfl<|qDe<|gR 1 rfl<|qXh 25 rfl rfl rfl h dy cv ?_ ?_<;>intro U h;refine gR 9 rfl<|go_xloopR<|gR 2 rfl ?_;subst h;exact qN [.tmp 4];exact gR 7 rfl<|gV 16 (qi ((a+1:Nat):Int)) rfl (ao (by have :=g;omega) (by omega)) rfl<|gR 2 rfl<|go_xloop<|qW O h [];refine gR 3 rfl<|go_xloopE<|gR 8 rfl ?_;subst h;exact qN [.tmp 4]
theorem Ad(m:Nat)(G J:List Int)(h:∀(a:Bool),(a=true→G.length=0)→((a=true)→[]=J)∧((a=false)→G.length≤1000000000∧G=J)):qF G J:=by
 refine qA 8 [0] func132 λK O=>?_;refine gR 9 rfl<|RL (N:=G.length) ai rfl rfl rfl rfl (aB (V.int .i64) G) λa hb=>?_;replace h:=h a hb;refine gR 2 rfl<|qBi 4 rfl rfl rfl h ?_ ?_<;>intro h;refine gR 8 rfl ?_;subst h;exact gE O [] [(2,.row 1 (List.map (V.int .i64) []))] [0] [.tmp 2] ⟨⟨_,rfl,(.nil 1)⟩,trivial⟩;refine gR 7 rfl ?_;obtain⟨hb,h⟩:=h;refine gDo (.repl 1 (.row 3 1 (List.map (V.int .i64) G))) (bI ai rfl rfl rfl rfl rfl (List.nil_append _) (by rw[aB];exact hb)) (okR rfl) rfl rfl rfl<|gR 4 rfl<|gFR 2 rfl (fR _ (λ_=>rfl) _) rfl rfl ?_;subst h;exact gE O [] [(2,.row 1 (List.map (V.int .i64) G))] [0] [.tmp 2]
def GO(G:List UInt8)(J:Int):Prop:=qS 126 [.str G] (qi J)
def yD(G:List UInt8)(J:Int):Prop:=qS 139 [.str G] (qi J)
def sw(G p1 J:Int):Prop:=qS 86 [qi G,qi p1] (qi J)
def hW(G p1 p2 J:Int):Prop:=qS 125 [qi G,qi p1,qi p2] (qi J)
def nN(G:Int)(J:Bool):Prop:=qS 129 [qi G] (.bool J)
def fF(G:Int)(J:Bool):Prop:=qS 128 [qi G] (.bool J)
def rn(G:Int)(J:Bool):Prop:=qS 130 [qi G] (.bool J)
def pF(G:List UInt8)(J:Bool):Prop:=qS 127 [.str G] (.bool J)
def rH(G:Int)(p1:List UInt8)(J:Bool):Prop:=qS 87 [qi G,.str p1] (.bool J)
def sP(G:Tree)(p1:Int)(J:Bool):Prop:=qS 88 [.agg (al G),qi p1] (.bool J)
def fX(G:Tree)(J:Bool):Prop:=qS 49 [.agg (al G)] (.bool J)
def gX(G p1 J:Int):Prop:=qS 100 [qi G,qi p1] (qi J)
def cW(G p1 p2 J:Int):Prop:=qS 138 [qi G,qi p1,qi p2] (qi J)
def jf(G:Int)(J:Bool):Prop:=qS 141 [qi G] (.bool J)
def fZ(G:Int)(J:Bool):Prop:=qS 28 [qi G] (.bool J)
def iY(G:Int)(J:Bool):Prop:=qS 142 [qi G] (.bool J)
def jM(G:List UInt8)(J:Bool):Prop:=qS 140 [.str G] (.bool J)
def lc(G:Int)(p1:List UInt8)(J:Bool):Prop:=qS 101 [qi G,.str p1] (.bool J)
def pL(G:Tree)(p1 p2:Int)(J:Bool):Prop:=qS 102 [.agg (al G),qi p1,qi p2] (.bool J)
def eh(G:Tree)(J:Bool):Prop:=qS 60 [.agg (al G)] (.bool J)
def aT(m:Nat)(p1:Int)(a b c:Nat)(d G:Int):Prop:=∀(K:Ctx),aw K []→qLG K f86 (λu _=>u=qi G) (xH (aj f86)) [] 69 (mkF 69 0 [(1,qi p1),(5,qi (a:Int)),(6,qi d),(7,qi (b:Int)),(8,qi (c:Int))]) ⟨0,[]⟩
def nO(m:Nat)(G p1:Int)(a:Bool)(J:Int):Prop:=∀(K:Ctx),aw K []→qLG K f86 (λu _=>u=qi J) (cB (xI (xN (xF (aj f86))))) [.blk 0,.seq (xH (aj f86))] 69 (mkF 69 0 [(1,qi p1),(5,qi 0),(6,qi 0),(7,qi 1),(8,qi 0),(9,qi G),(22,.bool a)]) ⟨0,[]⟩
def nI(m:Nat)(p1:Int)(a b c:Nat)(d G:Int):Prop:=∀(K:Ctx),aw K []→qLG K f86 (λu _=>u=qi G) (xA (xF (aj f86))) [] 69 (mkF 69 0 [(1,qi p1),(5,qi (a:Int)),(6,qi d),(7,qi (b:Int)),(8,qi (c:Int))]) ⟨0,[]⟩
theorem BW(m:Nat)(G p1 O:Int)(h:((G=1)→∃a,hW p1 0 3 a∧a=O)∧((G≠1)→((G=2)→aT m p1 2 6 2 (-1) O)∧((G≠2)→((G=16)→aT m p1 0 3 0 (-1) O)∧((G≠16)→((G=18)→aT m p1 1 2 0 (-1) O)∧((G≠18)→((G=3)→aT m p1 1 3 0 1 O)∧((G≠3)→((G=4)→nO m G p1 true O)∧((G≠4)→((G=8)→nO m G p1 true O)∧((G≠8)→nO m G p1 (G==22) O)))))))):sw G p1 O:=by
 refine⟨rfl,rfl,?_⟩;refine qA 69 [] func86 λK J=>?_;refine gR 30 rfl<|qBeZ 10 11 rfl rfl rfl rfl h ?_ ?_<;>intro h;refine gR 4 rfl ?_;obtain⟨a,b,h⟩:=h;refine qC0 b rfl<|gR 6 rfl ?_;subst h;exact qN [.tmp 4];refine gR 7 rfl<|qBeZ 14 15 rfl rfl rfl rfl h ?_ ?_<;>intro h;exact gR 9 rfl<|qJ J (h K J) [];refine gR 7 rfl<|qBeZ 16 17 rfl rfl rfl rfl h ?_ ?_<;>intro h;exact gR 9 rfl<|qJ J (h K J) [];refine gR 7 rfl<|qBeZ 18 19 rfl rfl rfl rfl h ?_ ?_<;>intro h;exact gR 9 rfl<|qJ J (h K J) [];refine gR 7 rfl<|qBeZ 20 21 rfl rfl rfl rfl h ?_ ?_<;>intro h;exact gR 8 rfl<|qJ J (h K J) [];refine gR 8 rfl<|qBeZ 22 23 rfl rfl rfl rfl h ?_ ?_<;>intro h;exact gR 3 rfl<|qJ J (h K J) [];refine gR 7 rfl<|qBeZ 22 24 rfl rfl rfl rfl h ?_ ?_<;>intro h;exact gR 3 rfl<|qJ J (h K J) [];exact gR 6 rfl<|qJ J (h K J) []
theorem AZ(m:Nat)(p1:Int)(b c d:Nat)(a G:Int)(h:((0≤a)→((a<p1)→(-1)=G)∧((¬a<p1)→nI m p1 b c d a G))∧((¬0≤a)→nI m p1 b c d a G)):aT (m+1) p1 b c d a G:=by
 intro K J;refine gR 6 rfl<|qBdZ 47 46 rfl rfl rfl rfl h ?_ ?_<;>intro h;refine gR 6 rfl<|qBd 51 rfl rfl rfl h ?_ ?_<;>intro h;refine gR 8 rfl ?_;subst h;exact qN [.tmp 4];exact gR 3 rfl<|qJ J (h K J) [];exact gR 9 rfl<|qJ J (h K J) []
theorem Au(m:Nat)(J p1:Int)(a:Bool)(O:Int)(h:((a=true)→aT m p1 1 2 0 1 O)∧((a=false)→((J=17)→aT m p1 1 0 0 1 O)∧((J≠17)→((J=19)→aT m p1 3 3 0 3 O)∧((J≠19)→((J=20)→aT m p1 2 4 0 2 O)∧((J≠20)→((J=21)→aT m p1 2 1 0 2 O)∧((J≠21)→((J=5)→aT m p1 0 1 0 0 O)∧((J≠5)→((J=6)→aT m p1 0 1 0 0 O)∧((J≠6)→((J=7)→aT m p1 0 1 0 0 O)∧((J≠7)→((J=9)→aT m p1 0 1 0 0 O)∧((J≠9)→((J=10)→aT m p1 0 1 0 0 O)∧((J≠10)→((J=11)→aT m p1 0 1 0 0 O)∧((J≠11)→((J=12)→aT m p1 0 1 0 0 O)∧((J≠12)→((J=13)→aT m p1 0 1 0 0 O)∧((J≠13)→((J=14)→aT m p1 0 1 0 0 O)∧((J≠14)→((J=15)→aT m p1 0 1 0 0 O)∧((J≠15)→(-1)=O)))))))))))))))):nO (m+1) J p1 a O:=by
 intro K G;refine qBi 22 rfl rfl rfl h ?_ ?_<;>intro h;exact gR 8 rfl<|qJ G (h K G) [];refine gR 7 rfl<|qBeZ 26 27 rfl rfl rfl rfl h ?_ ?_<;>intro h;exact gR 8 rfl<|qJ G (h K G) [];refine gR 7 rfl<|qBeZ 28 29 rfl rfl rfl rfl h ?_ ?_<;>intro h;exact gR 8 rfl<|qJ G (h K G) [];refine gR 7 rfl<|qBeZ 30 31 rfl rfl rfl rfl h ?_ ?_<;>intro h;exact gR 8 rfl<|qJ G (h K G) [];refine gR 7 rfl<|qBeZ 32 33 rfl rfl rfl rfl h ?_ ?_<;>intro h;exact gR 8 rfl<|qJ G (h K G) [];refine gR 8 rfl<|qBeZ 34 35 rfl rfl rfl rfl h ?_ ?_<;>intro h;exact gR 7 rfl<|qJ G (h K G) [];refine gR 7 rfl<|qBeZ 34 36 rfl rfl rfl rfl h ?_ ?_<;>intro h;exact gR 7 rfl<|qJ G (h K G) [];refine gR 7 rfl<|qBeZ 34 37 rfl rfl rfl rfl h ?_ ?_<;>intro h;exact gR 7 rfl<|qJ G (h K G) [];refine gR 7 rfl<|qBeZ 34 38 rfl rfl rfl rfl h ?_ ?_<;>intro h;exact gR 7 rfl<|qJ G (h K G) [];refine gR 7 rfl<|qBeZ 34 39 rfl rfl rfl rfl h ?_ ?_<;>intro h;exact gR 7 rfl<|qJ G (h K G) [];refine gR 7 rfl<|qBeZ 34 40 rfl rfl rfl rfl h ?_ ?_<;>intro h;exact gR 7 rfl<|qJ G (h K G) [];refine gR 7 rfl<|qBeZ 34 41 rfl rfl rfl rfl h ?_ ?_<;>intro h;exact gR 7 rfl<|qJ G (h K G) [];refine gR 7 rfl<|qBeZ 34 42 rfl rfl rfl rfl h ?_ ?_<;>intro h;exact gR 7 rfl<|qJ G (h K G) [];refine gR 7 rfl<|qBeZ 34 43 rfl rfl rfl rfl h ?_ ?_<;>intro h;exact gR 7 rfl<|qJ G (h K G) [];refine gR 6 rfl<|qBeZ 34 44 rfl rfl rfl rfl h ?_ ?_<;>intro h;exact gR 4 rfl<|qJ G (h K G) [];refine gR 9 rfl ?_;subst h;exact qN [.tmp 4]
theorem Ap(m:Nat)(p1:Int)(c b a:Nat)(d G:Int)(h:((d<0)→(((a:Int)<p1)→InI (p1-(a:Int))∧InI ((p1-(a:Int))-1)∧InI ((b:Int)+((p1-(a:Int))-1))∧∃e,hW p1 (c:Int) ((b:Int)+((p1-(a:Int))-1)) e∧e=G)∧((¬(a:Int)<p1)→∃f,hW p1 (c:Int) (b:Int) f∧f=G))∧((¬d<0)→∃g,hW p1 (c:Int) (b:Int) g∧g=G)):nI (m+1) p1 c b a d G:=by
 intro K J;refine gR 6 rfl<|qBdZ 54 53 rfl rfl rfl rfl h ?_ ?_<;>intro h;refine gR 6 rfl<|qBd 58 rfl rfl rfl h ?_ ?_<;>intro h;refine gR 5 rfl ?_;obtain⟨hb,h⟩:=h;refine gR 1 rfl<|gV 62 (qi (p1-(a:Int))) rfl (ao hb rfl) rfl ?_;obtain⟨hb,h⟩:=h;refine gR 1 rfl<|gV 63 (qi ((p1-(a:Int))-1)) rfl (ao hb rfl) rfl ?_;obtain⟨hb,h⟩:=h;refine gR 1 rfl<|gV 64 (qi ((b:Int)+((p1-(a:Int))-1))) rfl (ao hb rfl) rfl<|gR 8 rfl ?_;obtain⟨e,i,h⟩:=h;refine qC0 i rfl<|gR 4 rfl ?_;subst h;exact qN [.tmp 4];refine gR 8 rfl ?_;obtain⟨f,j,h⟩:=h;refine qC0 j rfl<|gR 4 rfl ?_;subst h;exact qN [.tmp 4];refine gR 14 rfl ?_;obtain⟨g,k,h⟩:=h;refine qC0 k rfl<|gR 4 rfl ?_;subst h;exact qN [.tmp 4]
theorem Ag(m:Nat)(G p1 p2 J:Int)(h:((G<p1)→(-1)=J)∧((¬G<p1)→p2=J)):hW G p1 p2 J:=by
 refine⟨rfl,rfl,?_⟩;refine qA 11 [] func125 λK O=>?_;refine gR 13 rfl<|qBd 9 rfl rfl rfl h ?_ ?_<;>intro h;refine gR 8 rfl ?_;subst h;exact qN [.tmp 6];refine gR 10 rfl ?_;subst h;exact qN [.tmp 6]
theorem AK(m:Nat)(G:Int)(J:Bool)(h:((5≤G)→decide (G≤9)=J)∧((¬5≤G)→false=J)):nN G J:=by
 refine⟨rfl,rfl,?_⟩;refine qA 9 [] func129 λK O=>?_;refine gR 10 rfl<|qBdZ 5 4 rfl rfl rfl rfl h ?_ ?_<;>intro h;refine gR 7 rfl ?_;subst h;exact qN [.tmp 2];refine gR 7 rfl ?_;subst h;exact qN [.tmp 2]
theorem wh(m:Nat)(G:Int)(J:Bool)(h:((10≤G)→((G≤22)→(G !=17)=J)∧((¬G≤22)→false=J))∧((¬10≤G)→false=J)):fF G J:=by
 refine⟨rfl,rfl,?_⟩;refine qA 13 [] func128 λK O=>?_;refine gR 10 rfl<|qBdZ 5 4 rfl rfl rfl rfl h ?_ ?_<;>intro h;refine gR 4 rfl<|qBdZ 9 8 rfl rfl rfl rfl h ?_ ?_<;>intro h;refine gR 7 rfl ?_;subst h;exact qN [.tmp 2];refine gR 7 rfl ?_;subst h;exact qN [.tmp 2];refine gR 11 rfl ?_;subst h;exact qN [.tmp 2]
theorem As(m:Nat)(G:Int)(J:Bool)(h:∃a,fF G a∧((a=true)→((G≠19)→((G≠20)→(G !=21)=J)∧((G=20)→false=J))∧((G=19)→false=J))∧((a=false)→false=J)):rn G J:=by
 refine⟨rfl,rfl,?_⟩;refine qA 17 [] func130 λK O=>?_;refine gR 8 rfl ?_;obtain⟨a,b,h⟩:=h;refine qC0 b rfl<|gR 1 rfl<|qBiZ 5 4 rfl rfl rfl rfl h ?_ ?_<;>intro h;refine gR 4 rfl<|qBhZ 9 8 rfl rfl rfl rfl h dy cv ?_ ?_<;>intro h;refine gR 4 rfl<|qBhZ 13 12 rfl rfl rfl rfl h dy cv ?_ ?_<;>intro h;refine gR 7 rfl ?_;subst h;exact qN [.tmp 2];refine gR 7 rfl ?_;subst h;exact qN [.tmp 2];refine gR 11 rfl ?_;subst h;exact qN [.tmp 2];refine gR 15 rfl ?_;subst h;exact qN [.tmp 2]
theorem zo(m:Nat)(G:List UInt8)(J:Bool)(h:((G=[43])→true=J)∧((G≠[43])→((G=[45])→true=J)∧((G≠[45])→((G=[42])→true=J)∧((G≠[42])→((G=[60])→true=J)∧((G≠[60])→((G=[61,61])→true=J)∧((G≠[61,61])→false=J)))))):pF G J:=by
 refine⟨rfl,rfl,?_⟩;refine qA 10 [] func127 λK O=>?_;refine gR 19 rfl<|qBeZ 4 5 rfl rfl rfl rfl h ?_ ?_<;>intro h;refine gR 12 rfl ?_;subst h;exact qN [.tmp 2];refine gR 7 rfl<|qBeZ 4 6 rfl rfl rfl rfl h ?_ ?_<;>intro h;refine gR 12 rfl ?_;subst h;exact qN [.tmp 2];refine gR 7 rfl<|qBeZ 4 7 rfl rfl rfl rfl h ?_ ?_<;>intro h;refine gR 12 rfl ?_;subst h;exact qN [.tmp 2];refine gR 7 rfl<|qBeZ 4 8 rfl rfl rfl rfl h ?_ ?_<;>intro h;refine gR 12 rfl ?_;subst h;exact qN [.tmp 2];refine gR 6 rfl<|qBeZ 4 9 rfl rfl rfl rfl h ?_ ?_<;>intro h;refine gR 9 rfl ?_;subst h;exact qN [.tmp 2];refine gR 10 rfl ?_;subst h;exact qN [.tmp 2]
def qu(m:Nat)(G:Int)(p1:List UInt8)(a:Int)(b J:Bool):Prop:=∀(K:Ctx),aw K []→qLG K f87 (λu _=>u=.bool J) (cB (xE (xA (aj f87)))) [.blk 0,.seq (xF (aj f87))] 51 (mkF 51 0 [(1,.str p1),(5,qi a),(8,qi G),(9,.bool b)]) ⟨0,[]⟩
def jG(m:Nat)(G:Int)(p1:List UInt8)(a:Int)(b J:Bool):Prop:=∀(K:Ctx),aw K []→qLG K f87 (λu _=>u=.bool J) (cB (xN (xA (aj f87)))) [.blk 0,.seq (xF (aj f87))] 51 (mkF 51 0 [(1,.str p1),(5,qi a),(8,qi G),(14,.bool b)]) ⟨0,[]⟩
theorem AA(m:Nat)(G:Int)(p1:List UInt8)(O:Bool)(h:∃a,GO p1 a∧((G=1)→qu m G p1 a true O)∧((G≠1)→qu m G p1 a (G==3) O)):rH G p1 O:=by
 refine⟨rfl,rfl,?_⟩;refine qA 51 [] func87 λK J=>?_;refine gR 8 rfl ?_;obtain⟨a,b,h⟩:=h;refine qC0 b rfl<|gR 17 rfl<|qBeZ 9 10 rfl rfl rfl rfl h ?_ ?_<;>intro h;exact gR 3 rfl<|qJ J (h K J) [];exact gR 6 rfl<|qJ J (h K J) []
theorem zY(m:Nat)(G:Int)(p1:List UInt8)(a:Int)(b O:Bool)(h:((b=true)→(a==2)=O)∧((b=false)→((G=2)→jG m G p1 a true O)∧((G≠2)→((G=4)→jG m G p1 a true O)∧((G≠4)→((G=12)→jG m G p1 a true O)∧((G≠12)→jG m G p1 a (G==20) O))))):qu (m+1) G p1 a b O:=by
 intro K J;refine qBi 9 rfl rfl rfl h ?_ ?_<;>intro h;refine gR 11 rfl ?_;subst h;exact qN [.tmp 4];refine gR 8 rfl<|qBeZ 14 15 rfl rfl rfl rfl h ?_ ?_<;>intro h;exact gR 3 rfl<|qJ J (h K J) [];refine gR 7 rfl<|qBeZ 14 16 rfl rfl rfl rfl h ?_ ?_<;>intro h;exact gR 3 rfl<|qJ J (h K J) [];refine gR 7 rfl<|qBeZ 14 17 rfl rfl rfl rfl h ?_ ?_<;>intro h;exact gR 3 rfl<|qJ J (h K J) [];exact gR 6 rfl<|qJ J (h K J) []
theorem zZ(m:Nat)(G:Int)(p1:List UInt8)(a:Int)(b J:Bool)(h:((b=true)→(a==1)=J)∧((b=false)→((G=9)→((a=2)→true=J)∧((a≠2)→(a==4)=J))∧((G≠9)→((G=16)→((a=1)→true=J)∧((a≠1)→(a==3)=J))∧((G≠16)→((G=10)→(a==5)=J)∧((G≠10)→((G=11)→(a==6)=J)∧((G≠11)→((G=21)→∃c,pF p1 c∧c=J)∧((G≠21)→(p1==[])=J))))))):jG (m+1) G p1 a b J:=by
 intro K O;refine qBi 14 rfl rfl rfl h ?_ ?_<;>intro h;refine gR 11 rfl ?_;subst h;exact qN [.tmp 4];refine gR 7 rfl<|qBeZ 21 22 rfl rfl rfl rfl h ?_ ?_<;>intro h;refine gR 6 rfl<|qBeZ 25 24 rfl rfl rfl rfl h ?_ ?_<;>intro h;refine gR 9 rfl ?_;subst h;exact qN [.tmp 4];refine gR 9 rfl ?_;subst h;exact qN [.tmp 4];refine gR 7 rfl<|qBeZ 29 30 rfl rfl rfl rfl h ?_ ?_<;>intro h;refine gR 6 rfl<|qBeZ 33 32 rfl rfl rfl rfl h ?_ ?_<;>intro h;refine gR 9 rfl ?_;subst h;exact qN [.tmp 4];refine gR 9 rfl ?_;subst h;exact qN [.tmp 4];refine gR 7 rfl<|qBeZ 37 38 rfl rfl rfl rfl h ?_ ?_<;>intro h;refine gR 11 rfl ?_;subst h;exact qN [.tmp 4];refine gR 7 rfl<|qBeZ 41 42 rfl rfl rfl rfl h ?_ ?_<;>intro h;refine gR 11 rfl ?_;subst h;exact qN [.tmp 4];refine gR 7 rfl<|qBeZ 45 46 rfl rfl rfl rfl h ?_ ?_<;>intro h;refine gR 4 rfl ?_;obtain⟨c,d,h⟩:=h;refine qC0 d rfl<|gR 6 rfl ?_;subst h;exact qN [.tmp 4];refine gR 12 rfl ?_;subst h;exact qN [.tmp 4]
def nX(m:Nat)(G:Tree)(p1:Int)(a:Tree)(b J:Bool):Prop:=∀(K:Ctx),aw K []→qLG K f88 (λu _=>u=.bool J) (cB (xC (xE (xA (aj f88))))) [.blk 0,.seq (xF (aj f88))] 67 (mkF 67 0 [(1,qi p1),(5,qi a.kind),(13,qi G.kind),(43,.bool b)]) ⟨0,[]⟩
theorem BO(m:Nat)(G:Tree)(p1:Int)(J:Bool)(h:∃b,p1=((b:Nat):Int)∧∃a,G.kids[b]?=some a∧((G.kind=1)→((a.kind=2)→true=J)∧((a.kind≠2)→(a.kind==3)=J))∧((G.kind≠1)→((G.kind=2)→((p1=((G.kids.length:Int)-1))→∃c,fF a.kind c∧c=J)∧((p1≠((G.kids.length:Int)-1))→((p1=((G.kids.length:Int)-2))→∃d,nN a.kind d∧d=J)∧((p1≠((G.kids.length:Int)-2))→(a.kind==4)=J)))∧((G.kind≠2)→((G.kind=3)→nX m G p1 a true J)∧((G.kind≠3)→((G.kind=4)→nX m G p1 a true J)∧((G.kind≠4)→nX m G p1 a (G.kind==8) J))))):sP G p1 J:=by
 refine⟨rfl,rfl,?_⟩;refine qA 67 [] func88 λK O=>?_;refine gR 3 rfl<|gFP 0 rfl rfl rfl rfl<|gR 8 rfl ?_;obtain⟨b,g,h⟩:=h;refine gV 8 (qi ((b:Nat):Int)) rfl (aL g) rfl ?_;obtain⟨a,e,h⟩:=h;refine gY (aC (aq e) ai rfl rfl rfl rfl) rfl rfl<|gR 19 rfl<|qXeZ 14 15 rfl rfl rfl rfl h ?_ ?_<;>intro U h;refine gR 6 rfl<|qXeZ 18 17 rfl rfl rfl rfl h ?_ ?_<;>intro U h;refine gR 9 rfl ?_;subst h;exact qN [.tmp 4];refine gR 9 rfl ?_;subst h;exact qN [.tmp 4];refine gR 7 rfl<|qXeZ 22 23 rfl rfl rfl rfl h ?_ ?_<;>intro U h;refine gR 13 rfl<|gV 28 (qi (G.kids.length:Int)) rfl (aJ (aD _)) rfl<|gLB 27 rfl (aD _) λf=>gR 1 rfl<|gV 29 (qi ((G.kids.length:Int)-1)) rfl (ao (by have :=f;omega) rfl) rfl<|gR 4 rfl<|qXeZ 25 30 rfl rfl rfl rfl h ?_ ?_<;>intro U h;refine gR 4 rfl ?_;obtain⟨c,i,h⟩:=h;refine qC0 i rfl<|gR 8 rfl ?_;subst h;exact qN [.tmp 4];refine gR 6 rfl<|gV 36 (qi (G.kids.length:Int)) rfl (aJ (aD _)) rfl<|gR 1 rfl<|gV 37 (qi ((G.kids.length:Int)-2)) rfl (ao (by have :=f;omega) rfl) rfl<|gR 4 rfl<|qXeZ 33 38 rfl rfl rfl rfl h ?_ ?_<;>intro U h;refine gR 4 rfl ?_;obtain⟨d,j,h⟩:=h;refine qC0 j rfl<|gR 8 rfl ?_;subst h;exact qN [.tmp 4];refine gR 14 rfl ?_;subst h;exact qN [.tmp 4];refine gR 8 rfl<|qXeZ 43 44 rfl rfl rfl rfl h ?_ ?_<;>intro U h;exact gR 3 rfl<|qJ O (h K O) [];refine gR 7 rfl<|qXeZ 43 45 rfl rfl rfl rfl h ?_ ?_<;>intro U h;exact gR 3 rfl<|qJ O (h K O) [];exact gR 6 rfl<|qJ O (h K O) []
theorem Az(m:Nat)(J:Tree)(p1:Int)(a:Tree)(c G:Bool)(h:((c=true)→∃d,nN a.kind d∧d=G)∧((c=false)→((J.kind=16)→(a.kind==17)=G)∧((J.kind≠16)→((J.kind=21)→∃b,rn a.kind b∧((b=true)→true=G)∧((b=false)→((p1=0)→(a.kind==21)=G)∧((p1≠0)→false=G)))∧((J.kind≠21)→∃e,fF a.kind e∧e=G)))):nX (m+1) J p1 a c G:=by
 intro K O;refine qBi 43 rfl rfl rfl h ?_ ?_<;>intro h;refine gR 4 rfl ?_;obtain⟨d,f,h⟩:=h;refine qC0 f rfl<|gR 6 rfl ?_;subst h;exact qN [.tmp 4];refine gR 7 rfl<|qBeZ 49 50 rfl rfl rfl rfl h ?_ ?_<;>intro h;refine gR 11 rfl ?_;subst h;exact qN [.tmp 4];refine gR 7 rfl<|qBeZ 53 54 rfl rfl rfl rfl h ?_ ?_<;>intro h;refine gR 4 rfl ?_;obtain⟨b,g,h⟩:=h;refine qC0 g rfl<|gR 1 rfl<|qBiZ 57 56 rfl rfl rfl rfl h ?_ ?_<;>intro h;refine gR 13 rfl ?_;subst h;exact qN [.tmp 4];refine gR 3 rfl<|qBeZ 60 59 rfl rfl rfl rfl h ?_ ?_<;>intro h;refine gR 10 rfl ?_;subst h;exact qN [.tmp 4];refine gR 10 rfl ?_;subst h;exact qN [.tmp 4];refine gR 7 rfl ?_;obtain⟨e,i,h⟩:=h;refine qC0 i rfl<|gR 4 rfl ?_;subst h;exact qN [.tmp 4]
def mu(m:Nat)(G:Tree)(a:Nat)(O:Bool):Prop:=∀(K:Ctx) (J:Nat),aw K []→m≤J→qLG K f49 (λu _=>u=.bool O) (xL (aj f49)) [.loop (xL (aj f49)) J,.blk 0,.seq (xF (aj f49))] 38 (mkF 38 0 [(1,.box (al G) 0),(21,.row 4 (kidsV G.kids)),(22,qi (G.kids.length:Int)),(23,qi (a:Int))]) ⟨0,[]⟩
theorem AS(m:Nat)(p0:Tree)(r0:Bool)(h:∃a,sw p0.kind (p0.kids.length:Int) a∧((a<0)→false=r0)∧((¬a<0)→∃b,rH p0.kind p0.text b∧((b=false)→false=r0)∧((b=true)→mu m p0 0 r0))):fX p0 r0:=by
 refine⟨rfl,rfl,?_⟩;refine qA 38 [] func49 λK hK=>?_;refine gR 3 rfl<|gFP 0 rfl rfl rfl rfl<|gR 11 rfl<|gV 9 (qi (p0.kids.length:Int)) rfl (aJ (aD _)) rfl<|gLB 8 rfl (aD _) λe=>?_;obtain⟨a,c,h⟩:=h;refine qC0 c rfl<|gR 2 rfl<|qXdZ 12 11 rfl rfl rfl rfl h ?_ ?_<;>intro hd h;refine gR 17 rfl ?_;subst h;exact qN [.tmp 2];refine gR 4 rfl ?_;obtain⟨b,d,h⟩:=h;refine qC0 d rfl<|gR 4 rfl<|qXh 19 rfl rfl rfl h bF bG ?_ ?_<;>intro hd h;refine gR 8 rfl ?_;subst h;exact qN [.tmp 2];exact gR 9 rfl<|gV 22 (qi (p0.kids.length:Int)) rfl (aJ (aD _)) rfl<|gR 4 rfl<|go_loop m<|qW hK h []
theorem tT(m:Nat)(G:Tree)(a:Nat)(J:Bool)(h:((a<G.kids.length)→∃d,G.kids[a]?=some d∧∃b,sP G (a:Int) b∧((b=false)→false=J)∧((b=true)→∃c,fX d c∧((c=false)→false=J)∧((c=true)→a+1≤9223372036854775807∧mu m G (a+1) J)))∧((¬a<G.kids.length)→true=J)):mu (m+1) G a J:=by
 refine qj λK Z U i=>?_;refine gR 6 rfl<|qXh 24 rfl rfl rfl h bX bY ?_ ?_<;>intro O h;refine gR 8 rfl ?_;obtain⟨d,e,h⟩:=h;refine gY (aC (aq e) ai rfl rfl rfl rfl) rfl rfl<|gR 10 rfl ?_;obtain⟨b,f,h⟩:=h;refine qC0 f rfl<|gR 2 rfl<|qXhZ 32 31 rfl rfl rfl rfl h bF bG ?_ ?_<;>intro O h;refine gR 15 rfl<|go_xloopR<|gR 2 rfl ?_;subst h;exact qN [.tmp 2];refine gR 1 rfl ?_;obtain⟨c,g,h⟩:=h;refine qC0 g rfl<|gR 4 rfl<|qXh 36 rfl rfl rfl h bF bG ?_ ?_<;>intro O h;refine gR 9 rfl<|go_xloopR<|gR 2 rfl ?_;subst h;exact qN [.tmp 2];refine gR 5 rfl ?_;obtain⟨hb,h⟩:=h;exact gR 1 rfl<|gV 37 (qi ((a+1:Nat):Int)) rfl (ao (by omega) (by omega)) rfl<|gR 2 rfl<|go_xloop<|qW U h [];refine gR 3 rfl<|go_xloopE<|gR 8 rfl ?_;subst h;exact qN [.tmp 2]
def jd(m:Nat)(G p1:Int)(a:Bool)(J:Int):Prop:=∀(K:Ctx),aw K []→qLG K f100 (λu _=>u=qi J) (cB (xC (xN (cB (aj f100))))) [.blk 0,.seq (xA (aj f100))] 71 (mkF 71 0 [(1,qi p1),(5,qi G),(22,.bool a)]) ⟨0,[]⟩
def bL(m:Nat)(G p1:Int)(a:Bool)(J:Int):Prop:=∀(K:Ctx),aw K []→qLG K f100 (λu _=>u=qi J) (cB (xI (xE (cB (aj f100))))) [.blk 0,.seq (xA (aj f100))] 71 (mkF 71 0 [(1,qi p1),(5,qi G),(28,.bool a)]) ⟨0,[]⟩
theorem yh(m:Nat)(G p1 J:Int)(h:((G=1)→((0≤p1)→3=J)∧((¬0≤p1)→(-1)=J))∧((G≠1)→((G=2)→((2≤p1)→InI (p1-3)∧InI (6+(max 0 (p1-3)))∧(6+(max 0 (p1-3)))=J)∧((¬2≤p1)→(-1)=J))∧((G≠2)→((G=3)→∃a,cW p1 1 3 a∧a=J)∧((G≠3)→((G=4)→jd m G p1 true J)∧((G≠4)→((G=8)→jd m G p1 true J)∧((G≠8)→jd m G p1 (G==22) J)))))):gX G p1 J:=by
 refine⟨rfl,rfl,?_⟩;refine qA 71 [] func100 λK O=>?_;refine gR 18 rfl<|qBeZ 6 7 rfl rfl rfl rfl h ?_ ?_<;>intro h;refine gR 7 rfl<|qBd 9 rfl rfl rfl h ?_ ?_<;>intro h;refine gR 9 rfl ?_;subst h;exact qN [.tmp 4];refine gR 10 rfl ?_;subst h;exact qN [.tmp 4];refine gR 7 rfl<|qBeZ 10 11 rfl rfl rfl rfl h ?_ ?_<;>intro h;refine gR 7 rfl<|qBd 13 rfl rfl rfl h ?_ ?_<;>intro h;refine gR 4 rfl ?_;obtain⟨hb,h⟩:=h;refine gR 1 rfl<|gV 15 (qi (p1-3)) rfl (ao hb rfl) rfl<|gR 1 rfl ?_;obtain⟨hb,h⟩:=h;refine gR 1 rfl<|gV 17 (qi (6+(max 0 (p1-3)))) rfl (ao hb rfl) rfl<|gR 6 rfl ?_;subst h;exact qN [.tmp 4];refine gR 10 rfl ?_;subst h;exact qN [.tmp 4];refine gR 7 rfl<|qBeZ 18 19 rfl rfl rfl rfl h ?_ ?_<;>intro h;refine gR 4 rfl ?_;obtain⟨a,b,h⟩:=h;refine qC0 b rfl<|gR 6 rfl ?_;subst h;exact qN [.tmp 4];refine gR 8 rfl<|qBeZ 22 23 rfl rfl rfl rfl h ?_ ?_<;>intro h;exact gR 3 rfl<|qJ O (h K O) [];refine gR 7 rfl<|qBeZ 22 24 rfl rfl rfl rfl h ?_ ?_<;>intro h;exact gR 3 rfl<|qJ O (h K O) [];exact gR 6 rfl<|qJ O (h K O) []
theorem wV(m:Nat)(G p1:Int)(a:Bool)(O:Int)(h:((a=true)→∃b,cW p1 1 2 b∧b=O)∧((a=false)→((G=5)→bL m G p1 true O)∧((G≠5)→((G=6)→bL m G p1 true O)∧((G≠6)→((G=7)→bL m G p1 true O)∧((G≠7)→((G=9)→bL m G p1 true O)∧((G≠9)→((G=10)→bL m G p1 true O)∧((G≠10)→((G=11)→bL m G p1 true O)∧((G≠11)→((G=12)→bL m G p1 true O)∧((G≠12)→((G=13)→bL m G p1 true O)∧((G≠13)→((G=14)→bL m G p1 true O)∧((G≠14)→bL m G p1 (G==15) O))))))))))):jd (m+1) G p1 a O:=by
 intro K J;refine qBi 22 rfl rfl rfl h ?_ ?_<;>intro h;refine gR 4 rfl ?_;obtain⟨b,c,h⟩:=h;refine qC0 c rfl<|gR 6 rfl ?_;subst h;exact qN [.tmp 4];refine gR 8 rfl<|qBeZ 28 29 rfl rfl rfl rfl h ?_ ?_<;>intro h;exact gR 3 rfl<|qJ J (h K J) [];refine gR 7 rfl<|qBeZ 28 30 rfl rfl rfl rfl h ?_ ?_<;>intro h;exact gR 3 rfl<|qJ J (h K J) [];refine gR 7 rfl<|qBeZ 28 31 rfl rfl rfl rfl h ?_ ?_<;>intro h;exact gR 3 rfl<|qJ J (h K J) [];refine gR 7 rfl<|qBeZ 28 32 rfl rfl rfl rfl h ?_ ?_<;>intro h;exact gR 3 rfl<|qJ J (h K J) [];refine gR 7 rfl<|qBeZ 28 33 rfl rfl rfl rfl h ?_ ?_<;>intro h;exact gR 3 rfl<|qJ J (h K J) [];refine gR 7 rfl<|qBeZ 28 34 rfl rfl rfl rfl h ?_ ?_<;>intro h;exact gR 3 rfl<|qJ J (h K J) [];refine gR 7 rfl<|qBeZ 28 35 rfl rfl rfl rfl h ?_ ?_<;>intro h;exact gR 3 rfl<|qJ J (h K J) [];refine gR 7 rfl<|qBeZ 28 36 rfl rfl rfl rfl h ?_ ?_<;>intro h;exact gR 3 rfl<|qJ J (h K J) [];refine gR 7 rfl<|qBeZ 28 37 rfl rfl rfl rfl h ?_ ?_<;>intro h;exact gR 3 rfl<|qJ J (h K J) [];exact gR 6 rfl<|qJ J (h K J) []
theorem xh(m:Nat)(G p1:Int)(a:Bool)(J:Int)(h:((a=true)→∃b,cW p1 0 1 b∧b=J)∧((a=false)→((G=16)→((0≤p1)→InI (p1-1)∧InI (3+(max 0 (p1-1)))∧(3+(max 0 (p1-1)))=J)∧((¬0≤p1)→(-1)=J))∧((G≠16)→((G=17)→∃c,cW p1 1 0 c∧c=J)∧((G≠17)→((G=18)→((1≤p1)→InI (1+p1)∧(1+p1)=J)∧((¬1≤p1)→(-1)=J))∧((G≠18)→((G=19)→∃d,cW p1 3 3 d∧d=J)∧((G≠19)→((G=20)→∃e,cW p1 2 4 e∧e=J)∧((G≠20)→((G=21)→∃f,cW p1 2 1 f∧f=J)∧((G≠21)→(-1)=J)))))))):bL (m+1) G p1 a J:=by
 intro K O;refine qBi 28 rfl rfl rfl h ?_ ?_<;>intro h;refine gR 4 rfl ?_;obtain⟨b,g,h⟩:=h;refine qC0 g rfl<|gR 6 rfl ?_;subst h;exact qN [.tmp 4];refine gR 7 rfl<|qBeZ 41 42 rfl rfl rfl rfl h ?_ ?_<;>intro h;refine gR 7 rfl<|qBd 44 rfl rfl rfl h ?_ ?_<;>intro h;refine gR 4 rfl ?_;obtain⟨hb,h⟩:=h;refine gR 1 rfl<|gV 46 (qi (p1-1)) rfl (ao hb rfl) rfl<|gR 1 rfl ?_;obtain⟨hb,h⟩:=h;refine gR 1 rfl<|gV 48 (qi (3+(max 0 (p1-1)))) rfl (ao hb rfl) rfl<|gR 6 rfl ?_;subst h;exact qN [.tmp 4];refine gR 10 rfl ?_;subst h;exact qN [.tmp 4];refine gR 7 rfl<|qBeZ 49 50 rfl rfl rfl rfl h ?_ ?_<;>intro h;refine gR 4 rfl ?_;obtain⟨c,i,h⟩:=h;refine qC0 i rfl<|gR 6 rfl ?_;subst h;exact qN [.tmp 4];refine gR 7 rfl<|qBeZ 53 54 rfl rfl rfl rfl h ?_ ?_<;>intro h;refine gR 7 rfl<|qBd 56 rfl rfl rfl h ?_ ?_<;>intro h;refine gR 4 rfl ?_;obtain⟨hb,h⟩:=h;refine gR 1 rfl<|gV 58 (qi (1+p1)) rfl (ao hb rfl) rfl<|gR 6 rfl ?_;subst h;exact qN [.tmp 4];refine gR 10 rfl ?_;subst h;exact qN [.tmp 4];refine gR 7 rfl<|qBeZ 59 60 rfl rfl rfl rfl h ?_ ?_<;>intro h;refine gR 4 rfl ?_;obtain⟨d,j,h⟩:=h;refine qC0 j rfl<|gR 6 rfl ?_;subst h;exact qN [.tmp 4];refine gR 7 rfl<|qBeZ 63 64 rfl rfl rfl rfl h ?_ ?_<;>intro h;refine gR 4 rfl ?_;obtain⟨e,k,h⟩:=h;refine qC0 k rfl<|gR 6 rfl ?_;subst h;exact qN [.tmp 4];refine gR 7 rfl<|qBeZ 67 68 rfl rfl rfl rfl h ?_ ?_<;>intro h;refine gR 4 rfl ?_;obtain⟨f,l,h⟩:=h;refine qC0 l rfl<|gR 6 rfl ?_;subst h;exact qN [.tmp 4];refine gR 10 rfl ?_;subst h;exact qN [.tmp 4]
theorem yI(m:Nat)(G p1 p2 J:Int)(h:((G=p1)→p2=J)∧((G≠p1)→(-1)=J)):cW G p1 p2 J:=by
 refine⟨rfl,rfl,?_⟩;refine qA 11 [] func138 λK O=>?_;refine gR 13 rfl<|qBe 9 rfl rfl rfl h ?_ ?_<;>intro h;refine gR 9 rfl ?_;subst h;exact qN [.tmp 6];refine gR 9 rfl ?_;subst h;exact qN [.tmp 6]
theorem wY(m:Nat)(G:Int)(J:Bool)(h:((5≤G)→decide (G≤9)=J)∧((¬5≤G)→false=J)):jf G J:=by
 refine⟨rfl,rfl,?_⟩;refine qA 9 [] func141 λK O=>?_;refine gR 10 rfl<|qBdZ 5 4 rfl rfl rfl rfl h ?_ ?_<;>intro h;refine gR 7 rfl ?_;subst h;exact qN [.tmp 2];refine gR 7 rfl ?_;subst h;exact qN [.tmp 2]
theorem wO(m:Nat)(G:Int)(J:Bool)(h:((10≤G)→((G≤22)→(G !=17)=J)∧((¬G≤22)→false=J))∧((¬10≤G)→false=J)):fZ G J:=by
 refine⟨rfl,rfl,?_⟩;refine qA 13 [] func28 λK O=>?_;refine gR 10 rfl<|qBdZ 5 4 rfl rfl rfl rfl h ?_ ?_<;>intro h;refine gR 4 rfl<|qBdZ 9 8 rfl rfl rfl rfl h ?_ ?_<;>intro h;refine gR 7 rfl ?_;subst h;exact qN [.tmp 2];refine gR 7 rfl ?_;subst h;exact qN [.tmp 2];refine gR 11 rfl ?_;subst h;exact qN [.tmp 2]
theorem xf(m:Nat)(G:Int)(J:Bool)(h:∃a,fZ G a∧((a=true)→((G≠19)→((G≠20)→(G !=21)=J)∧((G=20)→false=J))∧((G=19)→false=J))∧((a=false)→false=J)):iY G J:=by
 refine⟨rfl,rfl,?_⟩;refine qA 17 [] func142 λK O=>?_;refine gR 8 rfl ?_;obtain⟨a,b,h⟩:=h;refine qC0 b rfl<|gR 1 rfl<|qBiZ 5 4 rfl rfl rfl rfl h ?_ ?_<;>intro h;refine gR 4 rfl<|qBhZ 9 8 rfl rfl rfl rfl h dy cv ?_ ?_<;>intro h;refine gR 4 rfl<|qBhZ 13 12 rfl rfl rfl rfl h dy cv ?_ ?_<;>intro h;refine gR 7 rfl ?_;subst h;exact qN [.tmp 2];refine gR 7 rfl ?_;subst h;exact qN [.tmp 2];refine gR 11 rfl ?_;subst h;exact qN [.tmp 2];refine gR 15 rfl ?_;subst h;exact qN [.tmp 2]
theorem uu(m:Nat)(G:List UInt8)(J:Bool)(h:((G=[43])→true=J)∧((G≠[43])→((G=[45])→true=J)∧((G≠[45])→((G=[42])→true=J)∧((G≠[42])→((G=[60])→true=J)∧((G≠[60])→((G=[61,61])→true=J)∧((G≠[61,61])→false=J)))))):jM G J:=by
 refine⟨rfl,rfl,?_⟩;refine qA 10 [] func140 λK O=>?_;refine gR 19 rfl<|qBeZ 4 5 rfl rfl rfl rfl h ?_ ?_<;>intro h;refine gR 12 rfl ?_;subst h;exact qN [.tmp 2];refine gR 7 rfl<|qBeZ 4 6 rfl rfl rfl rfl h ?_ ?_<;>intro h;refine gR 12 rfl ?_;subst h;exact qN [.tmp 2];refine gR 7 rfl<|qBeZ 4 7 rfl rfl rfl rfl h ?_ ?_<;>intro h;refine gR 12 rfl ?_;subst h;exact qN [.tmp 2];refine gR 7 rfl<|qBeZ 4 8 rfl rfl rfl rfl h ?_ ?_<;>intro h;refine gR 12 rfl ?_;subst h;exact qN [.tmp 2];refine gR 6 rfl<|qBeZ 4 9 rfl rfl rfl rfl h ?_ ?_<;>intro h;refine gR 9 rfl ?_;subst h;exact qN [.tmp 2];refine gR 10 rfl ?_;subst h;exact qN [.tmp 2]
def kf(m:Nat)(G:Int)(p1:List UInt8)(a:Int)(b J:Bool):Prop:=∀(K:Ctx),aw K []→qLG K f101 (λu _=>u=.bool J) (cB (xE (xA (aj f101)))) [.blk 0,.seq (xF (aj f101))] 51 (mkF 51 0 [(1,.str p1),(5,qi a),(8,qi G),(9,.bool b)]) ⟨0,[]⟩
def eu(m:Nat)(G:Int)(p1:List UInt8)(a:Int)(b J:Bool):Prop:=∀(K:Ctx),aw K []→qLG K f101 (λu _=>u=.bool J) (cB (xN (xA (aj f101)))) [.blk 0,.seq (xF (aj f101))] 51 (mkF 51 0 [(1,.str p1),(5,qi a),(8,qi G),(14,.bool b)]) ⟨0,[]⟩
theorem vu(m:Nat)(G:Int)(p1:List UInt8)(O:Bool)(h:∃a,yD p1 a∧((G=1)→kf m G p1 a true O)∧((G≠1)→kf m G p1 a (G==3) O)):lc G p1 O:=by
 refine⟨rfl,rfl,?_⟩;refine qA 51 [] func101 λK J=>?_;refine gR 8 rfl ?_;obtain⟨a,b,h⟩:=h;refine qC0 b rfl<|gR 17 rfl<|qBeZ 9 10 rfl rfl rfl rfl h ?_ ?_<;>intro h;exact gR 3 rfl<|qJ J (h K J) [];exact gR 6 rfl<|qJ J (h K J) []
theorem vk(m:Nat)(G:Int)(p1:List UInt8)(a:Int)(b O:Bool)(h:((b=true)→(a==2)=O)∧((b=false)→((G=2)→eu m G p1 a true O)∧((G≠2)→((G=4)→eu m G p1 a true O)∧((G≠4)→((G=12)→eu m G p1 a true O)∧((G≠12)→eu m G p1 a (G==20) O))))):kf (m+1) G p1 a b O:=by
 intro K J;refine qBi 9 rfl rfl rfl h ?_ ?_<;>intro h;refine gR 11 rfl ?_;subst h;exact qN [.tmp 4];refine gR 8 rfl<|qBeZ 14 15 rfl rfl rfl rfl h ?_ ?_<;>intro h;exact gR 3 rfl<|qJ J (h K J) [];refine gR 7 rfl<|qBeZ 14 16 rfl rfl rfl rfl h ?_ ?_<;>intro h;exact gR 3 rfl<|qJ J (h K J) [];refine gR 7 rfl<|qBeZ 14 17 rfl rfl rfl rfl h ?_ ?_<;>intro h;exact gR 3 rfl<|qJ J (h K J) [];exact gR 6 rfl<|qJ J (h K J) []
theorem uT(m:Nat)(G:Int)(p1:List UInt8)(a:Int)(b J:Bool)(h:((b=true)→(a==1)=J)∧((b=false)→((G=9)→((a=2)→true=J)∧((a≠2)→(a==4)=J))∧((G≠9)→((G=16)→((a=1)→true=J)∧((a≠1)→(a==3)=J))∧((G≠16)→((G=10)→(a==5)=J)∧((G≠10)→((G=11)→(a==6)=J)∧((G≠11)→((G=21)→∃c,jM p1 c∧c=J)∧((G≠21)→(p1==[])=J))))))):eu (m+1) G p1 a b J:=by
 intro K O;refine qBi 14 rfl rfl rfl h ?_ ?_<;>intro h;refine gR 11 rfl ?_;subst h;exact qN [.tmp 4];refine gR 7 rfl<|qBeZ 21 22 rfl rfl rfl rfl h ?_ ?_<;>intro h;refine gR 6 rfl<|qBeZ 25 24 rfl rfl rfl rfl h ?_ ?_<;>intro h;refine gR 9 rfl ?_;subst h;exact qN [.tmp 4];refine gR 9 rfl ?_;subst h;exact qN [.tmp 4];refine gR 7 rfl<|qBeZ 29 30 rfl rfl rfl rfl h ?_ ?_<;>intro h;refine gR 6 rfl<|qBeZ 33 32 rfl rfl rfl rfl h ?_ ?_<;>intro h;refine gR 9 rfl ?_;subst h;exact qN [.tmp 4];refine gR 9 rfl ?_;subst h;exact qN [.tmp 4];refine gR 7 rfl<|qBeZ 37 38 rfl rfl rfl rfl h ?_ ?_<;>intro h;refine gR 11 rfl ?_;subst h;exact qN [.tmp 4];refine gR 7 rfl<|qBeZ 41 42 rfl rfl rfl rfl h ?_ ?_<;>intro h;refine gR 11 rfl ?_;subst h;exact qN [.tmp 4];refine gR 7 rfl<|qBeZ 45 46 rfl rfl rfl rfl h ?_ ?_<;>intro h;refine gR 4 rfl ?_;obtain⟨c,d,h⟩:=h;refine qC0 d rfl<|gR 6 rfl ?_;subst h;exact qN [.tmp 4];refine gR 12 rfl ?_;subst h;exact qN [.tmp 4]
def kv(m:Nat)(G:Tree)(p1 p2:Int)(a J:Bool):Prop:=∀(K:Ctx),aw K []→qLG K f102 (λu _=>u=.bool J) (cB (xC (xE (xA (aj f102))))) [.blk 0,.seq (xF (aj f102))] 62 (mkF 62 0 [(1,qi p1),(2,qi p2),(12,qi G.kind),(38,.bool a)]) ⟨0,[]⟩
theorem yR(m:Nat)(G:Tree)(p1 p2:Int)(J:Bool)(h:((G.kind=1)→((p2=2)→true=J)∧((p2≠2)→(p2==3)=J))∧((G.kind≠1)→((G.kind=2)→((p1=((G.kids.length:Int)-1))→∃a,fZ p2 a∧a=J)∧((p1≠((G.kids.length:Int)-1))→((p1=((G.kids.length:Int)-2))→∃b,jf p2 b∧b=J)∧((p1≠((G.kids.length:Int)-2))→(p2==4)=J)))∧((G.kind≠2)→((G.kind=3)→kv m G p1 p2 true J)∧((G.kind≠3)→((G.kind=4)→kv m G p1 p2 true J)∧((G.kind≠4)→kv m G p1 p2 (G.kind==8) J))))):pL G p1 p2 J:=by
 refine⟨rfl,rfl,?_⟩;refine qA 62 [] func102 λK O=>?_;refine gR 3 rfl<|gFP 0 rfl rfl rfl rfl<|gR 8 rfl<|gV 10 (qi (G.kids.length:Int)) rfl (aJ (aD _)) rfl<|gLB 9 rfl (aD _) λc=>gR 17 rfl<|qXeZ 13 14 rfl rfl rfl rfl h ?_ ?_<;>intro U h;refine gR 6 rfl<|qXeZ 17 16 rfl rfl rfl rfl h ?_ ?_<;>intro U h;refine gR 9 rfl ?_;subst h;exact qN [.tmp 6];refine gR 9 rfl ?_;subst h;exact qN [.tmp 6];refine gR 7 rfl<|qXeZ 21 22 rfl rfl rfl rfl h ?_ ?_<;>intro U h;refine gR 12 rfl<|gV 26 (qi ((G.kids.length:Int)-1)) rfl (ao (by have :=c;omega) rfl) rfl<|gR 4 rfl<|qXeZ 24 27 rfl rfl rfl rfl h ?_ ?_<;>intro U h;refine gR 4 rfl ?_;obtain⟨a,d,h⟩:=h;refine qC0 d rfl<|gR 8 rfl ?_;subst h;exact qN [.tmp 6];refine gR 5 rfl<|gV 32 (qi ((G.kids.length:Int)-2)) rfl (ao (by have :=c;omega) rfl) rfl<|gR 4 rfl<|qXeZ 30 33 rfl rfl rfl rfl h ?_ ?_<;>intro U h;refine gR 4 rfl ?_;obtain⟨b,e,h⟩:=h;refine qC0 e rfl<|gR 8 rfl ?_;subst h;exact qN [.tmp 6];refine gR 14 rfl ?_;subst h;exact qN [.tmp 6];refine gR 8 rfl<|qXeZ 38 39 rfl rfl rfl rfl h ?_ ?_<;>intro U h;exact gR 3 rfl<|qJ O (h K O) [];refine gR 7 rfl<|qXeZ 38 40 rfl rfl rfl rfl h ?_ ?_<;>intro U h;exact gR 3 rfl<|qJ O (h K O) [];exact gR 6 rfl<|qJ O (h K O) []
theorem yF(m:Nat)(J:Tree)(p1 p2:Int)(b G:Bool)(h:((b=true)→∃c,jf p2 c∧c=G)∧((b=false)→((J.kind=16)→(p2==17)=G)∧((J.kind≠16)→((J.kind=21)→∃a,iY p2 a∧((a=true)→true=G)∧((a=false)→((p1=0)→(p2==21)=G)∧((p1≠0)→false=G)))∧((J.kind≠21)→∃d,fZ p2 d∧d=G)))):kv (m+1) J p1 p2 b G:=by
 intro K O;refine qBi 38 rfl rfl rfl h ?_ ?_<;>intro h;refine gR 4 rfl ?_;obtain⟨c,e,h⟩:=h;refine qC0 e rfl<|gR 6 rfl ?_;subst h;exact qN [.tmp 6];refine gR 7 rfl<|qBeZ 44 45 rfl rfl rfl rfl h ?_ ?_<;>intro h;refine gR 11 rfl ?_;subst h;exact qN [.tmp 6];refine gR 7 rfl<|qBeZ 48 49 rfl rfl rfl rfl h ?_ ?_<;>intro h;refine gR 4 rfl ?_;obtain⟨a,f,h⟩:=h;refine qC0 f rfl<|gR 1 rfl<|qBiZ 52 51 rfl rfl rfl rfl h ?_ ?_<;>intro h;refine gR 13 rfl ?_;subst h;exact qN [.tmp 6];refine gR 3 rfl<|qBeZ 55 54 rfl rfl rfl rfl h ?_ ?_<;>intro h;refine gR 10 rfl ?_;subst h;exact qN [.tmp 6];refine gR 10 rfl ?_;subst h;exact qN [.tmp 6];refine gR 7 rfl ?_;obtain⟨d,g,h⟩:=h;refine qC0 g rfl<|gR 4 rfl ?_;subst h;exact qN [.tmp 6]
def iC(m:Nat)(J:Tree)(a:Nat)(O:Bool):Prop:=∀(K:Ctx) (G:Nat),aw K []→m≤G→qLG K f60 (λu _=>u=.bool O) (xL (aj f60)) [.loop (xL (aj f60)) G,.blk 0,.seq (xF (aj f60))] 45 (mkF 45 0 [(1,.box (al J) 0),(3,qi (a:Int))]) ⟨0,[]⟩
theorem wK(m:Nat)(p0:Tree)(r0:Bool)(h:∃a,gX p0.kind (p0.kids.length:Int) a∧((a<0)→false=r0)∧((¬a<0)→∃b,lc p0.kind p0.text b∧((b=false)→false=r0)∧((b=true)→iC m p0 0 r0))):eh p0 r0:=by
 refine⟨rfl,rfl,?_⟩;refine qA 45 [] func60 λK hK=>?_;refine gR 3 rfl<|gFP 0 rfl rfl rfl rfl<|gR 11 rfl<|gV 8 (qi (p0.kids.length:Int)) rfl (aJ (aD _)) rfl<|gLB 7 rfl (aD _) λe=>?_;obtain⟨a,c,h⟩:=h;refine qC0 c rfl<|gR 2 rfl<|qXdZ 11 10 rfl rfl rfl rfl h ?_ ?_<;>intro hd h;refine gR 17 rfl ?_;subst h;exact qN [.tmp 2];refine gR 4 rfl ?_;obtain⟨b,d,h⟩:=h;refine qC0 d rfl<|gR 4 rfl<|qXh 18 rfl rfl rfl h bF bG ?_ ?_<;>intro hd h;refine gR 8 rfl ?_;subst h;exact qN [.tmp 2];exact gR 10 rfl<|go_loop m<|qW hK h []
theorem pV(m:Nat)(G:Tree)(a:Nat)(J:Bool)(h:((a<G.kids.length)→∃d,G.kids[a]?=some d∧∃b,pL G (a:Int) d.kind b∧((b=false)→false=J)∧((b=true)→∃e,G.kids[a]?=some e∧∃c,eh e c∧((c=false)→false=J)∧((c=true)→iC m G (a+1) J)))∧((¬a<G.kids.length)→true=J)):iC (m+1) G a J:=by
 refine qj λK Z U l=>?_;refine gR 7 rfl<|gV 22 (qi (G.kids.length:Int)) rfl (aJ (aD _)) rfl<|gLB 21 rfl (aD _) λi=>gR 3 rfl<|qXh 23 rfl rfl rfl h bX bY ?_ ?_<;>intro O h;refine gR 6 rfl<|qDs [] 19 19<|qDr (qR 0 4 2 [(4,0)]) rfl rfl ?_;obtain⟨d,f,h⟩:=h;refine bD 5 rfl (by kernel_rfl) (aC (aq f) ai rfl rfl rfl rfl) rfl rfl ?_;refine qDr [(6,0),(7,0)] rfl rfl ?_;obtain⟨b,j,h⟩:=h;refine bz 8 j (by kernel_rfl) rfl (by kernel_rfl) rfl rfl .rfl rfl rfl ?_;refine qDr [(9,0),(10,0)] rfl rfl<|qXhZ 36 35 rfl rfl rfl rfl h bF bG ?_ ?_<;>intro O h;refine qDr ((11,2)::(12,2)::(qR 13 6 0 [])) rfl rfl<|qDe<|gR 10 rfl<|go_xloopR<|gR 2 rfl ?_;subst h;exact qN [.tmp 2];refine qDr [(11,2),(12,2),(13,0)] rfl rfl ?_;obtain⟨e,g,h⟩:=h;refine bD 14 rfl (by kernel_rfl) (aC (aq g) ai rfl rfl rfl rfl) rfl rfl ?_;refine qDr [(15,0)] rfl rfl ?_;obtain⟨c,k,h⟩:=h;refine bz 16 k (by kernel_rfl) rfl (by kernel_rfl) rfl rfl .rfl rfl rfl ?_;refine qDr [(17,0),(18,0)] rfl rfl<|qDe<|gR 1 rfl<|qXh 44 rfl rfl rfl h bF bG ?_ ?_<;>intro O h;refine gR 9 rfl<|go_xloopR<|gR 2 rfl ?_;subst h;exact qN [.tmp 2];exact gR 7 rfl<|gV 25 (qi ((a+1:Nat):Int)) rfl (ao (by have :=i;omega) (by omega)) rfl<|gR 2 rfl<|go_xloop<|qW U h [];refine gR 3 rfl<|go_xloopE<|gR 8 rfl ?_;subst h;exact qN [.tmp 2]
structure dL where
 Module:Int
 Path:(List Int)
abbrev dL.c(x:dL):List V:=[.int .i64 x.Module,.row 1 (List.map (V.int .i64) x.Path)]
structure aA where
 Use:dL
 Module:Int
 Def:Int
 Free:Bool
abbrev aA.c(x:aA):List V:=[.int .i64 x.Use.Module,.row 1 (List.map (V.int .i64) x.Use.Path),.int .i64 x.Module,.int .i64 x.Def,.bool x.Free]
abbrev aA.w(x:aA):V:=.agg x.c
theorem vG(σ:List Nat)(l):renL σ (List.map (V.int .i64) l)=List.map (V.int .i64) l:=om σ (V.int .i64) (λ_=>rfl) l
def jL(G:List UInt8)(p1 J:Int):Prop:=qS 159 [.str G,.int .u8 p1] (qi J)
def oU(G:List Tree)(J:Bool):Prop:=qS 91 [.row 4 (kidsV G)] (.bool J)
def qt(G:List Tree)(p1:Int)(p2:List UInt8)(J O:Int)(U:Bool):Prop:=qS 131 [.row 4 (kidsV G),qi p1,.str p2] (.tup [qi J,qi O,.bool U])
def oR(G:List Tree)(J:List aA):Prop:=qS 52 [.row 4 (kidsV G)] (.row 5 (List.map aA.w J))
def tL(G:List Tree)(p1:Int)(p2:List UInt8)(J O:Int)(U:Bool):Prop:=qS 164 [.row 4 (kidsV G),qi p1,.str p2] (.tup [qi J,qi O,.bool U])
def rx(G:List Tree)(p1:List UInt8)(J:Int):Prop:=qS 162 [.row 4 (kidsV G),.str p1] (qi J)
def sR(G:Tree)(p1:List UInt8)(J:Bool):Prop:=qS 183 [.agg (al G),.box [.str p1] 0] (.bool J)
def ii(g:List Tree)(a:Int)(e:List Int)(c:List aA)(p1:Tree)(i:List Tree)(b:Int)(f:List Int)(d:List aA):Prop:=bv [] prog 92 [.ptr 0 0,.agg (al p1)] ⟨3,[(2,.row 151 5 (List.map aA.w c)),(1,.row 3 1 (List.map (V.int .i64) e)),(0,.var 135 [.row 4 (kidsV g),qi a,.sl 1,.sl 2])]⟩ (λu G=>u=.tup []∧G=⟨3,[(2,.row 151 5 (List.map aA.w d)),(1,.row 3 1 (List.map (V.int .i64) f)),(0,.var 135 [.row 4 (kidsV i),qi b,.sl 1,.sl 2])]⟩)
def ov(G:List Tree)(a:List UInt8)(J:Int):Prop:=qS 182 [.row 4 (kidsV G),.clo 183 [.box [.str a] 0]] (qi J)
def pI(G J O:List UInt8)(U:Bool):Prop:=qS 161 [.str G,.str [46]] (.tup [.str J,.str O,.bool U])
def kM(G J O:List UInt8)(U:Bool):Prop:=qS 181 [.str G,.str [46]] (.tup [.str J,.str O,.bool U])
def fj(G:List UInt8)(J:Int):Prop:=qS 194 [.str G,.str [46]] (qi J)
def iJ(G:List Tree)(J:Bool):Prop:=qS 26 [.row 4 (kidsV G)] (.bool J)
def pG(G:List UInt8)(J:Int):Prop:=qS 106 [.str G] (qi J)
def fD(G:List Tree)(p1:Int)(p2:List UInt8)(J O:Int)(U:Bool):Prop:=qS 64 [.row 4 (kidsV G),qi p1,.str p2] (.tup [qi J,qi O,.bool U])
def nK(m:Nat)(G:List Tree)(a:Nat)(O:Bool):Prop:=∀(K:Ctx) (J:Nat),aw K []→m≤J→qLG K f91 (λu _=>u=.bool O) (xG (cB (aj f91))) [.loop (xG (cB (aj f91))) J,.blk 0,.seq (xA (aj f91))] 20 (mkF 20 0 [(5,.row 4 (kidsV G)),(6,qi (G.length:Int)),(7,qi (a:Int))]) ⟨0,[]⟩
theorem BR(m:Nat)(p0:List Tree)(r0:Bool)(h:nK m p0 0 r0):oU p0 r0:=by
 refine⟨rfl,rfl,?_⟩;refine qA 20 [] func91 λK hK=>?_;exact gR 10 rfl<|gV 6 (qi (p0.length:Int)) rfl (aJ (aD _)) rfl<|gLB 5 rfl (aD _) λa=>gR 4 rfl<|go_loop m<|qW hK h []
theorem uV(m:Nat)(G:List Tree)(a:Nat)(J:Bool)(h:((a<G.length)→∃b,G[a]?=some b∧((b.kind≠1)→false=J)∧((b.kind=1)→∃c,fX b c∧((c=false)→false=J)∧((c=true)→a+1≤9223372036854775807∧nK m G (a+1) J)))∧((¬a<G.length)→true=J)):nK (m+1) G a J:=by
 refine qj λK Z U f=>?_;refine gR 6 rfl<|qXh 8 rfl rfl rfl h bX bY ?_ ?_<;>intro O h;refine gR 7 rfl ?_;obtain⟨b,d,h⟩:=h;refine gY (aC (aq d) ai rfl rfl rfl rfl) rfl rfl<|gR 11 rfl<|qXhZ 14 13 rfl rfl rfl rfl h dy cv ?_ ?_<;>intro O h;refine gR 15 rfl<|go_xloopR<|gR 2 rfl ?_;subst h;exact qN [.tmp 2];refine gR 1 rfl ?_;obtain⟨c,e,h⟩:=h;refine qC0 e rfl<|gR 4 rfl<|qXh 18 rfl rfl rfl h bF bG ?_ ?_<;>intro O h;refine gR 9 rfl<|go_xloopR<|gR 2 rfl ?_;subst h;exact qN [.tmp 2];refine gR 5 rfl ?_;obtain⟨hb,h⟩:=h;exact gR 1 rfl<|gV 19 (qi ((a+1:Nat):Int)) rfl (ao (by omega) (by omega)) rfl<|gR 2 rfl<|go_xloop<|qW U h [];refine gR 3 rfl<|go_xloopE<|gR 8 rfl ?_;subst h;exact qN [.tmp 2]
def oP(m:Nat)(G:List Tree)(a:Int)(b:List UInt8)(J O:Int)(U:Bool):Prop:=∀(K:Ctx),aw K []→qLG K f131 (λu _=>u=.tup [qi J,qi O,.bool U]) (xF (aj f131)) [] 45 (mkF 45 0 [(0,.row 4 (kidsV G)),(1,qi a),(2,.str b)]) ⟨0,[]⟩
theorem CF(m:Nat)(G:List Tree)(p1:Int)(p2:List UInt8)(O U:Int)(Z:Bool)(h:((p1<0)→0=O∧0=U∧false=Z)∧((¬p1<0)→(((G.length:Int)≤p1)→0=O∧0=U∧false=Z)∧((¬(G.length:Int)≤p1)→∃b c a,pI p2 b c a∧((a=true)→∃d,rx G b d∧oP m G d c O U Z)∧((a=false)→oP m G p1 p2 O U Z)))):qt G p1 p2 O U Z:=by
 refine⟨rfl,rfl,?_⟩;refine qA 45 [] func131 λK hK=>?_;refine gR 13 rfl<|qBdZ 15 14 rfl rfl rfl rfl h ?_ ?_<;>intro h;refine gR 17 rfl ?_;obtain⟨rfl,rfl,rfl⟩:=h;exact qN [.tmp 6,.tmp 7,.tmp 8];refine gR 3 rfl<|gV 18 (qi (G.length:Int)) rfl (aJ (aD _)) rfl<|gLB 17 rfl (aD _) λg=>gR 4 rfl<|qBd 20 rfl rfl rfl h ?_ ?_<;>intro h;refine gR 10 rfl ?_;obtain⟨rfl,rfl,rfl⟩:=h;exact qN [.tmp 6,.tmp 7,.tmp 8];refine gR 7 rfl ?_;obtain⟨b,c,a,e,h⟩:=h;refine qC0 e rfl<|gR 14 rfl<|gB 27 rfl rfl rfl ?_ ?_<;>intro J;refine gT 11 rfl J rfl ?_;refine gT 26 rfl J rfl ?_;replace h:=h.1 J;refine gR 4 rfl ?_;obtain⟨d,f,h⟩:=h;exact qC0 f rfl<|gR 5 rfl<|qJ hK (h K hK) [];refine gF 11 rfl J rfl ?_;refine gF 26 rfl J rfl ?_;replace h:=h.2 J;exact gR 3 rfl<|qJ hK (h K hK) []
theorem BB(m:Nat)(U:List Tree)(a:Int)(f:List UInt8)(G J:Int)(O:Bool)(h:((a<0)→0=G∧0=J∧false=O)∧((¬a<0)→∃c,a=((c:Nat):Int)∧∃d,U[c]?=some d∧∃b,rx d.kids f b∧((b<0)→0=G∧0=J∧false=O)∧((¬b<0)→a=G∧b=J∧true=O))):oP (m+1) U a f G J O:=by
 intro K Z;refine gR 7 rfl<|qBd 33 rfl rfl rfl h ?_ ?_<;>intro h;refine gR 10 rfl ?_;obtain⟨rfl,rfl,rfl⟩:=h;exact qN [.tmp 6,.tmp 7,.tmp 8];refine gR 7 rfl ?_;obtain⟨c,g,h⟩:=h;refine gV 35 (qi ((c:Nat):Int)) rfl (aL g) rfl ?_;obtain⟨d,e,h⟩:=h;refine gY (aC (aq e) ai rfl rfl rfl rfl) rfl rfl<|gR 3 rfl ?_;obtain⟨b,i,h⟩:=h;refine qC0 i rfl<|gR 10 rfl<|qBd 42 rfl rfl rfl h ?_ ?_<;>intro h;refine gR 10 rfl ?_;obtain⟨rfl,rfl,rfl⟩:=h;exact qN [.tmp 6,.tmp 7,.tmp 8];refine gR 13 rfl ?_;obtain⟨rfl,rfl,rfl⟩:=h;exact qN [.tmp 6,.tmp 7,.tmp 8]
def nJ(m:Nat)(G a:List Tree)(b:Int)(c:List Int)(d:List aA)(e:Nat)(O:List aA):Prop:=∀(K:Ctx) (J:Nat),aw K []→m≤J→qLG K f52 (λu _=>u=.row 5 (List.map aA.w O)) (xK (aj f52)) [.loop (xK (aj f52)) J,.blk 0,.seq (xH (aj f52))] 25 (mkF 25 0 [(3,.ptr 0 0),(11,.row 4 (kidsV G)),(12,qi (G.length:Int)),(13,qi (e:Int))]) ⟨3,[(2,.row 151 5 (List.map aA.w d)),(1,.row 3 1 (List.map (V.int .i64) c)),(0,.var 135 [.row 4 (kidsV a),qi b,.sl 1,.sl 2])]⟩
theorem Bv(m:Nat)(p0:List Tree)(r0:List aA)(h:∃a,oU p0 a∧((a=false)→[]=r0)∧((a=true)→nJ m p0 p0 0 ([]:List Int) ([]:List aA) 0 r0)):oR p0 r0:=by
 refine⟨rfl,rfl,?_⟩;refine qA 25 [] func52 λK hK=>?_;refine gR 9 rfl ?_;obtain⟨a,b,h⟩:=h;refine qC0 b rfl<|gR 3 rfl<|qXh 8 rfl rfl rfl h bF bG ?_ ?_<;>intro hd h;refine gR 8 rfl ?_;subst h;exact go_sub (F':=(mkF 25 0 [(2,.row 5 (List.map aA.w []))])) (H':=⟨0,[]⟩) [] [] rfl hK ⟨⟨_,rfl,(.nil 5)⟩,trivial⟩ trivial rfl<|qN [.tmp 2];exact gR 16 rfl<|gV 12 (qi (p0.length:Int)) rfl (aJ (aD _)) rfl<|gLB 11 rfl (aD _) λc=>gR 4 rfl<|go_loop m<|gNC 0 2 3 1 rfl rfl rfl rfl<|gNC 0 3 151 5 rfl rfl rfl rfl<|qW hK h [0,1,2]
theorem vf(m:Nat)(G j:List Tree)(l:Int)(k:List Int)(d:List aA)(a:Nat)(J:List aA)(h:((a<G.length)→∃e,G[a]?=some e∧∃f g b c,ii j (a:Int) k d e f g b c∧a+1≤9223372036854775807∧nJ m G f g b c (a+1) J)∧((¬a<G.length)→d=J)):nJ (m+1) G j l k d a J:=by
 refine qj λK U O o=>?_;refine gR 6 rfl<|qXh 14 rfl rfl rfl h bX bY ?_ ?_<;>intro Z h;refine gR 8 rfl ?_;obtain⟨e,i,h⟩:=h;refine gY (aC (aq i) ai rfl rfl rfl rfl) rfl rfl<|gR 15 rfl ?_;obtain⟨f,g,b,c,n,h⟩:=h;refine qC n [0,1,2] ?_;refine gHR 5 (List.map (V.int .i64) b) rfl (vG _ b) rfl<|gHR 6 (List.map aA.w c) rfl (om _ aA.w (λ_=>rfl) c) rfl<|gR 4 rfl ?_;obtain⟨hb,h⟩:=h;exact gR 1 rfl<|gV 22 (qi ((a+1:Nat):Int)) rfl (ao (by omega) (by omega)) rfl<|gR 2 rfl<|go_xloop<|qW O h [0,5,6];refine gR 3 rfl<|go_xloopE<|gR 10 rfl<|gFR 2 rfl (fR _ (λ_=>rfl) _) rfl rfl ?_;subst h;exact qN [.tmp 2]
theorem rS_link_Lookup(m:Nat)(G:List Tree)(p1:Int)(p2:List UInt8)(J O:Int)(U:Bool)(h:∃a,oU G a∧((a=false)→0=J∧0=O∧false=U)∧((a=true)→∃b c d,qt G p1 p2 b c d∧b=J∧c=O∧d=U)):tL G p1 p2 J O U:=by
 refine⟨rfl,rfl,?_⟩;refine qA 19 [] func164 λK Z=>?_;refine gR 11 rfl ?_;obtain⟨a,e,h⟩:=h;refine qC0 e rfl<|gR 3 rfl<|qBh 11 rfl rfl rfl h bF bG ?_ ?_<;>intro h;refine gR 10 rfl ?_;obtain⟨rfl,rfl,rfl⟩:=h;exact qN [.tmp 6,.tmp 7,.tmp 8];refine gR 8 rfl ?_;obtain⟨b,c,d,f,h⟩:=h;refine qC0 f rfl<|gR 9 rfl ?_;obtain⟨rfl,rfl,rfl⟩:=h;exact qN [.tmp 6,.tmp 7,.tmp 8]
theorem Du(m:Nat)(G:List Tree)(p1:List UInt8)(J:Int)(h:∃a,ov G p1 a∧a=J):rx G p1 J:=by
 refine⟨rfl,rfl,?_⟩;refine qA 8 [] func162 λK O=>?_;refine gR 9 rfl<|gFP 0 rfl rfl rfl rfl<|gY (yMF rfl) rfl rfl ?_;obtain⟨a,b,h⟩:=h;refine qC0 b rfl<|gR 4 rfl ?_;subst h;exact qN [.tmp 4]
theorem BZ(m:Nat)(G:Tree)(p1:List UInt8)(J:Bool)(h:(G.text==p1)=J):sR G p1 J:=by
 refine⟨rfl,rfl,?_⟩;refine qA 8 [] func183 λK O=>?_;refine gR 3 rfl<|gFP 0 rfl rfl rfl rfl<|gR 13 rfl ?_;subst h;exact qN [.tmp 3]
def gK(m:Nat)(g:List Tree)(a:Int)(e:List Int)(c:List aA)(p1:Tree)(i:Bool)(j:List Tree)(b:Int)(f:List Int)(d:List aA):Prop:=∀(K:Ctx),aw K [0]→qLG K f92 (λu G=>u=.tup []∧G=⟨3,[(2,.row 151 5 (List.map aA.w d)),(1,.row 3 1 (List.map (V.int .i64) f)),(0,.var 135 [.row 4 (kidsV j),qi b,.sl 1,.sl 2])]⟩) (cB (cA (cB (aj f92)))) [.seq (xA (aj f92))] 94 (mkF 94 0 [(0,.ptr 0 0),(3,.box (al p1) 0),(17,.bool i)]) ⟨3,[(2,.row 151 5 (List.map aA.w c)),(1,.row 3 1 (List.map (V.int .i64) e)),(0,.var 135 [.row 4 (kidsV g),qi a,.sl 1,.sl 2])]⟩
def ph(m:Nat)(g:List Tree)(a:Int)(e:List Int)(c:List aA)(p1:Tree)(i j:Int)(k:Bool)(l:List Int)(n:List Tree)(b:Int)(f:List Int)(d:List aA):Prop:=∀(K:Ctx),aw K [0]→Go prog K (bodyPost prog f92 (SP K (λu G=>u=.tup []∧G=⟨3,[(2,.row 151 5 (List.map aA.w d)),(1,.row 3 1 (List.map (V.int .i64) f)),(0,.var 135 [.row 4 (kidsV n),qi b,.sl 1,.sl 2])]⟩))) (.ex .normal) [.seq (xA (xJ (cA (cB (aj f92))))),.seq (xA (aj f92))] 94 (mkF 94 0 [(0,.ptr 0 0),(3,.box (al p1) 0),(4,qi i),(5,qi j),(6,.bool k),(7,.ptr 1 0)]) ⟨4,[(3,.row 151 5 (List.map aA.w c)),(2,.row 3 1 (List.map (V.int .i64) e)),(1,.var 25 [qi a,.row 1 (List.map (V.int .i64) l)]),(0,.var 135 [.row 4 (kidsV g),qi a,.sl 2,.sl 3])]⟩
def eC(m:Nat)(p1:Tree)(d:List aA)(e:List Tree)(f:Int)(g:List Int)(i:Nat)(j:List Tree)(a:Int)(c:List Int)(b:List aA):Prop:=∀(K:Ctx) (J:Nat),aw K [0]→m≤J→qLG K f92 (λu G=>u=.tup []∧G=⟨3,[(2,.row 151 5 (List.map aA.w b)),(1,.row 3 1 (List.map (V.int .i64) c)),(0,.var 135 [.row 4 (kidsV j),qi a,.sl 1,.sl 2])]⟩) (xM (xF (aj f92))) [.loop (xM (xF (aj f92))) J,.blk 0] 94 (mkF 94 0 [(0,.ptr 0 0),(59,.row 4 (kidsV p1.kids)),(60,qi (p1.kids.length:Int)),(61,qi (i:Int))]) ⟨3,[(2,.row 151 5 (List.map aA.w d)),(1,.row 3 1 (List.map (V.int .i64) g)),(0,.var 135 [.row 4 (kidsV e),qi f,.sl 1,.sl 2])]⟩
theorem vt(m:Nat)(g:List Tree)(a:Int)(e:List Int)(c:List aA)(p1:Tree)(i:List Tree)(b:Int)(f:List Int)(d:List aA)(h:((p1.kind=16)→gK m g a e c p1 true i b f d)∧((p1.kind≠16)→gK m g a e c p1 (p1.kind==9) i b f d)):ii g a e c p1 i b f d:=by
 refine qA 94 [0] func92 λK G=>?_;refine gR 3 rfl<|gFP 3 rfl rfl rfl rfl<|gR 9 rfl<|qBeZ 13 12 rfl rfl rfl rfl h ?_ ?_<;>intro h;exact gR 6 rfl<|qJ G (h K G) [0,1,2];exact gR 6 rfl<|qJ G (h K G) [0,1,2]
theorem uO(m:Nat)(g:List Tree)(b:Int)(a:List Int)(c:List aA)(p1:Tree)(k:Bool)(l:List Tree)(d:Int)(f:List Int)(e:List aA)(h:((k=true)→∃n o p,qt g b p1.text n o p∧∃q,qF a q∧ph m g b a c p1 n o p q l d f e)∧((k=false)→eC m p1 c g b a 0 l d f e)):gK (m+1) g b a c p1 k l d f e:=by
 intro K hK;refine qXi 17 rfl rfl rfl h ?_ ?_<;>intro hd h;refine gR 2 rfl<|qDs [0] 10 18<|qDr (qR 0 3 2 ((3,3)::(qR 4 3 2 [(7,3),(8,0),(9,0)]))) rfl rfl ?_;obtain⟨n,o,p,s,h⟩:=h;refine bz 10 s (by kernel_rfl) rfl (by kernel_rfl) rfl rfl .rfl rfl rfl ?_;refine qDr ((11,1)::(qR 12 3 2 (qR 15 3 1 []))) rfl rfl<|qDe<|gR 2 rfl<|qDs [0] 11 12<|qDr (qR 0 3 2 ((3,3)::(qR 4 3 2 [(7,3)]))) rfl rfl ?_;obtain⟨q,r,h⟩:=h;apply bR (i:=8) (j:=10) (by kernel_rfl) rfl rfl rfl rfl;exact(cy (L':=[0]) (by kernel_rfl) rfl rfl (fK (H:=⟨3,[(2,.row 151 5 (List.map aA.w c)),(1,.row 3 1 (List.map (V.int .i64) a)),(0,.var 135 [.row 4 (kidsV g),qi b,.sl 1,.sl 2])]⟩) r [1] .rfl ⟨⟨_,rfl,⟨rfl,rfl,(vG _ a).symm⟩⟩,trivial⟩ rfl [0] rfl) (.inl rfl));exact(bn ai rfl rfl);exact gHR 1 (List.map (V.int .i64) a) rfl (vG _ a) rfl<|qDr [(9,2),(10,0),(11,1)] rfl rfl<|qDe<|qJ hK (h K hK) [0,4,1,2];refine qDC 8 r [1] rfl ?_;exact gHR 1 (List.map (V.int .i64) a) rfl (vG _ a) rfl<|qDr [(9,0),(11,1)] rfl rfl<|qDe<|qJ hK (h K hK) [0,3,1,2];exact gR 8 rfl<|gV 60 (qi (p1.kids.length:Int)) rfl (aJ (aD _)) rfl<|gLB 59 rfl (aD _) λt=>gR 4 rfl<|go_loop m<|qW hK h [0,1,2]
theorem vm(m:Nat)(l:List Tree)(a:Int)(e:List Int)(b:List aA)(p1:Tree)(f g:Int)(i:Bool)(j:List Int)(n:List Tree)(c:Int)(k:List Int)(d:List aA)(h:(b++[(aA.mk (dL.mk a j) f g (!i))]).length≤1000000000∧eC m p1 (b++[(aA.mk (dL.mk a j) f g (!i))]) l a e 0 n c k d):ph (m+1) l a e b p1 f g i j n c k d:=by
 intro K hK;refine gR 1 rfl<|qDs [0,1] 15 16<|qDr (qR 0 4 2 ((4,3)::(5,3)::(6,2)::(7,2)::(qR 8 4 0 []))) rfl rfl ?_;obtain⟨hb,h⟩:=h;refine bh 12 (.repl 3 (.row 151 5 (List.map aA.w (b++[(aA.mk (dL.mk a j) f g (!i))])))) rfl (by kernel_rfl) (bI ai rfl rfl rfl rfl rfl (apM aA.w b (aA.mk (dL.mk a j) f g (!i))) (by rw[aB];exact hb)) (okR rfl) rfl (by kernel_rfl) rfl rfl ?_;exact qDr [(13,0),(14,0),(15,1)] rfl rfl<|qDe<|gR 6 rfl<|gV 60 (qi (p1.kids.length:Int)) rfl (aJ (aD _)) rfl<|gLB 59 rfl (aD _) λo=>gR 4 rfl<|go_loop m<|qW hK h [0,2,5]
theorem oy(m:Nat)(p1:Tree)(j:List aA)(k:List Tree)(l:Int)(f:List Int)(a:Nat)(n:List Tree)(c:Int)(e:List Int)(d:List aA)(h:((a<p1.kids.length)→∃o,p1.kids[a]?=some o∧(f++[(a:Int)]).length≤1000000000∧∃p q b i,ii k l (f++[(a:Int)]) j o p q b i∧∃g,((b.length:Int)-1)=((g:Nat):Int)∧g≤b.length∧a+1≤9223372036854775807∧eC m p1 i p q (b.take g) (a+1) n c e d)∧((¬a<p1.kids.length)→k=n∧l=c∧f=e∧j=d)):eC (m+1) p1 j k l f a n c e d:=by
 refine qj λK J G x=>?_;refine gR 6 rfl<|qXh 62 rfl rfl rfl h bX bY ?_ ?_<;>intro O h;refine gR 8 rfl ?_;obtain⟨o,r,h⟩:=h;refine gY (aC (aq r) ai rfl rfl rfl rfl) rfl rfl<|gR 15 rfl ?_;obtain⟨hb,h⟩:=h;refine gDo (.repl 1 (.row 3 1 (List.map (V.int .i64) (f++[(a:Int)])))) (bI ai rfl rfl rfl rfl rfl (apM (V.int .i64) f (a:Int)) (by rw[aB];exact hb)) (okR rfl) rfl rfl rfl<|gR 9 rfl ?_;obtain⟨p,q,b,i,t,h⟩:=h;refine qC t [0,5,2] ?_;refine gHR 7 (List.map (V.int .i64) b) rfl (vG _ b) rfl<|gHR 8 (List.map aA.w i) rfl (om _ aA.w (λ_=>rfl) i) rfl<|gR 2 rfl<|qDs [0] 14 15<|qDr (qR 0 4 2 ((4,3)::(qR 5 5 0 []))) rfl rfl<|gV 88 (qi (b.length:Int)) rfl (aJ (aB (V.int .i64) _)) rfl<|gLO 7 rfl (aB (V.int .i64) _) λv=>qDr [(10,0)] rfl rfl<|gV 89 (qi ((b.length:Int)-1)) rfl (ao (by have :=v;omega) rfl) rfl ?_;obtain⟨g,s,h⟩:=h;refine gV 89 (qi ((g:Nat):Int)) rfl (aL s) rfl ?_;obtain⟨hb,h⟩:=h;refine bh 11 (.repl 7 (.row 3 1 (List.map (V.int .i64) (b.take g)))) rfl (by kernel_rfl) (dTr ai rfl rfl rfl rfl (by rw[aB];exact hb) (Nm _ _ _)) (okR rfl) rfl (by kernel_rfl) rfl rfl ?_;refine qDr [(12,0),(13,0),(14,1)] rfl rfl<|qDe<|gR 3 rfl ?_;obtain⟨hb,h⟩:=h;exact gR 1 rfl<|gV 93 (qi ((a+1:Nat):Int)) rfl (ao (by omega) (by omega)) rfl<|gR 2 rfl<|go_xloop<|qW G h [0,9,8];refine gR 3 rfl<|go_xloopE<|gR 1 rfl ?_;obtain⟨rfl,rfl,rfl,rfl⟩:=h;exact gE G [] [] [0,1,2] []
def jX(m:Nat)(G:List Tree)(a:List UInt8)(b:Nat)(O:Int):Prop:=∀(K:Ctx) (J:Nat),aw K []→m≤J→qLG K f182 (λu _=>u=qi O) (xG (cB (aj f182))) [.loop (xG (cB (aj f182))) J,.blk 0,.seq (xA (aj f182))] 19 (mkF 19 0 [(0,.row 4 (kidsV G)),(1,.clo 183 [.box [.str a] 0]),(7,qi (G.length:Int)),(8,qi (b:Int))]) ⟨0,[]⟩
theorem yJ(m:Nat)(p0:List Tree)(a:List UInt8)(r0:Int)(h:jX m p0 a 0 r0):ov p0 a r0:=by
 refine⟨rfl,rfl,?_⟩;refine qA 19 [] func182 λK hK=>?_;exact gR 10 rfl<|gV 7 (qi (p0.length:Int)) rfl (aJ (aD _)) rfl<|gLB 6 rfl (aD _) λb=>gR 4 rfl<|go_loop m<|qW hK h []
theorem rY(m:Nat)(G:List Tree)(b:List UInt8)(a:Nat)(J:Int)(h:((a<G.length)→∃d,G[a]?=some d∧∃c,sR d b c∧((c=true)→(a:Int)=J)∧((c=false)→a+1≤9223372036854775807∧jX m G b (a+1) J))∧((¬a<G.length)→(-1)=J)):jX (m+1) G b a J:=by
 refine qj λK Z O g=>?_;refine gR 6 rfl<|qXh 9 rfl rfl rfl h bX bY ?_ ?_<;>intro U h;refine gR 16 rfl ?_;obtain⟨d,e,h⟩:=h;refine gY (aC (aq e) ai rfl rfl rfl rfl) rfl rfl<|gR 1 rfl ?_;obtain⟨c,f,h⟩:=h;refine SC f (by kernel_rfl) rfl rfl rfl .rfl rfl ?_;refine gR 2 rfl<|qXi 16 rfl rfl rfl h ?_ ?_<;>intro U h;refine gR 10 rfl<|go_xloopR<|gR 2 rfl ?_;subst h;exact qN [.tmp 4];refine gR 5 rfl ?_;obtain⟨hb,h⟩:=h;exact gR 1 rfl<|gV 18 (qi ((a+1:Nat):Int)) rfl (ao (by omega) (by omega)) rfl<|gR 2 rfl<|go_xloop<|qW O h [];refine gR 3 rfl<|go_xloopE<|gR 8 rfl ?_;subst h;exact qN [.tmp 4]
theorem yL(m:Nat)(G J O:List UInt8)(U:Bool)(h:∃a b c,kM G a b c∧a=J∧b=O∧c=U):pI G J O U:=by
 refine⟨rfl,rfl,?_⟩;refine qA 13 [] func161 λK Z=>?_;refine gR 11 rfl ?_;obtain⟨a,b,c,d,h⟩:=h;refine qC0 d rfl<|gR 9 rfl ?_;obtain⟨rfl,rfl,rfl⟩:=h;exact qN [.tmp 4,.tmp 5,.tmp 6]
theorem rg(m:Nat)(G J O:List UInt8)(U:Bool)(h:∃a,fj G a∧((0≤a)→∃b,a=((b:Nat):Int)∧b≤G.length∧InI (a+1)∧∃c,(a+1)=((c:Nat):Int)∧c≤G.length∧(G.take b)=J∧(G.drop c)=O∧true=U)∧((¬0≤a)→G=J∧[]=O∧false=U)):kM G J O U:=by
 refine⟨rfl,rfl,?_⟩;refine qA 23 [] func181 λK hK=>?_;refine gR 12 rfl ?_;obtain⟨a,f,h⟩:=h;refine qC0 f rfl<|gR 9 rfl<|qBd 12 rfl rfl rfl h ?_ ?_<;>intro h;refine gR 2 rfl<|qDs [] 12 12<|qDr [(0,2),(1,2)] rfl rfl ?_;obtain⟨b,d,h⟩:=h;refine gV 14 (qi ((b:Nat):Int)) rfl (aL d) rfl ?_;obtain⟨Z,h⟩:=h;refine gYd 2 rfl (by kernel_rfl) (ySS ai rfl rfl AR (AY rfl) (Nat.zero_le _) Z (xy _ _)) rfl rfl<|qDr (qR 3 4 2 []) rfl rfl ?_;obtain⟨hb,h⟩:=h;refine qDr [(7,2)] rfl rfl<|gV 20 (qi (a+1)) rfl (ao hb rfl) rfl ?_;obtain⟨c,e,h⟩:=h;refine gV 20 (qi ((c:Nat):Int)) rfl (aL e) rfl ?_;obtain⟨hb,h⟩:=h;refine gYd 8 rfl (by kernel_rfl) (ySS ai rfl rfl (AY rfl) AR hb (Nat.le_refl _) (Aw _ _)) rfl rfl<|qDr (qR 9 3 0 []) rfl rfl<|qDe<|gR 3 rfl ?_;obtain⟨rfl,rfl,rfl⟩:=h;exact qN [.tmp 4,.tmp 5,.tmp 6];refine gR 12 rfl ?_;obtain⟨rfl,rfl,rfl⟩:=h;exact qN [.tmp 4,.tmp 5,.tmp 6]
def jx(m:Nat)(G:List UInt8)(J:Int):Prop:=∀(K:Ctx),aw K []→qLG K f194 (λu _=>u=qi J) (xB (cK (cA (xA (aj f194))))) [.blk 0,.seq (xF (aj f194))] 143 (mkF 143 0 [(0,.str G),(1,.str [46]),(5,qi 1)]) ⟨0,[]⟩
theorem qf(m:Nat)(G:List UInt8)(J:Int)(h:(([46]=G)→0=J)∧(([46]≠G)→jx m G J)):fj G J:=by
 refine⟨rfl,rfl,?_⟩;refine qA 143 [] func194 λK O=>?_;refine gR 26 rfl<|qBeZ 16 23 rfl rfl rfl rfl h ?_ ?_<;>intro h;refine gR 9 rfl ?_;subst h;exact qN [.tmp 4];exact gR 1 rfl<|qJ O (h K O) []
theorem pz(m:Nat)(G:List UInt8)(J:Int)(h:∃a,jL G 46 a∧a=J):jx (m+1) G J:=by
 intro K O;refine gR 13 rfl ?_;obtain⟨a,b,h⟩:=h;refine qC0 b rfl<|gR 6 rfl ?_;subst h;exact qN [.tmp 4]
def ic(m:Nat)(J:List Tree)(a:Nat)(O:Bool):Prop:=∀(K:Ctx) (G:Nat),aw K []→m≤G→qLG K f26 (λu _=>u=.bool O) (xG (cB (aj f26))) [.loop (xG (cB (aj f26))) G,.blk 0,.seq (xA (aj f26))] 24 (mkF 24 0 [(0,.row 4 (kidsV J)),(3,qi (a:Int))]) ⟨0,[]⟩
theorem wH(m:Nat)(p0:List Tree)(r0:Bool)(h:ic m p0 0 r0):iJ p0 r0:=by
 refine⟨rfl,rfl,?_⟩;refine qA 24 [] func26 λK hK=>?_;exact gR 12 rfl<|go_loop m<|qW hK h []
theorem pi(m:Nat)(G:List Tree)(a:Nat)(J:Bool)(h:((a<G.length)→∃b,G[a]?=some b∧((b.kind≠1)→false=J)∧((b.kind=1)→∃d,G[a]?=some d∧∃c,eh d c∧((c=false)→false=J)∧((c=true)→ic m G (a+1) J)))∧((¬a<G.length)→true=J)):ic (m+1) G a J:=by
 refine qj λK Z U j=>?_;refine gR 6 rfl<|gV 6 (qi (G.length:Int)) rfl (aJ (aD _)) rfl<|gLB 5 rfl (aD _) λg=>gR 3 rfl<|qXh 7 rfl rfl rfl h bX bY ?_ ?_<;>intro O h;refine gR 9 rfl ?_;obtain⟨b,e,h⟩:=h;refine gY (aC (aq e) ai rfl rfl rfl rfl) rfl rfl<|gR 4 rfl<|qXhZ 16 15 rfl rfl rfl rfl h dy cv ?_ ?_<;>intro O h;refine gR 18 rfl<|go_xloopR<|gR 2 rfl ?_;subst h;exact qN [.tmp 2];refine gR 2 rfl ?_;obtain⟨d,f,h⟩:=h;refine gY (aC (aq f) ai rfl rfl rfl rfl) rfl rfl<|gR 1 rfl ?_;obtain⟨c,i,h⟩:=h;refine qC0 i rfl<|gR 4 rfl<|qXh 23 rfl rfl rfl h bF bG ?_ ?_<;>intro O h;refine gR 9 rfl<|go_xloopR<|gR 2 rfl ?_;subst h;exact qN [.tmp 2];exact gR 7 rfl<|gV 9 (qi ((a+1:Nat):Int)) rfl (ao (by have :=g;omega) (by omega)) rfl<|gR 2 rfl<|go_xloop<|qW U h [];refine gR 3 rfl<|go_xloopE<|gR 8 rfl ?_;subst h;exact qN [.tmp 2]
def kC(m:Nat)(J:List UInt8)(a:Nat)(O:Int):Prop:=∀(K:Ctx) (G:Nat),aw K []→m≤G→qLG K f106 (λu _=>u=qi O) (xG (cB (aj f106))) [.loop (xG (cB (aj f106))) G,.blk 0,.seq (xA (aj f106))] 15 (mkF 15 0 [(0,.str J),(3,qi (a:Int))]) ⟨0,[]⟩
theorem yU(m:Nat)(p0:List UInt8)(r0:Int)(h:kC m p0 0 r0):pG p0 r0:=by
 refine⟨rfl,rfl,?_⟩;refine qA 15 [] func106 λK hK=>?_;exact gR 12 rfl<|go_loop m<|qW hK h []
theorem sh(m:Nat)(G:List UInt8)(a:Nat)(J:Int)(h:((a<G.length)→∃b,G[a]?=some b∧(((b.toNat:Int)=46)→(a:Int)=J)∧(((b.toNat:Int)≠46)→a+1≤9223372036854775807∧kC m G (a+1) J))∧((¬a<G.length)→(-1)=J)):kC (m+1) G a J:=by
 refine qj λK Z O d=>?_;refine gR 9 rfl<|qXh 7 rfl rfl rfl h bX bY ?_ ?_<;>intro U h;refine gR 9 rfl ?_;obtain⟨b,c,h⟩:=h;refine gY (yIS ai rfl rfl rfl c) rfl rfl<|gR 3 rfl<|qXe 13 rfl rfl rfl h ?_ ?_<;>intro U h;refine gR 10 rfl<|go_xloopR<|gR 2 rfl ?_;subst h;exact qN [.tmp 2];refine gR 6 rfl ?_;obtain⟨hb,h⟩:=h;exact gR 1 rfl<|gV 9 (qi ((a+1:Nat):Int)) rfl (ao (by omega) (by omega)) rfl<|gR 2 rfl<|go_xloop<|qW O h [];refine gR 3 rfl<|go_xloopE<|gR 8 rfl ?_;subst h;exact qN [.tmp 2]
def hI(m:Nat)(J:List Tree)(p2:List UInt8)(a:Int)(b:Nat)(O U:Int)(Z:Bool):Prop:=∀(K:Ctx) (G:Nat),aw K []→m≤G→qLG K f64 (λu _=>u=.tup [qi O,qi U,.bool Z]) (xM (cA (cB (xJ (cA (xA (aj f64))))))) [.loop (xM (cA (cB (xJ (cA (xA (aj f64))))))) G,.blk 0,.seq (xA (xJ (cA (xA (aj f64))))),.seq (xF (aj f64))] 65 (mkF 65 0 [(0,.row 4 (kidsV J)),(2,.str p2),(9,qi a),(10,qi (b:Int))]) ⟨0,[]⟩
def eS(m:Nat)(J:List Tree)(a:Nat)(b:Int)(c:List UInt8)(O U:Int)(Z:Bool):Prop:=∀(K:Ctx) (G:Nat),aw K []→m≤G→qLG K f64 (λu _=>u=.tup [qi O,qi U,.bool Z]) (xK (aj f64)) [.loop (xK (aj f64)) G,.blk 2,.seq (xH (aj f64))] 65 (mkF 65 0 [(0,.row 4 (kidsV J)),(1,qi b),(2,.str c),(11,qi (a:Int))]) ⟨0,[]⟩
def nz(m:Nat)(G:List Tree)(p2:List UInt8)(a:Int)(b:Nat)(J O:Int)(U:Bool):Prop:=∀(K:Ctx),aw K []→qLG K f64 (λu _=>u=.tup [qi J,qi O,.bool U]) (xA (xJ (cA (xA (aj f64))))) [.seq (xF (aj f64))] 65 (mkF 65 0 [(0,.row 4 (kidsV G)),(2,.str p2),(9,qi a),(10,qi (b:Int))]) ⟨0,[]⟩
theorem si(m:Nat)(p0:List Tree)(p1:Int)(p2:List UInt8)(r0 r1:Int)(r2:Bool)(h:∃a,pG p2 a∧((0≤a)→hI m p0 p2 a 0 r0 r1 r2)∧((¬0≤a)→eS m p0 0 p1 p2 r0 r1 r2)):fD p0 p1 p2 r0 r1 r2:=by
 refine⟨rfl,rfl,?_⟩;refine qA 65 [] func64 λK hK=>?_;refine gR 10 rfl ?_;obtain⟨a,b,h⟩:=h;refine qC0 b rfl<|gR 10 rfl<|qXd 15 rfl rfl rfl h ?_ ?_<;>intro hd h;exact gR 8 rfl<|go_loop m<|qW hK h [];exact gR 10 rfl<|go_loop m<|qW hK h []
theorem mF(m:Nat)(G:List Tree)(p2:List UInt8)(c:Int)(a:Nat)(O U:Int)(Z:Bool)(h:((a<G.length)→∃d,G[a]?=some d∧∃b,c=((b:Nat):Int)∧b≤p2.length∧((d.text≠(p2.take b))→hI m G p2 c (a+1) O U Z)∧((d.text=(p2.take b))→nz m G p2 c a O U Z))∧((¬a<G.length)→nz m G p2 c a O U Z)):hI (m+1) G p2 c a O U Z:=by
 refine qj λK j1 J i=>?_;refine gR 2 rfl<|qDs [] 15 15<|qDr [(0,2),(1,0),(2,0)] rfl rfl<|gV 18 (qi (G.length:Int)) rfl (aJ (aD _)) rfl<|gLB 17 rfl (aD _) λg=>qDr [(3,0),(4,0)] rfl rfl<|qXhZ 20 19 rfl rfl rfl rfl h bX bY ?_ ?_<;>intro hd h;refine qDr [(5,2),(6,2)] rfl rfl ?_;obtain⟨d,e,h⟩:=h;refine gYd 7 rfl (by kernel_rfl) (aC (aq e) ai rfl rfl rfl rfl) rfl rfl<|qDr (qR 8 3 2 [(11,0)]) rfl rfl ?_;obtain⟨b,f,h⟩:=h;refine gV 27 (qi ((b:Nat):Int)) rfl (aL f) rfl ?_;obtain⟨hb',h⟩:=h;refine bD 12 rfl (by kernel_rfl) (ySS ai rfl rfl AR (AY rfl) (Nat.zero_le _) hb' (xy _ _)) rfl rfl ?_;refine qDr [(13,0),(14,0)] rfl rfl<|qDe<|gR 1 rfl<|qXh 30 rfl rfl rfl h dy cv ?_ ?_<;>intro hd h;exact gR 7 rfl<|gV 32 (qi ((a+1:Nat):Int)) rfl (ao (by have :=g;omega) (by omega)) rfl<|gR 3 rfl<|go_xloop<|qW J h [];exact gR 3 rfl<|go_xloopE<|gR 2 rfl<|qJ J (h K J) [];exact qDr (qR 5 6 2 (qR 11 4 0 [])) rfl rfl<|qDe<|gR 4 rfl<|go_xloopE<|gR 2 rfl<|qJ J (h K J) []
theorem rQ(m:Nat)(G:List Tree)(a:Nat)(b:Int)(d:List UInt8)(J O:Int)(U:Bool)(h:∃e,b=((e:Nat):Int)∧∃c,G[e]?=some c∧((a<c.kids.length)→∃f,b=((f:Nat):Int)∧∃i,G[f]?=some i∧∃g,i.kids[a]?=some g∧((g.text=d)→b=J∧(a:Int)=O∧true=U)∧((g.text≠d)→eS m G (a+1) b d J O U))∧((¬a<c.kids.length)→0=J∧0=O∧false=U)):eS (m+1) G a b d J O U:=by
 refine qj λK j1 Z q=>?_;refine gR 6 rfl ?_;obtain⟨e,n,h⟩:=h;refine gV 44 (qi ((e:Nat):Int)) rfl (aL n) rfl ?_;obtain⟨c,j,h⟩:=h;refine gY (aC (aq j) ai rfl rfl rfl rfl) rfl rfl<|gR 3 rfl<|gV 48 (qi (c.kids.length:Int)) rfl (aJ (aD _)) rfl<|gLB 47 rfl (aD _) λp=>gR 3 rfl<|qXh 49 rfl rfl rfl h bX bY ?_ ?_<;>intro hd h;refine gR 9 rfl ?_;obtain⟨f,o,h⟩:=h;refine gV 53 (qi ((f:Nat):Int)) rfl (aL o) rfl ?_;obtain⟨i,k,h⟩:=h;refine gY (aC (aq k) ai rfl rfl rfl rfl) rfl rfl<|gR 3 rfl ?_;obtain⟨g,l,h⟩:=h;refine gY (aC (aq l) ai rfl rfl rfl rfl) rfl rfl<|gR 6 rfl<|qXe 62 rfl rfl rfl h ?_ ?_<;>intro hd h;refine gR 13 rfl<|go_xloopR<|gR 2 rfl ?_;obtain⟨rfl,rfl,rfl⟩:=h;exact qN [.tmp 6,.tmp 7,.tmp 8];exact gR 7 rfl<|gV 51 (qi ((a+1:Nat):Int)) rfl (ao (by have :=p;omega) (by omega)) rfl<|gR 2 rfl<|go_xloop<|qW Z h [];refine gR 3 rfl<|go_xloopE<|gR 10 rfl ?_;obtain⟨rfl,rfl,rfl⟩:=h;exact qN [.tmp 6,.tmp 7,.tmp 8]
theorem rO(m:Nat)(p0:List Tree)(p2:List UInt8)(b:Int)(c:Nat)(r0 r1:Int)(r2:Bool)(h:((c=p0.length)→0=r0∧0=r1∧false=r2)∧((c≠p0.length)→InI (b+1)∧∃a,(b+1)=((a:Nat):Int)∧a≤p2.length∧eS m p0 0 (c:Int) (p2.drop a) r0 r1 r2)):nz (m+1) p0 p2 b c r0 r1 r2:=by
 intro K hK;refine gR 6 rfl<|gV 35 (qi (p0.length:Int)) rfl (aJ (aD _)) rfl<|gLB 34 rfl (aD _) λe=>gR 3 rfl<|qXh 36 rfl rfl rfl h Sy SF ?_ ?_<;>intro hd h;refine gR 11 rfl ?_;obtain⟨rfl,rfl,rfl⟩:=h;exact qN [.tmp 6,.tmp 7,.tmp 8];refine gR 3 rfl<|qDs [] 7 7<|qDr (qR 0 3 2 []) rfl rfl ?_;obtain⟨hb,h⟩:=h;refine qDr [(3,2)] rfl rfl<|gV 40 (qi (b+1)) rfl (ao hb rfl) rfl ?_;obtain⟨a,d,h⟩:=h;refine gV 40 (qi ((a:Nat):Int)) rfl (aL d) rfl ?_;obtain⟨hb,h⟩:=h;exact gYd 4 rfl (by kernel_rfl) (ySS ai rfl rfl (AY rfl) AR hb (Nat.le_refl _) (Aw _ _)) rfl rfl<|qDr [(5,0),(6,0)] rfl rfl<|qDe<|gR 8 rfl<|go_loop m<|qW hK h []
variable{k':IntKind}
section
variable{P:Program}{T:Tab}{K:Ctx}{Q:Exit→Act→World→Prop}{s:List EI}{n:Nat}{F:Fm}{H:Hp}{all:Array Oper}{rest:List Oper}{o:Oper}
theorem Rr{a:Act}{w:World}{src dst:TypeId}{k k1:IntKind}(h:Fr a n f)(hs:P.underlying src=some (.int k1))(ht:P.underlying dst=some (.int k))(hx:aS f x=some (.int k' m))(G:k.wrap m=m):Runs P a ty (.convert src dst x) w (.value (.int k m)) w:=λ_ _ _ _=>by
 simp only[execOp,h.eval hx];simp[go_sem,convert,run_underlying hs,run_underlying ht,Conv.intToInt,G]
theorem OH{a:Act}{w:World}{y:Operand}{k:IntKind}(h:Fr a n f)(hx:aS f x=some (.int k m))(hy:aS f y=some (.int k' 1))   :Runs P a ty (.binOp .shr t x y u) w (.value (.int k (m.fdiv 2))) w:=λ_ _ _ _=>by
 simp only[execOp,h.eval hx,h.eval hy];cases k<;>simp[go_sem,eqGuard,Op.shift]
theorem DI(G:0≤m)(h1:m≤9223372036854775807):IntKind.u64.wrap m=m:=IntWalk.u64_in m (by omega)
theorem DJ(G:0≤m)(h1:m≤9223372036854775807):IntKind.i64.wrap m=m:=IntWalk.i64_in m (by omega)
theorem yCv{src dst:TypeId}{k k1:IntKind}(hs:P.underlying src=some (.int k1))(ht:P.underlying dst=some (.int k))(hx:aM F x=some (.int k' m))(J:k.wrap m=m):∀S w ρ a,HRel S w ρ H.get→FRel S w ρ a n F→Yld P S w ρ a ty (.convert src dst x) (.int k m):=λS w ρ a hr G=>⟨_,by simp only[VRel],λw' _=>Rr G.fr hs ht (bu (au G hx)) J⟩
theorem IS{y:Operand}{k:IntKind}{m:Nat}(hx:aM F x=some (.int k (m:Int)))(hy:aM F y=some (.int k' 1)):∀S w ρ a,HRel S w ρ H.get→FRel S w ρ a n F→Yld P S w ρ a ty (.binOp .shr t x y u) (.int k ((m/2:Nat):Int)):=λS w ρ a hr G=>by
 have e:((m/2:Nat):Int)=(m:Int).fdiv 2:=by rw[Int.fdiv_eq_ediv_of_nonneg _ (by decide)];omega
 rw[e];exact⟨_,by simp only[VRel],λw' _=>OH G.fr (bu (au G hx)) (bu (au G hy))⟩
end
section
variable{P:Program}{T:Tab}{K:Ctx}{Q:Exit→Act→World→Prop}{s:List EI}{n:Nat}{F F1:Fm}{H:Hp}{all:Array Oper}{L:List Nat}{m fuel:Nat}{listed:Array Bool}
theorem tD{e:TypeId}{id sz j o':Nat}{els:List V}{v0 v:V}{td:TD}{ps:String}{af:Array Edge}(i:Nat)(hi:all[i]?=some ⟨d,.load t x,ty,ps,af,g⟩)
  (G:(!Nat.beq i m&&zO .any all m i&&!(listed.getD m false)&&Region.free .any all listed i&&(Region.ready .any all listed).contains i&&L.contains id)=true) (J:bA F all g=some true) (O:TabOk P T) (ht:T.ty t=some td) (hx:aM F x=some (.el id sz j o')) (U:H.get id=.row e sz els) (Z:els[j]?=some v0) (hv:rh td v0.cells o'=some v)
  (h1:F.puto d (some v) _root_.id=F1) (k:Go P K Q (.drw all L m fuel (listed.setIfInBounds i true)) s n F1 H):Go P K Q (.drw all L m (fuel+1) listed) s n F H:=by
 rw[Fm.puto_eq]at h1;subst h1;simp only[Bool.and_eq_true,Bool.not_eq_true']at G;obtain⟨⟨⟨⟨⟨c1,c2⟩,c3⟩,c4⟩,c5⟩,c6⟩:=G;have he:od T H.get F H.nx (.load t x)=some (some v,.nop):=by
  have hb:Nat.beq sz sz=true:=Nat.beq_refl sz;unfold od;simp only[hx,ht,U,hb,pW,Z,hv]
 exact IA (o:=⟨d,.load t x,ty,ps,af,g⟩) (id:=id) O c1 c2 c3 hi c4 c5 J (by show tx F (.load t x)=some id;unfold tx;simp only[hx]) c6 he k
end
end Go.Proofs.YtomplbgchbfjpaaGreatDoor
