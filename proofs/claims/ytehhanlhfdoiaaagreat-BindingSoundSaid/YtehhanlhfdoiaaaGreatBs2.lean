/- Contracts of the functions that the law reaches, part 2. -/
import Derived.Test.YtehhanlhfdoiaaaGreatBs1
set_option linter.unusedVariables false
set_option linter.unusedSimpArgs false
namespace Go.Proofs.YtehhanlhfdoiaaaGreat
open _root_.Go.Proofs.Tryz
open Go.RowKit
structure Ctx where
 w0:World
 S0:Nat->Prop
 X0:Nat->Prop
 pin:Nat->Option Value
structure Inv (K:Ctx) (S:Nat->Prop) (w:World) (ρ:Nat->Option Value) (h:Nat->Ob):Prop where
 chg:ChgP K.X0 K.w0 w
 s0:∀b,K.S0 b->S b
 s1:∀b,S b->K.S0 b∨K.X0 b∨K.w0.heap.size<=b
 ow:∀id b,own ρ id (h id) b->K.X0 b∨K.w0.heap.size<=b
 pin:∀id x,K.pin id=some x->ρ id=some x
variable{all:Array Oper}{o:Oper}
section
variable{P:Program}{T:Tab}{K:Ctx}{S S':Nat->Prop}{w w':World}{ρ ρ':Nat->Option Value}{h h':Nat->Ob}{a:Act}{n:Nat}{F:Fm}{X:Nat->Prop}
theorem Inv.eff(hi:Inv K S w ρ h)(E:Eff S w w' ρ ρ' h h' X):Inv K S w' ρ' h':=
 ⟨hi.chg.trans E.chg (λb ⟨id,_,hb⟩=>hi.ow id b hb),hi.s0,hi.s1,λid b hb=>by
  rcases E.new id b hb with⟨j,G⟩|G
  ·exact hi.ow j b G
  ·exact .inr (aao hi.chg.size G),λid x hx=>E.up.r _ _ (hi.pin id x hx)⟩
theorem Inv.frz(hr:HRel S w ρ h)(hi:Inv K S w ρ h)(id:Nat):Inv K (λb=>S b∨own ρ id (h id) b) w ρ (bi h id .gone):=
 ⟨hi.chg,λb hb=>.inl (hi.s0 b hb),λb hb=>by
  rcases hb with hb|hb
  ·exact hi.s1 b hb
  ·exact .inr<|hi.ow id b hb,λi b hb=>by
  by_cases E:i=id
  ·subst E;rw[aP]at hb;exact hb.elim
  ·rw[aY _ _ E]at hb;exact hi.ow i b hb,hi.pin⟩
theorem HRel.chg0(hr:HRel S w ρ h)(E:Chg [] w w'):HRel S w' ρ h:=by
 have up:Up S S w w' ρ ρ:=⟨λ_ h=>h,λb _ hb=>E.block b hb (by simp),λ_ _ h=>h⟩;refine⟨λi=>(hr.ob i).up up (λhf=>?_) (λb hb=>E.block b (cY (hr.ob i) hb)<|by simp),hr.sep,hr.dis,hr.slt.up up λb hb=>aaw (hr.slt b hb) E.size⟩;have :=hr.ob i;rw[hf]at this;exact this
theorem Up.chg0(E:Chg [] w w'):Up S S w w' ρ ρ:=⟨λ_ h=>h,λb _ hb=>E.block b hb (by simp),λ_ _ h=>h⟩
theorem Inv.chg0(hi:Inv K S w ρ h)(E:Chg [] w w'):Inv K S w' ρ h:=⟨hi.chg.trans (ChgP.of E) (λb hb=>by simp at hb),hi.s0,hi.s1,hi.ow,hi.pin⟩
theorem HRel.drop(hr:HRel S w ρ h)(J:∀i,h' i=h i∨h' i=.gone):HRel S w ρ h':=by
 have back:∀i b,own ρ i (h' i) b->own ρ i (h i) b:=λi b hb=>by
  rcases J i with e|e
  ·rw[e]at hb;exact hb
  ·rw[e]at hb;exact hb.elim
 refine⟨λi=>?_,λi b hb=>hr.sep i b<|back i b hb,λi j b E G=>hr.dis i j b (back i b E)<|back j b G,hr.slt⟩;rcases J i with e|e
 ·rw[e];exact hr.ob i
 ·rw[e];trivial
theorem Inv.drop(hi:Inv K S w ρ h)(E:∀i,h' i=h i∨h' i=.gone):Inv K S w ρ h':=
 ⟨hi.chg,hi.s0,hi.s1,λi b hb=>by
  rcases E i with e|e
  ·rw[e]at hb;exact hi.ow i b hb
  ·rw[e]at hb;exact hb.elim,hi.pin⟩
theorem Agree.refl:Agree S w w:=λ_ _=>rfl
theorem oT(hr:HRel S w ρ h)(E:Eff S w w' ρ ρ' h h' X):Agree S w w':=λb hb=>E.up.blk b hb<|hr.slt b hb
def bd(F:Fm)(all:Array Oper)(g:Option<|Nat×Bool):Option Bool:=match g with
 |none=>some true
 |some (j,b)=>match(all[j]?).bind (·.dst)with
  |some d=>match F.get d with
   |some (.bool true)=>some b
   |some (.bool false)=>some<|!b
   |some (.tup _)=>some false
   |_=>none
  |none=>none
theorem cg(hF:FRel S w ρ a n F){c:Bool}(E:bd F all o.guard=some c):Region.wanted o (yielded all a.tmps)=c:=by
 unfold bd at E;split at E
 ·rename_i G;injection E with E;subst E
  exact sd hF.fr (by rw[G];rfl)
 ·rename_i j b G;split at E
  ·rename_i d J;split at E
   ·rename_i hv;obtain⟨x,h1,h2⟩:=hF.get d _ hv;simp only[VRel]at h2;subst h2;injection E with E;subst E
    cases b
    ·exact zk hF.fr (by rw[G];simp only[wI,sL,J];simp[fA,h1])
    ·exact sd hF.fr (by rw[G];simp only[pe,sL,J];simp[fA,h1])
   ·rename_i hv;obtain⟨x,h1,h2⟩:=hF.get d _ hv;simp only[VRel]at h2;subst h2;injection E with E;subst E
    cases b
    ·exact sd hF.fr (by rw[G];simp only[pe,sL,J];simp[fA,h1])
    ·exact zk hF.fr (by rw[G];simp only[wI,sL,J];simp[fA,h1])
   ·rename_i hv;obtain⟨x,h1,h2⟩:=hF.get d _ hv;simp only[VRel]at h2;obtain⟨xs,rfl,_⟩:=h2;injection E with E;subst E
    exact zk hF.fr (by rw[G];simp only[wI,sL,J];simp[fA,h1])
   ·cases E
  ·cases E
end
def Go(P:Program)(K:Ctx)(Q:Exit->Act->World->Prop)(p:EP)(s:List EI)(n:Nat)(F:Fm)(H:Hp):Prop:=
 ∀S w ρ a,HRel S w ρ H.get->Inv K S w ρ H.get->FRel S w ρ a n F->EP.wp P Q p s S w ρ a
def CallR (P:Program) (K:Ctx) (fid:FuncId) (vs:List V) (H:Hp) (L:List Nat) (Post:V->Hp->Prop):Prop:=
  ∀ S w ρ xs,HRel S w ρ H.get->Inv K S w ρ H.get->LRel S w ρ vs xs->Calls P fid xs.toArray w λe w'=>
    ∃x S' ρ' v H',e=.returned x∧Post v H'∧HRel S' w' ρ' H'.get∧Inv K S' w' ρ' H'.get∧Up S S' w w' ρ ρ'∧VRel S' w' ρ' v x∧Ls ρ L w w'
def Ft(v:Option V):Option V:=match v with
 |some v=>some v
 |none=>some<|.tup []
variable{S:Nat->Prop}{ρ:Nat->Option Value}
variable{a:Act}
variable{v:V}
variable{i:Nat}
variable{j:Nat}
variable{ed:ED}
variable{fid:FuncId}
variable{w':World}
variable{ρ':Nat->Option Value}
variable{h:Nat->Ob}
section
variable{P:Program}{T:Tab}{K:Ctx}{Q:Exit->Act->World->Prop}{s:List EI}{n:Nat}{F:Fm}{H:Hp}
theorem xm{w:World}:VRel S w ρ (.tup []) undef:=by simp only[VRel];exact⟨[],rfl,by simp[LRel]⟩
theorem sv{w:World}(hF:FRel S w ρ a n F)(d:Option Tmp):FRel S w ρ (a.put d undef) n (F.seto d<|some<|.tup []):=
 hF.set d (λu E=>by injection E with E;subst E;exact xm)
theorem cI{w:World}{x:Value}(hF:FRel S w ρ a n F)(d:Option Tmp)(hx:VRel S w ρ v x):FRel S w ρ (a.put d x) n (F.seto d<|some v):=
 hF.set d (λu E=>by injection E with E;subst E;exact hx)
theorem Me{x y:Code}(k:Go P K Q (.code x) (.seq y::s) n F H):Go P K Q (.code<|.seq x y) s n F H:=λS w ρ a hr hi hF=>wp_seq<|k S w ρ a hr hi hF
theorem El{id:Nat}{c:Code}(k:Go P K Q (.code c) (.blk id::s) n F H):Go P K Q (.code<|.block id c) s n F H:=λS w ρ a hr hi hF=>wp_block<|k S w ρ a hr hi hF
theorem Ho(k:Go P K Q (.ex .normal) s n F H):Go P K Q (.code .skip) s n F H:=λS w ρ a hr hi hF=>wp_skip<|k S w ρ a hr hi hF
theorem go_ret(k:Go P K Q (.ex .ret) s n F H):Go P K Q (.code .ret) s n F H:=λS w ρ a hr hi hF=>wp_ret<|k S w ρ a hr hi hF
theorem Hw{id:Nat}(k:Go P K Q (.ex<|.exit id) s n F H):Go P K Q (.code<|.exit id) s n F H:=λS w ρ a hr hi hF=>wp_exit<|k S w ρ a hr hi hF
theorem Mr{l:Nat}(k:Go P K Q (.ex .normal) s n F H):Go P K Q (.code<|.label l) s n F H:=λS w ρ a hr hi hF=>wp_label<|k S w ρ a hr hi hF
theorem NK{c:Code}(k:Go P K Q (.code c) (.scp::s) n F H):Go P K Q (.code<|.scope c) s n F H:=λS w ρ a hr hi hF=>wp_scope_straight<|k S w ρ a hr hi hF
theorem go_loop{c:Code}(j:Nat)(k:Go P K Q (.code c) (.loop c j::s) n F H):Go P K Q (.code<|.loop c) s n F H:=λS w ρ a hr hi hF=>wp_loop_rounds (j+1)<|k S w ρ a hr hi hF
theorem FH{c:Operand}{x y:Code}(E:aG F c=some (.bool true))(k:Go P K Q (.code x) s n F H):Go P K Q (.code<|.cond c x y) s n F H:=λS w ρ a hr hi hF=>Fs hF.fr (pV<|al hF E)<|k S w ρ a hr hi hF
theorem Ef{c:Operand}{x y:Code}(E:aG F c=some (.bool false))(k:Go P K Q (.code y) s n F H):Go P K Q (.code<|.cond c x y) s n F H:=λS w ρ a hr hi hF=>Ff hF.fr (pV<|al hF E)<|k S w ρ a hr hi hF
theorem go_region{id:Nat}{l:List Oper}(k:Go P K Q (.ops l.toArray l) s n F H):Go P K Q (.code<|.region id l.toArray false) s n F H:=λS w ρ a hr hi hF=>wp_region_lit<|k S w ρ a hr hi hF
theorem Kw(k:Go P K Q (.ex .normal) s n F H):Go P K Q (.ops all []) s n F H:=λS w ρ a hr hi hF=>k S w ρ a hr hi hF
theorem Hx{c:Code}(k:Go P K Q (.code c) s n F H):Go P K Q (.ex .normal) (.seq c::s) n F H:=k
theorem FC{c:Code}(k:Go P K Q (.ex<|.exit i) s n F H):Go P K Q (.ex<|.exit i) (.seq c::s) n F H:=k
theorem DY{c:Code}(k:Go P K Q (.ex .ret) s n F H):Go P K Q (.ex .ret) (.seq c::s) n F H:=k
theorem go_xloop{c:Code}(k:Go P K Q (.code c) (.loop c j::s) n F H):Go P K Q (.ex .normal) (.loop c (j+1)::s) n F H:=λS w ρ a hr hi hF=>k S w ρ a hr hi hF
theorem go_xloopE{c:Code}(k:Go P K Q (.ex<|.exit i) s n F H):Go P K Q (.ex<|.exit i) (.loop c j::s) n F H:=k
theorem go_xloopR{c:Code}(k:Go P K Q (.ex .ret) s n F H):Go P K Q (.ex .ret) (.loop c j::s) n F H:=k
theorem Eo{id:Nat}(k:Go P K Q (.ex .normal) s n F H):Go P K Q (.ex .normal) (.blk id::s) n F H:=k
theorem Gi{id:Nat}(k:Go P K Q (.ex .ret) s n F H):Go P K Q (.ex .ret) (.blk id::s) n F H:=k
theorem Fg{id:Nat}(hb:Nat.beq i id=true)(k:Go P K Q (.ex .normal) s n F H):Go P K Q (.ex<|.exit i) (.blk id::s) n F H:=λS w ρ a hr hi hF=>by have :=aaf hb;subst this;simp only[EP.wp,dI,Exit.inBlock,if_true];exact k S w ρ a hr hi hF
theorem Ea{id:Nat}(hb:Nat.beq i id=false)(k:Go P K Q (.ex<|.exit i) s n F H):Go P K Q (.ex<|.exit i) (.blk id::s) n F H:=λS w ρ a hr hi hF=>by
 simp only[EP.wp,dI,Exit.inBlock,if_neg<|Nat.ne_of_beq_eq_false hb];exact k S w ρ a hr hi hF
theorem MG(k:Go P K Q (.ex .normal) s n F H):Go P K Q (.ex .normal) (.scp::s) n F H:=k
theorem ML(k:Go P K Q (.ex<|.exit i) s n F H):Go P K Q (.ex<|.exit i) (.scp::s) n F H:=k
theorem NG(k:Go P K Q (.ex .ret) s n F H):Go P K Q (.ex .ret) (.scp::s) n F H:=k
variable{all:Array Oper}{rest:List Oper}{o:Oper}
theorem La(E:bd F all o.guard=some false)(k:Go P K Q (.ops all rest) s n (F.seto o.dst<|some<|.tup []) H):Go P K Q (.ops all<|o::rest) s n F H:=λS w ρ a hr hi hF=>by
 show wpList P all (dI P Q s) (o::rest) a w;unfold wpList;rw[cg hF E];simp only[aaD,if_false];exact k S w ρ _ hr hi<|sv hF o.dst
theorem go_opY(E:bd F all o.guard=some true)(hy:∀S w ρ a,HRel S w ρ H.get->FRel S w ρ a n F->Yld P S w ρ a o.type o.op v)(k:Go P K Q (.ops all rest) s n (F.seto o.dst<|some v) H):Go P K Q (.ops all<|o::rest) s n F H:=λS w ρ a hr hi hF=>by
 show wpList P all (dI P Q s) (o::rest) a w;unfold wpList;rw[if_pos<|cg hF E];refine .inl ?_;obtain⟨x,h1,h2⟩:=hy S w ρ a hr hF;obtain⟨d,op,ty,ps,af,g⟩:=o;unfold Oper.wp;rw[h2 w Agree.refl d ps af g];exact k S w ρ _ hr hi<|cI hF d h1
theorem go_opP(hT:TabOk P T)(E:bd F all o.guard=some true)(hv:pa T H.get F o.op=some v)(k:Go P K Q (.ops all rest) s n (F.seto o.dst<|some v) H):Go P K Q (.ops all<|o::rest) s n F H:=
 go_opY E (λS w ρ a hr hF=>wH hT hr hF hv) k
theorem go_opD{v:Option V}(U:bd F all o.guard=some true)(Z:∀S w ρ a,HRel S w ρ H.get->FRel S w ρ a n F->Does P S w ρ H.get a o.type o.op v (ed.app H.get H.nx) ed.tch)(hl:ed.ok H.get)(k:Go P K Q (.ops all rest) s n (F.seto o.dst<|Ft v)<|H.app ed):Go P K Q (.ops all<|o::rest) s n F H:=λS w ρ a hr hi hF=>by
 show wpList P all (dI P Q s) (o::rest) a w;unfold wpList;rw[if_pos<|cg hF U];refine .inl ?_;obtain⟨nx,w',ρ',h1,h2,J⟩:=Z S w ρ a hr hF;have E:=h2.hr;have G:=hi.eff h2;rw[<-Hp.get_app hl]at E G;obtain⟨d,op,ty,ps,af,g⟩:=o;unfold Oper.wp;rw[h1 d ps af g];cases v with
 |none=>
  subst J;exact k S w' ρ' _ E G<|sv (hF.up h2.up) d
 |some v=>
  obtain⟨x,rfl,h4⟩:=J;exact k S w' ρ' _ E G<|cI (hF.up h2.up) d h4
theorem go_opE(hT:TabOk P T){v:Option V}(E:bd F all o.guard=some true)(hv:oe T H.get F H.nx o.op=some (v,ed))(k:Go P K Q (.ops all rest) s n (F.seto o.dst<|Ft v)<|H.app ed):Go P K Q (.ops all<|o::rest) s n F H:=
 go_opD E (λS w ρ a hr hF=>zd hT hr hF H.get_free hv) (uv hv) k
theorem go_opC{args:List Operand}{tys:Array TypeId}{vs:List V}{Post:V->Hp->Prop}(U:bZ P fid=true)(ho:o.op=.call {callee:=.value<|.func fid,args:=args.toArray,argTypes:=tys})(Z:bd F all o.guard=some true)(hv:fk F args=some vs)(hC:CallR P K fid vs H [] Post)
  (k:∀v H',Post v H'->Go P K Q (.ops all rest) s n (F.seto o.dst<|some v) H'):Go P K Q (.ops all<|o::rest) s n F H:=λS w ρ a hr hi hF=>by
 show wpList P all (dI P Q s) (o::rest) a w;unfold wpList;rw[if_pos<|cg hF Z];refine .inl ?_;obtain⟨xs,h1,h2⟩:=qh hF hv;have hc:=hC S w ρ xs hr hi h2;obtain⟨d,op,ty,ps,af,g⟩:=o;simp only at ho;subst ho;have hx:(execOp a.eval ⟨d,.call {callee:=.value<|.func fid,args:=args.toArray,argTypes:=tys},ty,ps,af,g⟩).run P w=.ok (.enter fid xs.toArray) w:=by
  have e:args.toArray.map a.eval=xs.toArray:=by rw[<-hF.fr.vals h1];simp
  simp only[execOp,resolve,e];simp[Act.eval,Deferred.ofValue,invoke,lx U]
 unfold Oper.wp;rw[hx,Oper.upon_enter];refine hc.mono λe w1 hR=>?_;obtain⟨x,S',ρ',v,H',rfl,hp,E,G,hu,J,_⟩:=hR;exact k v H' hp S' w1 ρ' _ E G<|cI (hF.up hu) d J
theorem Is{id:Nat}{l:List Oper}(L:YN)(m sz:Nat)(hsz:l.length=sz)(G:P.follows .mixedOrders=true)(hs:Region.noSelect l.toArray=true)(k:Go P K Q (.drw l.toArray L m sz<|Array.replicate sz false) s n F H):Go P K Q (.code<|.region id l.toArray true) s n F H:=λS w ρ a hr hi hF=>by
 refine wp_region_noPanic (wp_region_any G (By (B:=Agree S {w with drawn:=w.drawn+1}) (S:=Ls ρ L {w with drawn:=w.drawn+1}) (m:=m) _ _ _ _ ?_));have E:=Chg.drew w;have :=k S {w with drawn:=w.drawn+1} ρ a (hr.chg0 E) (hi.chg0 E) (hF.up<|Up.chg0 E) hs;subst hsz;simpa using this
variable{L:YN}{m left i:Nat}{listed:Array Bool}
theorem FB(E:Region.ready .any all listed=[])(k:Go P K Q (.ex .normal) s n F H):Go P K Q (.drw all L m left listed) s n F H:=λS w ρ a hr hi hF _=>by
 have G:=k S w ρ a hr hi hF;cases left with
 |zero=>exact⟨E,G⟩
 |succ left=>exact⟨λ_=>G,by rw[E];simp⟩
theorem wY{S':Nat->Prop}{w:World}(E:∀b,S b->S' b)(h1:Agree S w w'):∀x,Agree S' w' x->Agree S w x:=λx hx b hb=>(hx b<|E b hb).trans<|h1 b hb
theorem PW{w:World}(hρ:∀i x,ρ i=some x->ρ' i=some x)(h1:Ls ρ L w w'):∀x,Ls ρ' L w' x->Ls ρ L w x:=λx hx id hid y b hy hb=>(hx id hid y b (hρ _ _ hy) hb).trans<|h1 id hid y b hy hb
theorem nh{S':Nat->Prop}{w:World}(G:Up S S' w w' ρ ρ')(J:Agree S w w')(E:Ls ρ L w w'∨listed.getD m false=true)(h:wpB P all (NoPanic<|dI P Q s) (Agree S' w') (Ls ρ' L w') m left listed a w'):
  Agree S w w'∧(Ls ρ L w w'∨listed.getD m false=true)∧wpB P all (NoPanic<|dI P Q s) (Agree S w) (Ls ρ L w) m left listed a w':=by
 refine⟨J,E,?_⟩;rcases E with E|E
 ·exact zJ (wY G.s J) (λx _=>PW G.r E x) _ _ _ _ h
 ·
  have key:∀(fuel:Nat) (listed:Array Bool) (a:Act) (w'':World),listed.getD m false=true->wpB P all (NoPanic<|dI P Q s) (Agree S' w') (Ls ρ' L w') m fuel listed a w''->wpB P all (NoPanic<|dI P Q s) (Agree S w) (Ls ρ L w) m fuel listed a w'':=by
   intro fuel
   induction fuel with
   |zero=>intro _ _ _ _ h;exact h
   |succ fuel ih=>
    intro listed a w'' hl h;exact⟨h.1,λi hi=>wpOp_mono (λa' U h'=>⟨wY G.s J _ h'.1,.inr<|nQ hl,ih _ _ _ (nQ hl) h'.2.2⟩)<|h.2 i hi⟩
  exact key _ _ _ _ E h
theorem oJ{w:World}:Ls ρ L w w:=λ_ _ _ _ _ _=>rfl
theorem Oy(E:Nat.beq i m=false)(hi:all[i]?=some o)(hf:Region.free .any all listed i=true)(G:(Region.ready .any all listed).contains i=true)(U:bd F all o.guard=some true)(hy:∀S w ρ a,HRel S w ρ H.get->FRel S w ρ a n F->Yld P S w ρ a o.type o.op v)
  (k:Go P K Q (.drw all L m left<|listed.setIfInBounds i true) s n (F.seto o.dst<|some v) H):Go P K Q (.drw all L m (left+1) listed) s n F H:=λS w ρ a hr J hF hs=>by
 obtain⟨x,h1,h2⟩:=hy S w ρ a hr hF;refine wpB_pure (Nat.ne_of_beq_eq_false E) hi (Region.noSelect_spec hs) (λ_ _ _ h=>h.elim) left listed a w (Region.free_spec hi hf) (by simpa using G) (.inl ⟨cg hF U,λw' Z=>?_⟩) Agree.refl (.inl oJ)<|k S w ρ _ hr J (cI hF o.dst h1) hs;obtain⟨d,op,ty,ps,af,g⟩:=o;exact h2 w' Z d ps af g
theorem Oz(hT:TabOk P T)(E:Nat.beq i m=false)(hi:all[i]?=some o)(hf:Region.free .any all listed i=true)(G:(Region.ready .any all listed).contains i=true)(J:bd F all o.guard=some true)(hv:pa T H.get F o.op=some v)
 (k:Go P K Q (.drw all L m left<|listed.setIfInBounds i true) s n (F.seto o.dst<|some v) H):Go P K Q (.drw all L m (left+1) listed) s n F H:=Oy E hi hf G J (λS w ρ a hr hF=>wH hT hr hF hv) k
theorem IR(E:Nat.beq i m=false)(hi:all[i]?=some o)(hf:Region.free .any all listed i=true)(G:(Region.ready .any all listed).contains i=true)(U:bd F all o.guard=some false)
  (k:Go P K Q (.drw all L m left<|listed.setIfInBounds i true) s n (F.seto o.dst<|some<|.tup []) H):Go P K Q (.drw all L m (left+1) listed) s n F H:=λS w ρ a hr J hF hs=>
 wpB_pure (Nat.ne_of_beq_eq_false E) hi (Region.noSelect_spec hs) (λ_ _ _ h=>h.elim) left listed a w (Region.free_spec hi hf) (by simpa using G) (.inr ⟨cg hF U,rfl⟩) Agree.refl (.inl oJ) (k S w ρ _ hr J (sv hF o.dst) hs)
def vN(F:Fm)(op:Op):Option Nat:=match op with
 |.load _ x=>match aG F x with
  |some (.ptr id _)=>some id
  |some (.el id _ _ _)=>some id
  |_=>none
 |_=>none
theorem KV (hT:TabOk P T) {S:Nat->Prop} {w:World} {ρ:Nat->Option Value} {h:Nat->Ob} {a:Act} {op:Op} {ty:TypeId} {id nid:Nat} {v:V} {ed:ED} (hr:HRel S w ρ h) (hF:FRel S w ρ a n F) (hid:vN F op=some id) (hv:oe T h F nid op=some (some v,ed)):
  ∃x u b,VRel S w ρ v x∧ρ id=some u∧sJ u=some b∧∀w',w'.heap[b]?=w.heap[b]?->Runs P a ty op w' (.value x) w':=by
 have fr:=hF.fr;unfold vN at hid;split at hid
 ·rename_i t x;unfold oe at hv;simp only at hv;split at hid
  ·rename_i id' o' hx;injection hid with hid;subst hid
   rw[hx]at hv;simp only at hv;split at hv
   ·rename_i d hd;split at hv
    ·rename_i ho;split at hv
     ·rename_i u hu;simp only[aaa,Prod.mk.injEq]at hv;obtain⟨rfl,rfl⟩:=hv;rcases qb (hT.ty _ _ hd) hu with⟨h1,h2⟩|⟨h1,h2,rfl⟩
      ·obtain⟨b,y,g1,g2,g3,g4⟩:=Iq (P:=P) (ty:=ty) hr fr (al hF hx) ho h1 h2;exact⟨y,_,b,g3,g1,I,λw' hw=>g4 w'<|(World.cell?_of_block (a:=⟨b,_,none⟩) hw).trans g2⟩
      ·obtain⟨b,ys,g1,g2,g3,g4⟩:=DU (P:=P) (ty:=ty) hr fr (al hF hx) ho h1 h2;exact⟨_,_,b,by simp only[VRel];exact⟨ys,rfl,g3⟩,g1,rfl,λw' hw=>g4 w' λj hj=>(World.cell?_of_block (a:=⟨b,_,none⟩) hw).trans<|g2 j hj⟩
     ·cases hv
    ·cases hv
   ·cases hv
  ·rename_i id' sz i' o' hx;injection hid with hid;subst hid
   rw[hx]at hv;simp only at hv;split at hv
   ·rename_i d hd;split at hv
    ·rename_i ho;split at hv
     ·rename_i hb;have :=aaf hb;subst this;split at hv
      ·rename_i v0 hi;rw[oR]at hi;split at hv
       ·rename_i u hu;simp only[aaa,Prod.mk.injEq]at hv;obtain⟨rfl,rfl⟩:=hv;have hbk:∀(q:Value) (b:Nat),q.ownBlock=some b->sJ q=some b:=λq b hq=>by
         cases q<;>first|(simp only[Value.ownBlock]at hq;cases hq;done)|skip
         rename_i A _ _;cases A<;>simp_all[Value.ownBlock,sJ]
        rcases qb (hT.ty _ _ hd) hu with⟨h1,h2⟩|⟨h1,h2,rfl⟩
        ·obtain⟨b,q,y,g1,g1',g2,g3,g4⟩:=Ep (P:=P) (ty:=ty) hr fr (al hF hx) ho h1 hi h2;exact⟨y,q,b,g3,g1,hbk q b g1',λw' hw=>g4 w'<|(World.cell?_of_block (a:=⟨b,_,none⟩) hw).trans g2⟩
        ·obtain⟨b,q,ys,g1,g1',g2,g3,g4⟩:=Dg (P:=P) (ty:=ty) hr fr (al hF hx) ho h1 hi h2;exact⟨_,q,b,by simp only[VRel];exact⟨ys,rfl,g3⟩,g1,hbk q b g1',λw' hw=>g4 w' λj hj=>(World.cell?_of_block (a:=⟨b,_,none⟩) hw).trans<|g2 j hj⟩
       ·cases hv
      ·cases hv
     ·cases hv
    ·cases hv
   ·cases hv
  ·cases hid
 ·cases hid
theorem OD(hT:TabOk P T){v:V}{id:Nat}{ed:ED}(E:Nat.beq i m=false)(G:zf .any all m i=true)(J:listed.getD m false=false)(hi:all[i]?=some o)(hf:Region.free .any all listed i=true)(U:(Region.ready .any all listed).contains i=true)(hw:bd F all o.guard=some true)
  (hid:vN F o.op=some id) (hL:L.contains id=true) (hv:oe T H.get F H.nx o.op=some (some v,ed))
  (k:Go P K Q (.drw all L m left<|listed.setIfInBounds i true) s n (F.seto o.dst<|some v) H):Go P K Q (.drw all L m (left+1) listed) s n F H:=λS w ρ a hr Z hF hs=>by
 obtain⟨x,u,b,h1,h2,h3,h4⟩:=KV (ty:=o.type) hT hr hF hid hv;refine FT (Nat.ne_of_beq_eq_false E) G hi (Region.noSelect_spec hs) (λ_ _ _ h=>h.elim) left listed a w (Region.free_spec hi hf) (by simpa using U) (.inl ⟨cg hF hw,λw' hA=>?_⟩) Agree.refl oJ J<|k S w ρ _ hr Z (cI hF o.dst h1) hs;have hb:=hA.2 id (by simpa using hL) u b h2 h3;obtain⟨d,op,ty,ps,af,g⟩:=o;exact h4 w' hb d ps af g
def cm(h:Nat->Ob):YN->Bool
 |[]=>true
 |i::r=>match h i with
  |.var _ _=>cm h r
  |.row _ _ _=>cm h r
  |.mps _ _ _ _=>cm h r
  |_=>false
theorem lG{S:Nat->Prop}{w:World}{ρ:Nat->Option Value}{h:Nat->Ob}(hr:HRel S w ρ h):∀{L:YN},cm h L=true->∀id,id∈L->∀x b,ρ id=some x->sJ x=some b->own ρ id (h id) b
 |[],_,id,hid,x,b,hx,hb=>by simp at hid
 | j::r,hl,id,hid,x,b,hx,hb=>by
  have hown:∀o,h j=o->(∃t cs,o=.var t cs)∨(∃e sz els,o=.row e sz els)∨(∃e kt et ms,o=.mps e kt et ms)->∀x b,ρ j=some x->sJ x=some b->own ρ j (h j) b:=by
   rintro o ho (⟨t,cs,rfl⟩|⟨e,sz,els,rfl⟩|⟨e,kt,et,ms,rfl⟩) x b hx hb
   ·obtain⟨c,xs,g1,_⟩:=qP hr ho;rw[g1]at hx;cases hx;simp only[sJ,aaa]at hb;subst hb;rw[ho];exact g1
   ·obtain⟨v,xs,g1,g2,_⟩:=jp hr ho;rw[g1]at hx;cases hx;rw[ho];refine⟨_,g1,?_⟩;obtain⟨A,c,rfl,_⟩:=bY g2;cases A<;>simp_all[Value.ownBlock,sJ]
   ·have h0:=hr.ob j;rw[ho]at h0;obtain⟨v,bs,g1,g2,_⟩:=h0;rw[g1]at hx;cases hx;rw[ho];refine⟨_,g1,.inl ⟨v,by simp,?_⟩⟩;obtain⟨A,c,rfl,_⟩:=bY g2;cases A<;>simp_all[Value.ownBlock,sJ]
  simp only[cm]at hl;rcases List.mem_cons.1 hid with e|e
  ·subst e;split at hl
   ·rename_i t cs ho;exact hown _ ho (.inl ⟨t,cs,rfl⟩) x b hx hb
   ·rename_i e sz els ho;exact hown _ ho (.inr<|.inl ⟨e,sz,els,rfl⟩) x b hx hb
   ·rename_i e kt et ms ho;exact hown _ ho (.inr<|.inr ⟨e,kt,et,ms,rfl⟩) x b hx hb
   ·cases hl
  ·split at hl
   ·exact lG hr hl id e x b hx hb
   ·exact lG hr hl id e x b hx hb
   ·exact lG hr hl id e x b hx hb
   ·cases hl
def ED.clear(L:YN):ED->Bool
 |.nop=>true
 |.new _=>true
 |.set id _=>!L.contains id
 |.repl id _=>!L.contains id
 |.repl2 id E _=>!L.contains id&&!L.contains E
theorem AG{w:World}{h':Nat->Ob}(hr:HRel S w ρ h)(U:Eff S w w' ρ ρ' h h' ed.tch)(hl:cm h L=true)(G:ed.clear L=true):Ls ρ L w w':=λid hid x b hx hb=>by
 have ho:=lG hr hl id hid x b hx hb;refine U.chg.block b (cY (hr.ob id) ho) ?_;rintro⟨j,E,J⟩;have e:=hr.dis j id b J ho;subst e;cases ed with
 |nop=>exact E
 |new _=>exact E
 |set k _=>simp only[ED.tch]at E;subst E;simp[ED.clear]at G;exact G hid
 |repl k _=>simp only[ED.tch]at E;subst E;simp[ED.clear]at G;exact G hid
 |repl2 k Z _=>simp only[ED.tch]at E;simp[ED.clear]at G;exact E.elim (λe=>G.1 (e▸hid)) λe=>G.2 (e▸hid)
theorem wB{a b:Bool}(h:(a||b)=true):a=true∨b=true:=by simpa using h
theorem oE{S:Nat->Prop}{B:World->Prop}{Sx:World->Prop}{w:World}{Q':Exit->Act->World->Prop}(E:Region.ready .any all listed=[i])(U:wpOp P all Q' i (λa' w'=>B w'∧(Sx w'∨(listed.setIfInBounds i true).getD m false=true)∧wpB P all Q' B Sx m left (listed.setIfInBounds i true) a' w') a w):wpB P all Q' B Sx m (left+1) listed a w:=by
 refine⟨λG=>(by rw[E]at G;cases G),λj J=>?_⟩;rw[E]at J;obtain rfl:j=i:=by simpa using J
 exact U
theorem go_d1S(E:Region.ready .any all listed=[i])(hi:all[i]?=some o)(J:bd F all o.guard=some false)(k:Go P K Q (.drw all L m left<|listed.setIfInBounds i true) s n (F.seto o.dst<|some<|.tup []) H):Go P K Q (.drw all L m (left+1) listed) s n F H:=λS w ρ a hr G hF hs=>by refine oE (S:=S) E ?_;unfold wpOp;simp only[hi];rw[cg hF J];simp only[aaD,if_false];exact⟨Agree.refl,.inl oJ,k S w ρ _ hr G (sv hF o.dst) hs⟩
theorem Mg(E:Region.ready .any all listed=[i])(hi:all[i]?=some o)(J:bd F all o.guard=some true)(hy:∀S w ρ a,HRel S w ρ H.get->FRel S w ρ a n F->Yld P S w ρ a o.type o.op v)
  (k:Go P K Q (.drw all L m left<|listed.setIfInBounds i true) s n (F.seto o.dst<|some v) H):Go P K Q (.drw all L m (left+1) listed) s n F H:=λS w ρ a hr G hF hs=>by
 refine oE (S:=S) E ?_;obtain⟨x,h1,h2⟩:=hy S w ρ a hr hF;unfold wpOp;simp only[hi];rw[if_pos<|cg hF J];refine .inl ?_;have U:=k S w ρ _ hr G (cI hF o.dst h1) hs;obtain⟨d,op,ty,ps,af,g⟩:=o;unfold Oper.wp;rw[h2 w Agree.refl d ps af g];exact⟨Agree.refl,.inl oJ,U⟩
theorem Fz{v:Option V}(U:Region.ready .any all listed=[i])(hi:all[i]?=some o)(hw:bd F all o.guard=some true)(hd:∀S w ρ a,HRel S w ρ H.get->FRel S w ρ a n F->Does P S w ρ H.get a o.type o.op v (ed.app H.get H.nx) ed.tch)(hl:ed.ok H.get)
  (hc:((cm H.get L&&ed.clear L)||(listed.setIfInBounds i true).getD m false)=true) (k:Go P K Q (.drw all L m left<|listed.setIfInBounds i true) s n (F.seto o.dst<|Ft v)<|H.app ed):Go P K Q (.drw all L m (left+1) listed) s n F H:=λS w ρ a hr Z hF hs=>by
 refine oE (S:=S) U ?_;obtain⟨nx,w',ρ',h1,h2,h3⟩:=hd S w ρ a hr hF;have E:=h2.hr;have G:=Z.eff h2;rw[<-Hp.get_app hl]at E G;have hA:=oT hr h2;have J:Ls ρ L w w'∨(listed.setIfInBounds i true).getD m false=true:=(wB hc).imp (λh=>by simp only[aab]at h;exact AG hr h2 h.1 h.2) id
 unfold wpOp;simp only[hi];rw[if_pos<|cg hF hw];refine .inl ?_;have kN:=λ(e:v=none)=>k S w' ρ' (a.put o.dst undef) E G (by subst e;exact sv (hF.up h2.up) o.dst) hs;have kV:=λ(x:Value) (u:V) (e:v=some u) (hx:VRel S w' ρ' u x)=>k S w' ρ' (a.put o.dst x) E G (by subst e;exact cI (hF.up h2.up) o.dst hx) hs;obtain⟨d,op,ty,ps,af,g⟩:=o;unfold Oper.wp;rw[h1 d ps af g];cases v with
 |none=>
  subst h3;exact nh h2.up hA J<|kN I
 |some v=>
  obtain⟨x,rfl,h4⟩:=h3;exact nh h2.up hA J<|kV x v I h4
theorem go_d1C{args:List Operand}{tys:Array TypeId}{vs:List V}{Post:V->Hp->Prop}{L':YN}(he:bZ P fid=true)(E:Region.ready .any all listed=[i])(hi:all[i]?=some o)(ho:o.op=.call {callee:=.value<|.func fid,args:=args.toArray,argTypes:=tys})(hw:bd F all o.guard=some true)(hv:fk F args=some vs)(hC:CallR P K fid vs H L' Post)
  (hc:L'=L∨(listed.setIfInBounds i true).getD m false=true) (k:∀v H',Post v H'->Go P K Q (.drw all L m left<|listed.setIfInBounds i true) s n (F.seto o.dst<|some v) H'):Go P K Q (.drw all L m (left+1) listed) s n F H:=λS w ρ a hr G hF hs=>by
 refine oE (S:=S) E ?_;obtain⟨xs,h1,h2⟩:=qh hF hv;have J:=hC S w ρ xs hr G h2;unfold wpOp;simp only[hi];rw[if_pos<|cg hF hw];refine .inl ?_;obtain⟨d,op,ty,ps,af,g⟩:=o;simp only at ho;subst ho;have hx:(execOp a.eval ⟨d,.call {callee:=.value<|.func fid,args:=args.toArray,argTypes:=tys},ty,ps,af,g⟩).run P w=.ok (.enter fid xs.toArray) w:=by
  have e:args.toArray.map a.eval=xs.toArray:=by rw[<-hF.fr.vals h1];simp
  simp only[execOp,resolve,e];simp[Act.eval,Deferred.ofValue,invoke,lx he]
 unfold Oper.wp;rw[hx,Oper.upon_enter];refine J.mono λe w1 hR=>?_;obtain⟨x,S',ρ',v,H',rfl,hp,U,Z,hu,hvr,hls⟩:=hR;have hk:=k v H' hp S' w1 ρ' _ U Z (cI (hF.up hu) d hvr) hs;exact nh hu (λb hb=>hu.blk b hb<|hr.slt b hb) (hc.imp (λe=>by subst e;exact hls) id) hk
end
variable{H:Hp}{fn:Func}{vs:List V}
variable{t:TypeId}{b:Nat}{cs:List V}
section
variable{P:Program}{T:Tab}{K:Ctx}{Q:Exit->Act->World->Prop}{s:List EI}{n:Nat}{F:Fm}{S S':Nat->Prop}{w w':World}{ρ ρ':Nat->Option Value}{h h1 h1' h2:Nat->Ob}{a:Act}
theorem DK(hr:HRel S w ρ h)(hi:Inv K S w ρ h)(hh1:∀i,h1 i=h i∨h1 i=.gone)(J:HRel S' w' ρ' h1')(E:Inv ⟨w,S,λb=>∃id,own ρ id (h1 id) b,ρ⟩ S' w' ρ' h1')
  (hh2:∀i,(h2 i=h1' i∨h2 i=.gone)∨(h2 i=h i∧h1 i=.gone∧h i≠.free)):
  HRel S' w' ρ' h2∧Inv K S' w' ρ' h2∧Up S S' w w' ρ ρ'∧∀L,cm h L=true->(∀id,id∈L->h1 id=.gone)->Ls ρ L w w':=by
 have h1own:∀id b,own ρ id (h1 id) b->own ρ id (h id) b:=λid b hb=>by
  rcases hh1 id with e|e
  ·rw[e]at hb;exact hb
  ·rw[e]at hb;exact hb.elim
 have up:Up S S' w w' ρ ρ':=⟨E.s0,λb hb hlt=>E.chg.block b hlt λ⟨id,ho⟩=>hr.sep id b (h1own id b ho) hb,E.pin⟩;have frame:∀i b,h1 i=.gone->own ρ i (h i) b->¬∃id,own ρ id (h1 id) b:=λi b Z ho ⟨id,hid⟩=>by
  have e:=hr.dis i id b ho<|h1own id b hid;subst e;rw[Z]at hid;exact hid.elim
 have cases2:∀i b,own ρ' i (h2 i) b->own ρ' i (h1' i) b∨(h1 i=.gone∧own ρ i (h i) b):=λi b hb=>by
  rcases hh2 i with(e|e)|⟨e,e1,e2⟩
  ·rw[e]at hb;exact .inl hb
  ·rw[e]at hb;exact hb.elim
  ·rw[e]at hb;exact .inr ⟨e1,Ej E.pin (hr.ob i) hb⟩
 have far:∀i b,h1 i=.gone->own ρ i (h i) b->¬S' b:=λi b Z ho hS=>by
  rcases E.s1 b hS with G|G|G
  ·exact hr.sep i b ho G
  ·exact frame i b Z ho G
  ·have :=cY (hr.ob i) ho;simp only at G;omega
 have apart:∀i j b,own ρ' i (h1' i) b->h1 j=.gone->own ρ j (h j) b->False:=λi j b ho Z hb=>by
  rcases E.ow i b ho with G|G
  ·exact frame j b Z hb G
  ·have :=cY (hr.ob j) hb;simp only at G;omega
 refine⟨⟨λi=>?_,λi b hb=>?_,λi j b hbi hbj=>?_,J.slt⟩,⟨?_,λb hb=>E.s0 b<|hi.s0 b hb,λb hb=>?_,λi b hb=>?_,λid x hx=>E.pin _ _<|hi.pin id x hx⟩,up,λL hl Z id hid x b hx hb=>?_⟩
 ·rcases hh2 i with(e|e)|⟨e,e1,e2⟩
  ·rw[e];exact J.ob i
  ·rw[e];trivial
  ·rw[e];exact(hr.ob i).up up (λhf=>absurd hf e2) λb hb=>E.chg.block b (cY (hr.ob i) hb)<|frame i b e1 hb
 ·rcases cases2 i b hb with G|⟨G,h4⟩
  ·exact J.sep i b G
  ·exact far i b G h4
 ·rcases cases2 i b hbi with G|⟨G,h4⟩<;>rcases cases2 j b hbj with U|⟨U,h6⟩
  ·exact J.dis i j b G U
  ·exact(apart i j b G U h6).elim
  ·exact(apart j i b U G h4).elim
  ·exact hr.dis i j b h4 h6
 ·refine hi.chg.trans E.chg ?_;rintro b ⟨id,ho⟩;exact hi.ow id b<|h1own id b ho
 ·rcases E.s1 b hb with G|⟨id,G⟩|G
  ·exact hi.s1 b G
  ·exact .inr<|hi.ow id b<|h1own id b G
  ·exact .inr<|.inr<|aao hi.chg.size G
 ·rcases cases2 i b hb with G|⟨G,h4⟩
  ·rcases E.ow i b G with⟨id,U⟩|U
   ·exact hi.ow id b<|h1own id b U
   ·exact .inr<|aao hi.chg.size U
  ·exact hi.ow i b h4
 ·have ho:=lG hr hl id hid x b hx hb;exact E.chg.block b (cY (hr.ob id) ho)<|frame id b (Z id hid) ho
def mN:Nat->List V->Fm
 |0,_=>[]
 |n+1,[]=>none::mN n []
 |n+1,v::r=>some v::mN n r
theorem Aq:∀(n:Nat) (vs:List V),(mN n vs).length=n
 |0,_=>rfl
 |n+1,[]=>by simp[mN,Aq n []]
 |n+1,v::r=>by simp[mN,Aq n r]
theorem As:∀(n:Nat) (vs:List V) (i:Nat) (v:V),(mN n vs).get i=some v->vs[i]?=some v
 |0,_,i,v,h=>by simp[mN,Fm.get]at h
 |n+1,[],0,v,h=>by simp[mN,Fm.get]at h
 |n+1,[],i+1,v,h=>by have :=As n [] i v (by simpa[mN,Fm.get]using h);simp at this
 |n+1,u::r,0,v,h=>by simpa[mN,Fm.get]using h
 |n+1,u::r,i+1,v,h=>by have :=As n r i v (by simpa[mN,Fm.get]using h);simpa using this
theorem zL{c:Code}{xs:List Value}{R:Ending->World->Prop}(hf:P.funcs[fid]?=some fn)(hb:fn.body=some c)(hl:Nat.ble vs.length fn.ntmps=true)(hr:HRel S w ρ H.get)(hi:Inv K S w ρ H.get)(hx:LRel S w ρ vs xs)
  (k:Go P K (bodyPost P fn R) (.code c) [] fn.ntmps (mN fn.ntmps vs) H):Calls P fid xs.toArray w R:=by
 refine calls_of_wp hf hb<|k S w ρ _ hr hi ⟨?_,I,hr.slt.gl,?_,λi v hv=>?_⟩
 ·have h1:vs.length<=fn.ntmps:=Nat.le_of_ble_eq_true hl;have h2:=hx.length;simp;omega
 ·exact Nat.le_of_eq<|Aq _ _
 ·have h1:=As _ _ _ _ hv;obtain⟨x,h2,G⟩:=hx.get h1;refine⟨x,?_,G⟩;have E:i<xs.length:=(List.getElem?_eq_some_iff.1 h2).1;show(xs.toArray++Array.replicate (fn.ntmps-xs.toArray.size) undef)[i]?=some x;rw[Array.getElem?_append_left<|by simpa using E];simpa using h2
def Jo (T:Tab) (h:Nat->Ob) (F:Fm):ResultVar->Option V
 |.tmp t=>F.get t
 |.cell t ty=>match T.ty ty with
  |some d=>match F.get t with
   |some (.ptr id 0)=>match h id with
    |.var _ cs=>qL d cs 0
    |_=>none
   |some (.box cs 0)=>qL d cs 0
   |_=>none
  |none=>none
def sm(T:Tab)(h:Nat->Ob)(F:Fm):List ResultVar->Option (List V)
 |[]=>some []
 |x::r=>match Jo T h F x with
  |some v=>match sm T h F r with
   |some vs=>some<|v::vs
   |none=>none
  |none=>none
def nY:List V->V
 |[v]=>v
 |vs=>.tup vs
theorem FS{d:TD}(td:TdOk P t d){off:Nat}{xs:List Value}(hl:LRel S w ρ cs xs)(E:∀j,j<xs.length->w.cell? ⟨b,off+j,none⟩=xs[j]?)(hv:qL d cs 0=some v):∃y,(loadVar t ⟨b,off,none⟩).run P w=.ok y w∧VRel S w ρ v y:=by
 have G:=hl.length;rcases qb td hv with⟨h1,h2⟩|⟨h1,h2,rfl⟩
 ·obtain⟨y,J,U⟩:=hl.get h2;have Z:0<xs.length:=(List.getElem?_eq_some_iff.1 J).1;have :=CD (P:=P) (w:=w) (p:=⟨b,off,none⟩) h1 (by have :=E 0 Z;rw[Nat.add_zero]at this;rw[this,J]);refine⟨y,?_,U⟩;simp only[Instr.loadAt,Instr.sureAddr]at this;simpa using this
 ·have :=yK (P:=P) (w:=w) (b:=b) (o:=off) (cs:=xs.take d.size) h1 (by simp;omega) (λj hj=>by rw[E j (by omega),List.getElem?_take,if_pos hj]);refine⟨_,?_,by simp only[VRel];exact⟨xs.take d.size,rfl,by simpa using hl.take d.size⟩⟩;simp only[Instr.loadAt,Instr.sureAddr]at this;simpa using this
theorem Mx(hT:TabOk P T)(hr:HRel S w ρ h)(hF:FRel S w ρ a n F){x:ResultVar}(hv:Jo T h F x=some v):∃y,(pd a x).run P w=.ok y w∧VRel S w ρ v y:=by
 unfold Jo at hv;split at hv
 ·rename_i t;obtain⟨y,h1,h2⟩:=hF.get t v hv;exact⟨y,by simp[pd,Array.getD_eq_getD_getElem?,h1],h2⟩
 ·rename_i t ty;split at hv
  ·rename_i d U;split at hv
   ·rename_i id hid;split at hv
    ·rename_i ho;obtain⟨b,xs,g1,g2,E⟩:=qP hr ho;obtain⟨y,h1,h2⟩:=hF.get t _ hid;simp only[VRel]at h2;obtain⟨b',G,rfl⟩:=h2;rw[g1]at G;simp only[aaa,Value.pointer.injEq,Addr.mk.injEq,and_true]at G;subst G;obtain⟨z,k1,J⟩:=FS (hT.ty _ _ U) E (b:=b) (off:=0) (λj hj=>by rw[Nat.zero_add,g2.cell]) hv;exact⟨z,by simp[pd,Array.getD_eq_getD_getElem?,h1,asAddr,k1],J⟩
    ·cases hv
   ·rename_i cs hid;obtain⟨y,h1,h2⟩:=hF.get t _ hid;simp only[VRel]at h2;obtain⟨b,off,xs,rfl,_,_,E,Z⟩:=h2;obtain⟨z,k1,J⟩:=FS (hT.ty _ _ U) E (b:=b) (off:=off) Z hv;exact⟨z,by simp[pd,Array.getD_eq_getD_getElem?,h1,asAddr,k1],J.up up0⟩
   ·cases hv
  ·cases hv
theorem Ic(hT:TabOk P T)(hr:HRel S w ρ h)(hF:FRel S w ρ a n F):∀{l:List ResultVar} {vs:List V},sm T h F l=some vs->∃ys,(l.mapM<|pd a).run P w=.ok ys w∧LRel S w ρ vs ys
 |[],vs,hv=>by simp only[sm,aaa]at hv;subst hv;exact⟨[],by simp,by simp[LRel]⟩
 | x::r,vs,hv=>by
  simp only[sm]at hv;split at hv
  ·rename_i v h1;split at hv
   ·rename_i us h2;simp only[aaa]at hv;subst hv;obtain⟨y,g1,g2⟩:=Mx hT hr hF h1;obtain⟨ys,g3,g4⟩:=Ic hT hr hF h2;exact⟨y::ys,by simp[List.mapM_cons,g1,g3],⟨y,ys,rfl,g2,g4⟩⟩
   ·cases hv
  ·cases hv
theorem GO{ys:List Value}(hl:LRel S w ρ vs ys):VRel S w ρ (nY vs) (rt ys):=by
 match vs,ys,hl with
 |[],ys,hl=>simp only[LRel]at hl;subst hl;simp only[nY,rt,VRel];exact⟨[],rfl,by simp[LRel]⟩
 |[v],ys,hl=>
  simp only[LRel]at hl;obtain⟨x,zs,rfl,h1,rfl⟩:=hl;exact h1
 |v::u::r,ys,hl=>
  have E:=hl;simp only[LRel]at hl;obtain⟨x,zs,rfl,h1,y,zs',rfl,h2,G⟩:=hl;simp only[nY,rt,VRel];exact⟨_,I,E⟩
theorem ret_go(hT:TabOk P T){R:Ending->World->Prop}{rs:List ResultVar}{e:Exit}(G:e=.ret∨e=.normal)(E:fn.results=rs.toArray)(hr:HRel S w ρ h)(hF:FRel S w ρ a n F)(hv:sm T h F rs=some vs)(J:∀x,VRel S w ρ (nY vs) x->R (.returned x) w):bodyPost P fn R e a w:=by
 obtain⟨ys,U,h1⟩:=Ic hT hr hF hv;have hb:bodyPost P fn R .ret a w:=by
  refine bodyPost_ret (v:=rt ys) ?_ hF.defers<|J _<|GO h1;have e:(Array.mapM (pd a) rs.toArray).run P w=.ok ys.toArray w:=by rw[List.mapM_toArray];simp[U]
  unfold results;rw[E];change ((Array.mapM (pd a) rs.toArray)>>=λvs=>pure (if h:vs.size=1 then vs[0]else .tuple vs)).run P w=_;simp only[Sem.run_bind,e,Result.andThen_ok,Sem.run_pure]
  match ys with
  |[]=>rfl
  |[v]=>rfl
  |v::u::r=>simp[rt]
 rcases G with rfl|rfl
 ·exact hb
 ·exact hb
end
def Je(d:Nat):Operand->Bool
 |.tmp t=>!Nat.beq t d
 |_=>true
def wg(d:Option Tmp)(ps:List<|Nat×Operand):Bool:=match d with
 |some d=>ps.all λp=>Je d p.2
 |none=>true
def DD(d e:Option Tmp):Bool:=match d,e with
 |some d,some e=>!Nat.beq d e
 |_,_=>true
variable{x:Operand}
variable{d:Option Tmp}
section
variable{P:Program}{T:Tab}{K:Ctx}{Q:Exit->Act->World->Prop}{s:List EI}{n:Nat}{F:Fm}{H:Hp}{S:Nat->Prop}{w:World}{ρ:Nat->Option Value}{a:Act}
theorem Pm{d:Nat}{y:Value}(h:Je d x=true):aD (fA<|a.put (some d) y) x=aD (fA a) x:=by
 cases x with
 |tmp t=>
  have E:t≠d:=λe=>by subst e;simp[Je]at h
  simp only[aD,fA,Act.put,Array.getElem?_setIfInBounds];rw[if_neg λe=>E e.symm]
 |_=>rfl
theorem Ky{y:Value}:∀{ps:List<|Nat×Operand},wg d ps=true->eb (fA<|a.put d y) ps=eb (fA a) ps:=by
 intro ps h;cases d with
 |none=>rfl
 | some d=>
  induction ps with
  |nil=>rfl
  |cons p r ih=>
   obtain⟨i,x⟩:=p;simp only[wg,List.all_cons,aab]at h;have ih':=ih (by simp only[wg];exact h.2);simp only[eb,Pm h.1,ih']
theorem iT.up{S':Nat->Prop}{w':World}{ρ':Nat->Option Value}(u:Up S S' w w' ρ ρ'):∀{vs:List<|Nat×V} {ys:List<|Nat×Value},iT S w ρ vs ys->iT S' w' ρ' vs ys
 |[],ys,h=>h
 |(i,v)::r,ys,h=>by simp only[iT]at h⊢;obtain⟨x,zs,h1,h2,E⟩:=h;exact⟨x,zs,h1,h2.up u,iT.up u E⟩
theorem KE{e:Option Tmp}{v u:Option V}(h:DD d e=true):(F.seto d v).seto e u=(F.seto e u).seto d v:=by
 cases d with
 |none=>rfl
 |some d=>cases e with
  |none=>rfl
  |some e=>
   have :d≠e:=λx=>by subst x;simp[DD]at h
   simp only[Fm.seto];exact List.set_comm _ _ this
theorem Md(J:∀t,d=some t->F.get t=none)(hF:FRel S w ρ a n<|F.seto d<|some v):FRel S w ρ a n F:=by
 cases d with
 |none=>exact hF
 |some d=>
  refine⟨hF.size,hF.defers,hF.gl,by have :=hF.len;simpa[Fm.seto]using this,λi u E=>hF.get i u ?_⟩;have G:d≠i:=λe=>by subst e;rw[J d rfl]at E;cases E
  rw[Fm.get_eq]at E⊢;simp only[Fm.seto,List.getElem?_set,if_neg G];exact E
variable{all:Array Oper}{L:YN}{m left i:Nat}{listed:Array Bool}{o:Oper}
def GoP (P:Program) (K:Ctx) (Q:Exit->Act->World->Prop) (all:Array Oper) (L:List Nat) (m left:Nat) (listed:Array Bool) (s:List EI) (n:Nat) (F:Fm) (H:Hp) (i:Nat) (o:Oper) (ps:List<|Nat×Operand) (vs:List<|Nat×V) (v:V):Prop:=
  ∀ S w ρ a,HRel S w ρ H.get->Inv K S w ρ H.get->Region.noSelect all=true->
    (FRel S w ρ a n F->(∃ys,eb (fA a) ps=some ys∧iT S w ρ vs ys)->wpB P all (NoPanic<|dI P Q s) (Agree S w) (Ls ρ L w) m (left+1) listed a w)∧
    (FRel S w ρ a n (F.seto o.dst<|some v)->wpB P all (NoPanic<|dI P Q s) (Agree S w) (Ls ρ L w) m left (listed.setIfInBounds i true) a w)
theorem KQ{ps:List<|Nat×Operand}{vs:List<|Nat×V}(hv:mX F ps=some vs)(k:GoP P K Q all L m left listed s n (F.seto o.dst none) H i o ps vs v):Go P K Q (.drw all L m (left+1) listed) s n F H:=λS w ρ a hr hi hF hs=>by
 obtain⟨ys,h1,h2⟩:=rc hF hv;refine(k S w ρ a hr hi hs).1 ?_ ⟨ys,h1,h2⟩;refine⟨hF.size,hF.defers,hF.gl,?_,λj u E=>?_⟩
 ·cases G:o.dst with
  |none=>exact hF.len
  |some d=>have :=hF.len;simpa[Fm.seto]using this
 ·cases G:o.dst with
  |none=>rw[G]at E;exact hF.get j u E
  |some d=>
   rw[G,Fm.get_eq]at E;simp only[Fm.seto,List.getElem?_set]at E;split at E
   ·split at E<;>simp at E
   ·exact hF.get j u (by rw[Fm.get_eq];exact E)
theorem yW(G:Chg [] w w'):Up S (λc=>S c∨c=b) w w' ρ ρ:=⟨λ_ h=>.inl h,λc _ E=>G.block c E (by simp),λ_ _ h=>h⟩
theorem Kg(hr:HRel S w ρ h)(G:Chg [] w w')(hb:b=w.heap.size)(J:b<w'.heap.size):HRel (λc=>S c∨c=b) w' ρ h:=by
 refine⟨λi=>(hr.ob i).up (yW G) (λhf=>?_) (λc E=>G.block c (cY (hr.ob i) E)<|by simp),λi c E=>?_,hr.dis,hr.slt.up (yW (ρ:=ρ) G) λc E=>?_⟩
 ·have :=hr.ob i;rw[hf]at this;exact this
 ·rintro(h1|h1)
  ·exact hr.sep i c E h1
  ·have :=cY (hr.ob i) E;omega
 ·rcases E with h1|h1
  ·exact aaw (hr.slt c h1) G.size
  ·omega
theorem Nh(hi:Inv K S w ρ h)(G:Chg [] w w')(hb:b=w.heap.size):Inv K (λc=>S c∨c=b) w' ρ h:=by
 have J:=hi.chg0 G;refine⟨J.chg,λc E=>.inl<|hi.s0 c E,λc E=>?_,hi.ow,hi.pin⟩;rcases E with h1|h1
 ·exact hi.s1 c h1
 ·have :=hi.chg.size;exact .inr (.inr<|by omega)
theorem GJ{t e:TypeId}{ps:List<|Nat×Operand}{vs:List<|Nat×V}{ys:List<|Nat×Value}{d:TD}{k:Nat}{ty:TypeId}{els:List V}(hT:TabOk P T)(hr:HRel S w ρ h)(hi:Inv K S w ρ h)(fr:Fr a n<|fA a)(E:eb (fA a) ps=some ys)(Z:iT S w ρ vs ys)
  {x1 x2:Nat} {x3:V} (ht:T.ty t=some ⟨x1,x2,x3,.sl e⟩) (he:T.ty e=some d) (hp:lr d.size 0 vs=some els) (hb:(Nat.beq els.length k&&Nat.ble (k*d.size) 16777216&&Nat.ble k 16777216&&pureL els)=true):
  ∃x S' w',Runs P a ty (.buildSlice t k ps.toArray) w (.value x) w'∧HRel S' w' ρ h∧Inv K S' w' ρ h∧Up S S' w w' ρ ρ∧Chg [] w w'∧VRel S' w' ρ (.row d.size els) x:=by
 simp only[aab,Nat.beq_eq]at hb;obtain⟨⟨⟨hl,hsm⟩,hm⟩,hpu⟩:=hb;have hmm:k<=16777216:=Nat.le_of_ble_eq_true hm;obtain⟨z,hz1,hz2⟩:=(hT.ty _ _ he).zeroT;obtain⟨h1,h2,h3⟩:=vj Z hp;have G:ps.map (·.1)=List.range k:=by
  have :ps.map (·.1)=ys.map (·.1):=by rw[<-fr.parts E];simp
  rw[this,h1,hl,List.range_eq_range']
 obtain⟨w',b,g1,g2,J,g4,g5⟩:=ra (P:=P) (t:=t) (m:=k) fr E ((hT.ty _ _ ht).sl rfl) (hT.ty _ _ he).size hz1 G h2 hsm rfl w ty;have U:=h3.length;refine⟨_,λc=>S c∨c=b,w',g1,Kg hr J g4 g5,Nh hi J g4,yW J,J,?_⟩;simp only[VRel];refine⟨some ⟨b,0,none⟩,k,_,by rw[hl],by omega,by simp only[maxLen];omega,(h3.up<|yW J).pure hpu,U,λ_=>⟨b,0,rfl,.inr rfl,g5,λj hj=>by rw[Nat.zero_add,g2.cell]⟩⟩
def uC (T:Tab) (all:Array Oper) (i:Nat) (vs:List<|Nat×V):Option (Oper×List (Nat×Operand)×V):=match all[i]? with
 |some ⟨dst,.buildSlice t k ⟨ps⟩,ty,pp,af,none⟩=>match T.ty t with
  |some ⟨_,_,_,.sl e⟩=>match T.ty e with
   |some d=>match lr d.size 0 vs with
    |some els=>match Nat.beq els.length k&&Nat.ble (k*d.size) 16777216&&Nat.ble k 16777216&&pureL els with
     |true=>fC d.size λsz=>some (⟨dst,.buildSlice t k ⟨ps⟩,ty,pp,af,none⟩,ps,.row sz els)
     |false=>none
    |none=>none
   |none=>none
  |_=>none
 |_=>none
variable{ps:List (Nat×Operand)}{vs:List (Nat×V)}{v:V}
theorem Cv(hT:TabOk P T)(hp:uC T all i vs=some (o,ps,v))(hr:HRel S w ρ H.get)(E:Inv K S w ρ H.get)(hF:FRel S w ρ a n F){ys:List<|Nat×Value}(G:eb (fA a) ps=some ys)(J:iT S w ρ vs ys)(hs:Region.noSelect all=true)
  (hl:(cm H.get L||(listed.setIfInBounds i true).getD m false)=true)
  (D:∀S w ρ a,HRel S w ρ H.get->Inv K S w ρ H.get->FRel S w ρ a n (F.seto o.dst<|some v)->wpB P all (NoPanic<|dI P Q s) (Agree S w) (Ls ρ L w) m left (listed.setIfInBounds i true) a w):
  wpOp P all (NoPanic<|dI P Q s) i (λa' w'=>Agree S w w'∧(Ls ρ L w w'∨(listed.setIfInBounds i true).getD m false=true)∧wpB P all (NoPanic<|dI P Q s) (Agree S w) (Ls ρ L w) m left (listed.setIfInBounds i true) a' w') a w:=by
 unfold uC at hp;split at hp
 ·rename_i dst t k ps' ty pp af hi;split at hp
  ·rename_i e ht;split at hp
   ·rename_i d he;split at hp
    ·rename_i els U;split at hp
     ·rename_i hb;rw[dB]at hp;simp only[aaa,Prod.mk.injEq]at hp;obtain⟨rfl,rfl,rfl⟩:=hp;obtain⟨x,S',w',g1,g2,g3,Z,g5,g6⟩:=GJ (ty:=ty) hT hr E hF.fr G J ht he U hb;unfold wpOp;simp only[hi];rw[if_pos<|cg hF (o:=⟨dst,.buildSlice t k ⟨ps'⟩,ty,pp,af,none⟩) rfl];refine .inl ?_;have hk:=D S' w' ρ _ g2 g3<|cI (hF.up Z) dst g6;unfold Oper.wp;rw[g1 dst pp af none];refine nh Z (λb hb=>g5.block b (hr.slt b hb)<|by simp) ((wB hl).imp (λhl id hid x b hx hb=>?_) id) hk;exact g5.block b (cY (hr.ob id)<|lG hr hl id hid x b hx hb) (by simp)
     ·cases hp
    ·cases hp
   ·cases hp
  ·cases hp
 ·cases hp
theorem OV(hT:TabOk P T)(hp:uC T all i vs=some (o,ps,v))(G:Region.ready .any all listed=[i])(hl:(cm H.get L||(listed.setIfInBounds i true).getD m false)=true)
  (kk:Go P K Q (.drw all L m left<|listed.setIfInBounds i true) s n (F.seto o.dst<|some v) H):GoP P K Q all L m left listed s n F H i o ps vs v:=λS w ρ a hr E hs=>by
 refine⟨λhF ⟨ys,J,U⟩=>oE (S:=S) G<|Cv hT hp hr E hF J U hs hl λS w ρ a hr E hF=>kk S w ρ a hr E hF hs,λhF=>kk S w ρ a hr E hF hs⟩
theorem Hv{B Sx:World->Prop}{Q':Exit->Act->World->Prop}(E:(match Region.ready .any all listed with|[x,y]=>(Nat.beq x i&&Nat.beq y j)||(Nat.beq x j&&Nat.beq y i)|_=>false)=true)
  (h1:wpOp P all Q' i (λa' w'=>B w'∧(Sx w'∨(listed.setIfInBounds i true).getD m false=true)∧wpB P all Q' B Sx m left (listed.setIfInBounds i true) a' w') a w)
  (h2:wpOp P all Q' j (λa' w'=>B w'∧(Sx w'∨(listed.setIfInBounds j true).getD m false=true)∧wpB P all Q' B Sx m left (listed.setIfInBounds j true) a' w') a w):wpB P all Q' B Sx m (left+1) listed a w:=by
 split at E
 ·rename_i x y hr;refine⟨λJ=>(by rw[hr]at J;cases J),λc G=>?_⟩;rw[hr]at G;simp only[Bool.or_eq_true,aab,Nat.beq_eq]at E;simp only[aai,List.not_mem_nil,or_false]at G;rcases E with⟨rfl,rfl⟩|⟨rfl,rfl⟩
  ·rcases G with rfl|rfl
   ·exact h1
   ·exact h2
  ·rcases G with rfl|rfl
   ·exact h2
   ·exact h1
 ·cases E
theorem Mu(hT:TabOk P T)(hp:uC T all i vs=some (o,ps,v)){oj:Oper}(hj:all[j]?=some oj)(hrd:(match Region.ready .any all listed with|[x,y]=>(Nat.beq x i&&Nat.beq y j)||(Nat.beq x j&&Nat.beq y i)|_=>false)=true)(Z:Region.ready .any all (listed.setIfInBounds i true)=[j])
  (hl:(cm H.get L||(listed.setIfInBounds i true).getD m false)=true) (hd:∀t,o.dst=some t->F.get t=none) (hne:DD o.dst oj.dst=true) (hpn:wg oj.dst ps=true) (hcomm:(listed.setIfInBounds i true).setIfInBounds j true=(listed.setIfInBounds j true).setIfInBounds i true)
  {Post:V->Hp->Prop}
  (hx:∀S w ρ a,HRel S w ρ H.get->Inv K S w ρ H.get->FRel S w ρ a n F->∀(K2:Act->World->Prop),(∀x S' w' ρ' u H',Post u H'->HRel S' w' ρ' H'.get->Inv K S' w' ρ' H'.get->Up S S' w w' ρ ρ'->Agree S w w'->(Ls ρ L w w'∨((listed.setIfInBounds j true).getD m false=true∧((listed.setIfInBounds j true).setIfInBounds i true).getD m false=true))->VRel S' w' ρ' u x->K2 (a.put oj.dst x) w')->wpOp P all (NoPanic<|dI P Q s) j K2 a w)
  (kk:∀u H',Post u H'->GoP P K Q all L m left (listed.setIfInBounds j true) s n (F.seto oj.dst<|some u) H' i o ps vs v):GoP P K Q all L m (left+1) listed s n F H i o ps vs v:=λS w ρ a hr E hs=>by
 have D:∀S w ρ a,HRel S w ρ H.get->Inv K S w ρ H.get->FRel S w ρ a n (F.seto o.dst<|some v)->wpB P all (NoPanic<|dI P Q s) (Agree S w) (Ls ρ L w) m (left+1) (listed.setIfInBounds i true) a w:=λS w ρ a hr E hF=>by
  refine oE (S:=S) Z ?_;refine hx S w ρ a hr E (Md hd hF) _ λx S' w' ρ' u H' hP G J U hA hL hv=>?_;rw[hcomm];refine nh U hA (hL.imp id (·.2))<|(kk u H' hP S' w' ρ' _ G J hs).2 ?_;rw[<-KE hne];exact cI (hF.up U) oj.dst hv
 refine⟨λhF ⟨ys,hps,hpr⟩=>?_,D S w ρ a hr E⟩;refine Hv hrd (Cv hT hp hr E hF hps hpr hs hl D) ?_;refine hx S w ρ a hr E hF _ λx S' w' ρ' u H' hP G J U hA hL hv=>?_;refine nh U hA (hL.imp id (·.1))<|(kk u H' hP S' w' ρ' _ G J hs).1 (cI (hF.up U) oj.dst hv) ⟨ys,?_,hpr.up U⟩;rw[Ky hpn];exact hps
end
section
variable{P:Program}{T:Tab}{K:Ctx}{Q:Exit->Act->World->Prop}{s:List EI}{n:Nat}{F:Fm}{H:Hp}
def rQ (P:Program) (K:Ctx) (o:Oper) (L:List Nat) (ok:Bool) (n:Nat) (F:Fm) (H:Hp) (u:V) (H':Hp):Prop:=
  ∀ S w ρ a,HRel S w ρ H.get->Inv K S w ρ H.get->FRel S w ρ a n F->∀(Q':Exit->Act->World->Prop) (K2:Act->World->Prop),
    (∀x S' w' ρ',HRel S' w' ρ' H'.get->Inv K S' w' ρ' H'.get->Up S S' w w' ρ ρ'->Agree S w w'->(Ls ρ L w w'∨ok=true)->VRel S' w' ρ' u x->K2 (a.put o.dst x) w')->o.wp P a w K2 Q'
theorem Kz(hT:TabOk P T){L:YN}{ok:Bool}(hv:pa T H.get F o.op=some v):rQ P K o L ok n F H v H:=λS w ρ a hr hi hF Q' K2 k=>by obtain⟨x,h1,h2⟩:=wH (ty:=o.type) hT hr hF hv;have :=k x S w ρ hr hi Up.refl Agree.refl (.inl oJ) h1;obtain⟨d,op,ty,ps,af,g⟩:=o;unfold Oper.wp;rw[h2 w Agree.refl d ps af g];exact this
theorem qm(hT:TabOk P T){L:YN}{ok:Bool}{v:Option V}(hv:oe T H.get F H.nx o.op=some (v,ed))(Z:((cm H.get L&&ed.clear L)||ok)=true):rQ P K o L ok n F H (v.getD<|.tup []) (H.app ed):=λS w ρ a hr hi hF Q' K2 k=>by
 obtain⟨nx,w',ρ',h1,h2,U⟩:=zd (ty:=o.type) hT hr hF H.get_free hv;have E:=h2.hr;have G:=hi.eff h2;rw[<-Hp.get_app (uv hv)]at E G;have J:Ls ρ L w w'∨ok=true:=(wB Z).imp (λh=>by simp only[aab]at h;exact AG hr h2 h.1 h.2) id
 have kk:=λx hx=>k x S w' ρ' E G h2.up (oT hr h2) J hx;obtain⟨d,op,ty,ps,af,g⟩:=o;unfold Oper.wp;rw[h1 d ps af g];cases v with
 |none=>
  subst U;exact kk undef xm
 |some v=>
  obtain⟨x,rfl,h4⟩:=U;exact kk x h4
theorem qQ{L:YN}{ok:Bool}{args:List Operand}{tys:Array TypeId}{vs:List V}{u:V}{H':Hp}{L':YN}(he:bZ P fid=true)(ho:o.op=.call {callee:=.value<|.func fid,args:=args.toArray,argTypes:=tys})(hv:fk F args=some vs)(hC:CallR P K fid vs H L' λu' H''=>u'=u∧H''=H')(hL:L'=L∨ok=true):rQ P K o L ok n F H u H':=λS w ρ a hr hi hF Q' K2 k=>by
 obtain⟨xs,h1,h2⟩:=qh hF hv;have E:=hC S w ρ xs hr hi h2;obtain⟨d,op,ty,ps,af,g⟩:=o;simp only at ho;subst ho;have hx:(execOp a.eval ⟨d,.call {callee:=.value<|.func fid,args:=args.toArray,argTypes:=tys},ty,ps,af,g⟩).run P w=.ok (.enter fid xs.toArray) w:=by
  have e:args.toArray.map a.eval=xs.toArray:=by rw[<-hF.fr.vals h1];simp
  simp only[execOp,resolve,e];simp[Act.eval,Deferred.ofValue,invoke,lx he]
 unfold Oper.wp;rw[hx,Oper.upon_enter];refine E.mono λe w1 hR=>?_;obtain⟨x,S',ρ',v,H'',rfl,⟨rfl,rfl⟩,G,J,hu,U,Z⟩:=hR;exact k x S' w1 ρ' G J hu (λb hb=>hu.blk b hb<|hr.slt b hb) (hL.imp (λe=>by subst e;exact Z) id) U
theorem qq{L:YN}{m left:Nat}{listed:Array Bool}{oi oj:Oper}{ui uj:V}{Hi Hj:Hp}(Z:(match Region.ready .any all listed with|[x,y]=>(Nat.beq x i&&Nat.beq y j)||(Nat.beq x j&&Nat.beq y i)|_=>false)=true)(hi:all[i]?=some oi)(hj:all[j]?=some oj)(hwi:bd F all oi.guard=some true)(hwj:bd F all oj.guard=some true)
  (xi:rQ P K oi L ((listed.setIfInBounds i true).getD m false) n F H ui Hi) (xj:rQ P K oj L ((listed.setIfInBounds j true).getD m false) n F H uj Hj)
  (ki:Go P K Q (.drw all L m left<|listed.setIfInBounds i true) s n (F.seto oi.dst<|some ui) Hi) (kj:Go P K Q (.drw all L m left<|listed.setIfInBounds j true) s n (F.seto oj.dst<|some uj) Hj):Go P K Q (.drw all L m (left+1) listed) s n F H:=λS w ρ a hr J hF hs=>by
 refine Hv Z ?_ ?_
 ·unfold wpOp;simp only[hi];rw[if_pos<|cg hF hwi];exact .inl<|xi S w ρ a hr J hF _ _ λx S' w' ρ' E G U hA hL hv=>nh U hA hL<|ki S' w' ρ' _ E G (cI (hF.up U) oi.dst hv) hs
 ·unfold wpOp;simp only[hj];rw[if_pos<|cg hF hwj];exact .inl<|xj S w ρ a hr J hF _ _ λx S' w' ρ' E G U hA hL hv=>nh U hA hL<|kj S' w' ρ' _ E G (cI (hF.up U) oj.dst hv) hs
end
def atN:YN->Nat->Option Nat
 |[],_=>none
 |x::_,0=>some x
 |_::r,i+1=>atN r i
theorem nq:∀(l:YN) (i:Nat),atN l i=l[i]?
 |[],i=>by simp[atN]
 |x::r,0=>by simp[atN]
 |x::r,i+1=>by simp[atN,nq r i]
abbrev FJ:V:=.raw (.agg #[])
mutual
def V.ren(σ:YN):V->V
 |.ptr id o=>match atN σ id with
  |some j=>.ptr j o
  |none=>FJ
 |.el id sz i o=>match atN σ id with
  |some j=>.el j sz i o
  |none=>FJ
 |.sl id=>match atN σ id with
  |some j=>.sl j
  |none=>FJ
 |.mm id k=>match atN σ id with
  |some j=>.mm j k
  |none=>FJ
 |.np id=>match atN σ id with
  |some j=>.np j
  |none=>.nilp
 |.agg cs=>.agg<|renL σ cs
 |.tup cs=>.tup<|renL σ cs
 |.clo fid cs=>.clo fid<|renL σ cs
 |.int k n=>.int k n
 |.bool b=>.bool b
 |.str l=>.str l
 |.nilp=>.nilp
 |.nils=>.nils
 |.raw x=>.raw x
 |.box cs o=>.box cs o
 |.row sz els=>.row sz els
 |.lk els=>.lk els
def renL(σ:YN):List V->List V
 |[]=>[]
 |v::r=>v.ren σ::renL σ r
end
def Ob.ren(σ:YN):Ob->Ob
 |.var t cs=>.var t<|renL σ cs
 |.row e sz els=>.row e sz<|renL σ els
 |o=>o
def da(σ:YN)(ρ:Nat->Option Value):Nat->Option Value:=λj=>match atN σ j with
 |some i=>ρ i
 |none=>none
section
variable{S:Nat->Prop}{w:World}{ρ:Nat->Option Value}{σ:YN}
theorem Bc{x:Value}(h:VRel S w ρ FJ x):False:=by simp only[VRel,Value.oneCell']at h;exact absurd h.2 (by simp)
mutual
theorem VRel.ren:∀{v:V} {x:Value},VRel S w ρ (v.ren σ) x->VRel S w (da σ ρ) v x
 |.int _ _,x,h=>by simp only[V.ren,VRel]at h⊢;exact h
 |.bool _,x,h=>by simp only[V.ren,VRel]at h⊢;exact h
 |.str _,x,h=>by simp only[V.ren,VRel]at h⊢;exact h
 |.nilp,x,h=>by simp only[V.ren,VRel]at h⊢;exact h
 |.nils,x,h=>by simp only[V.ren,VRel]at h⊢;exact h
 |.raw _,x,h=>by simp only[V.ren,VRel]at h⊢;exact h
 |.box _ _,x,h=>by simp only[V.ren,VRel]at h⊢;exact h
 |.row _ _,x,h=>by simp only[V.ren,VRel]at h⊢;exact h
 |.lk _,x,h=>by simp only[V.ren,VRel]at h⊢;exact h
 | .ptr id o,x,h=>by
  simp only[V.ren]at h;split at h
  ·rename_i j hj;simp only[VRel]at h⊢;obtain⟨b,h1,h2⟩:=h;exact⟨b,by simp only[da,hj];exact h1,h2⟩
  ·exact(Bc h).elim
 | .el id sz i o,x,h=>by
  simp only[V.ren]at h;split at h
  ·rename_i j hj;simp only[VRel]at h⊢;obtain⟨b,n,c,h1,h2⟩:=h;exact⟨b,n,c,by simp only[da,hj];exact h1,h2⟩
  ·exact(Bc h).elim
 | .sl id,x,h=>by
  simp only[V.ren]at h;split at h
  ·rename_i j hj;simp only[VRel]at h⊢;exact⟨by simp only[da,hj];exact h.1,h.2⟩
  ·exact(Bc h).elim
 | .mm id k,x,h=>by
  simp only[V.ren]at h;split at h
  ·rename_i j hj;simp only[VRel]at h⊢;simp only[da,hj];exact h
  ·exact(Bc h).elim
 | .np id,x,h=>by
  simp only[V.ren]at h;split at h
  ·rename_i j hj;simp only[VRel]at h⊢;exact h.imp_right λ⟨b,h1,h2⟩=>⟨b,by simp only[da,hj];exact h1,h2⟩
  ·simp only[VRel]at h⊢;exact .inl h
 |.agg cs,x,h=>by simp only[V.ren,VRel]at h⊢;obtain⟨xs,h1,h2⟩:=h;exact⟨xs,h1,LRel.ren h2⟩
 |.tup cs,x,h=>by simp only[V.ren,VRel]at h⊢;obtain⟨xs,h1,h2⟩:=h;exact⟨xs,h1,LRel.ren h2⟩
 |.clo fid cs,x,h=>by simp only[V.ren,VRel]at h⊢;obtain⟨xs,h1,h2⟩:=h;exact⟨xs,h1,LRel.ren h2⟩
theorem LRel.ren:∀{v:List V} {x:List Value},LRel S w ρ (renL σ v) x->LRel S w (da σ ρ) v x
 |[],x,h=>by simp only[renL,LRel]at h⊢;exact h
 |v::r,x,h=>by simp only[renL,LRel]at h⊢;obtain⟨y,ys,h1,h2,h3⟩:=h;exact⟨y,ys,h1,VRel.ren h2,LRel.ren h3⟩
end
theorem Aj:∀(l:List V),(renL σ l).length=l.length
 |[]=>by simp[renL]
 |v::r=>by simp[renL,Aj r]
theorem CRel.ren{sz:Nat}:∀{v:List V} {x:List Value},CRel S w ρ sz (renL σ v) x->CRel S w (da σ ρ) sz v x
 |[],x,h=>by simp only[renL,CRel]at h⊢;exact h
 |v::r,x,h=>by simp only[renL,CRel]at h⊢;obtain⟨y,ys,h1,h2,E,G⟩:=h;exact⟨y,ys,h1,h2,VRel.ren E,CRel.ren G⟩
mutual
theorem VRel.bwd{ρ':Nat->Option Value}(hσ:∀j x,ρ j=some x->∃i,atN σ j=some i∧ρ' i=some x):∀{v:V} {x:Value},VRel S w ρ v x->VRel S w ρ' (v.ren σ) x
 |.int _ _,x,h=>by simp only[V.ren,VRel]at h⊢;exact h
 |.bool _,x,h=>by simp only[V.ren,VRel]at h⊢;exact h
 |.str _,x,h=>by simp only[V.ren,VRel]at h⊢;exact h
 |.nilp,x,h=>by simp only[V.ren,VRel]at h⊢;exact h
 |.nils,x,h=>by simp only[V.ren,VRel]at h⊢;exact h
 |.raw _,x,h=>by simp only[V.ren,VRel]at h⊢;exact h
 |.box _ _,x,h=>by simp only[V.ren,VRel]at h⊢;exact h
 |.row _ _,x,h=>by simp only[V.ren,VRel]at h⊢;exact h
 |.lk _,x,h=>by simp only[V.ren,VRel]at h⊢;exact h
 |.ptr id o,x,h=>by simp only[VRel]at h;obtain⟨b,h1,h2⟩:=h;obtain⟨i,h3,h4⟩:=hσ _ _ h1;simp only[V.ren,h3,VRel];exact⟨b,h4,h2⟩
 |.el id sz i o,x,h=>by simp only[VRel]at h;obtain⟨b,n,c,h1,h2⟩:=h;obtain⟨i',h3,h4⟩:=hσ _ _ h1;simp only[V.ren,h3,VRel];exact⟨b,n,c,h4,h2⟩
 |.sl id,x,h=>by simp only[VRel]at h;obtain⟨i,h3,h4⟩:=hσ _ _ h.1;simp only[V.ren,h3,VRel];exact⟨h4,h.2⟩
 |.mm id k,x,h=>by simp only[VRel]at h;obtain⟨z,hz⟩:=DO h.1;obtain⟨i,h3,h4⟩:=hσ _ _ hz;simp only[V.ren,h3,VRel];rw[h4,<-hz];exact h
 | .np id,x,h=>by
  simp only[VRel]at h;rcases h with h|⟨b,h1,h2⟩
  ·simp only[V.ren];split
   ·simp only[VRel];exact .inl h
   ·simp only[VRel];exact h
  ·obtain⟨i,h3,h4⟩:=hσ _ _ h1;simp only[V.ren,h3,VRel];exact .inr ⟨b,h4,h2⟩
 |.agg cs,x,h=>by simp only[V.ren,VRel]at h⊢;obtain⟨xs,h1,h2⟩:=h;exact⟨xs,h1,LRel.bwd hσ h2⟩
 |.tup cs,x,h=>by simp only[V.ren,VRel]at h⊢;obtain⟨xs,h1,h2⟩:=h;exact⟨xs,h1,LRel.bwd hσ h2⟩
 |.clo fid cs,x,h=>by simp only[V.ren,VRel]at h⊢;obtain⟨xs,h1,h2⟩:=h;exact⟨xs,h1,LRel.bwd hσ h2⟩
theorem LRel.bwd{ρ':Nat->Option Value}(hσ:∀j x,ρ j=some x->∃i,atN σ j=some i∧ρ' i=some x):∀{v:List V} {x:List Value},LRel S w ρ v x->LRel S w ρ' (renL σ v) x
 |[],x,h=>by simp only[renL,LRel]at h⊢;exact h
 |v::r,x,h=>by simp only[renL,LRel]at h⊢;obtain⟨y,ys,h1,h2,h3⟩:=h;exact⟨y,ys,h1,VRel.bwd hσ h2,LRel.bwd hσ h3⟩
end
theorem CRel.bwd{ρ':Nat->Option Value}(hσ:∀j x,ρ j=some x->∃i,atN σ j=some i∧ρ' i=some x){sz:Nat}:∀{v:List V} {x:List Value},CRel S w ρ sz v x->CRel S w ρ' sz (renL σ v) x
 |[],x,h=>by simp only[renL,CRel]at h⊢;exact h
 |v::r,x,h=>by simp only[renL,CRel]at h⊢;obtain⟨y,ys,h1,h2,E,G⟩:=h;exact⟨y,ys,h1,h2,VRel.bwd hσ E,CRel.bwd hσ G⟩
end
def bu(v u:V):Prop:=∀S w ρ x,VRel S w ρ v x->VRel S w ρ u x
theorem bu.rfl:bu v v:=λ_ _ _ _ h=>h
theorem bu.of_eq{u:V}(h:v=u):bu v u:=h▸bu.rfl
theorem bu.np0(i:Nat):bu .nilp (.np i):=λS w ρ x h=>by simp only[VRel]at h⊢;exact .inl h
theorem bu.nil(sz:Nat):bu .nils (.row sz []):=λS w ρ x h=>by simp only[VRel]at h⊢;subst h;exact⟨none,0,[],by simp,aag _,by decide,by simp[CRel],RowIn.none_⟩
def aU:List V->List V->Prop
 |[],us=>us=[]
 |v::r,us=>∃u q,us=u::q∧bu v u∧aU r q
theorem aU.rel{S:Nat->Prop}{w:World}{ρ:Nat->Option Value}:∀{vs us:List V} {xs:List Value},aU vs us->LRel S w ρ vs xs->LRel S w ρ us xs
 |[],us,xs,h,hl=>by simp only[aU]at h;subst h;exact hl
 |v::r,us,xs,h,hl=>by simp only[aU]at h;obtain⟨u,q,rfl,h1,h2⟩:=h;simp only[LRel]at hl⊢;obtain⟨y,ys,rfl,E,G⟩:=hl;exact⟨y,ys,I,h1 _ _ _ _ E,aU.rel h2 G⟩
theorem aU.rfl:∀{vs:List V},aU vs vs
 |[]=>by simp[aU]
 |v::r=>⟨v,r,by rfl,bu.rfl,aU.rfl⟩
variable{us:List V}
theorem bu.agg(h:aU vs us):bu (.agg vs) (.agg us):=λS w ρ x hx=>by simp only[VRel]at hx⊢;obtain⟨xs,h1,h2⟩:=hx;exact⟨xs,h1,h.rel h2⟩
theorem aU.cons{u:V}{r q:List V}(h:bu v u)(k:aU r q):aU (v::r) (u::q):=⟨u,q,by rfl,h,k⟩
theorem aU.nil:aU [] []:=by simp[aU]
def mS:Ob->Ob->Prop
 |_,.gone=>True
 |.var t cs,.var t' cs'=>t=t'∧aU cs cs'
 |.row e sz els,.row E sz' els'=>e=E∧sz=sz'∧els=els'
 |.mp k e ks vs,.mp k' E ks' vs'=>k=k'∧e=E∧ks=ks'∧vs=vs'
 |.mps r k e ms,.mps G k' E ms'=>r=G∧k=k'∧e=E∧ms=ms'
 |_,_=>False
def leF(σ:YN):Fm->Fm->Prop
 |_,[]=>True
 |[],none::E=>leF σ [] E
 |[],some _::_=>False
 |x::r,none::E=>leF σ r E
 |x::r,some u::E=>(∃v,x=some v∧bu v (u.ren σ))∧leF σ r E
def leH(σ:YN)(H:Hp):List (Nat×Ob)->Prop
 |[]=>True
 |(j,o)::r=>(∃i,atN σ j=some i∧mS (H.get i) (o.ren σ))∧leH σ H r
def ci:YN->Bool
 |[]=>true
 |i::r=>!r.contains i&&ci r
variable{o':Ob}
variable{PL:YN}{H0:Hp}
variable{Post:V->Hp->Prop}
section
variable{P:Program}{T:Tab}{K:Ctx}{Q:Exit->Act->World->Prop}{s:List EI}{n:Nat}{F F':Fm}{H H':Hp}{σ:YN}{S:Nat->Prop}{w:World}{ρ:Nat->Option Value}{a:Act}
theorem yV:∀{F F':Fm},leF σ F F'->∀i u,F'.get i=some u->∃v,F.get i=some v∧bu v (u.ren σ)
 |F,[],h,i,u,E=>by simp[Fm.get]at E
 |[],none::G,h,0,u,E=>by simp[Fm.get]at E
 |[],none::G,h,i+1,u,E=>by obtain⟨v,h1,_⟩:=yV (F:=[]) (F':=G) (by simpa[leF]using h) i u (by simpa[Fm.get]using E);simp[Fm.get]at h1
 |[],some _::_,h,i,u,E=>by simp[leF]at h
 |x::r,none::G,h,0,u,E=>by simp[Fm.get]at E
 |x::r,none::G,h,i+1,u,E=>by have :=yV (F:=r) (F':=G) (by simpa[leF]using h) i u (by simpa[Fm.get]using E);simpa[Fm.get]using this
 |x::r,some J::G,h,0,u,E=>by simp only[leF]at h;simp only[Fm.get,aaa]at E;subst E;obtain⟨v,h1,h2⟩:=h.1;exact⟨v,by simp[Fm.get,h1],h2⟩
 |x::r,some J::G,h,i+1,u,E=>by simp only[leF]at h;have :=yV h.2 i u (by simpa[Fm.get]using E);simpa[Fm.get]using this
theorem EE(h:leF σ F F')(hl:F'.length<=n)(hF:FRel S w ρ a n F):FRel S w (da σ ρ) a n F':=
 ⟨hF.size,hF.defers,hF.gl,hl,λi u E=>by obtain⟨v,h1,h2⟩:=yV h i u E;obtain⟨x,G,J⟩:=hF.get i v h1;exact⟨x,G,(h2 _ _ _ _ J).ren⟩⟩
theorem AB:∀{l:List<|Nat×Ob},leH σ H l->∀j,aA l j=.gone∨∃i,atN σ j=some i∧mS (H.get i) ((aA l j).ren σ)
 |[],_,j=>.inl rfl
 | (k,o)::r,h,j=>by
  simp only[leH]at h;simp only[aA];split
  ·rename_i hb;have :=aaf hb;subst this;exact .inr h.1
  ·exact AB h.2 j
theorem re:∀{l:YN},ci l=true->∀i j x,atN l i=some x->atN l j=some x->i=j
 |[],_,i,j,x,hi,E=>by simp[atN]at hi
 |y::r,h,0,0,x,hi,E=>rfl
 |y::r,h,0,j+1,x,hi,E=>by simp only[ci,aab,Bool.not_eq_true']at h;simp only[atN,aaa]at hi E;subst hi;rw[nq]at E;have :=List.mem_of_getElem? E;simp[this]at h
 |y::r,h,i+1,0,x,hi,E=>by simp only[ci,aab,Bool.not_eq_true']at h;simp only[atN,aaa]at hi E;subst E;rw[nq]at hi;have :=List.mem_of_getElem? hi;simp[this]at h
 |y::r,h,i+1,j+1,x,hi,E=>by simp only[ci,aab]at h;have :=re h.2 i j x (by simpa[atN]using hi) (by simpa[atN]using E);omega
theorem FY{o:Ob}(hij:atN σ j=some i)(h:mS o<|o'.ren σ)(ho':o'≠.gone)(hr:eK S w ρ i o):eK S w (da σ ρ) j o'∧∀b,own (da σ ρ) j o' b->own ρ i o b:=by
 have hρ:da σ ρ j=ρ i:=by simp only[da,hij]
 cases o' with
 |gone=>exact absurd rfl ho'
 |free=>cases o<;>simp[Ob.ren,mS]at h
 |ext bs Φ=>cases o<;>simp[Ob.ren,mS]at h
 |mp kt' et' ks' vs'=>
  cases o<;>simp only[Ob.ren,mS]at h;rename_i kt et ks vs;obtain⟨rfl,rfl,rfl,rfl⟩:=h;obtain⟨b,es,ck,h1,h2,h3,h4⟩:=hr;exact⟨⟨b,es,ck,by rw[hρ];exact h1,h2,h3,h4⟩,λc hc=>by simp only[own]at hc⊢;rw[hρ]at hc;exact hc⟩
 |mps e' kt' et' ms'=>
  cases o<;>simp only[Ob.ren,mS]at h;rename_i e kt et ms;obtain⟨rfl,rfl,rfl,rfl⟩:=h;obtain⟨v,bs,h1,h2,h3,h4,h5⟩:=hr;exact⟨⟨v,bs,by rw[hρ];exact h1,h2,h3,h4,h5⟩,λc hc=>by simp only[own]at hc⊢;rw[hρ]at hc;exact hc⟩
 |var t' cs'=>
  cases o<;>simp only[Ob.ren,mS]at h;rename_i t cs;obtain⟨rfl,h⟩:=h;obtain⟨b,xs,h1,h2,h3⟩:=hr;exact⟨⟨b,xs,by rw[hρ];exact h1,h2,(h.rel h3).ren⟩,λc hc=>by simp only[own]at hc⊢;rw[hρ]at hc;exact hc⟩
 | row e' sz' els'=>
  cases o<;>simp only[Ob.ren,mS]at h;rename_i e sz els;obtain⟨rfl,rfl,rfl⟩:=h;obtain⟨v,xs,h1,h2,h3⟩:=hr;rw[Aj]at h2;exact⟨⟨v,xs,by rw[hρ];exact h1,h2,h3.ren⟩,λc hc=>by obtain⟨q,e1,e2⟩:=hc;exact⟨q,by rw[<-hρ];exact e1,e2⟩⟩
def au(K:Ctx)(pv:YN):Prop:=∀id x,K.pin id=some x->id∈pv
def xt(σ pv:YN):Bool:=pv.all λi=>match atN σ i with|some j=>Nat.beq i j|none=>false
theorem DR(hH:leH σ H H'.es)(hn:ci σ=true)(E:Nat.ble σ.length H'.nx=true)(hr:HRel S w ρ H.get):HRel S w (da σ ρ) H'.get∧∀j b,own (da σ ρ) j (H'.get j) b->∃i,atN σ j=some i∧own ρ i (H.get i) b:=by
 have key:∀j,eK S w (da σ ρ) j (H'.get j)∧∀b,own (da σ ρ) j (H'.get j) b->∃i,atN σ j=some i∧own ρ i (H.get i) b:=λj=>by
  unfold Hp.get;split
  ·rcases AB hH j with e|⟨i,h1,h2⟩
   ·rw[e];exact⟨trivial,λb hb=>hb.elim⟩
   ·by_cases hg:aA H'.es j=.gone
    ·rw[hg];exact⟨trivial,λb hb=>hb.elim⟩
    ·obtain⟨J,U⟩:=FY h1 h2 hg<|hr.ob i;exact⟨J,λb hb=>⟨i,h1,U b hb⟩⟩
  ·rename_i G;refine⟨?_,λb hb=>hb.elim⟩;show da σ ρ j=none;have hj:¬j<H'.nx:=λh=>by rw[nlT h]at G;cases G
   have hl:σ.length<=H'.nx:=Nat.le_of_ble_eq_true E;simp only[da,nq];rw[List.getElem?_eq_none<|by omega]
 refine⟨⟨λj=>(key j).1,λj b hb=>?_,λi j b Z hbj=>?_,hr.slt⟩,λj=>(key j).2⟩
 ·obtain⟨i,_,h⟩:=(key j).2 b hb;exact hr.sep i b h
 ·obtain⟨i',h1,h2⟩:=(key i).2 b Z;obtain⟨j',J,U⟩:=(key j).2 b hbj;have :=hr.dis i' j' b h2 U;subst this;exact re hn i j i' h1 J
def EP.still:EP->Bool
 |.drw .. =>false
 |_=>true
theorem go_sub{p:EP}(σ pv:YN)(hp:p.still=true)(E:au K pv)(hF:leF σ F F')(hH:leH σ H H'.es)(U:(ci σ&&Nat.ble σ.length H'.nx&&xt σ pv&&Nat.ble F'.length n)=true)(k:Go P K Q p s n F' H'):Go P K Q p s n F H:=λS w ρ a hr hi hf=>by
 simp only[aab]at U;obtain⟨⟨⟨h1,h2⟩,Z⟩,h4⟩:=U;obtain⟨g1,g2⟩:=DR hH h1 h2 hr;have G:Inv K S w (da σ ρ) H'.get:=⟨hi.chg,hi.s0,hi.s1,λj b hb=>by obtain⟨i,_,h⟩:=g2 j b hb;exact hi.ow i b h,λid x hx=>by
  have J:=List.all_eq_true.1 Z id (E id x hx);simp only[da];split at J
  ·rename_i j hj;have :=aaf J;subst this
   first|exact hi.pin id x hx|(rw[hj];exact hi.pin id x hx)
  ·cases J⟩
 have :=k S w (da σ ρ) a g1 G<|EE hF (Nat.le_of_ble_eq_true h4) hf;cases p with
 |drw=>cases hp
 |code c=>exact this
 |ops all rest=>exact this
 |ex e=>exact this
def SP(K:Ctx)(Post:V->Hp->Prop)(e:Ending)(w':World):Prop:=
 ∃x S' ρ' v H',e=.returned x∧Post v H'∧HRel S' w' ρ' H'.get∧Inv K S' w' ρ' H'.get∧VRel S' w' ρ' v x
def iH(PL:YN)(i:Nat):Ob->Bool
 |.var _ _=>true
 |.ext _ _=>true
 |.mp _ _ _ _=>true
 |.mps _ _ _ _=>true
 |.row _ _ _=>PL.contains i
 |_=>false
def pU(PL:YN)(h:Nat->Ob)(ρ:Nat->Option Value):Nat->Option Value:=λi=>match iH PL i (h i)with
 |true=>ρ i
 |false=>none
def cb(PL:YN)(P:Program)(fid:FuncId)(vs:List V)(H0:Hp)(Post:V->Hp->Prop):Prop:=
 ∀S w ρ xs,HRel S w ρ H0.get->LRel S w ρ vs xs->Calls P fid xs.toArray w (SP ⟨w,S,λb=>∃id,own ρ id (H0.get id) b,pU PL H0.get ρ⟩ Post)
abbrev Sum(P:Program)(fid:FuncId)(vs:List V)(H0:Hp)(Post:V->Hp->Prop):Prop:=cb [] P fid vs H0 Post
theorem Ly{c:Code}{Post:V->Hp->Prop}(N:Nat)(pv:YN)(hf:P.funcs[fid]?=some fn)(hb:fn.body=some c)(hN:fn.ntmps=N)(hl:Nat.ble vs.length N=true)(E:∀i,iH PL i (H0.get i)=true->i∈pv)
  (k:∀K,au K pv->Go P K (bodyPost P fn<|SP K Post) (.code c) [] N (mN N vs) H0):cb PL P fid vs H0 Post:=λS w ρ xs hr hx=>by
 subst hN;have hi:Inv ⟨w,S,λb=>∃id,own ρ id (H0.get id) b,pU PL H0.get ρ⟩ S w ρ H0.get:=⟨ChgP.refl _ _,λ_ h=>h,λ_ h=>.inl h,λid b hb=>.inl ⟨id,hb⟩,λid x h=>by
  simp only[pU]at h;split at h
  ·exact h
  ·cases h⟩
 refine zL hf hb hl hr hi hx<|k _ λid x h=>E id ?_;simp only[pU]at h;split at h
 ·assumption
 ·cases h
theorem QS(hT:TabOk P T){rs:List ResultVar}{e:Exit}(E:fn.results=rs.toArray)(hv:sm T H.get F rs=some vs)(G:Post (nY vs) H)(J:e=.ret∨e=.normal:=by first|exact .inl rfl|exact .inr rfl):Go P K (bodyPost P fn<|SP K Post) (.ex e) [] n F H:=λS w ρ a hr hi hF=>
 ret_go hT J E hr hF hv λx hx=>⟨x,S,ρ,_,H,rfl,G,hr,hi,hx⟩
end
def lq:YN->Nat->Option Nat
 |[],_=>none
 |x::r,i=>match Nat.beq x i with
  |true=>some 0
  |false=>match lq r i with
   |some j=>some<|j+1
   |none=>none
theorem ir:∀{l:YN} {i j:Nat},lq l i=some j->atN l j=some i
 |[],i,j,h=>by cases h
 | x::r,i,j,h=>by
  simp only[lq]at h;split at h
  ·rename_i hb;have :=aaf hb;injection h with h;subst h;subst this;rfl
  ·split at h
   ·rename_i j' hj;injection h with h;subst h
    simpa[atN]using ir hj
   ·cases h
theorem Cu:∀{l:YN} {i:Nat},lq l i=none->∀j,atN l j≠some i
 |[],i,h,j=>by simp[atN]
 | x::r,i,h,0=>by
  simp only[lq]at h;split at h
  ·cases h
  ·rename_i hb;simp only[atN,ne_eq,aaa];exact Nat.ne_of_beq_eq_false hb
 | x::r,i,h,j+1=>by
  simp only[lq]at h;split at h
  ·cases h
  ·split at h
   ·cases h
   ·rename_i hn;simpa[atN]using Cu hn j
theorem OR{l:YN}(hn:ci l=true)(h:atN l j=some i):lq l i=some j:=by
 cases hi:lq l i with
 |none=>exact absurd h<|Cu hi j
 |some k=>rw[re hn k j i (ir hi) h]
def sgN(PL:YN)(nx:Nat)(E:Nat->Ob):Nat->YN->Nat->YN
 |0,_,_=>[]
 |m+1,σ,j=>match σ with
  |[]=>(nx+j)::sgN PL nx E m [] (j+1)
  |i::r=>(match iH PL j (E j)with|true=>i|false=>nx+j)::sgN PL nx E m r (j+1)
theorem Cm(PL:YN)(nx:Nat)(E:Nat->Ob):∀(m:Nat) (σ:YN) (j:Nat),(sgN PL nx E m σ j).length=m
 |0,_,_=>rfl
 |m+1,[],j=>by simp[sgN,Cm PL nx E m]
 |m+1,i::r,j=>by simp[sgN,Cm PL nx E m]
theorem Fy(PL:YN)(nx:Nat)(E:Nat->Ob):∀(m:Nat) (σ:YN) (j k:Nat),k<m->atN (sgN PL nx E m σ j) k=some (match atN σ k,iH PL (j+k) (E<|j+k)with|some i,true=>i|_,_=>nx+(j+k))
 |0,_,_,k,h=>by omega
 |m+1,[],j,0,h=>by simp[sgN,atN]
 |m+1,[],j,k+1,h=>by have :=Fy PL nx E m [] (j+1) k (by omega);simp only[sgN,atN]at this⊢;rw[this];simp only[show j+1+k=j+(k+1) by omega]
 |m+1,i::r,j,0,h=>by simp only[sgN,atN,Nat.add_zero];cases iH PL j (E j)<;>rfl
 |m+1,i::r,j,k+1,h=>by have :=Fy PL nx E m r (j+1) k (by omega);simp only[sgN,atN]at this⊢;rw[this];simp only[show j+1+k=j+(k+1) by omega]
def yi(σ:YN):List (Nat×Ob)->List (Nat×Ob)
 |[]=>[]
 |(j,o)::r=>match atN σ j with
  |some i=>(i,o.ren σ)::yi σ r
  |none=>yi σ r
def ti(σ:YN)(nx:Nat):List (Nat×Ob)->List (Nat×Ob)
 |[]=>[]
 |(j,o)::r=>match !σ.contains j&&Nat.blt j nx with
  |true=>match o with
   |.free=>(j,.gone)::ti σ nx r
   |o=>(j,o)::ti σ nx r
  |false=>ti σ nx r
def lN(PL:YN)(H:Hp)(σ:YN)(H0 H':Hp):Hp:=⟨H.nx+H'.nx,yi (sgN PL H.nx H0.get H'.nx σ 0) H'.es++ti σ H.nx H.es⟩
theorem CX{σ:YN}(hn:ci σ=true){i:Nat}:∀{l:List<|Nat×Ob},aA (yi σ l) i=match lq σ i with|some j=>(aA l j).ren σ|none=>.gone
 |[]=>by simp only[yi,aA];cases lq σ i<;>rfl
 | (k,o)::r=>by
  have ih:=CX hn (i:=i) (l:=r);simp only[yi];split
  ·rename_i i' hi';simp only[aA];by_cases e:i'=i
   ·subst e;rw[nbT,OR hn hi'];simp only[nbT]
   ·rw[nbF e,ih];cases hj:lq σ i with
    |none=>rfl
    |some j=>
     have hne:k≠j:=λe'=>by subst e';rw[ir hj]at hi';injection hi' with h;exact e h.symm
     simp only[nbF hne]
  ·rename_i hk;rw[ih];cases hj:lq σ i with
   |none=>rfl
   |some j=>
    have hne:k≠j:=λe'=>by subst e';rw[ir hj]at hk;cases hk
    simp only[aA,nbF hne]
theorem CB{σ:YN}{nx i:Nat}:∀{l:List<|Nat×Ob},aA (ti σ nx l) i=.gone∨(aA (ti σ nx l) i=aA l i∧σ.contains i=false∧i<nx∧aA l i≠.free)
 |[]=>.inl rfl
 | (k, o)::r=>by
  have ih:=CB (σ:=σ) (nx:=nx) (i:=i) (l:=r);simp only[ti];by_cases hk:k=i
  ·subst hk;cases hc:(!σ.contains k&&Nat.blt k nx)
   ·simp only;left;have key:∀(l:List<|Nat×Ob),aA (ti σ nx l) k=.gone:=by
     intro l
     induction l with
     |nil=>rfl
     | cons q t ih=>
      obtain⟨m,o'⟩:=q;simp only[ti];by_cases hm:m=k
      ·subst hm;rw[hc];exact ih
      ·cases hc':(!σ.contains m&&Nat.blt m nx)
       ·exact ih
       ·cases o'<;>(simp only[aA,nbF hm];exact ih)
    exact key r
   ·simp only[aab,Bool.not_eq_true']at hc;have hlt:k<nx:=by simpa[Nat.blt_eq]using hc.2
    cases o with
    |free=>left;simp only[aA,nbT]
    |gone=>left;simp only[aA,nbT]
    |var t cs=>right;simp only[aA,nbT];exact⟨trivial,hc.1,hlt,by simp⟩
    |row e sz els=>right;simp only[aA,nbT];exact⟨trivial,hc.1,hlt,by simp⟩
    |ext bs Φ=>right;simp only[aA,nbT];exact⟨trivial,hc.1,hlt,by simp⟩
    |mp kt et ks vs=>right;simp only[aA,nbT];exact⟨trivial,hc.1,hlt,by simp⟩
    |mps e kt et ms=>right;simp only[aA,nbT];exact⟨trivial,hc.1,hlt,by simp⟩
  ·have e2:aA ((k,o)::r) i=aA r i:=by simp only[aA,nbF hk]
   rw[e2];cases hc:(!σ.contains k&&Nat.blt k nx)
   ·exact ih
   ·cases o<;>(simp only[aA,nbF hk];exact ih)
theorem yI:∀{l:YN},(∀i j x,atN l i=some x->atN l j=some x->i=j)->ci l=true
 |[],_=>rfl
 | y::r,h=>by
  simp only[ci,aab,Bool.not_eq_true'];refine⟨?_,yI λi j x hi hj=>by have :=h (i+1) (j+1) x (by simpa[atN]using hi) (by simpa[atN]using hj);omega⟩;cases hc:r.contains y
  ·rfl
  ·exfalso;have hm:y∈r:=by simpa using hc
   obtain⟨k,hk,e⟩:=aaC hm;have :=h 0 (k+1) y (by simp[atN]) (by simp only[atN,nq];rw[List.getElem?_eq_getElem hk,e]);omega
section
variable{P:Program}{K:Ctx}{H H0:Hp}{σ:YN}{S:Nat->Prop}{w:World}
theorem Qw{o:Ob}(hσ:∀j x,ρ j=some x->∃i,atN σ j=some i∧ρ' i=some x)(Z:atN σ j=some i)(J:ρ j=none->ρ' i=none∨o≠.free)(h:eK S w ρ j o):eK S w ρ' i (o.ren σ)∧∀b,own ρ' i (o.ren σ) b->own ρ j o b:=by
 have hs:∀x,ρ j=some x->ρ' i=some x:=λx hx=>by
  obtain⟨i',h1,h2⟩:=hσ j x hx;rw[Z]at h1;injection h1 with h1;subst h1;exact h2
 cases o with
 |free=>exact⟨(J h).resolve_right (by simp),λb hb=>hb⟩
 |gone=>exact⟨trivial,λb hb=>hb⟩
 |ext bs Φ=>exact⟨h,λb hb=>hb⟩
 |mp kt et ks vs=>
  obtain⟨b,es,ck,h1,h2,G⟩:=h;refine⟨⟨b,es,ck,hs _ h1,h2,G⟩,λc E=>?_⟩;simp only[Ob.ren,own]at E⊢;rw[hs _ h1]at E;rw[h1];exact E
 |mps e kt et ms=>
  obtain⟨v,bs,h1,h2⟩:=h;refine⟨⟨v,bs,hs _ h1,h2⟩,λc E=>?_⟩;simp only[Ob.ren,own]at E⊢;rw[hs _ h1]at E;rw[h1];exact E
 |var t cs=>
  obtain⟨b,xs,h1,h2,G⟩:=h;refine⟨⟨b,xs,hs _ h1,h2,G.bwd hσ⟩,λc E=>?_⟩;simp only[Ob.ren,own]at E⊢;rw[hs _ h1]at E;rw[h1];exact E
 |row e sz els=>
  obtain⟨v,xs,h1,h2,G⟩:=h;refine⟨⟨v,xs,hs _ h1,by rw[Aj];exact h2,G.bwd hσ⟩,λc E=>?_⟩;obtain⟨q,U,e2⟩:=E;rw[hs _ h1]at U;cases U;exact⟨v,h1,e2⟩
theorem tj(hS:cb PL P fid us H0 Post)(σ:YN)(hv:aU vs<|renL σ us)(hH:leH σ H H0.es)(hc:(ci σ&&Nat.beq σ.length H0.nx&&σ.all λi=>Nat.blt i H.nx)=true)(L:YN)(hL:(cm H.get L&&L.all λi=>!σ.contains i)=true):
  CallR P K fid vs H L (λv' H''=>∃v H',Post v H'∧v'=v.ren (sgN PL H.nx H0.get H'.nx σ 0)∧H''=lN PL H σ H0 H'):=λS w ρ xs hr hi hx=>by
 simp only[aab]at hc hL;obtain⟨⟨hc1,hc2⟩,hc3⟩:=hc;have hlen:σ.length=H0.nx:=by simpa using hc2
 have hσlt:∀j i,atN σ j=some i->i<H.nx:=λj i h=>by rw[nq]at h;have :=List.all_eq_true.1 hc3 i (List.mem_of_getElem? h);simpa[Nat.blt_eq]using this
 obtain⟨g1,g2⟩:=DR (H':=H0) hH hc1 (by simp[hlen]) hr;refine(hS S w (da σ ρ) xs g1<|(hv.rel hx).ren).mono λe w' hR=>?_;obtain⟨x,S',ρ1,v,H',rfl,hP,hr',hi',hvr⟩:=hR;obtain⟨τ,hτ⟩:∃τ,τ=sgN PL H.nx H0.get H'.nx σ 0:=⟨_,rfl⟩;have hτlen:τ.length=H'.nx:=by rw[hτ];exact Cm _ _ _ _ _ _
 have hτat:∀j,j<H'.nx->atN τ j=some (match atN σ j,iH PL j (H0.get j)with|some i,true=>i|_,_=>H.nx+j):=λj hj=>by rw[hτ,Fy _ _ _ _ _ _ _ hj];simp only[Nat.zero_add]
 have hτlt:∀j i,atN τ j=some i->j<H'.nx:=λj i h=>by rw[nq]at h;have :=(List.getElem?_eq_some_iff.1 h).1;omega
 have hτc:∀j i,atN τ j=some i->(atN σ j=some i∧iH PL j (H0.get j)=true)∨i=H.nx+j:=λj i h=>by
  have hj:=hτlt j i h;rw[hτat j hj]at h;simp only[aaa]at h;cases h1:atN σ j with
  |none=>rw[h1]at h;exact .inr h.symm
  |some i1=>
   rw[h1]at h;cases h2:iH PL j<|H0.get j
   ·rw[h2]at h;exact .inr h.symm
   ·rw[h2]at h;simp only at h;subst h;exact .inl ⟨rfl,rfl⟩
 have hτbd:∀j i,atN τ j=some i->i<H.nx+H'.nx:=λj i h=>by
  have hj:=hτlt j i h;rcases hτc j i h with⟨h1,_⟩|h1
  ·have :=hσlt j i h1;omega
  ·omega
 have hτinj:ci τ=true:=yI λj k i h1 h2=>by
  rcases hτc j i h1 with⟨a1,_⟩|a1<;>rcases hτc k i h2 with⟨a2,_⟩|a2
  ·exact re hc1 j k i a1 a2
  ·have :=hσlt j i a1;omega
  ·have :=hσlt k i a2;omega
  ·omega
 have hfreeρ:∀i,H.nx<=i->ρ i=none:=λi hi'=>by
  have :=hr.ob i;have e:H.get i=.free:=by
   unfold Hp.get;have :Nat.blt i H.nx=false:=by cases hb:Nat.blt i H.nx;rfl;simp[Nat.blt_eq]at hb;omega
   rw[this]
  rw[e]at this;exact this
 have hfree1:∀j,H'.nx<=j->ρ1 j=none:=λj hj=>by
  have :=hr'.ob j;have e:H'.get j=.free:=by
   unfold Hp.get;have :Nat.blt j H'.nx=false:=by cases hb:Nat.blt j H'.nx;rfl;simp[Nat.blt_eq]at hb;omega
   rw[this]
  rw[e]at this;exact this
 obtain⟨ρ2,hρ2⟩:∃ρ2:Nat->Option Value,ρ2=λi=>if i<H.nx then ρ i else ρ1 (i-H.nx):=⟨_,rfl⟩
 have hup:∀i y,ρ i=some y->ρ2 i=some y:=λi y h=>by
  by_cases hlt:i<H.nx
  ·rw[hρ2];simp only[hlt,if_true];exact h
  ·rw[hfreeρ i<|by omega]at h;cases h
 have hpin:∀j,iH PL j (H0.get j)=true->∀y,da σ ρ j=some y->ρ1 j=some y:=λj hv y h=>hi'.pin j y (by simp only[pU,hv];exact h);have hnoext:∀j i,atN σ j=some i->∀bs Φ,H0.get j=.ext bs Φ->False:=λj i h1 bs Φ hy'=>by
  have hl:=AB hH j;have hlt:j<H0.nx:=by rw[<-hlen];rw[nq]at h1;exact(List.getElem?_eq_some_iff.1 h1).1
  have e0:H0.get j=aA H0.es j:=by unfold Hp.get;rw[nlT hlt]
  rw[<-e0,hy']at hl;rcases hl with hl|⟨i',_,hl⟩
  ·cases hl
  ·cases ho:H.get i'<;>rw[ho]at hl<;>simp[Ob.ren,mS]at hl
 have hτρ:∀j y,ρ1 j=some y->∃i,atN τ j=some i∧ρ2 i=some y:=λj y h=>by
  have hj:j<H'.nx:=by
   rcases Nat.lt_or_ge j H'.nx with h1|h1
   ·exact h1
   ·rw[hfree1 j h1]at h;cases h
  obtain⟨i,hji⟩:∃i,atN τ j=some i:=⟨_,hτat j hj⟩;refine⟨i,hji,?_⟩;rcases hτc j i hji with⟨h1,h2⟩|h1
  ·
   have hob:=g1.ob j;have hsome:∃y',da σ ρ j=some y'∨∃bs Φ,H0.get j=.ext bs Φ:=by
    cases ho:H0.get j with
    |var t cs=>rw[ho]at hob;obtain⟨b,_,hb,_⟩:=hob;exact⟨_,.inl hb⟩
    |row e sz els=>rw[ho]at hob;obtain⟨b,_,hb,_⟩:=hob;exact⟨_,.inl hb⟩
    |ext bs Φ=>exact⟨.bool true,.inr ⟨bs,Φ,rfl⟩⟩
    |mp kt et ks vs=>rw[ho]at hob;obtain⟨b,_,_,hb,_⟩:=hob;exact⟨_,.inl hb⟩
    |mps e kt et ms=>rw[ho]at hob;obtain⟨_,_,hb,_⟩:=hob;exact⟨_,.inl hb⟩
    |_=>rw[ho]at h2;cases h2
   obtain⟨y',hy'|⟨bs,Φ,hy'⟩⟩:=hsome
   ·have :=hpin j h2 y' hy';rw[h]at this;injection this with this;subst this
    simp only[da,h1]at hy';exact hup _ _ hy'
   ·exact(hnoext j i h1 bs Φ hy').elim
  ·subst h1;rw[hρ2];simp only[show¬H.nx+j<H.nx by omega,if_false,Nat.add_sub_cancel_left];exact h
 obtain⟨h1',hh1'⟩:∃h1':Nat->Ob,h1'=λi=>match lq τ i with|some j=>(H'.get j).ren τ|none=>if i<H.nx+H'.nx then .gone else .free:=⟨_,rfl⟩
 obtain⟨h1,hh1⟩:∃h1:Nat->Ob,h1=λi=>match σ.contains i with|true=>H.get i|false=>.gone:=⟨_,rfl⟩
 have hin:∀i,h1 i=H.get i∨h1 i=.gone:=λi=>by rw[hh1];simp only[];cases σ.contains i<;>simp
 have hkey:∀i,eK S' w' ρ2 i (h1' i)∧∀b,own ρ2 i (h1' i) b->∃j,lq τ i=some j∧own ρ1 j (H'.get j) b:=λi=>by
  rw[hh1'];simp only[];cases hj:lq τ i with
  | none=>
   simp only[];split
   ·exact⟨trivial,λb hb=>hb.elim⟩
   ·rename_i hlt;refine⟨?_,λb hb=>hb.elim⟩;show ρ2 i=none;rw[hρ2];simp only[show¬i<H.nx by omega,if_false];exact hfree1 _ (by omega)
  | some j=>
   have hat:=ir hj;obtain⟨k1,k2⟩:=Qw hτρ hat (λhn=>by
    have hjl:=hτlt j i hat;by_cases hf:H'.get j=.free
    ·left;rcases hτc j i hat with⟨a1,a2⟩|a1
     ·
      have hob:=g1.ob j;exfalso;cases ho:H0.get j with
      |var t cs=>
       rw[ho]at hob;obtain⟨b,_,hb,_⟩:=hob;have :=hpin j a2 _ hb;rw[hn]at this;cases this
      |row e sz els=>
       rw[ho]at hob;obtain⟨b,_,hb,_⟩:=hob;have :=hpin j a2 _ hb;rw[hn]at this;cases this
      |ext bs Φ=>exact hnoext j i a1 bs Φ ho
      |mp kt et ks vs=>
       rw[ho]at hob;obtain⟨b,_,_,hb,_⟩:=hob;have :=hpin j a2 _ hb;rw[hn]at this;cases this
      |mps e kt et ms=>
       rw[ho]at hob;obtain⟨_,_,hb,_⟩:=hob;have :=hpin j a2 _ hb;rw[hn]at this;cases this
      |_=>rw[ho]at a2;cases a2
     ·subst a1;rw[hρ2];simp only[show¬H.nx+j<H.nx by omega,if_false,Nat.add_sub_cancel_left];exact hn
    ·exact .inr hf) (hr'.ob j)
   exact⟨k1,λb hb=>⟨j,I,k2 b hb⟩⟩
 have hX:∀b,(∃id,own (da σ ρ) id (H0.get id) b)->∃id,own ρ id (h1 id) b:=λb ⟨id,hb⟩=>by
  obtain⟨i,h2,h3⟩:=g2 id b hb;refine⟨i,?_⟩;have hm:σ.contains i=true:=by rw[nq]at h2;simpa using List.mem_of_getElem? h2
  rw[hh1];simp only[hm];exact h3
 have hrel1:HRel S' w' ρ2 h1':=⟨λi=>(hkey i).1,λi b hb=>by obtain⟨j,_,h⟩:=(hkey i).2 b hb;exact hr'.sep j b h,λi k b hbi hbk=>by obtain⟨j,e1,h1⟩:=(hkey i).2 b hbi;obtain⟨j',e2,h2⟩:=(hkey k).2 b hbk;have :=hr'.dis j j' b h1 h2;subst this;have a1:=ir e1;have a2:=ir e2;rw[a1]at a2;injection a2,hr'.slt⟩
 have hinv1:Inv ⟨w,S,λb=>∃id,own ρ id (h1 id) b,ρ⟩ S' w' ρ2 h1':=⟨hi'.chg.mono hX,hi'.s0,λb hb=>by
  rcases hi'.s1 b hb with h|h|h
  ·exact .inl h
  ·exact .inr<|.inl<|hX b h
  ·exact .inr<|.inr h,λi b hb=>by
  obtain⟨j,_,h⟩:=(hkey i).2 b hb;rcases hi'.ow j b h with h|h
  ·exact .inl<|hX b h
  ·exact .inr h,λid y h=>hup id y h⟩
 have hh2:∀i,((lN PL H σ H0 H').get i=h1' i∨(lN PL H σ H0 H').get i=.gone)∨((lN PL H σ H0 H').get i=H.get i∧h1 i=.gone∧H.get i≠.free):=λi=>by
  by_cases hlt:i<H.nx+H'.nx
  ·have e0:(lN PL H σ H0 H').get i=aA (yi τ H'.es++ti σ H.nx H.es) i:=by
    unfold Hp.get lN;simp only[nlT hlt,hτ]
   rw[e0];rcases FV (yi τ H'.es) (ti σ H.nx H.es) i with e|⟨_,e⟩
   ·rw[e,CX hτinj];cases hj:lq τ i with
    |none=>exact .inl<|.inr rfl
    |some j=>
     left;left;rw[hh1'];simp only[hj];have hjl:=hτlt j i<|ir hj;unfold Hp.get;rw[nlT hjl]
   ·rw[e];rcases CB (σ:=σ) (nx:=H.nx) (i:=i) (l:=H.es)with e1|⟨e1,e2,e3,e4⟩
    ·exact .inl<|.inr e1
    ·right;have eH:H.get i=aA H.es i:=by unfold Hp.get;rw[nlT e3]
     refine⟨by rw[e1,eH],?_,by rw[eH];exact e4⟩;rw[hh1];simp only[e2]
  ·left;left;have e0:(lN PL H σ H0 H').get i=.free:=by
    unfold Hp.get lN;have :Nat.blt i (H.nx+H'.nx)=false:=by cases hb:Nat.blt i<|H.nx+H'.nx;rfl;simp[Nat.blt_eq]at hb;omega
    simp only[this]
   rw[e0,hh1'];simp only[];cases hj:lq τ i with
   |none=>simp only[hlt,if_false]
   |some j=>have :=hτbd j i<|ir hj;omega
 obtain⟨m1,m2,m3,m4⟩:=DK (h2:=(lN PL H σ H0 H').get) hr hi hin hrel1 hinv1 hh2;refine⟨x,S',ρ2,_,_,I,⟨v,H',hP,I,I⟩,m1,m2,m3,by rw[<-hτ];exact hvr.bwd hτρ,m4 L hL.1 λid hid=>?_⟩;have :=List.all_eq_true.1 hL.2 id hid;simp only[Bool.not_eq_true']at this;rw[hh1];simp only[this]
end
variable{α:Type}
section
variable(T:Tab)
def opS(F:Fm)(H:Hp)(o:Oper)(c:Fm->Hp->Option α):Option α:=
 match pa T H.get F o.op with
 |some v=>F.puto o.dst (some v) λF'=>c F' H
 |none=>match oe T H.get F H.nx o.op with
  |some (v,ed)=>H.ap ed λH'=>match v with
   |some v=>F.puto o.dst (some v) λF'=>c F' H'
   |none=>F.puto o.dst (some<|.tup []) λF'=>c F' H'
  |none=>none
def fU:Nat->EP->List EI->Fm->Hp->Option (EP×List EI×Fm×Hp)
 |0,p,s,F,H=>some (p,s,F,H)
 |k+1,.code c,s,F,H=>match c with
  |.seq x y=>fU k (.code x) (.seq y::s) F H
  |.block id c=>fU k (.code c) (.blk id::s) F H
  |.skip=>fU k (.ex .normal) s F H
  |.ret=>fU k (.ex .ret) s F H
  |.exit id=>fU k (.ex<|.exit id) s F H
  |.cond c x y=>match aG F c with
   |some (.bool true)=>fU k (.code x) s F H
   |some (.bool false)=>fU k (.code y) s F H
   |_=>none
  |.region _ ⟨l⟩ false=>fU k (.ops ⟨l⟩ l) s F H
  |_=>none
 |k+1,.ops all rest,s,F,H=>match rest with
  |[]=>fU k (.ex .normal) s F H
  |o::r=>match bd F all o.guard with
   |some true=>opS T F H o λF' H'=>fU k (.ops all r) s F' H'
   |some false=>F.puto o.dst (some<|.tup []) λF'=>fU k (.ops all r) s F' H
   |none=>none
 |k +1,.ex e,s,F,H=>match s with
  |[]=>none
  |.seq c::s=>match e with
   |.normal=>fU k (.code c) s F H
   |.exit i=>fU k (.ex<|.exit i) s F H
   |.ret=>fU k (.ex .ret) s F H
   |_=>none
  |.blk id::s=>match e with
   |.normal=>fU k (.ex .normal) s F H
   |.exit i=>match Nat.beq i id with
    |true=>fU k (.ex .normal) s F H
    |false=>fU k (.ex<|.exit i) s F H
   |.ret=>fU k (.ex .ret) s F H
   |_=>none
  |_=>none
 |k+1,.drw ..,_,_,_=>none
def oX (all:Array Oper) (L:List Nat):List (Nat×Nat)->Fm->Hp->Option (Fm×Hp)
 |[],F,H=>some (F,H)
 |(i, f)::r,F,H=>match all[i]? with
  |some o=>match bd F all o.guard with
   |some false=>F.puto o.dst (some<|.tup []) λF'=>oX all L r F' H
   |some true=>match f with
    |2=>match pa T H.get F o.op with
     |some v=>F.puto o.dst (some v) λF'=>oX all L r F' H
     |none=>none
    |3 =>match vN F o.op with
     |some id=>match L.contains id with
      |true=>match oe T H.get F H.nx o.op with
       |some (some v,_)=>F.puto o.dst (some v) λF'=>oX all L r F' H
       |_=>none
      |false=>none
     |none=>none
    |f =>match pa T H.get F o.op with
     |some v=>F.puto o.dst (some v) λF'=>oX all L r F' H
     |none=>match oe T H.get F H.nx o.op with
      |some (v,ed)=>match(cm H.get L&&ed.clear L)||Nat.beq f 1 with
       |true=>H.ap ed λH'=>match v with
        |some v=>F.puto o.dst (some v) λF'=>oX all L r F' H'
        |none=>F.puto o.dst (some<|.tup []) λF'=>oX all L r F' H'
       |false=>none
      |none=>none
   |none=>none
  |none=>none
end
def EX(all:Array Oper)(m:Nat):List (Nat×Nat)->Array Bool->Bool
 |[],_=>true
 |(i,f)::r,listed=>(match f with
  |2=>!Nat.beq i m&&Region.free .any all listed i&&(Region.ready .any all listed).contains i
  |3=>!Nat.beq i m&&Region.free .any all listed i&&(Region.ready .any all listed).contains i&&zf .any all m i&&!listed.getD m false
  |1=>(match Region.ready .any all listed with|[j]=>Nat.beq i j|_=>false)&&(listed.setIfInBounds i true).getD m false
  |_=>(match Region.ready .any all listed with|[j]=>Nat.beq i j|_=>false))&&EX all m r (listed.setIfInBounds i true)
def JX:List (Nat×Nat)->Array Bool->Array Bool
 |[],l=>l
 |(i,_)::r,l=>JX r<|l.setIfInBounds i true
variable{l:Int}
variable{e:TypeId}{sz:Nat}
variable{y:Operand}{els:List V}{ty:TypeId}
section
variable{P:Program}{T:Tab}{K:Ctx}{Q:Exit->Act->World->Prop}{p p':EP}{s s':List EI}{n:Nat}{F F' F1 F2:Fm}{H H' H1:Hp}
theorem Qt(hT:TabOk P T){rest:List Oper}{c:Fm->Hp->Option α}{x:α}(E:bd F all o.guard=some true)(h:opS T F H o c=some x):∃F' H',c F' H'=some x∧(Go P K Q (.ops all rest) s n F' H'->Go P K Q (.ops all<|o::rest) s n F H):=by
 unfold opS at h;split at h
 ·rename_i v hv;rw[Fm.puto_eq]at h;exact⟨_,_,h,λk=>go_opP hT E hv k⟩
 ·split at h
  ·rename_i v ed hv;rw[Hp.ap_eq]at h;cases v with
   |none=>
    simp only[Fm.puto_eq]at h;exact⟨_,_,h,λk=>go_opE hT E hv k⟩
   |some v=>
    simp only[Fm.puto_eq]at h;exact⟨_,_,h,λk=>go_opE hT E hv k⟩
  ·cases h
theorem dq(hT:TabOk P T):∀(k:Nat) (p:EP) (s:List EI) (F:Fm) (H:Hp),fU T k p s F H=some (p',s',F',H')->Go P K Q p' s' n F' H'->Go P K Q p s n F H
 |0,p,s,F,H,h,kk=>by simp only[fU,aaa,Prod.mk.injEq]at h;obtain⟨rfl,rfl,rfl,rfl⟩:=h;exact kk
 | k+1,.code c,s,F,H,h,kk=>by
  unfold fU at h;split at h
  ·exact Me<|dq hT k _ _ _ _ h kk
  ·exact El<|dq hT k _ _ _ _ h kk
  ·exact Ho<|dq hT k _ _ _ _ h kk
  ·exact go_ret<|dq hT k _ _ _ _ h kk
  ·exact Hw<|dq hT k _ _ _ _ h kk
  ·split at h
   ·exact FH ‹_› (dq hT k _ _ _ _ h kk)
   ·exact Ef ‹_› (dq hT k _ _ _ _ h kk)
   ·cases h
  ·exact go_region<|dq hT k _ _ _ _ h kk
  ·cases h
 | k+1,.ops all rest,s,F,H,h,kk=>by
  unfold fU at h;split at h
  ·exact Kw<|dq hT k _ _ _ _ h kk
  ·split at h
   ·obtain⟨F1,H1,h1,h2⟩:=Qt (P:=P) (K:=K) (Q:=Q) (s:=s) (n:=n) hT ‹_› h;exact h2<|dq hT k _ _ _ _ h1 kk
   ·rw[Fm.puto_eq]at h;exact La ‹_› (dq hT k _ _ _ _ h kk)
   ·cases h
 | k+1,.ex e,s,F,H,h,kk=>by
  unfold fU at h;split at h
  ·cases h
  ·split at h
   ·exact Hx<|dq hT k _ _ _ _ h kk
   ·exact FC<|dq hT k _ _ _ _ h kk
   ·exact DY<|dq hT k _ _ _ _ h kk
   ·cases h
  ·split at h
   ·exact Eo<|dq hT k _ _ _ _ h kk
   ·split at h
    ·exact Fg ‹_› (dq hT k _ _ _ _ h kk)
    ·exact Ea ‹_› (dq hT k _ _ _ _ h kk)
   ·exact Gi<|dq hT k _ _ _ _ h kk
   ·cases h
  ·cases h
 |k+1,.drw ..,s,F,H,h,kk=>by simp[fU]at h
variable{all:Array Oper}{rest:List Oper}{o:Oper}{L:YN}{m fuel:Nat}{listed:Array Bool}
theorem CO(h:(match Region.ready .any all listed with|[j]=>Nat.beq i j|_=>false)=true):Region.ready .any all listed=[i]:=by
 split at h
 ·rename_i j E;rw[E,aaf h]
 ·cases h
theorem oo (hT:TabOk P T):∀(is:List<|Nat×Nat) (fuel:Nat) (listed:Array Bool) (F:Fm) (H:Hp),EX all m is listed=true->oX T all L is F H=some (F',H')->Go P K Q (.drw all L m fuel<|JX is listed) s n F' H'->Go P K Q (.drw all L m (fuel+is.length) listed) s n F H
 |[],fuel,listed,F,H,hc,hr,k=>by simp only[oX,aaa,Prod.mk.injEq]at hr;obtain⟨rfl,rfl⟩:=hr;exact k
 | (i, f)::r,fuel,listed,F,H,hc,hr,k=>by
  simp only[EX,aab]at hc;obtain⟨hc1,hc2⟩:=hc;show Go P K Q (.drw all L m (fuel+r.length+1) listed) s n F H;unfold oX at hr;split at hr
  ·rename_i o ho;split at hr
   ·rename_i hw;rw[Fm.puto_eq]at hr;have ih:=oo hT r fuel _ _ _ hc2 hr k;have single:(match Region.ready .any all listed with|[j]=>Nat.beq i j|_=>false)=true->Go P K Q (.drw all L m (fuel+r.length+1) listed) s n F H:=λhx=>go_d1S (CO hx) ho hw ih;split at hc1
    ·simp only[aab,Bool.not_eq_true']at hc1;exact IR hc1.1.1 ho hc1.1.2 hc1.2 hw ih
    ·simp only[aab,Bool.not_eq_true']at hc1;exact IR hc1.1.1.1.1 ho hc1.1.1.1.2 hc1.1.1.2 hw ih
    ·simp only[aab]at hc1;exact single hc1.1
    ·exact single hc1
   ·rename_i hw;split at hr
    ·split at hr
     ·rename_i v hv;rw[Fm.puto_eq]at hr;have ih:=oo hT r fuel _ _ _ hc2 hr k;simp only[aab,Bool.not_eq_true']at hc1;exact Oz hT hc1.1.1 ho hc1.1.2 hc1.2 hw hv ih
     ·cases hr
    ·split at hr
     ·rename_i id hid;split at hr
      ·rename_i hL;split at hr
       ·rename_i v ed hv;rw[Fm.puto_eq]at hr;have ih:=oo hT r fuel _ _ _ hc2 hr k;simp only[aab,Bool.not_eq_true']at hc1;exact OD hT hc1.1.1.1.1 hc1.1.2 hc1.2 ho hc1.1.1.1.2 hc1.1.1.2 hw hid hL hv ih
       ·cases hr
      ·cases hr
     ·cases hr
    ·rename_i h2 h3;have hs:(match Region.ready .any all listed with|[j]=>Nat.beq i j|_=>false)=true∧(Nat.beq f 1=true->(listed.setIfInBounds i true).getD m false=true):=by
      split at hc1
      ·exact absurd I h2
      ·exact absurd I h3
      ·simp only[aab]at hc1;exact⟨hc1.1,λ_=>hc1.2⟩
      ·rename_i h1;exact⟨hc1,λhb=>absurd (aaf hb) h1⟩
     have hrd:=CO hs.1;split at hr
     ·rename_i v hv;rw[Fm.puto_eq]at hr;have ih:=oo hT r fuel _ _ _ hc2 hr k;exact Mg hrd ho hw (λS w ρ a hr hF=>wH hT hr hF hv) ih
     ·split at hr
      ·rename_i v ed hv;split at hr
       ·rename_i hcl;rw[Hp.ap_eq]at hr;have hcl':((cm H.get L&&ed.clear L)||(listed.setIfInBounds i true).getD m false)=true:=by
         rcases wB hcl with h|h
         ·rw[h];rfl
         ·rw[hs.2 h];simp
        cases v with
        |none=>
         simp only[Fm.puto_eq]at hr;exact Fz hrd ho hw (λS w ρ a hr hF=>zd hT hr hF H.get_free hv) (uv hv) hcl'<|oo hT r fuel _ _ _ hc2 hr k
        |some v=>
         simp only[Fm.puto_eq]at hr;exact Fz hrd ho hw (λS w ρ a hr hF=>zd hT hr hF H.get_free hv) (uv hv) hcl'<|oo hT r fuel _ _ _ hc2 hr k
       ·cases hr
      ·cases hr
   ·cases hr
  ·cases hr
theorem se{d:Nat}{G:V}(J:F.get d=some v)(hs:bu v G)(k:Go P K Q p s n (F.set d<|some G) H):Go P K Q p s n F H:=λS w ρ a hr hi hF=>by
 refine k S w ρ a hr hi ⟨hF.size,hF.defers,hF.gl,by have :=hF.len;simpa using this,λi u E=>?_⟩;rw[Fm.get_eq,List.getElem?_set]at E;split at E
 ·rename_i e;subst e;split at E
  ·simp only[Option.bind_some,id_eq,aaa]at E;subst E;obtain⟨x,h1,h2⟩:=hF.get d v J;exact⟨x,h1,hs _ _ _ _ h2⟩
  ·cases E
 ·exact hF.get i u (by rw[Fm.get_eq];exact E)
theorem gB{e:Bool}(d:Nat)(G:F.get d=some (.bool e))(h1:F.put d (some<|.bool true) id=F1)(h2:F.put d (some<|.bool false) id=F2)(kT:e=true->Go P K Q p s n F1 H)(kF:e=false->Go P K Q p s n F2 H):Go P K Q p s n F H:=by
 rw[Fm.put_eq]at h1 h2;subst h1 h2;cases E:e with
 |true=>exact se G (by rw[E];exact bu.rfl)<|kT E
 |false=>exact se G (by rw[E];exact bu.rfl)<|kF E
theorem gT{e:Bool}(d:Nat)(E:F.get d=some (.bool e))(G:e=true)(h1:F.put d (some<|.bool true) id=F1)(k:Go P K Q p s n F1 H):Go P K Q p s n F H:=by rw[Fm.put_eq]at h1;subst h1;exact se E (by rw[G];exact bu.rfl) k
theorem gF{e:Bool}(d:Nat)(E:F.get d=some (.bool e))(G:e=false)(h1:F.put d (some<|.bool false) id=F1)(k:Go P K Q p s n F1 H):Go P K Q p s n F H:=by rw[Fm.put_eq]at h1;subst h1;exact se E (by rw[G];exact bu.rfl) k
theorem gV(d:Nat)(E:V)(G:F.get d=some v)(J:v=E)(h1:F.put d (some E) id=F1)(k:Go P K Q p s n F1 H):Go P K Q p s n F H:=by rw[Fm.put_eq]at h1;subst h1;exact se G (by rw[J];exact bu.rfl) k
theorem am{m:Int}(h:-9223372036854775808<=m∧m<=9223372036854775807)(e:m=l):V.int .i64 (IntKind.i64.wrap m)=.int .i64 l:=by
 subst e;rw[IntWalk.i64_in _<|by omega]
def slT(T:Tab)(t:TypeId):Option (TypeId×Nat):=match T.ty t with
 |some ⟨_,_,_,.sl e⟩=>match T.ty e with
  |some ⟨sz,_,_,_⟩=>some (e,sz)
  |none=>none
 |_=>none
theorem po(hT:TabOk P T)(h:slT T t=some (e,sz)):P.underlying t=some (.slice e)∧dr P e=some sz:=by
 unfold slT at h;split at h
 ·rename_i ht;split at h
  ·rename_i E;simp only[aaa,Prod.mk.injEq]at h;obtain⟨rfl,rfl⟩:=h;exact⟨(hT.ty _ _ ht).sl I,(hT.ty _ _ E).size⟩
  ·cases h
 ·cases h
theorem yIR(hT:TabOk P T)(ht:slT T t=some (e,sz))(hx:aG F x=some (.row sz els))(hy:aG F y=some (.int .i64 (i:Int)))(hi:els[i]?=some v):∀S w ρ a,HRel S w ρ H.get->FRel S w ρ a n F->Yld P S w ρ a ty (.indexAddr t x y) (.box v.cells 0):=λS w ρ a hr hF=>
 p_idxR hF.fr (po hT ht).1 (po hT ht).2 (al hF hx) (al hF hy) hi
theorem yIO(hT:TabOk P T){E:TypeId}{id:Nat}(ht:slT T t=some (e,sz))(hx:aG F x=some (.sl id))(ho:H.get id=.row E sz els)(hy:aG F y=some (.int .i64 (i:Int)))(hi:i<els.length):∀S w ρ a,HRel S w ρ H.get->FRel S w ρ a n F->Yld P S w ρ a ty (.indexAddr t x y) (.el id sz i 0):=λS w ρ a hr hF=>
 p_idxO hr ho hF.fr (po hT ht).1 (po hT ht).2 (al hF hx) (al hF hy) hi
theorem gY(hy:∀S w ρ a,HRel S w ρ H.get->FRel S w ρ a n F->Yld P S w ρ a o.type o.op v)(E:bd F all o.guard=some true)(h1:F.puto o.dst (some v) id=F1)(k:Go P K Q (.ops all rest) s n F1 H):Go P K Q (.ops all<|o::rest) s n F H:=by rw[Fm.puto_eq]at h1;subst h1;exact go_opY E hy k
mutual
def mapV(f:V->V):V->V
 |.agg cs=>.agg<|mapVs f cs
 |.tup cs=>.tup<|mapVs f cs
 |.clo fid cs=>.clo fid<|mapVs f cs
 |.sl j=>f<|.sl j
 |.int k n=>f<|.int k n
 |.bool b=>f<|.bool b
 |.str l=>f<|.str l
 |.nilp=>f .nilp
 |.nils=>f .nils
 |.raw x=>f<|.raw x
 |.ptr i o=>f<|.ptr i o
 |.el i sz j o=>f<|.el i sz j o
 |.box cs o=>f<|.box cs o
 |.row sz els=>f<|.row sz els
 |.lk els=>f<|.lk els
 |.np i=>f<|.np i
 |.mm i k=>f<|.mm i k
def mapVs(f:V->V):List V->List V
 |[]=>[]
 |v::r=>mapV f v::mapVs f r
end
mutual
theorem VRel.mapV{S S':Nat->Prop}{w:World}{ρ:Nat->Option Value}{f:V->V}(hf:∀v x,VRel S w ρ v x->VRel S' w ρ (f v) x):∀{v:V} {x:Value},VRel S w ρ v x->VRel S' w ρ (mapV f v) x
 |.int _ _,x,h=>by simp only[Go.Proofs.YtehhanlhfdoiaaaGreat.mapV];exact hf _ _ h
 |.bool _,x,h=>by simp only[Go.Proofs.YtehhanlhfdoiaaaGreat.mapV];exact hf _ _ h
 |.str _,x,h=>by simp only[Go.Proofs.YtehhanlhfdoiaaaGreat.mapV];exact hf _ _ h
 |.nilp,x,h=>by simp only[Go.Proofs.YtehhanlhfdoiaaaGreat.mapV];exact hf _ _ h
 |.nils,x,h=>by simp only[Go.Proofs.YtehhanlhfdoiaaaGreat.mapV];exact hf _ _ h
 |.raw _,x,h=>by simp only[Go.Proofs.YtehhanlhfdoiaaaGreat.mapV];exact hf _ _ h
 |.box _ _,x,h=>by simp only[Go.Proofs.YtehhanlhfdoiaaaGreat.mapV];exact hf _ _ h
 |.row _ _,x,h=>by simp only[Go.Proofs.YtehhanlhfdoiaaaGreat.mapV];exact hf _ _ h
 |.lk _,x,h=>by simp only[Go.Proofs.YtehhanlhfdoiaaaGreat.mapV];exact hf _ _ h
 |.ptr _ _,x,h=>by simp only[Go.Proofs.YtehhanlhfdoiaaaGreat.mapV];exact hf _ _ h
 |.el _ _ _ _,x,h=>by simp only[Go.Proofs.YtehhanlhfdoiaaaGreat.mapV];exact hf _ _ h
 |.sl j,x,h=>by simp only[Go.Proofs.YtehhanlhfdoiaaaGreat.mapV];exact hf _ _ h
 |.np j,x,h=>by simp only[Go.Proofs.YtehhanlhfdoiaaaGreat.mapV];exact hf _ _ h
 |.mm j k,x,h=>by simp only[Go.Proofs.YtehhanlhfdoiaaaGreat.mapV];exact hf _ _ h
 |.agg cs,x,h=>by simp only[Go.Proofs.YtehhanlhfdoiaaaGreat.mapV,VRel]at h⊢;obtain⟨xs,h1,h2⟩:=h;exact⟨xs,h1,LRel.mapV hf h2⟩
 |.tup cs,x,h=>by simp only[Go.Proofs.YtehhanlhfdoiaaaGreat.mapV,VRel]at h⊢;obtain⟨xs,h1,h2⟩:=h;exact⟨xs,h1,LRel.mapV hf h2⟩
 |.clo fid cs,x,h=>by simp only[Go.Proofs.YtehhanlhfdoiaaaGreat.mapV,VRel]at h⊢;obtain⟨xs,h1,h2⟩:=h;exact⟨xs,h1,LRel.mapV hf h2⟩
theorem LRel.mapV{S S':Nat->Prop}{w:World}{ρ:Nat->Option Value}{f:V->V}(hf:∀v x,VRel S w ρ v x->VRel S' w ρ (f v) x):∀{v:List V} {x:List Value},LRel S w ρ v x->LRel S' w ρ (mapVs f v) x
 |[],x,h=>by simp only[mapVs,LRel]at h⊢;exact h
 |v::r,x,h=>by simp only[mapVs,LRel]at h⊢;obtain⟨y,ys,h1,h2,h3⟩:=h;exact⟨y,ys,h1,VRel.mapV hf h2,LRel.mapV hf h3⟩
end
def pb(f:V->V):Fm->Fm
 |[]=>[]
 |none::r=>none::pb f r
 |some v::r=>some (mapV f v)::pb f r
theorem zR{f:V->V}:∀(F:Fm) (i:Nat),(pb f F).get i=(F.get i).map (mapV f)
 |[],i=>by simp[pb,Fm.get]
 |none::r,0=>by simp[pb,Fm.get]
 |some v::r,0=>by simp[pb,Fm.get]
 |none::r,i+1=>by simp[pb,Fm.get,zR r i]
 |some v::r,i+1=>by simp[pb,Fm.get,zR r i]
theorem Ac{f:V->V}:∀(F:Fm),(pb f F).length=F.length
 |[]=>rfl
 |none::r=>by simp[pb,Ac r]
 |some v::r=>by simp[pb,Ac r]
def oY(f:V->V)(id:Nat):List (Nat×Ob)->List (Nat×Ob)
 |[]=>[]
 |(j,o)::r=>match Nat.beq j id with
  |true=>oY f id r
  |false=>match o with
   |.var t cs=>(j,.var t<|mapVs f cs)::oY f id r
   |o=>(j,o)::oY f id r
theorem yJ{f:V->V}{id i:Nat}:∀{l:List<|Nat×Ob},aA (oY f id l) i=if i=id then .gone else match aA l i with|.var t cs=>.var t (mapVs f cs)|o=>o
 |[]=>by simp[oY,aA]
 | (j,o)::r=>by
  have ih:=yJ (f:=f) (id:=id) (i:=i) (l:=r);simp only[oY];by_cases hj:j=id
  ·subst hj;rw[nbT];simp only[];rw[ih];by_cases hi:i=j
   ·simp[hi]
   ·rw[if_neg hi,if_neg hi];simp only[aA,nbF<|Ne.symm hi]
  ·rw[nbF hj];simp only[];by_cases hi:j=i
   ·subst hi;rw[if_neg hj];cases o<;>simp only[aA,nbT]
   ·have e2:aA ((j,o)::r) i=aA r i:=by simp only[aA,nbF hi]
    rw[e2,<-ih];cases o<;>simp only[aA,nbF hi]
theorem go_frz{f:V->V}{id:Nat}(hid:H.get id≠.free)(hf:∀S w ρ,HRel S w ρ H.get->∀v x,VRel S w ρ v x->VRel (λb=>S b∨own ρ id (H.get id) b) w ρ (f v) x)(h1:pb f F=F1)(h2:(⟨H.nx,oY f id H.es⟩:Hp)=H1)(k:Go P K Q p s n F1 H1):Go P K Q p s n F H:=λS w ρ a hr hi hF=>by
 subst h1 h2;obtain⟨g1,g2⟩:=fE (id:=id) hr;have hlt:id<H.nx:=by
  rcases Nat.lt_or_ge id H.nx with h|h
  ·exact h
  ·exfalso;apply hid;unfold Hp.get;have :Nat.blt id H.nx=false:=by cases hb:Nat.blt id H.nx;rfl;simp[Nat.blt_eq]at hb;omega
   rw[this]
 have Z:∀i,(⟨H.nx,oY f id H.es⟩:Hp).get i=if i=id then .gone else match H.get i with|.var t cs=>.var t (mapVs f cs)|o=>o:=λi=>by
  unfold Hp.get;by_cases hi:i=id
  ·subst hi;simp only[nlT hlt,if_true,yJ]
  ·simp only[if_neg hi];cases hb:Nat.blt i H.nx
   ·rfl
   ·simp only[yJ,if_neg hi]
 have U:∀i,i≠id->own ρ i ((⟨H.nx,oY f id H.es⟩:Hp).get i)=own ρ i (H.get i):=λi E=>by rw[Z i,if_neg E];cases H.get i<;>rfl
 have hhr:HRel (λb=>S b∨own ρ id (H.get id) b) w ρ (⟨H.nx,oY f id H.es⟩:Hp).get:=by
  have J:∀i b,own ρ i ((⟨H.nx,oY f id H.es⟩:Hp).get i) b->i≠id∧own ρ i (H.get i) b:=λi b hb=>by
   by_cases E:i=id
   ·subst E;rw[Z i,if_pos rfl]at hb;exact hb.elim
   ·rw[U i E]at hb;exact⟨E,hb⟩
  refine⟨λi=>?_,λi b hb=>?_,λi j b hbi hbj=>hr.dis i j b (J i b hbi).2 (J j b hbj).2,g1.slt⟩
  ·rw[Z i];by_cases E:i=id
   ·rw[if_pos E];trivial
   ·rw[if_neg E];have G:=g1.ob i;rw[aY _ _ E]at G;have h1:=hr.ob i;cases ho:H.get i with
    |var t cs=>
     rw[ho]at h1;obtain⟨b,xs,q1,q2,q3⟩:=h1;exact⟨b,xs,q1,q2,q3.mapV<|hf S w ρ hr⟩
    |_=>rw[ho]at G;exact G
  ·have :=J i b hb;exact g1.sep i b (by rw[aY _ _ this.1];exact this.2)
 have E:Inv K (λb=>S b∨own ρ id (H.get id) b) w ρ (⟨H.nx,oY f id H.es⟩:Hp).get:=by
  have G:=hi.frz hr id;refine⟨G.chg,G.s0,G.s1,λi b hb=>?_,G.pin⟩;by_cases E:i=id
  ·subst E;rw[Z i,if_pos rfl]at hb;exact hb.elim
  ·rw[U i E]at hb;exact hi.ow i b hb
 have :=k _ w ρ a hhr E ⟨hF.size,hF.defers,λp hp=>(hF.gl p hp).up (fE (id:=id) hr).2.z,by rw[Ac];exact hF.len,λi u hu=>by rw[zR]at hu;obtain⟨v,h3,h4⟩:=Option.map_eq_some_iff.1 hu;obtain⟨x,h5,h6⟩:=hF.get i v h3;exact⟨x,h5,by rw[<-h4];exact h6.mapV (hf S w ρ hr)⟩⟩
 cases p with
 |drw all L m left listed=>exact λhs=>zJ (wY (λb hb=>.inl hb) Agree.refl) (λx _ h=>h) _ _ _ _<|this hs
 |code c=>exact this
 |ops all rest=>exact this
 |ex e=>exact this
def fzR(id sz:Nat)(els:List V):V->V
 |.sl j=>match Nat.beq j id with
  |true=>.row sz els
  |false=>.sl j
 |v=>v
def fzP(id:Nat)(cs:List V):V->V
 |.ptr j o=>match Nat.beq j id with
  |true=>.box cs o
  |false=>.ptr j o
 |v=>v
theorem gFR(id:Nat)(ho:H.get id=.row e sz els)(E:pureL els=true)(h1:pb (fzR id sz els) F=F1)(h2:(⟨H.nx,oY (fzR id sz els) id H.es⟩:Hp)=H1)(k:Go P K Q p s n F1 H1):Go P K Q p s n F H:=
 go_frz (f:=fzR id sz els) (by rw[ho];simp) (λS w ρ hr v x hx=>by
  unfold fzR;split
  ·split
   ·rename_i hb;have :=aaf hb;subst this;exact Bi hr ho E hx
   ·exact hx.up (fE hr).2
  ·exact hx.up (fE hr).2) h1 h2 k
theorem gFP(id:Nat)(ho:H.get id=.var t cs)(E:pureL cs=true)(h1:pb (fzP id cs) F=F1)(h2:(⟨H.nx,oY (fzP id cs) id H.es⟩:Hp)=H1)(k:Go P K Q p s n F1 H1):Go P K Q p s n F H:=
 go_frz (f:=fzP id cs) (by rw[ho];simp) (λS w ρ hr v x hx=>by
  unfold fzP;split
  ·split
   ·rename_i hb;have :=aaf hb;subst this;exact IK hr ho E hx
   ·exact hx.up (fE hr).2
  ·exact hx.up (fE hr).2) h1 h2 k
def mkF:Nat->Nat->List (Nat×V)->Fm
 |0,_,_=>[]
 |n+1,i,[]=>none::mkF n (i+1) []
 |n+1,i,(j,v)::r=>match Nat.beq i j with
  |true=>some v::mkF n (i+1) r
  |false=>none::mkF n (i+1) ((j,v)::r)
end
mutual
def vEq:V->V->Bool
 |.int k n,v=>match v with
  |.int k' n'=>kEq k k'&&iEq n n'
  |_=>false
 |.bool b,v=>match v with
  |.bool c=>b==c
  |_=>false
 |.str l,v=>match v with
  |.str l'=>lEq l l'
  |_=>false
 |.nilp,v=>match v with
  |.nilp=>true
  |_=>false
 |.nils,v=>match v with
  |.nils=>true
  |_=>false
 |.ptr i o,v=>match v with
  |.ptr j p=>Nat.beq i j&&Nat.beq o p
  |_=>false
 |.el i z k o,v=>match v with
  |.el i' z' k' o'=>Nat.beq i i'&&Nat.beq z z'&&Nat.beq k k'&&Nat.beq o o'
  |_=>false
 |.sl i,v=>match v with
  |.sl j=>Nat.beq i j
  |_=>false
 |.mm _ _,_=>false
 |.np i,v=>match v with
  |.np j=>Nat.beq i j
  |_=>false
 |.row z cs,v=>match v with
  |.row z' cs'=>Nat.beq z z'&&vEqL cs cs'
  |_=>false
 |.agg cs,v=>match v with
  |.agg cs'=>vEqL cs cs'
  |_=>false
 |.tup cs,v=>match v with
  |.tup cs'=>vEqL cs cs'
  |_=>false
 |.raw _,_=>false
 |.box _ _,_=>false
 |.clo _ _,_=>false
 |.lk _,_=>false
def vEqL:List V->List V->Bool
 |[],vs=>match vs with
  |[]=>true
  |_::_=>false
 |v::r,vs=>match vs with
  |u::q=>vEq v u&&vEqL r q
  |[]=>false
end
mutual
theorem vEq_eq:∀{v u:V},vEq v u=true->v=u
 | .int k n,u,h=>by
  unfold vEq at h;split at h
  ·rename_i k' n';simp only[aab,yt,aar]at h;obtain⟨h1,h2⟩:=h;have :k=k':=by
    unfold kEq at h1;split at h1<;>first|rfl|cases h1
   rw[this,h2]
  ·cases h
 |.bool b,u,h=>by
  unfold vEq at h;split at h
  ·rw[aar]at h;rw[h]
  ·cases h
 |.str l,u,h=>by
  unfold vEq at h;split at h
  ·rw[vQ,aar]at h;rw[h]
  ·cases h
 |.nilp,u,h=>by
  unfold vEq at h;split at h
  ·rfl
  ·cases h
 |.nils,u,h=>by
  unfold vEq at h;split at h
  ·rfl
  ·cases h
 | .ptr i o,u,h=>by
  unfold vEq at h;split at h
  ·simp only[aab,Nat.beq_eq]at h;obtain⟨rfl,rfl⟩:=h;rfl
  ·cases h
 | .el i z k o,u,h=>by
  unfold vEq at h;split at h
  ·simp only[aab,Nat.beq_eq]at h;obtain⟨⟨⟨rfl,rfl⟩,rfl⟩,rfl⟩:=h;rfl
  ·cases h
 |.sl i,u,h=>by
  unfold vEq at h;split at h
  ·rw[Nat.beq_eq]at h;rw[h]
  ·cases h
 |.mm _ _,u,h=>by unfold vEq at h;cases h
 |.np i,u,h=>by
  unfold vEq at h;split at h
  ·rw[Nat.beq_eq]at h;rw[h]
  ·cases h
 | .row z cs,u,h=>by
  unfold vEq at h;split at h
  ·simp only[aab,Nat.beq_eq]at h;obtain⟨rfl,h2⟩:=h;rw[vEqL_eq h2]
  ·cases h
 |.agg cs,u,h=>by
  unfold vEq at h;split at h
  ·rw[vEqL_eq h]
  ·cases h
 |.tup cs,u,h=>by
  unfold vEq at h;split at h
  ·rw[vEqL_eq h]
  ·cases h
 |.raw _,u,h=>by unfold vEq at h;cases h
 |.box _ _,u,h=>by unfold vEq at h;cases h
 |.clo _ _,u,h=>by unfold vEq at h;cases h
 |.lk _,u,h=>by unfold vEq at h;cases h
theorem vEqL_eq:∀{v u:List V},vEqL v u=true->v=u
 |[],u,h=>by
  unfold vEqL at h;split at h
  ·rfl
  ·cases h
 | v::r,u,h=>by
  unfold vEqL at h;split at h
  ·simp only[aab]at h;rw[vEq_eq h.1,vEqL_eq h.2]
  ·cases h
end
def fmB (σ:List Nat):Fm->Fm->Bool
 |[],F'=>match F' with
  |[]=>true
  |_::_=>false
 |x ::r,F'=>match F' with
  |[]=>false
  |y::r'=>(match y with
   |none=>true
   |some u=>match x with
    |some v=>vEq v<|u.ren σ
    |none=>false)&&fmB σ r r'
theorem LD{σ:YN}:∀{F F':Fm},fmB σ F F'=true->leF σ F F'∧F.length=F'.length
 |[],F',h=>by
  unfold fmB at h;split at h
  ·simp[leF]
  ·cases h
 | x ::r,F',h=>by
  unfold fmB at h;split at h
  ·cases h
  ·rename_i y r';simp only[aab]at h;obtain⟨h1,h2⟩:=h;obtain⟨g1,g2⟩:=LD h2;refine⟨?_,by simp[g2]⟩;cases y with
   |none=>simp only[leF];exact g1
   | some u=>
    simp only at h1;split at h1
    ·rename_i v;simp only[leF];exact⟨⟨v,I,bu.of_eq<|vEq_eq h1⟩,g1⟩
    ·cases h1
theorem aU.of_eq{v u:List V}(h:v=u):aU v u:=h▸aU.rfl
def obB(o:Ob):Ob->Bool
 |.gone=>true
 |.var t cs=>match o with
  |.var t' cs'=>Nat.beq t' t&&vEqL cs' cs
  |_=>false
 |.row e z els=>match o with
  |.row E G els'=>Nat.beq E e&&Nat.beq G z&&vEqL els' els
  |_=>false
 |_=>false
theorem Ry{o:Ob}(h:obB o o'=true):mS o o':=by
 unfold obB at h;split at h
 ·cases o<;>simp[mS]
 ·split at h
  ·simp only[aab,Nat.beq_eq]at h;obtain⟨rfl,h2⟩:=h;exact⟨I,aU.of_eq<|vEqL_eq h2⟩
  ·cases h
 ·split at h
  ·simp only[aab,Nat.beq_eq]at h;obtain⟨⟨rfl,rfl⟩,h2⟩:=h;exact⟨I,I,vEqL_eq h2⟩
  ·cases h
 ·cases h
def hpB(σ:YN)(H:Hp):List (Nat×Ob)->Bool
 |[]=>true
 |(j,o)::r=>(match atN σ j with
  |some i=>obB (H.get i)<|o.ren σ
  |none=>false)&&hpB σ H r
theorem Kk{σ:YN}{H:Hp}:∀{l:List<|Nat×Ob},hpB σ H l=true->leH σ H l
 |[],_=>by simp[leH]
 | (j,o)::r,h=>by
  simp only[hpB,aab]at h;obtain⟨h1,h2⟩:=h;simp only[leH];refine⟨?_,Kk h2⟩;split at h1
  ·rename_i i hi;exact⟨i,hi,Ry h1⟩
  ·cases h1
def Sq(k i:Nat):Nat:=match Nat.beq i k with
 |true=>k+1
 |false=>match Nat.beq i (k+1)with
  |true=>k
  |false=>i
def OI(k:Nat):Nat->YN->YN
 |0,acc=>acc
 |n+1,acc=>fC (Sq k n) λx=>OI k n<|x::acc
def Fx(k:Nat)(F:Fm)(H:Hp)(F':Fm)(H':Hp):Bool:=
 listK (OI k H'.nx []) λσ=>fmB σ F F'&&hpB σ H H'.es&&(ci σ&&Nat.ble σ.length H'.nx&&xt σ (List.range k))
variable{P:Program}
theorem go_alike{K:Ctx}{Q:Exit->Act->World->Prop}{s:List EI}{n:Nat}{F F':Fm}{H':Hp}{e:Exit}{k:Nat}(h:Fx k F H F' H'=true)(hp:∀id x,K.pin id=some x->id<k)(c:Go P K Q (.ex e) s n F' H'):Go P K Q (.ex e) s n F H:=λS w ρ a hr hi hf=>by unfold Fx at h;rw[cW]at h;simp only[aab]at h;obtain⟨⟨h1,h2⟩,⟨E,G⟩,J⟩:=h;obtain⟨g1,g2⟩:=LD h1;refine go_sub _ (List.range k) I (λid x h=>List.mem_range.2 (hp id x h)) g1 (Kk h2) ?_ c S w ρ a hr hi hf;simp only[aab];exact⟨⟨⟨E,G⟩,J⟩,by rw[<-g2];exact Nat.ble_eq_true_of_le hf.len⟩
inductive Rs where
 |ok (e:Bool) (F:Fm) (H:Hp)
 |pt (p:EP) (s:List EI) (F:Fm) (H:Hp)
 |er (n m:Nat)
def QB:V->YN->YN
 |.ptr id _,acc=>id::acc
 |.el id _ _ _,acc=>id::acc
 |.sl id,acc=>id::acc
 |_,acc=>acc
def MR:List V->YN->YN
 |[],acc=>acc
 |v::r,acc=>MR r<|QB v acc
def QO:V->YN->YN
 |.agg cs,acc=>MR cs acc
 |v,acc=>QB v acc
def xe:List V->YN->YN
 |[],acc=>acc
 |.tup vs::r,acc=>xe r<|vs.foldl (λacc v=>QO v acc) acc
 |v::r,acc=>xe r<|QO v acc
def kl(i:Nat):YN->Bool
 |[]=>false
 |j::r=>match Nat.beq i j with
  |true=>true
  |false=>kl i r
def qY(H:Hp):Nat->YN->YN->YN
 |0,_,acc=>acc
 |_+1,[],acc=>acc
 |n+1,id::r,acc=>match kl id acc with
  |true=>qY H n r acc
  |false=>match H.get id with
   |.var _ cs=>qY H n (MR cs r)<|id::acc
   |_=>qY H n r<|id::acc
def zj{α:Type}(R:YN):List (Nat×Ob)->(List (Nat×Ob)->α)->α
 |[],c=>c []
 |(i,o)::r,c=>match kl i R with
  |true=>zj R r λE=>c<|(i,o)::E
  |false=>zj R r c
def xg{α:Type}(nx:Nat)(R:YN):List (Nat×Ob)->(List (Nat×Ob)->α)->α
 |[],c=>c []
 |(i,o)::r,c=>match !kl i R&&Nat.blt i nx with
  |true=>match o with
   |.free=>xg nx R r λE=>c<|(i,.gone)::E
   |o=>xg nx R r λE=>c<|(i,o)::E
  |false=>xg nx R r c
def IZ {α:Type} (lo:Nat) (H:Hp) (v:V) (c:V->Hp->α):α:=match v with
 |.sl id=>match Nat.ble lo id with
  |true=>match H.get id with
   |.row _ sz els=>match pureL els with
    |true=>yr id H.es λes=>c (.row sz els) ⟨H.nx,es⟩
    |false=>c v H
   |_=>c v H
  |false=>c v H
 |_=>c v H
def IT{α:Type}(lo:Nat)(H:Hp):List V->(List V->Hp->α)->α
 |[],c=>c [] H
 |v::r,c=>IZ lo H v λE H'=>IT lo H' r λG H''=>c (E::G) H''
def Nz(lo:Nat)(H:Hp)(v:V)(c:V->Hp->α):α:=match v with
 |.agg cs=>IT lo H cs λcs H'=>c (.agg cs) H'
 |v=>IZ lo H v c
def Ez{α:Type}(lo:Nat)(H:Hp):List V->(List V->Hp->α)->α
 |[],c=>c [] H
 |v::r,c=>Nz lo H v λE H'=>Ez lo H' r λG H''=>c (E::G) H''
def Km(H:Hp):YN->Bool
 |[]=>false
 |i::r=>match H.get i with
  |.row _ _ _=>true
  |_=>Km H r
def Pu(o:Oper):Bool:=match o.op with
 |.store .. =>true
 |_=>false
def RH(o:Oper):Bool:=match o.op with
 |.alloc .. =>false
 |.box .. =>false
 |.store .. =>false
 |.buildSlice .. =>false
 |.makeSlice .. =>false
 |.call ⟨.builtin .len,_,_⟩=>true
 |.call ⟨.builtin .max,_,_⟩=>true
 |.call .. =>false
 |_=>true
def Ik:Nat->List Oper->Nat
 |i,[]=>i
 |i,o::r=>match Pu o with
  |true=>i
  |false=>Ik (i+1) r
def yz (T:Tab) (H:Hp) (all:Array Oper):List Oper->Fm->List Nat->List Nat->List Nat
 |[],_,rd,cl=>rd.filter λi=>!kl i cl
 |o ::r,F,rd,cl=>match bd F all o.guard with
  |some false=>F.puto o.dst (some<|.tup []) λF'=>yz T H all r F' rd cl
  |_ =>match pa T H.get F o.op with
   |some v=>F.puto o.dst (some v) λF'=>yz T H all r F' rd cl
   |none=>match vN F o.op with
    |some id=>match oe T H.get F H.nx o.op with
     |some (v,_)=>F.puto o.dst v λF'=>yz T H all r F' (match kl id rd with|true=>rd|false=>id::rd) cl
     |none=>F.puto o.dst none λF'=>yz T H all r F' rd cl
    |none=>match o.op with
     |.call ⟨.value (.func _),⟨args⟩,_⟩=>match fk F args with
      |some vs=>F.puto o.dst none λF'=>yz T H all r F' rd<|qY H 40 (xe vs []) cl
      |none=>F.puto o.dst none λF'=>yz T H all r F' rd cl
     |_=>F.puto o.dst none λF'=>yz T H all r F' rd cl
def AP (F:Fm) (all:Array Oper) (L:List Nat) (m:Nat) (listed:Array Bool):List Nat->Option Nat
 |[]=>none
 |i ::r=>match all[i]? with
  |some o=>match Nat.beq i m with
   |true=>AP F all L m listed r
   |false=>match RH o with
    |true=>match Region.free .any all listed i with
     |true=>some i
     |false=>AP F all L m listed r
    |false=>AP F all L m listed r
  |none=>none
section
variable(T:Tab)(ih:EP->List EI->Fm->Hp->Rs)
def Jv (keep:Bool) (vs:List V) (fn:Func) (b:Code) (H:Hp) (L:List Nat) (ok:Bool) (c:V->Hp->Rs):Rs:=
 match qY H 40 (xe vs []) []with
 |R => match(cm H.get L&&L.all λi=>!kl i R)||ok with
  |true=>zj R H.es λes1=>match ih (.code b) [] (mN fn.ntmps vs) ⟨H.nx,es1⟩with
   |.ok _ F1 H1=>match sm T H1.get F1 fn.results.toList with
    |some rs=>match Nat.ble H.nx H1.nx with
     |true=>match keep||Km H R with
      |true=>xg H.nx R H.es λes2=>c (nY rs) ⟨H1.nx,H1.es++es2⟩
      |false=>Ez H.nx H1 rs λrs H2=>match qY H2 60 (xe rs R) []with
       |R2=>zj R2 H2.es λes3=>xg H.nx R H.es λes2=>c (nY rs) ⟨H2.nx,es3++es2⟩
     |false=>.er 1 0
    |none=>.er 2 0
   |.er n m=>.er n m
   |.pt .. =>.er 3 0
  |false=>.er 4 0
def xl (F:Fm) (H:Hp) (L:List Nat) (ok:Bool) (o:Oper) (c:Option V->Hp->Rs):Rs:=
 match pa T H.get F o.op with
 |some v=>c (some v) H
 |none =>match fC H.nx λnid=>oe T H.get F nid o.op with
  |some (v,ed)=>match(cm H.get L&&ed.clear L)||ok with
   |true=>H.ap ed λH'=>match v with
    |some v=>c (some v) H'
    |none=>c (some<|.tup []) H'
   |false=>.er 5 0
  |none =>match o.op with
   |.call ⟨.value (.func fid),⟨args⟩,_⟩=>match fk F args with
    |some vs=>match T.nat fid vs with
     |some v=>c (some v) H
     |none=>match T.fn fid with
      |some fn=>match fn.body with
       |some b=>match Nat.ble vs.length fn.ntmps with
        |true=>Jv T ih (T.keep fid) vs fn b H L ok λv H'=>c (some v) H'
        |false=>.er 6 fid
       |none=>.er 7 fid
      |none=>.er 8 fid
    |none=>.er 9 fid
   |_=>.er (10000+o.type) (match o.dst with|some d=>d|none=>999)
def ER(l:YN)(j:Nat):Bool:=match l with
 |[x]=>Nat.beq x j
 |_=>false
def Kf(x y i:Nat):Nat:=match Nat.beq x i with
 |true=>y
 |false=>match Nat.beq y i with
  |true=>x
  |false=>i
def Dv (all:Array Oper) (L:List Nat) (m i:Nat) (o:Oper) (ps:List<|Nat×Operand) (v:V) (s:List EI):Nat->Array Bool->Fm->Hp->Rs
 |left, listed,F,H=>match cm H.get L||(listed.setIfInBounds i true).getD m false with
  |true =>match Region.ready .any all listed with
   |[x]=>match Nat.beq x i with
    |true=>F.puto o.dst (some v) λF'=>ih (.drw all L m left<|listed.setIfInBounds i true) s F' H
    |false=>.er 41 i
   |[x, y]=>match left with
    |0=>.er 42 i
    |left+1=>fC (Kf x y i) λj=>match Nat.beq j i with
     |true=>.er 43 i
     |false=>match all[j]? with
      |some oj=>match ER (Region.ready .any all<|listed.setIfInBounds i true) j&&DD o.dst oj.dst&&wg oj.dst ps&&(match o.dst with|some t=>(F.get t).isNone|none=>true)with
       |true=>match bd F all oj.guard with
        |some true=>xl T ih F H L ((listed.setIfInBounds j true).getD m false&&((listed.setIfInBounds j true).setIfInBounds i true).getD m false) oj λu H'=>F.puto oj.dst u λF'=>Dv all L m i o ps v s left (listed.setIfInBounds j true) F' H'
        |_=>.er 44 i
       |false=>.er 45 i
      |none=>.er 46 i
   |_=>.er 47 i
  |false=>.er 48 i
def wn (T:Tab) (F:Fm) (all:Array Oper):List Nat->Option (Nat×Oper×List (Nat×Operand)×V)
 |[]=>none
 |i ::r=>match all[i]? with
  |some ⟨_,.buildSlice _ _ ⟨ps⟩,_,_,_,none⟩=>match mX F ps with
   |some vs=>match uC T all i vs with
    |some (o,ps',v)=>some (i,o,ps',v)
    |none=>wn T F all r
   |none=>wn T F all r
  |_=>wn T F all r
def Om (all:Array Oper) (L:List Nat) (m left i j:Nat) (listed:Array Bool) (s:List EI) (F:Fm) (H:Hp):Rs:=match all[i]? with
 |some oi=>match all[j]? with
  |some oj=>match bd F all oi.guard with
   |some true=>match bd F all oj.guard with
    |some true=>xl T ih F H L ((listed.setIfInBounds i true).getD m false) oi λui Hi=>F.puto oi.dst ui λFi=>match ih (.drw all L m left<|listed.setIfInBounds i true) [] Fi Hi with
     |.ok false F1 H1=>xl T ih F H L ((listed.setIfInBounds j true).getD m false) oj λuj Hj=>F.puto oj.dst uj λFj=>match ih (.drw all L m left<|listed.setIfInBounds j true) [] Fj Hj with
      |.ok false F2 H2=>match Fx H.nx F2 H2 F1 H1 with
       |true=>ih (.ex .normal) s F1 H1
       |false=>.er 51 i
      |.er a b=>.er a b
      |_=>.er 52 i
     |.er a b=>.er a b
     |_=>.er 53 i
    |_=>.er 54 i
   |_=>.er 55 i
  |none=>.er 56 i
 |none=>.er 57 i
def Kb(c:Code)(s:List EI)(F:Fm)(H:Hp):Rs:=match c with
 |.seq x y=>ih (.code x) (.seq y::s) F H
 |.block id c=>ih (.code c) (.blk id::s) F H
 |.skip=>ih (.ex .normal) s F H
 |.ret=>ih (.ex .ret) s F H
 |.exit id=>ih (.ex<|.exit id) s F H
 |.scope c=>ih (.code c) (.scp::s) F H
 |.label _=>ih (.ex .normal) s F H
 |.loop c=>ih (.code c) (.loop c 1000000::s) F H
 |.cond c x y=>match aG F c with
  |some (.bool true)=>ih (.code x) s F H
  |some (.bool false)=>ih (.code y) s F H
  |_=>.er 11 0
 |.region _ ⟨l⟩ false=>ih (.ops ⟨l⟩ l) s F H
 |.region _ ⟨l⟩ true=>match Region.noSelect ⟨l⟩with
  |true=>listK (yz T H ⟨l⟩ l F [] []) λL=>fC (Ik 0 l) λm=>fC l.length λn=>ih (.drw ⟨l⟩ L m n<|Array.replicate n false) s F H
  |false=>.er 13 0
 |_=>.er 14 0
def EL(all:Array Oper)(rest:List Oper)(s:List EI)(F:Fm)(H:Hp):Rs:=match rest with
 |[]=>ih (.ex .normal) s F H
 |o::r=>match bd F all o.guard with
  |some false=>F.puto o.dst (some<|.tup []) λF'=>ih (.ops all r) s F' H
  |some true=>xl T ih F H [] true o λv H'=>F.puto o.dst v λF'=>ih (.ops all r) s F' H'
  |none=>.er 15 0
def Kc(e:Exit)(s:List EI)(F:Fm)(H:Hp):Rs:=match s with
 |[]=>match e with
  |.normal=>.ok false F H
  |.ret=>.ok true F H
  |_=>.er 16 0
 |.seq c::s=>match e with
  |.normal=>ih (.code c) s F H
  |.exit i=>ih (.ex<|.exit i) s F H
  |.ret=>ih (.ex .ret) s F H
  |_=>.er 17 0
 |.loop c j::s=>match e with
  |.normal=>match j with
   |0=>.er 18 0
   |j+1=>ih (.code c) (.loop c j::s) F H
  |.exit i=>ih (.ex<|.exit i) s F H
  |.ret=>ih (.ex .ret) s F H
  |_=>.er 19 0
 |.scp::s=>match e with
  |.normal=>ih (.ex .normal) s F H
  |.exit i=>ih (.ex<|.exit i) s F H
  |.ret=>ih (.ex .ret) s F H
  |_=>.er 20 0
 |.blk id::s=>match e with
  |.normal=>ih (.ex .normal) s F H
  |.exit i=>match Nat.beq i id with
   |true=>ih (.ex .normal) s F H
   |false=>ih (.ex<|.exit i) s F H
  |.ret=>ih (.ex .ret) s F H
  |_=>.er 21 0
def IX (all:Array Oper) (L:List Nat) (m left:Nat) (listed:Array Bool) (s:List EI) (F:Fm) (H:Hp):Rs:=match Region.ready .any all listed with
 |[]=>ih (.ex .normal) s F H
 |i :: R =>match left with
  |0=>.er 22 0
  |left + 1=>match R with
   |[]=>match all[i]? with
    |some o=>match bd F all o.guard with
     |some false=>F.puto o.dst (some<|.tup []) λF'=>ih (.drw all L m left<|listed.setIfInBounds i true) s F' H
     |some true=>xl T ih F H L ((listed.setIfInBounds i true).getD m false) o λv H'=>F.puto o.dst v λF'=>ih (.drw all L m left<|listed.setIfInBounds i true) s F' H'
     |none=>.er (6000+all.size) i
    |none=>.er 24 0
   |_ => match AP F all L m listed (i::R)with
    |some i=>match all[i]? with
     |some o=>match(Region.ready .any all listed).contains i&&Region.free .any all listed i&&!Nat.beq i m with
      |true=>match bd F all o.guard with
       |some false=>F.puto o.dst (some<|.tup []) λF'=>ih (.drw all L m left<|listed.setIfInBounds i true) s F' H
       |some true=>match pa T H.get F o.op with
        |some v=>F.puto o.dst (some v) λF'=>ih (.drw all L m left<|listed.setIfInBounds i true) s F' H
        |none=>match vN F o.op with
         |some id=>match L.contains id&&zf .any all m i&&!listed.getD m false with
          |true=>match oe T H.get F H.nx o.op with
           |some (some v,_)=>F.puto o.dst (some v) λF'=>ih (.drw all L m left<|listed.setIfInBounds i true) s F' H
           |_=>.er (4000+all.size) i
          |false=>.er (2000+all.size) i
         |none=>.er (3000+all.size) i
       |none=>.er (5000+all.size) i
      |false=>.er 29 i
     |none=>.er 30 i
    |none=>match wn T F all (i::R)with
     |some (i,o,ps,v)=>F.puto o.dst none λF'=>Dv T ih all L m i o ps v s left listed F' H
     |none=>match R with
      |[j]=>Om T ih all L m left i j listed s F H
      |_=>.er (1000+all.size) i
def KS(p:EP)(s:List EI)(F:Fm)(H:Hp):Rs:=match p with
 |.code c=>Kb T ih c s F H
 |.ops all rest=>EL T ih all rest s F H
 |.ex e=>Kc ih e s F H
 |.drw all L m left listed=>IX T ih all L m left listed s F H
end
def run(T:Tab):Nat->EP->List EI->Fm->Hp->Rs
 |0,p,s,F,H=>.pt p s F H
 |k+1,p,s,F,H=>KS T (run T k) p s F H
set_option maxRecDepth 100000
def tyL:List (Nat×TD):=[
 (3,⟨1,8,.int .i64 0,.sc⟩),
 (26,⟨4,72,.agg [.int .i64 0,.str [],.nils,.nils],.struct [(0,1,true),(1,1,true),(2,1,true),(3,1,true)]⟩),
 (9,⟨1,16,.str [],.str⟩),
 (22,⟨1,24,.nils,.sl 26⟩),
 (24,⟨1,24,.nils,.sl 9⟩),
 (36,⟨1,24,.nils,.sl 3⟩),
 (42,⟨4,40,.agg [.int .i64 0,.bool false,.str [],.int .i64 0],.struct [(0,1,true),(1,1,true),(2,1,true),(3,1,true)]⟩),
 (162,⟨1,24,.nils,.sl 165⟩),
 (5,⟨1,1,.int .u8 0,.sc⟩),
 (44,⟨6,56,.agg [.int .i64 0,.int .i64 0,.int .i64 0,.bool false,.str [],.int .i64 0],.struct [(0,1,true),(1,1,true),(2,4,false)]⟩),
 (89,⟨1,8,.nilp,.sc⟩),
 (28,⟨1,24,.nils,.sl 44⟩),
 (30,⟨1,24,.agg [.nils],.struct [(0,1,true)]⟩),
 (93,⟨3,40,.agg [.int .i64 0,.str [],.str []],.struct [(0,1,true),(1,1,true),(2,1,true)]⟩),
 (184,⟨1,8,.nilp,.sc⟩),
 (216,⟨4,32,.agg [.int .i64 0,.int .i64 0,.int .i64 0,.int .i64 0],.struct [(0,1,true),(1,1,true),(2,1,true),(3,1,true)]⟩),
 (75,⟨1,8,.nilp,.sc⟩),
 (165,⟨2,32,.agg [.str [],.str []],.struct [(0,1,true),(1,1,true)]⟩),
 (59,⟨1,24,.nils,.sl 98⟩),
 (31,⟨1,8,.int .i64 0,.sc⟩),
 (86,⟨1,24,.nils,.sl 93⟩),
 (66,⟨1,24,.nils,.sl 36⟩),
 (98,⟨7,112,.agg [.int .i64 0,.str [],.nils,.nils,.int .i64 0,.int .i64 0,.nils],.struct [(0,4,false),(4,1,true),(5,1,true),(6,1,true)]⟩),
 (58,⟨5,104,.agg [.int .i64 0,.nils,.nils,.nils,.nils],.struct [(0,1,true),(1,1,true),(2,1,true),(3,1,true),(4,1,true)]⟩),
 (55,⟨1,24,.nils,.sl 59⟩),
 (91,⟨5,56,.agg [.nils,.int .i64 0,.int .i64 0,.int .i64 0,.int .i64 0],.struct [(0,1,true),(1,1,true),(2,1,true),(3,1,true),(4,1,true)]⟩),
 (148,⟨3,72,.agg [.nils,.nils,.nils],.struct [(0,1,true),(1,1,true),(2,1,true)]⟩),
 (145,⟨1,24,.nils,.sl 189⟩),
 (150,⟨4,80,.agg [.nils,.int .i64 0,.nils,.nils],.struct [(0,1,true),(1,1,true),(2,1,true),(3,1,true)]⟩),
 (111,⟨5,56,.agg [.int .i64 0,.nils,.int .i64 0,.int .i64 0,.bool false],.struct [(0,2,false),(2,1,true),(3,1,true),(4,1,true)]⟩),
 (56,⟨1,24,.nils,.sl 61⟩),
 (54,⟨1,8,.nilp,.sc⟩),
 (4,⟨1,1,.bool false,.bool⟩),
 (142,⟨3,48,.agg [.nilp,.nils,.str []],.struct [(0,2,false),(2,1,true)]⟩),
 (99,⟨1,24,.nils,.sl 102⟩),
 (102,⟨3,56,.agg [.nils,.nils,.bool false],.struct [(0,1,true),(1,1,true),(2,1,true)]⟩),
 (105,⟨2,16,.agg [.int .i64 0,.int .i64 0],.struct [(0,1,true),(1,1,true)]⟩),
 (106,⟨1,24,.nils,.sl 111⟩),
 (109,⟨2,32,.agg [.int .i64 0,.nils],.struct [(0,1,true),(1,1,true)]⟩),
 (119,⟨2,32,.agg [.nils,.int .i64 0],.struct [(0,1,true),(1,1,true)]⟩),
 (61,⟨1,8,.raw<|.map none,.sc⟩),
 (189,⟨2,40,.agg [.str [],.nils],.struct [(0,1,true),(1,1,true)]⟩),
 (140,⟨2,32,.agg [.nilp,.nils],.struct [(0,1,true),(1,1,true)]⟩),
 (115,⟨1,24,.nils,.sl 5⟩),
 (82,⟨1,8,.raw<|.map none,.sc⟩),
 (79,⟨1,8,.raw<|.map none,.sc⟩),
 (190,⟨1,8,.nilp,.sc⟩),
 (193,⟨1,8,.nilp,.sc⟩)]
def qF{α:Type}:List (Nat×α)->Nat->Option α
 |[],_=>none
 |(i,x)::r,j=>match Nat.beq i j with
  |true=>some x
  |false=>qF r j
def tyB(P:Program):List (Nat×TD)->Bool
 |[]=>true
 |(t,d)::r=>tdB P t d&&tyB P r
theorem KK{P:Program}:∀{l:List<|Nat×TD},tyB P l=true->∀t d,qF l t=some d->TdOk P t d
 |[],_,t,d,h=>by cases h
 | (i,x)::r,hb,t,d,h=>by
  simp only[tyB,aab]at hb;simp only[qF]at h;split at h
  ·rename_i e;have :=aaf e;subst this;injection h with h;subst h
   exact QA hb.1
  ·exact KK hb.2 t d h
theorem Lb:∀t d,qF tyL t=some d->TdOk prog t d:=KK (by kernel_rfl)
noncomputable def fnL:List (Nat×Func):=[(19,f19),(45,f45),(46,f46),(47,f47),(80,f80),(81,f81),(82,f82),(83,f83),(84,f84),(85,f85),(86,f86),(87,f87),(88,f88),(129,Tryz.f129),(130,f130),(131,f131),(132,f132),(133,f133),(135,f135),(136,f136),(137,f137),(138,f138),(172,f172),(173,f173),(174,f174),(175,f175),(140,f140),(177,f177),(196,f196),(197,f197),(212,f212),(213,f213)]
def fnB(P:Program):List (Nat×Func)->Prop
 |[]=>True
 |(i,f)::r=>(P.funcs[i]?=some f∧bZ P i=true)∧fnB P r
theorem Lh{P:Program}:∀{l:List<|Nat×Func},fnB P l->∀i f,qF l i=some f->P.funcs[i]?=some f∧bZ P i=true
 |[],_,i,f,h=>by cases h
 | (j,x)::r,hb,i,f,h=>by
  simp only[qF]at h;split at h
  ·rename_i e;have :=aaf e;subst this;injection h with h;subst h
   exact hb.1
  ·exact Lh hb.2 i f h
theorem RI:∀i f,qF fnL i=some f->prog.funcs[i]?=some f∧bZ prog i=true:=Lh ⟨⟨func19,by kernel_rfl⟩,⟨func45,by kernel_rfl⟩,⟨func46,by kernel_rfl⟩,⟨func47,by kernel_rfl⟩,⟨func80,by kernel_rfl⟩,⟨func81,by kernel_rfl⟩,⟨func82,by kernel_rfl⟩,⟨func83,by kernel_rfl⟩,⟨func84,by kernel_rfl⟩,⟨func85,by kernel_rfl⟩,⟨func86,by kernel_rfl⟩,⟨func87,by kernel_rfl⟩,⟨func88,by kernel_rfl⟩,⟨func129,by kernel_rfl⟩,⟨func130,by kernel_rfl⟩,⟨func131,by kernel_rfl⟩,⟨func132,by kernel_rfl⟩,⟨func133,by kernel_rfl⟩,⟨func135,by kernel_rfl⟩,⟨func136,by kernel_rfl⟩,⟨func137,by kernel_rfl⟩,⟨func138,by kernel_rfl⟩,⟨func172,by kernel_rfl⟩,⟨func173,by kernel_rfl⟩,⟨func174,by kernel_rfl⟩,⟨func175,by kernel_rfl⟩,⟨func140,by kernel_rfl⟩,⟨func177,by kernel_rfl⟩,⟨func196,by kernel_rfl⟩,⟨func197,by kernel_rfl⟩,⟨func212,by kernel_rfl⟩,⟨func213,by kernel_rfl⟩,trivial⟩
open Go.RowKit Lx Sx
def Cp:Tab:=⟨false,qF tyL,λ_=>none,λ_ _=>none,λ_=>false⟩
theorem ac:TabOk prog Cp:=⟨Lb,(λ_ _ h=>by cases h),(λ_ _ _ h=>by cases h)⟩
mutual
def treeV:Tree->V
 |.node k s ls ks=>.agg [.int .i64 k,.str s,.row 1<|ls.map .str,.row 4<|kidsV ks]
def kidsV:YT->List V
 |[]=>[]
 |t::r=>treeV t::kidsV r
end
abbrev an(t:Tree):List V:=[.int .i64 t.kind,.str t.text,.row 1 (t.leads.map .str),.row 4 (kidsV t.kids)]
abbrev wA(t:Tree):V:=.agg (an t)
theorem jZ(t:Tree):treeV t=wA t:=by cases t;simp[treeV,Tree.kind,Tree.text,Tree.leads,Tree.kids]
theorem jV:∀(ks:YT),(kidsV ks).length=ks.length
 |[]=>rfl
 |t::r=>by simp[kidsV,jV r]
theorem aB:∀{ks:YT} {i:Nat} {u:Tree},ks[i]?=some u->(kidsV ks)[i]?=some (wA u)
 |[],i,u,h=>by simp at h
 |t::r,0,u,h=>by simp only[List.getElem?_cons_zero,aaa]at h;subst h;simp[kidsV,jZ]
 |t::r,i+1,u,h=>by simp only[List.getElem?_cons_succ]at h;simpa[kidsV]using aB h
theorem jW:∀(a b:YT),kidsV (a++b)=kidsV a++kidsV b
 |[],b=>rfl
 |t::r,b=>by simp[kidsV,jW r b]
theorem Jf(t:Tree):(wA t).pure=true:=rfl
theorem Ba:∀(ks:YT),pureL (kidsV ks)=true
 |[]=>rfl
 |t::r=>by simp only[kidsV,pureL,jZ,Jf,Ba r]
def si(P:Program)(fid:FuncId)(us:List V)(v:V):Prop:=pureL us=true∧v.pure=true∧Sum P fid us ⟨0,[]⟩ (λu _=>u=v)
theorem ut(i:Nat):(⟨0,[]⟩:Hp).get i=.free:=by
 unfold Hp.get;have :Nat.blt i 0=false:=by cases i<;>rfl
 simp only[this]
theorem Dz{K:Ctx}(Z:si P fid us v)(hs:aU vs us)(L:YN)(hL:cm H.get L=true):CallR P K fid vs H L (λv' H''=>v'=v∧H''=H):=λS w ρ xs hr hi hx=>by
 obtain⟨h1,h2,h3⟩:=Z;have hr0:HRel S w ρ0 (⟨0,[]⟩:Hp).get:=⟨λi=>by rw[ut];rfl,λi b hb=>by rw[ut]at hb;exact hb.elim,λi j b hb _=>by rw[ut]at hb;exact hb.elim,hr.slt⟩;refine(h3 S w ρ0 xs hr0<|(hs.rel hx).pure h1).mono λe w' hR=>?_;obtain⟨x,S',ρ',u,H',rfl,rfl,hr',E,hv⟩:=hR;have G:∀b,¬∃id,own ρ0 id ((⟨0,[]⟩:Hp).get id) b:=λb ⟨id,hb⟩=>by rw[ut]at hb;exact hb
 have U:Chg [] w w':=⟨E.chg.os,E.chg.tape,E.chg.output,E.chg.size,λb hb _=>E.chg.block b hb<|G b⟩;have up:Up S S' w w' ρ ρ:=⟨E.s0,λb hb hlt=>U.block b hlt (by simp),λ_ _ h=>h⟩;have J:∀b,S' b->S b∨w.heap.size<=b:=λb hb=>by
  rcases E.s1 b hb with h|h|h
  ·exact .inl h
  ·exact absurd h<|G b
  ·exact .inr h
 refine⟨x,S',ρ,u,H,rfl,⟨rfl,rfl⟩,⟨λi=>(hr.ob i).up up (λhf=>?_) (λb hb=>U.block b (cY (hr.ob i) hb)<|by simp),λi b hb=>?_,hr.dis,hr'.slt⟩,⟨hi.chg.trans (ChgP.of U) (λb hb=>by simp at hb),λb hb=>E.s0 b<|hi.s0 b hb,λb hb=>?_,hi.ow,hi.pin⟩,up,hv.pure h2,λid hid y b hy hb=>?_⟩
 ·have :=hr.ob i;rw[hf]at this;exact this
 ·intro Z;rcases J b Z with h|h
  ·exact hr.sep i b hb h
  ·have :=cY (hr.ob i) hb;omega
 ·rcases J b hb with h|h
  ·exact hi.s1 b h
  ·exact .inr<|.inr<|aao hi.chg.size h
 ·exact U.block b (cY (hr.ob id)<|lG hr hL id hid y b hy hb) (by simp)
theorem eP[BEq α][LawfulBEq α]{a b:α}(h:(a !=b)=false):a=b:=by simpa using h
variable{args:List Operand}{g:Option (Nat×Bool)}
section
variable{K:Ctx}{Q:Exit->Act->World->Prop}{p p':EP}{s s':List EI}{n:Nat}{F F' F1 F2:Fm}{H H' H1:Hp}{all:Array Oper}{rest:List Oper}{o:Oper}
theorem gR(k:Nat)(h:fU Cp k p s F H=some (p',s',F',H'))(kk:Go prog K Q p' s' n F' H'):Go prog K Q p s n F H:=dq ac k p s F H h kk
theorem gC{tys:Array TypeId}{d:Option Tmp}{ty:TypeId}{ps:String}{af:Array Edge}(E:cb PL prog fid us H0 Post)(σ:YN)(G:bZ prog fid=true)(J:bd F all g=some true)(hv:fk F args=some vs)(hs:aU vs<|renL σ us)(hH:leH σ H H0.es)(U:(ci σ&&Nat.beq σ.length H0.nx&&σ.all λi=>Nat.blt i H.nx)=true)
  (k:∀v H',Post v H'->Go prog K Q (.ops all rest) s n (F.seto d<|some<|v.ren<|sgN PL H.nx H0.get H'.nx σ 0) (lN PL H σ H0 H')):Go prog K Q (.ops all<|⟨d,.call {callee:=.value<|.func fid,args:=args.toArray,argTypes:=tys},ty,ps,af,g⟩::rest) s n F H:=
 go_opC (o:=⟨d,.call {callee:=.value<|.func fid,args:=args.toArray,argTypes:=tys},ty,ps,af,g⟩) G rfl J hv (tj E σ hs hH U []<|by simp[cm]) λv' H'' ⟨v,H',Z,e1,e2⟩=>by subst e1 e2;exact k v H' Z
theorem gC0{tys:Array TypeId}{ty:TypeId}{ps:String}{af:Array Edge}(E:si prog fid us v)(G:bZ prog fid=true)(J:bd F all g=some true)(hv:fk F args=some vs)(hs:aU vs us)(h1:F.puto d (some v) id=F1)
  (k:Go prog K Q (.ops all rest) s n F1 H):Go prog K Q (.ops all<|⟨d,.call {callee:=.value<|.func fid,args:=args.toArray,argTypes:=tys},ty,ps,af,g⟩::rest) s n F H:=by
 rw[Fm.puto_eq]at h1;subst h1;exact go_opC (o:=⟨d,.call {callee:=.value<|.func fid,args:=args.toArray,argTypes:=tys},ty,ps,af,g⟩) G rfl J hv (Dz E hs [] rfl) λv' H'' ⟨U,Z⟩=>by subst U Z;exact k
def slB(T:Tab)(t:TypeId):Option (TypeId×Nat×Nat):=match T.ty t with
 |some ⟨_,_,_,.sl e⟩=>match T.ty e with
  |some ⟨sz,by_,_,_⟩=>match Nat.blt 0 sz&&Nat.ble by_ 100000 with
   |true=>some (e,sz,by_)
   |false=>none
  |none=>none
 |_=>none
theorem EJ{T:Tab}(hT:TabOk P T){by_:Nat}(h:slB T t=some (e,sz,by_)):P.underlying t=some (.slice e)∧0<sz∧by_<=100000∧∃z:Value,(P.info? e).map (λi=>(i.zero,i.size,i.bytes))=some (some z,sz,by_)∧z.cells.size=sz:=by
 unfold slB at h;split at h
 ·rename_i ht;split at h
  ·rename_i E;split at h
   ·rename_i hb;simp only[aaa,Prod.mk.injEq]at h;obtain⟨rfl,rfl,rfl⟩:=h;simp only[aab,Nat.blt_eq,Nat.ble_eq]at hb;obtain⟨z,h1,_,G,_⟩:=(hT.ty _ _ E).info;exact⟨(hT.ty _ _ ht).sl I,hb.1,hb.2,z,h1,G⟩
   ·cases h
  ·cases h
 ·cases h
theorem dAp{T:Tab}(hT:TabOk P T){by_ id:Nat}{news:List V}{ty:TypeId}(ht:slB T t=some (e,sz,by_))(hx:aG F x=some (.sl id))(ho:H.get id=.row e sz els)(hy:aG F y=some v)(hs:zM H.get sz v=some news)(hb:els.length+news.length<=1000000000):
  ∀S w ρ a,HRel S w ρ H.get->FRel S w ρ a n F->Does P S w ρ H.get a ty (.call {callee:=.builtin .append,args:=#[x,y],argTypes:=#[t,t]}) (some<|.sl H.nx) ((ED.repl id<|.row e sz<|els++news).app H.get H.nx) (ED.repl id<|.row e sz<|els++news).tch:=λS w ρ a hr hF=>by
 obtain⟨h1,h2,E,z,G,J⟩:=EJ hT ht;obtain⟨u,g1,g2⟩:=ze hr hF hy hs;exact DW hr hF.fr H.get_free g1 g2 h1 G J h2 (al hF hx) ho (by simp only[maxLen];omega) (aao (Nat.mul_le_mul hb E)<|by decide)
variable{L:YN}{m fuel c:Nat}{listed:Array Bool}
theorem gDs{id:Nat}{l:List Oper}(L:YN)(m sz:Nat)(hsz:l.length=sz)(E:prog.follows .mixedOrders=true)(hs:Region.noSelect l.toArray=true)(k:Go prog K Q (.drw l.toArray L m sz<|Array.replicate sz false) s n F H):Go prog K Q (.code<|.region id l.toArray true) s n F H:=Is L m sz hsz E hs k
theorem gDr(is:List<|Nat×Nat)(E:EX all m is listed=true)(hl:is.length=c)(hr:oX Cp all L is F H=some (F',H'))(k:Go prog K Q (.drw all L m fuel<|JX is listed) s n F' H'):Go prog K Q (.drw all L m (fuel+c) listed) s n F H:=by subst hl;exact oo ac is fuel listed F H E hr k
theorem gDe(E:Region.ready .any all listed=[])(k:Go prog K Q (.ex .normal) s n F H):Go prog K Q (.drw all L m fuel listed) s n F H:=FB E k
theorem bM{args:List Operand}{tys:Array TypeId}{vs:List V}{ty:TypeId}{ps:String}{af:Array Edge}{g:Option<|Nat×Bool}(i:Nat)(G:si prog fid us v)(J:bZ prog fid=true)(hi:all[i]?=some ⟨d,.call {callee:=.value<|.func fid,args:=args.toArray,argTypes:=tys},ty,ps,af,g⟩)(E:Region.ready .any all listed=[i])(U:bd F all g=some true)(hv:fk F args=some vs)(hs:aU vs us)(Z:cm H.get L=true)(h1:F.puto d (some v) id=F1)
  (k:Go prog K Q (.drw all L m fuel<|listed.setIfInBounds i true) s n F1 H):Go prog K Q (.drw all L m (fuel+1) listed) s n F H:=by
 rw[Fm.puto_eq]at h1;subst h1;exact go_d1C J E hi rfl U hv (Dz G hs L Z) (.inl rfl) λv' H'' ⟨e1,e2⟩=>by subst e1 e2;exact k
theorem gDC{args:List Operand}{tys:Array TypeId}{vs:List V}{ty:TypeId}{ps:String}{af:Array Edge}{g:Option<|Nat×Bool}(i:Nat)(G:cb PL prog fid us H0 Post)(σ:YN)(J:bZ prog fid=true)(hi:all[i]?=some ⟨d,.call {callee:=.value<|.func fid,args:=args.toArray,argTypes:=tys},ty,ps,af,g⟩)(E:Region.ready .any all listed=[i])(U:bd F all g=some true)(hv:fk F args=some vs)(hs:aU vs<|renL σ us)(hH:leH σ H H0.es)(Z:(ci σ&&Nat.beq σ.length H0.nx&&σ.all λi=>Nat.blt i H.nx)=true)(hL:(cm H.get L&&L.all λi=>!σ.contains i)=true)
  (k:∀v H',Post v H'->Go prog K Q (.drw all L m fuel<|listed.setIfInBounds i true) s n (F.seto d<|some<|v.ren<|sgN PL H.nx H0.get H'.nx σ 0) (lN PL H σ H0 H')):Go prog K Q (.drw all L m (fuel+1) listed) s n F H:=
 go_d1C J E hi rfl U hv (tj G σ hs hH Z L hL) (.inl rfl) λv' H'' ⟨v,H',hP,e1,e2⟩=>by subst e1 e2;exact k v H' hP
end
def ab(f:Func):Code:=match f.body with
 |some c=>c
 |none=>.skip
def cA:Code->Code
 |.seq x _=>x
 |c=>c
def cB:Code->Code
 |.seq _ y=>y
 |c=>c
def cK:Code->Code
 |.block _ c=>c
 |c=>c
def cL:Code->Code
 |.loop c=>c
 |c=>c
def cT:Code->Code
 |.cond _ x _=>x
 |c=>c
def cE:Code->Code
 |.cond _ _ y=>y
 |c=>c
theorem apM(f:α->V)(l:List α)(x:α):List.map f l++[f x]=List.map f (l++[x]):=by simp
theorem BJ(l:YT):l.map wA=kidsV l:=by
 induction l with
 |nil=>rfl
 |cons t r ih=>simp[kidsV,jZ,ih]
theorem qt(x:Tree):[wA x]=kidsV [x]:=by simp[kidsV,jZ]
theorem un:∀(l:YT),kidsV l=l.map wA
 |[]=>rfl
 |t::r=>by simp[kidsV,jZ,un r]
theorem av{f:α->V}{l:List α}{x:α}(h:l[i]?=some x):(List.map f l)[i]?=some (f x):=by simp[h]
theorem aO(l:YT):(kidsV l).length=l.length:=jV l
theorem az(f:α->V)(l:List α):(List.map f l).length=l.length:=aam ..
theorem aN{n:Nat}{m:Nat}(h:n=m):V.int .i64 (n:Int)=.int .i64 (m:Int):=by rw[h]
theorem NX:∀(l:YT) (i:Nat) (x:Tree),(kidsV l).set i (wA x)=kidsV (l.set i x)
 |[],i,x=>rfl
 |t::r,0,x=>by simp[kidsV,jZ]
 |t::r,i+1,x=>by simp[kidsV,NX r i x]
theorem sF(f:α->V)(l:List α)(i:Nat)(x:α):(List.map f l).set i (f x)=List.map f (l.set i x):=by simp
theorem DE(f:α->V)(l:List α)(i:Nat):(List.map f l).take i=List.map f (l.take i):=by simp
theorem Tu(l:YT)(i j:Nat):((kidsV l).drop i).take j=kidsV ((l.drop i).take j):=by simp[un,List.map_drop,List.map_take]
theorem Co(σ:YN):∀(l:YT),renL σ (kidsV l)=kidsV l
 |[]=>rfl
 |t::r=>by simp only[kidsV,renL,Co σ r];rw[jZ];rfl
theorem dH{α:Type}(σ:YN)(f:α->V)(hf:∀x,(f x).ren σ=f x):∀(l:List α),renL σ (List.map f l)=List.map f l
 |[]=>rfl
 |x::r=>by simp only[aah,renL,hf,dH σ f hf r]
theorem dJ(l:YT):pureL (kidsV l)=true:=Ba l
theorem eG{α:Type}(f:α->V)(hf:∀x,(f x).pure=true):∀(l:List α),pureL (List.map f l)=true
 |[]=>rfl
 |x::r=>by simp only[aah,pureL,hf,eG f hf r]
theorem bz{e:Bool}(h:(!e)=true):e=false:=by simpa using h
theorem bx{e:Bool}(h:(!e)=false):e=true:=by simpa using h
theorem ig[BEq α][LawfulBEq α]{a b:α}(h:(a !=b)=true):a≠b:=by simpa using h
theorem bQ{a:Nat}(h:decide ((a:Int)<(b:Int))=true):a<b:=by have :=of_decide_eq_true h;omega
theorem bS{a:Nat}(h:decide ((a:Int)<(b:Int))=false):¬a<b:=by have :=of_decide_eq_false h;omega
theorem Tv{a:Nat}(h:((a:Int)==(b:Int))=true):a=b:=by have :=eq_of_beq h;omega
theorem Tf{a:Nat}(h:((a:Int)==(b:Int))=false):a≠b:=by have :=ne_of_beq_false h;omega
theorem bc{n m:Int}(h:n=m):V.int .i64 n=.int .i64 m:=by rw[h]
abbrev InI(x:Int):Prop:=-9223372036854775808<=x∧x<=9223372036854775807
variable{N:Nat}
variable{els':List V}
variable{u:TypeId}
section
variable{P:Program}{T:Tab}{K:Ctx}{Q:Exit->Act->World->Prop}{p p':EP}{s s':List EI}{n:Nat}{F F' F1 F2:Fm}{H H' H1:Hp}{all:Array Oper}{rest:List Oper}{o:Oper}{L:YN}{m fuel:Nat}{listed:Array Bool}
theorem gS(d:Nat)(E:V)(G:F.get d=some v)(hs:bu v E)(h1:F.put d (some E) id=F1)(k:Go P K Q p s n F1 H):Go P K Q p s n F H:=by rw[Fm.put_eq]at h1;subst h1;exact se G hs k
theorem Ae{id:Nat}{o:Ob}(ho:h id=o):bi h id o=h:=by
 funext i
 by_cases hi:i=id
 ·subst hi;rw[aP,ho]
 ·rw[aY _ _ hi]
theorem gHR(id:Nat)(els':List V)(ho:H.get id=.row e sz els)(G:els=els')(h2:H.ap (.set id<|.row e sz els') _root_.id=H1)(k:Go P K Q p s n F H1):Go P K Q p s n F H:=by
 subst G;rw[Hp.ap_eq]at h2;subst h2;have E:(H.app<|.set id<|.row e sz els).get=H.get:=by
  rw[Hp.get_app<|by exact⟨by rw[ho];simp,by rw[ho];simp⟩];exact Ae ho
 intro S w ρ a hr hi hF;exact k S w ρ a (by rw[id_eq,E];exact hr) (by rw[id_eq,E];exact hi) hF
theorem CRel.sub{w:World}:∀{vs us:List V} {xs:List Value},aU vs us->CRel S w ρ sz vs xs->CRel S w ρ sz us xs
 |[],us,xs,h,hl=>by simp only[aU]at h;subst h;exact hl
 |v::r,us,xs,h,hl=>by simp only[aU]at h;obtain⟨u,q,rfl,h1,h2⟩:=h;simp only[CRel]at hl⊢;obtain⟨x,ys,rfl,E,G,J⟩:=hl;exact⟨x,ys,I,E,h1 _ _ _ _ G,J.sub h2⟩
theorem aU.len:∀{vs us:List V},aU vs us->us.length=vs.length
 |[],us,h=>by simp only[aU]at h;subst h;rfl
 |v::r,us,h=>by simp only[aU]at h;obtain⟨u,q,rfl,_,h2⟩:=h;simp[h2.len]
theorem aU.rep{a b:V}(h:bu a b):∀n,aU (List.replicate n a) (List.replicate n b)
 |0=>aU.nil
 |n+1=>aU.cons h<|aU.rep h n
theorem gHW(id:Nat)(els':List V)(hp:p.still=true)(ho:H.get id=.row e sz els)(J:aU els els')(h2:H.ap (.set id<|.row e sz els') _root_.id=H1)(k:Go P K Q p s n F H1):Go P K Q p s n F H:=by
 rw[Hp.ap_eq]at h2;subst h2;have U:(H.app<|.set id<|.row e sz els').get=bi H.get id (.row e sz els'):=Hp.get_app (by exact⟨by rw[ho];simp,by rw[ho];simp⟩);intro S w ρ a hr hi hF;have E:∀i b,own ρ i (bi H.get id (.row e sz els') i) b↔own ρ i (H.get i) b:=λi b=>by
  by_cases hi:i=id
  ·subst hi;rw[aP,ho];rfl
  ·rw[aY _ _ hi]
 refine k S w ρ a ?_ ?_ hF
 ·rw[id_eq,U];refine⟨λi=>?_,λi b hb=>hr.sep i b<|(E i b).1 hb,λi j b h1 h2=>hr.dis i j b ((E i b).1 h1)<|(E j b).1 h2,hr.slt⟩;by_cases G:i=id
  ·subst G;rw[aP];obtain⟨v,xs,h1,h2,Z⟩:=jp hr ho;exact⟨v,xs,h1,by rw[J.len];exact h2,Z.sub J⟩
  ·rw[aY _ _ G];exact hr.ob i
 ·rw[id_eq,U];exact⟨hi.chg,hi.s0,hi.s1,λi b hb=>hi.ow i b<|(E i b).1 hb,hi.pin⟩
def DB(PL:YN):List (Nat×Ob)->YN->Bool
 |[],_=>true
 |(i,o)::r,pv=>(!iH PL i o||pv.contains i)&&DB PL r pv
theorem EW{PL:YN}:∀{es:List<|Nat×Ob} {pv:YN},DB PL es pv=true->∀i,iH PL i (aA es i)=true->i∈pv
 |[],pv,h,i,hi=>by simp[aA,iH]at hi
 | (j,o)::r,pv,h,i,hi=>by
  simp only[DB,aab,Bool.or_eq_true,Bool.not_eq_true']at h;simp only[aA]at hi;split at hi
  ·rename_i e;have :=aaf e;subst this;rcases h.1 with h1|h1
   ·rw[h1]at hi;cases hi
   ·simpa using h1
  ·exact EW h.2 i hi
theorem Sf{nx:Nat}{es:List<|Nat×Ob}{pv:YN}(h:DB PL es pv=true):∀i,iH PL i ((⟨nx,es⟩:Hp).get i)=true->i∈pv:=λi hi=>by
 unfold Hp.get at hi;split at hi
 ·exact EW h i hi
 ·simp[iH]at hi
def pr(ids:YN):List (Nat×Ob)->List (Nat×Ob)
 |[]=>[]
 |(j,o)::r=>match ids.contains j with
  |true=>pr ids r
  |false=>(j,o)::pr ids r
theorem AI{ids:YN}{i:Nat}:∀{l:List<|Nat×Ob},aA (pr ids l) i=aA l i∨aA (pr ids l) i=.gone
 |[]=>.inl rfl
 | (j, o)::r=>by
  have ih:=AI (ids:=ids) (i:=i) (l:=r);simp only[pr];split
  ·rename_i hc;by_cases hj:j=i
   ·subst hj;refine .inr ?_;have :∀l:List<|Nat×Ob,aA (pr ids l) j=.gone:=λl=>by
     induction l with
     |nil=>rfl
     | cons p q ihq=>
      obtain⟨k,o'⟩:=p;simp only[pr];split
      ·exact ihq
      ·rename_i hk;have hne:k≠j:=λe=>by subst e;rw[hc]at hk;cases hk
       simp only[aA,nbF hne];exact ihq
    exact this r
   ·simp only[aA,nbF hj];exact ih
  ·simp only[aA];split
   ·exact .inl I
   ·exact ih
theorem Pv{rs:List ResultVar}{e:Exit}(ids:YN)(hT:TabOk P T)(E:fn.results=rs.toArray)(hv:sm T H.get F rs=some vs)(J:Post (nY vs) ⟨H.nx,pr ids H.es⟩)(U:e=.ret∨e=.normal:=by first|exact .inl rfl|exact .inr rfl):Go P K (bodyPost P fn<|SP K Post) (.ex e) [] n F H:=λS w ρ a hr hi hF=>by
 have G:∀i,(⟨H.nx,pr ids H.es⟩:Hp).get i=H.get i∨(⟨H.nx,pr ids H.es⟩:Hp).get i=.gone:=λi=>by
  unfold Hp.get;cases hb:Nat.blt i H.nx
  ·exact .inl I
  ·exact AI
 exact ret_go hT U E hr hF hv λx hx=>⟨x,S,ρ,_,_,I,J,hr.drop G,hi.drop G,hx⟩
theorem gJ(k:Go P K Q p s n F' H')(σ pv:YN)(hp:p.still=true)(E:au K pv)(hF:leF σ F F')(hH:leH σ H H'.es)(G:(ci σ&&Nat.ble σ.length H'.nx&&xt σ pv&&Nat.ble F'.length n)=true):Go P K Q p s n F H:=go_sub σ pv hp E hF hH G k
theorem BC{w:World}{nid:Nat}(e:TypeId)(sz:Nat)(hr:HRel S w ρ h)(hf:h nid=.free):Eff S w w ρ (cj ρ nid<|.slice none 0 0) h (bi h nid<|.row e sz []) (λ_=>False):=
 eff_new hr hf (Chg.refl _ _) ⟨_,[],aV _ _ _,⟨by simp,.inl ⟨rfl,rfl⟩⟩,by simp[CRel]⟩ (λb hb=>by obtain⟨v,h1,h2⟩:=hb;rw[aV]at h1;cases h1;cases h2)
theorem gNS(d:Nat)(e:TypeId)(sz:Nat)(hp:p.still=true)(hd:F.get d=some .nils)(h1:F.put d (some<|.sl H.nx) id=F1)(h2:H.ap (.new<|.row e sz []) id=H1)(k:Go P K Q p s n F1 H1):Go P K Q p s n F H:=by
 rw[Fm.put_eq]at h1;rw[Hp.ap_eq]at h2;subst h1 h2;intro S w ρ a hr hi hF;have J:=BC e sz hr H.get_free;have U:(H.app (.new (.row e sz []))).get=bi H.get H.nx (.row e sz []):=Hp.get_app trivial;have :=k S w (cj ρ H.nx (.slice none 0 0)) a (by rw[id_eq,U];exact J.hr) (by rw[id_eq,U];exact hi.eff J) (by
  have G:=hF.up J.up;refine⟨G.size,G.defers,G.gl,by simpa using G.len,λi u E=>?_⟩;rw[id_eq,Fm.get_eq,List.getElem?_set]at E;split at E
  ·rename_i e1;subst e1;split at E
   ·simp only[Option.bind_some,id_eq,aaa]at E;subst E;obtain⟨x,h3,Z⟩:=hF.get d _ hd;simp only[VRel]at Z;subst Z;exact⟨_,h3,by simp only[VRel];exact⟨aV _ _ _,rfl⟩⟩
   ·cases E
  ·exact G.get i u (by rw[Fm.get_eq];exact E))
 cases p with
 |drw all L m left listed=>cases hp
 |code c=>exact this
 |ops all rest=>exact this
 |ex e=>exact this
theorem gNC(id o:Nat)(e:TypeId)(sz:Nat)(hp:p.still=true)(ho:H.get id=.var t cs)(hc:cs[o]?=some .nils)(h2:(H.ap (.new<|.row e sz []) λH1=>H1.ap (.set id<|.var t<|cs.set o<|.sl H.nx) _root_.id)=H1)(k:Go P K Q p s n F H1):Go P K Q p s n F H:=by
 rw[Hp.ap_eq,Hp.ap_eq]at h2;subst h2;intro S w ρ a hr hi hF;have Z:=BC e sz hr H.get_free;have hg:(H.app<|.new<|.row e sz []).get=bi H.get H.nx (.row e sz []):=Hp.get_app trivial;have hne:id≠H.nx:=λe1=>by subst e1;rw[H.get_free]at ho;cases ho
 have E:(H.app<|.new<|.row e sz []).get id=.var t cs:=by rw[hg,aY _ _ hne,ho]
 have J:((H.app<|.new<|.row e sz []).app<|.set id<|.var t<|cs.set o<|.sl H.nx).get=bi (H.app<|.new<|.row e sz []).get id (.var t<|cs.set o<|.sl H.nx):=Hp.get_app (by exact⟨by rw[E];simp,by rw[E];simp⟩);have h1:HRel S w (cj ρ H.nx<|.slice none 0 0) (H.app<|.new<|.row e sz []).get:=by rw[hg];exact Z.hr
 have h2:Inv K S w (cj ρ H.nx<|.slice none 0 0) (H.app<|.new<|.row e sz []).get:=by rw[hg];exact hi.eff Z
 have G:∀i b,own (cj ρ H.nx<|.slice none 0 0) i (bi (H.app<|.new<|.row e sz []).get id (.var t<|cs.set o<|.sl H.nx) i) b↔own (cj ρ H.nx<|.slice none 0 0) i ((H.app<|.new<|.row e sz []).get i) b:=λi b=>by
  by_cases hi:i=id
  ·subst hi;rw[aP,E];rfl
  ·rw[aY _ _ hi]
 have :=k S w (cj ρ H.nx (.slice none 0 0)) a (by
  rw[id_eq,J];refine⟨λi=>?_,λi b hb=>h1.sep i b<|(G i b).1 hb,λi j b q1 q2=>h1.dis i j b ((G i b).1 q1)<|(G j b).1 q2,h1.slt⟩;by_cases U:i=id
  ·subst U;rw[aP];obtain⟨b,xs,q1,q2,q3⟩:=qP h1 E;obtain⟨x,q4,q5⟩:=q3.get hc;simp only[VRel]at q5;subst q5;refine⟨b,xs,q1,q2,?_⟩;have :=q3.set (i:=o) (v:=.sl H.nx) (x:=.slice none 0 0) (by simp only[VRel];exact⟨aV _ _ _,rfl⟩);have e2:xs.set o (.slice none 0 0)=xs:=by
    obtain⟨hl,q6⟩:=List.getElem?_eq_some_iff.1 q4;rw[<-q6];exact List.set_getElem_self ..
   rw[e2]at this;exact this
  ·rw[aY _ _ U];exact h1.ob i) (by
  rw[id_eq,J];exact⟨h2.chg,h2.s0,h2.s1,λi b hb=>h2.ow i b ((G i b).1 hb),h2.pin⟩) (hF.up Z.up)
 cases p with
 |drw all L m left listed=>cases hp
 |code c=>exact this
 |ops all rest=>exact this
 |ex e=>exact this
theorem gLB(d:Nat)(E:F.get d=some (.row sz els))(hn:els.length=N)(k:N<=9223372036854775807->Go P K Q p s n F H):Go P K Q p s n F H:=λS w ρ a hr hi hF=>by obtain⟨x,h1,h2⟩:=hF.get d _ E;simp only[VRel]at h2;obtain⟨A,c,xs,rfl,J,G,_⟩:=h2;exact k (by simp only[maxLen]at G;omega) S w ρ a hr hi hF
theorem gLO(id:Nat)(ho:H.get id=.row e sz els)(hn:els.length=N)(k:N<=9223372036854775807->Go P K Q p s n F H):Go P K Q p s n F H:=λS w ρ a hr hi hF=>by
 obtain⟨v,xs,h1,h2,G⟩:=jp hr ho;refine k ?_ S w ρ a hr hi hF;rcases h2.2 with⟨_,h⟩|⟨g,cap,cur,_,_,_,J,E,_⟩
 ·omega
 ·simp only[maxLen]at E;omega
theorem Rt(hT:TabOk P T)(ht:(match T.ty t with|some ⟨_,_,_,.str⟩=>true|_=>false)=true):P.underlying t=some .string:=by
 split at ht
 ·rename_i h;exact(hT.ty _ _ h).str rfl
 ·cases ht
theorem yIS(hT:TabOk P T){l:YB}{c:UInt8}(ht:(match T.ty t with|some ⟨_,_,_,.str⟩=>true|_=>false)=true)(hx:aG F x=some (.str l))(hy:aG F y=some (.int .i64 (i:Int)))(hi:l[i]?=some c):∀S w ρ a,HRel S w ρ H.get->FRel S w ρ a n F->Yld P S w ρ a ty (.index t x y) (.int .u8 (c.toNat:Int)):=λS w ρ a hr hF=>
 p_idxS hF.fr (Rt hT ht) (al hF hx) (al hF hy) hi
def ws(F:Fm)(y:Option Operand)(i:Nat)(dflt:Nat):Prop:=(y=none∧i=dflt)∨∃z,y=some z∧aG F z=some (.int .i64 (i:Int))
theorem NS:ws F none i i:=.inl ⟨rfl,rfl⟩
theorem MH{z:Operand}{d:Nat}(h:aG F z=some (.int .i64 (i:Int))):ws F (some z) i d:=.inr ⟨z,rfl,h⟩
theorem Bf{w:World}(hF:FRel S w ρ a n F){y:Option Operand}{d:Nat}(h:ws F y i d):(y=none∧i=d)∨∃z,y=some z∧Opd S w ρ a z (.int .i64 (i:Int)):=h.imp _root_.id λ⟨z,e,h⟩=>⟨z,e,al hF h⟩
theorem ySS(hT:TabOk P T){lo hi:Option Operand}{l r:YB}(ht:(match T.ty t with|some ⟨_,_,_,.str⟩=>true|_=>false)=true)(hx:aG F x=some (.str l))(E:ws F lo i 0)(G:ws F hi j l.length)(J:i<=j)(U:j<=l.length)(Z:(l.drop i).take (j-i)=r):∀S w ρ a,HRel S w ρ H.get->FRel S w ρ a n F->Yld P S w ρ a ty (.slice t x lo hi none) (.str r):=λS w ρ a hr hF=>by subst Z;exact On hF.fr (Rt hT ht) (al hF hx) (Bf hF E) (Bf hF G) J U
theorem ySR(hT:TabOk P T){lo hi:Option Operand}(ht:slT T t=some (e,sz))(hx:aG F x=some (.row sz els))(E:ws F lo i 0)(G:ws F hi j els.length)(J:i<=j)(U:j<=els.length)(Z:(els.drop i).take (j-i)=els'):∀S w ρ a,HRel S w ρ H.get->FRel S w ρ a n F->Yld P S w ρ a ty (.slice t x lo hi none) (.row sz els'):=λS w ρ a hr hF=>by subst Z;exact Ov hF.fr (po hT ht).1 (po hT ht).2 (al hF hx) (Bf hF E) (Bf hF G) J U
theorem Tp{lo hi:Option Operand}(hn:els.length=N)(hT:TabOk P T)(ht:slT T t=some (e,sz))(hx:aG F x=some (.row sz els))(E:ws F lo i 0)(G:ws F hi j N)(J:i<=j)(U:j<=N)(Z:(els.drop i).take (j-i)=els'):∀S w ρ a,HRel S w ρ H.get->FRel S w ρ a n F->Yld P S w ρ a ty (.slice t x lo hi none) (.row sz els'):=by subst hn;exact ySR hT ht hx E G J U Z
theorem MN(l:List α)(i:Nat):(l.drop i).take (l.length-i)=l.drop i:=by
 rw[List.take_of_length_le<|by simp]
theorem FX(l:List α)(j:Nat):(l.drop 0).take (j-0)=l.take j:=by simp
theorem ax(hi:els[i]?=some v)(hT:TabOk P T)(ht:slT T t=some (e,sz))(hx:aG F x=some (.row sz els))(hy:aG F y=some (.int .i64 (i:Int)))(E:v.cells=cs):∀S w ρ a,HRel S w ρ H.get->FRel S w ρ a n F->Yld P S w ρ a ty (.indexAddr t x y) (.box cs 0):=by subst E;exact yIR hT ht hx hy hi
theorem OZ{f:Nat->Option Value}{w:World}{m:Int}(h:Fr a n f)(hx:aD f x=some (.int .i64 m))(hy:aD f y=some (.int .i64 l))(hl:l≠0):Runs P a ty (.binOp .rem t x y u) w (.value<|.int .i64<|Int.tmod m l) w:=λ_ _ _ _=>by simp only[execOp,h.eval hx,h.eval hy];simp[go_sem,eqGuard,Op.intDiv,hl]
theorem PV{f:Nat->Option Value}{w:World}{m:Int}(h:Fr a n f)(hx:aD f x=some (.int .i64 m))(hy:aD f y=some (.int .i64 l))(hl:l≠0)(hb:InI<|Int.tdiv m l):Runs P a ty (.binOp .quo t x y u) w (.value<|.int .i64<|Int.tdiv m l) w:=λ_ _ _ _=>by have e:IntKind.i64.wrap (Int.tdiv m l)=Int.tdiv m l:=IntWalk.i64_in _ (by omega);simp only[execOp,h.eval hx,h.eval hy];simp[go_sem,eqGuard,Op.intDiv,hl,e]
theorem PF{f:Nat->Option Value}{w:World}{m:Int}(h:Fr a n f)(hx:aD f x=some (.int .i64 m))(hy:aD f y=some (.int .i64 l))(hb:InI<|m*l):Runs P a ty (.binOp .mul t x y u) w (.value<|.int .i64<|m*l) w:=λ_ _ _ _=>by have e:IntKind.i64.wrap (m*l)=m*l:=IntWalk.i64_in _ (by omega);simp only[execOp,h.eval hx,h.eval hy];simp[go_sem,eqGuard,e]
theorem Qh{f:Nat->Option Value}{w:World}{m l:YB}(h:Fr a n f)(hx:aD f x=some (.string ⟨m.toArray⟩))(hy:aD f y=some (.string ⟨l.toArray⟩))(hb:m.length+l.length<=9223372036854775807):Runs P a ty (.binOp .add t x y u) w (.value<|.string ⟨(m++l).toArray⟩) w:=λ_ _ _ _=>by simp only[execOp,h.eval hx,h.eval hy];simp[go_sem,eqGuard,show¬9223372036854775807<m.length+l.length by omega];rfl
theorem AF{w:World}(d:Nat)(A:Option Addr)(k c:Nat)(ht:P.underlying t=some (.slice e)):(Op.equalIn (d+1) t (.slice A k c)<|.slice none 0 0).run P w=.ok A.isNone w:=by cases A<;>simp[Op.equalIn,run_underlying ht]
theorem Dn{w:World}(A:Option Addr)(k c:Nat)(ht:P.underlying t=some (.slice e)):(Op.equal t (.slice A k c)<|.slice none 0 0).run P w=.ok A.isNone w:=AF 9999 A k c ht
theorem RU{f:Nat->Option Value}{w:World}{A:Option Addr}{k c:Nat}(h:Fr a n f)(ht:P.underlying t=some (.slice e))(hx:aD f x=some (.slice A k c)):Runs P a ty (.binOp .eql t x (.const<|.slice none 0 0) u) w (.value<|.bool A.isNone) w:=λ_ _ _ _=>by
 have hb:(binOp .eql t (.slice A k c)<|.slice none 0 0).run P w=.ok (.bool A.isNone) w:=by simp only[binOp];simp[Dn A k c ht]
 simp only[execOp,h.eval hx];simp[go_sem,eqGuard,hb]
def NI(h:Nat->Ob):V->Bool
 |.row _ _=>true
 |.sl i=>match h i with|.row _ _ _=>true|_=>false
 |.nils=>true
 |_=>false
def NZ(h:Nat->Ob):V->Nat
 |.row _ els=>els.length
 |.sl i=>match h i with|.row _ _ els=>els.length|_=>0
 |_=>0
theorem Pi{w:World}{x:Value}(hr:HRel S w ρ h)(hs:NI h v=true)(hx:VRel S w ρ v x):∃A k c,x=.slice A k c∧(A.isNone=true->NZ h v=0):=by
 unfold NI at hs;split at hs
 ·simp only[VRel]at hx;obtain⟨A,c,xs,rfl,_,_,_,G⟩:=hx;refine⟨_,_,_,I,λE=>?_⟩;refine Nat.eq_zero_of_not_pos λJ=>?_;obtain⟨b,off,rfl,_⟩:=G.2 J;cases E
 ·split at hs
  ·rename_i ho;obtain⟨v,xs,h1,h2,_⟩:=jp hr ho;simp only[VRel]at hx;rw[h1]at hx;obtain⟨e,_⟩:=hx;injection e with e;subst e
   rcases h2.2 with⟨rfl,U⟩|⟨_,_,_,rfl,_⟩
   ·exact⟨_,_,_,rfl,λ_=>by simp only[NZ,ho];exact U⟩
   ·exact⟨_,_,_,rfl,λE=>by cases E⟩
  ·cases hs
 ·simp only[VRel]at hx;subst hx;exact⟨_,_,_,rfl,λ_=>rfl⟩
 ·cases hs
theorem OF{ps:String}{af:Array Edge}(hT:TabOk P T)(E:bd F all g=some true)(ht:slT T t=some (e,sz))(hx:aG F x=some v)(hv:NI H.get v=true)(hN:NZ H.get v=N)(k:∀b:Bool,(b=true->N=0)->Go P K Q (.ops all rest) s n (F.seto d<|some<|.bool b) H):Go P K Q (.ops all<|⟨d,.binOp .eql t x (.const<|.slice none 0 0) u,ty,ps,af,g⟩::rest) s n F H:=λS w ρ a hr hi hF=>by
 show wpList P all (dI P Q s) (⟨d,.binOp .eql t x (.const<|.slice none 0 0) u,ty,ps,af,g⟩::rest) a w;unfold wpList;rw[if_pos<|cg hF E];refine .inl ?_;obtain⟨y,h1,h2⟩:=al hF hx;obtain⟨A,kk,c,rfl,hl⟩:=Pi hr hv h2;have :=RU (P:=P) (w:=w) (ty:=ty) (u:=u) hF.fr (po hT ht).1 h1;unfold Oper.wp;rw[this d ps af g];exact k A.isNone (λhb=>by subst hN;exact hl<|by simpa using hb) S w ρ _ hr hi (cI hF d<|by simp only[VRel])
theorem Qx{m:Int}(hx:aG F x=some (.int .i64 m))(hy:aG F y=some (.int .i64 l))(hl:l≠0):∀S w ρ a,HRel S w ρ H.get->FRel S w ρ a n F->Yld P S w ρ a ty (.binOp .rem t x y u) (.int .i64<|Int.tmod m l):=λS w ρ a hr hF=>⟨_,by simp only[VRel],λw' _=>OZ hF.fr (aW<|al hF hx) (aW<|al hF hy) hl⟩
theorem RY{m:Int}(hx:aG F x=some (.int .i64 m))(hy:aG F y=some (.int .i64 l))(hl:l≠0)(hb:InI<|Int.tdiv m l):∀S w ρ a,HRel S w ρ H.get->FRel S w ρ a n F->Yld P S w ρ a ty (.binOp .quo t x y u) (.int .i64<|Int.tdiv m l):=λS w ρ a hr hF=>⟨_,by simp only[VRel],λw' _=>PV hF.fr (aW<|al hF hx) (aW<|al hF hy) hl hb⟩
theorem Tq{m:Int}(hx:aG F x=some (.int .i64 m))(hy:aG F y=some (.int .i64 l))(hb:InI<|m*l):∀S w ρ a,HRel S w ρ H.get->FRel S w ρ a n F->Yld P S w ρ a ty (.binOp .mul t x y u) (.int .i64<|m*l):=λS w ρ a hr hF=>⟨_,by simp only[VRel],λw' _=>PF hF.fr (aW<|al hF hx) (aW<|al hF hy) hb⟩
theorem wG{m l:YB}(hx:aG F x=some (.str m))(hy:aG F y=some (.str l))(hb:m.length+l.length<=9223372036854775807):∀S w ρ a,HRel S w ρ H.get->FRel S w ρ a n F->Yld P S w ρ a ty (.binOp .add t x y u) (.str<|m++l):=λS w ρ a hr hF=>⟨_,by simp only[VRel],λw' _=>Qh hF.fr (jO<|al hF hx) (jO<|al hF hy) hb⟩
theorem CV{G:Hp}(J:cb PL P fid us H0 λu G'=>u=v∧G'=G)(σ:YN)(hv:aU vs<|renL σ us)(hH:leH σ H H0.es)(U:(ci σ&&Nat.beq σ.length H0.nx&&σ.all λi=>Nat.blt i H.nx)=true)(L:YN)(Z:(cm H.get L&&L.all λi=>!σ.contains i)=true):
  CallR P K fid vs H L (λE H''=>E=v.ren (sgN PL H.nx H0.get G.nx σ 0)∧H''=lN PL H σ H0 G):=λS w ρ xs hr hi hx=>
 (tj J σ hv hH U L Z S w ρ xs hr hi hx).mono λe w' hh=>by obtain⟨x,S',ρ',E,H',h1,⟨u,G',⟨q1,q2⟩,e1,e2⟩,h3⟩:=hh;subst q1 q2;exact⟨x,S',ρ',E,H',h1,⟨e1,e2⟩,h3⟩
theorem CU{o:Oper}{L:YN}{ok:Bool}{v:Option V}(ed:ED)(Z:∀S w ρ a,HRel S w ρ H.get->FRel S w ρ a n F->Does P S w ρ H.get a o.type o.op v (ed.app H.get H.nx) ed.tch)(hl:ed.ok H.get)(hc:((cm H.get L&&ed.clear L)||ok)=true):rQ P K o L ok n F H (v.getD<|.tup []) (H.app ed):=λS w ρ a hr hi hF Q' K2 k=>by
 obtain⟨nx,w',ρ',h1,h2,U⟩:=Z S w ρ a hr hF;have E:=h2.hr;have G:=hi.eff h2;rw[<-Hp.get_app hl]at E G;have J:Ls ρ L w w'∨ok=true:=(wB hc).imp (λh=>by simp only[aab]at h;exact AG hr h2 h.1 h.2) _root_.id
 have kk:=λx hx=>k x S w' ρ' E G h2.up (oT hr h2) J hx;obtain⟨d,op,ty,ps,af,g⟩:=o;unfold Oper.wp;rw[h1 d ps af g];cases v with
 |none=>
  subst U;exact kk undef xm
 |some v=>
  obtain⟨x,rfl,h4⟩:=U;exact kk x h4
theorem KI{L:YN}(i:Nat)(e:TypeId)(sz:Nat)(hv:vs[i]?=some .nils)(k:CallR P K fid (vs.set i<|.sl H.nx) (H.app<|.new<|.row e sz []) L Post):CallR P K fid vs H L Post:=λS w ρ xs hr hi hx=>by
 have E:=BC e sz hr H.get_free;have U:(H.app<|.new<|.row e sz []).get=bi H.get H.nx (.row e sz []):=Hp.get_app trivial;have G:LRel S w (cj ρ H.nx<|.slice none 0 0) (vs.set i<|.sl H.nx) xs:=by
  obtain⟨x,h1,h2⟩:=hx.get hv;simp only[VRel]at h2;subst h2;have :=(hx.up E.up).set (i:=i) (v:=.sl H.nx) (x:=.slice none 0 0) (by simp only[VRel];exact⟨aV _ _ _,rfl⟩);have Z:xs.set i (.slice none 0 0)=xs:=by obtain⟨hl,q6⟩:=List.getElem?_eq_some_iff.1 h1;rw[<-q6];exact List.set_getElem_self ..
  rw[Z]at this;exact this
 refine(k S w (cj ρ H.nx<|.slice none 0 0) xs (by rw[U];exact E.hr) (by rw[U];exact hi.eff E) G).mono λe w' hh=>?_;obtain⟨x,S',ρ',v,H',h1,h2,h3,h4,J,h6,h7⟩:=hh;exact⟨x,S',ρ',v,H',h1,h2,h3,h4,⟨J.s,J.blk,λi y h=>J.r i y<|E.up.r i y h⟩,h6,λid hid y b hy hb=>h7 id hid y b (E.up.r _ _ hy) hb⟩
theorem yMF{caps:List Operand}(hv:fk F caps=some vs):∀S w ρ a,HRel S w ρ H.get->FRel S w ρ a n F->Yld P S w ρ a ty (.makeFunc (.func fid) #[] caps.toArray) (.clo fid vs):=λS w ρ a hr hF=>by
 obtain⟨xs,h1,h2⟩:=qh hF hv;refine⟨.func (.func fid) #[] xs.toArray,by simp only[VRel];exact⟨xs,rfl,h2⟩,λw' _=>λ_ _ _ _=>?_⟩;have e:caps.toArray.map a.eval=xs.toArray:=by rw[<-hF.fr.vals h1];simp
 simp only[execOp,e];simp[Instr.makeFunc]
theorem Tr{t:Tmp}{tys:Array TypeId}{caps:List V}{ty:TypeId}{ps:String}{af:Array Edge}(Z:si P fid us v)(he:bZ P fid=true)(hw:bd F all g=some true)(hf:aG F (.tmp t)=some (.clo fid caps))(hv:fk F args=some vs)(hs:aU (vs++caps) us)(h1:F.puto d (some v) id=F1)
  (k:Go P K Q (.ops all rest) s n F1 H):Go P K Q (.ops all<|⟨d,.call {callee:=.value<|.tmp t,args:=args.toArray,argTypes:=tys},ty,ps,af,g⟩::rest) s n F H:=λS w ρ a hr hi hF=>by
 rw[Fm.puto_eq]at h1;subst h1;show wpList P all (dI P Q s) (⟨d,.call {callee:=.value<|.tmp t,args:=args.toArray,argTypes:=tys},ty,ps,af,g⟩::rest) a w;unfold wpList;rw[if_pos<|cg hF hw];refine .inl ?_;obtain⟨xs,h1,h2⟩:=qh hF hv;obtain⟨y,h3,U⟩:=al hF hf;simp only[VRel]at U;obtain⟨ys,rfl,h5⟩:=U;have hc:=Dz (K:=K) (H:=H) Z hs [] rfl S w ρ (xs++ys) hr hi<|h2.append h5;have hx:(execOp a.eval ⟨d,.call {callee:=.value<|.tmp t,args:=args.toArray,argTypes:=tys},ty,ps,af,g⟩).run P w=.ok (.enter fid (xs++ys).toArray) w:=by
  have e:args.toArray.map a.eval=xs.toArray:=by rw[<-hF.fr.vals h1];simp
  have e2:a.eval (.tmp t)=.func (.func fid) #[] ys.toArray:=hF.fr.eval h3;simp only[execOp,resolve,e,e2];simp[Deferred.ofValue,invoke,lx he]
 unfold Oper.wp;rw[hx,Oper.upon_enter];refine hc.mono λe w1 hR=>?_;obtain⟨x,S',ρ',v',H',rfl,⟨rfl,rfl⟩,E,G,hu,J,_⟩:=hR;exact k S' w1 ρ' _ E G<|cI (hF.up hu) d J
theorem gYd(i:Nat)(hi:all[i]?=some o)(E:(!Nat.beq i m&&Region.free .any all listed i&&(Region.ready .any all listed).contains i)=true)(hy:∀S w ρ a,HRel S w ρ H.get->FRel S w ρ a n F->Yld P S w ρ a o.type o.op v)(G:bd F all o.guard=some true)(h1:F.puto o.dst (some v) id=F1)(k:Go P K Q (.drw all L m fuel<|listed.setIfInBounds i true) s n F1 H):Go P K Q (.drw all L m (fuel+1) listed) s n F H:=by rw[Fm.puto_eq]at h1;subst h1;simp only[aab,Bool.not_eq_true']at E;exact Oy E.1.1 hi E.1.2 E.2 G hy k
theorem fB(i:Nat)(hi:all[i]?=some o)(E:Region.ready .any all listed=[i])(hy:∀S w ρ a,HRel S w ρ H.get->FRel S w ρ a n F->Yld P S w ρ a o.type o.op v)(G:bd F all o.guard=some true)(h1:F.puto o.dst (some v) id=F1)(k:Go P K Q (.drw all L m fuel<|listed.setIfInBounds i true) s n F1 H):Go P K Q (.drw all L m (fuel+1) listed) s n F H:=by rw[Fm.puto_eq]at h1;subst h1;exact Mg E hi G hy k
theorem gDo{v:Option V}(ed:ED)(E:∀S w ρ a,HRel S w ρ H.get->FRel S w ρ a n F->Does P S w ρ H.get a o.type o.op v (ed.app H.get H.nx) ed.tch)(hl:ed.ok H.get)(G:bd F all o.guard=some true)(h1:F.puto o.dst (Ft v) id=F1)(h2:H.ap ed id=H1)(k:Go P K Q (.ops all rest) s n F1 H1):Go P K Q (.ops all<|o::rest) s n F H:=by rw[Fm.puto_eq]at h1;rw[Hp.ap_eq]at h2;subst h1 h2;exact go_opD G E hl k
theorem bW{v:Option V}(i:Nat)(ed:ED)(hi:all[i]?=some o)(E:Region.ready .any all listed=[i])(G:∀S w ρ a,HRel S w ρ H.get->FRel S w ρ a n F->Does P S w ρ H.get a o.type o.op v (ed.app H.get H.nx) ed.tch)(hl:ed.ok H.get)(J:bd F all o.guard=some true)(U:((cm H.get L&&ed.clear L)||(listed.setIfInBounds i true).getD m false)=true)(h1:F.puto o.dst (Ft v) id=F1)(h2:H.ap ed id=H1)(k:Go P K Q (.drw all L m fuel<|listed.setIfInBounds i true) s n F1 H1):Go P K Q (.drw all L m (fuel+1) listed) s n F H:=by rw[Fm.puto_eq]at h1;rw[Hp.ap_eq]at h2;subst h1 h2;exact Fz E hi J G hl U k
theorem bq{by_ id:Nat}{news:List V}{ty:TypeId}(hT:TabOk P T)(ht:slB T t=some (e,sz,by_))(hx:aG F x=some (.sl id))(ho:H.get id=.row e sz els)(hy:aG F y=some v)(hs:zM H.get sz v=some news)(E:els++news=els')(hb:els'.length<=1000000000):
  ∀S w ρ a,HRel S w ρ H.get->FRel S w ρ a n F->Does P S w ρ H.get a ty (.call {callee:=.builtin .append,args:=#[x,y],argTypes:=#[t,t]}) (some<|.sl H.nx) ((ED.repl id<|.row e sz els').app H.get H.nx) (ED.repl id<|.row e sz els').tch:=by
 subst E;exact dAp hT ht hx ho hy hs (by simpa using hb)
theorem okR{id:Nat}(ho:H.get id=.row e sz els):(ED.repl id o').ok H.get:=by exact⟨by rw[ho];simp,by rw[ho];simp⟩
theorem okS{id:Nat}(ho:H.get id=.row e sz els):(ED.set id o').ok H.get:=by exact⟨by rw[ho];simp,by rw[ho];simp⟩
theorem dTr(hT:TabOk P T){id k:Nat}{ty:TypeId}(ht:slT T t=some (e,sz))(hx:aG F x=some (.sl id))(ho:H.get id=.row e sz els)(hy:aG F y=some (.int .i64 (k:Int)))(E:k<=els.length)(G:els.take k=els'):
  ∀S w ρ a,HRel S w ρ H.get->FRel S w ρ a n F->Does P S w ρ H.get a ty (.slice t x none (some y) none) (some<|.sl H.nx) ((ED.repl id<|.row e sz els').app H.get H.nx) (ED.repl id<|.row e sz els').tch:=λS w ρ a hr hF=>by
 subst G;exact In hr hF.fr H.get_free (al hF hx) (al hF hy) ho (po hT ht).1 (po hT ht).2 E
theorem dLe(hT:TabOk P T){id o:Nat}{v0:V}{td:TD}(ht:T.ty t=some td)(hx:aG F x=some (.el id sz i o))(ho:H.get id=.row e sz els)(hi:els[i]?=some v0)(hv:qL td v0.cells o=some v):
  ∀S w ρ a,HRel S w ρ H.get->FRel S w ρ a n F->Does P S w ρ H.get a ty (.load t x) (some v) (ED.nop.app H.get H.nx) ED.nop.tch:=λS w ρ a hr hF=>by
 rcases qb (hT.ty _ _ ht) hv with⟨h1,h2⟩|⟨h1,h2,rfl⟩
 ·exact Iv hr hF.fr (al hF hx) ho h1 hi h2
 ·exact Fo hr hF.fr (al hF hx) ho h1 hi h2
theorem dSe(hT:TabOk P T){id o:Nat}{v0:V}{td:TD}(ht:T.ty t=some td)(hx:aG F x=some (.el id sz i o))(hy:aG F y=some v)(ho:H.get id=.row e sz els)(hi:els[i]?=some v0)(G:(Nat.beq v.cells.length td.size&&v.cells.all V.one&&Nat.ble (o+td.size) v0.cells.length&&(match v0 with|.agg _=>true|v0=>v0.one&&v.one))=true)(J:els.set i (v0.over o v.cells)=els'):
  ∀S w ρ a,HRel S w ρ H.get->FRel S w ρ a n F->Does P S w ρ H.get a ty (.store t x y) none ((ED.set id<|.row e sz els').app H.get H.nx) (ED.set id<|.row e sz els').tch:=λS w ρ a hr hF=>by
 subst J;simp only[aab]at G;obtain⟨⟨⟨h1,h2⟩,U⟩,E⟩:=G;exact zK hr hF.fr (al hF hx) (al hF hy) ho (hT.ty _ _ ht).size hi (aaf h1) h2 (Nat.le_of_ble_eq_true U) (by
  cases v0 with
  |agg cs=>exact .inl ⟨cs,rfl⟩
  |_=>simp only[aab]at E;exact .inr ⟨xr E.1,xr E.2⟩)
theorem dMk(hT:TabOk P T){m:Nat}{E:V}{td:TD}{tz:TD}(ht:T.ty t=some tz)(G:(match tz.kind with|.sl e'=>Nat.beq e e'|_=>false)=true)(J:T.ty e=some td)(hx:aG F x=some (.int .i64 (m:Int)))(hy:aG F y=some (.int .i64 (m:Int)))(hsz:td.size=sz)(U:td.zero=E)(Z:(Nat.blt 0 td.size&&Nat.ble td.bytes 1000)=true)(hm:m<=1000000000):
  ∀S w ρ a,HRel S w ρ H.get->FRel S w ρ a n F->Does P S w ρ H.get a ty (.makeSlice t x y) (some<|.sl H.nx) ((ED.new<|.row e sz<|List.replicate m E).app H.get H.nx) (ED.new<|.row e sz<|List.replicate m E).tch:=λS w ρ a hr hF=>by
 subst hsz U;simp only[aab,Nat.blt_eq]at Z;obtain⟨z,h1,h2,h3,h4⟩:=(hT.ty _ _ J).info;have hsl:P.underlying t=some (.slice e):=by
  split at G
  ·rename_i e' he';have :=aaf G;subst this;exact(hT.ty _ _ ht).sl he'
  ·cases G
 have hb:td.bytes<=1000:=Nat.le_of_ble_eq_true Z.2;exact Kj hr hF.fr H.get_free (al hF hx) (al hF hy) hsl h1 h3 Z.1 h4 h2 (aao (Nat.mul_le_mul hb hm)<|by decide) (by simp only[maxLen];omega)
theorem gCn{tys:Array TypeId}{d:Option Tmp}{ty:TypeId}{ps:String}{af:Array Edge}(i:Nat)(e:TypeId)(sz:Nat)(G:cb PL P fid us H0 Post)(σ:YN)(J:bZ P fid=true)(U:bd F all g=some true)(hv:fk F args=some vs)(E:vs[i]?=some .nils)(h2:H.ap (.new<|.row e sz []) id=H1)(hs:aU (vs.set i<|.sl H.nx)<|renL σ us)(hH:leH σ H1 H0.es)(Z:(ci σ&&Nat.beq σ.length H0.nx&&σ.all λi=>Nat.blt i H1.nx)=true)
  (k:∀v H',Post v H'->Go P K Q (.ops all rest) s n (F.seto d<|some<|v.ren<|sgN PL H1.nx H0.get H'.nx σ 0) (lN PL H1 σ H0 H')):Go P K Q (.ops all<|⟨d,.call {callee:=.value<|.func fid,args:=args.toArray,argTypes:=tys},ty,ps,af,g⟩::rest) s n F H:=by
 rw[Hp.ap_eq]at h2;subst h2;exact go_opC (o:=⟨d,.call {callee:=.value<|.func fid,args:=args.toArray,argTypes:=tys},ty,ps,af,g⟩) J rfl U hv (KI i e sz E<|tj G σ hs hH Z []<|by simp[cm]) λv' H'' ⟨v,H',hP,e1,e2⟩=>by subst e1 e2;exact k v H' hP
end
abbrev qS(f:FuncId)(a:List V)(r:V):Prop:=si prog f a r
abbrev qLG(K:Ctx)(fn:Func)(Q:V->Hp->Prop)(c:Code)(s:List EI)(n:Nat)(F:Fm)(H:Hp):Prop:=Go prog K (bodyPost prog fn (SP K Q)) (.code c) s n F H
abbrev z6(v:V):V->Hp->Prop:=λu _=>u=v
abbrev z7(v:V)(H:Hp):V->Hp->Prop:=λu G=>u=v∧G=H
abbrev z8(m:Nat)(L:YN)(f:Func)(P:V->Hp->Prop)(c:Code)(s:List EI)(n:Nat)(l:List (Nat×V))(H:Hp):Prop:=∀(K:Ctx) (j:Nat),au K L->m<=j->qLG K f P c (.loop c j::s) n (mkF n 0 l) H
abbrev y4(L:YN)(f:Func)(P:V->Hp->Prop)(c:Code)(s:List EI)(n:Nat)(l:List (Nat×V))(H:Hp):Prop:=∀(K:Ctx),au K L->qLG K f P c s n (mkF n 0 l) H
abbrev y5(L:YN)(f:Func)(P:V->Hp->Prop)(s:List EI)(n:Nat)(l:List (Nat×V))(H:Hp):Prop:=∀(K:Ctx),au K L->Go prog K (bodyPost prog f (SP K P)) (.ex .normal) s n (mkF n 0 l) H
abbrev y6(c A B:Prop):Prop:=(c->A)∧(¬c->B)
abbrev y7(c:Bool)(A B:Prop):Prop:=(c=true->A)∧(c=false->B)
abbrev y8(c:Bool)(A B:Prop):Prop:=(c=false->A)∧(c=true->B)
abbrev y9{α:Type}(x y:α)(A B:Prop):Prop:=(x=y->A)∧(x≠y->B)
abbrev q3a{α:Type}(x y:α)(A B:Prop):Prop:=(x≠y->A)∧(x=y->B)
variable{A B C D:Prop}
section
variable{P:Program}{K:Ctx}{Q:Exit->Act->World->Prop}{p:EP}{s:List EI}{n:Nat}{F F1 F2 F3 F4:Fm}{H:Hp}
theorem qBh{e:Bool}(d:Nat)(E:F.get d=some (.bool e))(h1:F.put d (some<|.bool true) id=F1)(h2:F.put d (some<|.bool false) id=F2)(h:(A->C)∧(B->D))(a:e=true->A)(b:e=false->B)(kT:C->Go P K Q p s n F1 H)(kF:D->Go P K Q p s n F2 H):Go P K Q p s n F H:=gB d E h1 h2 (λz=>kT<|h.1 (a z)) λz=>kF<|h.2 (b z)
theorem qBi{e:Bool}(d:Nat)(E:F.get d=some (.bool e))(h1:F.put d (some<|.bool true) id=F1)(h2:F.put d (some<|.bool false) id=F2)(h:(e=true->C)∧(e=false->D))(kT:C->Go P K Q p s n F1 H)(kF:D->Go P K Q p s n F2 H):Go P K Q p s n F H:=qBh d E h1 h2 h id id kT kF
theorem qBe[BEq α][LawfulBEq α]{x y:α}(d:Nat)(E:F.get d=some (.bool<|x==y))(h1:F.put d (some<|.bool true) id=F1)(h2:F.put d (some<|.bool false) id=F2)(h:(x=y->C)∧(x≠y->D))(kT:C->Go P K Q p s n F1 H)(kF:D->Go P K Q p s n F2 H):Go P K Q p s n F H:=qBh d E h1 h2 h eq_of_beq ne_of_beq_false kT kF
theorem qBd{x:Prop}[Decidable x](d:Nat)(E:F.get d=some (.bool<|decide x))(h1:F.put d (some<|.bool true) id=F1)(h2:F.put d (some<|.bool false) id=F2)(h:(x->C)∧(¬x->D))(kT:C->Go P K Q p s n F1 H)(kF:D->Go P K Q p s n F2 H):Go P K Q p s n F H:=qBh d E h1 h2 h of_decide_eq_true of_decide_eq_false kT kF
theorem qBhZ{e:Bool}(d i:Nat)(E:F.get d=some (.bool e))(hi:Fm.get (F.set d none) i=some (.bool e))(h1:F.put d (some<|.bool true) (λF=>F.put i (some<|.bool true) id)=F3)(h2:F.put d (some<|.bool false) (λF=>F.put i (some<|.bool false) id)=F4)(h:(A->C)∧(B->D))(a:e=true->A)(b:e=false->B)(kT:C->Go P K Q p s n F3 H)(kF:D->Go P K Q p s n F4 H):Go P K Q p s n F H:=by
 rw[Fm.put_eq,Fm.put_eq]at h1 h2;have w (v:V):Fm.get (F.set d<|some v) i=some (.bool e):=by
  rw[Fm.get_eq,List.getElem?_set]at hi⊢;split at hi
  ·split at hi<;>simp at hi
  ·rename_i e;rw[if_neg e];exact hi
 exact gB d E (Fm.put_eq ..) (Fm.put_eq ..) (λz=>gT i (w _) z ((Fm.put_eq ..).trans h1)<|kT<|h.1 (a z)) λz=>gF i (w _) z ((Fm.put_eq ..).trans h2)<|kF<|h.2 (b z)
theorem qBiZ{e:Bool}(d i:Nat)(E:F.get d=some (.bool e))(hi:Fm.get (F.set d none) i=some (.bool e))(h1:F.put d (some<|.bool true) (λF=>F.put i (some<|.bool true) id)=F3)(h2:F.put d (some<|.bool false) (λF=>F.put i (some<|.bool false) id)=F4)(h:(e=true->C)∧(e=false->D))(kT:C->Go P K Q p s n F3 H)(kF:D->Go P K Q p s n F4 H):Go P K Q p s n F H:=qBhZ d i E hi h1 h2 h id id kT kF
theorem qBeZ[BEq α][LawfulBEq α]{x y:α}(d i:Nat)(E:F.get d=some (.bool<|x==y))(hi:Fm.get (F.set d none) i=some (.bool<|x==y))(h1:F.put d (some<|.bool true) (λF=>F.put i (some<|.bool true) id)=F3)(h2:F.put d (some<|.bool false) (λF=>F.put i (some<|.bool false) id)=F4)(h:(x=y->C)∧(x≠y->D))(kT:C->Go P K Q p s n F3 H)(kF:D->Go P K Q p s n F4 H):Go P K Q p s n F H:=qBhZ d i E hi h1 h2 h eq_of_beq ne_of_beq_false kT kF
theorem qBdZ{x:Prop}[Decidable x](d i:Nat)(E:F.get d=some (.bool<|decide x))(hi:Fm.get (F.set d none) i=some (.bool<|decide x))(h1:F.put d (some<|.bool true) (λF=>F.put i (some<|.bool true) id)=F3)(h2:F.put d (some<|.bool false) (λF=>F.put i (some<|.bool false) id)=F4)(h:(x->C)∧(¬x->D))(kT:C->Go P K Q p s n F3 H)(kF:D->Go P K Q p s n F4 H):Go P K Q p s n F H:=qBhZ d i E hi h1 h2 h of_decide_eq_true of_decide_eq_false kT kF
end
section
variable{K:Ctx}{Q:Exit->Act->World->Prop}{s:List EI}{n:Nat}{F:Fm}{H H0 H1:Hp}{all:Array Oper}{rest:List Oper}{L PL:YN}{m fuel:Nat}{listed:Array Bool}{fid:FuncId}{args:List Operand}{tys:Array TypeId}{vs us:List V}{v1:V}{d:Option Tmp}{ty:TypeId}{ps:String}{af:Array Edge}{g:Option (Nat×Bool)}
theorem gCZ(E:cb PL prog fid us H0 λv H'=>v=v1∧H'=H1)(σ:YN)(hH:leH σ H H0.es)(k:Go prog K Q (.ops all rest) s n (F.seto d<|some<|v1.ren<|sgN PL H.nx H0.get H1.nx σ 0)<|lN PL H σ H0 H1)(G:bZ prog fid=true:=by kernel_rfl)(J:bd F all g=some true:=by rfl)(hv:fk F args=some vs:=by rfl)(hs:aU vs (renL σ us):=by exact .rfl)(U:(ci σ&&Nat.beq σ.length H0.nx&&σ.all λi=>Nat.blt i H.nx)=true:=by rfl):Go prog K Q (.ops all<|⟨d,.call {callee:=.value<|.func fid,args:=args.toArray,argTypes:=tys},ty,ps,af,g⟩::rest) s n F H:=gC E σ G J hv hs hH U λ_ _ ⟨Z,e2⟩=>by subst Z e2;exact k
end
theorem pqq:∃u,some v=some u∧bu u v:=⟨v,rfl,bu.rfl⟩
variable{a0:V}
theorem pq1:(∃u,some a0=some u∧bu u a0)∧True:=⟨pqq,trivial⟩
variable{a1 a2:V}
theorem pq3:(∃u,some a0=some u∧bu u a0)∧(∃u,some a1=some u∧bu u a1)∧(∃u,some a2=some u∧bu u a2)∧True:=⟨pqq,pqq,pqq,trivial⟩
variable{a3:V}
theorem pq4:(∃u,some a0=some u∧bu u a0)∧(∃u,some a1=some u∧bu u a1)∧(∃u,some a2=some u∧bu u a2)∧(∃u,some a3=some u∧bu u a3)∧True:=⟨pqq,pqq,pqq,pqq,trivial⟩
theorem pq5{E:V}:(∃u,some a0=some u∧bu u a0)∧(∃u,some a1=some u∧bu u a1)∧(∃u,some a2=some u∧bu u a2)∧(∃u,some a3=some u∧bu u a3)∧(∃u,some E=some u∧bu u E)∧True:=⟨pqq,pqq,pqq,pqq,pqq,trivial⟩
theorem pq7{E G J:V}:(∃u,some a0=some u∧bu u a0)∧(∃u,some a1=some u∧bu u a1)∧(∃u,some a2=some u∧bu u a2)∧(∃u,some a3=some u∧bu u a3)∧(∃u,some E=some u∧bu u E)∧(∃u,some G=some u∧bu u G)∧(∃u,some J=some u∧bu u J)∧True:=⟨pqq,pqq,pqq,pqq,pqq,pqq,pqq,trivial⟩
theorem pq8{E G J U:V}:(∃u,some a0=some u∧bu u a0)∧(∃u,some a1=some u∧bu u a1)∧(∃u,some a2=some u∧bu u a2)∧(∃u,some a3=some u∧bu u a3)∧(∃u,some E=some u∧bu u E)∧(∃u,some G=some u∧bu u G)∧(∃u,some J=some u∧bu u J)∧(∃u,some U=some u∧bu u U)∧True:=⟨pqq,pqq,pqq,pqq,pqq,pqq,pqq,pqq,trivial⟩
theorem pqo{x:Option Nat}(h1:x=some i)(h2:H.get i=.var t cs):∃i,x=some i∧mS (H.get i) (.var t cs):=⟨i,h1,by rw[h2];exact⟨rfl,aU.rfl⟩⟩
theorem pqo1{E:Option Nat}{G:Nat}{t0:TypeId}{c0:List V}(J:E=some G)(U:H.get G=.var t0 c0):(∃i,E=some i∧mS (H.get i) (.var t0 c0))∧True:=⟨pqo J U,trivial⟩
section
variable{P:Program}{K:Ctx}{Q:Exit->Act->World->Prop}{p:EP}{s:List EI}{n:Nat}{F F1 F2 F3 F4:Fm}{H:Hp}
theorem qXh{e:Bool}(d:Nat)(E:F.get d=some (.bool e))(h1:F.put d (some<|.bool true) id=F1)(h2:F.put d (some<|.bool false) id=F2)(h:(A->C)∧(B->D))(a:e=true->A)(b:e=false->B)(kT:A->C->Go P K Q p s n F1 H)(kF:B->D->Go P K Q p s n F2 H):Go P K Q p s n F H:=gB d E h1 h2 (λz=>kT (a z)<|h.1 (a z)) λz=>kF (b z)<|h.2 (b z)
theorem qXi{e:Bool}(d:Nat)(E:F.get d=some (.bool e))(h1:F.put d (some<|.bool true) id=F1)(h2:F.put d (some<|.bool false) id=F2)(h:(e=true->C)∧(e=false->D))(kT:e=true->C->Go P K Q p s n F1 H)(kF:e=false->D->Go P K Q p s n F2 H):Go P K Q p s n F H:=qXh d E h1 h2 h id id kT kF
theorem qXe[BEq α][LawfulBEq α]{x y:α}(d:Nat)(E:F.get d=some (.bool<|x==y))(h1:F.put d (some<|.bool true) id=F1)(h2:F.put d (some<|.bool false) id=F2)(h:(x=y->C)∧(x≠y->D))(kT:x=y->C->Go P K Q p s n F1 H)(kF:x≠y->D->Go P K Q p s n F2 H):Go P K Q p s n F H:=qXh d E h1 h2 h eq_of_beq ne_of_beq_false kT kF
theorem qXd{x:Prop}[Decidable x](d:Nat)(E:F.get d=some (.bool<|decide x))(h1:F.put d (some<|.bool true) id=F1)(h2:F.put d (some<|.bool false) id=F2)(h:(x->C)∧(¬x->D))(kT:x->C->Go P K Q p s n F1 H)(kF:¬x->D->Go P K Q p s n F2 H):Go P K Q p s n F H:=qXh d E h1 h2 h of_decide_eq_true of_decide_eq_false kT kF
theorem qXhZ{e:Bool}(d i:Nat)(E:F.get d=some (.bool e))(hi:Fm.get (F.set d none) i=some (.bool e))(h1:F.put d (some<|.bool true) (λF=>F.put i (some<|.bool true) id)=F3)(h2:F.put d (some<|.bool false) (λF=>F.put i (some<|.bool false) id)=F4)(h:(A->C)∧(B->D))(a:e=true->A)(b:e=false->B)(kT:A->C->Go P K Q p s n F3 H)(kF:B->D->Go P K Q p s n F4 H):Go P K Q p s n F H:=qBhZ (A:=A) (B:=B) (C:=A∧C) (D:=B∧D) d i E hi h1 h2 ⟨λx=>⟨x,h.1 x⟩,λx=>⟨x,h.2 x⟩⟩ a b (λz=>kT z.1 z.2) λz=>kF z.1 z.2
theorem qXiZ{e:Bool}(d i:Nat)(E:F.get d=some (.bool e))(hi:Fm.get (F.set d none) i=some (.bool e))(h1:F.put d (some<|.bool true) (λF=>F.put i (some<|.bool true) id)=F3)(h2:F.put d (some<|.bool false) (λF=>F.put i (some<|.bool false) id)=F4)(h:(e=true->C)∧(e=false->D))(kT:e=true->C->Go P K Q p s n F3 H)(kF:e=false->D->Go P K Q p s n F4 H):Go P K Q p s n F H:=qXhZ d i E hi h1 h2 h id id kT kF
theorem qXeZ[BEq α][LawfulBEq α]{x y:α}(d i:Nat)(E:F.get d=some (.bool<|x==y))(hi:Fm.get (F.set d none) i=some (.bool<|x==y))(h1:F.put d (some<|.bool true) (λF=>F.put i (some<|.bool true) id)=F3)(h2:F.put d (some<|.bool false) (λF=>F.put i (some<|.bool false) id)=F4)(h:(x=y->C)∧(x≠y->D))(kT:x=y->C->Go P K Q p s n F3 H)(kF:x≠y->D->Go P K Q p s n F4 H):Go P K Q p s n F H:=qXhZ d i E hi h1 h2 h eq_of_beq ne_of_beq_false kT kF
theorem qXdZ{x:Prop}[Decidable x](d i:Nat)(E:F.get d=some (.bool<|decide x))(hi:Fm.get (F.set d none) i=some (.bool<|decide x))(h1:F.put d (some<|.bool true) (λF=>F.put i (some<|.bool true) id)=F3)(h2:F.put d (some<|.bool false) (λF=>F.put i (some<|.bool false) id)=F4)(h:(x->C)∧(¬x->D))(kT:x->C->Go P K Q p s n F3 H)(kF:¬x->D->Go P K Q p s n F4 H):Go P K Q p s n F H:=qXhZ d i E hi h1 h2 h of_decide_eq_true of_decide_eq_false kT kF
theorem qG{l:List α}{x:α}(h:l[i]?=some x):i<l.length:=(List.getElem?_eq_some_iff.1 h).1
theorem qj{m:Nat}{R:Ctx->Prop}{B:Ctx->Nat->Prop}(h:∀K j,R K->m+1<=j+1->B K (j+1)):∀K j,R K->m+1<=j->B K j:=λK j a b=>by obtain⟨j,rfl⟩:∃i,j=i+1:=⟨j-1,by omega⟩;exact h K j a b
end
section
variable{P:Program}{T:Tab}{K:Ctx}{Q:Exit->Act->World->Prop}{p:EP}{s:List EI}{n:Nat}{F F':Fm}{H H':Hp}{pv:YN}
theorem qJ(E:au K pv)(k:Go P K Q p s n F' H')(σ:YN)(hF:leF σ F F':=by repeat (first|exact trivial|refine⟨pqq,?_⟩))(hH:leH σ H H'.es:=by repeat (first|exact trivial|refine⟨⟨_,rfl,by first|exact⟨rfl,aU.rfl⟩|exact⟨rfl,rfl,(dH _ _ (λ_=>rfl) _).symm⟩|exact⟨rfl,rfl,(Co _ _).symm⟩|exact⟨rfl,rfl,rfl⟩|exact⟨rfl,rfl,rfl,rfl⟩⟩,?_⟩))(hp:p.still=true:=by rfl)(G:(ci σ&&Nat.ble σ.length H'.nx&&xt σ pv&&Nat.ble F'.length n)=true:=by rfl):Go P K Q p s n F H:=go_sub σ pv hp E hF hH G k
theorem qW{m:Nat}{Q:Ctx->Exit->Act->World->Prop}{s:Ctx->Nat->List EI}(E:au K pv)(h:∀K j,au K pv->m<=j->Go P K (Q K) p (s K j) n F' H')(σ:YN)(hF:leF σ F F':=by repeat (first|exact trivial|refine⟨pqq,?_⟩))(hH:leH σ H H'.es:=by repeat (first|exact trivial|refine⟨⟨_,rfl,by first|exact⟨rfl,aU.rfl⟩|exact⟨rfl,rfl,(dH _ _ (λ_=>rfl) _).symm⟩|exact⟨rfl,rfl,(Co _ _).symm⟩|exact⟨rfl,rfl,rfl⟩|exact⟨rfl,rfl,rfl,rfl⟩⟩,?_⟩))(hp:p.still=true:=by rfl)(G:(ci σ&&Nat.ble σ.length H'.nx&&xt σ pv&&Nat.ble F'.length n)=true:=by rfl)(J:m<=j:=by omega):Go P K (Q K) p (s K j) n F H:=go_sub σ pv hp E hF hH G<|h K j E J
theorem gE{fn:Func}{v0:V}{H0:Hp}{vs:List V}{e:Exit}(E:au K pv)(X:List<|Nat×Ob)(L:List<|Nat×V)(σ:YN)(rs:List ResultVar)(hF:leF σ F (mkF n 0 L):=by repeat (first|exact trivial|refine⟨pqq,?_⟩))(hH:leH σ H (X++H0.es):=by repeat (first|exact trivial|refine⟨⟨_,rfl,by first|exact⟨rfl,aU.rfl⟩|exact⟨rfl,rfl,(dH _ _ (λ_=>rfl) _).symm⟩|exact⟨rfl,rfl,(Co _ _).symm⟩|exact⟨rfl,rfl,rfl⟩|exact⟨rfl,rfl,rfl,rfl⟩⟩,?_⟩))(hc:(ci σ&&Nat.ble σ.length H0.nx&&xt σ pv&&Nat.ble (mkF n 0 L).length n)=true:=by rfl)(J:fn.results=rs.toArray:=by rfl)(hv:sm Cp (⟨H0.nx,X++H0.es⟩:Hp).get (mkF n 0 L) rs=some vs:=by rfl)(U:nY vs=v0:=by rfl)(Z:(⟨H0.nx,pr (X.map (·.1))<|X++H0.es⟩:Hp)=H0:=by rfl)(he:e=.ret∨e=.normal:=by first|exact .inl rfl|exact .inr rfl):Go prog K (bodyPost prog fn<|SP K λu G=>u=v0∧G=H0) (.ex e) [] n F H:=go_sub (F':=mkF n 0 L) (H':=⟨H0.nx,X++H0.es⟩) σ pv rfl E hF hH hc (Pv (X.map (·.1)) ac J hv ⟨U,Z⟩ he)
end
section
variable{K:Ctx}{Q:Exit->Act->World->Prop}{s:List EI}{n:Nat}{F F':Fm}{H H' H0 H1:Hp}{all:Array Oper}{rest:List Oper}{L PL:YN}{m fuel c:Nat}{listed:Array Bool}{fid:FuncId}{args:List Operand}{tys:Array TypeId}{vs us:List V}{v1:V}{d:Option Tmp}{ty:TypeId}{ps:String}{af:Array Edge}{g:Option (Nat×Bool)}
theorem qC(E:cb PL prog fid us H0 λv H'=>v=v1∧H'=H1)(σ:YN)(k:Go prog K Q (.ops all rest) s n (F.seto d<|some<|v1.ren<|sgN PL H.nx H0.get H1.nx σ 0)<|lN PL H σ H0 H1)(G:bZ prog fid=true:=by kernel_rfl)(J:bd F all g=some true:=by rfl)(hv:fk F args=some vs:=by rfl)(hs:aU vs (renL σ us):=by exact .rfl)(hH:leH σ H H0.es:=by repeat (first|exact trivial|refine⟨⟨_,rfl,by first|exact⟨rfl,aU.rfl⟩|exact⟨rfl,rfl,(dH _ _ (λ_=>rfl) _).symm⟩|exact⟨rfl,rfl,(Co _ _).symm⟩|exact⟨rfl,rfl,rfl⟩|exact⟨rfl,rfl,rfl,rfl⟩⟩,?_⟩))(U:(ci σ&&Nat.beq σ.length H0.nx&&σ.all λi=>Nat.blt i H.nx)=true:=by rfl):Go prog K Q (.ops all<|⟨d,.call {callee:=.value<|.func fid,args:=args.toArray,argTypes:=tys},ty,ps,af,g⟩::rest) s n F H:=gC E σ G J hv hs hH U λ_ _ ⟨Z,e2⟩=>by subst Z e2;exact k
theorem qDC(i:Nat)(G:cb PL prog fid us H0 λv H'=>v=v1∧H'=H1)(σ:YN)(hi:all[i]?=some ⟨d,.call {callee:=.value<|.func fid,args:=args.toArray,argTypes:=tys},ty,ps,af,g⟩)(k:Go prog K Q (.drw all L m fuel<|listed.setIfInBounds i true) s n (F.seto d<|some<|v1.ren<|sgN PL H.nx H0.get H1.nx σ 0)<|lN PL H σ H0 H1)(J:bZ prog fid=true:=by kernel_rfl)(E:Region.ready .any all listed=[i]:=by kernel_rfl)(U:bd F all g=some true:=by rfl)(hv:fk F args=some vs:=by rfl)(hs:aU vs (renL σ us):=by exact .rfl)(hH:leH σ H H0.es:=by repeat (first|exact trivial|refine⟨⟨_,rfl,by first|exact⟨rfl,aU.rfl⟩|exact⟨rfl,rfl,(dH _ _ (λ_=>rfl) _).symm⟩|exact⟨rfl,rfl,(Co _ _).symm⟩|exact⟨rfl,rfl,rfl⟩|exact⟨rfl,rfl,rfl,rfl⟩⟩,?_⟩))(Z:(ci σ&&Nat.beq σ.length H0.nx&&σ.all λi=>Nat.blt i H.nx)=true:=by kernel_rfl)(hL:(cm H.get L&&L.all λi=>!σ.contains i)=true:=by rfl):Go prog K Q (.drw all L m (fuel+1) listed) s n F H:=gDC i G σ J hi E U hv hs hH Z hL λ_ _ ⟨e1,e2⟩=>by subst e1 e2;exact k
theorem qC0(E:si prog fid us v)(h1:F.puto d (some v) id=F')(k:Go prog K Q (.ops all rest) s n F' H)(G:bZ prog fid=true:=by kernel_rfl)(J:bd F all g=some true:=by rfl)(hv:fk F args=some vs:=by rfl)(hs:aU vs us:=by exact .rfl):Go prog K Q (.ops all<|⟨d,.call {callee:=.value<|.func fid,args:=args.toArray,argTypes:=tys},ty,ps,af,g⟩::rest) s n F H:=gC0 E G J hv hs h1 k
theorem qDe(k:Go prog K Q (.ex .normal) s n F H)(E:Region.ready .any all listed=[]:=by kernel_rfl):Go prog K Q (.drw all L m fuel listed) s n F H:=gDe E k
theorem qA{c:Code}(N:Nat)(pv:YN)(hf:prog.funcs[fid]?=some fn)(k:∀K,au K pv->Go prog K (bodyPost prog fn<|SP K Post) (.code c) [] N (mN N vs) H0)(hb:fn.body=some c:=by exact rfl)(hN:fn.ntmps=N:=by exact rfl)(hl:Nat.ble vs.length N=true:=by rfl)(E:∀i,iH PL i (H0.get i)=true->i∈pv:=by exact Sf rfl):cb PL prog fid vs H0 Post:=Ly N pv hf hb hN hl E k
theorem qN{Post:V->Hp->Prop}{e:Exit}(rs:List ResultVar)(E:fn.results=rs.toArray:=by exact rfl)(hv:sm Cp H.get F rs=some vs:=by exact rfl)(G:Post (nY vs) H:=by exact rfl)(J:e=.ret∨e=.normal:=by first|exact .inl rfl|exact .inr rfl):Go prog K (bodyPost prog fn<|SP K Post) (.ex e) [] n F H:=QS ac E hv G J
@[reducible] def qR : Nat -> Nat -> Nat -> List (Nat × Nat) -> List (Nat × Nat)
 |_,0,_,r=>r
 |i,n+1,f,r=>(i,f)::qR (i+1) n f r
theorem qDr(is:List<|Nat×Nat)(hl:is.length=c)(hr:oX Cp all L is F H=some (F',H'))(k:Go prog K Q (.drw all L m fuel<|JX is listed) s n F' H')(E:EX all m is listed=true:=by kernel_rfl):Go prog K Q (.drw all L m (fuel+c) listed) s n F H:=gDr is E hl hr k
theorem qDs{id:Nat}{l:List Oper}(L:YN)(m sz:Nat)(k:Go prog K Q (.drw l.toArray L m sz<|Array.replicate sz false) s n F H)(hsz:l.length=sz:=by rfl)(E:prog.follows .mixedOrders=true:=by kernel_rfl)(hs:Region.noSelect l.toArray=true:=by kernel_rfl):Go prog K Q (.code<|.region id l.toArray true) s n F H:=gDs L m sz hsz E hs k
end
abbrev xA(c:Code):Code:=cB (cB c)
abbrev xB(c:Code):Code:=cE (cB c)
abbrev xC(c:Code):Code:=xB (xB c)
abbrev xD(c:Code):Code:=xA (xA c)
abbrev xE(c:Code):Code:=cK (cB c)
abbrev xF(c:Code):Code:=xE (cA c)
abbrev xG(c:Code):Code:=xC (xC c)
abbrev xH(c:Code):Code:=xA (cB c)
abbrev xI(c:Code):Code:=cL (xF c)
abbrev xJ(c:Code):Code:=cT (cB c)
abbrev xK(c:Code):Code:=cL (cK c)
abbrev xL(c:Code):Code:=xI (xD c)
abbrev xM(c:Code):Code:=xG (xG c)
abbrev xN(c:Code):Code:=xB (xF c)
set_option maxHeartbeats 4000000
def ny(E:YB)(G:Int):Prop:=qS 127 [.str E]<|qi G
def xV(E:YB)(G:Int):Prop:=qS 163 [.str E]<|qi G
def mf(E G J:Int):Prop:=qS 89 [qi E,qi G]<|qi J
def fh(E G J U:Int):Prop:=qS 139 [qi E,qi G,qi J]<|qi U
def lm(E:Int)(G:Bool):Prop:=qS 142 [qi E]<|.bool G
def dS(E:Int)(G:Bool):Prop:=qS 141 [qi E]<|.bool G
def px(E:Int)(G:Bool):Prop:=qS 143 [qi E]<|.bool G
def mP(E:YB)(G:Bool):Prop:=qS 140 [.str E]<|.bool G
def pB(E:Int)(G:YB)(J:Bool):Prop:=qS 90 [qi E,.str G]<|.bool J
def qp(E:Tree)(G:Int)(J:Bool):Prop:=qS 91 [.agg<|an E,qi G]<|.bool J
def fP(E:Tree)(G:Bool):Prop:=qS 48 [.agg<|an E]<|.bool G
def eV(E G J:Int):Prop:=qS 156 [qi E,qi G]<|qi J
def ce(E G J U:Int):Prop:=qS 184 [qi E,qi G,qi J]<|qi U
def gf(E:Int)(G:Bool):Prop:=qS 187 [qi E]<|.bool G
def ek(E:Int)(G:Bool):Prop:=qS 186 [qi E]<|.bool G
def gk(E:Int)(G:Bool):Prop:=qS 183 [qi E]<|.bool G
def gH(E:YB)(G:Bool):Prop:=qS 185 [.str E]<|.bool G
def ja(E:Int)(G:YB)(J:Bool):Prop:=qS 157 [qi E,.str G]<|.bool J
def mQ(E:Tree)(G J:Int)(U:Bool):Prop:=qS 158 [.agg<|an E,qi G,qi J]<|.bool U
def dZ(E:Tree)(G:Bool):Prop:=qS 109 [.agg<|an E]<|.bool G
def aQ(m:Nat)(E:Int)(a b c:Nat)(d G:Int):Prop:=y4 [] f89 (z6<|qi G) (xD<|ab f89) [] 69 [(1,qi E),(5,qi (a:Int)),(6,qi d),(7,qi (b:Int)),(8,qi (c:Int))] ⟨0,[]⟩
def kW(m:Nat)(E G:Int)(a:Bool)(J:Int):Prop:=y4 [] f89 (z6<|qi J) (cB<|xG<|xN<|xH<|ab f89) [.blk 0,.seq<|xD<|ab f89] 69 [(1,qi G),(5,qi 0),(6,qi 0),(7,qi 1),(8,qi 0),(9,qi E),(22,.bool a)] ⟨0,[]⟩
def kX(m:Nat)(E:Int)(a b c:Nat)(d G:Int):Prop:=y4 [] f89 (z6<|qi G) (xD<|cB<|ab f89) [] 69 [(1,qi E),(5,qi (a:Int)),(6,qi d),(7,qi (b:Int)),(8,qi (c:Int))] ⟨0,[]⟩
theorem AE(m:Nat)(E J U:Int)(h:((E=1)->∃a,fh J 0 3 a∧a=U)∧((E≠1)->((E=2)->aQ m J 2 6 2 (-1) U)∧((E≠2)->((E=16)->aQ m J 0 3 0 (-1) U)∧((E≠16)->((E=18)->aQ m J 1 2 0 (-1) U)∧((E≠18)->((E=3)->aQ m J 1 3 0 1 U)∧((E≠3)->((E=4)->kW m E J true U)∧((E≠4)->((E=8)->kW m E J true U)∧((E≠8)->kW m E J (E==22) U)))))))):mf E J U:=by
 refine⟨I,I,?_⟩;refine qA 69 [] func89 λK G=>?_;refine gR 30 rfl<|qBeZ 10 11 rfl rfl rfl rfl h ?_ ?_<;>intro h;refine gR 4 I ?_;obtain⟨a,b,h⟩:=h;refine qC0 b I<|gR 6 I ?_;subst h;exact qN [.tmp 4];refine gR 7 rfl<|qBeZ 14 15 rfl rfl rfl rfl h ?_ ?_<;>intro h;exact gR 9 I<|qJ G (h K G) [];refine gR 7 rfl<|qBeZ 16 17 rfl rfl rfl rfl h ?_ ?_<;>intro h;exact gR 9 I<|qJ G (h K G) [];refine gR 7 rfl<|qBeZ 18 19 rfl rfl rfl rfl h ?_ ?_<;>intro h;exact gR 9 I<|qJ G (h K G) [];refine gR 7 rfl<|qBeZ 20 21 rfl rfl rfl rfl h ?_ ?_<;>intro h;exact gR 8 I<|qJ G (h K G) [];refine gR 8 rfl<|qBeZ 22 23 rfl rfl rfl rfl h ?_ ?_<;>intro h;exact gR 3 I<|qJ G (h K G) [];refine gR 7 rfl<|qBeZ 22 24 rfl rfl rfl rfl h ?_ ?_<;>intro h;exact gR 3 I<|qJ G (h K G) [];exact gR 6 I<|qJ G (h K G) []
theorem Ak(m:Nat)(E:Int)(b c d:Nat)(a G:Int)(h:y6 (0<=a) (y6 (a<E) ((-1)=G)<|kX m E b c d a G)<|kX m E b c d a G):aQ (m+1) E b c d a G:=by
 intro K J;refine gR 6 rfl<|qBdZ 47 46 rfl rfl rfl rfl h ?_ ?_<;>intro h;refine gR 6 rfl<|qBd 51 rfl rfl rfl h ?_ ?_<;>intro h;refine gR 8 I ?_;subst h;exact qN [.tmp 4];exact gR 3 I<|qJ J (h K J) [];exact gR 9 I<|qJ J (h K J) []
theorem Ap(m:Nat)(U J:Int)(a:Bool)(G:Int)(h:y7 a (aQ m J 1 2 0 1 G)<|y9 U 17 (aQ m J 1 0 0 1 G)<|y9 U 19 (aQ m J 3 3 0 3 G)<|y9 U 20 (aQ m J 2 4 0 2 G)<|y9 U 21 (aQ m J 2 1 0 2 G)<|y9 U 5 (aQ m J 0 1 0 0 G)<|y9 U 6 (aQ m J 0 1 0 0 G)<|y9 U 7 (aQ m J 0 1 0 0 G)<|y9 U 9 (aQ m J 0 1 0 0 G)<|y9 U 10 (aQ m J 0 1 0 0 G)<|y9 U 11 (aQ m J 0 1 0 0 G)<|y9 U 12 (aQ m J 0 1 0 0 G)<|y9 U 13 (aQ m J 0 1 0 0 G)<|y9 U 14 (aQ m J 0 1 0 0 G)<|y9 U 15 (aQ m J 0 1 0 0 G)<|(-1)=G):kW (m+1) U J a G:=by
 intro K E;refine qBi 22 rfl rfl rfl h ?_ ?_<;>intro h;exact gR 8 I<|qJ E (h K E) [];refine gR 7 rfl<|qBeZ 26 27 rfl rfl rfl rfl h ?_ ?_<;>intro h;exact gR 8 I<|qJ E (h K E) [];refine gR 7 rfl<|qBeZ 28 29 rfl rfl rfl rfl h ?_ ?_<;>intro h;exact gR 8 I<|qJ E (h K E) [];refine gR 7 rfl<|qBeZ 30 31 rfl rfl rfl rfl h ?_ ?_<;>intro h;exact gR 8 I<|qJ E (h K E) [];refine gR 7 rfl<|qBeZ 32 33 rfl rfl rfl rfl h ?_ ?_<;>intro h;exact gR 8 I<|qJ E (h K E) [];refine gR 8 rfl<|qBeZ 34 35 rfl rfl rfl rfl h ?_ ?_<;>intro h;exact gR 7 I<|qJ E (h K E) [];refine gR 7 rfl<|qBeZ 34 36 rfl rfl rfl rfl h ?_ ?_<;>intro h;exact gR 7 I<|qJ E (h K E) [];refine gR 7 rfl<|qBeZ 34 37 rfl rfl rfl rfl h ?_ ?_<;>intro h;exact gR 7 I<|qJ E (h K E) [];refine gR 7 rfl<|qBeZ 34 38 rfl rfl rfl rfl h ?_ ?_<;>intro h;exact gR 7 I<|qJ E (h K E) [];refine gR 7 rfl<|qBeZ 34 39 rfl rfl rfl rfl h ?_ ?_<;>intro h;exact gR 7 I<|qJ E (h K E) [];refine gR 7 rfl<|qBeZ 34 40 rfl rfl rfl rfl h ?_ ?_<;>intro h;exact gR 7 I<|qJ E (h K E) [];refine gR 7 rfl<|qBeZ 34 41 rfl rfl rfl rfl h ?_ ?_<;>intro h;exact gR 7 I<|qJ E (h K E) [];refine gR 7 rfl<|qBeZ 34 42 rfl rfl rfl rfl h ?_ ?_<;>intro h;exact gR 7 I<|qJ E (h K E) [];refine gR 7 rfl<|qBeZ 34 43 rfl rfl rfl rfl h ?_ ?_<;>intro h;exact gR 7 I<|qJ E (h K E) [];refine gR 6 rfl<|qBeZ 34 44 rfl rfl rfl rfl h ?_ ?_<;>intro h;exact gR 4 I<|qJ E (h K E) [];refine gR 9 I ?_;subst h;exact qN [.tmp 4]
theorem Al(m:Nat)(E:Int)(c b a:Nat)(d G:Int)(h:y6 (d<0) (y6 ((a:Int)<E) (InI (E-(a:Int))∧InI ((E-(a:Int))-1)∧InI ((b:Int)+((E-(a:Int))-1))∧∃e,fh E (c:Int) ((b:Int)+((E-(a:Int))-1)) e∧e=G)<|∃f,fh E (c:Int) (b:Int) f∧f=G)<|∃g,fh E (c:Int) (b:Int) g∧g=G):kX (m+1) E c b a d G:=by
 intro K J;refine gR 6 rfl<|qBdZ 54 53 rfl rfl rfl rfl h ?_ ?_<;>intro h;refine gR 6 rfl<|qBd 58 rfl rfl rfl h ?_ ?_<;>intro h;refine gR 5 I ?_;obtain⟨hb,h⟩:=h;refine gR 1 I<|gV 62 (qi (E-(a:Int))) I (am hb I) I ?_;obtain⟨hb,h⟩:=h;refine gR 1 I<|gV 63 (qi ((E-(a:Int))-1)) I (am hb I) I ?_;obtain⟨hb,h⟩:=h;refine gR 1 I<|gV 64 (qi ((b:Int)+((E-(a:Int))-1))) I (am hb I) I<|gR 8 I ?_;obtain⟨e,i,h⟩:=h;refine qC0 i I<|gR 4 I ?_;subst h;exact qN [.tmp 4];refine gR 8 I ?_;obtain⟨f,j,h⟩:=h;refine qC0 j I<|gR 4 I ?_;subst h;exact qN [.tmp 4];refine gR 14 I ?_;obtain⟨g,k,h⟩:=h;refine qC0 k I<|gR 4 I ?_;subst h;exact qN [.tmp 4]
theorem zq(m:Nat)(E G U J:Int)(h:((E<G)->(-1)=J)∧((¬E<G)->U=J)):fh E G U J:=by
 refine⟨I,I,?_⟩;refine qA 11 [] func139 λK Z=>?_;refine gR 13 rfl<|qBd 9 rfl rfl rfl h ?_ ?_<;>intro h;refine gR 8 I ?_;subst h;exact qN [.tmp 6];refine gR 10 I ?_;subst h;exact qN [.tmp 6]
theorem zU(m:Nat)(E:Int)(G:Bool)(h:((5<=E)->decide (E<=9)=G)∧((¬5<=E)->false=G)):lm E G:=by
 refine⟨I,I,?_⟩;refine qA 9 [] func142 λK J=>?_;refine gR 10 rfl<|qBdZ 5 4 rfl rfl rfl rfl h ?_ ?_<;>intro h;refine gR 7 I ?_;subst h;exact qN [.tmp 2];refine gR 7 I ?_;subst h;exact qN [.tmp 2]
theorem vg(m:Nat)(E:Int)(G:Bool)(h:((10<=E)->((E<=22)->(E !=17)=G)∧((¬E<=22)->false=G))∧((¬10<=E)->false=G)):dS E G:=by
 refine⟨I,I,?_⟩;refine qA 13 [] func141 λK J=>?_;refine gR 10 rfl<|qBdZ 5 4 rfl rfl rfl rfl h ?_ ?_<;>intro h;refine gR 4 rfl<|qBdZ 9 8 rfl rfl rfl rfl h ?_ ?_<;>intro h;refine gR 7 I ?_;subst h;exact qN [.tmp 2];refine gR 7 I ?_;subst h;exact qN [.tmp 2];refine gR 11 I ?_;subst h;exact qN [.tmp 2]
theorem zW(m:Nat)(E:Int)(G:Bool)(h:∃a,dS E a∧((a=true)->((E≠19)->((E≠20)->(E !=21)=G)∧((E=20)->false=G))∧((E=19)->false=G))∧((a=false)->false=G)):px E G:=by
 refine⟨I,I,?_⟩;refine qA 17 [] func143 λK J=>?_;refine gR 8 I ?_;obtain⟨a,b,h⟩:=h;refine qC0 b rfl<|gR 1 rfl<|qBiZ 5 4 rfl rfl rfl rfl h ?_ ?_<;>intro h;refine gR 4 rfl<|qBhZ 9 8 rfl rfl rfl rfl h ig eP ?_ ?_<;>intro h;refine gR 4 rfl<|qBhZ 13 12 rfl rfl rfl rfl h ig eP ?_ ?_<;>intro h;refine gR 7 I ?_;subst h;exact qN [.tmp 2];refine gR 7 I ?_;subst h;exact qN [.tmp 2];refine gR 11 I ?_;subst h;exact qN [.tmp 2];refine gR 15 I ?_;subst h;exact qN [.tmp 2]
theorem yj(m:Nat)(E:YB)(G:Bool)(h:((E=[43])->true=G)∧((E≠[43])->((E=[45])->true=G)∧((E≠[45])->((E=[42])->true=G)∧((E≠[42])->((E=[60])->true=G)∧((E≠[60])->((E=[61,61])->true=G)∧((E≠[61,61])->false=G)))))):mP E G:=by
 refine⟨I,I,?_⟩;refine qA 10 [] func140 λK J=>?_;refine gR 19 rfl<|qBeZ 4 5 rfl rfl rfl rfl h ?_ ?_<;>intro h;refine gR 12 I ?_;subst h;exact qN [.tmp 2];refine gR 7 rfl<|qBeZ 4 6 rfl rfl rfl rfl h ?_ ?_<;>intro h;refine gR 12 I ?_;subst h;exact qN [.tmp 2];refine gR 7 rfl<|qBeZ 4 7 rfl rfl rfl rfl h ?_ ?_<;>intro h;refine gR 12 I ?_;subst h;exact qN [.tmp 2];refine gR 7 rfl<|qBeZ 4 8 rfl rfl rfl rfl h ?_ ?_<;>intro h;refine gR 12 I ?_;subst h;exact qN [.tmp 2];refine gR 6 rfl<|qBeZ 4 9 rfl rfl rfl rfl h ?_ ?_<;>intro h;refine gR 9 I ?_;subst h;exact qN [.tmp 2];refine gR 10 I ?_;subst h;exact qN [.tmp 2]
def oh(m:Nat)(E:Int)(G:YB)(a:Int)(b J:Bool):Prop:=y4 [] f90 (z6<|.bool J) (cB<|xF<|xA<|ab f90) [.blk 0,.seq<|xH<|ab f90] 51 [(1,.str G),(5,qi a),(8,qi E),(9,.bool b)] ⟨0,[]⟩
def gI(m:Nat)(E:Int)(G:YB)(a:Int)(b J:Bool):Prop:=y4 [] f90 (z6<|.bool J) (cB<|xN<|xA<|ab f90) [.blk 0,.seq<|xH<|ab f90] 51 [(1,.str G),(5,qi a),(8,qi E),(14,.bool b)] ⟨0,[]⟩
theorem zV(m:Nat)(E:Int)(G:YB)(U:Bool)(h:∃a,ny G a∧((E=1)->oh m E G a true U)∧((E≠1)->oh m E G a (E==3) U)):pB E G U:=by
 refine⟨I,I,?_⟩;refine qA 51 [] func90 λK J=>?_;refine gR 8 I ?_;obtain⟨a,b,h⟩:=h;refine qC0 b rfl<|gR 17 rfl<|qBeZ 9 10 rfl rfl rfl rfl h ?_ ?_<;>intro h;exact gR 3 I<|qJ J (h K J) [];exact gR 6 I<|qJ J (h K J) []
theorem zr(m:Nat)(E:Int)(U:YB)(a:Int)(b J:Bool)(h:y7 b ((a==2)=J)<|y9 E 2 (gI m E U a true J)<|y9 E 4 (gI m E U a true J)<|y9 E 12 (gI m E U a true J)<|gI m E U a (E==20) J):oh (m+1) E U a b J:=by
 intro K G;refine qBi 9 rfl rfl rfl h ?_ ?_<;>intro h;refine gR 11 I ?_;subst h;exact qN [.tmp 4];refine gR 8 rfl<|qBeZ 14 15 rfl rfl rfl rfl h ?_ ?_<;>intro h;exact gR 3 I<|qJ G (h K G) [];refine gR 7 rfl<|qBeZ 14 16 rfl rfl rfl rfl h ?_ ?_<;>intro h;exact gR 3 I<|qJ G (h K G) [];refine gR 7 rfl<|qBeZ 14 17 rfl rfl rfl rfl h ?_ ?_<;>intro h;exact gR 3 I<|qJ G (h K G) [];exact gR 6 I<|qJ G (h K G) []
theorem zp(m:Nat)(G:Int)(J:YB)(a:Int)(b E:Bool)(h:y7 b ((a==1)=E)<|y9 G 9 (y9 a 2 (true=E)<|(a==4)=E)<|y9 G 16 (y9 a 1 (true=E)<|(a==3)=E)<|y9 G 10 ((a==5)=E)<|y9 G 11 ((a==6)=E)<|y9 G 21 (∃c,mP J c∧c=E)<|(J==[])=E):gI (m+1) G J a b E:=by
 intro K U;refine qBi 14 rfl rfl rfl h ?_ ?_<;>intro h;refine gR 11 I ?_;subst h;exact qN [.tmp 4];refine gR 7 rfl<|qBeZ 21 22 rfl rfl rfl rfl h ?_ ?_<;>intro h;refine gR 6 rfl<|qBeZ 25 24 rfl rfl rfl rfl h ?_ ?_<;>intro h;refine gR 9 I ?_;subst h;exact qN [.tmp 4];refine gR 9 I ?_;subst h;exact qN [.tmp 4];refine gR 7 rfl<|qBeZ 29 30 rfl rfl rfl rfl h ?_ ?_<;>intro h;refine gR 6 rfl<|qBeZ 33 32 rfl rfl rfl rfl h ?_ ?_<;>intro h;refine gR 9 I ?_;subst h;exact qN [.tmp 4];refine gR 9 I ?_;subst h;exact qN [.tmp 4];refine gR 7 rfl<|qBeZ 37 38 rfl rfl rfl rfl h ?_ ?_<;>intro h;refine gR 11 I ?_;subst h;exact qN [.tmp 4];refine gR 7 rfl<|qBeZ 41 42 rfl rfl rfl rfl h ?_ ?_<;>intro h;refine gR 11 I ?_;subst h;exact qN [.tmp 4];refine gR 7 rfl<|qBeZ 45 46 rfl rfl rfl rfl h ?_ ?_<;>intro h;refine gR 4 I ?_;obtain⟨c,d,h⟩:=h;refine qC0 d I<|gR 6 I ?_;subst h;exact qN [.tmp 4];refine gR 12 I ?_;subst h;exact qN [.tmp 4]
def lg(m:Nat)(E:Tree)(G:Int)(a:Tree)(b J:Bool):Prop:=y4 [] f91 (z6<|.bool J) (cB<|xC<|xF<|xA<|ab f91) [.blk 0,.seq<|xH<|ab f91] 67 [(1,qi G),(5,qi a.kind),(13,qi E.kind),(43,.bool b)] ⟨0,[]⟩
theorem AU(m:Nat)(E:Tree)(G:Int)(J:Bool)(h:∃b,G=((b:Nat):Int)∧∃a,E.kids[b]?=some a∧((E.kind=1)->((a.kind=2)->true=J)∧((a.kind≠2)->(a.kind==3)=J))∧((E.kind≠1)->((E.kind=2)->((G=((E.kids.length:Int)-1))->∃c,dS a.kind c∧c=J)∧((G≠((E.kids.length:Int)-1))->((G=((E.kids.length:Int)-2))->∃d,lm a.kind d∧d=J)∧((G≠((E.kids.length:Int)-2))->(a.kind==4)=J)))∧((E.kind≠2)->((E.kind=3)->lg m E G a true J)∧((E.kind≠3)->((E.kind=4)->lg m E G a true J)∧((E.kind≠4)->lg m E G a (E.kind==8) J))))):qp E G J:=by
 refine⟨I,I,?_⟩;refine qA 67 [] func91 λK U=>?_;refine gR 3 I<|gFP 0 I I I I<|gR 8 I ?_;obtain⟨b,g,h⟩:=h;refine gV 8 (qi ((b:Nat):Int)) I (bc g) I ?_;obtain⟨a,e,h⟩:=h;refine gY (ax (aB e) ac rfl rfl rfl rfl) rfl rfl<|gR 19 rfl<|qXeZ 14 15 rfl rfl rfl rfl h ?_ ?_<;>intro Z h;refine gR 6 rfl<|qXeZ 18 17 rfl rfl rfl rfl h ?_ ?_<;>intro Z h;refine gR 9 I ?_;subst h;exact qN [.tmp 4];refine gR 9 I ?_;subst h;exact qN [.tmp 4];refine gR 7 rfl<|qXeZ 22 23 rfl rfl rfl rfl h ?_ ?_<;>intro Z h;refine gR 13 rfl<|gV 28 (qi (E.kids.length:Int)) rfl (aN<|aO _) rfl<|gLB 27 rfl (aO _) λf=>gR 1 rfl<|gV 29 (qi<|(E.kids.length:Int)-1) rfl (am (by have :=f;omega) rfl) rfl<|gR 4 rfl<|qXeZ 25 30 rfl rfl rfl rfl h ?_ ?_<;>intro Z h;refine gR 4 I ?_;obtain⟨c,i,h⟩:=h;refine qC0 i I<|gR 8 I ?_;subst h;exact qN [.tmp 4];refine gR 6 rfl<|gV 36 (qi (E.kids.length:Int)) rfl (aN<|aO _) rfl<|gR 1 rfl<|gV 37 (qi<|(E.kids.length:Int)-2) rfl (am (by have :=f;omega) rfl) rfl<|gR 4 rfl<|qXeZ 33 38 rfl rfl rfl rfl h ?_ ?_<;>intro Z h;refine gR 4 I ?_;obtain⟨d,j,h⟩:=h;refine qC0 j I<|gR 8 I ?_;subst h;exact qN [.tmp 4];refine gR 14 I ?_;subst h;exact qN [.tmp 4];refine gR 8 rfl<|qXeZ 43 44 rfl rfl rfl rfl h ?_ ?_<;>intro Z h;exact gR 3 I<|qJ U (h K U) [];refine gR 7 rfl<|qXeZ 43 45 rfl rfl rfl rfl h ?_ ?_<;>intro Z h;exact gR 3 I<|qJ U (h K U) [];exact gR 6 I<|qJ U (h K U) []
theorem Ay(m:Nat)(G:Tree)(J:Int)(a:Tree)(c E:Bool)(h:y7 c (∃d,lm a.kind d∧d=E)<|y9 G.kind 16 ((a.kind==17)=E)<|y9 G.kind 21 (∃b,px a.kind b∧y7 b (true=E) (y9 J 0 ((a.kind==21)=E)<|false=E))<|∃e,dS a.kind e∧e=E):lg (m+1) G J a c E:=by
 intro K U;refine qBi 43 rfl rfl rfl h ?_ ?_<;>intro h;refine gR 4 I ?_;obtain⟨d,f,h⟩:=h;refine qC0 f I<|gR 6 I ?_;subst h;exact qN [.tmp 4];refine gR 7 rfl<|qBeZ 49 50 rfl rfl rfl rfl h ?_ ?_<;>intro h;refine gR 11 I ?_;subst h;exact qN [.tmp 4];refine gR 7 rfl<|qBeZ 53 54 rfl rfl rfl rfl h ?_ ?_<;>intro h;refine gR 4 I ?_;obtain⟨b,g,h⟩:=h;refine qC0 g rfl<|gR 1 rfl<|qBiZ 57 56 rfl rfl rfl rfl h ?_ ?_<;>intro h;refine gR 13 I ?_;subst h;exact qN [.tmp 4];refine gR 3 rfl<|qBeZ 60 59 rfl rfl rfl rfl h ?_ ?_<;>intro h;refine gR 10 I ?_;subst h;exact qN [.tmp 4];refine gR 10 I ?_;subst h;exact qN [.tmp 4];refine gR 7 I ?_;obtain⟨e,i,h⟩:=h;refine qC0 i I<|gR 4 I ?_;subst h;exact qN [.tmp 4]
def kh(m:Nat)(E:Tree)(a:Nat)(G:Bool):Prop:=z8 m [] f48 (z6<|.bool G) (xI<|xA<|ab f48) [.blk 0,.seq<|xH<|ab f48] 38 [(1,.box (an E) 0),(21,.row 4<|kidsV E.kids),(22,qi (E.kids.length:Int)),(23,qi (a:Int))] ⟨0,[]⟩
theorem zX(m:Nat)(p0:Tree)(r0:Bool)(h:∃a,mf p0.kind (p0.kids.length:Int) a∧((a<0)->false=r0)∧((¬a<0)->∃b,pB p0.kind p0.text b∧((b=false)->false=r0)∧((b=true)->kh m p0 0 r0))):fP p0 r0:=by
 refine⟨I,I,?_⟩;refine qA 38 [] func48 λK hK=>?_;refine gR 3 I<|gFP 0 I I I I<|gR 11 I<|gV 9 (qi (p0.kids.length:Int)) I (aN<|aO _) I<|gLB 8 I (aO _) λe=>?_;obtain⟨a,c,h⟩:=h;refine qC0 c rfl<|gR 2 rfl<|qXdZ 12 11 rfl rfl rfl rfl h ?_ ?_<;>intro hd h;refine gR 17 I ?_;subst h;exact qN [.tmp 2];refine gR 4 I ?_;obtain⟨b,d,h⟩:=h;refine qC0 d rfl<|gR 4 rfl<|qXh 19 rfl rfl rfl h bz bx ?_ ?_<;>intro hd h;refine gR 8 I ?_;subst h;exact qN [.tmp 2];exact gR 9 I<|gV 22 (qi (p0.kids.length:Int)) I (aN<|aO _) I<|gR 4 I<|go_loop m<|qW hK h []
theorem rH(m:Nat)(E:Tree)(a:Nat)(G:Bool)(h:y6 (a<E.kids.length) (∃d,E.kids[a]?=some d∧∃b,qp E (a:Int) b∧y8 b (false=G) (∃c,fP d c∧y8 c (false=G) (a+1<=9223372036854775807∧kh m E (a+1) G)))<|true=G):kh (m+1) E a G:=by
 refine qj λK Z U i=>?_;refine gR 6 rfl<|qXh 24 rfl rfl rfl h bQ bS ?_ ?_<;>intro J h;refine gR 8 I ?_;obtain⟨d,e,h⟩:=h;refine gY (ax (aB e) ac I I I I) I I<|gR 10 I ?_;obtain⟨b,f,h⟩:=h;refine qC0 f rfl<|gR 2 rfl<|qXhZ 32 31 rfl rfl rfl rfl h bz bx ?_ ?_<;>intro J h;refine gR 15 I<|go_xloopR<|gR 2 I ?_;subst h;exact qN [.tmp 2];refine gR 1 I ?_;obtain⟨c,g,h⟩:=h;refine qC0 g rfl<|gR 4 rfl<|qXh 36 rfl rfl rfl h bz bx ?_ ?_<;>intro J h;refine gR 9 I<|go_xloopR<|gR 2 I ?_;subst h;exact qN [.tmp 2];refine gR 5 I ?_;obtain⟨hb,h⟩:=h;exact gR 1 I<|gV 37 (qi ((a+1:Nat):Int)) I (am (by omega)<|by omega) I<|gR 2 I<|go_xloop<|qW U h [];refine gR 3 I<|go_xloopE<|gR 8 I ?_;subst h;exact qN [.tmp 2]
def gj(m:Nat)(E G:Int)(a:Bool)(J:Int):Prop:=y4 [] f156 (z6<|qi J) (cB<|xC<|xN<|cB<|ab f156) [.blk 0,.seq<|xA<|ab f156] 71 [(1,qi G),(5,qi E),(22,.bool a)] ⟨0,[]⟩
def bn(m:Nat)(E G:Int)(a:Bool)(J:Int):Prop:=y4 [] f156 (z6<|qi J) (cB<|xG<|xF<|cB<|ab f156) [.blk 0,.seq<|xA<|ab f156] 71 [(1,qi G),(5,qi E),(28,.bool a)] ⟨0,[]⟩
theorem xc(m:Nat)(E G J:Int)(h:((E=1)->((0<=G)->3=J)∧((¬0<=G)->(-1)=J))∧((E≠1)->((E=2)->((2<=G)->InI (G-3)∧InI (6+(max 0<|G-3))∧(6+(max 0<|G-3))=J)∧((¬2<=G)->(-1)=J))∧((E≠2)->((E=3)->∃a,ce G 1 3 a∧a=J)∧((E≠3)->((E=4)->gj m E G true J)∧((E≠4)->((E=8)->gj m E G true J)∧((E≠8)->gj m E G (E==22) J)))))):eV E G J:=by
 refine⟨I,I,?_⟩;refine qA 71 [] func156 λK U=>?_;refine gR 18 rfl<|qBeZ 6 7 rfl rfl rfl rfl h ?_ ?_<;>intro h;refine gR 7 rfl<|qBd 9 rfl rfl rfl h ?_ ?_<;>intro h;refine gR 9 I ?_;subst h;exact qN [.tmp 4];refine gR 10 I ?_;subst h;exact qN [.tmp 4];refine gR 7 rfl<|qBeZ 10 11 rfl rfl rfl rfl h ?_ ?_<;>intro h;refine gR 7 rfl<|qBd 13 rfl rfl rfl h ?_ ?_<;>intro h;refine gR 4 I ?_;obtain⟨hb,h⟩:=h;refine gR 1 I<|gV 15 (qi<|G-3) I (am hb I) I<|gR 1 I ?_;obtain⟨hb,h⟩:=h;refine gR 1 I<|gV 17 (qi<|6+(max 0<|G-3)) I (am hb I) I<|gR 6 I ?_;subst h;exact qN [.tmp 4];refine gR 10 I ?_;subst h;exact qN [.tmp 4];refine gR 7 rfl<|qBeZ 18 19 rfl rfl rfl rfl h ?_ ?_<;>intro h;refine gR 4 I ?_;obtain⟨a,b,h⟩:=h;refine qC0 b I<|gR 6 I ?_;subst h;exact qN [.tmp 4];refine gR 8 rfl<|qBeZ 22 23 rfl rfl rfl rfl h ?_ ?_<;>intro h;exact gR 3 I<|qJ U (h K U) [];refine gR 7 rfl<|qBeZ 22 24 rfl rfl rfl rfl h ?_ ?_<;>intro h;exact gR 3 I<|qJ U (h K U) [];exact gR 6 I<|qJ U (h K U) []
theorem vU(m:Nat)(E J:Int)(a:Bool)(U:Int)(h:y7 a (∃b,ce J 1 2 b∧b=U)<|y9 E 5 (bn m E J true U)<|y9 E 6 (bn m E J true U)<|y9 E 7 (bn m E J true U)<|y9 E 9 (bn m E J true U)<|y9 E 10 (bn m E J true U)<|y9 E 11 (bn m E J true U)<|y9 E 12 (bn m E J true U)<|y9 E 13 (bn m E J true U)<|y9 E 14 (bn m E J true U)<|bn m E J (E==15) U):gj (m+1) E J a U:=by
 intro K G;refine qBi 22 rfl rfl rfl h ?_ ?_<;>intro h;refine gR 4 I ?_;obtain⟨b,c,h⟩:=h;refine qC0 c I<|gR 6 I ?_;subst h;exact qN [.tmp 4];refine gR 8 rfl<|qBeZ 28 29 rfl rfl rfl rfl h ?_ ?_<;>intro h;exact gR 3 I<|qJ G (h K G) [];refine gR 7 rfl<|qBeZ 28 30 rfl rfl rfl rfl h ?_ ?_<;>intro h;exact gR 3 I<|qJ G (h K G) [];refine gR 7 rfl<|qBeZ 28 31 rfl rfl rfl rfl h ?_ ?_<;>intro h;exact gR 3 I<|qJ G (h K G) [];refine gR 7 rfl<|qBeZ 28 32 rfl rfl rfl rfl h ?_ ?_<;>intro h;exact gR 3 I<|qJ G (h K G) [];refine gR 7 rfl<|qBeZ 28 33 rfl rfl rfl rfl h ?_ ?_<;>intro h;exact gR 3 I<|qJ G (h K G) [];refine gR 7 rfl<|qBeZ 28 34 rfl rfl rfl rfl h ?_ ?_<;>intro h;exact gR 3 I<|qJ G (h K G) [];refine gR 7 rfl<|qBeZ 28 35 rfl rfl rfl rfl h ?_ ?_<;>intro h;exact gR 3 I<|qJ G (h K G) [];refine gR 7 rfl<|qBeZ 28 36 rfl rfl rfl rfl h ?_ ?_<;>intro h;exact gR 3 I<|qJ G (h K G) [];refine gR 7 rfl<|qBeZ 28 37 rfl rfl rfl rfl h ?_ ?_<;>intro h;exact gR 3 I<|qJ G (h K G) [];exact gR 6 I<|qJ G (h K G) []
theorem vn(m:Nat)(J E:Int)(a:Bool)(G:Int)(h:y7 a (∃b,ce E 0 1 b∧b=G)<|y9 J 16 (y6 (0<=E) (InI (E-1)∧InI (3+(max 0<|E-1))∧(3+(max 0<|E-1))=G)<|(-1)=G)<|y9 J 17 (∃c,ce E 1 0 c∧c=G)<|y9 J 18 (y6 (1<=E) (InI (1+E)∧(1+E)=G)<|(-1)=G)<|y9 J 19 (∃d,ce E 3 3 d∧d=G)<|y9 J 20 (∃e,ce E 2 4 e∧e=G)<|y9 J 21 (∃f,ce E 2 1 f∧f=G)<|(-1)=G):bn (m+1) J E a G:=by
 intro K U;refine qBi 28 rfl rfl rfl h ?_ ?_<;>intro h;refine gR 4 I ?_;obtain⟨b,g,h⟩:=h;refine qC0 g I<|gR 6 I ?_;subst h;exact qN [.tmp 4];refine gR 7 rfl<|qBeZ 41 42 rfl rfl rfl rfl h ?_ ?_<;>intro h;refine gR 7 rfl<|qBd 44 rfl rfl rfl h ?_ ?_<;>intro h;refine gR 4 I ?_;obtain⟨hb,h⟩:=h;refine gR 1 I<|gV 46 (qi (E-1)) I (am hb I) I<|gR 1 I ?_;obtain⟨hb,h⟩:=h;refine gR 1 I<|gV 48 (qi (3+(max 0 (E-1)))) I (am hb I) I<|gR 6 I ?_;subst h;exact qN [.tmp 4];refine gR 10 I ?_;subst h;exact qN [.tmp 4];refine gR 7 rfl<|qBeZ 49 50 rfl rfl rfl rfl h ?_ ?_<;>intro h;refine gR 4 I ?_;obtain⟨c,i,h⟩:=h;refine qC0 i I<|gR 6 I ?_;subst h;exact qN [.tmp 4];refine gR 7 rfl<|qBeZ 53 54 rfl rfl rfl rfl h ?_ ?_<;>intro h;refine gR 7 rfl<|qBd 56 rfl rfl rfl h ?_ ?_<;>intro h;refine gR 4 I ?_;obtain⟨hb,h⟩:=h;refine gR 1 I<|gV 58 (qi (1+E)) I (am hb I) I<|gR 6 I ?_;subst h;exact qN [.tmp 4];refine gR 10 I ?_;subst h;exact qN [.tmp 4];refine gR 7 rfl<|qBeZ 59 60 rfl rfl rfl rfl h ?_ ?_<;>intro h;refine gR 4 I ?_;obtain⟨d,j,h⟩:=h;refine qC0 j I<|gR 6 I ?_;subst h;exact qN [.tmp 4];refine gR 7 rfl<|qBeZ 63 64 rfl rfl rfl rfl h ?_ ?_<;>intro h;refine gR 4 I ?_;obtain⟨e,k,h⟩:=h;refine qC0 k I<|gR 6 I ?_;subst h;exact qN [.tmp 4];refine gR 7 rfl<|qBeZ 67 68 rfl rfl rfl rfl h ?_ ?_<;>intro h;refine gR 4 I ?_;obtain⟨f,l,h⟩:=h;refine qC0 l I<|gR 6 I ?_;subst h;exact qN [.tmp 4];refine gR 10 I ?_;subst h;exact qN [.tmp 4]
theorem xS(m:Nat)(E G U J:Int)(h:((E=G)->U=J)∧((E≠G)->(-1)=J)):ce E G U J:=by
 refine⟨I,I,?_⟩;refine qA 11 [] func184 λK Z=>?_;refine gR 13 rfl<|qBe 9 rfl rfl rfl h ?_ ?_<;>intro h;refine gR 9 I ?_;subst h;exact qN [.tmp 6];refine gR 9 I ?_;subst h;exact qN [.tmp 6]
theorem vr(m:Nat)(E:Int)(G:Bool)(h:((5<=E)->decide (E<=9)=G)∧((¬5<=E)->false=G)):gf E G:=by
 refine⟨I,I,?_⟩;refine qA 9 [] func187 λK J=>?_;refine gR 10 rfl<|qBdZ 5 4 rfl rfl rfl rfl h ?_ ?_<;>intro h;refine gR 7 I ?_;subst h;exact qN [.tmp 2];refine gR 7 I ?_;subst h;exact qN [.tmp 2]
theorem vR(m:Nat)(E:Int)(G:Bool)(h:((10<=E)->((E<=22)->(E !=17)=G)∧((¬E<=22)->false=G))∧((¬10<=E)->false=G)):ek E G:=by
 refine⟨I,I,?_⟩;refine qA 13 [] func186 λK J=>?_;refine gR 10 rfl<|qBdZ 5 4 rfl rfl rfl rfl h ?_ ?_<;>intro h;refine gR 4 rfl<|qBdZ 9 8 rfl rfl rfl rfl h ?_ ?_<;>intro h;refine gR 7 I ?_;subst h;exact qN [.tmp 2];refine gR 7 I ?_;subst h;exact qN [.tmp 2];refine gR 11 I ?_;subst h;exact qN [.tmp 2]
theorem vz(m:Nat)(E:Int)(G:Bool)(h:∃a,ek E a∧((a=true)->((E≠19)->((E≠20)->(E !=21)=G)∧((E=20)->false=G))∧((E=19)->false=G))∧((a=false)->false=G)):gk E G:=by
 refine⟨I,I,?_⟩;refine qA 17 [] func183 λK J=>?_;refine gR 8 I ?_;obtain⟨a,b,h⟩:=h;refine qC0 b rfl<|gR 1 rfl<|qBiZ 5 4 rfl rfl rfl rfl h ?_ ?_<;>intro h;refine gR 4 rfl<|qBhZ 9 8 rfl rfl rfl rfl h ig eP ?_ ?_<;>intro h;refine gR 4 rfl<|qBhZ 13 12 rfl rfl rfl rfl h ig eP ?_ ?_<;>intro h;refine gR 7 I ?_;subst h;exact qN [.tmp 2];refine gR 7 I ?_;subst h;exact qN [.tmp 2];refine gR 11 I ?_;subst h;exact qN [.tmp 2];refine gR 15 I ?_;subst h;exact qN [.tmp 2]
theorem rM(m:Nat)(E:YB)(G:Bool)(h:((E=[43])->true=G)∧((E≠[43])->((E=[45])->true=G)∧((E≠[45])->((E=[42])->true=G)∧((E≠[42])->((E=[60])->true=G)∧((E≠[60])->((E=[61,61])->true=G)∧((E≠[61,61])->false=G)))))):gH E G:=by
 refine⟨I,I,?_⟩;refine qA 10 [] func185 λK J=>?_;refine gR 19 rfl<|qBeZ 4 5 rfl rfl rfl rfl h ?_ ?_<;>intro h;refine gR 12 I ?_;subst h;exact qN [.tmp 2];refine gR 7 rfl<|qBeZ 4 6 rfl rfl rfl rfl h ?_ ?_<;>intro h;refine gR 12 I ?_;subst h;exact qN [.tmp 2];refine gR 7 rfl<|qBeZ 4 7 rfl rfl rfl rfl h ?_ ?_<;>intro h;refine gR 12 I ?_;subst h;exact qN [.tmp 2];refine gR 7 rfl<|qBeZ 4 8 rfl rfl rfl rfl h ?_ ?_<;>intro h;refine gR 12 I ?_;subst h;exact qN [.tmp 2];refine gR 6 rfl<|qBeZ 4 9 rfl rfl rfl rfl h ?_ ?_<;>intro h;refine gR 9 I ?_;subst h;exact qN [.tmp 2];refine gR 10 I ?_;subst h;exact qN [.tmp 2]
def hW(m:Nat)(E:Int)(G:YB)(a:Int)(b J:Bool):Prop:=y4 [] f157 (z6<|.bool J) (cB<|xF<|xA<|ab f157) [.blk 0,.seq<|xH<|ab f157] 51 [(1,.str G),(5,qi a),(8,qi E),(9,.bool b)] ⟨0,[]⟩
def dt(m:Nat)(E:Int)(G:YB)(a:Int)(b J:Bool):Prop:=y4 [] f157 (z6<|.bool J) (cB<|xN<|xA<|ab f157) [.blk 0,.seq<|xH<|ab f157] 51 [(1,.str G),(5,qi a),(8,qi E),(14,.bool b)] ⟨0,[]⟩
theorem tI(m:Nat)(E:Int)(G:YB)(U:Bool)(h:∃a,xV G a∧((E=1)->hW m E G a true U)∧((E≠1)->hW m E G a (E==3) U)):ja E G U:=by
 refine⟨I,I,?_⟩;refine qA 51 [] func157 λK J=>?_;refine gR 8 I ?_;obtain⟨a,b,h⟩:=h;refine qC0 b rfl<|gR 17 rfl<|qBeZ 9 10 rfl rfl rfl rfl h ?_ ?_<;>intro h;exact gR 3 I<|qJ J (h K J) [];exact gR 6 I<|qJ J (h K J) []
theorem sY(m:Nat)(E:Int)(U:YB)(a:Int)(b J:Bool)(h:y7 b ((a==2)=J)<|y9 E 2 (dt m E U a true J)<|y9 E 4 (dt m E U a true J)<|y9 E 12 (dt m E U a true J)<|dt m E U a (E==20) J):hW (m+1) E U a b J:=by
 intro K G;refine qBi 9 rfl rfl rfl h ?_ ?_<;>intro h;refine gR 11 I ?_;subst h;exact qN [.tmp 4];refine gR 8 rfl<|qBeZ 14 15 rfl rfl rfl rfl h ?_ ?_<;>intro h;exact gR 3 I<|qJ G (h K G) [];refine gR 7 rfl<|qBeZ 14 16 rfl rfl rfl rfl h ?_ ?_<;>intro h;exact gR 3 I<|qJ G (h K G) [];refine gR 7 rfl<|qBeZ 14 17 rfl rfl rfl rfl h ?_ ?_<;>intro h;exact gR 3 I<|qJ G (h K G) [];exact gR 6 I<|qJ G (h K G) []
theorem te(m:Nat)(G:Int)(J:YB)(a:Int)(b E:Bool)(h:y7 b ((a==1)=E)<|y9 G 9 (y9 a 2 (true=E)<|(a==4)=E)<|y9 G 16 (y9 a 1 (true=E)<|(a==3)=E)<|y9 G 10 ((a==5)=E)<|y9 G 11 ((a==6)=E)<|y9 G 21 (∃c,gH J c∧c=E)<|(J==[])=E):dt (m+1) G J a b E:=by
 intro K U;refine qBi 14 rfl rfl rfl h ?_ ?_<;>intro h;refine gR 11 I ?_;subst h;exact qN [.tmp 4];refine gR 7 rfl<|qBeZ 21 22 rfl rfl rfl rfl h ?_ ?_<;>intro h;refine gR 6 rfl<|qBeZ 25 24 rfl rfl rfl rfl h ?_ ?_<;>intro h;refine gR 9 I ?_;subst h;exact qN [.tmp 4];refine gR 9 I ?_;subst h;exact qN [.tmp 4];refine gR 7 rfl<|qBeZ 29 30 rfl rfl rfl rfl h ?_ ?_<;>intro h;refine gR 6 rfl<|qBeZ 33 32 rfl rfl rfl rfl h ?_ ?_<;>intro h;refine gR 9 I ?_;subst h;exact qN [.tmp 4];refine gR 9 I ?_;subst h;exact qN [.tmp 4];refine gR 7 rfl<|qBeZ 37 38 rfl rfl rfl rfl h ?_ ?_<;>intro h;refine gR 11 I ?_;subst h;exact qN [.tmp 4];refine gR 7 rfl<|qBeZ 41 42 rfl rfl rfl rfl h ?_ ?_<;>intro h;refine gR 11 I ?_;subst h;exact qN [.tmp 4];refine gR 7 rfl<|qBeZ 45 46 rfl rfl rfl rfl h ?_ ?_<;>intro h;refine gR 4 I ?_;obtain⟨c,d,h⟩:=h;refine qC0 d I<|gR 6 I ?_;subst h;exact qN [.tmp 4];refine gR 12 I ?_;subst h;exact qN [.tmp 4]
def iy(m:Nat)(E:Tree)(G J:Int)(a U:Bool):Prop:=y4 [] f158 (z6<|.bool U) (cB<|xC<|xF<|xA<|ab f158) [.blk 0,.seq<|xH<|ab f158] 62 [(1,qi G),(2,qi J),(12,qi E.kind),(38,.bool a)] ⟨0,[]⟩
theorem yA(m:Nat)(E:Tree)(U G:Int)(J:Bool)(h:((E.kind=1)->((G=2)->true=J)∧((G≠2)->(G==3)=J))∧((E.kind≠1)->((E.kind=2)->((U=((E.kids.length:Int)-1))->∃a,ek G a∧a=J)∧((U≠((E.kids.length:Int)-1))->((U=((E.kids.length:Int)-2))->∃b,gf G b∧b=J)∧((U≠((E.kids.length:Int)-2))->(G==4)=J)))∧((E.kind≠2)->((E.kind=3)->iy m E U G true J)∧((E.kind≠3)->((E.kind=4)->iy m E U G true J)∧((E.kind≠4)->iy m E U G (E.kind==8) J))))):mQ E U G J:=by
 refine⟨I,I,?_⟩;refine qA 62 [] func158 λK Z=>?_;refine gR 3 rfl<|gFP 0 rfl rfl rfl rfl<|gR 8 rfl<|gV 10 (qi (E.kids.length:Int)) rfl (aN<|aO _) rfl<|gLB 9 rfl (aO _) λc=>gR 17 rfl<|qXeZ 13 14 rfl rfl rfl rfl h ?_ ?_<;>intro hd h;refine gR 6 rfl<|qXeZ 17 16 rfl rfl rfl rfl h ?_ ?_<;>intro hd h;refine gR 9 I ?_;subst h;exact qN [.tmp 6];refine gR 9 I ?_;subst h;exact qN [.tmp 6];refine gR 7 rfl<|qXeZ 21 22 rfl rfl rfl rfl h ?_ ?_<;>intro hd h;refine gR 12 rfl<|gV 26 (qi<|(E.kids.length:Int)-1) rfl (am (by have :=c;omega) rfl) rfl<|gR 4 rfl<|qXeZ 24 27 rfl rfl rfl rfl h ?_ ?_<;>intro hd h;refine gR 4 I ?_;obtain⟨a,d,h⟩:=h;refine qC0 d I<|gR 8 I ?_;subst h;exact qN [.tmp 6];refine gR 5 rfl<|gV 32 (qi<|(E.kids.length:Int)-2) rfl (am (by have :=c;omega) rfl) rfl<|gR 4 rfl<|qXeZ 30 33 rfl rfl rfl rfl h ?_ ?_<;>intro hd h;refine gR 4 I ?_;obtain⟨b,e,h⟩:=h;refine qC0 e I<|gR 8 I ?_;subst h;exact qN [.tmp 6];refine gR 14 I ?_;subst h;exact qN [.tmp 6];refine gR 8 rfl<|qXeZ 38 39 rfl rfl rfl rfl h ?_ ?_<;>intro hd h;exact gR 3 I<|qJ Z (h K Z) [];refine gR 7 rfl<|qXeZ 38 40 rfl rfl rfl rfl h ?_ ?_<;>intro hd h;exact gR 3 I<|qJ Z (h K Z) [];exact gR 6 I<|qJ Z (h K Z) []
theorem xR(m:Nat)(J:Tree)(U G:Int)(b E:Bool)(h:y7 b (∃c,gf G c∧c=E)<|y9 J.kind 16 ((G==17)=E)<|y9 J.kind 21 (∃a,gk G a∧y7 a (true=E) (y9 U 0 ((G==21)=E)<|false=E))<|∃d,ek G d∧d=E):iy (m+1) J U G b E:=by
 intro K Z;refine qBi 38 rfl rfl rfl h ?_ ?_<;>intro h;refine gR 4 I ?_;obtain⟨c,e,h⟩:=h;refine qC0 e I<|gR 6 I ?_;subst h;exact qN [.tmp 6];refine gR 7 rfl<|qBeZ 44 45 rfl rfl rfl rfl h ?_ ?_<;>intro h;refine gR 11 I ?_;subst h;exact qN [.tmp 6];refine gR 7 rfl<|qBeZ 48 49 rfl rfl rfl rfl h ?_ ?_<;>intro h;refine gR 4 I ?_;obtain⟨a,f,h⟩:=h;refine qC0 f rfl<|gR 1 rfl<|qBiZ 52 51 rfl rfl rfl rfl h ?_ ?_<;>intro h;refine gR 13 I ?_;subst h;exact qN [.tmp 6];refine gR 3 rfl<|qBeZ 55 54 rfl rfl rfl rfl h ?_ ?_<;>intro h;refine gR 10 I ?_;subst h;exact qN [.tmp 6];refine gR 10 I ?_;subst h;exact qN [.tmp 6];refine gR 7 I ?_;obtain⟨d,g,h⟩:=h;refine qC0 g I<|gR 4 I ?_;subst h;exact qN [.tmp 6]
def fN(m:Nat)(E:Tree)(a:Nat)(G:Bool):Prop:=z8 m [] f109 (z6<|.bool G) (xI<|xA<|ab f109) [.blk 0,.seq<|xH<|ab f109] 45 [(1,.box (an E) 0),(3,qi (a:Int))] ⟨0,[]⟩
theorem wa(m:Nat)(p0:Tree)(r0:Bool)(h:∃a,eV p0.kind (p0.kids.length:Int) a∧((a<0)->false=r0)∧((¬a<0)->∃b,ja p0.kind p0.text b∧((b=false)->false=r0)∧((b=true)->fN m p0 0 r0))):dZ p0 r0:=by
 refine⟨I,I,?_⟩;refine qA 45 [] func109 λK hK=>?_;refine gR 3 I<|gFP 0 I I I I<|gR 11 I<|gV 8 (qi (p0.kids.length:Int)) I (aN<|aO _) I<|gLB 7 I (aO _) λe=>?_;obtain⟨a,c,h⟩:=h;refine qC0 c rfl<|gR 2 rfl<|qXdZ 11 10 rfl rfl rfl rfl h ?_ ?_<;>intro hd h;refine gR 17 I ?_;subst h;exact qN [.tmp 2];refine gR 4 I ?_;obtain⟨b,d,h⟩:=h;refine qC0 d rfl<|gR 4 rfl<|qXh 18 rfl rfl rfl h bz bx ?_ ?_<;>intro hd h;refine gR 8 I ?_;subst h;exact qN [.tmp 2];exact gR 10 I<|go_loop m<|qW hK h []
theorem nf(m:Nat)(E:Tree)(a:Nat)(G:Bool)(h:y6 (a<E.kids.length) (∃d,E.kids[a]?=some d∧∃b,mQ E (a:Int) d.kind b∧y8 b (false=G) (∃e,E.kids[a]?=some e∧∃c,dZ e c∧y8 c (false=G) (fN m E (a+1) G)))<|true=G):fN (m+1) E a G:=by
 refine qj λK Z U l=>?_;refine gR 7 rfl<|gV 22 (qi (E.kids.length:Int)) rfl (aN<|aO _) rfl<|gLB 21 rfl (aO _) λi=>gR 3 rfl<|qXh 23 rfl rfl rfl h bQ bS ?_ ?_<;>intro J h;refine gR 6 I<|qDs [] 19 19<|qDr (qR 0 4 2 [(4,0)]) I I ?_;obtain⟨d,f,h⟩:=h;refine fB 5 I (by kernel_rfl) (ax (aB f) ac I I I I) I I ?_;refine qDr [(6,0),(7,0)] I I ?_;obtain⟨b,j,h⟩:=h;refine bM 8 j (by kernel_rfl) I (by kernel_rfl) I I .rfl I I ?_;refine qDr [(9,0),(10,0)] rfl rfl<|qXhZ 36 35 rfl rfl rfl rfl h bz bx ?_ ?_<;>intro J h;refine qDr ((11,2)::(12,2)::(qR 13 6 0 [])) I I<|qDe<|gR 10 I<|go_xloopR<|gR 2 I ?_;subst h;exact qN [.tmp 2];refine qDr [(11,2),(12,2),(13,0)] I I ?_;obtain⟨e,g,h⟩:=h;refine fB 14 I (by kernel_rfl) (ax (aB g) ac I I I I) I I ?_;refine qDr [(15,0)] I I ?_;obtain⟨c,k,h⟩:=h;refine bM 16 k (by kernel_rfl) I (by kernel_rfl) I I .rfl I I ?_;refine qDr [(17,0),(18,0)] rfl rfl<|qDe<|gR 1 rfl<|qXh 44 rfl rfl rfl h bz bx ?_ ?_<;>intro J h;refine gR 9 I<|go_xloopR<|gR 2 I ?_;subst h;exact qN [.tmp 2];exact gR 7 I<|gV 25 (qi ((a+1:Nat):Int)) I (am (by have :=i;omega)<|by omega) I<|gR 2 I<|go_xloop<|qW U h [];refine gR 3 I<|go_xloopE<|gR 8 I ?_;subst h;exact qN [.tmp 2]
end Go.Proofs.YtehhanlhfdoiaaaGreat
