/- Contracts of the functions that the law reaches, part 2. -/
import Derived.Test.YtehhanlhfdoiaaaGreatBq1
set_option linter.unusedVariables false
set_option linter.unusedSimpArgs false
namespace Go.Proofs.YtehhanlhfdoiaaaGreat
open _root_.Go.Proofs.Tryz
open Go.RowKit
structure Ctx where
 w0:World
 S0:Nat->Prop
 X0:Nat->Prop
 pin:Nat->Option Value
structure Inv (K:Ctx) (S:Nat->Prop) (w:World) (ρ:Nat->Option Value) (h:Nat->Ob):Prop where
 chg:ChgP K.X0 K.w0 w
 s0:∀b,K.S0 b->S b
 s1:∀b,S b->K.S0 b∨K.X0 b∨K.w0.heap.size<=b
 ow:∀id b,own ρ id (h id) b->K.X0 b∨K.w0.heap.size<=b
 pin:∀id x,K.pin id=some x->ρ id=some x
variable{all:Array Oper}{o:Oper}
section
variable{P:Program}{T:Tab}{K:Ctx}{S S':Nat->Prop}{w w':World}{ρ ρ':Nat->Option Value}{h h':Nat->Ob}{a:Act}{n:Nat}{F:Fm}{X:Nat->Prop}
theorem Inv.eff(hi:Inv K S w ρ h)(E:Eff S w w' ρ ρ' h h' X):Inv K S w' ρ' h':=
 ⟨hi.chg.trans E.chg (λb ⟨id,_,hb⟩=>hi.ow id b hb),hi.s0,hi.s1,λid b hb=>by
  rcases E.new id b hb with⟨j,G⟩|G
  ·exact hi.ow j b G
  ·exact .inr (aap hi.chg.size G),λid x hx=>E.up.r _ _ (hi.pin id x hx)⟩
theorem Inv.frz(hr:HRel S w ρ h)(hi:Inv K S w ρ h)(id:Nat):Inv K (λb=>S b∨own ρ id (h id) b) w ρ (bE h id .gone):=
 ⟨hi.chg,λb hb=>.inl (hi.s0 b hb),λb hb=>by
  rcases hb with hb|hb
  ·exact hi.s1 b hb
  ·exact .inr<|hi.ow id b hb,λi b hb=>by
  by_cases E:i=id
  ·subst E;rw[aY]at hb;exact hb.elim
  ·rw[bo _ _ E]at hb;exact hi.ow i b hb,hi.pin⟩
theorem HRel.chg0(hr:HRel S w ρ h)(E:Chg [] w w'):HRel S w' ρ h:=by
 have up:Up S S w w' ρ ρ:=⟨λ_ h=>h,λb _ hb=>E.block b hb (by simp),λ_ _ h=>h⟩;refine⟨λi=>(hr.ob i).up up (λhf=>?_) (λb hb=>E.block b (dd (hr.ob i) hb)<|by simp),hr.sep,hr.dis,hr.slt.up up λb hb=>aaw (hr.slt b hb) E.size⟩;have :=hr.ob i;rw[hf]at this;exact this
theorem Up.chg0(E:Chg [] w w'):Up S S w w' ρ ρ:=⟨λ_ h=>h,λb _ hb=>E.block b hb (by simp),λ_ _ h=>h⟩
theorem Inv.chg0(hi:Inv K S w ρ h)(E:Chg [] w w'):Inv K S w' ρ h:=⟨hi.chg.trans (ChgP.of E) (λb hb=>by simp at hb),hi.s0,hi.s1,hi.ow,hi.pin⟩
theorem HRel.drop(hr:HRel S w ρ h)(J:∀i,h' i=h i∨h' i=.gone):HRel S w ρ h':=by
 have back:∀i b,own ρ i (h' i) b->own ρ i (h i) b:=λi b hb=>by
  rcases J i with e|e
  ·rw[e]at hb;exact hb
  ·rw[e]at hb;exact hb.elim
 refine⟨λi=>?_,λi b hb=>hr.sep i b<|back i b hb,λi j b E G=>hr.dis i j b (back i b E)<|back j b G,hr.slt⟩;rcases J i with e|e
 ·rw[e];exact hr.ob i
 ·rw[e];trivial
theorem Inv.drop(hi:Inv K S w ρ h)(E:∀i,h' i=h i∨h' i=.gone):Inv K S w ρ h':=
 ⟨hi.chg,hi.s0,hi.s1,λi b hb=>by
  rcases E i with e|e
  ·rw[e]at hb;exact hi.ow i b hb
  ·rw[e]at hb;exact hb.elim,hi.pin⟩
theorem Agree.refl:Agree S w w:=λ_ _=>rfl
theorem ti(hr:HRel S w ρ h)(E:Eff S w w' ρ ρ' h h' X):Agree S w w':=λb hb=>E.up.blk b hb<|hr.slt b hb
def bg(F:Fm)(all:Array Oper)(g:Option<|Nat×Bool):Option Bool:=match g with
 |none=>some true
 |some (j,b)=>match(all[j]?).bind (·.dst)with
  |some d=>match F.get d with
   |some (.bool true)=>some b
   |some (.bool false)=>some<|!b
   |some (.tup _)=>some false
   |_=>none
  |none=>none
theorem cu(G:FRel S w ρ a n F){c:Bool}(E:bg F all o.guard=some c):Region.wanted o (yielded all a.tmps)=c:=by
 unfold bg at E;split at E
 ·rename_i J;injection E with E;subst E
  exact sM G.fr (by rw[J];rfl)
 ·rename_i j b J;split at E
  ·rename_i d O;split at E
   ·rename_i hv;obtain⟨x,h1,h2⟩:=G.get d _ hv;simp only[VRel]at h2;subst h2;injection E with E;subst E
    cases b
    ·exact zb G.fr (by rw[J];simp only[xr,tJ,O];simp[fA,h1])
    ·exact sM G.fr (by rw[J];simp only[pU,tJ,O];simp[fA,h1])
   ·rename_i hv;obtain⟨x,h1,h2⟩:=G.get d _ hv;simp only[VRel]at h2;subst h2;injection E with E;subst E
    cases b
    ·exact sM G.fr (by rw[J];simp only[pU,tJ,O];simp[fA,h1])
    ·exact zb G.fr (by rw[J];simp only[xr,tJ,O];simp[fA,h1])
   ·rename_i hv;obtain⟨x,h1,h2⟩:=G.get d _ hv;simp only[VRel]at h2;obtain⟨xs,rfl,_⟩:=h2;injection E with E;subst E
    exact zb G.fr (by rw[J];simp only[xr,tJ,O];simp[fA,h1])
   ·cases E
  ·cases E
end
def Go(P:Program)(K:Ctx)(Q:Exit->Act->World->Prop)(p:EP)(s:List EI)(n:Nat)(F:Fm)(H:Hp):Prop:=
 ∀S w ρ a,HRel S w ρ H.get->Inv K S w ρ H.get->FRel S w ρ a n F->EP.wp P Q p s S w ρ a
def CallR (P:Program) (K:Ctx) (fid:FuncId) (vs:List V) (H:Hp) (L:List Nat) (Post:V->Hp->Prop):Prop:=
  ∀ S w ρ xs,HRel S w ρ H.get->Inv K S w ρ H.get->LRel S w ρ vs xs->Calls P fid xs.toArray w λe w'=>
    ∃x S' ρ' v H',e=.returned x∧Post v H'∧HRel S' w' ρ' H'.get∧Inv K S' w' ρ' H'.get∧Up S S' w w' ρ ρ'∧VRel S' w' ρ' v x∧Ls ρ L w w'
def FP(v:Option V):Option V:=match v with
 |some v=>some v
 |none=>some<|.tup []
variable{S:Nat->Prop}{ρ:Nat->Option Value}
variable{a:Act}
variable{v:V}
variable{i:Nat}
variable{j:Nat}
variable{ed:ED}
variable{fid:FuncId}
variable{w':World}
variable{ρ':Nat->Option Value}
variable{h:Nat->Ob}
section
variable{P:Program}{T:Tab}{K:Ctx}{Q:Exit->Act->World->Prop}{s:List EI}{n:Nat}{F:Fm}{H:Hp}
theorem xe{w:World}:VRel S w ρ (.tup []) undef:=by simp only[VRel];exact⟨[],rfl,by simp[LRel]⟩
theorem tn{w:World}(G:FRel S w ρ a n F)(d:Option Tmp):FRel S w ρ (a.put d undef) n (F.seto d<|some<|.tup []):=
 G.set d (λu E=>by injection E with E;subst E;exact xe)
theorem cX{w:World}{x:Value}(G:FRel S w ρ a n F)(d:Option Tmp)(hx:VRel S w ρ v x):FRel S w ρ (a.put d x) n (F.seto d<|some v):=
 G.set d (λu E=>by injection E with E;subst E;exact hx)
theorem Ko{x y:Code}(k:Go P K Q (.code x) (.seq y::s) n F H):Go P K Q (.code<|.seq x y) s n F H:=λS w ρ a hr hi E=>wp_seq<|k S w ρ a hr hi E
theorem DX{id:Nat}{c:Code}(k:Go P K Q (.code c) (.blk id::s) n F H):Go P K Q (.code<|.block id c) s n F H:=λS w ρ a hr hi E=>wp_block<|k S w ρ a hr hi E
theorem Ho(k:Go P K Q (.ex .normal) s n F H):Go P K Q (.code .skip) s n F H:=λS w ρ a hr hi E=>wp_skip<|k S w ρ a hr hi E
theorem go_ret(k:Go P K Q (.ex .ret) s n F H):Go P K Q (.code .ret) s n F H:=λS w ρ a hr hi E=>wp_ret<|k S w ρ a hr hi E
theorem GP{id:Nat}(k:Go P K Q (.ex<|.exit id) s n F H):Go P K Q (.code<|.exit id) s n F H:=λS w ρ a hr hi E=>wp_exit<|k S w ρ a hr hi E
theorem Mt{l:Nat}(k:Go P K Q (.ex .normal) s n F H):Go P K Q (.code<|.label l) s n F H:=λS w ρ a hr hi E=>wp_label<|k S w ρ a hr hi E
theorem Nh{c:Code}(k:Go P K Q (.code c) (.scp::s) n F H):Go P K Q (.code<|.scope c) s n F H:=λS w ρ a hr hi E=>wp_scope_straight<|k S w ρ a hr hi E
theorem go_loop{c:Code}(j:Nat)(k:Go P K Q (.code c) (.loop c j::s) n F H):Go P K Q (.code<|.loop c) s n F H:=λS w ρ a hr hi hF=>wp_loop_rounds (j+1)<|k S w ρ a hr hi hF
theorem Ed{c:Operand}{x y:Code}(G:aJ F c=some (.bool true))(k:Go P K Q (.code x) s n F H):Go P K Q (.code<|.cond c x y) s n F H:=λS w ρ a hr hi E=>EO E.fr (rF<|aq E G)<|k S w ρ a hr hi E
theorem Fg{c:Operand}{x y:Code}(G:aJ F c=some (.bool false))(k:Go P K Q (.code y) s n F H):Go P K Q (.code<|.cond c x y) s n F H:=λS w ρ a hr hi E=>FI E.fr (rF<|aq E G)<|k S w ρ a hr hi E
theorem go_region{id:Nat}{l:List Oper}(k:Go P K Q (.ops l.toArray l) s n F H):Go P K Q (.code<|.region id l.toArray false) s n F H:=λS w ρ a hr hi E=>wp_region_lit<|k S w ρ a hr hi E
theorem KF(k:Go P K Q (.ex .normal) s n F H):Go P K Q (.ops all []) s n F H:=λS w ρ a hr hi E=>k S w ρ a hr hi E
theorem GH{c:Code}(k:Go P K Q (.code c) s n F H):Go P K Q (.ex .normal) (.seq c::s) n F H:=k
theorem FC{c:Code}(k:Go P K Q (.ex<|.exit i) s n F H):Go P K Q (.ex<|.exit i) (.seq c::s) n F H:=k
theorem FR{c:Code}(k:Go P K Q (.ex .ret) s n F H):Go P K Q (.ex .ret) (.seq c::s) n F H:=k
theorem go_xloop{c:Code}(k:Go P K Q (.code c) (.loop c j::s) n F H):Go P K Q (.ex .normal) (.loop c (j+1)::s) n F H:=λS w ρ a hr hi E=>k S w ρ a hr hi E
theorem go_xloopE{c:Code}(k:Go P K Q (.ex<|.exit i) s n F H):Go P K Q (.ex<|.exit i) (.loop c j::s) n F H:=k
theorem go_xloopR{c:Code}(k:Go P K Q (.ex .ret) s n F H):Go P K Q (.ex .ret) (.loop c j::s) n F H:=k
theorem ET{id:Nat}(k:Go P K Q (.ex .normal) s n F H):Go P K Q (.ex .normal) (.blk id::s) n F H:=k
theorem DJ{id:Nat}(k:Go P K Q (.ex .ret) s n F H):Go P K Q (.ex .ret) (.blk id::s) n F H:=k
theorem EK{id:Nat}(hb:Nat.beq i id=true)(k:Go P K Q (.ex .normal) s n F H):Go P K Q (.ex<|.exit i) (.blk id::s) n F H:=λS w ρ a hr hi E=>by have :=aag hb;subst this;simp only[EP.wp,dR,Exit.inBlock,if_true];exact k S w ρ a hr hi E
theorem FU{id:Nat}(hb:Nat.beq i id=false)(k:Go P K Q (.ex<|.exit i) s n F H):Go P K Q (.ex<|.exit i) (.blk id::s) n F H:=λS w ρ a hr hi E=>by
 simp only[EP.wp,dR,Exit.inBlock,if_neg<|Nat.ne_of_beq_eq_false hb];exact k S w ρ a hr hi E
theorem LD(k:Go P K Q (.ex .normal) s n F H):Go P K Q (.ex .normal) (.scp::s) n F H:=k
theorem MT(k:Go P K Q (.ex<|.exit i) s n F H):Go P K Q (.ex<|.exit i) (.scp::s) n F H:=k
theorem LR(k:Go P K Q (.ex .ret) s n F H):Go P K Q (.ex .ret) (.scp::s) n F H:=k
variable{all:Array Oper}{rest:List Oper}{o:Oper}
theorem Jx(G:bg F all o.guard=some false)(k:Go P K Q (.ops all rest) s n (F.seto o.dst<|some<|.tup []) H):Go P K Q (.ops all<|o::rest) s n F H:=λS w ρ a hr hi E=>by
 show wpList P all (dR P Q s) (o::rest) a w;unfold wpList;rw[cu E G];simp only[aaB,if_false];exact k S w ρ _ hr hi<|tn E o.dst
theorem go_opY(G:bg F all o.guard=some true)(hy:∀S w ρ a,HRel S w ρ H.get->FRel S w ρ a n F->Yld P S w ρ a o.type o.op v)(k:Go P K Q (.ops all rest) s n (F.seto o.dst<|some v) H):Go P K Q (.ops all<|o::rest) s n F H:=λS w ρ a hr hi E=>by
 show wpList P all (dR P Q s) (o::rest) a w;unfold wpList;rw[if_pos<|cu E G];refine .inl ?_;obtain⟨x,h1,h2⟩:=hy S w ρ a hr E;obtain⟨d,op,ty,ps,af,g⟩:=o;unfold Oper.wp;rw[h2 w Agree.refl d ps af g];exact k S w ρ _ hr hi<|cX E d h1
theorem go_opP(E:TabOk P T)(G:bg F all o.guard=some true)(hv:qf T H.get F o.op=some v)(k:Go P K Q (.ops all rest) s n (F.seto o.dst<|some v) H):Go P K Q (.ops all<|o::rest) s n F H:=
 go_opY G (λS w ρ a hr J=>wv E hr J hv) k
theorem go_opD{v:Option V}(U:bg F all o.guard=some true)(Z:∀S w ρ a,HRel S w ρ H.get->FRel S w ρ a n F->Does P S w ρ H.get a o.type o.op v (ed.app H.get H.nx) ed.tch)(hl:ed.ok H.get)(k:Go P K Q (.ops all rest) s n (F.seto o.dst<|FP v)<|H.app ed):Go P K Q (.ops all<|o::rest) s n F H:=λS w ρ a hr hi J=>by
 show wpList P all (dR P Q s) (o::rest) a w;unfold wpList;rw[if_pos<|cu J U];refine .inl ?_;obtain⟨nx,w',ρ',h1,h2,O⟩:=Z S w ρ a hr J;have E:=h2.hr;have G:=hi.eff h2;rw[<-Hp.get_app hl]at E G;obtain⟨d,op,ty,ps,af,g⟩:=o;unfold Oper.wp;rw[h1 d ps af g];cases v with
 |none=>
  subst O;exact k S w' ρ' _ E G<|tn (J.up h2.up) d
 |some v=>
  obtain⟨x,rfl,h4⟩:=O;exact k S w' ρ' _ E G<|cX (J.up h2.up) d h4
theorem go_opE(E:TabOk P T){v:Option V}(G:bg F all o.guard=some true)(hv:pb T H.get F H.nx o.op=some (v,ed))(k:Go P K Q (.ops all rest) s n (F.seto o.dst<|FP v)<|H.app ed):Go P K Q (.ops all<|o::rest) s n F H:=
 go_opD G (λS w ρ a hr J=>zh E hr J H.get_free hv) (uJ hv) k
theorem go_opC{args:List Operand}{tys:Array TypeId}{vs:List V}{Post:V->Hp->Prop}(U:cf P fid=true)(ho:o.op=.call {callee:=.value<|.func fid,args:=args.toArray,argTypes:=tys})(Z:bg F all o.guard=some true)(hv:fF F args=some vs)(hC:CallR P K fid vs H [] Post)
  (k:∀v H',Post v H'->Go P K Q (.ops all rest) s n (F.seto o.dst<|some v) H'):Go P K Q (.ops all<|o::rest) s n F H:=λS w ρ a hr hi E=>by
 show wpList P all (dR P Q s) (o::rest) a w;unfold wpList;rw[if_pos<|cu E Z];refine .inl ?_;obtain⟨xs,h1,h2⟩:=rA E hv;have hc:=hC S w ρ xs hr hi h2;obtain⟨d,op,ty,ps,af,g⟩:=o;simp only at ho;subst ho;have hx:(execOp a.eval ⟨d,.call {callee:=.value<|.func fid,args:=args.toArray,argTypes:=tys},ty,ps,af,g⟩).run P w=.ok (.enter fid xs.toArray) w:=by
  have e:args.toArray.map a.eval=xs.toArray:=by rw[<-E.fr.vals h1];simp
  simp only[execOp,resolve,e];simp[Act.eval,Deferred.ofValue,invoke,mC U]
 unfold Oper.wp;rw[hx,Oper.upon_enter];refine hc.mono λe w1 hR=>?_;obtain⟨x,S',ρ',v,H',rfl,hp,G,J,hu,O,_⟩:=hR;exact k v H' hp S' w1 ρ' _ G J<|cX (E.up hu) d O
theorem GB{id:Nat}{l:List Oper}(L:YN)(m sz:Nat)(hsz:l.length=sz)(G:P.follows .mixedOrders=true)(hs:Region.noSelect l.toArray=true)(k:Go P K Q (.drw l.toArray L m sz<|Array.replicate sz false) s n F H):Go P K Q (.code<|.region id l.toArray true) s n F H:=λS w ρ a hr hi J=>by
 refine wp_region_noPanic (wp_region_any G (Be (B:=Agree S {w with drawn:=w.drawn+1}) (S:=Ls ρ L {w with drawn:=w.drawn+1}) (m:=m) _ _ _ _ ?_));have E:=Chg.drew w;have :=k S {w with drawn:=w.drawn+1} ρ a (hr.chg0 E) (hi.chg0 E) (J.up<|Up.chg0 E) hs;subst hsz;simpa using this
variable{L:YN}{m left i:Nat}{listed:Array Bool}
theorem Fz(E:Region.ready .any all listed=[])(k:Go P K Q (.ex .normal) s n F H):Go P K Q (.drw all L m left listed) s n F H:=λS w ρ a hr hi J _=>by
 have G:=k S w ρ a hr hi J;cases left with
 |zero=>exact⟨E,G⟩
 |succ left=>exact⟨λ_=>G,by rw[E];simp⟩
theorem xn{S':Nat->Prop}{w:World}(E:∀b,S b->S' b)(h1:Agree S w w'):∀x,Agree S' w' x->Agree S w x:=λx hx b hb=>(hx b<|E b hb).trans<|h1 b hb
theorem Ou{w:World}(hρ:∀i x,ρ i=some x->ρ' i=some x)(h1:Ls ρ L w w'):∀x,Ls ρ' L w' x->Ls ρ L w x:=λx hx id hid y b hy hb=>(hx id hid y b (hρ _ _ hy) hb).trans<|h1 id hid y b hy hb
theorem qd{S':Nat->Prop}{w:World}(G:Up S S' w w' ρ ρ')(J:Agree S w w')(E:Ls ρ L w w'∨listed.getD m false=true)(h:wpB P all (NoPanic<|dR P Q s) (Agree S' w') (Ls ρ' L w') m left listed a w'):
  Agree S w w'∧(Ls ρ L w w'∨listed.getD m false=true)∧wpB P all (NoPanic<|dR P Q s) (Agree S w) (Ls ρ L w) m left listed a w':=by
 refine⟨J,E,?_⟩;rcases E with E|E
 ·exact AC (xn G.s J) (λx _=>Ou G.r E x) _ _ _ _ h
 ·
  have key:∀(fuel:Nat) (listed:Array Bool) (a:Act) (w'':World),listed.getD m false=true->wpB P all (NoPanic<|dR P Q s) (Agree S' w') (Ls ρ' L w') m fuel listed a w''->wpB P all (NoPanic<|dR P Q s) (Agree S w) (Ls ρ L w) m fuel listed a w'':=by
   intro fuel
   induction fuel with
   |zero=>intro _ _ _ _ h;exact h
   |succ fuel ih=>
    intro listed a w'' O h;exact⟨h.1,λi hi=>wpOp_mono (λa' U h'=>⟨xn G.s J _ h'.1,.inr<|oO O,ih _ _ _ (oO O) h'.2.2⟩)<|h.2 i hi⟩
  exact key _ _ _ _ E h
theorem pu{w:World}:Ls ρ L w w:=λ_ _ _ _ _ _=>rfl
theorem NI(E:Nat.beq i m=false)(hi:all[i]?=some o)(hf:Region.free .any all listed i=true)(G:(Region.ready .any all listed).contains i=true)(U:bg F all o.guard=some true)(hy:∀S w ρ a,HRel S w ρ H.get->FRel S w ρ a n F->Yld P S w ρ a o.type o.op v)
  (k:Go P K Q (.drw all L m left<|listed.setIfInBounds i true) s n (F.seto o.dst<|some v) H):Go P K Q (.drw all L m (left+1) listed) s n F H:=λS w ρ a hr J O hs=>by
 obtain⟨x,h1,h2⟩:=hy S w ρ a hr O;refine wpB_pure (Nat.ne_of_beq_eq_false E) hi (Region.noSelect_spec hs) (λ_ _ _ h=>h.elim) left listed a w (Region.free_spec hi hf) (by simpa using G) (.inl ⟨cu O U,λw' Z=>?_⟩) Agree.refl (.inl pu)<|k S w ρ _ hr J (cX O o.dst h1) hs;obtain⟨d,op,ty,ps,af,g⟩:=o;exact h2 w' Z d ps af g
theorem Nw(J:TabOk P T)(E:Nat.beq i m=false)(hi:all[i]?=some o)(hf:Region.free .any all listed i=true)(G:(Region.ready .any all listed).contains i=true)(O:bg F all o.guard=some true)(hv:qf T H.get F o.op=some v)
 (k:Go P K Q (.drw all L m left<|listed.setIfInBounds i true) s n (F.seto o.dst<|some v) H):Go P K Q (.drw all L m (left+1) listed) s n F H:=NI E hi hf G O (λS w ρ a hr U=>wv J hr U hv) k
theorem Io(E:Nat.beq i m=false)(hi:all[i]?=some o)(hf:Region.free .any all listed i=true)(G:(Region.ready .any all listed).contains i=true)(U:bg F all o.guard=some false)
  (k:Go P K Q (.drw all L m left<|listed.setIfInBounds i true) s n (F.seto o.dst<|some<|.tup []) H):Go P K Q (.drw all L m (left+1) listed) s n F H:=λS w ρ a hr J O hs=>
 wpB_pure (Nat.ne_of_beq_eq_false E) hi (Region.noSelect_spec hs) (λ_ _ _ h=>h.elim) left listed a w (Region.free_spec hi hf) (by simpa using G) (.inr ⟨cu O U,rfl⟩) Agree.refl (.inl pu) (k S w ρ _ hr J (tn O o.dst) hs)
def vx(F:Fm)(op:Op):Option Nat:=match op with
 |.load _ x=>match aJ F x with
  |some (.ptr id _)=>some id
  |some (.el id _ _ _)=>some id
  |_=>none
 |_=>none
theorem Jv (hT:TabOk P T) {S:Nat->Prop} {w:World} {ρ:Nat->Option Value} {h:Nat->Ob} {a:Act} {op:Op} {ty:TypeId} {id nid:Nat} {v:V} {ed:ED} (hr:HRel S w ρ h) (hF:FRel S w ρ a n F) (hid:vx F op=some id) (hv:pb T h F nid op=some (some v,ed)):
  ∃x u b,VRel S w ρ v x∧ρ id=some u∧tp u=some b∧∀w',w'.heap[b]?=w.heap[b]?->Runs P a ty op w' (.value x) w':=by
 have fr:=hF.fr;unfold vx at hid;split at hid
 ·rename_i t x;unfold pb at hv;simp only at hv;split at hid
  ·rename_i id' o' hx;injection hid with hid;subst hid
   rw[hx]at hv;simp only at hv;split at hv
   ·rename_i d hd;split at hv
    ·rename_i ho;split at hv
     ·rename_i u hu;simp only[aab,Prod.mk.injEq]at hv;obtain⟨rfl,rfl⟩:=hv;rcases ro (hT.ty _ _ hd) hu with⟨h1,h2⟩|⟨h1,h2,rfl⟩
      ·obtain⟨b,y,g1,g2,g3,g4⟩:=Hh (P:=P) (ty:=ty) hr fr (aq hF hx) ho h1 h2;exact⟨y,_,b,g3,g1,I,λw' hw=>g4 w'<|(World.cell?_of_block (a:=⟨b,_,none⟩) hw).trans g2⟩
      ·obtain⟨b,ys,g1,g2,g3,g4⟩:=Ei (P:=P) (ty:=ty) hr fr (aq hF hx) ho h1 h2;exact⟨_,_,b,by simp only[VRel];exact⟨ys,rfl,g3⟩,g1,rfl,λw' hw=>g4 w' λj hj=>(World.cell?_of_block (a:=⟨b,_,none⟩) hw).trans<|g2 j hj⟩
     ·cases hv
    ·cases hv
   ·cases hv
  ·rename_i id' sz i' o' hx;injection hid with hid;subst hid
   rw[hx]at hv;simp only at hv;split at hv
   ·rename_i d hd;split at hv
    ·rename_i ho;split at hv
     ·rename_i hb;have :=aag hb;subst this;split at hv
      ·rename_i v0 hi;rw[qD]at hi;split at hv
       ·rename_i u hu;simp only[aab,Prod.mk.injEq]at hv;obtain⟨rfl,rfl⟩:=hv;have hbk:∀(q:Value) (b:Nat),q.ownBlock=some b->tp q=some b:=λq b hq=>by
         cases q<;>first|(simp only[Value.ownBlock]at hq;cases hq;done)|skip
         rename_i A _ _;cases A<;>simp_all[Value.ownBlock,tp]
        rcases ro (hT.ty _ _ hd) hu with⟨h1,h2⟩|⟨h1,h2,rfl⟩
        ·obtain⟨b,q,y,g1,g1',g2,g3,g4⟩:=Fl (P:=P) (ty:=ty) hr fr (aq hF hx) ho h1 hi h2;exact⟨y,q,b,g3,g1,hbk q b g1',λw' hw=>g4 w'<|(World.cell?_of_block (a:=⟨b,_,none⟩) hw).trans g2⟩
        ·obtain⟨b,q,ys,g1,g1',g2,g3,g4⟩:=CY (P:=P) (ty:=ty) hr fr (aq hF hx) ho h1 hi h2;exact⟨_,q,b,by simp only[VRel];exact⟨ys,rfl,g3⟩,g1,hbk q b g1',λw' hw=>g4 w' λj hj=>(World.cell?_of_block (a:=⟨b,_,none⟩) hw).trans<|g2 j hj⟩
       ·cases hv
      ·cases hv
     ·cases hv
    ·cases hv
   ·cases hv
  ·cases hid
 ·cases hid
theorem No(hT:TabOk P T){v:V}{id:Nat}{ed:ED}(E:Nat.beq i m=false)(G:zx .any all m i=true)(J:listed.getD m false=false)(hi:all[i]?=some o)(hf:Region.free .any all listed i=true)(O:(Region.ready .any all listed).contains i=true)(hw:bg F all o.guard=some true)
  (hid:vx F o.op=some id) (hL:L.contains id=true) (hv:pb T H.get F H.nx o.op=some (some v,ed))
  (k:Go P K Q (.drw all L m left<|listed.setIfInBounds i true) s n (F.seto o.dst<|some v) H):Go P K Q (.drw all L m (left+1) listed) s n F H:=λS w ρ a hr U Z hs=>by
 obtain⟨x,u,b,h1,h2,h3,h4⟩:=Jv (ty:=o.type) hT hr Z hid hv;refine FS (Nat.ne_of_beq_eq_false E) G hi (Region.noSelect_spec hs) (λ_ _ _ h=>h.elim) left listed a w (Region.free_spec hi hf) (by simpa using O) (.inl ⟨cu Z hw,λw' hA=>?_⟩) Agree.refl pu J<|k S w ρ _ hr U (cX Z o.dst h1) hs;have hb:=hA.2 id (by simpa using hL) u b h2 h3;obtain⟨d,op,ty,ps,af,g⟩:=o;exact h4 w' hb d ps af g
def cS(h:Nat->Ob):YN->Bool
 |[]=>true
 |i::r=>match h i with
  |.var _ _=>cS h r
  |.row _ _ _=>cS h r
  |.mps _ _ _ _=>cS h r
  |_=>false
theorem mE{S:Nat->Prop}{w:World}{ρ:Nat->Option Value}{h:Nat->Ob}(hr:HRel S w ρ h):∀{L:YN},cS h L=true->∀id,id∈L->∀x b,ρ id=some x->tp x=some b->own ρ id (h id) b
 |[],_,id,hid,x,b,hx,hb=>by simp at hid
 | j::r,hl,id,hid,x,b,hx,hb=>by
  have hown:∀o,h j=o->(∃t cs,o=.var t cs)∨(∃e sz els,o=.row e sz els)∨(∃e kt et ms,o=.mps e kt et ms)->∀x b,ρ j=some x->tp x=some b->own ρ j (h j) b:=by
   rintro o ho (⟨t,cs,rfl⟩|⟨e,sz,els,rfl⟩|⟨e,kt,et,ms,rfl⟩) x b hx hb
   ·obtain⟨c,xs,g1,_⟩:=sm hr ho;rw[g1]at hx;cases hx;simp only[tp,aab]at hb;subst hb;rw[ho];exact g1
   ·obtain⟨v,xs,g1,g2,_⟩:=lG hr ho;rw[g1]at hx;cases hx;rw[ho];refine⟨_,g1,?_⟩;obtain⟨A,c,rfl,_⟩:=cq g2;cases A<;>simp_all[Value.ownBlock,tp]
   ·have h0:=hr.ob j;rw[ho]at h0;obtain⟨v,bs,g1,g2,_⟩:=h0;rw[g1]at hx;cases hx;rw[ho];refine⟨_,g1,.inl ⟨v,by simp,?_⟩⟩;obtain⟨A,c,rfl,_⟩:=cq g2;cases A<;>simp_all[Value.ownBlock,tp]
  simp only[cS]at hl;rcases List.mem_cons.1 hid with e|e
  ·subst e;split at hl
   ·rename_i t cs ho;exact hown _ ho (.inl ⟨t,cs,rfl⟩) x b hx hb
   ·rename_i e sz els ho;exact hown _ ho (.inr<|.inl ⟨e,sz,els,rfl⟩) x b hx hb
   ·rename_i e kt et ms ho;exact hown _ ho (.inr<|.inr ⟨e,kt,et,ms,rfl⟩) x b hx hb
   ·cases hl
  ·split at hl
   ·exact mE hr hl id e x b hx hb
   ·exact mE hr hl id e x b hx hb
   ·exact mE hr hl id e x b hx hb
   ·cases hl
def ED.clear(L:YN):ED->Bool
 |.nop=>true
 |.new _=>true
 |.set id _=>!L.contains id
 |.repl id _=>!L.contains id
 |.repl2 id E _=>!L.contains id&&!L.contains E
theorem DR{w:World}{h':Nat->Ob}(hr:HRel S w ρ h)(O:Eff S w w' ρ ρ' h h' ed.tch)(U:cS h L=true)(G:ed.clear L=true):Ls ρ L w w':=λid hid x b hx hb=>by
 have ho:=mE hr U id hid x b hx hb;refine O.chg.block b (dd (hr.ob id) ho) ?_;rintro⟨j,E,J⟩;have e:=hr.dis j id b J ho;subst e;cases ed with
 |nop=>exact E
 |new _=>exact E
 |set k _=>simp only[ED.tch]at E;subst E;simp[ED.clear]at G;exact G hid
 |repl k _=>simp only[ED.tch]at E;subst E;simp[ED.clear]at G;exact G hid
 |repl2 k Z _=>simp only[ED.tch]at E;simp[ED.clear]at G;exact E.elim (λe=>G.1 (e▸hid)) λe=>G.2 (e▸hid)
theorem yZ{a b:Bool}(h:(a||b)=true):a=true∨b=true:=by simpa using h
theorem rt{S:Nat->Prop}{B:World->Prop}{Sx:World->Prop}{w:World}{Q':Exit->Act->World->Prop}(E:Region.ready .any all listed=[i])(O:wpOp P all Q' i (λa' w'=>B w'∧(Sx w'∨(listed.setIfInBounds i true).getD m false=true)∧wpB P all Q' B Sx m left (listed.setIfInBounds i true) a' w') a w):wpB P all Q' B Sx m (left+1) listed a w:=by
 refine⟨λG=>(by rw[E]at G;cases G),λj J=>?_⟩;rw[E]at J;obtain rfl:j=i:=by simpa using J
 exact O
theorem go_d1S(E:Region.ready .any all listed=[i])(hi:all[i]?=some o)(O:bg F all o.guard=some false)(k:Go P K Q (.drw all L m left<|listed.setIfInBounds i true) s n (F.seto o.dst<|some<|.tup []) H):Go P K Q (.drw all L m (left+1) listed) s n F H:=λS w ρ a hr G J hs=>by refine rt (S:=S) E ?_;unfold wpOp;simp only[hi];rw[cu J O];simp only[aaB,if_false];exact⟨Agree.refl,.inl pu,k S w ρ _ hr G (tn J o.dst) hs⟩
theorem Kg(E:Region.ready .any all listed=[i])(hi:all[i]?=some o)(O:bg F all o.guard=some true)(hy:∀S w ρ a,HRel S w ρ H.get->FRel S w ρ a n F->Yld P S w ρ a o.type o.op v)
  (k:Go P K Q (.drw all L m left<|listed.setIfInBounds i true) s n (F.seto o.dst<|some v) H):Go P K Q (.drw all L m (left+1) listed) s n F H:=λS w ρ a hr G J hs=>by
 refine rt (S:=S) E ?_;obtain⟨x,h1,h2⟩:=hy S w ρ a hr J;unfold wpOp;simp only[hi];rw[if_pos<|cu J O];refine .inl ?_;have U:=k S w ρ _ hr G (cX J o.dst h1) hs;obtain⟨d,op,ty,ps,af,g⟩:=o;unfold Oper.wp;rw[h2 w Agree.refl d ps af g];exact⟨Agree.refl,.inl pu,U⟩
theorem DK{v:Option V}(U:Region.ready .any all listed=[i])(hi:all[i]?=some o)(hw:bg F all o.guard=some true)(hd:∀S w ρ a,HRel S w ρ H.get->FRel S w ρ a n F->Does P S w ρ H.get a o.type o.op v (ed.app H.get H.nx) ed.tch)(hl:ed.ok H.get)
  (hc:((cS H.get L&&ed.clear L)||(listed.setIfInBounds i true).getD m false)=true) (k:Go P K Q (.drw all L m left<|listed.setIfInBounds i true) s n (F.seto o.dst<|FP v)<|H.app ed):Go P K Q (.drw all L m (left+1) listed) s n F H:=λS w ρ a hr Z O hs=>by
 refine rt (S:=S) U ?_;obtain⟨nx,w',ρ',h1,h2,h3⟩:=hd S w ρ a hr O;have E:=h2.hr;have G:=Z.eff h2;rw[<-Hp.get_app hl]at E G;have hA:=ti hr h2;have J:Ls ρ L w w'∨(listed.setIfInBounds i true).getD m false=true:=(yZ hc).imp (λh=>by simp only[aaa]at h;exact DR hr h2 h.1 h.2) id
 unfold wpOp;simp only[hi];rw[if_pos<|cu O hw];refine .inl ?_;have kN:=λ(e:v=none)=>k S w' ρ' (a.put o.dst undef) E G (by subst e;exact tn (O.up h2.up) o.dst) hs;have kV:=λ(x:Value) (u:V) (e:v=some u) (hx:VRel S w' ρ' u x)=>k S w' ρ' (a.put o.dst x) E G (by subst e;exact cX (O.up h2.up) o.dst hx) hs;obtain⟨d,op,ty,ps,af,g⟩:=o;unfold Oper.wp;rw[h1 d ps af g];cases v with
 |none=>
  subst h3;exact qd h2.up hA J<|kN I
 |some v=>
  obtain⟨x,rfl,h4⟩:=h3;exact qd h2.up hA J<|kV x v I h4
theorem go_d1C{args:List Operand}{tys:Array TypeId}{vs:List V}{Post:V->Hp->Prop}{L':YN}(he:cf P fid=true)(G:Region.ready .any all listed=[i])(hi:all[i]?=some o)(ho:o.op=.call {callee:=.value<|.func fid,args:=args.toArray,argTypes:=tys})(hw:bg F all o.guard=some true)(hv:fF F args=some vs)(hC:CallR P K fid vs H L' Post)
  (hc:L'=L∨(listed.setIfInBounds i true).getD m false=true) (k:∀v H',Post v H'->Go P K Q (.drw all L m left<|listed.setIfInBounds i true) s n (F.seto o.dst<|some v) H'):Go P K Q (.drw all L m (left+1) listed) s n F H:=λS w ρ a hr J E hs=>by
 refine rt (S:=S) G ?_;obtain⟨xs,h1,h2⟩:=rA E hv;have O:=hC S w ρ xs hr J h2;unfold wpOp;simp only[hi];rw[if_pos<|cu E hw];refine .inl ?_;obtain⟨d,op,ty,ps,af,g⟩:=o;simp only at ho;subst ho;have hx:(execOp a.eval ⟨d,.call {callee:=.value<|.func fid,args:=args.toArray,argTypes:=tys},ty,ps,af,g⟩).run P w=.ok (.enter fid xs.toArray) w:=by
  have e:args.toArray.map a.eval=xs.toArray:=by rw[<-E.fr.vals h1];simp
  simp only[execOp,resolve,e];simp[Act.eval,Deferred.ofValue,invoke,mC he]
 unfold Oper.wp;rw[hx,Oper.upon_enter];refine O.mono λe w1 hR=>?_;obtain⟨x,S',ρ',v,H',rfl,hp,U,Z,hu,hvr,hls⟩:=hR;have hk:=k v H' hp S' w1 ρ' _ U Z (cX (E.up hu) d hvr) hs;exact qd hu (λb hb=>hu.blk b hb<|hr.slt b hb) (hc.imp (λe=>by subst e;exact hls) id) hk
end
variable{H:Hp}{fn:Func}{vs:List V}
variable{t:TypeId}{b:Nat}{cs:List V}
section
variable{P:Program}{T:Tab}{K:Ctx}{Q:Exit->Act->World->Prop}{s:List EI}{n:Nat}{F:Fm}{S S':Nat->Prop}{w w':World}{ρ ρ':Nat->Option Value}{h h1 h1' h2:Nat->Ob}{a:Act}
theorem DI(hr:HRel S w ρ h)(hi:Inv K S w ρ h)(hh1:∀i,h1 i=h i∨h1 i=.gone)(J:HRel S' w' ρ' h1')(E:Inv ⟨w,S,λb=>∃id,own ρ id (h1 id) b,ρ⟩ S' w' ρ' h1')
  (hh2:∀i,(h2 i=h1' i∨h2 i=.gone)∨(h2 i=h i∧h1 i=.gone∧h i≠.free)):
  HRel S' w' ρ' h2∧Inv K S' w' ρ' h2∧Up S S' w w' ρ ρ'∧∀L,cS h L=true->(∀id,id∈L->h1 id=.gone)->Ls ρ L w w':=by
 have h1own:∀id b,own ρ id (h1 id) b->own ρ id (h id) b:=λid b hb=>by
  rcases hh1 id with e|e
  ·rw[e]at hb;exact hb
  ·rw[e]at hb;exact hb.elim
 have up:Up S S' w w' ρ ρ':=⟨E.s0,λb hb hlt=>E.chg.block b hlt λ⟨id,ho⟩=>hr.sep id b (h1own id b ho) hb,E.pin⟩;have frame:∀i b,h1 i=.gone->own ρ i (h i) b->¬∃id,own ρ id (h1 id) b:=λi b U ho ⟨id,hid⟩=>by
  have e:=hr.dis i id b ho<|h1own id b hid;subst e;rw[U]at hid;exact hid.elim
 have cases2:∀i b,own ρ' i (h2 i) b->own ρ' i (h1' i) b∨(h1 i=.gone∧own ρ i (h i) b):=λi b hb=>by
  rcases hh2 i with(e|e)|⟨e,e1,e2⟩
  ·rw[e]at hb;exact .inl hb
  ·rw[e]at hb;exact hb.elim
  ·rw[e]at hb;exact .inr ⟨e1,FJ E.pin (hr.ob i) hb⟩
 have far:∀i b,h1 i=.gone->own ρ i (h i) b->¬S' b:=λi b U ho hS=>by
  rcases E.s1 b hS with G|G|G
  ·exact hr.sep i b ho G
  ·exact frame i b U ho G
  ·have :=dd (hr.ob i) ho;simp only at G;omega
 have apart:∀i j b,own ρ' i (h1' i) b->h1 j=.gone->own ρ j (h j) b->False:=λi j b ho U hb=>by
  rcases E.ow i b ho with G|G
  ·exact frame j b U hb G
  ·have :=dd (hr.ob j) hb;simp only at G;omega
 refine⟨⟨λi=>?_,λi b hb=>?_,λi j b hbi hbj=>?_,J.slt⟩,⟨?_,λb hb=>E.s0 b<|hi.s0 b hb,λb hb=>?_,λi b hb=>?_,λid x hx=>E.pin _ _<|hi.pin id x hx⟩,up,λL hl U id hid x b hx hb=>?_⟩
 ·rcases hh2 i with(e|e)|⟨e,e1,e2⟩
  ·rw[e];exact J.ob i
  ·rw[e];trivial
  ·rw[e];exact(hr.ob i).up up (λhf=>absurd hf e2) λb hb=>E.chg.block b (dd (hr.ob i) hb)<|frame i b e1 hb
 ·rcases cases2 i b hb with G|⟨G,Z⟩
  ·exact J.sep i b G
  ·exact far i b G Z
 ·rcases cases2 i b hbi with G|⟨G,Z⟩<;>rcases cases2 j b hbj with O|⟨O,h6⟩
  ·exact J.dis i j b G O
  ·exact(apart i j b G O h6).elim
  ·exact(apart j i b O G Z).elim
  ·exact hr.dis i j b Z h6
 ·refine hi.chg.trans E.chg ?_;rintro b ⟨id,ho⟩;exact hi.ow id b<|h1own id b ho
 ·rcases E.s1 b hb with G|⟨id,G⟩|G
  ·exact hi.s1 b G
  ·exact .inr<|hi.ow id b<|h1own id b G
  ·exact .inr<|.inr<|aap hi.chg.size G
 ·rcases cases2 i b hb with G|⟨G,Z⟩
  ·rcases E.ow i b G with⟨id,O⟩|O
   ·exact hi.ow id b<|h1own id b O
   ·exact .inr<|aap hi.chg.size O
  ·exact hi.ow i b Z
 ·have ho:=mE hr hl id hid x b hx hb;exact E.chg.block b (dd (hr.ob id) ho)<|frame id b (U id hid) ho
def nZ:Nat->List V->Fm
 |0,_=>[]
 |n+1,[]=>none::nZ n []
 |n+1,v::r=>some v::nZ n r
theorem Aw:∀(n:Nat) (vs:List V),(nZ n vs).length=n
 |0,_=>rfl
 |n+1,[]=>by simp[nZ,Aw n []]
 |n+1,v::r=>by simp[nZ,Aw n r]
theorem zY:∀(n:Nat) (vs:List V) (i:Nat) (v:V),(nZ n vs).get i=some v->vs[i]?=some v
 |0,_,i,v,h=>by simp[nZ,Fm.get]at h
 |n+1,[],0,v,h=>by simp[nZ,Fm.get]at h
 |n+1,[],i+1,v,h=>by have :=zY n [] i v (by simpa[nZ,Fm.get]using h);simp at this
 |n+1,u::r,0,v,h=>by simpa[nZ,Fm.get]using h
 |n+1,u::r,i+1,v,h=>by have :=zY n r i v (by simpa[nZ,Fm.get]using h);simpa using this
theorem Av{c:Code}{xs:List Value}{R:Ending->World->Prop}(hf:P.funcs[fid]?=some fn)(hb:fn.body=some c)(G:Nat.ble vs.length fn.ntmps=true)(hr:HRel S w ρ H.get)(hi:Inv K S w ρ H.get)(hx:LRel S w ρ vs xs)
  (k:Go P K (bodyPost P fn R) (.code c) [] fn.ntmps (nZ fn.ntmps vs) H):Calls P fid xs.toArray w R:=by
 refine calls_of_wp hf hb<|k S w ρ _ hr hi ⟨?_,I,hr.slt.gl,?_,λi v hv=>?_⟩
 ·have h1:vs.length<=fn.ntmps:=Nat.le_of_ble_eq_true G;have h2:=hx.length;simp;omega
 ·exact Nat.le_of_eq<|Aw _ _
 ·have h1:=zY _ _ _ _ hv;obtain⟨x,h2,J⟩:=hx.get h1;refine⟨x,?_,J⟩;have E:i<xs.length:=(List.getElem?_eq_some_iff.1 h2).1;show(xs.toArray++Array.replicate (fn.ntmps-xs.toArray.size) undef)[i]?=some x;rw[Array.getElem?_append_left<|by simpa using E];simpa using h2
def IY (T:Tab) (h:Nat->Ob) (F:Fm):ResultVar->Option V
 |.tmp t=>F.get t
 |.cell t ty=>match T.ty ty with
  |some d=>match F.get t with
   |some (.ptr id 0)=>match h id with
    |.var _ cs=>rH d cs 0
    |_=>none
   |some (.box cs 0)=>rH d cs 0
   |_=>none
  |none=>none
def tH(T:Tab)(h:Nat->Ob)(F:Fm):List ResultVar->Option (List V)
 |[]=>some []
 |x::r=>match IY T h F x with
  |some v=>match tH T h F r with
   |some vs=>some<|v::vs
   |none=>none
  |none=>none
def pf:List V->V
 |[v]=>v
 |vs=>.tup vs
theorem FM{d:TD}(td:TdOk P t d){off:Nat}{xs:List Value}(E:LRel S w ρ cs xs)(G:∀j,j<xs.length->w.cell? ⟨b,off+j,none⟩=xs[j]?)(hv:rH d cs 0=some v):∃y,(loadVar t ⟨b,off,none⟩).run P w=.ok y w∧VRel S w ρ v y:=by
 have J:=E.length;rcases ro td hv with⟨h1,h2⟩|⟨h1,h2,rfl⟩
 ·obtain⟨y,O,U⟩:=E.get h2;have Z:0<xs.length:=(List.getElem?_eq_some_iff.1 O).1;have :=Cv (P:=P) (w:=w) (p:=⟨b,off,none⟩) h1 (by have :=G 0 Z;rw[Nat.add_zero]at this;rw[this,O]);refine⟨y,?_,U⟩;simp only[Instr.loadAt,Instr.sureAddr]at this;simpa using this
 ·have :=yU (P:=P) (w:=w) (b:=b) (o:=off) (cs:=xs.take d.size) h1 (by simp;omega) (λj hj=>by rw[G j (by omega),List.getElem?_take,if_pos hj]);refine⟨_,?_,by simp only[VRel];exact⟨xs.take d.size,rfl,by simpa using E.take d.size⟩⟩;simp only[Instr.loadAt,Instr.sureAddr]at this;simpa using this
theorem Lz(U:TabOk P T)(hr:HRel S w ρ h)(E:FRel S w ρ a n F){x:ResultVar}(hv:IY T h F x=some v):∃y,(pL a x).run P w=.ok y w∧VRel S w ρ v y:=by
 unfold IY at hv;split at hv
 ·rename_i t;obtain⟨y,h1,h2⟩:=E.get t v hv;exact⟨y,by simp[pL,Array.getD_eq_getD_getElem?,h1],h2⟩
 ·rename_i t ty;split at hv
  ·rename_i d Z;split at hv
   ·rename_i id hid;split at hv
    ·rename_i ho;obtain⟨b,xs,g1,g2,G⟩:=sm hr ho;obtain⟨y,h1,h2⟩:=E.get t _ hid;simp only[VRel]at h2;obtain⟨b',J,rfl⟩:=h2;rw[g1]at J;simp only[aab,Value.pointer.injEq,Addr.mk.injEq,and_true]at J;subst J;obtain⟨z,k1,O⟩:=FM (U.ty _ _ Z) G (b:=b) (off:=0) (λj hj=>by rw[Nat.zero_add,g2.cell]) hv;exact⟨z,by simp[pL,Array.getD_eq_getD_getElem?,h1,asAddr,k1],O⟩
    ·cases hv
   ·rename_i cs hid;obtain⟨y,h1,h2⟩:=E.get t _ hid;simp only[VRel]at h2;obtain⟨b,off,xs,rfl,_,_,G,g4⟩:=h2;obtain⟨z,k1,O⟩:=FM (U.ty _ _ Z) G (b:=b) (off:=off) g4 hv;exact⟨z,by simp[pL,Array.getD_eq_getD_getElem?,h1,asAddr,k1],O.up up0⟩
   ·cases hv
  ·cases hv
theorem GW(hT:TabOk P T)(hr:HRel S w ρ h)(hF:FRel S w ρ a n F):∀{l:List ResultVar} {vs:List V},tH T h F l=some vs->∃ys,(l.mapM<|pL a).run P w=.ok ys w∧LRel S w ρ vs ys
 |[],vs,hv=>by simp only[tH,aab]at hv;subst hv;exact⟨[],by simp,by simp[LRel]⟩
 | x::r,vs,hv=>by
  simp only[tH]at hv;split at hv
  ·rename_i v h1;split at hv
   ·rename_i us h2;simp only[aab]at hv;subst hv;obtain⟨y,g1,g2⟩:=Lz hT hr hF h1;obtain⟨ys,g3,g4⟩:=GW hT hr hF h2;exact⟨y::ys,by simp[List.mapM_cons,g1,g3],⟨y,ys,rfl,g2,g4⟩⟩
   ·cases hv
  ·cases hv
theorem Hd{ys:List Value}(E:LRel S w ρ vs ys):VRel S w ρ (pf vs) (st ys):=by
 match vs,ys,E with
 |[],ys,E=>simp only[LRel]at E;subst E;simp only[pf,st,VRel];exact⟨[],rfl,by simp[LRel]⟩
 |[v],ys,E=>
  simp only[LRel]at E;obtain⟨x,zs,rfl,h1,rfl⟩:=E;exact h1
 |v::u::r,ys,E=>
  have G:=E;simp only[LRel]at E;obtain⟨x,zs,rfl,h1,y,zs',rfl,h2,J⟩:=E;simp only[pf,st,VRel];exact⟨_,I,G⟩
theorem ret_go(J:TabOk P T){R:Ending->World->Prop}{rs:List ResultVar}{e:Exit}(O:e=.ret∨e=.normal)(E:fn.results=rs.toArray)(hr:HRel S w ρ h)(G:FRel S w ρ a n F)(hv:tH T h F rs=some vs)(U:∀x,VRel S w ρ (pf vs) x->R (.returned x) w):bodyPost P fn R e a w:=by
 obtain⟨ys,Z,h1⟩:=GW J hr G hv;have hb:bodyPost P fn R .ret a w:=by
  refine bodyPost_ret (v:=st ys) ?_ G.defers<|U _<|Hd h1;have e:(Array.mapM (pL a) rs.toArray).run P w=.ok ys.toArray w:=by rw[List.mapM_toArray];simp[Z]
  unfold results;rw[E];change ((Array.mapM (pL a) rs.toArray)>>=λvs=>pure (if h:vs.size=1 then vs[0]else .tuple vs)).run P w=_;simp only[Sem.run_bind,e,Result.andThen_ok,Sem.run_pure]
  match ys with
  |[]=>rfl
  |[v]=>rfl
  |v::u::r=>simp[st]
 rcases O with rfl|rfl
 ·exact hb
 ·exact hb
end
def IA(d:Nat):Operand->Bool
 |.tmp t=>!Nat.beq t d
 |_=>true
def wj(d:Option Tmp)(ps:List<|Nat×Operand):Bool:=match d with
 |some d=>ps.all λp=>IA d p.2
 |none=>true
def DA(d e:Option Tmp):Bool:=match d,e with
 |some d,some e=>!Nat.beq d e
 |_,_=>true
variable{x:Operand}
variable{d:Option Tmp}
section
variable{P:Program}{T:Tab}{K:Ctx}{Q:Exit->Act->World->Prop}{s:List EI}{n:Nat}{F:Fm}{H:Hp}{S:Nat->Prop}{w:World}{ρ:Nat->Option Value}{a:Act}
theorem Oa{d:Nat}{y:Value}(h:IA d x=true):aE (fA<|a.put (some d) y) x=aE (fA a) x:=by
 cases x with
 |tmp t=>
  have E:t≠d:=λe=>by subst e;simp[IA]at h
  simp only[aE,fA,Act.put,Array.getElem?_setIfInBounds];rw[if_neg λe=>E e.symm]
 |_=>rfl
theorem JO{y:Value}:∀{ps:List<|Nat×Operand},wj d ps=true->eL (fA<|a.put d y) ps=eL (fA a) ps:=by
 intro ps h;cases d with
 |none=>rfl
 | some d=>
  induction ps with
  |nil=>rfl
  |cons p r ih=>
   obtain⟨i,x⟩:=p;simp only[wj,List.all_cons,aaa]at h;have ih':=ih (by simp only[wj];exact h.2);simp only[eL,Oa h.1,ih']
theorem jH.up{S':Nat->Prop}{w':World}{ρ':Nat->Option Value}(u:Up S S' w w' ρ ρ'):∀{vs:List<|Nat×V} {ys:List<|Nat×Value},jH S w ρ vs ys->jH S' w' ρ' vs ys
 |[],ys,h=>h
 |(i,v)::r,ys,h=>by simp only[jH]at h⊢;obtain⟨x,zs,h1,h2,E⟩:=h;exact⟨x,zs,h1,h2.up u,jH.up u E⟩
theorem KA{e:Option Tmp}{v u:Option V}(h:DA d e=true):(F.seto d v).seto e u=(F.seto e u).seto d v:=by
 cases d with
 |none=>rfl
 |some d=>cases e with
  |none=>rfl
  |some e=>
   have :d≠e:=λx=>by subst x;simp[DA]at h
   simp only[Fm.seto];exact List.set_comm _ _ this
theorem Li(O:∀t,d=some t->F.get t=none)(E:FRel S w ρ a n<|F.seto d<|some v):FRel S w ρ a n F:=by
 cases d with
 |none=>exact E
 |some d=>
  refine⟨E.size,E.defers,E.gl,by have :=E.len;simpa[Fm.seto]using this,λi u G=>E.get i u ?_⟩;have J:d≠i:=λe=>by subst e;rw[O d rfl]at G;cases G
  rw[Fm.get_eq]at G⊢;simp only[Fm.seto,List.getElem?_set,if_neg J];exact G
variable{all:Array Oper}{L:YN}{m left i:Nat}{listed:Array Bool}{o:Oper}
def GoP (P:Program) (K:Ctx) (Q:Exit->Act->World->Prop) (all:Array Oper) (L:List Nat) (m left:Nat) (listed:Array Bool) (s:List EI) (n:Nat) (F:Fm) (H:Hp) (i:Nat) (o:Oper) (ps:List<|Nat×Operand) (vs:List<|Nat×V) (v:V):Prop:=
  ∀ S w ρ a,HRel S w ρ H.get->Inv K S w ρ H.get->Region.noSelect all=true->
    (FRel S w ρ a n F->(∃ys,eL (fA a) ps=some ys∧jH S w ρ vs ys)->wpB P all (NoPanic<|dR P Q s) (Agree S w) (Ls ρ L w) m (left+1) listed a w)∧
    (FRel S w ρ a n (F.seto o.dst<|some v)->wpB P all (NoPanic<|dR P Q s) (Agree S w) (Ls ρ L w) m left (listed.setIfInBounds i true) a w)
theorem Ku{ps:List<|Nat×Operand}{vs:List<|Nat×V}(hv:oA F ps=some vs)(k:GoP P K Q all L m left listed s n (F.seto o.dst none) H i o ps vs v):Go P K Q (.drw all L m (left+1) listed) s n F H:=λS w ρ a hr hi E hs=>by
 obtain⟨ys,h1,h2⟩:=sk E hv;refine(k S w ρ a hr hi hs).1 ?_ ⟨ys,h1,h2⟩;refine⟨E.size,E.defers,E.gl,?_,λj u G=>?_⟩
 ·cases J:o.dst with
  |none=>exact E.len
  |some d=>have :=E.len;simpa[Fm.seto]using this
 ·cases J:o.dst with
  |none=>rw[J]at G;exact E.get j u G
  |some d=>
   rw[J,Fm.get_eq]at G;simp only[Fm.seto,List.getElem?_set]at G;split at G
   ·split at G<;>simp at G
   ·exact E.get j u (by rw[Fm.get_eq];exact G)
theorem zp(G:Chg [] w w'):Up S (λc=>S c∨c=b) w w' ρ ρ:=⟨λ_ h=>.inl h,λc _ E=>G.block c E (by simp),λ_ _ h=>h⟩
theorem JW(hr:HRel S w ρ h)(G:Chg [] w w')(hb:b=w.heap.size)(J:b<w'.heap.size):HRel (λc=>S c∨c=b) w' ρ h:=by
 refine⟨λi=>(hr.ob i).up (zp G) (λhf=>?_) (λc E=>G.block c (dd (hr.ob i) E)<|by simp),λi c E=>?_,hr.dis,hr.slt.up (zp (ρ:=ρ) G) λc E=>?_⟩
 ·have :=hr.ob i;rw[hf]at this;exact this
 ·rintro(h1|h1)
  ·exact hr.sep i c E h1
  ·have :=dd (hr.ob i) E;omega
 ·rcases E with h1|h1
  ·exact aaw (hr.slt c h1) G.size
  ·omega
theorem LY(hi:Inv K S w ρ h)(G:Chg [] w w')(hb:b=w.heap.size):Inv K (λc=>S c∨c=b) w' ρ h:=by
 have J:=hi.chg0 G;refine⟨J.chg,λc E=>.inl<|hi.s0 c E,λc E=>?_,hi.ow,hi.pin⟩;rcases E with h1|h1
 ·exact hi.s1 c h1
 ·have :=hi.chg.size;exact .inr (.inr<|by omega)
theorem Gj{t e:TypeId}{ps:List<|Nat×Operand}{vs:List<|Nat×V}{ys:List<|Nat×Value}{d:TD}{k:Nat}{ty:TypeId}{els:List V}(U:TabOk P T)(hr:HRel S w ρ h)(hi:Inv K S w ρ h)(fr:Fr a n<|fA a)(E:eL (fA a) ps=some ys)(Z:jH S w ρ vs ys)
  {x1 x2:Nat} {x3:V} (ht:T.ty t=some ⟨x1,x2,x3,.sl e⟩) (he:T.ty e=some d) (hp:mS d.size 0 vs=some els) (hb:(Nat.beq els.length k&&Nat.ble (k*d.size) 16777216&&Nat.ble k 16777216&&pureL els)=true):
  ∃x S' w',Runs P a ty (.buildSlice t k ps.toArray) w (.value x) w'∧HRel S' w' ρ h∧Inv K S' w' ρ h∧Up S S' w w' ρ ρ∧Chg [] w w'∧VRel S' w' ρ (.row d.size els) x:=by
 simp only[aaa,Nat.beq_eq]at hb;obtain⟨⟨⟨hl,hsm⟩,hm⟩,hpu⟩:=hb;have hmm:k<=16777216:=Nat.le_of_ble_eq_true hm;obtain⟨z,hz1,hz2⟩:=(U.ty _ _ he).zeroT;obtain⟨h1,h2,h3⟩:=uW Z hp;have G:ps.map (·.1)=List.range k:=by
  have :ps.map (·.1)=ys.map (·.1):=by rw[<-fr.parts E];simp
  rw[this,h1,hl,List.range_eq_range']
 obtain⟨w',b,g1,g2,J,g4,g5⟩:=sb (P:=P) (t:=t) (m:=k) fr E ((U.ty _ _ ht).sl rfl) (U.ty _ _ he).size hz1 G h2 hsm rfl w ty;have O:=h3.length;refine⟨_,λc=>S c∨c=b,w',g1,JW hr J g4 g5,LY hi J g4,zp J,J,?_⟩;simp only[VRel];refine⟨some ⟨b,0,none⟩,k,_,by rw[hl],by omega,by simp only[maxLen];omega,(h3.up<|zp J).pure hpu,O,λ_=>⟨b,0,rfl,.inr rfl,g5,λj hj=>by rw[Nat.zero_add,g2.cell]⟩⟩
def uI (T:Tab) (all:Array Oper) (i:Nat) (vs:List<|Nat×V):Option (Oper×List (Nat×Operand)×V):=match all[i]? with
 |some ⟨dst,.buildSlice t k ⟨ps⟩,ty,pp,af,none⟩=>match T.ty t with
  |some ⟨_,_,_,.sl e⟩=>match T.ty e with
   |some d=>match mS d.size 0 vs with
    |some els=>match Nat.beq els.length k&&Nat.ble (k*d.size) 16777216&&Nat.ble k 16777216&&pureL els with
     |true=>fX d.size λsz=>some (⟨dst,.buildSlice t k ⟨ps⟩,ty,pp,af,none⟩,ps,.row sz els)
     |false=>none
    |none=>none
   |none=>none
  |_=>none
 |_=>none
variable{ps:List (Nat×Operand)}{vs:List (Nat×V)}{v:V}
theorem Db(hT:TabOk P T)(hp:uI T all i vs=some (o,ps,v))(hr:HRel S w ρ H.get)(E:Inv K S w ρ H.get)(G:FRel S w ρ a n F){ys:List<|Nat×Value}(J:eL (fA a) ps=some ys)(O:jH S w ρ vs ys)(hs:Region.noSelect all=true)
  (U:(cS H.get L||(listed.setIfInBounds i true).getD m false)=true)
  (D:∀S w ρ a,HRel S w ρ H.get->Inv K S w ρ H.get->FRel S w ρ a n (F.seto o.dst<|some v)->wpB P all (NoPanic<|dR P Q s) (Agree S w) (Ls ρ L w) m left (listed.setIfInBounds i true) a w):
  wpOp P all (NoPanic<|dR P Q s) i (λa' w'=>Agree S w w'∧(Ls ρ L w w'∨(listed.setIfInBounds i true).getD m false=true)∧wpB P all (NoPanic<|dR P Q s) (Agree S w) (Ls ρ L w) m left (listed.setIfInBounds i true) a' w') a w:=by
 unfold uI at hp;split at hp
 ·rename_i dst t k ps' ty pp af hi;split at hp
  ·rename_i e ht;split at hp
   ·rename_i d he;split at hp
    ·rename_i els Z;split at hp
     ·rename_i hb;rw[dI]at hp;simp only[aab,Prod.mk.injEq]at hp;obtain⟨rfl,rfl,rfl⟩:=hp;obtain⟨x,S',w',g1,g2,g3,g4,g5,g6⟩:=Gj (ty:=ty) hT hr E G.fr J O ht he Z hb;unfold wpOp;simp only[hi];rw[if_pos<|cu G (o:=⟨dst,.buildSlice t k ⟨ps'⟩,ty,pp,af,none⟩) rfl];refine .inl ?_;have hk:=D S' w' ρ _ g2 g3<|cX (G.up g4) dst g6;unfold Oper.wp;rw[g1 dst pp af none];refine qd g4 (λb hb=>g5.block b (hr.slt b hb)<|by simp) ((yZ U).imp (λU id hid x b hx hb=>?_) id) hk;exact g5.block b (dd (hr.ob id)<|mE hr U id hid x b hx hb) (by simp)
     ·cases hp
    ·cases hp
   ·cases hp
  ·cases hp
 ·cases hp
theorem NX(Z:TabOk P T)(hp:uI T all i vs=some (o,ps,v))(J:Region.ready .any all listed=[i])(hl:(cS H.get L||(listed.setIfInBounds i true).getD m false)=true)
  (kk:Go P K Q (.drw all L m left<|listed.setIfInBounds i true) s n (F.seto o.dst<|some v) H):GoP P K Q all L m left listed s n F H i o ps vs v:=λS w ρ a hr E hs=>by
 refine⟨λG ⟨ys,O,U⟩=>rt (S:=S) J<|Db Z hp hr E G O U hs hl λS w ρ a hr E G=>kk S w ρ a hr E G hs,λG=>kk S w ρ a hr E G hs⟩
theorem GY{B Sx:World->Prop}{Q':Exit->Act->World->Prop}(E:(match Region.ready .any all listed with|[x,y]=>(Nat.beq x i&&Nat.beq y j)||(Nat.beq x j&&Nat.beq y i)|_=>false)=true)
  (h1:wpOp P all Q' i (λa' w'=>B w'∧(Sx w'∨(listed.setIfInBounds i true).getD m false=true)∧wpB P all Q' B Sx m left (listed.setIfInBounds i true) a' w') a w)
  (h2:wpOp P all Q' j (λa' w'=>B w'∧(Sx w'∨(listed.setIfInBounds j true).getD m false=true)∧wpB P all Q' B Sx m left (listed.setIfInBounds j true) a' w') a w):wpB P all Q' B Sx m (left+1) listed a w:=by
 split at E
 ·rename_i x y hr;refine⟨λJ=>(by rw[hr]at J;cases J),λc G=>?_⟩;rw[hr]at G;simp only[Bool.or_eq_true,aaa,Nat.beq_eq]at E;simp only[aak,List.not_mem_nil,or_false]at G;rcases E with⟨rfl,rfl⟩|⟨rfl,rfl⟩
  ·rcases G with rfl|rfl
   ·exact h1
   ·exact h2
  ·rcases G with rfl|rfl
   ·exact h2
   ·exact h1
 ·cases E
theorem Lv(hT:TabOk P T)(hp:uI T all i vs=some (o,ps,v)){oj:Oper}(hj:all[j]?=some oj)(hrd:(match Region.ready .any all listed with|[x,y]=>(Nat.beq x i&&Nat.beq y j)||(Nat.beq x j&&Nat.beq y i)|_=>false)=true)(Z:Region.ready .any all (listed.setIfInBounds i true)=[j])
  (hl:(cS H.get L||(listed.setIfInBounds i true).getD m false)=true) (hd:∀t,o.dst=some t->F.get t=none) (hne:DA o.dst oj.dst=true) (hpn:wj oj.dst ps=true) (hcomm:(listed.setIfInBounds i true).setIfInBounds j true=(listed.setIfInBounds j true).setIfInBounds i true)
  {Post:V->Hp->Prop}
  (hx:∀S w ρ a,HRel S w ρ H.get->Inv K S w ρ H.get->FRel S w ρ a n F->∀(K2:Act->World->Prop),(∀x S' w' ρ' u H',Post u H'->HRel S' w' ρ' H'.get->Inv K S' w' ρ' H'.get->Up S S' w w' ρ ρ'->Agree S w w'->(Ls ρ L w w'∨((listed.setIfInBounds j true).getD m false=true∧((listed.setIfInBounds j true).setIfInBounds i true).getD m false=true))->VRel S' w' ρ' u x->K2 (a.put oj.dst x) w')->wpOp P all (NoPanic<|dR P Q s) j K2 a w)
  (kk:∀u H',Post u H'->GoP P K Q all L m left (listed.setIfInBounds j true) s n (F.seto oj.dst<|some u) H' i o ps vs v):GoP P K Q all L m (left+1) listed s n F H i o ps vs v:=λS w ρ a hr E hs=>by
 have D:∀S w ρ a,HRel S w ρ H.get->Inv K S w ρ H.get->FRel S w ρ a n (F.seto o.dst<|some v)->wpB P all (NoPanic<|dR P Q s) (Agree S w) (Ls ρ L w) m (left+1) (listed.setIfInBounds i true) a w:=λS w ρ a hr E O=>by
  refine rt (S:=S) Z ?_;refine hx S w ρ a hr E (Li hd O) _ λx S' w' ρ' u H' hP G J U hA hL hv=>?_;rw[hcomm];refine qd U hA (hL.imp id (·.2))<|(kk u H' hP S' w' ρ' _ G J hs).2 ?_;rw[<-KA hne];exact cX (O.up U) oj.dst hv
 refine⟨λO ⟨ys,hps,hpr⟩=>?_,D S w ρ a hr E⟩;refine GY hrd (Db hT hp hr E O hps hpr hs hl D) ?_;refine hx S w ρ a hr E O _ λx S' w' ρ' u H' hP G J U hA hL hv=>?_;refine qd U hA (hL.imp id (·.1))<|(kk u H' hP S' w' ρ' _ G J hs).1 (cX (O.up U) oj.dst hv) ⟨ys,?_,hpr.up U⟩;rw[JO hpn];exact hps
end
section
variable{P:Program}{T:Tab}{K:Ctx}{Q:Exit->Act->World->Prop}{s:List EI}{n:Nat}{F:Fm}{H:Hp}
def sG (P:Program) (K:Ctx) (o:Oper) (L:List Nat) (ok:Bool) (n:Nat) (F:Fm) (H:Hp) (u:V) (H':Hp):Prop:=
  ∀ S w ρ a,HRel S w ρ H.get->Inv K S w ρ H.get->FRel S w ρ a n F->∀(Q':Exit->Act->World->Prop) (K2:Act->World->Prop),
    (∀x S' w' ρ',HRel S' w' ρ' H'.get->Inv K S' w' ρ' H'.get->Up S S' w w' ρ ρ'->Agree S w w'->(Ls ρ L w w'∨ok=true)->VRel S' w' ρ' u x->K2 (a.put o.dst x) w')->o.wp P a w K2 Q'
theorem JN(E:TabOk P T){L:YN}{ok:Bool}(hv:qf T H.get F o.op=some v):sG P K o L ok n F H v H:=λS w ρ a hr hi G Q' K2 k=>by obtain⟨x,h1,h2⟩:=wv (ty:=o.type) E hr G hv;have :=k x S w ρ hr hi Up.refl Agree.refl (.inl pu) h1;obtain⟨d,op,ty,ps,af,g⟩:=o;unfold Oper.wp;rw[h2 w Agree.refl d ps af g];exact this
theorem gy(U:TabOk P T){L:YN}{ok:Bool}{v:Option V}(hv:pb T H.get F H.nx o.op=some (v,ed))(Z:((cS H.get L&&ed.clear L)||ok)=true):sG P K o L ok n F H (v.getD<|.tup []) (H.app ed):=λS w ρ a hr hi hF Q' K2 k=>by
 obtain⟨nx,w',ρ',h1,h2,O⟩:=zh (ty:=o.type) U hr hF H.get_free hv;have E:=h2.hr;have G:=hi.eff h2;rw[<-Hp.get_app (uJ hv)]at E G;have J:Ls ρ L w w'∨ok=true:=(yZ Z).imp (λh=>by simp only[aaa]at h;exact DR hr h2 h.1 h.2) id
 have kk:=λx hx=>k x S w' ρ' E G h2.up (ti hr h2) J hx;obtain⟨d,op,ty,ps,af,g⟩:=o;unfold Oper.wp;rw[h1 d ps af g];cases v with
 |none=>
  subst O;exact kk undef xe
 |some v=>
  obtain⟨x,rfl,h4⟩:=O;exact kk x h4
theorem hJ{L:YN}{ok:Bool}{args:List Operand}{tys:Array TypeId}{vs:List V}{u:V}{H':Hp}{L':YN}(he:cf P fid=true)(ho:o.op=.call {callee:=.value<|.func fid,args:=args.toArray,argTypes:=tys})(hv:fF F args=some vs)(hC:CallR P K fid vs H L' λu' H''=>u'=u∧H''=H')(hL:L'=L∨ok=true):sG P K o L ok n F H u H':=λS w ρ a hr hi Z Q' K2 k=>by
 obtain⟨xs,h1,h2⟩:=rA Z hv;have E:=hC S w ρ xs hr hi h2;obtain⟨d,op,ty,ps,af,g⟩:=o;simp only at ho;subst ho;have hx:(execOp a.eval ⟨d,.call {callee:=.value<|.func fid,args:=args.toArray,argTypes:=tys},ty,ps,af,g⟩).run P w=.ok (.enter fid xs.toArray) w:=by
  have e:args.toArray.map a.eval=xs.toArray:=by rw[<-Z.fr.vals h1];simp
  simp only[execOp,resolve,e];simp[Act.eval,Deferred.ofValue,invoke,mC he]
 unfold Oper.wp;rw[hx,Oper.upon_enter];refine E.mono λe w1 hR=>?_;obtain⟨x,S',ρ',v,H'',rfl,⟨rfl,rfl⟩,G,J,hu,O,U⟩:=hR;exact k x S' w1 ρ' G J hu (λb hb=>hu.blk b hb<|hr.slt b hb) (hL.imp (λe=>by subst e;exact U) id) O
theorem ig{L:YN}{m left:Nat}{listed:Array Bool}{oi oj:Oper}{ui uj:V}{Hi Hj:Hp}(Z:(match Region.ready .any all listed with|[x,y]=>(Nat.beq x i&&Nat.beq y j)||(Nat.beq x j&&Nat.beq y i)|_=>false)=true)(hi:all[i]?=some oi)(hj:all[j]?=some oj)(hwi:bg F all oi.guard=some true)(hwj:bg F all oj.guard=some true)
  (xi:sG P K oi L ((listed.setIfInBounds i true).getD m false) n F H ui Hi) (xj:sG P K oj L ((listed.setIfInBounds j true).getD m false) n F H uj Hj)
  (ki:Go P K Q (.drw all L m left<|listed.setIfInBounds i true) s n (F.seto oi.dst<|some ui) Hi) (kj:Go P K Q (.drw all L m left<|listed.setIfInBounds j true) s n (F.seto oj.dst<|some uj) Hj):Go P K Q (.drw all L m (left+1) listed) s n F H:=λS w ρ a hr O J hs=>by
 refine GY Z ?_ ?_
 ·unfold wpOp;simp only[hi];rw[if_pos<|cu J hwi];exact .inl<|xi S w ρ a hr O J _ _ λx S' w' ρ' E G U hA hL hv=>qd U hA hL<|ki S' w' ρ' _ E G (cX (J.up U) oi.dst hv) hs
 ·unfold wpOp;simp only[hj];rw[if_pos<|cu J hwj];exact .inl<|xj S w ρ a hr O J _ _ λx S' w' ρ' E G U hA hL hv=>qd U hA hL<|kj S' w' ρ' _ E G (cX (J.up U) oj.dst hv) hs
end
def atN:YN->Nat->Option Nat
 |[],_=>none
 |x::_,0=>some x
 |_::r,i+1=>atN r i
theorem qE:∀(l:YN) (i:Nat),atN l i=l[i]?
 |[],i=>by simp[atN]
 |x::r,0=>by simp[atN]
 |x::r,i+1=>by simp[atN,qE r i]
abbrev FQ:V:=.raw (.agg #[])
mutual
def V.ren(σ:YN):V->V
 |.ptr id o=>match atN σ id with
  |some j=>.ptr j o
  |none=>FQ
 |.el id sz i o=>match atN σ id with
  |some j=>.el j sz i o
  |none=>FQ
 |.sl id=>match atN σ id with
  |some j=>.sl j
  |none=>FQ
 |.mm id k=>match atN σ id with
  |some j=>.mm j k
  |none=>FQ
 |.np id=>match atN σ id with
  |some j=>.np j
  |none=>.nilp
 |.agg cs=>.agg<|renL σ cs
 |.tup cs=>.tup<|renL σ cs
 |.clo fid cs=>.clo fid<|renL σ cs
 |.int k n=>.int k n
 |.bool b=>.bool b
 |.str l=>.str l
 |.nilp=>.nilp
 |.nils=>.nils
 |.raw x=>.raw x
 |.box cs o=>.box cs o
 |.row sz els=>.row sz els
 |.lk els=>.lk els
def renL(σ:YN):List V->List V
 |[]=>[]
 |v::r=>v.ren σ::renL σ r
end
def Ob.ren(σ:YN):Ob->Ob
 |.var t cs=>.var t<|renL σ cs
 |.row e sz els=>.row e sz<|renL σ els
 |o=>o
def fu(σ:YN)(ρ:Nat->Option Value):Nat->Option Value:=λj=>match atN σ j with
 |some i=>ρ i
 |none=>none
section
variable{S:Nat->Prop}{w:World}{ρ:Nat->Option Value}{σ:YN}
theorem AV{x:Value}(h:VRel S w ρ FQ x):False:=by simp only[VRel,Value.oneCell']at h;exact absurd h.2 (by simp)
mutual
theorem VRel.ren:∀{v:V} {x:Value},VRel S w ρ (v.ren σ) x->VRel S w (fu σ ρ) v x
 |.int _ _,x,h=>by simp only[V.ren,VRel]at h⊢;exact h
 |.bool _,x,h=>by simp only[V.ren,VRel]at h⊢;exact h
 |.str _,x,h=>by simp only[V.ren,VRel]at h⊢;exact h
 |.nilp,x,h=>by simp only[V.ren,VRel]at h⊢;exact h
 |.nils,x,h=>by simp only[V.ren,VRel]at h⊢;exact h
 |.raw _,x,h=>by simp only[V.ren,VRel]at h⊢;exact h
 |.box _ _,x,h=>by simp only[V.ren,VRel]at h⊢;exact h
 |.row _ _,x,h=>by simp only[V.ren,VRel]at h⊢;exact h
 |.lk _,x,h=>by simp only[V.ren,VRel]at h⊢;exact h
 | .ptr id o,x,h=>by
  simp only[V.ren]at h;split at h
  ·rename_i j hj;simp only[VRel]at h⊢;obtain⟨b,h1,h2⟩:=h;exact⟨b,by simp only[fu,hj];exact h1,h2⟩
  ·exact(AV h).elim
 | .el id sz i o,x,h=>by
  simp only[V.ren]at h;split at h
  ·rename_i j hj;simp only[VRel]at h⊢;obtain⟨b,n,c,h1,h2⟩:=h;exact⟨b,n,c,by simp only[fu,hj];exact h1,h2⟩
  ·exact(AV h).elim
 | .sl id,x,h=>by
  simp only[V.ren]at h;split at h
  ·rename_i j hj;simp only[VRel]at h⊢;exact⟨by simp only[fu,hj];exact h.1,h.2⟩
  ·exact(AV h).elim
 | .mm id k,x,h=>by
  simp only[V.ren]at h;split at h
  ·rename_i j hj;simp only[VRel]at h⊢;simp only[fu,hj];exact h
  ·exact(AV h).elim
 | .np id,x,h=>by
  simp only[V.ren]at h;split at h
  ·rename_i j hj;simp only[VRel]at h⊢;exact h.imp_right λ⟨b,h1,h2⟩=>⟨b,by simp only[fu,hj];exact h1,h2⟩
  ·simp only[VRel]at h⊢;exact .inl h
 |.agg cs,x,h=>by simp only[V.ren,VRel]at h⊢;obtain⟨xs,h1,h2⟩:=h;exact⟨xs,h1,LRel.ren h2⟩
 |.tup cs,x,h=>by simp only[V.ren,VRel]at h⊢;obtain⟨xs,h1,h2⟩:=h;exact⟨xs,h1,LRel.ren h2⟩
 |.clo fid cs,x,h=>by simp only[V.ren,VRel]at h⊢;obtain⟨xs,h1,h2⟩:=h;exact⟨xs,h1,LRel.ren h2⟩
theorem LRel.ren:∀{v:List V} {x:List Value},LRel S w ρ (renL σ v) x->LRel S w (fu σ ρ) v x
 |[],x,h=>by simp only[renL,LRel]at h⊢;exact h
 |v::r,x,h=>by simp only[renL,LRel]at h⊢;obtain⟨y,ys,h1,h2,h3⟩:=h;exact⟨y,ys,h1,VRel.ren h2,LRel.ren h3⟩
end
theorem Ak:∀(l:List V),(renL σ l).length=l.length
 |[]=>by simp[renL]
 |v::r=>by simp[renL,Ak r]
theorem CRel.ren{sz:Nat}:∀{v:List V} {x:List Value},CRel S w ρ sz (renL σ v) x->CRel S w (fu σ ρ) sz v x
 |[],x,h=>by simp only[renL,CRel]at h⊢;exact h
 |v::r,x,h=>by simp only[renL,CRel]at h⊢;obtain⟨y,ys,h1,h2,E,G⟩:=h;exact⟨y,ys,h1,h2,VRel.ren E,CRel.ren G⟩
mutual
theorem VRel.bwd{ρ':Nat->Option Value}(hσ:∀j x,ρ j=some x->∃i,atN σ j=some i∧ρ' i=some x):∀{v:V} {x:Value},VRel S w ρ v x->VRel S w ρ' (v.ren σ) x
 |.int _ _,x,h=>by simp only[V.ren,VRel]at h⊢;exact h
 |.bool _,x,h=>by simp only[V.ren,VRel]at h⊢;exact h
 |.str _,x,h=>by simp only[V.ren,VRel]at h⊢;exact h
 |.nilp,x,h=>by simp only[V.ren,VRel]at h⊢;exact h
 |.nils,x,h=>by simp only[V.ren,VRel]at h⊢;exact h
 |.raw _,x,h=>by simp only[V.ren,VRel]at h⊢;exact h
 |.box _ _,x,h=>by simp only[V.ren,VRel]at h⊢;exact h
 |.row _ _,x,h=>by simp only[V.ren,VRel]at h⊢;exact h
 |.lk _,x,h=>by simp only[V.ren,VRel]at h⊢;exact h
 |.ptr id o,x,h=>by simp only[VRel]at h;obtain⟨b,h1,h2⟩:=h;obtain⟨i,h3,h4⟩:=hσ _ _ h1;simp only[V.ren,h3,VRel];exact⟨b,h4,h2⟩
 |.el id sz i o,x,h=>by simp only[VRel]at h;obtain⟨b,n,c,h1,h2⟩:=h;obtain⟨i',h3,h4⟩:=hσ _ _ h1;simp only[V.ren,h3,VRel];exact⟨b,n,c,h4,h2⟩
 |.sl id,x,h=>by simp only[VRel]at h;obtain⟨i,h3,h4⟩:=hσ _ _ h.1;simp only[V.ren,h3,VRel];exact⟨h4,h.2⟩
 |.mm id k,x,h=>by simp only[VRel]at h;obtain⟨z,hz⟩:=Fe h.1;obtain⟨i,h3,h4⟩:=hσ _ _ hz;simp only[V.ren,h3,VRel];rw[h4,<-hz];exact h
 | .np id,x,h=>by
  simp only[VRel]at h;rcases h with h|⟨b,h1,h2⟩
  ·simp only[V.ren];split
   ·simp only[VRel];exact .inl h
   ·simp only[VRel];exact h
  ·obtain⟨i,h3,h4⟩:=hσ _ _ h1;simp only[V.ren,h3,VRel];exact .inr ⟨b,h4,h2⟩
 |.agg cs,x,h=>by simp only[V.ren,VRel]at h⊢;obtain⟨xs,h1,h2⟩:=h;exact⟨xs,h1,LRel.bwd hσ h2⟩
 |.tup cs,x,h=>by simp only[V.ren,VRel]at h⊢;obtain⟨xs,h1,h2⟩:=h;exact⟨xs,h1,LRel.bwd hσ h2⟩
 |.clo fid cs,x,h=>by simp only[V.ren,VRel]at h⊢;obtain⟨xs,h1,h2⟩:=h;exact⟨xs,h1,LRel.bwd hσ h2⟩
theorem LRel.bwd{ρ':Nat->Option Value}(hσ:∀j x,ρ j=some x->∃i,atN σ j=some i∧ρ' i=some x):∀{v:List V} {x:List Value},LRel S w ρ v x->LRel S w ρ' (renL σ v) x
 |[],x,h=>by simp only[renL,LRel]at h⊢;exact h
 |v::r,x,h=>by simp only[renL,LRel]at h⊢;obtain⟨y,ys,h1,h2,h3⟩:=h;exact⟨y,ys,h1,VRel.bwd hσ h2,LRel.bwd hσ h3⟩
end
theorem CRel.bwd{ρ':Nat->Option Value}(hσ:∀j x,ρ j=some x->∃i,atN σ j=some i∧ρ' i=some x){sz:Nat}:∀{v:List V} {x:List Value},CRel S w ρ sz v x->CRel S w ρ' sz (renL σ v) x
 |[],x,h=>by simp only[renL,CRel]at h⊢;exact h
 |v::r,x,h=>by simp only[renL,CRel]at h⊢;obtain⟨y,ys,h1,h2,E,G⟩:=h;exact⟨y,ys,h1,h2,VRel.bwd hσ E,CRel.bwd hσ G⟩
end
def cd(v u:V):Prop:=∀S w ρ x,VRel S w ρ v x->VRel S w ρ u x
theorem cd.rfl:cd v v:=λ_ _ _ _ h=>h
theorem cd.of_eq{u:V}(h:v=u):cd v u:=h▸cd.rfl
theorem cd.np0(i:Nat):cd .nilp (.np i):=λS w ρ x h=>by simp only[VRel]at h⊢;exact .inl h
theorem cd.nil(sz:Nat):cd .nils (.row sz []):=λS w ρ x h=>by simp only[VRel]at h⊢;subst h;exact⟨none,0,[],by simp,aaf _,by decide,by simp[CRel],RowIn.none_⟩
def aT:List V->List V->Prop
 |[],us=>us=[]
 |v::r,us=>∃u q,us=u::q∧cd v u∧aT r q
theorem aT.rel{S:Nat->Prop}{w:World}{ρ:Nat->Option Value}:∀{vs us:List V} {xs:List Value},aT vs us->LRel S w ρ vs xs->LRel S w ρ us xs
 |[],us,xs,h,E=>by simp only[aT]at h;subst h;exact E
 |v::r,us,xs,h,E=>by simp only[aT]at h;obtain⟨u,q,rfl,h1,h2⟩:=h;simp only[LRel]at E⊢;obtain⟨y,ys,rfl,G,J⟩:=E;exact⟨y,ys,I,h1 _ _ _ _ G,aT.rel h2 J⟩
theorem aT.rfl:∀{vs:List V},aT vs vs
 |[]=>by simp[aT]
 |v::r=>⟨v,r,by rfl,cd.rfl,aT.rfl⟩
variable{us:List V}
theorem cd.agg(h:aT vs us):cd (.agg vs) (.agg us):=λS w ρ x hx=>by simp only[VRel]at hx⊢;obtain⟨xs,h1,h2⟩:=hx;exact⟨xs,h1,h.rel h2⟩
theorem aT.cons{u:V}{r q:List V}(h:cd v u)(k:aT r q):aT (v::r) (u::q):=⟨u,q,by rfl,h,k⟩
theorem aT.nil:aT [] []:=by simp[aT]
def nV:Ob->Ob->Prop
 |_,.gone=>True
 |.var t cs,.var t' cs'=>t=t'∧aT cs cs'
 |.row e sz els,.row E sz' els'=>e=E∧sz=sz'∧els=els'
 |.mp k e ks vs,.mp k' E ks' vs'=>k=k'∧e=E∧ks=ks'∧vs=vs'
 |.mps r k e ms,.mps G k' E ms'=>r=G∧k=k'∧e=E∧ms=ms'
 |_,_=>False
def leF(σ:YN):Fm->Fm->Prop
 |_,[]=>True
 |[],none::E=>leF σ [] E
 |[],some _::_=>False
 |x::r,none::E=>leF σ r E
 |x::r,some u::E=>(∃v,x=some v∧cd v (u.ren σ))∧leF σ r E
def leH(σ:YN)(H:Hp):List (Nat×Ob)->Prop
 |[]=>True
 |(j,o)::r=>(∃i,atN σ j=some i∧nV (H.get i) (o.ren σ))∧leH σ H r
def cI:YN->Bool
 |[]=>true
 |i::r=>!r.contains i&&cI r
variable{o':Ob}
variable{PL:YN}{H0:Hp}
variable{Post:V->Hp->Prop}
section
variable{P:Program}{T:Tab}{K:Ctx}{Q:Exit->Act->World->Prop}{s:List EI}{n:Nat}{F F':Fm}{H H':Hp}{σ:YN}{S:Nat->Prop}{w:World}{ρ:Nat->Option Value}{a:Act}
theorem zA:∀{F F':Fm},leF σ F F'->∀i u,F'.get i=some u->∃v,F.get i=some v∧cd v (u.ren σ)
 |F,[],h,i,u,E=>by simp[Fm.get]at E
 |[],none::G,h,0,u,E=>by simp[Fm.get]at E
 |[],none::G,h,i+1,u,E=>by obtain⟨v,h1,_⟩:=zA (F:=[]) (F':=G) (by simpa[leF]using h) i u (by simpa[Fm.get]using E);simp[Fm.get]at h1
 |[],some _::_,h,i,u,E=>by simp[leF]at h
 |x::r,none::G,h,0,u,E=>by simp[Fm.get]at E
 |x::r,none::G,h,i+1,u,E=>by have :=zA (F:=r) (F':=G) (by simpa[leF]using h) i u (by simpa[Fm.get]using E);simpa[Fm.get]using this
 |x::r,some J::G,h,0,u,E=>by simp only[leF]at h;simp only[Fm.get,aab]at E;subst E;obtain⟨v,h1,h2⟩:=h.1;exact⟨v,by simp[Fm.get,h1],h2⟩
 |x::r,some J::G,h,i+1,u,E=>by simp only[leF]at h;have :=zA h.2 i u (by simpa[Fm.get]using E);simpa[Fm.get]using this
theorem LI(h:leF σ F F')(G:F'.length<=n)(E:FRel S w ρ a n F):FRel S w (fu σ ρ) a n F':=
 ⟨E.size,E.defers,E.gl,G,λi u J=>by obtain⟨v,h1,h2⟩:=zA h i u J;obtain⟨x,O,U⟩:=E.get i v h1;exact⟨x,O,(h2 _ _ _ _ U).ren⟩⟩
theorem AJ:∀{l:List<|Nat×Ob},leH σ H l->∀j,aB l j=.gone∨∃i,atN σ j=some i∧nV (H.get i) ((aB l j).ren σ)
 |[],_,j=>.inl rfl
 | (k,o)::r,h,j=>by
  simp only[leH]at h;simp only[aB];split
  ·rename_i hb;have :=aag hb;subst this;exact .inr h.1
  ·exact AJ h.2 j
theorem uu:∀{l:YN},cI l=true->∀i j x,atN l i=some x->atN l j=some x->i=j
 |[],_,i,j,x,hi,E=>by simp[atN]at hi
 |y::r,h,0,0,x,hi,E=>rfl
 |y::r,h,0,j+1,x,hi,E=>by simp only[cI,aaa,Bool.not_eq_true']at h;simp only[atN,aab]at hi E;subst hi;rw[qE]at E;have :=List.mem_of_getElem? E;simp[this]at h
 |y::r,h,i+1,0,x,hi,E=>by simp only[cI,aaa,Bool.not_eq_true']at h;simp only[atN,aab]at hi E;subst E;rw[qE]at hi;have :=List.mem_of_getElem? hi;simp[this]at h
 |y::r,h,i+1,j+1,x,hi,E=>by simp only[cI,aaa]at h;have :=uu h.2 i j x (by simpa[atN]using hi) (by simpa[atN]using E);omega
theorem MZ{o:Ob}(hij:atN σ j=some i)(h:nV o<|o'.ren σ)(ho':o'≠.gone)(hr:gn S w ρ i o):gn S w (fu σ ρ) j o'∧∀b,own (fu σ ρ) j o' b->own ρ i o b:=by
 have hρ:fu σ ρ j=ρ i:=by simp only[fu,hij]
 cases o' with
 |gone=>exact absurd rfl ho'
 |free=>cases o<;>simp[Ob.ren,nV]at h
 |ext bs Φ=>cases o<;>simp[Ob.ren,nV]at h
 |mp kt' et' ks' vs'=>
  cases o<;>simp only[Ob.ren,nV]at h;rename_i kt et ks vs;obtain⟨rfl,rfl,rfl,rfl⟩:=h;obtain⟨b,es,ck,h1,h2,h3,h4⟩:=hr;exact⟨⟨b,es,ck,by rw[hρ];exact h1,h2,h3,h4⟩,λc hc=>by simp only[own]at hc⊢;rw[hρ]at hc;exact hc⟩
 |mps e' kt' et' ms'=>
  cases o<;>simp only[Ob.ren,nV]at h;rename_i e kt et ms;obtain⟨rfl,rfl,rfl,rfl⟩:=h;obtain⟨v,bs,h1,h2,h3,h4,h5⟩:=hr;exact⟨⟨v,bs,by rw[hρ];exact h1,h2,h3,h4,h5⟩,λc hc=>by simp only[own]at hc⊢;rw[hρ]at hc;exact hc⟩
 |var t' cs'=>
  cases o<;>simp only[Ob.ren,nV]at h;rename_i t cs;obtain⟨rfl,h⟩:=h;obtain⟨b,xs,h1,h2,h3⟩:=hr;exact⟨⟨b,xs,by rw[hρ];exact h1,h2,(h.rel h3).ren⟩,λc hc=>by simp only[own]at hc⊢;rw[hρ]at hc;exact hc⟩
 | row e' sz' els'=>
  cases o<;>simp only[Ob.ren,nV]at h;rename_i e sz els;obtain⟨rfl,rfl,rfl⟩:=h;obtain⟨v,xs,h1,h2,h3⟩:=hr;rw[Ak]at h2;exact⟨⟨v,xs,by rw[hρ];exact h1,h2,h3.ren⟩,λc hc=>by obtain⟨q,e1,e2⟩:=hc;exact⟨q,by rw[<-hρ];exact e1,e2⟩⟩
def aw(K:Ctx)(pv:YN):Prop:=∀id x,K.pin id=some x->id∈pv
def ze(σ pv:YN):Bool:=pv.all λi=>match atN σ i with|some j=>Nat.beq i j|none=>false
theorem DL(hH:leH σ H H'.es)(hn:cI σ=true)(E:Nat.ble σ.length H'.nx=true)(hr:HRel S w ρ H.get):HRel S w (fu σ ρ) H'.get∧∀j b,own (fu σ ρ) j (H'.get j) b->∃i,atN σ j=some i∧own ρ i (H.get i) b:=by
 have key:∀j,gn S w (fu σ ρ) j (H'.get j)∧∀b,own (fu σ ρ) j (H'.get j) b->∃i,atN σ j=some i∧own ρ i (H.get i) b:=λj=>by
  unfold Hp.get;split
  ·rcases AJ hH j with e|⟨i,h1,h2⟩
   ·rw[e];exact⟨trivial,λb hb=>hb.elim⟩
   ·by_cases hg:aB H'.es j=.gone
    ·rw[hg];exact⟨trivial,λb hb=>hb.elim⟩
    ·obtain⟨J,O⟩:=MZ h1 h2 hg<|hr.ob i;exact⟨J,λb hb=>⟨i,h1,O b hb⟩⟩
  ·rename_i G;refine⟨?_,λb hb=>hb.elim⟩;show fu σ ρ j=none;have hj:¬j<H'.nx:=λh=>by rw[nlT h]at G;cases G
   have hl:σ.length<=H'.nx:=Nat.le_of_ble_eq_true E;simp only[fu,qE];rw[List.getElem?_eq_none<|by omega]
 refine⟨⟨λj=>(key j).1,λj b hb=>?_,λi j b U Z=>?_,hr.slt⟩,λj=>(key j).2⟩
 ·obtain⟨i,_,h⟩:=(key j).2 b hb;exact hr.sep i b h
 ·obtain⟨i',h1,h2⟩:=(key i).2 b U;obtain⟨j',J,O⟩:=(key j).2 b Z;have :=hr.dis i' j' b h2 O;subst this;exact uu hn i j i' h1 J
def EP.still:EP->Bool
 |.drw .. =>false
 |_=>true
theorem go_sub{p:EP}(σ pv:YN)(hp:p.still=true)(E:aw K pv)(U:leF σ F F')(hH:leH σ H H'.es)(O:(cI σ&&Nat.ble σ.length H'.nx&&ze σ pv&&Nat.ble F'.length n)=true)(k:Go P K Q p s n F' H'):Go P K Q p s n F H:=λS w ρ a hr hi hf=>by
 simp only[aaa]at O;obtain⟨⟨⟨h1,h2⟩,Z⟩,h4⟩:=O;obtain⟨g1,g2⟩:=DL hH h1 h2 hr;have G:Inv K S w (fu σ ρ) H'.get:=⟨hi.chg,hi.s0,hi.s1,λj b hb=>by obtain⟨i,_,h⟩:=g2 j b hb;exact hi.ow i b h,λid x hx=>by
  have J:=List.all_eq_true.1 Z id (E id x hx);simp only[fu];split at J
  ·rename_i j hj;have :=aag J;subst this
   first|exact hi.pin id x hx|(rw[hj];exact hi.pin id x hx)
  ·cases J⟩
 have :=k S w (fu σ ρ) a g1 G<|LI U (Nat.le_of_ble_eq_true h4) hf;cases p with
 |drw=>cases hp
 |code c=>exact this
 |ops all rest=>exact this
 |ex e=>exact this
def SP(K:Ctx)(Post:V->Hp->Prop)(e:Ending)(w':World):Prop:=
 ∃x S' ρ' v H',e=.returned x∧Post v H'∧HRel S' w' ρ' H'.get∧Inv K S' w' ρ' H'.get∧VRel S' w' ρ' v x
def jg(PL:YN)(i:Nat):Ob->Bool
 |.var _ _=>true
 |.ext _ _=>true
 |.mp _ _ _ _=>true
 |.mps _ _ _ _=>true
 |.row _ _ _=>PL.contains i
 |_=>false
def uN(PL:YN)(h:Nat->Ob)(ρ:Nat->Option Value):Nat->Option Value:=λi=>match jg PL i (h i)with
 |true=>ρ i
 |false=>none
def co(PL:YN)(P:Program)(fid:FuncId)(vs:List V)(H0:Hp)(Post:V->Hp->Prop):Prop:=
 ∀S w ρ xs,HRel S w ρ H0.get->LRel S w ρ vs xs->Calls P fid xs.toArray w (SP ⟨w,S,λb=>∃id,own ρ id (H0.get id) b,uN PL H0.get ρ⟩ Post)
abbrev Sum(P:Program)(fid:FuncId)(vs:List V)(H0:Hp)(Post:V->Hp->Prop):Prop:=co [] P fid vs H0 Post
theorem Le{c:Code}{Post:V->Hp->Prop}(N:Nat)(pv:YN)(hf:P.funcs[fid]?=some fn)(hb:fn.body=some c)(G:fn.ntmps=N)(J:Nat.ble vs.length N=true)(E:∀i,jg PL i (H0.get i)=true->i∈pv)
  (k:∀K,aw K pv->Go P K (bodyPost P fn<|SP K Post) (.code c) [] N (nZ N vs) H0):co PL P fid vs H0 Post:=λS w ρ xs hr hx=>by
 subst G;have hi:Inv ⟨w,S,λb=>∃id,own ρ id (H0.get id) b,uN PL H0.get ρ⟩ S w ρ H0.get:=⟨ChgP.refl _ _,λ_ h=>h,λ_ h=>.inl h,λid b hb=>.inl ⟨id,hb⟩,λid x h=>by
  simp only[uN]at h;split at h
  ·exact h
  ·cases h⟩
 refine Av hf hb J hr hi hx<|k _ λid x h=>E id ?_;simp only[uN]at h;split at h
 ·assumption
 ·cases h
theorem PY(G:TabOk P T){rs:List ResultVar}{e:Exit}(E:fn.results=rs.toArray)(hv:tH T H.get F rs=some vs)(J:Post (pf vs) H)(O:e=.ret∨e=.normal:=by first|exact .inl rfl|exact .inr rfl):Go P K (bodyPost P fn<|SP K Post) (.ex e) [] n F H:=λS w ρ a hr hi U=>
 ret_go G O E hr U hv λx hx=>⟨x,S,ρ,_,H,rfl,J,hr,hi,hx⟩
end
def mG:YN->Nat->Option Nat
 |[],_=>none
 |x::r,i=>match Nat.beq x i with
  |true=>some 0
  |false=>match mG r i with
   |some j=>some<|j+1
   |none=>none
theorem jb:∀{l:YN} {i j:Nat},mG l i=some j->atN l j=some i
 |[],i,j,h=>by cases h
 | x::r,i,j,h=>by
  simp only[mG]at h;split at h
  ·rename_i hb;have :=aag hb;injection h with h;subst h;subst this;rfl
  ·split at h
   ·rename_i j' hj;injection h with h;subst h
    simpa[atN]using jb hj
   ·cases h
theorem CI:∀{l:YN} {i:Nat},mG l i=none->∀j,atN l j≠some i
 |[],i,h,j=>by simp[atN]
 | x::r,i,h,0=>by
  simp only[mG]at h;split at h
  ·cases h
  ·rename_i hb;simp only[atN,ne_eq,aab];exact Nat.ne_of_beq_eq_false hb
 | x::r,i,h,j+1=>by
  simp only[mG]at h;split at h
  ·cases h
  ·split at h
   ·cases h
   ·rename_i hn;simpa[atN]using CI hn j
theorem OC{l:YN}(hn:cI l=true)(h:atN l j=some i):mG l i=some j:=by
 cases hi:mG l i with
 |none=>exact absurd h<|CI hi j
 |some k=>rw[uu hn k j i (jb hi) h]
def sgN(PL:YN)(nx:Nat)(E:Nat->Ob):Nat->YN->Nat->YN
 |0,_,_=>[]
 |m+1,σ,j=>match σ with
  |[]=>(nx+j)::sgN PL nx E m [] (j+1)
  |i::r=>(match jg PL j (E j)with|true=>i|false=>nx+j)::sgN PL nx E m r (j+1)
theorem Ca(PL:YN)(nx:Nat)(E:Nat->Ob):∀(m:Nat) (σ:YN) (j:Nat),(sgN PL nx E m σ j).length=m
 |0,_,_=>rfl
 |m+1,[],j=>by simp[sgN,Ca PL nx E m]
 |m+1,i::r,j=>by simp[sgN,Ca PL nx E m]
theorem Ew(PL:YN)(nx:Nat)(E:Nat->Ob):∀(m:Nat) (σ:YN) (j k:Nat),k<m->atN (sgN PL nx E m σ j) k=some (match atN σ k,jg PL (j+k) (E<|j+k)with|some i,true=>i|_,_=>nx+(j+k))
 |0,_,_,k,h=>by omega
 |m+1,[],j,0,h=>by simp[sgN,atN]
 |m+1,[],j,k+1,h=>by have :=Ew PL nx E m [] (j+1) k (by omega);simp only[sgN,atN]at this⊢;rw[this];simp only[show j+1+k=j+(k+1) by omega]
 |m+1,i::r,j,0,h=>by simp only[sgN,atN,Nat.add_zero];cases jg PL j (E j)<;>rfl
 |m+1,i::r,j,k+1,h=>by have :=Ew PL nx E m r (j+1) k (by omega);simp only[sgN,atN]at this⊢;rw[this];simp only[show j+1+k=j+(k+1) by omega]
def ym(σ:YN):List (Nat×Ob)->List (Nat×Ob)
 |[]=>[]
 |(j,o)::r=>match atN σ j with
  |some i=>(i,o.ren σ)::ym σ r
  |none=>ym σ r
def tB(σ:YN)(nx:Nat):List (Nat×Ob)->List (Nat×Ob)
 |[]=>[]
 |(j,o)::r=>match !σ.contains j&&Nat.blt j nx with
  |true=>match o with
   |.free=>(j,.gone)::tB σ nx r
   |o=>(j,o)::tB σ nx r
  |false=>tB σ nx r
def mO(PL:YN)(H:Hp)(σ:YN)(H0 H':Hp):Hp:=⟨H.nx+H'.nx,ym (sgN PL H.nx H0.get H'.nx σ 0) H'.es++tB σ H.nx H.es⟩
theorem Da{σ:YN}(hn:cI σ=true){i:Nat}:∀{l:List<|Nat×Ob},aB (ym σ l) i=match mG σ i with|some j=>(aB l j).ren σ|none=>.gone
 |[]=>by simp only[ym,aB];cases mG σ i<;>rfl
 | (k,o)::r=>by
  have ih:=Da hn (i:=i) (l:=r);simp only[ym];split
  ·rename_i i' hi';simp only[aB];by_cases e:i'=i
   ·subst e;rw[nbT,OC hn hi'];simp only[nbT]
   ·rw[nbF e,ih];cases hj:mG σ i with
    |none=>rfl
    |some j=>
     have hne:k≠j:=λe'=>by subst e';rw[jb hj]at hi';injection hi' with h;exact e h.symm
     simp only[nbF hne]
  ·rename_i hk;rw[ih];cases hj:mG σ i with
   |none=>rfl
   |some j=>
    have hne:k≠j:=λe'=>by subst e';rw[jb hj]at hk;cases hk
    simp only[aB,nbF hne]
theorem CD{σ:YN}{nx i:Nat}:∀{l:List<|Nat×Ob},aB (tB σ nx l) i=.gone∨(aB (tB σ nx l) i=aB l i∧σ.contains i=false∧i<nx∧aB l i≠.free)
 |[]=>.inl rfl
 | (k, o)::r=>by
  have ih:=CD (σ:=σ) (nx:=nx) (i:=i) (l:=r);simp only[tB];by_cases hk:k=i
  ·subst hk;cases hc:(!σ.contains k&&Nat.blt k nx)
   ·simp only;left;have key:∀(l:List<|Nat×Ob),aB (tB σ nx l) k=.gone:=by
     intro l
     induction l with
     |nil=>rfl
     | cons q t ih=>
      obtain⟨m,o'⟩:=q;simp only[tB];by_cases hm:m=k
      ·subst hm;rw[hc];exact ih
      ·cases hc':(!σ.contains m&&Nat.blt m nx)
       ·exact ih
       ·cases o'<;>(simp only[aB,nbF hm];exact ih)
    exact key r
   ·simp only[aaa,Bool.not_eq_true']at hc;have hlt:k<nx:=by simpa[Nat.blt_eq]using hc.2
    cases o with
    |free=>left;simp only[aB,nbT]
    |gone=>left;simp only[aB,nbT]
    |var t cs=>right;simp only[aB,nbT];exact⟨trivial,hc.1,hlt,by simp⟩
    |row e sz els=>right;simp only[aB,nbT];exact⟨trivial,hc.1,hlt,by simp⟩
    |ext bs Φ=>right;simp only[aB,nbT];exact⟨trivial,hc.1,hlt,by simp⟩
    |mp kt et ks vs=>right;simp only[aB,nbT];exact⟨trivial,hc.1,hlt,by simp⟩
    |mps e kt et ms=>right;simp only[aB,nbT];exact⟨trivial,hc.1,hlt,by simp⟩
  ·have e2:aB ((k,o)::r) i=aB r i:=by simp only[aB,nbF hk]
   rw[e2];cases hc:(!σ.contains k&&Nat.blt k nx)
   ·exact ih
   ·cases o<;>(simp only[aB,nbF hk];exact ih)
theorem yn:∀{l:YN},(∀i j x,atN l i=some x->atN l j=some x->i=j)->cI l=true
 |[],_=>rfl
 | y::r,h=>by
  simp only[cI,aaa,Bool.not_eq_true'];refine⟨?_,yn λi j x hi hj=>by have :=h (i+1) (j+1) x (by simpa[atN]using hi) (by simpa[atN]using hj);omega⟩;cases hc:r.contains y
  ·rfl
  ·exfalso;have hm:y∈r:=by simpa using hc
   obtain⟨k,hk,e⟩:=aaA hm;have :=h 0 (k+1) y (by simp[atN]) (by simp only[atN,qE];rw[List.getElem?_eq_getElem hk,e]);omega
section
variable{P:Program}{K:Ctx}{H H0:Hp}{σ:YN}{S:Nat->Prop}{w:World}
theorem PX{o:Ob}(hσ:∀j x,ρ j=some x->∃i,atN σ j=some i∧ρ' i=some x)(U:atN σ j=some i)(J:ρ j=none->ρ' i=none∨o≠.free)(h:gn S w ρ j o):gn S w ρ' i (o.ren σ)∧∀b,own ρ' i (o.ren σ) b->own ρ j o b:=by
 have hs:∀x,ρ j=some x->ρ' i=some x:=λx hx=>by
  obtain⟨i',h1,h2⟩:=hσ j x hx;rw[U]at h1;injection h1 with h1;subst h1;exact h2
 cases o with
 |free=>exact⟨(J h).resolve_right (by simp),λb hb=>hb⟩
 |gone=>exact⟨trivial,λb hb=>hb⟩
 |ext bs Φ=>exact⟨h,λb hb=>hb⟩
 |mp kt et ks vs=>
  obtain⟨b,es,ck,h1,h2,G⟩:=h;refine⟨⟨b,es,ck,hs _ h1,h2,G⟩,λc E=>?_⟩;simp only[Ob.ren,own]at E⊢;rw[hs _ h1]at E;rw[h1];exact E
 |mps e kt et ms=>
  obtain⟨v,bs,h1,h2⟩:=h;refine⟨⟨v,bs,hs _ h1,h2⟩,λc E=>?_⟩;simp only[Ob.ren,own]at E⊢;rw[hs _ h1]at E;rw[h1];exact E
 |var t cs=>
  obtain⟨b,xs,h1,h2,G⟩:=h;refine⟨⟨b,xs,hs _ h1,h2,G.bwd hσ⟩,λc E=>?_⟩;simp only[Ob.ren,own]at E⊢;rw[hs _ h1]at E;rw[h1];exact E
 |row e sz els=>
  obtain⟨v,xs,h1,h2,G⟩:=h;refine⟨⟨v,xs,hs _ h1,by rw[Ak];exact h2,G.bwd hσ⟩,λc E=>?_⟩;obtain⟨q,O,Z⟩:=E;rw[hs _ h1]at O;cases O;exact⟨v,h1,Z⟩
theorem sV(hS:co PL P fid us H0 Post)(σ:YN)(hv:aT vs<|renL σ us)(hH:leH σ H H0.es)(hc:(cI σ&&Nat.beq σ.length H0.nx&&σ.all λi=>Nat.blt i H.nx)=true)(L:YN)(hL:(cS H.get L&&L.all λi=>!σ.contains i)=true):
  CallR P K fid vs H L (λv' H''=>∃v H',Post v H'∧v'=v.ren (sgN PL H.nx H0.get H'.nx σ 0)∧H''=mO PL H σ H0 H'):=λS w ρ xs hr hi hx=>by
 simp only[aaa]at hc hL;obtain⟨⟨hc1,hc2⟩,hc3⟩:=hc;have hlen:σ.length=H0.nx:=by simpa using hc2
 have hσlt:∀j i,atN σ j=some i->i<H.nx:=λj i h=>by rw[qE]at h;have :=List.all_eq_true.1 hc3 i (List.mem_of_getElem? h);simpa[Nat.blt_eq]using this
 obtain⟨g1,g2⟩:=DL (H':=H0) hH hc1 (by simp[hlen]) hr;refine(hS S w (fu σ ρ) xs g1<|(hv.rel hx).ren).mono λe w' hR=>?_;obtain⟨x,S',ρ1,v,H',rfl,hP,hr',hi',hvr⟩:=hR;obtain⟨τ,hτ⟩:∃τ,τ=sgN PL H.nx H0.get H'.nx σ 0:=⟨_,rfl⟩;have hτlen:τ.length=H'.nx:=by rw[hτ];exact Ca _ _ _ _ _ _
 have hτat:∀j,j<H'.nx->atN τ j=some (match atN σ j,jg PL j (H0.get j)with|some i,true=>i|_,_=>H.nx+j):=λj hj=>by rw[hτ,Ew _ _ _ _ _ _ _ hj];simp only[Nat.zero_add]
 have hτlt:∀j i,atN τ j=some i->j<H'.nx:=λj i h=>by rw[qE]at h;have :=(List.getElem?_eq_some_iff.1 h).1;omega
 have hτc:∀j i,atN τ j=some i->(atN σ j=some i∧jg PL j (H0.get j)=true)∨i=H.nx+j:=λj i h=>by
  have hj:=hτlt j i h;rw[hτat j hj]at h;simp only[aab]at h;cases h1:atN σ j with
  |none=>rw[h1]at h;exact .inr h.symm
  |some i1=>
   rw[h1]at h;cases h2:jg PL j<|H0.get j
   ·rw[h2]at h;exact .inr h.symm
   ·rw[h2]at h;simp only at h;subst h;exact .inl ⟨rfl,rfl⟩
 have hτbd:∀j i,atN τ j=some i->i<H.nx+H'.nx:=λj i h=>by
  have hj:=hτlt j i h;rcases hτc j i h with⟨h1,_⟩|h1
  ·have :=hσlt j i h1;omega
  ·omega
 have hτinj:cI τ=true:=yn λj k i h1 h2=>by
  rcases hτc j i h1 with⟨a1,_⟩|a1<;>rcases hτc k i h2 with⟨a2,_⟩|a2
  ·exact uu hc1 j k i a1 a2
  ·have :=hσlt j i a1;omega
  ·have :=hσlt k i a2;omega
  ·omega
 have hfreeρ:∀i,H.nx<=i->ρ i=none:=λi hi'=>by
  have :=hr.ob i;have e:H.get i=.free:=by
   unfold Hp.get;have :Nat.blt i H.nx=false:=by cases hb:Nat.blt i H.nx;rfl;simp[Nat.blt_eq]at hb;omega
   rw[this]
  rw[e]at this;exact this
 have hfree1:∀j,H'.nx<=j->ρ1 j=none:=λj hj=>by
  have :=hr'.ob j;have e:H'.get j=.free:=by
   unfold Hp.get;have :Nat.blt j H'.nx=false:=by cases hb:Nat.blt j H'.nx;rfl;simp[Nat.blt_eq]at hb;omega
   rw[this]
  rw[e]at this;exact this
 obtain⟨ρ2,hρ2⟩:∃ρ2:Nat->Option Value,ρ2=λi=>if i<H.nx then ρ i else ρ1 (i-H.nx):=⟨_,rfl⟩
 have hup:∀i y,ρ i=some y->ρ2 i=some y:=λi y h=>by
  by_cases hlt:i<H.nx
  ·rw[hρ2];simp only[hlt,if_true];exact h
  ·rw[hfreeρ i<|by omega]at h;cases h
 have hpin:∀j,jg PL j (H0.get j)=true->∀y,fu σ ρ j=some y->ρ1 j=some y:=λj hv y h=>hi'.pin j y (by simp only[uN,hv];exact h);have hnoext:∀j i,atN σ j=some i->∀bs Φ,H0.get j=.ext bs Φ->False:=λj i h1 bs Φ hy'=>by
  have hl:=AJ hH j;have hlt:j<H0.nx:=by rw[<-hlen];rw[qE]at h1;exact(List.getElem?_eq_some_iff.1 h1).1
  have e0:H0.get j=aB H0.es j:=by unfold Hp.get;rw[nlT hlt]
  rw[<-e0,hy']at hl;rcases hl with hl|⟨i',_,hl⟩
  ·cases hl
  ·cases ho:H.get i'<;>rw[ho]at hl<;>simp[Ob.ren,nV]at hl
 have hτρ:∀j y,ρ1 j=some y->∃i,atN τ j=some i∧ρ2 i=some y:=λj y h=>by
  have hj:j<H'.nx:=by
   rcases Nat.lt_or_ge j H'.nx with h1|h1
   ·exact h1
   ·rw[hfree1 j h1]at h;cases h
  obtain⟨i,hji⟩:∃i,atN τ j=some i:=⟨_,hτat j hj⟩;refine⟨i,hji,?_⟩;rcases hτc j i hji with⟨h1,h2⟩|h1
  ·
   have hob:=g1.ob j;have hsome:∃y',fu σ ρ j=some y'∨∃bs Φ,H0.get j=.ext bs Φ:=by
    cases ho:H0.get j with
    |var t cs=>rw[ho]at hob;obtain⟨b,_,hb,_⟩:=hob;exact⟨_,.inl hb⟩
    |row e sz els=>rw[ho]at hob;obtain⟨b,_,hb,_⟩:=hob;exact⟨_,.inl hb⟩
    |ext bs Φ=>exact⟨.bool true,.inr ⟨bs,Φ,rfl⟩⟩
    |mp kt et ks vs=>rw[ho]at hob;obtain⟨b,_,_,hb,_⟩:=hob;exact⟨_,.inl hb⟩
    |mps e kt et ms=>rw[ho]at hob;obtain⟨_,_,hb,_⟩:=hob;exact⟨_,.inl hb⟩
    |_=>rw[ho]at h2;cases h2
   obtain⟨y',hy'|⟨bs,Φ,hy'⟩⟩:=hsome
   ·have :=hpin j h2 y' hy';rw[h]at this;injection this with this;subst this
    simp only[fu,h1]at hy';exact hup _ _ hy'
   ·exact(hnoext j i h1 bs Φ hy').elim
  ·subst h1;rw[hρ2];simp only[show¬H.nx+j<H.nx by omega,if_false,Nat.add_sub_cancel_left];exact h
 obtain⟨h1',hh1'⟩:∃h1':Nat->Ob,h1'=λi=>match mG τ i with|some j=>(H'.get j).ren τ|none=>if i<H.nx+H'.nx then .gone else .free:=⟨_,rfl⟩
 obtain⟨h1,hh1⟩:∃h1:Nat->Ob,h1=λi=>match σ.contains i with|true=>H.get i|false=>.gone:=⟨_,rfl⟩
 have hin:∀i,h1 i=H.get i∨h1 i=.gone:=λi=>by rw[hh1];simp only[];cases σ.contains i<;>simp
 have hkey:∀i,gn S' w' ρ2 i (h1' i)∧∀b,own ρ2 i (h1' i) b->∃j,mG τ i=some j∧own ρ1 j (H'.get j) b:=λi=>by
  rw[hh1'];simp only[];cases hj:mG τ i with
  | none=>
   simp only[];split
   ·exact⟨trivial,λb hb=>hb.elim⟩
   ·rename_i hlt;refine⟨?_,λb hb=>hb.elim⟩;show ρ2 i=none;rw[hρ2];simp only[show¬i<H.nx by omega,if_false];exact hfree1 _ (by omega)
  | some j=>
   have hat:=jb hj;obtain⟨k1,k2⟩:=PX hτρ hat (λhn=>by
    have hjl:=hτlt j i hat;by_cases hf:H'.get j=.free
    ·left;rcases hτc j i hat with⟨a1,a2⟩|a1
     ·
      have hob:=g1.ob j;exfalso;cases ho:H0.get j with
      |var t cs=>
       rw[ho]at hob;obtain⟨b,_,hb,_⟩:=hob;have :=hpin j a2 _ hb;rw[hn]at this;cases this
      |row e sz els=>
       rw[ho]at hob;obtain⟨b,_,hb,_⟩:=hob;have :=hpin j a2 _ hb;rw[hn]at this;cases this
      |ext bs Φ=>exact hnoext j i a1 bs Φ ho
      |mp kt et ks vs=>
       rw[ho]at hob;obtain⟨b,_,_,hb,_⟩:=hob;have :=hpin j a2 _ hb;rw[hn]at this;cases this
      |mps e kt et ms=>
       rw[ho]at hob;obtain⟨_,_,hb,_⟩:=hob;have :=hpin j a2 _ hb;rw[hn]at this;cases this
      |_=>rw[ho]at a2;cases a2
     ·subst a1;rw[hρ2];simp only[show¬H.nx+j<H.nx by omega,if_false,Nat.add_sub_cancel_left];exact hn
    ·exact .inr hf) (hr'.ob j)
   exact⟨k1,λb hb=>⟨j,I,k2 b hb⟩⟩
 have hX:∀b,(∃id,own (fu σ ρ) id (H0.get id) b)->∃id,own ρ id (h1 id) b:=λb ⟨id,hb⟩=>by
  obtain⟨i,h2,h3⟩:=g2 id b hb;refine⟨i,?_⟩;have hm:σ.contains i=true:=by rw[qE]at h2;simpa using List.mem_of_getElem? h2
  rw[hh1];simp only[hm];exact h3
 have hrel1:HRel S' w' ρ2 h1':=⟨λi=>(hkey i).1,λi b hb=>by obtain⟨j,_,h⟩:=(hkey i).2 b hb;exact hr'.sep j b h,λi k b hbi hbk=>by obtain⟨j,e1,h1⟩:=(hkey i).2 b hbi;obtain⟨j',e2,h2⟩:=(hkey k).2 b hbk;have :=hr'.dis j j' b h1 h2;subst this;have a1:=jb e1;have a2:=jb e2;rw[a1]at a2;injection a2,hr'.slt⟩
 have hinv1:Inv ⟨w,S,λb=>∃id,own ρ id (h1 id) b,ρ⟩ S' w' ρ2 h1':=⟨hi'.chg.mono hX,hi'.s0,λb hb=>by
  rcases hi'.s1 b hb with h|h|h
  ·exact .inl h
  ·exact .inr<|.inl<|hX b h
  ·exact .inr<|.inr h,λi b hb=>by
  obtain⟨j,_,h⟩:=(hkey i).2 b hb;rcases hi'.ow j b h with h|h
  ·exact .inl<|hX b h
  ·exact .inr h,λid y h=>hup id y h⟩
 have hh2:∀i,((mO PL H σ H0 H').get i=h1' i∨(mO PL H σ H0 H').get i=.gone)∨((mO PL H σ H0 H').get i=H.get i∧h1 i=.gone∧H.get i≠.free):=λi=>by
  by_cases hlt:i<H.nx+H'.nx
  ·have e0:(mO PL H σ H0 H').get i=aB (ym τ H'.es++tB σ H.nx H.es) i:=by
    unfold Hp.get mO;simp only[nlT hlt,hτ]
   rw[e0];rcases Ec (ym τ H'.es) (tB σ H.nx H.es) i with e|⟨_,e⟩
   ·rw[e,Da hτinj];cases hj:mG τ i with
    |none=>exact .inl<|.inr rfl
    |some j=>
     left;left;rw[hh1'];simp only[hj];have hjl:=hτlt j i<|jb hj;unfold Hp.get;rw[nlT hjl]
   ·rw[e];rcases CD (σ:=σ) (nx:=H.nx) (i:=i) (l:=H.es)with e1|⟨e1,e2,e3,e4⟩
    ·exact .inl<|.inr e1
    ·right;have eH:H.get i=aB H.es i:=by unfold Hp.get;rw[nlT e3]
     refine⟨by rw[e1,eH],?_,by rw[eH];exact e4⟩;rw[hh1];simp only[e2]
  ·left;left;have e0:(mO PL H σ H0 H').get i=.free:=by
    unfold Hp.get mO;have :Nat.blt i (H.nx+H'.nx)=false:=by cases hb:Nat.blt i<|H.nx+H'.nx;rfl;simp[Nat.blt_eq]at hb;omega
    simp only[this]
   rw[e0,hh1'];simp only[];cases hj:mG τ i with
   |none=>simp only[hlt,if_false]
   |some j=>have :=hτbd j i<|jb hj;omega
 obtain⟨m1,m2,m3,m4⟩:=DI (h2:=(mO PL H σ H0 H').get) hr hi hin hrel1 hinv1 hh2;refine⟨x,S',ρ2,_,_,I,⟨v,H',hP,I,I⟩,m1,m2,m3,by rw[<-hτ];exact hvr.bwd hτρ,m4 L hL.1 λid hid=>?_⟩;have :=List.all_eq_true.1 hL.2 id hid;simp only[Bool.not_eq_true']at this;rw[hh1];simp only[this]
end
variable{α:Type}
section
variable(T:Tab)
def opS(F:Fm)(H:Hp)(o:Oper)(c:Fm->Hp->Option α):Option α:=
 match qf T H.get F o.op with
 |some v=>F.puto o.dst (some v) λF'=>c F' H
 |none=>match pb T H.get F H.nx o.op with
  |some (v,ed)=>H.ap ed λH'=>match v with
   |some v=>F.puto o.dst (some v) λF'=>c F' H'
   |none=>F.puto o.dst (some<|.tup []) λF'=>c F' H'
  |none=>none
def gG:Nat->EP->List EI->Fm->Hp->Option (EP×List EI×Fm×Hp)
 |0,p,s,F,H=>some (p,s,F,H)
 |k+1,.code c,s,F,H=>match c with
  |.seq x y=>gG k (.code x) (.seq y::s) F H
  |.block id c=>gG k (.code c) (.blk id::s) F H
  |.skip=>gG k (.ex .normal) s F H
  |.ret=>gG k (.ex .ret) s F H
  |.exit id=>gG k (.ex<|.exit id) s F H
  |.cond c x y=>match aJ F c with
   |some (.bool true)=>gG k (.code x) s F H
   |some (.bool false)=>gG k (.code y) s F H
   |_=>none
  |.region _ ⟨l⟩ false=>gG k (.ops ⟨l⟩ l) s F H
  |_=>none
 |k+1,.ops all rest,s,F,H=>match rest with
  |[]=>gG k (.ex .normal) s F H
  |o::r=>match bg F all o.guard with
   |some true=>opS T F H o λF' H'=>gG k (.ops all r) s F' H'
   |some false=>F.puto o.dst (some<|.tup []) λF'=>gG k (.ops all r) s F' H
   |none=>none
 |k +1,.ex e,s,F,H=>match s with
  |[]=>none
  |.seq c::s=>match e with
   |.normal=>gG k (.code c) s F H
   |.exit i=>gG k (.ex<|.exit i) s F H
   |.ret=>gG k (.ex .ret) s F H
   |_=>none
  |.blk id::s=>match e with
   |.normal=>gG k (.ex .normal) s F H
   |.exit i=>match Nat.beq i id with
    |true=>gG k (.ex .normal) s F H
    |false=>gG k (.ex<|.exit i) s F H
   |.ret=>gG k (.ex .ret) s F H
   |_=>none
  |_=>none
 |k+1,.drw ..,_,_,_=>none
def pV (all:Array Oper) (L:List Nat):List (Nat×Nat)->Fm->Hp->Option (Fm×Hp)
 |[],F,H=>some (F,H)
 |(i, f)::r,F,H=>match all[i]? with
  |some o=>match bg F all o.guard with
   |some false=>F.puto o.dst (some<|.tup []) λF'=>pV all L r F' H
   |some true=>match f with
    |2=>match qf T H.get F o.op with
     |some v=>F.puto o.dst (some v) λF'=>pV all L r F' H
     |none=>none
    |3 =>match vx F o.op with
     |some id=>match L.contains id with
      |true=>match pb T H.get F H.nx o.op with
       |some (some v,_)=>F.puto o.dst (some v) λF'=>pV all L r F' H
       |_=>none
      |false=>none
     |none=>none
    |f =>match qf T H.get F o.op with
     |some v=>F.puto o.dst (some v) λF'=>pV all L r F' H
     |none=>match pb T H.get F H.nx o.op with
      |some (v,ed)=>match(cS H.get L&&ed.clear L)||Nat.beq f 1 with
       |true=>H.ap ed λH'=>match v with
        |some v=>F.puto o.dst (some v) λF'=>pV all L r F' H'
        |none=>F.puto o.dst (some<|.tup []) λF'=>pV all L r F' H'
       |false=>none
      |none=>none
   |none=>none
  |none=>none
end
def FV(all:Array Oper)(m:Nat):List (Nat×Nat)->Array Bool->Bool
 |[],_=>true
 |(i,f)::r,listed=>(match f with
  |2=>!Nat.beq i m&&Region.free .any all listed i&&(Region.ready .any all listed).contains i
  |3=>!Nat.beq i m&&Region.free .any all listed i&&(Region.ready .any all listed).contains i&&zx .any all m i&&!listed.getD m false
  |1=>(match Region.ready .any all listed with|[j]=>Nat.beq i j|_=>false)&&(listed.setIfInBounds i true).getD m false
  |_=>(match Region.ready .any all listed with|[j]=>Nat.beq i j|_=>false))&&FV all m r (listed.setIfInBounds i true)
def Iw:List (Nat×Nat)->Array Bool->Array Bool
 |[],l=>l
 |(i,_)::r,l=>Iw r<|l.setIfInBounds i true
variable{l:Int}
variable{e:TypeId}{sz:Nat}
variable{y:Operand}{els:List V}{ty:TypeId}
section
variable{P:Program}{T:Tab}{K:Ctx}{Q:Exit->Act->World->Prop}{p p':EP}{s s':List EI}{n:Nat}{F F' F1 F2:Fm}{H H' H1:Hp}
theorem PH(E:TabOk P T){rest:List Oper}{c:Fm->Hp->Option α}{x:α}(G:bg F all o.guard=some true)(h:opS T F H o c=some x):∃F' H',c F' H'=some x∧(Go P K Q (.ops all rest) s n F' H'->Go P K Q (.ops all<|o::rest) s n F H):=by
 unfold opS at h;split at h
 ·rename_i v hv;rw[Fm.puto_eq]at h;exact⟨_,_,h,λk=>go_opP E G hv k⟩
 ·split at h
  ·rename_i v ed hv;rw[Hp.ap_eq]at h;cases v with
   |none=>
    simp only[Fm.puto_eq]at h;exact⟨_,_,h,λk=>go_opE E G hv k⟩
   |some v=>
    simp only[Fm.puto_eq]at h;exact⟨_,_,h,λk=>go_opE E G hv k⟩
  ·cases h
theorem dz(hT:TabOk P T):∀(k:Nat) (p:EP) (s:List EI) (F:Fm) (H:Hp),gG T k p s F H=some (p',s',F',H')->Go P K Q p' s' n F' H'->Go P K Q p s n F H
 |0,p,s,F,H,h,kk=>by simp only[gG,aab,Prod.mk.injEq]at h;obtain⟨rfl,rfl,rfl,rfl⟩:=h;exact kk
 | k+1,.code c,s,F,H,h,kk=>by
  unfold gG at h;split at h
  ·exact Ko<|dz hT k _ _ _ _ h kk
  ·exact DX<|dz hT k _ _ _ _ h kk
  ·exact Ho<|dz hT k _ _ _ _ h kk
  ·exact go_ret<|dz hT k _ _ _ _ h kk
  ·exact GP<|dz hT k _ _ _ _ h kk
  ·split at h
   ·exact Ed ‹_› (dz hT k _ _ _ _ h kk)
   ·exact Fg ‹_› (dz hT k _ _ _ _ h kk)
   ·cases h
  ·exact go_region<|dz hT k _ _ _ _ h kk
  ·cases h
 | k+1,.ops all rest,s,F,H,h,kk=>by
  unfold gG at h;split at h
  ·exact KF<|dz hT k _ _ _ _ h kk
  ·split at h
   ·obtain⟨F1,H1,h1,h2⟩:=PH (P:=P) (K:=K) (Q:=Q) (s:=s) (n:=n) hT ‹_› h;exact h2<|dz hT k _ _ _ _ h1 kk
   ·rw[Fm.puto_eq]at h;exact Jx ‹_› (dz hT k _ _ _ _ h kk)
   ·cases h
 | k+1,.ex e,s,F,H,h,kk=>by
  unfold gG at h;split at h
  ·cases h
  ·split at h
   ·exact GH<|dz hT k _ _ _ _ h kk
   ·exact FC<|dz hT k _ _ _ _ h kk
   ·exact FR<|dz hT k _ _ _ _ h kk
   ·cases h
  ·split at h
   ·exact ET<|dz hT k _ _ _ _ h kk
   ·split at h
    ·exact EK ‹_› (dz hT k _ _ _ _ h kk)
    ·exact FU ‹_› (dz hT k _ _ _ _ h kk)
   ·exact DJ<|dz hT k _ _ _ _ h kk
   ·cases h
  ·cases h
 |k+1,.drw ..,s,F,H,h,kk=>by simp[gG]at h
variable{all:Array Oper}{rest:List Oper}{o:Oper}{L:YN}{m fuel:Nat}{listed:Array Bool}
theorem De(h:(match Region.ready .any all listed with|[j]=>Nat.beq i j|_=>false)=true):Region.ready .any all listed=[i]:=by
 split at h
 ·rename_i j E;rw[E,aag h]
 ·cases h
theorem oV (hT:TabOk P T):∀(is:List<|Nat×Nat) (fuel:Nat) (listed:Array Bool) (F:Fm) (H:Hp),FV all m is listed=true->pV T all L is F H=some (F',H')->Go P K Q (.drw all L m fuel<|Iw is listed) s n F' H'->Go P K Q (.drw all L m (fuel+is.length) listed) s n F H
 |[],fuel,listed,F,H,hc,hr,k=>by simp only[pV,aab,Prod.mk.injEq]at hr;obtain⟨rfl,rfl⟩:=hr;exact k
 | (i, f)::r,fuel,listed,F,H,hc,hr,k=>by
  simp only[FV,aaa]at hc;obtain⟨hc1,hc2⟩:=hc;show Go P K Q (.drw all L m (fuel+r.length+1) listed) s n F H;unfold pV at hr;split at hr
  ·rename_i o ho;split at hr
   ·rename_i hw;rw[Fm.puto_eq]at hr;have ih:=oV hT r fuel _ _ _ hc2 hr k;have single:(match Region.ready .any all listed with|[j]=>Nat.beq i j|_=>false)=true->Go P K Q (.drw all L m (fuel+r.length+1) listed) s n F H:=λhx=>go_d1S (De hx) ho hw ih;split at hc1
    ·simp only[aaa,Bool.not_eq_true']at hc1;exact Io hc1.1.1 ho hc1.1.2 hc1.2 hw ih
    ·simp only[aaa,Bool.not_eq_true']at hc1;exact Io hc1.1.1.1.1 ho hc1.1.1.1.2 hc1.1.1.2 hw ih
    ·simp only[aaa]at hc1;exact single hc1.1
    ·exact single hc1
   ·rename_i hw;split at hr
    ·split at hr
     ·rename_i v hv;rw[Fm.puto_eq]at hr;have ih:=oV hT r fuel _ _ _ hc2 hr k;simp only[aaa,Bool.not_eq_true']at hc1;exact Nw hT hc1.1.1 ho hc1.1.2 hc1.2 hw hv ih
     ·cases hr
    ·split at hr
     ·rename_i id hid;split at hr
      ·rename_i hL;split at hr
       ·rename_i v ed hv;rw[Fm.puto_eq]at hr;have ih:=oV hT r fuel _ _ _ hc2 hr k;simp only[aaa,Bool.not_eq_true']at hc1;exact No hT hc1.1.1.1.1 hc1.1.2 hc1.2 ho hc1.1.1.1.2 hc1.1.1.2 hw hid hL hv ih
       ·cases hr
      ·cases hr
     ·cases hr
    ·rename_i h2 h3;have hs:(match Region.ready .any all listed with|[j]=>Nat.beq i j|_=>false)=true∧(Nat.beq f 1=true->(listed.setIfInBounds i true).getD m false=true):=by
      split at hc1
      ·exact absurd I h2
      ·exact absurd I h3
      ·simp only[aaa]at hc1;exact⟨hc1.1,λ_=>hc1.2⟩
      ·rename_i h1;exact⟨hc1,λhb=>absurd (aag hb) h1⟩
     have hrd:=De hs.1;split at hr
     ·rename_i v hv;rw[Fm.puto_eq]at hr;have ih:=oV hT r fuel _ _ _ hc2 hr k;exact Kg hrd ho hw (λS w ρ a hr hF=>wv hT hr hF hv) ih
     ·split at hr
      ·rename_i v ed hv;split at hr
       ·rename_i hcl;rw[Hp.ap_eq]at hr;have hcl':((cS H.get L&&ed.clear L)||(listed.setIfInBounds i true).getD m false)=true:=by
         rcases yZ hcl with h|h
         ·rw[h];rfl
         ·rw[hs.2 h];simp
        cases v with
        |none=>
         simp only[Fm.puto_eq]at hr;exact DK hrd ho hw (λS w ρ a hr hF=>zh hT hr hF H.get_free hv) (uJ hv) hcl'<|oV hT r fuel _ _ _ hc2 hr k
        |some v=>
         simp only[Fm.puto_eq]at hr;exact DK hrd ho hw (λS w ρ a hr hF=>zh hT hr hF H.get_free hv) (uJ hv) hcl'<|oV hT r fuel _ _ _ hc2 hr k
       ·cases hr
      ·cases hr
   ·cases hr
  ·cases hr
theorem sK{d:Nat}{J:V}(O:F.get d=some v)(hs:cd v J)(k:Go P K Q p s n (F.set d<|some J) H):Go P K Q p s n F H:=λS w ρ a hr hi G=>by
 refine k S w ρ a hr hi ⟨G.size,G.defers,G.gl,by have :=G.len;simpa using this,λi u E=>?_⟩;rw[Fm.get_eq,List.getElem?_set]at E;split at E
 ·rename_i e;subst e;split at E
  ·simp only[Option.bind_some,id_eq,aab]at E;subst E;obtain⟨x,h1,h2⟩:=G.get d v O;exact⟨x,h1,hs _ _ _ _ h2⟩
  ·cases E
 ·exact G.get i u (by rw[Fm.get_eq];exact E)
theorem gB{e:Bool}(d:Nat)(G:F.get d=some (.bool e))(h1:F.put d (some<|.bool true) id=F1)(h2:F.put d (some<|.bool false) id=F2)(kT:e=true->Go P K Q p s n F1 H)(kF:e=false->Go P K Q p s n F2 H):Go P K Q p s n F H:=by
 rw[Fm.put_eq]at h1 h2;subst h1 h2;cases E:e with
 |true=>exact sK G (by rw[E];exact cd.rfl)<|kT E
 |false=>exact sK G (by rw[E];exact cd.rfl)<|kF E
theorem gT{e:Bool}(d:Nat)(E:F.get d=some (.bool e))(G:e=true)(h1:F.put d (some<|.bool true) id=F1)(k:Go P K Q p s n F1 H):Go P K Q p s n F H:=by rw[Fm.put_eq]at h1;subst h1;exact sK E (by rw[G];exact cd.rfl) k
theorem gF{e:Bool}(d:Nat)(E:F.get d=some (.bool e))(G:e=false)(h1:F.put d (some<|.bool false) id=F1)(k:Go P K Q p s n F1 H):Go P K Q p s n F H:=by rw[Fm.put_eq]at h1;subst h1;exact sK E (by rw[G];exact cd.rfl) k
theorem gV(d:Nat)(E:V)(G:F.get d=some v)(J:v=E)(h1:F.put d (some E) id=F1)(k:Go P K Q p s n F1 H):Go P K Q p s n F H:=by rw[Fm.put_eq]at h1;subst h1;exact sK G (by rw[J];exact cd.rfl) k
theorem al{m:Int}(h:-9223372036854775808<=m∧m<=9223372036854775807)(e:m=l):V.int .i64 (IntKind.i64.wrap m)=.int .i64 l:=by
 subst e;rw[IntWalk.i64_in _<|by omega]
def slT(T:Tab)(t:TypeId):Option (TypeId×Nat):=match T.ty t with
 |some ⟨_,_,_,.sl e⟩=>match T.ty e with
  |some ⟨sz,_,_,_⟩=>some (e,sz)
  |none=>none
 |_=>none
theorem qO(E:TabOk P T)(h:slT T t=some (e,sz)):P.underlying t=some (.slice e)∧dm P e=some sz:=by
 unfold slT at h;split at h
 ·rename_i ht;split at h
  ·rename_i G;simp only[aab,Prod.mk.injEq]at h;obtain⟨rfl,rfl⟩:=h;exact⟨(E.ty _ _ ht).sl I,(E.ty _ _ G).size⟩
  ·cases h
 ·cases h
theorem yIR(G:TabOk P T)(ht:slT T t=some (e,sz))(hx:aJ F x=some (.row sz els))(hy:aJ F y=some (.int .i64 (i:Int)))(hi:els[i]?=some v):∀S w ρ a,HRel S w ρ H.get->FRel S w ρ a n F->Yld P S w ρ a ty (.indexAddr t x y) (.box v.cells 0):=λS w ρ a hr E=>
 p_idxR E.fr (qO G ht).1 (qO G ht).2 (aq E hx) (aq E hy) hi
theorem yIO(G:TabOk P T){J:TypeId}{id:Nat}(ht:slT T t=some (e,sz))(hx:aJ F x=some (.sl id))(ho:H.get id=.row J sz els)(hy:aJ F y=some (.int .i64 (i:Int)))(hi:i<els.length):∀S w ρ a,HRel S w ρ H.get->FRel S w ρ a n F->Yld P S w ρ a ty (.indexAddr t x y) (.el id sz i 0):=λS w ρ a hr E=>
 p_idxO hr ho E.fr (qO G ht).1 (qO G ht).2 (aq E hx) (aq E hy) hi
theorem gY(hy:∀S w ρ a,HRel S w ρ H.get->FRel S w ρ a n F->Yld P S w ρ a o.type o.op v)(E:bg F all o.guard=some true)(h1:F.puto o.dst (some v) id=F1)(k:Go P K Q (.ops all rest) s n F1 H):Go P K Q (.ops all<|o::rest) s n F H:=by rw[Fm.puto_eq]at h1;subst h1;exact go_opY E hy k
mutual
def mapV(f:V->V):V->V
 |.agg cs=>.agg<|mapVs f cs
 |.tup cs=>.tup<|mapVs f cs
 |.clo fid cs=>.clo fid<|mapVs f cs
 |.sl j=>f<|.sl j
 |.int k n=>f<|.int k n
 |.bool b=>f<|.bool b
 |.str l=>f<|.str l
 |.nilp=>f .nilp
 |.nils=>f .nils
 |.raw x=>f<|.raw x
 |.ptr i o=>f<|.ptr i o
 |.el i sz j o=>f<|.el i sz j o
 |.box cs o=>f<|.box cs o
 |.row sz els=>f<|.row sz els
 |.lk els=>f<|.lk els
 |.np i=>f<|.np i
 |.mm i k=>f<|.mm i k
def mapVs(f:V->V):List V->List V
 |[]=>[]
 |v::r=>mapV f v::mapVs f r
end
mutual
theorem VRel.mapV{S S':Nat->Prop}{w:World}{ρ:Nat->Option Value}{f:V->V}(hf:∀v x,VRel S w ρ v x->VRel S' w ρ (f v) x):∀{v:V} {x:Value},VRel S w ρ v x->VRel S' w ρ (mapV f v) x
 |.int _ _,x,h=>by simp only[Go.Proofs.YtehhanlhfdoiaaaGreat.mapV];exact hf _ _ h
 |.bool _,x,h=>by simp only[Go.Proofs.YtehhanlhfdoiaaaGreat.mapV];exact hf _ _ h
 |.str _,x,h=>by simp only[Go.Proofs.YtehhanlhfdoiaaaGreat.mapV];exact hf _ _ h
 |.nilp,x,h=>by simp only[Go.Proofs.YtehhanlhfdoiaaaGreat.mapV];exact hf _ _ h
 |.nils,x,h=>by simp only[Go.Proofs.YtehhanlhfdoiaaaGreat.mapV];exact hf _ _ h
 |.raw _,x,h=>by simp only[Go.Proofs.YtehhanlhfdoiaaaGreat.mapV];exact hf _ _ h
 |.box _ _,x,h=>by simp only[Go.Proofs.YtehhanlhfdoiaaaGreat.mapV];exact hf _ _ h
 |.row _ _,x,h=>by simp only[Go.Proofs.YtehhanlhfdoiaaaGreat.mapV];exact hf _ _ h
 |.lk _,x,h=>by simp only[Go.Proofs.YtehhanlhfdoiaaaGreat.mapV];exact hf _ _ h
 |.ptr _ _,x,h=>by simp only[Go.Proofs.YtehhanlhfdoiaaaGreat.mapV];exact hf _ _ h
 |.el _ _ _ _,x,h=>by simp only[Go.Proofs.YtehhanlhfdoiaaaGreat.mapV];exact hf _ _ h
 |.sl j,x,h=>by simp only[Go.Proofs.YtehhanlhfdoiaaaGreat.mapV];exact hf _ _ h
 |.np j,x,h=>by simp only[Go.Proofs.YtehhanlhfdoiaaaGreat.mapV];exact hf _ _ h
 |.mm j k,x,h=>by simp only[Go.Proofs.YtehhanlhfdoiaaaGreat.mapV];exact hf _ _ h
 |.agg cs,x,h=>by simp only[Go.Proofs.YtehhanlhfdoiaaaGreat.mapV,VRel]at h⊢;obtain⟨xs,h1,h2⟩:=h;exact⟨xs,h1,LRel.mapV hf h2⟩
 |.tup cs,x,h=>by simp only[Go.Proofs.YtehhanlhfdoiaaaGreat.mapV,VRel]at h⊢;obtain⟨xs,h1,h2⟩:=h;exact⟨xs,h1,LRel.mapV hf h2⟩
 |.clo fid cs,x,h=>by simp only[Go.Proofs.YtehhanlhfdoiaaaGreat.mapV,VRel]at h⊢;obtain⟨xs,h1,h2⟩:=h;exact⟨xs,h1,LRel.mapV hf h2⟩
theorem LRel.mapV{S S':Nat->Prop}{w:World}{ρ:Nat->Option Value}{f:V->V}(hf:∀v x,VRel S w ρ v x->VRel S' w ρ (f v) x):∀{v:List V} {x:List Value},LRel S w ρ v x->LRel S' w ρ (mapVs f v) x
 |[],x,h=>by simp only[mapVs,LRel]at h⊢;exact h
 |v::r,x,h=>by simp only[mapVs,LRel]at h⊢;obtain⟨y,ys,h1,h2,h3⟩:=h;exact⟨y,ys,h1,VRel.mapV hf h2,LRel.mapV hf h3⟩
end
def ql(f:V->V):Fm->Fm
 |[]=>[]
 |none::r=>none::ql f r
 |some v::r=>some (mapV f v)::ql f r
theorem Ag{f:V->V}:∀(F:Fm) (i:Nat),(ql f F).get i=(F.get i).map (mapV f)
 |[],i=>by simp[ql,Fm.get]
 |none::r,0=>by simp[ql,Fm.get]
 |some v::r,0=>by simp[ql,Fm.get]
 |none::r,i+1=>by simp[ql,Fm.get,Ag r i]
 |some v::r,i+1=>by simp[ql,Fm.get,Ag r i]
theorem Ad{f:V->V}:∀(F:Fm),(ql f F).length=F.length
 |[]=>rfl
 |none::r=>by simp[ql,Ad r]
 |some v::r=>by simp[ql,Ad r]
def pY(f:V->V)(id:Nat):List (Nat×Ob)->List (Nat×Ob)
 |[]=>[]
 |(j,o)::r=>match Nat.beq j id with
  |true=>pY f id r
  |false=>match o with
   |.var t cs=>(j,.var t<|mapVs f cs)::pY f id r
   |o=>(j,o)::pY f id r
theorem yG{f:V->V}{id i:Nat}:∀{l:List<|Nat×Ob},aB (pY f id l) i=if i=id then .gone else match aB l i with|.var t cs=>.var t (mapVs f cs)|o=>o
 |[]=>by simp[pY,aB]
 | (j,o)::r=>by
  have ih:=yG (f:=f) (id:=id) (i:=i) (l:=r);simp only[pY];by_cases hj:j=id
  ·subst hj;rw[nbT];simp only[];rw[ih];by_cases hi:i=j
   ·simp[hi]
   ·rw[if_neg hi,if_neg hi];simp only[aB,nbF<|Ne.symm hi]
  ·rw[nbF hj];simp only[];by_cases hi:j=i
   ·subst hi;rw[if_neg hj];cases o<;>simp only[aB,nbT]
   ·have e2:aB ((j,o)::r) i=aB r i:=by simp only[aB,nbF hi]
    rw[e2,<-ih];cases o<;>simp only[aB,nbF hi]
theorem go_frz{f:V->V}{id:Nat}(hid:H.get id≠.free)(hf:∀S w ρ,HRel S w ρ H.get->∀v x,VRel S w ρ v x->VRel (λb=>S b∨own ρ id (H.get id) b) w ρ (f v) x)(h1:ql f F=F1)(h2:(⟨H.nx,pY f id H.es⟩:Hp)=H1)(k:Go P K Q p s n F1 H1):Go P K Q p s n F H:=λS w ρ a hr hi O=>by
 subst h1 h2;obtain⟨g1,g2⟩:=hU (id:=id) hr;have hlt:id<H.nx:=by
  rcases Nat.lt_or_ge id H.nx with h|h
  ·exact h
  ·exfalso;apply hid;unfold Hp.get;have :Nat.blt id H.nx=false:=by cases hb:Nat.blt id H.nx;rfl;simp[Nat.blt_eq]at hb;omega
   rw[this]
 have Z:∀i,(⟨H.nx,pY f id H.es⟩:Hp).get i=if i=id then .gone else match H.get i with|.var t cs=>.var t (mapVs f cs)|o=>o:=λi=>by
  unfold Hp.get;by_cases hi:i=id
  ·subst hi;simp only[nlT hlt,if_true,yG]
  ·simp only[if_neg hi];cases hb:Nat.blt i H.nx
   ·rfl
   ·simp only[yG,if_neg hi]
 have U:∀i,i≠id->own ρ i ((⟨H.nx,pY f id H.es⟩:Hp).get i)=own ρ i (H.get i):=λi E=>by rw[Z i,if_neg E];cases H.get i<;>rfl
 have hhr:HRel (λb=>S b∨own ρ id (H.get id) b) w ρ (⟨H.nx,pY f id H.es⟩:Hp).get:=by
  have J:∀i b,own ρ i ((⟨H.nx,pY f id H.es⟩:Hp).get i) b->i≠id∧own ρ i (H.get i) b:=λi b hb=>by
   by_cases E:i=id
   ·subst E;rw[Z i,if_pos rfl]at hb;exact hb.elim
   ·rw[U i E]at hb;exact⟨E,hb⟩
  refine⟨λi=>?_,λi b hb=>?_,λi j b hbi hbj=>hr.dis i j b (J i b hbi).2 (J j b hbj).2,g1.slt⟩
  ·rw[Z i];by_cases E:i=id
   ·rw[if_pos E];trivial
   ·rw[if_neg E];have G:=g1.ob i;rw[bo _ _ E]at G;have h1:=hr.ob i;cases ho:H.get i with
    |var t cs=>
     rw[ho]at h1;obtain⟨b,xs,q1,q2,q3⟩:=h1;exact⟨b,xs,q1,q2,q3.mapV<|hf S w ρ hr⟩
    |_=>rw[ho]at G;exact G
  ·have :=J i b hb;exact g1.sep i b (by rw[bo _ _ this.1];exact this.2)
 have E:Inv K (λb=>S b∨own ρ id (H.get id) b) w ρ (⟨H.nx,pY f id H.es⟩:Hp).get:=by
  have G:=hi.frz hr id;refine⟨G.chg,G.s0,G.s1,λi b hb=>?_,G.pin⟩;by_cases E:i=id
  ·subst E;rw[Z i,if_pos rfl]at hb;exact hb.elim
  ·rw[U i E]at hb;exact hi.ow i b hb
 have :=k _ w ρ a hhr E ⟨O.size,O.defers,λp hp=>(O.gl p hp).up (hU (id:=id) hr).2.z,by rw[Ad];exact O.len,λi u hu=>by rw[Ag]at hu;obtain⟨v,h3,h4⟩:=Option.map_eq_some_iff.1 hu;obtain⟨x,h5,h6⟩:=O.get i v h3;exact⟨x,h5,by rw[<-h4];exact h6.mapV (hf S w ρ hr)⟩⟩
 cases p with
 |drw all L m left listed=>exact λhs=>AC (xn (λb hb=>.inl hb) Agree.refl) (λx _ h=>h) _ _ _ _<|this hs
 |code c=>exact this
 |ops all rest=>exact this
 |ex e=>exact this
def fzR(id sz:Nat)(els:List V):V->V
 |.sl j=>match Nat.beq j id with
  |true=>.row sz els
  |false=>.sl j
 |v=>v
def fzP(id:Nat)(cs:List V):V->V
 |.ptr j o=>match Nat.beq j id with
  |true=>.box cs o
  |false=>.ptr j o
 |v=>v
theorem gFR(id:Nat)(ho:H.get id=.row e sz els)(E:pureL els=true)(h1:ql (fzR id sz els) F=F1)(h2:(⟨H.nx,pY (fzR id sz els) id H.es⟩:Hp)=H1)(k:Go P K Q p s n F1 H1):Go P K Q p s n F H:=
 go_frz (f:=fzR id sz els) (by rw[ho];simp) (λS w ρ hr v x hx=>by
  unfold fzR;split
  ·split
   ·rename_i hb;have :=aag hb;subst this;exact Bb hr ho E hx
   ·exact hx.up (hU hr).2
  ·exact hx.up (hU hr).2) h1 h2 k
theorem gFP(id:Nat)(ho:H.get id=.var t cs)(E:pureL cs=true)(h1:ql (fzP id cs) F=F1)(h2:(⟨H.nx,pY (fzP id cs) id H.es⟩:Hp)=H1)(k:Go P K Q p s n F1 H1):Go P K Q p s n F H:=
 go_frz (f:=fzP id cs) (by rw[ho];simp) (λS w ρ hr v x hx=>by
  unfold fzP;split
  ·split
   ·rename_i hb;have :=aag hb;subst this;exact Ii hr ho E hx
   ·exact hx.up (hU hr).2
  ·exact hx.up (hU hr).2) h1 h2 k
def mkF:Nat->Nat->List (Nat×V)->Fm
 |0,_,_=>[]
 |n+1,i,[]=>none::mkF n (i+1) []
 |n+1,i,(j,v)::r=>match Nat.beq i j with
  |true=>some v::mkF n (i+1) r
  |false=>none::mkF n (i+1) ((j,v)::r)
end
mutual
def vEq:V->V->Bool
 |.int k n,v=>match v with
  |.int k' n'=>kEq k k'&&iEq n n'
  |_=>false
 |.bool b,v=>match v with
  |.bool c=>b==c
  |_=>false
 |.str l,v=>match v with
  |.str l'=>lEq l l'
  |_=>false
 |.nilp,v=>match v with
  |.nilp=>true
  |_=>false
 |.nils,v=>match v with
  |.nils=>true
  |_=>false
 |.ptr i o,v=>match v with
  |.ptr j p=>Nat.beq i j&&Nat.beq o p
  |_=>false
 |.el i z k o,v=>match v with
  |.el i' z' k' o'=>Nat.beq i i'&&Nat.beq z z'&&Nat.beq k k'&&Nat.beq o o'
  |_=>false
 |.sl i,v=>match v with
  |.sl j=>Nat.beq i j
  |_=>false
 |.mm _ _,_=>false
 |.np i,v=>match v with
  |.np j=>Nat.beq i j
  |_=>false
 |.row z cs,v=>match v with
  |.row z' cs'=>Nat.beq z z'&&vEqL cs cs'
  |_=>false
 |.agg cs,v=>match v with
  |.agg cs'=>vEqL cs cs'
  |_=>false
 |.tup cs,v=>match v with
  |.tup cs'=>vEqL cs cs'
  |_=>false
 |.raw _,_=>false
 |.box _ _,_=>false
 |.clo _ _,_=>false
 |.lk _,_=>false
def vEqL:List V->List V->Bool
 |[],vs=>match vs with
  |[]=>true
  |_::_=>false
 |v::r,vs=>match vs with
  |u::q=>vEq v u&&vEqL r q
  |[]=>false
end
mutual
theorem vEq_eq:∀{v u:V},vEq v u=true->v=u
 | .int k n,u,h=>by
  unfold vEq at h;split at h
  ·rename_i k' n';simp only[aaa,yA,aaq]at h;obtain⟨h1,h2⟩:=h;have :k=k':=by
    unfold kEq at h1;split at h1<;>first|rfl|cases h1
   rw[this,h2]
  ·cases h
 |.bool b,u,h=>by
  unfold vEq at h;split at h
  ·rw[aaq]at h;rw[h]
  ·cases h
 |.str l,u,h=>by
  unfold vEq at h;split at h
  ·rw[vW,aaq]at h;rw[h]
  ·cases h
 |.nilp,u,h=>by
  unfold vEq at h;split at h
  ·rfl
  ·cases h
 |.nils,u,h=>by
  unfold vEq at h;split at h
  ·rfl
  ·cases h
 | .ptr i o,u,h=>by
  unfold vEq at h;split at h
  ·simp only[aaa,Nat.beq_eq]at h;obtain⟨rfl,rfl⟩:=h;rfl
  ·cases h
 | .el i z k o,u,h=>by
  unfold vEq at h;split at h
  ·simp only[aaa,Nat.beq_eq]at h;obtain⟨⟨⟨rfl,rfl⟩,rfl⟩,rfl⟩:=h;rfl
  ·cases h
 |.sl i,u,h=>by
  unfold vEq at h;split at h
  ·rw[Nat.beq_eq]at h;rw[h]
  ·cases h
 |.mm _ _,u,h=>by unfold vEq at h;cases h
 |.np i,u,h=>by
  unfold vEq at h;split at h
  ·rw[Nat.beq_eq]at h;rw[h]
  ·cases h
 | .row z cs,u,h=>by
  unfold vEq at h;split at h
  ·simp only[aaa,Nat.beq_eq]at h;obtain⟨rfl,h2⟩:=h;rw[vEqL_eq h2]
  ·cases h
 |.agg cs,u,h=>by
  unfold vEq at h;split at h
  ·rw[vEqL_eq h]
  ·cases h
 |.tup cs,u,h=>by
  unfold vEq at h;split at h
  ·rw[vEqL_eq h]
  ·cases h
 |.raw _,u,h=>by unfold vEq at h;cases h
 |.box _ _,u,h=>by unfold vEq at h;cases h
 |.clo _ _,u,h=>by unfold vEq at h;cases h
 |.lk _,u,h=>by unfold vEq at h;cases h
theorem vEqL_eq:∀{v u:List V},vEqL v u=true->v=u
 |[],u,h=>by
  unfold vEqL at h;split at h
  ·rfl
  ·cases h
 | v::r,u,h=>by
  unfold vEqL at h;split at h
  ·simp only[aaa]at h;rw[vEq_eq h.1,vEqL_eq h.2]
  ·cases h
end
def fmB (σ:List Nat):Fm->Fm->Bool
 |[],F'=>match F' with
  |[]=>true
  |_::_=>false
 |x ::r,F'=>match F' with
  |[]=>false
  |y::r'=>(match y with
   |none=>true
   |some u=>match x with
    |some v=>vEq v<|u.ren σ
    |none=>false)&&fmB σ r r'
theorem Kr{σ:YN}:∀{F F':Fm},fmB σ F F'=true->leF σ F F'∧F.length=F'.length
 |[],F',h=>by
  unfold fmB at h;split at h
  ·simp[leF]
  ·cases h
 | x ::r,F',h=>by
  unfold fmB at h;split at h
  ·cases h
  ·rename_i y r';simp only[aaa]at h;obtain⟨h1,h2⟩:=h;obtain⟨g1,g2⟩:=Kr h2;refine⟨?_,by simp[g2]⟩;cases y with
   |none=>simp only[leF];exact g1
   | some u=>
    simp only at h1;split at h1
    ·rename_i v;simp only[leF];exact⟨⟨v,I,cd.of_eq<|vEq_eq h1⟩,g1⟩
    ·cases h1
theorem aT.of_eq{v u:List V}(h:v=u):aT v u:=h▸aT.rfl
def obB(o:Ob):Ob->Bool
 |.gone=>true
 |.var t cs=>match o with
  |.var t' cs'=>Nat.beq t' t&&vEqL cs' cs
  |_=>false
 |.row e z els=>match o with
  |.row E G els'=>Nat.beq E e&&Nat.beq G z&&vEqL els' els
  |_=>false
 |_=>false
theorem QS{o:Ob}(h:obB o o'=true):nV o o':=by
 unfold obB at h;split at h
 ·cases o<;>simp[nV]
 ·split at h
  ·simp only[aaa,Nat.beq_eq]at h;obtain⟨rfl,h2⟩:=h;exact⟨I,aT.of_eq<|vEqL_eq h2⟩
  ·cases h
 ·split at h
  ·simp only[aaa,Nat.beq_eq]at h;obtain⟨⟨rfl,rfl⟩,h2⟩:=h;exact⟨I,I,vEqL_eq h2⟩
  ·cases h
 ·cases h
def hpB(σ:YN)(H:Hp):List (Nat×Ob)->Bool
 |[]=>true
 |(j,o)::r=>(match atN σ j with
  |some i=>obB (H.get i)<|o.ren σ
  |none=>false)&&hpB σ H r
theorem KS{σ:YN}{H:Hp}:∀{l:List<|Nat×Ob},hpB σ H l=true->leH σ H l
 |[],_=>by simp[leH]
 | (j,o)::r,h=>by
  simp only[hpB,aaa]at h;obtain⟨h1,h2⟩:=h;simp only[leH];refine⟨?_,KS h2⟩;split at h1
  ·rename_i i hi;exact⟨i,hi,QS h1⟩
  ·cases h1
def RB(k i:Nat):Nat:=match Nat.beq i k with
 |true=>k+1
 |false=>match Nat.beq i (k+1)with
  |true=>k
  |false=>i
def Np(k:Nat):Nat->YN->YN
 |0,acc=>acc
 |n+1,acc=>fX (RB k n) λx=>Np k n<|x::acc
def EZ(k:Nat)(F:Fm)(H:Hp)(F':Fm)(H':Hp):Bool:=
 listK (Np k H'.nx []) λσ=>fmB σ F F'&&hpB σ H H'.es&&(cI σ&&Nat.ble σ.length H'.nx&&ze σ (List.range k))
variable{P:Program}
theorem go_alike{K:Ctx}{Q:Exit->Act->World->Prop}{s:List EI}{n:Nat}{F F':Fm}{H':Hp}{e:Exit}{k:Nat}(h:EZ k F H F' H'=true)(hp:∀id x,K.pin id=some x->id<k)(c:Go P K Q (.ex e) s n F' H'):Go P K Q (.ex e) s n F H:=λS w ρ a hr hi hf=>by unfold EZ at h;rw[cZ]at h;simp only[aaa]at h;obtain⟨⟨h1,h2⟩,⟨E,G⟩,J⟩:=h;obtain⟨g1,g2⟩:=Kr h1;refine go_sub _ (List.range k) I (λid x h=>List.mem_range.2 (hp id x h)) g1 (KS h2) ?_ c S w ρ a hr hi hf;simp only[aaa];exact⟨⟨⟨E,G⟩,J⟩,by rw[<-g2];exact Nat.ble_eq_true_of_le hf.len⟩
inductive Rs where
 |ok (e:Bool) (F:Fm) (H:Hp)
 |pt (p:EP) (s:List EI) (F:Fm) (H:Hp)
 |er (n m:Nat)
def Pu:V->YN->YN
 |.ptr id _,acc=>id::acc
 |.el id _ _ _,acc=>id::acc
 |.sl id,acc=>id::acc
 |_,acc=>acc
def Nb:List V->YN->YN
 |[],acc=>acc
 |v::r,acc=>Nb r<|Pu v acc
def Qt:V->YN->YN
 |.agg cs,acc=>Nb cs acc
 |v,acc=>Pu v acc
def wP:List V->YN->YN
 |[],acc=>acc
 |.tup vs::r,acc=>wP r<|vs.foldl (λacc v=>Qt v acc) acc
 |v::r,acc=>wP r<|Qt v acc
def kY(i:Nat):YN->Bool
 |[]=>false
 |j::r=>match Nat.beq i j with
  |true=>true
  |false=>kY i r
def sh(H:Hp):Nat->YN->YN->YN
 |0,_,acc=>acc
 |_+1,[],acc=>acc
 |n+1,id::r,acc=>match kY id acc with
  |true=>sh H n r acc
  |false=>match H.get id with
   |.var _ cs=>sh H n (Nb cs r)<|id::acc
   |_=>sh H n r<|id::acc
def zo{α:Type}(R:YN):List (Nat×Ob)->(List (Nat×Ob)->α)->α
 |[],c=>c []
 |(i,o)::r,c=>match kY i R with
  |true=>zo R r λE=>c<|(i,o)::E
  |false=>zo R r c
def wZ{α:Type}(nx:Nat)(R:YN):List (Nat×Ob)->(List (Nat×Ob)->α)->α
 |[],c=>c []
 |(i,o)::r,c=>match !kY i R&&Nat.blt i nx with
  |true=>match o with
   |.free=>wZ nx R r λE=>c<|(i,.gone)::E
   |o=>wZ nx R r λE=>c<|(i,o)::E
  |false=>wZ nx R r c
def Jh {α:Type} (lo:Nat) (H:Hp) (v:V) (c:V->Hp->α):α:=match v with
 |.sl id=>match Nat.ble lo id with
  |true=>match H.get id with
   |.row _ sz els=>match pureL els with
    |true=>yV id H.es λes=>c (.row sz els) ⟨H.nx,es⟩
    |false=>c v H
   |_=>c v H
  |false=>c v H
 |_=>c v H
def HK{α:Type}(lo:Nat)(H:Hp):List V->(List V->Hp->α)->α
 |[],c=>c [] H
 |v::r,c=>Jh lo H v λE H'=>HK lo H' r λG H''=>c (E::G) H''
def Mh(lo:Nat)(H:Hp)(v:V)(c:V->Hp->α):α:=match v with
 |.agg cs=>HK lo H cs λcs H'=>c (.agg cs) H'
 |v=>Jh lo H v c
def En{α:Type}(lo:Nat)(H:Hp):List V->(List V->Hp->α)->α
 |[],c=>c [] H
 |v::r,c=>Mh lo H v λE H'=>En lo H' r λG H''=>c (E::G) H''
def Lp(H:Hp):YN->Bool
 |[]=>false
 |i::r=>match H.get i with
  |.row _ _ _=>true
  |_=>Lp H r
def OF(o:Oper):Bool:=match o.op with
 |.store .. =>true
 |_=>false
def Pp(o:Oper):Bool:=match o.op with
 |.alloc .. =>false
 |.box .. =>false
 |.store .. =>false
 |.buildSlice .. =>false
 |.makeSlice .. =>false
 |.call ⟨.builtin .len,_,_⟩=>true
 |.call ⟨.builtin .max,_,_⟩=>true
 |.call .. =>false
 |_=>true
def GF:Nat->List Oper->Nat
 |i,[]=>i
 |i,o::r=>match OF o with
  |true=>i
  |false=>GF (i+1) r
def yD (T:Tab) (H:Hp) (all:Array Oper):List Oper->Fm->List Nat->List Nat->List Nat
 |[],_,rd,cl=>rd.filter λi=>!kY i cl
 |o ::r,F,rd,cl=>match bg F all o.guard with
  |some false=>F.puto o.dst (some<|.tup []) λF'=>yD T H all r F' rd cl
  |_ =>match qf T H.get F o.op with
   |some v=>F.puto o.dst (some v) λF'=>yD T H all r F' rd cl
   |none=>match vx F o.op with
    |some id=>match pb T H.get F H.nx o.op with
     |some (v,_)=>F.puto o.dst v λF'=>yD T H all r F' (match kY id rd with|true=>rd|false=>id::rd) cl
     |none=>F.puto o.dst none λF'=>yD T H all r F' rd cl
    |none=>match o.op with
     |.call ⟨.value (.func _),⟨args⟩,_⟩=>match fF F args with
      |some vs=>F.puto o.dst none λF'=>yD T H all r F' rd<|sh H 40 (wP vs []) cl
      |none=>F.puto o.dst none λF'=>yD T H all r F' rd cl
     |_=>F.puto o.dst none λF'=>yD T H all r F' rd cl
def Bh (F:Fm) (all:Array Oper) (L:List Nat) (m:Nat) (listed:Array Bool):List Nat->Option Nat
 |[]=>none
 |i ::r=>match all[i]? with
  |some o=>match Nat.beq i m with
   |true=>Bh F all L m listed r
   |false=>match Pp o with
    |true=>match Region.free .any all listed i with
     |true=>some i
     |false=>Bh F all L m listed r
    |false=>Bh F all L m listed r
  |none=>none
section
variable(T:Tab)(ih:EP->List EI->Fm->Hp->Rs)
def IB (keep:Bool) (vs:List V) (fn:Func) (b:Code) (H:Hp) (L:List Nat) (ok:Bool) (c:V->Hp->Rs):Rs:=
 match sh H 40 (wP vs []) []with
 |R => match(cS H.get L&&L.all λi=>!kY i R)||ok with
  |true=>zo R H.es λes1=>match ih (.code b) [] (nZ fn.ntmps vs) ⟨H.nx,es1⟩with
   |.ok _ F1 H1=>match tH T H1.get F1 fn.results.toList with
    |some rs=>match Nat.ble H.nx H1.nx with
     |true=>match keep||Lp H R with
      |true=>wZ H.nx R H.es λes2=>c (pf rs) ⟨H1.nx,H1.es++es2⟩
      |false=>En H.nx H1 rs λrs H2=>match sh H2 60 (wP rs R) []with
       |R2=>zo R2 H2.es λes3=>wZ H.nx R H.es λes2=>c (pf rs) ⟨H2.nx,es3++es2⟩
     |false=>.er 1 0
    |none=>.er 2 0
   |.er n m=>.er n m
   |.pt .. =>.er 3 0
  |false=>.er 4 0
def xc (F:Fm) (H:Hp) (L:List Nat) (ok:Bool) (o:Oper) (c:Option V->Hp->Rs):Rs:=
 match qf T H.get F o.op with
 |some v=>c (some v) H
 |none =>match fX H.nx λnid=>pb T H.get F nid o.op with
  |some (v,ed)=>match(cS H.get L&&ed.clear L)||ok with
   |true=>H.ap ed λH'=>match v with
    |some v=>c (some v) H'
    |none=>c (some<|.tup []) H'
   |false=>.er 5 0
  |none =>match o.op with
   |.call ⟨.value (.func fid),⟨args⟩,_⟩=>match fF F args with
    |some vs=>match T.nat fid vs with
     |some v=>c (some v) H
     |none=>match T.fn fid with
      |some fn=>match fn.body with
       |some b=>match Nat.ble vs.length fn.ntmps with
        |true=>IB T ih (T.keep fid) vs fn b H L ok λv H'=>c (some v) H'
        |false=>.er 6 fid
       |none=>.er 7 fid
      |none=>.er 8 fid
    |none=>.er 9 fid
   |_=>.er (10000+o.type) (match o.dst with|some d=>d|none=>999)
def EL(l:YN)(j:Nat):Bool:=match l with
 |[x]=>Nat.beq x j
 |_=>false
def IF(x y i:Nat):Nat:=match Nat.beq x i with
 |true=>y
 |false=>match Nat.beq y i with
  |true=>x
  |false=>i
def Dw (all:Array Oper) (L:List Nat) (m i:Nat) (o:Oper) (ps:List<|Nat×Operand) (v:V) (s:List EI):Nat->Array Bool->Fm->Hp->Rs
 |left, listed,F,H=>match cS H.get L||(listed.setIfInBounds i true).getD m false with
  |true =>match Region.ready .any all listed with
   |[x]=>match Nat.beq x i with
    |true=>F.puto o.dst (some v) λF'=>ih (.drw all L m left<|listed.setIfInBounds i true) s F' H
    |false=>.er 41 i
   |[x, y]=>match left with
    |0=>.er 42 i
    |left+1=>fX (IF x y i) λj=>match Nat.beq j i with
     |true=>.er 43 i
     |false=>match all[j]? with
      |some oj=>match EL (Region.ready .any all<|listed.setIfInBounds i true) j&&DA o.dst oj.dst&&wj oj.dst ps&&(match o.dst with|some t=>(F.get t).isNone|none=>true)with
       |true=>match bg F all oj.guard with
        |some true=>xc T ih F H L ((listed.setIfInBounds j true).getD m false&&((listed.setIfInBounds j true).setIfInBounds i true).getD m false) oj λu H'=>F.puto oj.dst u λF'=>Dw all L m i o ps v s left (listed.setIfInBounds j true) F' H'
        |_=>.er 44 i
       |false=>.er 45 i
      |none=>.er 46 i
   |_=>.er 47 i
  |false=>.er 48 i
def vY (T:Tab) (F:Fm) (all:Array Oper):List Nat->Option (Nat×Oper×List (Nat×Operand)×V)
 |[]=>none
 |i ::r=>match all[i]? with
  |some ⟨_,.buildSlice _ _ ⟨ps⟩,_,_,_,none⟩=>match oA F ps with
   |some vs=>match uI T all i vs with
    |some (o,ps',v)=>some (i,o,ps',v)
    |none=>vY T F all r
   |none=>vY T F all r
  |_=>vY T F all r
def MH (all:Array Oper) (L:List Nat) (m left i j:Nat) (listed:Array Bool) (s:List EI) (F:Fm) (H:Hp):Rs:=match all[i]? with
 |some oi=>match all[j]? with
  |some oj=>match bg F all oi.guard with
   |some true=>match bg F all oj.guard with
    |some true=>xc T ih F H L ((listed.setIfInBounds i true).getD m false) oi λui Hi=>F.puto oi.dst ui λFi=>match ih (.drw all L m left<|listed.setIfInBounds i true) [] Fi Hi with
     |.ok false F1 H1=>xc T ih F H L ((listed.setIfInBounds j true).getD m false) oj λuj Hj=>F.puto oj.dst uj λFj=>match ih (.drw all L m left<|listed.setIfInBounds j true) [] Fj Hj with
      |.ok false F2 H2=>match EZ H.nx F2 H2 F1 H1 with
       |true=>ih (.ex .normal) s F1 H1
       |false=>.er 51 i
      |.er a b=>.er a b
      |_=>.er 52 i
     |.er a b=>.er a b
     |_=>.er 53 i
    |_=>.er 54 i
   |_=>.er 55 i
  |none=>.er 56 i
 |none=>.er 57 i
def Is(c:Code)(s:List EI)(F:Fm)(H:Hp):Rs:=match c with
 |.seq x y=>ih (.code x) (.seq y::s) F H
 |.block id c=>ih (.code c) (.blk id::s) F H
 |.skip=>ih (.ex .normal) s F H
 |.ret=>ih (.ex .ret) s F H
 |.exit id=>ih (.ex<|.exit id) s F H
 |.scope c=>ih (.code c) (.scp::s) F H
 |.label _=>ih (.ex .normal) s F H
 |.loop c=>ih (.code c) (.loop c 1000000::s) F H
 |.cond c x y=>match aJ F c with
  |some (.bool true)=>ih (.code x) s F H
  |some (.bool false)=>ih (.code y) s F H
  |_=>.er 11 0
 |.region _ ⟨l⟩ false=>ih (.ops ⟨l⟩ l) s F H
 |.region _ ⟨l⟩ true=>match Region.noSelect ⟨l⟩with
  |true=>listK (yD T H ⟨l⟩ l F [] []) λL=>fX (GF 0 l) λm=>fX l.length λn=>ih (.drw ⟨l⟩ L m n<|Array.replicate n false) s F H
  |false=>.er 13 0
 |_=>.er 14 0
def Fh(all:Array Oper)(rest:List Oper)(s:List EI)(F:Fm)(H:Hp):Rs:=match rest with
 |[]=>ih (.ex .normal) s F H
 |o::r=>match bg F all o.guard with
  |some false=>F.puto o.dst (some<|.tup []) λF'=>ih (.ops all r) s F' H
  |some true=>xc T ih F H [] true o λv H'=>F.puto o.dst v λF'=>ih (.ops all r) s F' H'
  |none=>.er 15 0
def Ia(e:Exit)(s:List EI)(F:Fm)(H:Hp):Rs:=match s with
 |[]=>match e with
  |.normal=>.ok false F H
  |.ret=>.ok true F H
  |_=>.er 16 0
 |.seq c::s=>match e with
  |.normal=>ih (.code c) s F H
  |.exit i=>ih (.ex<|.exit i) s F H
  |.ret=>ih (.ex .ret) s F H
  |_=>.er 17 0
 |.loop c j::s=>match e with
  |.normal=>match j with
   |0=>.er 18 0
   |j+1=>ih (.code c) (.loop c j::s) F H
  |.exit i=>ih (.ex<|.exit i) s F H
  |.ret=>ih (.ex .ret) s F H
  |_=>.er 19 0
 |.scp::s=>match e with
  |.normal=>ih (.ex .normal) s F H
  |.exit i=>ih (.ex<|.exit i) s F H
  |.ret=>ih (.ex .ret) s F H
  |_=>.er 20 0
 |.blk id::s=>match e with
  |.normal=>ih (.ex .normal) s F H
  |.exit i=>match Nat.beq i id with
   |true=>ih (.ex .normal) s F H
   |false=>ih (.ex<|.exit i) s F H
  |.ret=>ih (.ex .ret) s F H
  |_=>.er 21 0
def IW (all:Array Oper) (L:List Nat) (m left:Nat) (listed:Array Bool) (s:List EI) (F:Fm) (H:Hp):Rs:=match Region.ready .any all listed with
 |[]=>ih (.ex .normal) s F H
 |i :: R =>match left with
  |0=>.er 22 0
  |left + 1=>match R with
   |[]=>match all[i]? with
    |some o=>match bg F all o.guard with
     |some false=>F.puto o.dst (some<|.tup []) λF'=>ih (.drw all L m left<|listed.setIfInBounds i true) s F' H
     |some true=>xc T ih F H L ((listed.setIfInBounds i true).getD m false) o λv H'=>F.puto o.dst v λF'=>ih (.drw all L m left<|listed.setIfInBounds i true) s F' H'
     |none=>.er (6000+all.size) i
    |none=>.er 24 0
   |_ => match Bh F all L m listed (i::R)with
    |some i=>match all[i]? with
     |some o=>match(Region.ready .any all listed).contains i&&Region.free .any all listed i&&!Nat.beq i m with
      |true=>match bg F all o.guard with
       |some false=>F.puto o.dst (some<|.tup []) λF'=>ih (.drw all L m left<|listed.setIfInBounds i true) s F' H
       |some true=>match qf T H.get F o.op with
        |some v=>F.puto o.dst (some v) λF'=>ih (.drw all L m left<|listed.setIfInBounds i true) s F' H
        |none=>match vx F o.op with
         |some id=>match L.contains id&&zx .any all m i&&!listed.getD m false with
          |true=>match pb T H.get F H.nx o.op with
           |some (some v,_)=>F.puto o.dst (some v) λF'=>ih (.drw all L m left<|listed.setIfInBounds i true) s F' H
           |_=>.er (4000+all.size) i
          |false=>.er (2000+all.size) i
         |none=>.er (3000+all.size) i
       |none=>.er (5000+all.size) i
      |false=>.er 29 i
     |none=>.er 30 i
    |none=>match vY T F all (i::R)with
     |some (i,o,ps,v)=>F.puto o.dst none λF'=>Dw T ih all L m i o ps v s left listed F' H
     |none=>match R with
      |[j]=>MH T ih all L m left i j listed s F H
      |_=>.er (1000+all.size) i
def JM(p:EP)(s:List EI)(F:Fm)(H:Hp):Rs:=match p with
 |.code c=>Is T ih c s F H
 |.ops all rest=>Fh T ih all rest s F H
 |.ex e=>Ia ih e s F H
 |.drw all L m left listed=>IW T ih all L m left listed s F H
end
def run(T:Tab):Nat->EP->List EI->Fm->Hp->Rs
 |0,p,s,F,H=>.pt p s F H
 |k+1,p,s,F,H=>JM T (run T k) p s F H
set_option maxRecDepth 100000
def tyL:List (Nat×TD):=[
 (3,⟨1,8,.int .i64 0,.sc⟩),
 (26,⟨4,72,.agg [.int .i64 0,.str [],.nils,.nils],.struct [(0,1,true),(1,1,true),(2,1,true),(3,1,true)]⟩),
 (9,⟨1,16,.str [],.str⟩),
 (22,⟨1,24,.nils,.sl 26⟩),
 (24,⟨1,24,.nils,.sl 9⟩),
 (36,⟨1,24,.nils,.sl 3⟩),
 (42,⟨4,40,.agg [.int .i64 0,.bool false,.str [],.int .i64 0],.struct [(0,1,true),(1,1,true),(2,1,true),(3,1,true)]⟩),
 (162,⟨1,24,.nils,.sl 165⟩),
 (5,⟨1,1,.int .u8 0,.sc⟩),
 (44,⟨6,56,.agg [.int .i64 0,.int .i64 0,.int .i64 0,.bool false,.str [],.int .i64 0],.struct [(0,1,true),(1,1,true),(2,4,false)]⟩),
 (89,⟨1,8,.nilp,.sc⟩),
 (28,⟨1,24,.nils,.sl 44⟩),
 (30,⟨1,24,.agg [.nils],.struct [(0,1,true)]⟩),
 (93,⟨3,40,.agg [.int .i64 0,.str [],.str []],.struct [(0,1,true),(1,1,true),(2,1,true)]⟩),
 (184,⟨1,8,.nilp,.sc⟩),
 (216,⟨4,32,.agg [.int .i64 0,.int .i64 0,.int .i64 0,.int .i64 0],.struct [(0,1,true),(1,1,true),(2,1,true),(3,1,true)]⟩),
 (75,⟨1,8,.nilp,.sc⟩),
 (165,⟨2,32,.agg [.str [],.str []],.struct [(0,1,true),(1,1,true)]⟩),
 (59,⟨1,24,.nils,.sl 98⟩),
 (31,⟨1,8,.int .i64 0,.sc⟩),
 (86,⟨1,24,.nils,.sl 93⟩),
 (66,⟨1,24,.nils,.sl 36⟩),
 (98,⟨7,112,.agg [.int .i64 0,.str [],.nils,.nils,.int .i64 0,.int .i64 0,.nils],.struct [(0,4,false),(4,1,true),(5,1,true),(6,1,true)]⟩),
 (58,⟨5,104,.agg [.int .i64 0,.nils,.nils,.nils,.nils],.struct [(0,1,true),(1,1,true),(2,1,true),(3,1,true),(4,1,true)]⟩),
 (55,⟨1,24,.nils,.sl 59⟩),
 (91,⟨5,56,.agg [.nils,.int .i64 0,.int .i64 0,.int .i64 0,.int .i64 0],.struct [(0,1,true),(1,1,true),(2,1,true),(3,1,true),(4,1,true)]⟩),
 (148,⟨3,72,.agg [.nils,.nils,.nils],.struct [(0,1,true),(1,1,true),(2,1,true)]⟩),
 (145,⟨1,24,.nils,.sl 189⟩),
 (150,⟨4,80,.agg [.nils,.int .i64 0,.nils,.nils],.struct [(0,1,true),(1,1,true),(2,1,true),(3,1,true)]⟩),
 (111,⟨5,56,.agg [.int .i64 0,.nils,.int .i64 0,.int .i64 0,.bool false],.struct [(0,2,false),(2,1,true),(3,1,true),(4,1,true)]⟩),
 (56,⟨1,24,.nils,.sl 61⟩),
 (54,⟨1,8,.nilp,.sc⟩),
 (4,⟨1,1,.bool false,.bool⟩),
 (142,⟨3,48,.agg [.nilp,.nils,.str []],.struct [(0,2,false),(2,1,true)]⟩),
 (99,⟨1,24,.nils,.sl 102⟩),
 (102,⟨3,56,.agg [.nils,.nils,.bool false],.struct [(0,1,true),(1,1,true),(2,1,true)]⟩),
 (105,⟨2,16,.agg [.int .i64 0,.int .i64 0],.struct [(0,1,true),(1,1,true)]⟩),
 (106,⟨1,24,.nils,.sl 111⟩),
 (109,⟨2,32,.agg [.int .i64 0,.nils],.struct [(0,1,true),(1,1,true)]⟩),
 (119,⟨2,32,.agg [.nils,.int .i64 0],.struct [(0,1,true),(1,1,true)]⟩),
 (61,⟨1,8,.raw<|.map none,.sc⟩),
 (189,⟨2,40,.agg [.str [],.nils],.struct [(0,1,true),(1,1,true)]⟩),
 (140,⟨2,32,.agg [.nilp,.nils],.struct [(0,1,true),(1,1,true)]⟩),
 (115,⟨1,24,.nils,.sl 5⟩),
 (82,⟨1,8,.raw<|.map none,.sc⟩),
 (79,⟨1,8,.raw<|.map none,.sc⟩),
 (190,⟨1,8,.nilp,.sc⟩),
 (193,⟨1,8,.nilp,.sc⟩)]
def rR{α:Type}:List (Nat×α)->Nat->Option α
 |[],_=>none
 |(i,x)::r,j=>match Nat.beq i j with
  |true=>some x
  |false=>rR r j
def tyB(P:Program):List (Nat×TD)->Bool
 |[]=>true
 |(t,d)::r=>tdB P t d&&tyB P r
theorem Ln{P:Program}:∀{l:List<|Nat×TD},tyB P l=true->∀t d,rR l t=some d->TdOk P t d
 |[],_,t,d,h=>by cases h
 | (i,x)::r,hb,t,d,h=>by
  simp only[tyB,aaa]at hb;simp only[rR]at h;split at h
  ·rename_i e;have :=aag e;subst this;injection h with h;subst h
   exact Qv hb.1
  ·exact Ln hb.2 t d h
theorem KR:∀t d,rR tyL t=some d->TdOk prog t d:=Ln (by kernel_rfl)
noncomputable def fnL:List (Nat×Func):=[(19,f19),(45,f45),(46,f46),(47,f47),(80,f80),(81,f81),(82,f82),(83,f83),(84,f84),(85,f85),(86,f86),(87,f87),(88,f88),(129,f129),(130,f130),(131,f131),(132,f132),(133,f133),(135,f135),(136,f136),(137,f137),(138,f138),(172,f172),(173,f173),(174,f174),(175,f175),(140,f140),(177,f177),(196,f196),(197,f197),(212,f212),(213,f213)]
def fnB(P:Program):List (Nat×Func)->Prop
 |[]=>True
 |(i,f)::r=>(P.funcs[i]?=some f∧cf P i=true)∧fnB P r
theorem Kw{P:Program}:∀{l:List<|Nat×Func},fnB P l->∀i f,rR l i=some f->P.funcs[i]?=some f∧cf P i=true
 |[],_,i,f,h=>by cases h
 | (j,x)::r,hb,i,f,h=>by
  simp only[rR]at h;split at h
  ·rename_i e;have :=aag e;subst this;injection h with h;subst h
   exact hb.1
  ·exact Kw hb.2 i f h
theorem Qh:∀i f,rR fnL i=some f->prog.funcs[i]?=some f∧cf prog i=true:=Kw ⟨⟨func19,by kernel_rfl⟩,⟨func45,by kernel_rfl⟩,⟨func46,by kernel_rfl⟩,⟨func47,by kernel_rfl⟩,⟨func80,by kernel_rfl⟩,⟨func81,by kernel_rfl⟩,⟨func82,by kernel_rfl⟩,⟨func83,by kernel_rfl⟩,⟨func84,by kernel_rfl⟩,⟨func85,by kernel_rfl⟩,⟨func86,by kernel_rfl⟩,⟨func87,by kernel_rfl⟩,⟨func88,by kernel_rfl⟩,⟨func129,by kernel_rfl⟩,⟨func130,by kernel_rfl⟩,⟨func131,by kernel_rfl⟩,⟨func132,by kernel_rfl⟩,⟨func133,by kernel_rfl⟩,⟨func135,by kernel_rfl⟩,⟨func136,by kernel_rfl⟩,⟨func137,by kernel_rfl⟩,⟨func138,by kernel_rfl⟩,⟨func172,by kernel_rfl⟩,⟨func173,by kernel_rfl⟩,⟨func174,by kernel_rfl⟩,⟨func175,by kernel_rfl⟩,⟨func140,by kernel_rfl⟩,⟨func177,by kernel_rfl⟩,⟨func196,by kernel_rfl⟩,⟨func197,by kernel_rfl⟩,⟨func212,by kernel_rfl⟩,⟨func213,by kernel_rfl⟩,trivial⟩
open Go.RowKit Lx Sx
def Cb:Tab:=⟨false,rR tyL,λ_=>none,λ_ _=>none,λ_=>false⟩
theorem ab:TabOk prog Cb:=⟨KR,(λ_ _ h=>by cases h),(λ_ _ _ h=>by cases h)⟩
mutual
def treeV:Tree->V
 |.node k s ls ks=>.agg [.int .i64 k,.str s,.row 1<|ls.map .str,.row 4<|kidsV ks]
def kidsV:YT->List V
 |[]=>[]
 |t::r=>treeV t::kidsV r
end
abbrev am(t:Tree):List V:=[.int .i64 t.kind,.str t.text,.row 1 (t.leads.map .str),.row 4 (kidsV t.kids)]
abbrev wz(t:Tree):V:=.agg (am t)
theorem kX(t:Tree):treeV t=wz t:=by cases t;simp[treeV,Tree.kind,Tree.text,Tree.leads,Tree.kids]
theorem fM:∀(ks:YT),(kidsV ks).length=ks.length
 |[]=>rfl
 |t::r=>by simp[kidsV,fM r]
theorem au:∀{ks:YT} {i:Nat} {u:Tree},ks[i]?=some u->(kidsV ks)[i]?=some (wz u)
 |[],i,u,h=>by simp at h
 |t::r,0,u,h=>by simp only[List.getElem?_cons_zero,aab]at h;subst h;simp[kidsV,kX]
 |t::r,i+1,u,h=>by simp only[List.getElem?_cons_succ]at h;simpa[kidsV]using au h
theorem kR:∀(a b:YT),kidsV (a++b)=kidsV a++kidsV b
 |[],b=>rfl
 |t::r,b=>by simp[kidsV,kR r b]
theorem Im(t:Tree):(wz t).pure=true:=rfl
theorem Bq:∀(ks:YT),pureL (kidsV ks)=true
 |[]=>rfl
 |t::r=>by simp only[kidsV,pureL,kX,Im,Bq r]
def tI(P:Program)(fid:FuncId)(us:List V)(v:V):Prop:=pureL us=true∧v.pure=true∧Sum P fid us ⟨0,[]⟩ (λu _=>u=v)
theorem uK(i:Nat):(⟨0,[]⟩:Hp).get i=.free:=by
 unfold Hp.get;have :Nat.blt i 0=false:=by cases i<;>rfl
 simp only[this]
theorem sD{K:Ctx}(U:tI P fid us v)(hs:aT vs us)(L:YN)(hL:cS H.get L=true):CallR P K fid vs H L (λv' H''=>v'=v∧H''=H):=λS w ρ xs hr hi hx=>by
 obtain⟨h1,h2,h3⟩:=U;have Z:HRel S w ρ0 (⟨0,[]⟩:Hp).get:=⟨λi=>by rw[uK];rfl,λi b hb=>by rw[uK]at hb;exact hb.elim,λi j b hb _=>by rw[uK]at hb;exact hb.elim,hr.slt⟩;refine(h3 S w ρ0 xs Z<|(hs.rel hx).pure h1).mono λe w' hR=>?_;obtain⟨x,S',ρ',u,H',rfl,rfl,hr',E,hv⟩:=hR;have G:∀b,¬∃id,own ρ0 id ((⟨0,[]⟩:Hp).get id) b:=λb ⟨id,hb⟩=>by rw[uK]at hb;exact hb
 have O:Chg [] w w':=⟨E.chg.os,E.chg.tape,E.chg.output,E.chg.size,λb hb _=>E.chg.block b hb<|G b⟩;have up:Up S S' w w' ρ ρ:=⟨E.s0,λb hb hlt=>O.block b hlt (by simp),λ_ _ h=>h⟩;have J:∀b,S' b->S b∨w.heap.size<=b:=λb hb=>by
  rcases E.s1 b hb with h|h|h
  ·exact .inl h
  ·exact absurd h<|G b
  ·exact .inr h
 refine⟨x,S',ρ,u,H,rfl,⟨rfl,rfl⟩,⟨λi=>(hr.ob i).up up (λhf=>?_) (λb hb=>O.block b (dd (hr.ob i) hb)<|by simp),λi b hb=>?_,hr.dis,hr'.slt⟩,⟨hi.chg.trans (ChgP.of O) (λb hb=>by simp at hb),λb hb=>E.s0 b<|hi.s0 b hb,λb hb=>?_,hi.ow,hi.pin⟩,up,hv.pure h2,λid hid y b hy hb=>?_⟩
 ·have :=hr.ob i;rw[hf]at this;exact this
 ·intro U;rcases J b U with h|h
  ·exact hr.sep i b hb h
  ·have :=dd (hr.ob i) hb;omega
 ·rcases J b hb with h|h
  ·exact hi.s1 b h
  ·exact .inr<|.inr<|aap hi.chg.size h
 ·exact O.block b (dd (hr.ob id)<|mE hr hL id hid y b hy hb) (by simp)
theorem eY[BEq α][LawfulBEq α]{a b:α}(h:(a !=b)=false):a=b:=by simpa using h
variable{args:List Operand}{g:Option (Nat×Bool)}
section
variable{K:Ctx}{Q:Exit->Act->World->Prop}{p p':EP}{s s':List EI}{n:Nat}{F F' F1 F2:Fm}{H H' H1:Hp}{all:Array Oper}{rest:List Oper}{o:Oper}
theorem gR(k:Nat)(h:gG Cb k p s F H=some (p',s',F',H'))(kk:Go prog K Q p' s' n F' H'):Go prog K Q p s n F H:=dz ab k p s F H h kk
theorem gC{tys:Array TypeId}{d:Option Tmp}{ty:TypeId}{ps:String}{af:Array Edge}(E:co PL prog fid us H0 Post)(σ:YN)(G:cf prog fid=true)(J:bg F all g=some true)(hv:fF F args=some vs)(hs:aT vs<|renL σ us)(hH:leH σ H H0.es)(O:(cI σ&&Nat.beq σ.length H0.nx&&σ.all λi=>Nat.blt i H.nx)=true)
  (k:∀v H',Post v H'->Go prog K Q (.ops all rest) s n (F.seto d<|some<|v.ren<|sgN PL H.nx H0.get H'.nx σ 0) (mO PL H σ H0 H')):Go prog K Q (.ops all<|⟨d,.call {callee:=.value<|.func fid,args:=args.toArray,argTypes:=tys},ty,ps,af,g⟩::rest) s n F H:=
 go_opC (o:=⟨d,.call {callee:=.value<|.func fid,args:=args.toArray,argTypes:=tys},ty,ps,af,g⟩) G rfl J hv (sV E σ hs hH O []<|by simp[cS]) λv' H'' ⟨v,H',U,Z,e2⟩=>by subst Z e2;exact k v H' U
theorem gC0{tys:Array TypeId}{ty:TypeId}{ps:String}{af:Array Edge}(E:tI prog fid us v)(G:cf prog fid=true)(J:bg F all g=some true)(hv:fF F args=some vs)(hs:aT vs us)(h1:F.puto d (some v) id=F1)
  (k:Go prog K Q (.ops all rest) s n F1 H):Go prog K Q (.ops all<|⟨d,.call {callee:=.value<|.func fid,args:=args.toArray,argTypes:=tys},ty,ps,af,g⟩::rest) s n F H:=by
 rw[Fm.puto_eq]at h1;subst h1;exact go_opC (o:=⟨d,.call {callee:=.value<|.func fid,args:=args.toArray,argTypes:=tys},ty,ps,af,g⟩) G rfl J hv (sD E hs [] rfl) λZ H'' ⟨O,U⟩=>by subst O U;exact k
def slB(T:Tab)(t:TypeId):Option (TypeId×Nat×Nat):=match T.ty t with
 |some ⟨_,_,_,.sl e⟩=>match T.ty e with
  |some ⟨sz,by_,_,_⟩=>match Nat.blt 0 sz&&Nat.ble by_ 100000 with
   |true=>some (e,sz,by_)
   |false=>none
  |none=>none
 |_=>none
theorem QO{T:Tab}(E:TabOk P T){by_:Nat}(h:slB T t=some (e,sz,by_)):P.underlying t=some (.slice e)∧0<sz∧by_<=100000∧∃z:Value,(P.info? e).map (λi=>(i.zero,i.size,i.bytes))=some (some z,sz,by_)∧z.cells.size=sz:=by
 unfold slB at h;split at h
 ·rename_i ht;split at h
  ·rename_i G;split at h
   ·rename_i hb;simp only[aab,Prod.mk.injEq]at h;obtain⟨rfl,rfl,rfl⟩:=h;simp only[aaa,Nat.blt_eq,Nat.ble_eq]at hb;obtain⟨z,h1,_,J,_⟩:=(E.ty _ _ G).info;exact⟨(E.ty _ _ ht).sl I,hb.1,hb.2,z,h1,J⟩
   ·cases h
  ·cases h
 ·cases h
theorem dAp{T:Tab}(G:TabOk P T){by_ id:Nat}{news:List V}{ty:TypeId}(ht:slB T t=some (e,sz,by_))(hx:aJ F x=some (.sl id))(ho:H.get id=.row e sz els)(hy:aJ F y=some v)(hs:Ey H.get sz v=some news)(hb:els.length+news.length<=1000000000):
  ∀S w ρ a,HRel S w ρ H.get->FRel S w ρ a n F->Does P S w ρ H.get a ty (.call {callee:=.builtin .append,args:=#[x,y],argTypes:=#[t,t]}) (some<|.sl H.nx) ((ED.repl id<|.row e sz<|els++news).app H.get H.nx) (ED.repl id<|.row e sz<|els++news).tch:=λS w ρ a hr E=>by
 obtain⟨h1,h2,J,z,O,U⟩:=QO G ht;obtain⟨u,g1,g2⟩:=Hu hr E hy hs;exact Em hr E.fr H.get_free g1 g2 h1 O U h2 (aq E hx) ho (by simp only[maxLen];omega) (aap (Nat.mul_le_mul hb J)<|by decide)
variable{L:YN}{m fuel c:Nat}{listed:Array Bool}
theorem gDs{id:Nat}{l:List Oper}(L:YN)(m sz:Nat)(hsz:l.length=sz)(E:prog.follows .mixedOrders=true)(hs:Region.noSelect l.toArray=true)(k:Go prog K Q (.drw l.toArray L m sz<|Array.replicate sz false) s n F H):Go prog K Q (.code<|.region id l.toArray true) s n F H:=GB L m sz hsz E hs k
theorem gDr(is:List<|Nat×Nat)(E:FV all m is listed=true)(G:is.length=c)(hr:pV Cb all L is F H=some (F',H'))(k:Go prog K Q (.drw all L m fuel<|Iw is listed) s n F' H'):Go prog K Q (.drw all L m (fuel+c) listed) s n F H:=by subst G;exact oV ab is fuel listed F H E hr k
theorem gDe(E:Region.ready .any all listed=[])(k:Go prog K Q (.ex .normal) s n F H):Go prog K Q (.drw all L m fuel listed) s n F H:=Fz E k
theorem bp{args:List Operand}{tys:Array TypeId}{vs:List V}{ty:TypeId}{ps:String}{af:Array Edge}{g:Option<|Nat×Bool}(i:Nat)(G:tI prog fid us v)(J:cf prog fid=true)(hi:all[i]?=some ⟨d,.call {callee:=.value<|.func fid,args:=args.toArray,argTypes:=tys},ty,ps,af,g⟩)(E:Region.ready .any all listed=[i])(O:bg F all g=some true)(hv:fF F args=some vs)(hs:aT vs us)(U:cS H.get L=true)(h1:F.puto d (some v) id=F1)
  (k:Go prog K Q (.drw all L m fuel<|listed.setIfInBounds i true) s n F1 H):Go prog K Q (.drw all L m (fuel+1) listed) s n F H:=by
 rw[Fm.puto_eq]at h1;subst h1;exact go_d1C J E hi rfl O hv (sD G hs L U) (.inl rfl) λv' H'' ⟨Z,e2⟩=>by subst Z e2;exact k
theorem gDC{args:List Operand}{tys:Array TypeId}{vs:List V}{ty:TypeId}{ps:String}{af:Array Edge}{g:Option<|Nat×Bool}(i:Nat)(G:co PL prog fid us H0 Post)(σ:YN)(J:cf prog fid=true)(hi:all[i]?=some ⟨d,.call {callee:=.value<|.func fid,args:=args.toArray,argTypes:=tys},ty,ps,af,g⟩)(E:Region.ready .any all listed=[i])(O:bg F all g=some true)(hv:fF F args=some vs)(hs:aT vs<|renL σ us)(hH:leH σ H H0.es)(U:(cI σ&&Nat.beq σ.length H0.nx&&σ.all λi=>Nat.blt i H.nx)=true)(Z:(cS H.get L&&L.all λi=>!σ.contains i)=true)
  (k:∀v H',Post v H'->Go prog K Q (.drw all L m fuel<|listed.setIfInBounds i true) s n (F.seto d<|some<|v.ren<|sgN PL H.nx H0.get H'.nx σ 0) (mO PL H σ H0 H')):Go prog K Q (.drw all L m (fuel+1) listed) s n F H:=
 go_d1C J E hi rfl O hv (sV G σ hs hH U L Z) (.inl rfl) λv' H'' ⟨v,H',hP,e1,e2⟩=>by subst e1 e2;exact k v H' hP
end
def ac(f:Func):Code:=match f.body with
 |some c=>c
 |none=>.skip
def cA:Code->Code
 |.seq x _=>x
 |c=>c
def cB:Code->Code
 |.seq _ y=>y
 |c=>c
def cK:Code->Code
 |.block _ c=>c
 |c=>c
def cL:Code->Code
 |.loop c=>c
 |c=>c
def cT:Code->Code
 |.cond _ x _=>x
 |c=>c
def cE:Code->Code
 |.cond _ _ y=>y
 |c=>c
theorem apM(f:α->V)(l:List α)(x:α):List.map f l++[f x]=List.map f (l++[x]):=by simp
theorem Cf(l:YT):l.map wz=kidsV l:=by
 induction l with
 |nil=>rfl
 |cons t r ih=>simp[kidsV,kX,ih]
theorem rG(x:Tree):[wz x]=kidsV [x]:=by simp[kidsV,kX]
theorem uh:∀(l:YT),kidsV l=l.map wz
 |[]=>rfl
 |t::r=>by simp[kidsV,kX,uh r]
theorem an{f:α->V}{l:List α}{x:α}(h:l[i]?=some x):(List.map f l)[i]?=some (f x):=by simp[h]
theorem aG(l:YT):(kidsV l).length=l.length:=fM l
theorem az(f:α->V)(l:List α):(List.map f l).length=l.length:=aan ..
theorem aK{n:Nat}{m:Nat}(h:n=m):V.int .i64 (n:Int)=.int .i64 (m:Int):=by rw[h]
theorem Ma:∀(l:YT) (i:Nat) (x:Tree),(kidsV l).set i (wz x)=kidsV (l.set i x)
 |[],i,x=>rfl
 |t::r,0,x=>by simp[kidsV,kX]
 |t::r,i+1,x=>by simp[kidsV,Ma r i x]
theorem tC(f:α->V)(l:List α)(i:Nat)(x:α):(List.map f l).set i (f x)=List.map f (l.set i x):=by simp
theorem IL(f:α->V)(l:List α)(i:Nat):(List.map f l).take i=List.map f (l.take i):=by simp
theorem RX(l:YT)(i j:Nat):((kidsV l).drop i).take j=kidsV ((l.drop i).take j):=by simp[uh,List.map_drop,List.map_take]
theorem Cd(f:α->V)(l:List α)(i j:Nat):((List.map f l).drop i).take j=List.map f ((l.drop i).take j):=by simp[List.map_drop,List.map_take]
theorem BX(σ:YN):∀(l:YT),renL σ (kidsV l)=kidsV l
 |[]=>rfl
 |t::r=>by simp only[kidsV,renL,BX σ r];rw[kX];rfl
theorem dw{α:Type}(σ:YN)(f:α->V)(hf:∀x,(f x).ren σ=f x):∀(l:List α),renL σ (List.map f l)=List.map f l
 |[]=>rfl
 |x::r=>by simp only[aah,renL,hf,dw σ f hf r]
theorem dS(l:YT):pureL (kidsV l)=true:=Bq l
theorem cw{α:Type}(f:α->V)(hf:∀x,(f x).pure=true):∀(l:List α),pureL (List.map f l)=true
 |[]=>rfl
 |x::r=>by simp only[aah,pureL,hf,cw f hf r]
theorem bI{e:Bool}(h:(!e)=true):e=false:=by simpa using h
theorem bJ{e:Bool}(h:(!e)=false):e=true:=by simpa using h
theorem iS[BEq α][LawfulBEq α]{a b:α}(h:(a !=b)=true):a≠b:=by simpa using h
theorem bx{a:Nat}(h:decide ((a:Int)<(b:Int))=true):a<b:=by have :=of_decide_eq_true h;omega
theorem bw{a:Nat}(h:decide ((a:Int)<(b:Int))=false):¬a<b:=by have :=of_decide_eq_false h;omega
theorem Sy{a:Nat}(h:((a:Int)==(b:Int))=true):a=b:=by have :=eq_of_beq h;omega
theorem RS{a:Nat}(h:((a:Int)==(b:Int))=false):a≠b:=by have :=ne_of_beq_false h;omega
theorem Qk{a:Nat}(h:((a:Int)!=(b:Int))=true):a≠b:=by have :=iS h;omega
theorem Ps{a:Nat}(h:((a:Int)!=(b:Int))=false):a=b:=by have :=eY h;omega
theorem aI{n m:Int}(h:n=m):V.int .i64 n=.int .i64 m:=by rw[h]
abbrev InI(x:Int):Prop:=-9223372036854775808<=x∧x<=9223372036854775807
variable{N:Nat}
variable{els':List V}
variable{f:Nat->Option Value}{u:TypeId}
section
variable{P:Program}{T:Tab}{K:Ctx}{Q:Exit->Act->World->Prop}{p p':EP}{s s':List EI}{n:Nat}{F F' F1 F2:Fm}{H H' H1:Hp}{all:Array Oper}{rest:List Oper}{o:Oper}{L:YN}{m fuel:Nat}{listed:Array Bool}
theorem gS(d:Nat)(E:V)(G:F.get d=some v)(hs:cd v E)(h1:F.put d (some E) id=F1)(k:Go P K Q p s n F1 H):Go P K Q p s n F H:=by rw[Fm.put_eq]at h1;subst h1;exact sK G hs k
theorem Ay{id:Nat}{o:Ob}(ho:h id=o):bE h id o=h:=by
 funext i
 by_cases hi:i=id
 ·subst hi;rw[aY,ho]
 ·rw[bo _ _ hi]
theorem gHR(id:Nat)(els':List V)(ho:H.get id=.row e sz els)(G:els=els')(h2:H.ap (.set id<|.row e sz els') _root_.id=H1)(k:Go P K Q p s n F H1):Go P K Q p s n F H:=by
 subst G;rw[Hp.ap_eq]at h2;subst h2;have E:(H.app<|.set id<|.row e sz els).get=H.get:=by
  rw[Hp.get_app<|by exact⟨by rw[ho];simp,by rw[ho];simp⟩];exact Ay ho
 intro S w ρ a hr hi J;exact k S w ρ a (by rw[id_eq,E];exact hr) (by rw[id_eq,E];exact hi) J
theorem CRel.sub{w:World}:∀{vs us:List V} {xs:List Value},aT vs us->CRel S w ρ sz vs xs->CRel S w ρ sz us xs
 |[],us,xs,h,E=>by simp only[aT]at h;subst h;exact E
 |v::r,us,xs,h,E=>by simp only[aT]at h;obtain⟨u,q,rfl,h1,h2⟩:=h;simp only[CRel]at E⊢;obtain⟨x,ys,rfl,G,J,O⟩:=E;exact⟨x,ys,I,G,h1 _ _ _ _ J,O.sub h2⟩
theorem aT.len:∀{vs us:List V},aT vs us->us.length=vs.length
 |[],us,h=>by simp only[aT]at h;subst h;rfl
 |v::r,us,h=>by simp only[aT]at h;obtain⟨u,q,rfl,_,h2⟩:=h;simp[h2.len]
theorem aT.rep{a b:V}(h:cd a b):∀n,aT (List.replicate n a) (List.replicate n b)
 |0=>aT.nil
 |n+1=>aT.cons h<|aT.rep h n
theorem gHW(id:Nat)(els':List V)(hp:p.still=true)(ho:H.get id=.row e sz els)(J:aT els els')(h2:H.ap (.set id<|.row e sz els') _root_.id=H1)(k:Go P K Q p s n F H1):Go P K Q p s n F H:=by
 rw[Hp.ap_eq]at h2;subst h2;have O:(H.app<|.set id<|.row e sz els').get=bE H.get id (.row e sz els'):=Hp.get_app (by exact⟨by rw[ho];simp,by rw[ho];simp⟩);intro S w ρ a hr hi U;have E:∀i b,own ρ i (bE H.get id (.row e sz els') i) b↔own ρ i (H.get i) b:=λi b=>by
  by_cases hi:i=id
  ·subst hi;rw[aY,ho];rfl
  ·rw[bo _ _ hi]
 refine k S w ρ a ?_ ?_ U
 ·rw[id_eq,O];refine⟨λi=>?_,λi b hb=>hr.sep i b<|(E i b).1 hb,λi j b h1 h2=>hr.dis i j b ((E i b).1 h1)<|(E j b).1 h2,hr.slt⟩;by_cases G:i=id
  ·subst G;rw[aY];obtain⟨v,xs,h1,h2,Z⟩:=lG hr ho;exact⟨v,xs,h1,by rw[J.len];exact h2,Z.sub J⟩
  ·rw[bo _ _ G];exact hr.ob i
 ·rw[id_eq,O];exact⟨hi.chg,hi.s0,hi.s1,λi b hb=>hi.ow i b<|(E i b).1 hb,hi.pin⟩
def Dv(PL:YN):List (Nat×Ob)->YN->Bool
 |[],_=>true
 |(i,o)::r,pv=>(!jg PL i o||pv.contains i)&&Dv PL r pv
theorem EE{PL:YN}:∀{es:List<|Nat×Ob} {pv:YN},Dv PL es pv=true->∀i,jg PL i (aB es i)=true->i∈pv
 |[],pv,h,i,hi=>by simp[aB,jg]at hi
 | (j,o)::r,pv,h,i,hi=>by
  simp only[Dv,aaa,Bool.or_eq_true,Bool.not_eq_true']at h;simp only[aB]at hi;split at hi
  ·rename_i e;have :=aag e;subst this;rcases h.1 with h1|h1
   ·rw[h1]at hi;cases hi
   ·simpa using h1
  ·exact EE h.2 i hi
theorem RH{nx:Nat}{es:List<|Nat×Ob}{pv:YN}(h:Dv PL es pv=true):∀i,jg PL i ((⟨nx,es⟩:Hp).get i)=true->i∈pv:=λi hi=>by
 unfold Hp.get at hi;split at hi
 ·exact EE h i hi
 ·simp[jg]at hi
def pR(ids:YN):List (Nat×Ob)->List (Nat×Ob)
 |[]=>[]
 |(j,o)::r=>match ids.contains j with
  |true=>pR ids r
  |false=>(j,o)::pR ids r
theorem AX{ids:YN}{i:Nat}:∀{l:List<|Nat×Ob},aB (pR ids l) i=aB l i∨aB (pR ids l) i=.gone
 |[]=>.inl rfl
 | (j, o)::r=>by
  have ih:=AX (ids:=ids) (i:=i) (l:=r);simp only[pR];split
  ·rename_i hc;by_cases hj:j=i
   ·subst hj;refine .inr ?_;have :∀l:List<|Nat×Ob,aB (pR ids l) j=.gone:=λl=>by
     induction l with
     |nil=>rfl
     | cons p q ihq=>
      obtain⟨k,o'⟩:=p;simp only[pR];split
      ·exact ihq
      ·rename_i hk;have hne:k≠j:=λe=>by subst e;rw[hc]at hk;cases hk
       simp only[aB,nbF hne];exact ihq
    exact this r
   ·simp only[aB,nbF hj];exact ih
  ·simp only[aB];split
   ·exact .inl I
   ·exact ih
theorem OT{rs:List ResultVar}{e:Exit}(ids:YN)(J:TabOk P T)(E:fn.results=rs.toArray)(hv:tH T H.get F rs=some vs)(O:Post (pf vs) ⟨H.nx,pR ids H.es⟩)(U:e=.ret∨e=.normal:=by first|exact .inl rfl|exact .inr rfl):Go P K (bodyPost P fn<|SP K Post) (.ex e) [] n F H:=λS w ρ a hr hi Z=>by
 have G:∀i,(⟨H.nx,pR ids H.es⟩:Hp).get i=H.get i∨(⟨H.nx,pR ids H.es⟩:Hp).get i=.gone:=λi=>by
  unfold Hp.get;cases hb:Nat.blt i H.nx
  ·exact .inl I
  ·exact AX
 exact ret_go J U E hr Z hv λx hx=>⟨x,S,ρ,_,_,I,O,hr.drop G,hi.drop G,hx⟩
theorem gJ(k:Go P K Q p s n F' H')(σ pv:YN)(hp:p.still=true)(E:aw K pv)(G:leF σ F F')(hH:leH σ H H'.es)(J:(cI σ&&Nat.ble σ.length H'.nx&&ze σ pv&&Nat.ble F'.length n)=true):Go P K Q p s n F H:=go_sub σ pv hp E G hH J k
theorem BS{w:World}{nid:Nat}(e:TypeId)(sz:Nat)(hr:HRel S w ρ h)(hf:h nid=.free):Eff S w w ρ (cz ρ nid<|.slice none 0 0) h (bE h nid<|.row e sz []) (λ_=>False):=
 eff_new hr hf (Chg.refl _ _) ⟨_,[],aU _ _ _,⟨by simp,.inl ⟨rfl,rfl⟩⟩,by simp[CRel]⟩ (λb hb=>by obtain⟨v,h1,h2⟩:=hb;rw[aU]at h1;cases h1;cases h2)
theorem gNS(d:Nat)(e:TypeId)(sz:Nat)(hp:p.still=true)(hd:F.get d=some .nils)(h1:F.put d (some<|.sl H.nx) id=F1)(h2:H.ap (.new<|.row e sz []) id=H1)(k:Go P K Q p s n F1 H1):Go P K Q p s n F H:=by
 rw[Fm.put_eq]at h1;rw[Hp.ap_eq]at h2;subst h1 h2;intro S w ρ a hr hi O;have J:=BS e sz hr H.get_free;have U:(H.app (.new (.row e sz []))).get=bE H.get H.nx (.row e sz []):=Hp.get_app trivial;have :=k S w (cz ρ H.nx (.slice none 0 0)) a (by rw[id_eq,U];exact J.hr) (by rw[id_eq,U];exact hi.eff J) (by
  have G:=O.up J.up;refine⟨G.size,G.defers,G.gl,by simpa using G.len,λi u E=>?_⟩;rw[id_eq,Fm.get_eq,List.getElem?_set]at E;split at E
  ·rename_i e1;subst e1;split at E
   ·simp only[Option.bind_some,id_eq,aab]at E;subst E;obtain⟨x,h3,Z⟩:=O.get d _ hd;simp only[VRel]at Z;subst Z;exact⟨_,h3,by simp only[VRel];exact⟨aU _ _ _,rfl⟩⟩
   ·cases E
  ·exact G.get i u (by rw[Fm.get_eq];exact E))
 cases p with
 |drw all L m left listed=>cases hp
 |code c=>exact this
 |ops all rest=>exact this
 |ex e=>exact this
theorem gNC(id o:Nat)(e:TypeId)(sz:Nat)(hp:p.still=true)(ho:H.get id=.var t cs)(hc:cs[o]?=some .nils)(h2:(H.ap (.new<|.row e sz []) λH1=>H1.ap (.set id<|.var t<|cs.set o<|.sl H.nx) _root_.id)=H1)(k:Go P K Q p s n F H1):Go P K Q p s n F H:=by
 rw[Hp.ap_eq,Hp.ap_eq]at h2;subst h2;intro S w ρ a hr hi hF;have U:=BS e sz hr H.get_free;have Z:(H.app<|.new<|.row e sz []).get=bE H.get H.nx (.row e sz []):=Hp.get_app trivial;have hne:id≠H.nx:=λe1=>by subst e1;rw[H.get_free]at ho;cases ho
 have E:(H.app<|.new<|.row e sz []).get id=.var t cs:=by rw[Z,bo _ _ hne,ho]
 have J:((H.app<|.new<|.row e sz []).app<|.set id<|.var t<|cs.set o<|.sl H.nx).get=bE (H.app<|.new<|.row e sz []).get id (.var t<|cs.set o<|.sl H.nx):=Hp.get_app (by exact⟨by rw[E];simp,by rw[E];simp⟩);have h1:HRel S w (cz ρ H.nx<|.slice none 0 0) (H.app<|.new<|.row e sz []).get:=by rw[Z];exact U.hr
 have h2:Inv K S w (cz ρ H.nx<|.slice none 0 0) (H.app<|.new<|.row e sz []).get:=by rw[Z];exact hi.eff U
 have G:∀i b,own (cz ρ H.nx<|.slice none 0 0) i (bE (H.app<|.new<|.row e sz []).get id (.var t<|cs.set o<|.sl H.nx) i) b↔own (cz ρ H.nx<|.slice none 0 0) i ((H.app<|.new<|.row e sz []).get i) b:=λi b=>by
  by_cases hi:i=id
  ·subst hi;rw[aY,E];rfl
  ·rw[bo _ _ hi]
 have :=k S w (cz ρ H.nx (.slice none 0 0)) a (by
  rw[id_eq,J];refine⟨λi=>?_,λi b hb=>h1.sep i b<|(G i b).1 hb,λi j b q1 q2=>h1.dis i j b ((G i b).1 q1)<|(G j b).1 q2,h1.slt⟩;by_cases O:i=id
  ·subst O;rw[aY];obtain⟨b,xs,q1,q2,q3⟩:=sm h1 E;obtain⟨x,q4,q5⟩:=q3.get hc;simp only[VRel]at q5;subst q5;refine⟨b,xs,q1,q2,?_⟩;have :=q3.set (i:=o) (v:=.sl H.nx) (x:=.slice none 0 0) (by simp only[VRel];exact⟨aU _ _ _,rfl⟩);have e2:xs.set o (.slice none 0 0)=xs:=by
    obtain⟨hl,q6⟩:=List.getElem?_eq_some_iff.1 q4;rw[<-q6];exact List.set_getElem_self ..
   rw[e2]at this;exact this
  ·rw[bo _ _ O];exact h1.ob i) (by
  rw[id_eq,J];exact⟨h2.chg,h2.s0,h2.s1,λi b hb=>h2.ow i b ((G i b).1 hb),h2.pin⟩) (hF.up U.up)
 cases p with
 |drw all L m left listed=>cases hp
 |code c=>exact this
 |ops all rest=>exact this
 |ex e=>exact this
theorem gLB(d:Nat)(G:F.get d=some (.row sz els))(hn:els.length=N)(k:N<=9223372036854775807->Go P K Q p s n F H):Go P K Q p s n F H:=λS w ρ a hr hi E=>by obtain⟨x,h1,h2⟩:=E.get d _ G;simp only[VRel]at h2;obtain⟨A,c,xs,rfl,O,J,_⟩:=h2;exact k (by simp only[maxLen]at J;omega) S w ρ a hr hi E
theorem gLO(id:Nat)(ho:H.get id=.row e sz els)(hn:els.length=N)(k:N<=9223372036854775807->Go P K Q p s n F H):Go P K Q p s n F H:=λS w ρ a hr hi E=>by
 obtain⟨v,xs,h1,h2,J⟩:=lG hr ho;refine k ?_ S w ρ a hr hi E;rcases h2.2 with⟨_,h⟩|⟨g,cap,cur,_,_,_,O,G,_⟩
 ·omega
 ·simp only[maxLen]at G;omega
theorem Qr(E:TabOk P T)(ht:(match T.ty t with|some ⟨_,_,_,.str⟩=>true|_=>false)=true):P.underlying t=some .string:=by
 split at ht
 ·rename_i h;exact(E.ty _ _ h).str rfl
 ·cases ht
theorem yIS(G:TabOk P T){l:YB}{c:UInt8}(ht:(match T.ty t with|some ⟨_,_,_,.str⟩=>true|_=>false)=true)(hx:aJ F x=some (.str l))(hy:aJ F y=some (.int .i64 (i:Int)))(hi:l[i]?=some c):∀S w ρ a,HRel S w ρ H.get->FRel S w ρ a n F->Yld P S w ρ a ty (.index t x y) (.int .u8 (c.toNat:Int)):=λS w ρ a hr E=>
 p_idxS E.fr (Qr G ht) (aq E hx) (aq E hy) hi
def xh(F:Fm)(y:Option Operand)(i:Nat)(dflt:Nat):Prop:=(y=none∧i=dflt)∨∃z,y=some z∧aJ F z=some (.int .i64 (i:Int))
theorem ta:xh F none i i:=.inl ⟨rfl,rfl⟩
theorem sX{z:Operand}{d:Nat}(h:aJ F z=some (.int .i64 (i:Int))):xh F (some z) i d:=.inr ⟨z,rfl,h⟩
theorem AU{w:World}(E:FRel S w ρ a n F){y:Option Operand}{d:Nat}(h:xh F y i d):(y=none∧i=d)∨∃z,y=some z∧Opd S w ρ a z (.int .i64 (i:Int)):=h.imp _root_.id λ⟨z,e,h⟩=>⟨z,e,aq E h⟩
theorem ySS(U:TabOk P T){lo hi:Option Operand}{l r:YB}(ht:(match T.ty t with|some ⟨_,_,_,.str⟩=>true|_=>false)=true)(hx:aJ F x=some (.str l))(G:xh F lo i 0)(J:xh F hi j l.length)(O:i<=j)(Z:j<=l.length)(he:(l.drop i).take (j-i)=r):∀S w ρ a,HRel S w ρ H.get->FRel S w ρ a n F->Yld P S w ρ a ty (.slice t x lo hi none) (.str r):=λS w ρ a hr E=>by subst he;exact NK E.fr (Qr U ht) (aq E hx) (AU E G) (AU E J) O Z
theorem ySR(U:TabOk P T){lo hi:Option Operand}(ht:slT T t=some (e,sz))(hx:aJ F x=some (.row sz els))(G:xh F lo i 0)(J:xh F hi j els.length)(O:i<=j)(Z:j<=els.length)(he:(els.drop i).take (j-i)=els'):∀S w ρ a,HRel S w ρ H.get->FRel S w ρ a n F->Yld P S w ρ a ty (.slice t x lo hi none) (.row sz els'):=λS w ρ a hr E=>by subst he;exact ND E.fr (qO U ht).1 (qO U ht).2 (aq E hx) (AU E G) (AU E J) O Z
theorem Ab{lo hi:Option Operand}(hn:els.length=N)(O:TabOk P T)(ht:slT T t=some (e,sz))(hx:aJ F x=some (.row sz els))(E:xh F lo i 0)(G:xh F hi j N)(J:i<=j)(U:j<=N)(Z:(els.drop i).take (j-i)=els'):∀S w ρ a,HRel S w ρ H.get->FRel S w ρ a n F->Yld P S w ρ a ty (.slice t x lo hi none) (.row sz els'):=by subst hn;exact ySR O ht hx E G J U Z
theorem AI(l:List α)(i:Nat):(l.drop i).take (l.length-i)=l.drop i:=by
 rw[List.take_of_length_le<|by simp]
theorem mX(l:List α)(j:Nat):(l.drop 0).take (j-0)=l.take j:=by simp
theorem ar(hi:els[i]?=some v)(E:TabOk P T)(ht:slT T t=some (e,sz))(hx:aJ F x=some (.row sz els))(hy:aJ F y=some (.int .i64 (i:Int)))(G:v.cells=cs):∀S w ρ a,HRel S w ρ H.get->FRel S w ρ a n F->Yld P S w ρ a ty (.indexAddr t x y) (.box cs 0):=by subst G;exact yIR E ht hx hy hi
theorem OE{w:World}{m:Int}(h:Fr a n f)(hx:aE f x=some (.int .i64 m))(hy:aE f y=some (.int .i64 l))(E:l≠0):Runs P a ty (.binOp .rem t x y u) w (.value<|.int .i64<|Int.tmod m l) w:=λ_ _ _ _=>by simp only[execOp,h.eval hx,h.eval hy];simp[go_sem,eqGuard,Op.intDiv,E]
theorem NP{w:World}{m:Int}(h:Fr a n f)(hx:aE f x=some (.int .i64 m))(hy:aE f y=some (.int .i64 l))(E:l≠0)(hb:InI<|Int.tdiv m l):Runs P a ty (.binOp .quo t x y u) w (.value<|.int .i64<|Int.tdiv m l) w:=λ_ _ _ _=>by have e:IntKind.i64.wrap (Int.tdiv m l)=Int.tdiv m l:=IntWalk.i64_in _ (by omega);simp only[execOp,h.eval hx,h.eval hy];simp[go_sem,eqGuard,Op.intDiv,E,e]
theorem ON{w:World}{m:Int}(h:Fr a n f)(hx:aE f x=some (.int .i64 m))(hy:aE f y=some (.int .i64 l))(hb:InI<|m*l):Runs P a ty (.binOp .mul t x y u) w (.value<|.int .i64<|m*l) w:=λ_ _ _ _=>by have e:IntKind.i64.wrap (m*l)=m*l:=IntWalk.i64_in _ (by omega);simp only[execOp,h.eval hx,h.eval hy];simp[go_sem,eqGuard,e]
theorem OG{w:World}{m l:YB}(h:Fr a n f)(hx:aE f x=some (.string ⟨m.toArray⟩))(hy:aE f y=some (.string ⟨l.toArray⟩))(hb:m.length+l.length<=9223372036854775807):Runs P a ty (.binOp .add t x y u) w (.value<|.string ⟨(m++l).toArray⟩) w:=λ_ _ _ _=>by simp only[execOp,h.eval hx,h.eval hy];simp[go_sem,eqGuard,show¬9223372036854775807<m.length+l.length by omega];rfl
theorem Bm{w:World}(d:Nat)(A:Option Addr)(k c:Nat)(ht:P.underlying t=some (.slice e)):(Op.equalIn (d+1) t (.slice A k c)<|.slice none 0 0).run P w=.ok A.isNone w:=by cases A<;>simp[Op.equalIn,run_underlying ht]
theorem Dt{w:World}(A:Option Addr)(k c:Nat)(ht:P.underlying t=some (.slice e)):(Op.equal t (.slice A k c)<|.slice none 0 0).run P w=.ok A.isNone w:=Bm 9999 A k c ht
theorem Qy{w:World}{A:Option Addr}{k c:Nat}(h:Fr a n f)(ht:P.underlying t=some (.slice e))(hx:aE f x=some (.slice A k c)):Runs P a ty (.binOp .eql t x (.const<|.slice none 0 0) u) w (.value<|.bool A.isNone) w:=λ_ _ _ _=>by
 have hb:(binOp .eql t (.slice A k c)<|.slice none 0 0).run P w=.ok (.bool A.isNone) w:=by simp only[binOp];simp[Dt A k c ht]
 simp only[execOp,h.eval hx];simp[go_sem,eqGuard,hb]
def Mb(h:Nat->Ob):V->Bool
 |.row _ _=>true
 |.sl i=>match h i with|.row _ _ _=>true|_=>false
 |.nils=>true
 |_=>false
def Ms(h:Nat->Ob):V->Nat
 |.row _ els=>els.length
 |.sl i=>match h i with|.row _ _ els=>els.length|_=>0
 |_=>0
theorem Oj{w:World}{x:Value}(hr:HRel S w ρ h)(hs:Mb h v=true)(hx:VRel S w ρ v x):∃A k c,x=.slice A k c∧(A.isNone=true->Ms h v=0):=by
 unfold Mb at hs;split at hs
 ·simp only[VRel]at hx;obtain⟨A,c,xs,rfl,_,_,_,G⟩:=hx;refine⟨_,_,_,I,λE=>?_⟩;refine Nat.eq_zero_of_not_pos λJ=>?_;obtain⟨b,off,rfl,_⟩:=G.2 J;cases E
 ·split at hs
  ·rename_i ho;obtain⟨v,xs,h1,h2,_⟩:=lG hr ho;simp only[VRel]at hx;rw[h1]at hx;obtain⟨e,_⟩:=hx;injection e with e;subst e
   rcases h2.2 with⟨rfl,O⟩|⟨_,_,_,rfl,_⟩
   ·exact⟨_,_,_,rfl,λ_=>by simp only[Ms,ho];exact O⟩
   ·exact⟨_,_,_,rfl,λE=>by cases E⟩
  ·cases hs
 ·simp only[VRel]at hx;subst hx;exact⟨_,_,_,rfl,λ_=>rfl⟩
 ·cases hs
theorem NJ{ps:String}{af:Array Edge}(G:TabOk P T)(J:bg F all g=some true)(ht:slT T t=some (e,sz))(hx:aJ F x=some v)(hv:Mb H.get v=true)(O:Ms H.get v=N)(k:∀b:Bool,(b=true->N=0)->Go P K Q (.ops all rest) s n (F.seto d<|some<|.bool b) H):Go P K Q (.ops all<|⟨d,.binOp .eql t x (.const<|.slice none 0 0) u,ty,ps,af,g⟩::rest) s n F H:=λS w ρ a hr hi E=>by
 show wpList P all (dR P Q s) (⟨d,.binOp .eql t x (.const<|.slice none 0 0) u,ty,ps,af,g⟩::rest) a w;unfold wpList;rw[if_pos<|cu E J];refine .inl ?_;obtain⟨y,h1,h2⟩:=aq E hx;obtain⟨A,kk,c,rfl,U⟩:=Oj hr hv h2;have :=Qy (P:=P) (w:=w) (ty:=ty) (u:=u) E.fr (qO G ht).1 h1;unfold Oper.wp;rw[this d ps af g];exact k A.isNone (λhb=>by subst O;exact U<|by simpa using hb) S w ρ _ hr hi (cX E d<|by simp only[VRel])
theorem Fv{m:Int}(hx:aJ F x=some (.int .i64 m))(hy:aJ F y=some (.int .i64 l))(G:l≠0):∀S w ρ a,HRel S w ρ H.get->FRel S w ρ a n F->Yld P S w ρ a ty (.binOp .rem t x y u) (.int .i64<|Int.tmod m l):=λS w ρ a hr E=>⟨_,by simp only[VRel],λw' _=>OE E.fr (aV<|aq E hx) (aV<|aq E hy) G⟩
theorem Jo{m:Int}(hx:aJ F x=some (.int .i64 m))(hy:aJ F y=some (.int .i64 l))(G:l≠0)(hb:InI<|Int.tdiv m l):∀S w ρ a,HRel S w ρ H.get->FRel S w ρ a n F->Yld P S w ρ a ty (.binOp .quo t x y u) (.int .i64<|Int.tdiv m l):=λS w ρ a hr E=>⟨_,by simp only[VRel],λw' _=>NP E.fr (aV<|aq E hx) (aV<|aq E hy) G hb⟩
theorem Nj{m:Int}(hx:aJ F x=some (.int .i64 m))(hy:aJ F y=some (.int .i64 l))(hb:InI<|m*l):∀S w ρ a,HRel S w ρ H.get->FRel S w ρ a n F->Yld P S w ρ a ty (.binOp .mul t x y u) (.int .i64<|m*l):=λS w ρ a hr E=>⟨_,by simp only[VRel],λw' _=>ON E.fr (aV<|aq E hx) (aV<|aq E hy) hb⟩
theorem xy{m l:YB}(hx:aJ F x=some (.str m))(hy:aJ F y=some (.str l))(hb:m.length+l.length<=9223372036854775807):∀S w ρ a,HRel S w ρ H.get->FRel S w ρ a n F->Yld P S w ρ a ty (.binOp .add t x y u) (.str<|m++l):=λS w ρ a hr E=>⟨_,by simp only[VRel],λw' _=>OG E.fr (km<|aq E hx) (km<|aq E hy) hb⟩
theorem Cz{G:Hp}(J:co PL P fid us H0 λu G'=>u=v∧G'=G)(σ:YN)(hv:aT vs<|renL σ us)(hH:leH σ H H0.es)(O:(cI σ&&Nat.beq σ.length H0.nx&&σ.all λi=>Nat.blt i H.nx)=true)(L:YN)(U:(cS H.get L&&L.all λi=>!σ.contains i)=true):
  CallR P K fid vs H L (λE H''=>E=v.ren (sgN PL H.nx H0.get G.nx σ 0)∧H''=mO PL H σ H0 G):=λS w ρ xs hr hi hx=>
 (sV J σ hv hH O L U S w ρ xs hr hi hx).mono λe w' Z=>by obtain⟨x,S',ρ',E,H',h1,⟨u,G',⟨q1,q2⟩,e1,e2⟩,h3⟩:=Z;subst q1 q2;exact⟨x,S',ρ',E,H',h1,⟨e1,e2⟩,h3⟩
theorem Lc{o:Oper}{L:YN}{ok:Bool}{v:Option V}(ed:ED)(U:∀S w ρ a,HRel S w ρ H.get->FRel S w ρ a n F->Does P S w ρ H.get a o.type o.op v (ed.app H.get H.nx) ed.tch)(Z:ed.ok H.get)(hc:((cS H.get L&&ed.clear L)||ok)=true):sG P K o L ok n F H (v.getD<|.tup []) (H.app ed):=λS w ρ a hr hi hF Q' K2 k=>by
 obtain⟨nx,w',ρ',h1,h2,O⟩:=U S w ρ a hr hF;have E:=h2.hr;have G:=hi.eff h2;rw[<-Hp.get_app Z]at E G;have J:Ls ρ L w w'∨ok=true:=(yZ hc).imp (λh=>by simp only[aaa]at h;exact DR hr h2 h.1 h.2) _root_.id
 have kk:=λx hx=>k x S w' ρ' E G h2.up (ti hr h2) J hx;obtain⟨d,op,ty,ps,af,g⟩:=o;unfold Oper.wp;rw[h1 d ps af g];cases v with
 |none=>
  subst O;exact kk undef xe
 |some v=>
  obtain⟨x,rfl,h4⟩:=O;exact kk x h4
theorem KU{L:YN}(i:Nat)(e:TypeId)(sz:Nat)(hv:vs[i]?=some .nils)(k:CallR P K fid (vs.set i<|.sl H.nx) (H.app<|.new<|.row e sz []) L Post):CallR P K fid vs H L Post:=λS w ρ xs hr hi hx=>by
 have E:=BS e sz hr H.get_free;have O:(H.app<|.new<|.row e sz []).get=bE H.get H.nx (.row e sz []):=Hp.get_app trivial;have G:LRel S w (cz ρ H.nx<|.slice none 0 0) (vs.set i<|.sl H.nx) xs:=by
  obtain⟨x,h1,h2⟩:=hx.get hv;simp only[VRel]at h2;subst h2;have :=(hx.up E.up).set (i:=i) (v:=.sl H.nx) (x:=.slice none 0 0) (by simp only[VRel];exact⟨aU _ _ _,rfl⟩);have U:xs.set i (.slice none 0 0)=xs:=by obtain⟨hl,Z⟩:=List.getElem?_eq_some_iff.1 h1;rw[<-Z];exact List.set_getElem_self ..
  rw[U]at this;exact this
 refine(k S w (cz ρ H.nx<|.slice none 0 0) xs (by rw[O];exact E.hr) (by rw[O];exact hi.eff E) G).mono λe w' hh=>?_;obtain⟨x,S',ρ',v,H',h1,h2,h3,h4,J,h6,h7⟩:=hh;exact⟨x,S',ρ',v,H',h1,h2,h3,h4,⟨J.s,J.blk,λi y h=>J.r i y<|E.up.r i y h⟩,h6,λid hid y b hy hb=>h7 id hid y b (E.up.r _ _ hy) hb⟩
theorem yMF{caps:List Operand}(hv:fF F caps=some vs):∀S w ρ a,HRel S w ρ H.get->FRel S w ρ a n F->Yld P S w ρ a ty (.makeFunc (.func fid) #[] caps.toArray) (.clo fid vs):=λS w ρ a hr E=>by
 obtain⟨xs,h1,h2⟩:=rA E hv;refine⟨.func (.func fid) #[] xs.toArray,by simp only[VRel];exact⟨xs,rfl,h2⟩,λw' _=>λ_ _ _ _=>?_⟩;have e:caps.toArray.map a.eval=xs.toArray:=by rw[<-E.fr.vals h1];simp
 simp only[execOp,e];simp[Instr.makeFunc]
theorem RY{t:Tmp}{tys:Array TypeId}{caps:List V}{ty:TypeId}{ps:String}{af:Array Edge}(Z:tI P fid us v)(he:cf P fid=true)(hw:bg F all g=some true)(hf:aJ F (.tmp t)=some (.clo fid caps))(hv:fF F args=some vs)(hs:aT (vs++caps) us)(h1:F.puto d (some v) id=F1)
  (k:Go P K Q (.ops all rest) s n F1 H):Go P K Q (.ops all<|⟨d,.call {callee:=.value<|.tmp t,args:=args.toArray,argTypes:=tys},ty,ps,af,g⟩::rest) s n F H:=λS w ρ a hr hi E=>by
 rw[Fm.puto_eq]at h1;subst h1;show wpList P all (dR P Q s) (⟨d,.call {callee:=.value<|.tmp t,args:=args.toArray,argTypes:=tys},ty,ps,af,g⟩::rest) a w;unfold wpList;rw[if_pos<|cu E hw];refine .inl ?_;obtain⟨xs,h1,h2⟩:=rA E hv;obtain⟨y,h3,U⟩:=aq E hf;simp only[VRel]at U;obtain⟨ys,rfl,h5⟩:=U;have hc:=sD (K:=K) (H:=H) Z hs [] rfl S w ρ (xs++ys) hr hi<|h2.append h5;have hx:(execOp a.eval ⟨d,.call {callee:=.value<|.tmp t,args:=args.toArray,argTypes:=tys},ty,ps,af,g⟩).run P w=.ok (.enter fid (xs++ys).toArray) w:=by
  have e:args.toArray.map a.eval=xs.toArray:=by rw[<-E.fr.vals h1];simp
  have e2:a.eval (.tmp t)=.func (.func fid) #[] ys.toArray:=E.fr.eval h3;simp only[execOp,resolve,e,e2];simp[Deferred.ofValue,invoke,mC he]
 unfold Oper.wp;rw[hx,Oper.upon_enter];refine hc.mono λe w1 hR=>?_;obtain⟨x,S',ρ',v',H',rfl,⟨rfl,rfl⟩,G,J,hu,O,_⟩:=hR;exact k S' w1 ρ' _ G J<|cX (E.up hu) d O
theorem gYd(i:Nat)(hi:all[i]?=some o)(E:(!Nat.beq i m&&Region.free .any all listed i&&(Region.ready .any all listed).contains i)=true)(hy:∀S w ρ a,HRel S w ρ H.get->FRel S w ρ a n F->Yld P S w ρ a o.type o.op v)(G:bg F all o.guard=some true)(h1:F.puto o.dst (some v) id=F1)(k:Go P K Q (.drw all L m fuel<|listed.setIfInBounds i true) s n F1 H):Go P K Q (.drw all L m (fuel+1) listed) s n F H:=by rw[Fm.puto_eq]at h1;subst h1;simp only[aaa,Bool.not_eq_true']at E;exact NI E.1.1 hi E.1.2 E.2 G hy k
theorem cc(i:Nat)(hi:all[i]?=some o)(E:Region.ready .any all listed=[i])(hy:∀S w ρ a,HRel S w ρ H.get->FRel S w ρ a n F->Yld P S w ρ a o.type o.op v)(G:bg F all o.guard=some true)(h1:F.puto o.dst (some v) id=F1)(k:Go P K Q (.drw all L m fuel<|listed.setIfInBounds i true) s n F1 H):Go P K Q (.drw all L m (fuel+1) listed) s n F H:=by rw[Fm.puto_eq]at h1;subst h1;exact Kg E hi G hy k
theorem gDo{v:Option V}(ed:ED)(E:∀S w ρ a,HRel S w ρ H.get->FRel S w ρ a n F->Does P S w ρ H.get a o.type o.op v (ed.app H.get H.nx) ed.tch)(G:ed.ok H.get)(J:bg F all o.guard=some true)(h1:F.puto o.dst (FP v) id=F1)(h2:H.ap ed id=H1)(k:Go P K Q (.ops all rest) s n F1 H1):Go P K Q (.ops all<|o::rest) s n F H:=by rw[Fm.puto_eq]at h1;rw[Hp.ap_eq]at h2;subst h1 h2;exact go_opD J E G k
theorem ce{v:Option V}(i:Nat)(ed:ED)(hi:all[i]?=some o)(E:Region.ready .any all listed=[i])(G:∀S w ρ a,HRel S w ρ H.get->FRel S w ρ a n F->Does P S w ρ H.get a o.type o.op v (ed.app H.get H.nx) ed.tch)(J:ed.ok H.get)(O:bg F all o.guard=some true)(U:((cS H.get L&&ed.clear L)||(listed.setIfInBounds i true).getD m false)=true)(h1:F.puto o.dst (FP v) id=F1)(h2:H.ap ed id=H1)(k:Go P K Q (.drw all L m fuel<|listed.setIfInBounds i true) s n F1 H1):Go P K Q (.drw all L m (fuel+1) listed) s n F H:=by rw[Fm.puto_eq]at h1;rw[Hp.ap_eq]at h2;subst h1 h2;exact DK E hi O G J U k
theorem aX{by_ id:Nat}{news:List V}{ty:TypeId}(E:TabOk P T)(ht:slB T t=some (e,sz,by_))(hx:aJ F x=some (.sl id))(ho:H.get id=.row e sz els)(hy:aJ F y=some v)(hs:Ey H.get sz v=some news)(G:els++news=els')(hb:els'.length<=1000000000):
  ∀S w ρ a,HRel S w ρ H.get->FRel S w ρ a n F->Does P S w ρ H.get a ty (.call {callee:=.builtin .append,args:=#[x,y],argTypes:=#[t,t]}) (some<|.sl H.nx) ((ED.repl id<|.row e sz els').app H.get H.nx) (ED.repl id<|.row e sz els').tch:=by
 subst G;exact dAp E ht hx ho hy hs (by simpa using hb)
theorem okR{id:Nat}(ho:H.get id=.row e sz els):(ED.repl id o').ok H.get:=by exact⟨by rw[ho];simp,by rw[ho];simp⟩
theorem okS{id:Nat}(ho:H.get id=.row e sz els):(ED.set id o').ok H.get:=by exact⟨by rw[ho];simp,by rw[ho];simp⟩
theorem dTr(G:TabOk P T){id k:Nat}{ty:TypeId}(ht:slT T t=some (e,sz))(hx:aJ F x=some (.sl id))(ho:H.get id=.row e sz els)(hy:aJ F y=some (.int .i64 (k:Int)))(J:k<=els.length)(O:els.take k=els'):
  ∀S w ρ a,HRel S w ρ H.get->FRel S w ρ a n F->Does P S w ρ H.get a ty (.slice t x none (some y) none) (some<|.sl H.nx) ((ED.repl id<|.row e sz els').app H.get H.nx) (ED.repl id<|.row e sz els').tch:=λS w ρ a hr E=>by
 subst O;exact GK hr E.fr H.get_free (aq E hx) (aq E hy) ho (qO G ht).1 (qO G ht).2 J
theorem dLe(G:TabOk P T){id o:Nat}{v0:V}{td:TD}(ht:T.ty t=some td)(hx:aJ F x=some (.el id sz i o))(ho:H.get id=.row e sz els)(hi:els[i]?=some v0)(hv:rH td v0.cells o=some v):
  ∀S w ρ a,HRel S w ρ H.get->FRel S w ρ a n F->Does P S w ρ H.get a ty (.load t x) (some v) (ED.nop.app H.get H.nx) ED.nop.tch:=λS w ρ a hr E=>by
 rcases ro (G.ty _ _ ht) hv with⟨h1,h2⟩|⟨h1,h2,rfl⟩
 ·exact Hm hr E.fr (aq E hx) ho h1 hi h2
 ·exact FN hr E.fr (aq E hx) ho h1 hi h2
theorem dSe(O:TabOk P T){id o:Nat}{v0:V}{td:TD}(ht:T.ty t=some td)(hx:aJ F x=some (.el id sz i o))(hy:aJ F y=some v)(ho:H.get id=.row e sz els)(hi:els[i]?=some v0)(J:(Nat.beq v.cells.length td.size&&v.cells.all V.one&&Nat.ble (o+td.size) v0.cells.length&&(match v0 with|.agg _=>true|v0=>v0.one&&v.one))=true)(U:els.set i (v0.over o v.cells)=els'):
  ∀S w ρ a,HRel S w ρ H.get->FRel S w ρ a n F->Does P S w ρ H.get a ty (.store t x y) none ((ED.set id<|.row e sz els').app H.get H.nx) (ED.set id<|.row e sz els').tch:=λS w ρ a hr E=>by
 subst U;simp only[aaa]at J;obtain⟨⟨⟨h1,h2⟩,Z⟩,G⟩:=J;exact Ar hr E.fr (aq E hx) (aq E hy) ho (O.ty _ _ ht).size hi (aag h1) h2 (Nat.le_of_ble_eq_true Z) (by
  cases v0 with
  |agg cs=>exact .inl ⟨cs,rfl⟩
  |_=>simp only[aaa]at G;exact .inr ⟨wI G.1,wI G.2⟩)
theorem dMk(hT:TabOk P T){m:Nat}{E:V}{td:TD}{tz:TD}(ht:T.ty t=some tz)(G:(match tz.kind with|.sl e'=>Nat.beq e e'|_=>false)=true)(J:T.ty e=some td)(hx:aJ F x=some (.int .i64 (m:Int)))(hy:aJ F y=some (.int .i64 (m:Int)))(hsz:td.size=sz)(O:td.zero=E)(U:(Nat.blt 0 td.size&&Nat.ble td.bytes 1000)=true)(hm:m<=1000000000):
  ∀S w ρ a,HRel S w ρ H.get->FRel S w ρ a n F->Does P S w ρ H.get a ty (.makeSlice t x y) (some<|.sl H.nx) ((ED.new<|.row e sz<|List.replicate m E).app H.get H.nx) (ED.new<|.row e sz<|List.replicate m E).tch:=λS w ρ a hr Z=>by
 subst hsz O;simp only[aaa,Nat.blt_eq]at U;obtain⟨z,h1,h2,h3,h4⟩:=(hT.ty _ _ J).info;have hsl:P.underlying t=some (.slice e):=by
  split at G
  ·rename_i e' he';have :=aag G;subst this;exact(hT.ty _ _ ht).sl he'
  ·cases G
 have hb:td.bytes<=1000:=Nat.le_of_ble_eq_true U.2;exact JF hr Z.fr H.get_free (aq Z hx) (aq Z hy) hsl h1 h3 U.1 h4 h2 (aap (Nat.mul_le_mul hb hm)<|by decide) (by simp only[maxLen];omega)
theorem gCn{tys:Array TypeId}{d:Option Tmp}{ty:TypeId}{ps:String}{af:Array Edge}(i:Nat)(e:TypeId)(sz:Nat)(G:co PL P fid us H0 Post)(σ:YN)(J:cf P fid=true)(O:bg F all g=some true)(hv:fF F args=some vs)(E:vs[i]?=some .nils)(h2:H.ap (.new<|.row e sz []) id=H1)(hs:aT (vs.set i<|.sl H.nx)<|renL σ us)(hH:leH σ H1 H0.es)(U:(cI σ&&Nat.beq σ.length H0.nx&&σ.all λi=>Nat.blt i H1.nx)=true)
  (k:∀v H',Post v H'->Go P K Q (.ops all rest) s n (F.seto d<|some<|v.ren<|sgN PL H1.nx H0.get H'.nx σ 0) (mO PL H1 σ H0 H')):Go P K Q (.ops all<|⟨d,.call {callee:=.value<|.func fid,args:=args.toArray,argTypes:=tys},ty,ps,af,g⟩::rest) s n F H:=by
 rw[Hp.ap_eq]at h2;subst h2;exact go_opC (o:=⟨d,.call {callee:=.value<|.func fid,args:=args.toArray,argTypes:=tys},ty,ps,af,g⟩) J rfl O hv (KU i e sz E<|sV G σ hs hH U []<|by simp[cS]) λv' H'' ⟨v,H',Z,e1,e2⟩=>by subst e1 e2;exact k v H' Z
end
abbrev qS(f:FuncId)(a:List V)(r:V):Prop:=tI prog f a r
abbrev qLG(K:Ctx)(fn:Func)(Q:V->Hp->Prop)(c:Code)(s:List EI)(n:Nat)(F:Fm)(H:Hp):Prop:=Go prog K (bodyPost prog fn (SP K Q)) (.code c) s n F H
abbrev z3(v:V):V->Hp->Prop:=λu _=>u=v
abbrev z4(v:V)(H:Hp):V->Hp->Prop:=λu G=>u=v∧G=H
abbrev z5(m:Nat)(L:YN)(f:Func)(P:V->Hp->Prop)(c:Code)(s:List EI)(n:Nat)(l:List (Nat×V))(H:Hp):Prop:=∀(K:Ctx) (j:Nat),aw K L->m<=j->qLG K f P c (.loop c j::s) n (mkF n 0 l) H
abbrev z6(L:YN)(f:Func)(P:V->Hp->Prop)(c:Code)(s:List EI)(n:Nat)(l:List (Nat×V))(H:Hp):Prop:=∀(K:Ctx),aw K L->qLG K f P c s n (mkF n 0 l) H
abbrev z7(L:YN)(f:Func)(P:V->Hp->Prop)(s:List EI)(n:Nat)(l:List (Nat×V))(H:Hp):Prop:=∀(K:Ctx),aw K L->Go prog K (bodyPost prog f (SP K P)) (.ex .normal) s n (mkF n 0 l) H
abbrev z8(c A B:Prop):Prop:=(c->A)∧(¬c->B)
abbrev z9(c:Bool)(A B:Prop):Prop:=(c=true->A)∧(c=false->B)
abbrev y4(c:Bool)(A B:Prop):Prop:=(c=false->A)∧(c=true->B)
abbrev y5{α:Type}(x y:α)(A B:Prop):Prop:=(x=y->A)∧(x≠y->B)
abbrev y6{α:Type}(x y:α)(A B:Prop):Prop:=(x≠y->A)∧(x=y->B)
variable{A B C D:Prop}
section
variable{P:Program}{K:Ctx}{Q:Exit->Act->World->Prop}{p:EP}{s:List EI}{n:Nat}{F F1 F2 F3 F4:Fm}{H:Hp}
theorem qBh{e:Bool}(d:Nat)(E:F.get d=some (.bool e))(h1:F.put d (some<|.bool true) id=F1)(h2:F.put d (some<|.bool false) id=F2)(h:(A->C)∧(B->D))(a:e=true->A)(b:e=false->B)(kT:C->Go P K Q p s n F1 H)(kF:D->Go P K Q p s n F2 H):Go P K Q p s n F H:=gB d E h1 h2 (λz=>kT<|h.1 (a z)) λz=>kF<|h.2 (b z)
theorem qBi{e:Bool}(d:Nat)(E:F.get d=some (.bool e))(h1:F.put d (some<|.bool true) id=F1)(h2:F.put d (some<|.bool false) id=F2)(h:(e=true->C)∧(e=false->D))(kT:C->Go P K Q p s n F1 H)(kF:D->Go P K Q p s n F2 H):Go P K Q p s n F H:=qBh d E h1 h2 h id id kT kF
theorem qBe[BEq α][LawfulBEq α]{x y:α}(d:Nat)(E:F.get d=some (.bool<|x==y))(h1:F.put d (some<|.bool true) id=F1)(h2:F.put d (some<|.bool false) id=F2)(h:(x=y->C)∧(x≠y->D))(kT:C->Go P K Q p s n F1 H)(kF:D->Go P K Q p s n F2 H):Go P K Q p s n F H:=qBh d E h1 h2 h eq_of_beq ne_of_beq_false kT kF
theorem qBd{x:Prop}[Decidable x](d:Nat)(E:F.get d=some (.bool<|decide x))(h1:F.put d (some<|.bool true) id=F1)(h2:F.put d (some<|.bool false) id=F2)(h:(x->C)∧(¬x->D))(kT:C->Go P K Q p s n F1 H)(kF:D->Go P K Q p s n F2 H):Go P K Q p s n F H:=qBh d E h1 h2 h of_decide_eq_true of_decide_eq_false kT kF
theorem qBhZ{e:Bool}(d i:Nat)(E:F.get d=some (.bool e))(hi:Fm.get (F.set d none) i=some (.bool e))(h1:F.put d (some<|.bool true) (λF=>F.put i (some<|.bool true) id)=F3)(h2:F.put d (some<|.bool false) (λF=>F.put i (some<|.bool false) id)=F4)(h:(A->C)∧(B->D))(a:e=true->A)(b:e=false->B)(kT:C->Go P K Q p s n F3 H)(kF:D->Go P K Q p s n F4 H):Go P K Q p s n F H:=by
 rw[Fm.put_eq,Fm.put_eq]at h1 h2;have w (v:V):Fm.get (F.set d<|some v) i=some (.bool e):=by
  rw[Fm.get_eq,List.getElem?_set]at hi⊢;split at hi
  ·split at hi<;>simp at hi
  ·rename_i e;rw[if_neg e];exact hi
 exact gB d E (Fm.put_eq ..) (Fm.put_eq ..) (λz=>gT i (w _) z ((Fm.put_eq ..).trans h1)<|kT<|h.1 (a z)) λz=>gF i (w _) z ((Fm.put_eq ..).trans h2)<|kF<|h.2 (b z)
theorem qBiZ{e:Bool}(d i:Nat)(E:F.get d=some (.bool e))(hi:Fm.get (F.set d none) i=some (.bool e))(h1:F.put d (some<|.bool true) (λF=>F.put i (some<|.bool true) id)=F3)(h2:F.put d (some<|.bool false) (λF=>F.put i (some<|.bool false) id)=F4)(h:(e=true->C)∧(e=false->D))(kT:C->Go P K Q p s n F3 H)(kF:D->Go P K Q p s n F4 H):Go P K Q p s n F H:=qBhZ d i E hi h1 h2 h id id kT kF
theorem qBeZ[BEq α][LawfulBEq α]{x y:α}(d i:Nat)(E:F.get d=some (.bool<|x==y))(hi:Fm.get (F.set d none) i=some (.bool<|x==y))(h1:F.put d (some<|.bool true) (λF=>F.put i (some<|.bool true) id)=F3)(h2:F.put d (some<|.bool false) (λF=>F.put i (some<|.bool false) id)=F4)(h:(x=y->C)∧(x≠y->D))(kT:C->Go P K Q p s n F3 H)(kF:D->Go P K Q p s n F4 H):Go P K Q p s n F H:=qBhZ d i E hi h1 h2 h eq_of_beq ne_of_beq_false kT kF
theorem qBdZ{x:Prop}[Decidable x](d i:Nat)(E:F.get d=some (.bool<|decide x))(hi:Fm.get (F.set d none) i=some (.bool<|decide x))(h1:F.put d (some<|.bool true) (λF=>F.put i (some<|.bool true) id)=F3)(h2:F.put d (some<|.bool false) (λF=>F.put i (some<|.bool false) id)=F4)(h:(x->C)∧(¬x->D))(kT:C->Go P K Q p s n F3 H)(kF:D->Go P K Q p s n F4 H):Go P K Q p s n F H:=qBhZ d i E hi h1 h2 h of_decide_eq_true of_decide_eq_false kT kF
end
section
variable{K:Ctx}{Q:Exit->Act->World->Prop}{s:List EI}{n:Nat}{F:Fm}{H H0 H1:Hp}{all:Array Oper}{rest:List Oper}{L PL:YN}{m fuel:Nat}{listed:Array Bool}{fid:FuncId}{args:List Operand}{tys:Array TypeId}{vs us:List V}{v1:V}{d:Option Tmp}{ty:TypeId}{ps:String}{af:Array Edge}{g:Option (Nat×Bool)}
theorem gCZ(E:co PL prog fid us H0 λv H'=>v=v1∧H'=H1)(σ:YN)(hH:leH σ H H0.es)(k:Go prog K Q (.ops all rest) s n (F.seto d<|some<|v1.ren<|sgN PL H.nx H0.get H1.nx σ 0)<|mO PL H σ H0 H1)(G:cf prog fid=true:=by kernel_rfl)(J:bg F all g=some true:=by rfl)(hv:fF F args=some vs:=by rfl)(hs:aT vs (renL σ us):=by exact .rfl)(O:(cI σ&&Nat.beq σ.length H0.nx&&σ.all λi=>Nat.blt i H.nx)=true:=by rfl):Go prog K Q (.ops all<|⟨d,.call {callee:=.value<|.func fid,args:=args.toArray,argTypes:=tys},ty,ps,af,g⟩::rest) s n F H:=gC E σ G J hv hs hH O λ_ _ ⟨U,Z⟩=>by subst U Z;exact k
end
theorem pqq:∃u,some v=some u∧cd u v:=⟨v,rfl,cd.rfl⟩
variable{a0:V}
theorem pq1:(∃u,some a0=some u∧cd u a0)∧True:=⟨pqq,trivial⟩
variable{a1:V}
theorem pq2:(∃u,some a0=some u∧cd u a0)∧(∃u,some a1=some u∧cd u a1)∧True:=⟨pqq,pqq,trivial⟩
theorem pq3{E:V}:(∃u,some a0=some u∧cd u a0)∧(∃u,some a1=some u∧cd u a1)∧(∃u,some E=some u∧cd u E)∧True:=⟨pqq,pqq,pqq,trivial⟩
theorem pq4{E G:V}:(∃u,some a0=some u∧cd u a0)∧(∃u,some a1=some u∧cd u a1)∧(∃u,some E=some u∧cd u E)∧(∃u,some G=some u∧cd u G)∧True:=⟨pqq,pqq,pqq,pqq,trivial⟩
theorem pq8{E G J O U Z:V}:(∃u,some a0=some u∧cd u a0)∧(∃u,some a1=some u∧cd u a1)∧(∃u,some E=some u∧cd u E)∧(∃u,some G=some u∧cd u G)∧(∃u,some J=some u∧cd u J)∧(∃u,some O=some u∧cd u O)∧(∃u,some U=some u∧cd u U)∧(∃u,some Z=some u∧cd u Z)∧True:=⟨pqq,pqq,pqq,pqq,pqq,pqq,pqq,pqq,trivial⟩
theorem pqo{x:Option Nat}(h1:x=some i)(h2:H.get i=.var t cs):∃i,x=some i∧nV (H.get i) (.var t cs):=⟨i,h1,by rw[h2];exact⟨rfl,aT.rfl⟩⟩
theorem pqo1{E:Option Nat}{G:Nat}{t0:TypeId}{c0:List V}(J:E=some G)(O:H.get G=.var t0 c0):(∃i,E=some i∧nV (H.get i) (.var t0 c0))∧True:=⟨pqo J O,trivial⟩
theorem pqo2{E:Option Nat}{G:Nat}{t0:TypeId}{c0:List V}(Z:E=some G)(k0:H.get G=.var t0 c0){J:Option Nat}{O:Nat}{t1:TypeId}{U:List V}(h1:J=some O)(k1:H.get O=.var t1 U):(∃i,E=some i∧nV (H.get i) (.var t0 c0))∧(∃i,J=some i∧nV (H.get i) (.var t1 U))∧True:=⟨pqo Z k0,pqo h1 k1,trivial⟩
section
variable{P:Program}{K:Ctx}{Q:Exit->Act->World->Prop}{p:EP}{s:List EI}{n:Nat}{F F1 F2 F3 F4:Fm}{H:Hp}
theorem qXh{e:Bool}(d:Nat)(E:F.get d=some (.bool e))(h1:F.put d (some<|.bool true) id=F1)(h2:F.put d (some<|.bool false) id=F2)(h:(A->C)∧(B->D))(a:e=true->A)(b:e=false->B)(kT:A->C->Go P K Q p s n F1 H)(kF:B->D->Go P K Q p s n F2 H):Go P K Q p s n F H:=gB d E h1 h2 (λz=>kT (a z)<|h.1 (a z)) λz=>kF (b z)<|h.2 (b z)
theorem qXi{e:Bool}(d:Nat)(E:F.get d=some (.bool e))(h1:F.put d (some<|.bool true) id=F1)(h2:F.put d (some<|.bool false) id=F2)(h:(e=true->C)∧(e=false->D))(kT:e=true->C->Go P K Q p s n F1 H)(kF:e=false->D->Go P K Q p s n F2 H):Go P K Q p s n F H:=qXh d E h1 h2 h id id kT kF
theorem qXe[BEq α][LawfulBEq α]{x y:α}(d:Nat)(E:F.get d=some (.bool<|x==y))(h1:F.put d (some<|.bool true) id=F1)(h2:F.put d (some<|.bool false) id=F2)(h:(x=y->C)∧(x≠y->D))(kT:x=y->C->Go P K Q p s n F1 H)(kF:x≠y->D->Go P K Q p s n F2 H):Go P K Q p s n F H:=qXh d E h1 h2 h eq_of_beq ne_of_beq_false kT kF
theorem qXd{x:Prop}[Decidable x](d:Nat)(E:F.get d=some (.bool<|decide x))(h1:F.put d (some<|.bool true) id=F1)(h2:F.put d (some<|.bool false) id=F2)(h:(x->C)∧(¬x->D))(kT:x->C->Go P K Q p s n F1 H)(kF:¬x->D->Go P K Q p s n F2 H):Go P K Q p s n F H:=qXh d E h1 h2 h of_decide_eq_true of_decide_eq_false kT kF
theorem qXhZ{e:Bool}(d i:Nat)(E:F.get d=some (.bool e))(hi:Fm.get (F.set d none) i=some (.bool e))(h1:F.put d (some<|.bool true) (λF=>F.put i (some<|.bool true) id)=F3)(h2:F.put d (some<|.bool false) (λF=>F.put i (some<|.bool false) id)=F4)(h:(A->C)∧(B->D))(a:e=true->A)(b:e=false->B)(kT:A->C->Go P K Q p s n F3 H)(kF:B->D->Go P K Q p s n F4 H):Go P K Q p s n F H:=qBhZ (A:=A) (B:=B) (C:=A∧C) (D:=B∧D) d i E hi h1 h2 ⟨λx=>⟨x,h.1 x⟩,λx=>⟨x,h.2 x⟩⟩ a b (λz=>kT z.1 z.2) λz=>kF z.1 z.2
theorem qXiZ{e:Bool}(d i:Nat)(E:F.get d=some (.bool e))(hi:Fm.get (F.set d none) i=some (.bool e))(h1:F.put d (some<|.bool true) (λF=>F.put i (some<|.bool true) id)=F3)(h2:F.put d (some<|.bool false) (λF=>F.put i (some<|.bool false) id)=F4)(h:(e=true->C)∧(e=false->D))(kT:e=true->C->Go P K Q p s n F3 H)(kF:e=false->D->Go P K Q p s n F4 H):Go P K Q p s n F H:=qXhZ d i E hi h1 h2 h id id kT kF
theorem qXeZ[BEq α][LawfulBEq α]{x y:α}(d i:Nat)(E:F.get d=some (.bool<|x==y))(hi:Fm.get (F.set d none) i=some (.bool<|x==y))(h1:F.put d (some<|.bool true) (λF=>F.put i (some<|.bool true) id)=F3)(h2:F.put d (some<|.bool false) (λF=>F.put i (some<|.bool false) id)=F4)(h:(x=y->C)∧(x≠y->D))(kT:x=y->C->Go P K Q p s n F3 H)(kF:x≠y->D->Go P K Q p s n F4 H):Go P K Q p s n F H:=qXhZ d i E hi h1 h2 h eq_of_beq ne_of_beq_false kT kF
theorem qXdZ{x:Prop}[Decidable x](d i:Nat)(E:F.get d=some (.bool<|decide x))(hi:Fm.get (F.set d none) i=some (.bool<|decide x))(h1:F.put d (some<|.bool true) (λF=>F.put i (some<|.bool true) id)=F3)(h2:F.put d (some<|.bool false) (λF=>F.put i (some<|.bool false) id)=F4)(h:(x->C)∧(¬x->D))(kT:x->C->Go P K Q p s n F3 H)(kF:¬x->D->Go P K Q p s n F4 H):Go P K Q p s n F H:=qXhZ d i E hi h1 h2 h of_decide_eq_true of_decide_eq_false kT kF
theorem qG{l:List α}{x:α}(h:l[i]?=some x):i<l.length:=(List.getElem?_eq_some_iff.1 h).1
theorem qj{m:Nat}{R:Ctx->Prop}{B:Ctx->Nat->Prop}(h:∀K j,R K->m+1<=j+1->B K (j+1)):∀K j,R K->m+1<=j->B K j:=λK j a b=>by obtain⟨j,rfl⟩:∃i,j=i+1:=⟨j-1,by omega⟩;exact h K j a b
end
section
variable{P:Program}{T:Tab}{K:Ctx}{Q:Exit->Act->World->Prop}{p:EP}{s:List EI}{n:Nat}{F F':Fm}{H H':Hp}{pv:YN}
theorem qJ(E:aw K pv)(k:Go P K Q p s n F' H')(σ:YN)(G:leF σ F F':=by repeat (first|exact trivial|refine⟨pqq,?_⟩))(hH:leH σ H H'.es:=by repeat (first|exact trivial|refine⟨⟨_,rfl,by first|exact⟨rfl,aT.rfl⟩|exact⟨rfl,rfl,(dw _ _ (λ_=>rfl) _).symm⟩|exact⟨rfl,rfl,(BX _ _).symm⟩|exact⟨rfl,rfl,rfl⟩|exact⟨rfl,rfl,rfl,rfl⟩⟩,?_⟩))(hp:p.still=true:=by rfl)(J:(cI σ&&Nat.ble σ.length H'.nx&&ze σ pv&&Nat.ble F'.length n)=true:=by rfl):Go P K Q p s n F H:=go_sub σ pv hp E G hH J k
theorem qW{m:Nat}{Q:Ctx->Exit->Act->World->Prop}{s:Ctx->Nat->List EI}(E:aw K pv)(h:∀K j,aw K pv->m<=j->Go P K (Q K) p (s K j) n F' H')(σ:YN)(G:leF σ F F':=by repeat (first|exact trivial|refine⟨pqq,?_⟩))(hH:leH σ H H'.es:=by repeat (first|exact trivial|refine⟨⟨_,rfl,by first|exact⟨rfl,aT.rfl⟩|exact⟨rfl,rfl,(dw _ _ (λ_=>rfl) _).symm⟩|exact⟨rfl,rfl,(BX _ _).symm⟩|exact⟨rfl,rfl,rfl⟩|exact⟨rfl,rfl,rfl,rfl⟩⟩,?_⟩))(hp:p.still=true:=by rfl)(J:(cI σ&&Nat.ble σ.length H'.nx&&ze σ pv&&Nat.ble F'.length n)=true:=by rfl)(O:m<=j:=by omega):Go P K (Q K) p (s K j) n F H:=go_sub σ pv hp E G hH J<|h K j E O
theorem gE{fn:Func}{v0:V}{H0:Hp}{vs:List V}{e:Exit}(E:aw K pv)(X:List<|Nat×Ob)(L:List<|Nat×V)(σ:YN)(rs:List ResultVar)(Z:leF σ F (mkF n 0 L):=by repeat (first|exact trivial|refine⟨pqq,?_⟩))(hH:leH σ H (X++H0.es):=by repeat (first|exact trivial|refine⟨⟨_,rfl,by first|exact⟨rfl,aT.rfl⟩|exact⟨rfl,rfl,(dw _ _ (λ_=>rfl) _).symm⟩|exact⟨rfl,rfl,(BX _ _).symm⟩|exact⟨rfl,rfl,rfl⟩|exact⟨rfl,rfl,rfl,rfl⟩⟩,?_⟩))(hc:(cI σ&&Nat.ble σ.length H0.nx&&ze σ pv&&Nat.ble (mkF n 0 L).length n)=true:=by rfl)(J:fn.results=rs.toArray:=by rfl)(hv:tH Cb (⟨H0.nx,X++H0.es⟩:Hp).get (mkF n 0 L) rs=some vs:=by rfl)(O:pf vs=v0:=by rfl)(U:(⟨H0.nx,pR (X.map (·.1))<|X++H0.es⟩:Hp)=H0:=by rfl)(he:e=.ret∨e=.normal:=by first|exact .inl rfl|exact .inr rfl):Go prog K (bodyPost prog fn<|SP K λu G=>u=v0∧G=H0) (.ex e) [] n F H:=go_sub (F':=mkF n 0 L) (H':=⟨H0.nx,X++H0.es⟩) σ pv rfl E Z hH hc (OT (X.map (·.1)) ab J hv ⟨O,U⟩ he)
end
section
variable{K:Ctx}{Q:Exit->Act->World->Prop}{s:List EI}{n:Nat}{F F':Fm}{H H' H0 H1:Hp}{all:Array Oper}{rest:List Oper}{L PL:YN}{m fuel c:Nat}{listed:Array Bool}{fid:FuncId}{args:List Operand}{tys:Array TypeId}{vs us:List V}{v1:V}{d:Option Tmp}{ty:TypeId}{ps:String}{af:Array Edge}{g:Option (Nat×Bool)}
theorem qC(E:co PL prog fid us H0 λv H'=>v=v1∧H'=H1)(σ:YN)(k:Go prog K Q (.ops all rest) s n (F.seto d<|some<|v1.ren<|sgN PL H.nx H0.get H1.nx σ 0)<|mO PL H σ H0 H1)(G:cf prog fid=true:=by kernel_rfl)(J:bg F all g=some true:=by rfl)(hv:fF F args=some vs:=by rfl)(hs:aT vs (renL σ us):=by exact .rfl)(hH:leH σ H H0.es:=by repeat (first|exact trivial|refine⟨⟨_,rfl,by first|exact⟨rfl,aT.rfl⟩|exact⟨rfl,rfl,(dw _ _ (λ_=>rfl) _).symm⟩|exact⟨rfl,rfl,(BX _ _).symm⟩|exact⟨rfl,rfl,rfl⟩|exact⟨rfl,rfl,rfl,rfl⟩⟩,?_⟩))(O:(cI σ&&Nat.beq σ.length H0.nx&&σ.all λi=>Nat.blt i H.nx)=true:=by rfl):Go prog K Q (.ops all<|⟨d,.call {callee:=.value<|.func fid,args:=args.toArray,argTypes:=tys},ty,ps,af,g⟩::rest) s n F H:=gC E σ G J hv hs hH O λ_ _ ⟨U,Z⟩=>by subst U Z;exact k
theorem qDC(i:Nat)(G:co PL prog fid us H0 λv H'=>v=v1∧H'=H1)(σ:YN)(hi:all[i]?=some ⟨d,.call {callee:=.value<|.func fid,args:=args.toArray,argTypes:=tys},ty,ps,af,g⟩)(k:Go prog K Q (.drw all L m fuel<|listed.setIfInBounds i true) s n (F.seto d<|some<|v1.ren<|sgN PL H.nx H0.get H1.nx σ 0)<|mO PL H σ H0 H1)(J:cf prog fid=true:=by kernel_rfl)(E:Region.ready .any all listed=[i]:=by kernel_rfl)(O:bg F all g=some true:=by rfl)(hv:fF F args=some vs:=by rfl)(hs:aT vs (renL σ us):=by exact .rfl)(hH:leH σ H H0.es:=by repeat (first|exact trivial|refine⟨⟨_,rfl,by first|exact⟨rfl,aT.rfl⟩|exact⟨rfl,rfl,(dw _ _ (λ_=>rfl) _).symm⟩|exact⟨rfl,rfl,(BX _ _).symm⟩|exact⟨rfl,rfl,rfl⟩|exact⟨rfl,rfl,rfl,rfl⟩⟩,?_⟩))(U:(cI σ&&Nat.beq σ.length H0.nx&&σ.all λi=>Nat.blt i H.nx)=true:=by kernel_rfl)(Z:(cS H.get L&&L.all λi=>!σ.contains i)=true:=by rfl):Go prog K Q (.drw all L m (fuel+1) listed) s n F H:=gDC i G σ J hi E O hv hs hH U Z λ_ _ ⟨e1,e2⟩=>by subst e1 e2;exact k
theorem qC0(E:tI prog fid us v)(h1:F.puto d (some v) id=F')(k:Go prog K Q (.ops all rest) s n F' H)(G:cf prog fid=true:=by kernel_rfl)(J:bg F all g=some true:=by rfl)(hv:fF F args=some vs:=by rfl)(hs:aT vs us:=by exact .rfl):Go prog K Q (.ops all<|⟨d,.call {callee:=.value<|.func fid,args:=args.toArray,argTypes:=tys},ty,ps,af,g⟩::rest) s n F H:=gC0 E G J hv hs h1 k
theorem qDe(k:Go prog K Q (.ex .normal) s n F H)(E:Region.ready .any all listed=[]:=by kernel_rfl):Go prog K Q (.drw all L m fuel listed) s n F H:=gDe E k
theorem qA{c:Code}(N:Nat)(pv:YN)(hf:prog.funcs[fid]?=some fn)(k:∀K,aw K pv->Go prog K (bodyPost prog fn<|SP K Post) (.code c) [] N (nZ N vs) H0)(hb:fn.body=some c:=by exact rfl)(G:fn.ntmps=N:=by exact rfl)(J:Nat.ble vs.length N=true:=by rfl)(E:∀i,jg PL i (H0.get i)=true->i∈pv:=by exact RH rfl):co PL prog fid vs H0 Post:=Le N pv hf hb G J E k
theorem qN{Post:V->Hp->Prop}{e:Exit}(rs:List ResultVar)(E:fn.results=rs.toArray:=by exact rfl)(hv:tH Cb H.get F rs=some vs:=by exact rfl)(G:Post (pf vs) H:=by exact rfl)(J:e=.ret∨e=.normal:=by first|exact .inl rfl|exact .inr rfl):Go prog K (bodyPost prog fn<|SP K Post) (.ex e) [] n F H:=PY ab E hv G J
@[reducible] def qR : Nat -> Nat -> Nat -> List (Nat × Nat) -> List (Nat × Nat)
 |_,0,_,r=>r
 |i,n+1,f,r=>(i,f)::qR (i+1) n f r
theorem qDr(is:List<|Nat×Nat)(E:is.length=c)(hr:pV Cb all L is F H=some (F',H'))(k:Go prog K Q (.drw all L m fuel<|Iw is listed) s n F' H')(G:FV all m is listed=true:=by kernel_rfl):Go prog K Q (.drw all L m (fuel+c) listed) s n F H:=gDr is G E hr k
theorem qDs{id:Nat}{l:List Oper}(L:YN)(m sz:Nat)(k:Go prog K Q (.drw l.toArray L m sz<|Array.replicate sz false) s n F H)(hsz:l.length=sz:=by rfl)(E:prog.follows .mixedOrders=true:=by kernel_rfl)(hs:Region.noSelect l.toArray=true:=by kernel_rfl):Go prog K Q (.code<|.region id l.toArray true) s n F H:=gDs L m sz hsz E hs k
end
abbrev xA(c:Code):Code:=cB (cB c)
abbrev xB(c:Code):Code:=cE (cB c)
abbrev xC(c:Code):Code:=xB (xB c)
abbrev xD(c:Code):Code:=cK (cB c)
abbrev xE(c:Code):Code:=xD (cA c)
abbrev xF(c:Code):Code:=xA (xA c)
abbrev xG(c:Code):Code:=xC (xC c)
abbrev xH(c:Code):Code:=xA (cB c)
abbrev xI(c:Code):Code:=cL (xE c)
abbrev xJ(c:Code):Code:=cT (cB c)
abbrev xK(c:Code):Code:=xI (xF c)
abbrev xL(c:Code):Code:=cK (xA c)
abbrev xM(c:Code):Code:=xI (xA c)
abbrev xN(c:Code):Code:=cK (cA c)
set_option maxHeartbeats 4000000
def Gl(E:YB)(G:Int):Prop:=qS 127 [.str E]<|qi G
def yg(E:YB)(G:Int):Prop:=qS 163 [.str E]<|qi G
def nk(E G J:Int):Prop:=qS 89 [qi E,qi G]<|qi J
def fC(E G J O:Int):Prop:=qS 139 [qi E,qi G,qi J]<|qi O
def mn(E:Int)(G:Bool):Prop:=qS 142 [qi E]<|.bool G
def dY(E:Int)(G:Bool):Prop:=qS 141 [qi E]<|.bool G
def pH(E:Int)(G:Bool):Prop:=qS 143 [qi E]<|.bool G
def nT(E:YB)(G:Bool):Prop:=qS 140 [.str E]<|.bool G
def qn(E:Int)(G:YB)(J:Bool):Prop:=qS 90 [qi E,.str G]<|.bool J
def rm(E:Tree)(G:Int)(J:Bool):Prop:=qS 91 [.agg<|am E,qi G]<|.bool J
def gr(E:Tree)(G:Bool):Prop:=qS 48 [.agg<|am E]<|.bool G
def fk(E G J:Int):Prop:=qS 156 [qi E,qi G]<|qi J
def cn(E G J O:Int):Prop:=qS 184 [qi E,qi G,qi J]<|qi O
def gW(E:Int)(G:Bool):Prop:=qS 187 [qi E]<|.bool G
def eu(E:Int)(G:Bool):Prop:=qS 186 [qi E]<|.bool G
def gM(E:Int)(G:Bool):Prop:=qS 183 [qi E]<|.bool G
def ic(E:YB)(G:Bool):Prop:=qS 185 [.str E]<|.bool G
def jw(E:Int)(G:YB)(J:Bool):Prop:=qS 157 [qi E,.str G]<|.bool J
def nQ(E:Tree)(G J:Int)(O:Bool):Prop:=qS 158 [.agg<|am E,qi G,qi J]<|.bool O
def dv(E:Tree)(G:Bool):Prop:=qS 109 [.agg<|am E]<|.bool G
def aP(m:Nat)(E:Int)(a b c:Nat)(d G:Int):Prop:=z6 [] f89 (z3<|qi G) (xF<|ac f89) [] 69 [(1,qi E),(5,qi (a:Int)),(6,qi d),(7,qi (b:Int)),(8,qi (c:Int))] ⟨0,[]⟩
def mq(m:Nat)(E G:Int)(a:Bool)(J:Int):Prop:=z6 [] f89 (z3<|qi J) (cB<|xG<|xB<|xE<|xH<|ac f89) [.blk 0,.seq<|xF<|ac f89] 69 [(1,qi G),(5,qi 0),(6,qi 0),(7,qi 1),(8,qi 0),(9,qi E),(22,.bool a)] ⟨0,[]⟩
def mj(m:Nat)(E:Int)(a b c:Nat)(d G:Int):Prop:=z6 [] f89 (z3<|qi G) (xF<|cB<|ac f89) [] 69 [(1,qi E),(5,qi (a:Int)),(6,qi d),(7,qi (b:Int)),(8,qi (c:Int))] ⟨0,[]⟩
theorem AO(m:Nat)(E J O:Int)(h:((E=1)->∃a,fC J 0 3 a∧a=O)∧((E≠1)->((E=2)->aP m J 2 6 2 (-1) O)∧((E≠2)->((E=16)->aP m J 0 3 0 (-1) O)∧((E≠16)->((E=18)->aP m J 1 2 0 (-1) O)∧((E≠18)->((E=3)->aP m J 1 3 0 1 O)∧((E≠3)->((E=4)->mq m E J true O)∧((E≠4)->((E=8)->mq m E J true O)∧((E≠8)->mq m E J (E==22) O)))))))):nk E J O:=by
 refine⟨I,I,?_⟩;refine qA 69 [] func89 λK G=>?_;refine gR 30 rfl<|qBeZ 10 11 rfl rfl rfl rfl h ?_ ?_<;>intro h;refine gR 4 I ?_;obtain⟨a,b,h⟩:=h;refine qC0 b I<|gR 6 I ?_;subst h;exact qN [.tmp 4];refine gR 7 rfl<|qBeZ 14 15 rfl rfl rfl rfl h ?_ ?_<;>intro h;exact gR 9 I<|qJ G (h K G) [];refine gR 7 rfl<|qBeZ 16 17 rfl rfl rfl rfl h ?_ ?_<;>intro h;exact gR 9 I<|qJ G (h K G) [];refine gR 7 rfl<|qBeZ 18 19 rfl rfl rfl rfl h ?_ ?_<;>intro h;exact gR 9 I<|qJ G (h K G) [];refine gR 7 rfl<|qBeZ 20 21 rfl rfl rfl rfl h ?_ ?_<;>intro h;exact gR 8 I<|qJ G (h K G) [];refine gR 8 rfl<|qBeZ 22 23 rfl rfl rfl rfl h ?_ ?_<;>intro h;exact gR 3 I<|qJ G (h K G) [];refine gR 7 rfl<|qBeZ 22 24 rfl rfl rfl rfl h ?_ ?_<;>intro h;exact gR 3 I<|qJ G (h K G) [];exact gR 6 I<|qJ G (h K G) []
theorem Ai(m:Nat)(E:Int)(b c d:Nat)(a G:Int)(h:z8 (0<=a) (z8 (a<E) ((-1)=G)<|mj m E b c d a G)<|mj m E b c d a G):aP (m+1) E b c d a G:=by
 intro K J;refine gR 6 rfl<|qBdZ 47 46 rfl rfl rfl rfl h ?_ ?_<;>intro h;refine gR 6 rfl<|qBd 51 rfl rfl rfl h ?_ ?_<;>intro h;refine gR 8 I ?_;subst h;exact qN [.tmp 4];exact gR 3 I<|qJ J (h K J) [];exact gR 9 I<|qJ J (h K J) []
theorem Aa(m:Nat)(O J:Int)(a:Bool)(G:Int)(h:z9 a (aP m J 1 2 0 1 G)<|y5 O 17 (aP m J 1 0 0 1 G)<|y5 O 19 (aP m J 3 3 0 3 G)<|y5 O 20 (aP m J 2 4 0 2 G)<|y5 O 21 (aP m J 2 1 0 2 G)<|y5 O 5 (aP m J 0 1 0 0 G)<|y5 O 6 (aP m J 0 1 0 0 G)<|y5 O 7 (aP m J 0 1 0 0 G)<|y5 O 9 (aP m J 0 1 0 0 G)<|y5 O 10 (aP m J 0 1 0 0 G)<|y5 O 11 (aP m J 0 1 0 0 G)<|y5 O 12 (aP m J 0 1 0 0 G)<|y5 O 13 (aP m J 0 1 0 0 G)<|y5 O 14 (aP m J 0 1 0 0 G)<|y5 O 15 (aP m J 0 1 0 0 G)<|(-1)=G):mq (m+1) O J a G:=by
 intro K E;refine qBi 22 rfl rfl rfl h ?_ ?_<;>intro h;exact gR 8 I<|qJ E (h K E) [];refine gR 7 rfl<|qBeZ 26 27 rfl rfl rfl rfl h ?_ ?_<;>intro h;exact gR 8 I<|qJ E (h K E) [];refine gR 7 rfl<|qBeZ 28 29 rfl rfl rfl rfl h ?_ ?_<;>intro h;exact gR 8 I<|qJ E (h K E) [];refine gR 7 rfl<|qBeZ 30 31 rfl rfl rfl rfl h ?_ ?_<;>intro h;exact gR 8 I<|qJ E (h K E) [];refine gR 7 rfl<|qBeZ 32 33 rfl rfl rfl rfl h ?_ ?_<;>intro h;exact gR 8 I<|qJ E (h K E) [];refine gR 8 rfl<|qBeZ 34 35 rfl rfl rfl rfl h ?_ ?_<;>intro h;exact gR 7 I<|qJ E (h K E) [];refine gR 7 rfl<|qBeZ 34 36 rfl rfl rfl rfl h ?_ ?_<;>intro h;exact gR 7 I<|qJ E (h K E) [];refine gR 7 rfl<|qBeZ 34 37 rfl rfl rfl rfl h ?_ ?_<;>intro h;exact gR 7 I<|qJ E (h K E) [];refine gR 7 rfl<|qBeZ 34 38 rfl rfl rfl rfl h ?_ ?_<;>intro h;exact gR 7 I<|qJ E (h K E) [];refine gR 7 rfl<|qBeZ 34 39 rfl rfl rfl rfl h ?_ ?_<;>intro h;exact gR 7 I<|qJ E (h K E) [];refine gR 7 rfl<|qBeZ 34 40 rfl rfl rfl rfl h ?_ ?_<;>intro h;exact gR 7 I<|qJ E (h K E) [];refine gR 7 rfl<|qBeZ 34 41 rfl rfl rfl rfl h ?_ ?_<;>intro h;exact gR 7 I<|qJ E (h K E) [];refine gR 7 rfl<|qBeZ 34 42 rfl rfl rfl rfl h ?_ ?_<;>intro h;exact gR 7 I<|qJ E (h K E) [];refine gR 7 rfl<|qBeZ 34 43 rfl rfl rfl rfl h ?_ ?_<;>intro h;exact gR 7 I<|qJ E (h K E) [];refine gR 6 rfl<|qBeZ 34 44 rfl rfl rfl rfl h ?_ ?_<;>intro h;exact gR 4 I<|qJ E (h K E) [];refine gR 9 I ?_;subst h;exact qN [.tmp 4]
theorem AK(m:Nat)(E:Int)(c b a:Nat)(d G:Int)(h:z8 (d<0) (z8 ((a:Int)<E) (InI (E-(a:Int))∧InI ((E-(a:Int))-1)∧InI ((b:Int)+((E-(a:Int))-1))∧∃e,fC E (c:Int) ((b:Int)+((E-(a:Int))-1)) e∧e=G)<|∃f,fC E (c:Int) (b:Int) f∧f=G)<|∃g,fC E (c:Int) (b:Int) g∧g=G):mj (m+1) E c b a d G:=by
 intro K J;refine gR 6 rfl<|qBdZ 54 53 rfl rfl rfl rfl h ?_ ?_<;>intro h;refine gR 6 rfl<|qBd 58 rfl rfl rfl h ?_ ?_<;>intro h;refine gR 5 I ?_;obtain⟨hb,h⟩:=h;refine gR 1 I<|gV 62 (qi (E-(a:Int))) I (al hb I) I ?_;obtain⟨hb,h⟩:=h;refine gR 1 I<|gV 63 (qi ((E-(a:Int))-1)) I (al hb I) I ?_;obtain⟨hb,h⟩:=h;refine gR 1 I<|gV 64 (qi ((b:Int)+((E-(a:Int))-1))) I (al hb I) I<|gR 8 I ?_;obtain⟨e,i,h⟩:=h;refine qC0 i I<|gR 4 I ?_;subst h;exact qN [.tmp 4];refine gR 8 I ?_;obtain⟨f,j,h⟩:=h;refine qC0 j I<|gR 4 I ?_;subst h;exact qN [.tmp 4];refine gR 14 I ?_;obtain⟨g,k,h⟩:=h;refine qC0 k I<|gR 4 I ?_;subst h;exact qN [.tmp 4]
theorem zD(m:Nat)(E G O J:Int)(h:((E<G)->(-1)=J)∧((¬E<G)->O=J)):fC E G O J:=by
 refine⟨I,I,?_⟩;refine qA 11 [] func139 λK U=>?_;refine gR 13 rfl<|qBd 9 rfl rfl rfl h ?_ ?_<;>intro h;refine gR 8 I ?_;subst h;exact qN [.tmp 6];refine gR 10 I ?_;subst h;exact qN [.tmp 6]
theorem Am(m:Nat)(E:Int)(G:Bool)(h:((5<=E)->decide (E<=9)=G)∧((¬5<=E)->false=G)):mn E G:=by
 refine⟨I,I,?_⟩;refine qA 9 [] func142 λK J=>?_;refine gR 10 rfl<|qBdZ 5 4 rfl rfl rfl rfl h ?_ ?_<;>intro h;refine gR 7 I ?_;subst h;exact qN [.tmp 2];refine gR 7 I ?_;subst h;exact qN [.tmp 2]
theorem uO(m:Nat)(E:Int)(G:Bool)(h:((10<=E)->((E<=22)->(E !=17)=G)∧((¬E<=22)->false=G))∧((¬10<=E)->false=G)):dY E G:=by
 refine⟨I,I,?_⟩;refine qA 13 [] func141 λK J=>?_;refine gR 10 rfl<|qBdZ 5 4 rfl rfl rfl rfl h ?_ ?_<;>intro h;refine gR 4 rfl<|qBdZ 9 8 rfl rfl rfl rfl h ?_ ?_<;>intro h;refine gR 7 I ?_;subst h;exact qN [.tmp 2];refine gR 7 I ?_;subst h;exact qN [.tmp 2];refine gR 11 I ?_;subst h;exact qN [.tmp 2]
theorem AA(m:Nat)(E:Int)(G:Bool)(h:∃a,dY E a∧((a=true)->((E≠19)->((E≠20)->(E !=21)=G)∧((E=20)->false=G))∧((E=19)->false=G))∧((a=false)->false=G)):pH E G:=by
 refine⟨I,I,?_⟩;refine qA 17 [] func143 λK J=>?_;refine gR 8 I ?_;obtain⟨a,b,h⟩:=h;refine qC0 b rfl<|gR 1 rfl<|qBiZ 5 4 rfl rfl rfl rfl h ?_ ?_<;>intro h;refine gR 4 rfl<|qBhZ 9 8 rfl rfl rfl rfl h iS eY ?_ ?_<;>intro h;refine gR 4 rfl<|qBhZ 13 12 rfl rfl rfl rfl h iS eY ?_ ?_<;>intro h;refine gR 7 I ?_;subst h;exact qN [.tmp 2];refine gR 7 I ?_;subst h;exact qN [.tmp 2];refine gR 11 I ?_;subst h;exact qN [.tmp 2];refine gR 15 I ?_;subst h;exact qN [.tmp 2]
theorem yW(m:Nat)(E:YB)(G:Bool)(h:((E=[43])->true=G)∧((E≠[43])->((E=[45])->true=G)∧((E≠[45])->((E=[42])->true=G)∧((E≠[42])->((E=[60])->true=G)∧((E≠[60])->((E=[61,61])->true=G)∧((E≠[61,61])->false=G)))))):nT E G:=by
 refine⟨I,I,?_⟩;refine qA 10 [] func140 λK J=>?_;refine gR 19 rfl<|qBeZ 4 5 rfl rfl rfl rfl h ?_ ?_<;>intro h;refine gR 12 I ?_;subst h;exact qN [.tmp 2];refine gR 7 rfl<|qBeZ 4 6 rfl rfl rfl rfl h ?_ ?_<;>intro h;refine gR 12 I ?_;subst h;exact qN [.tmp 2];refine gR 7 rfl<|qBeZ 4 7 rfl rfl rfl rfl h ?_ ?_<;>intro h;refine gR 12 I ?_;subst h;exact qN [.tmp 2];refine gR 7 rfl<|qBeZ 4 8 rfl rfl rfl rfl h ?_ ?_<;>intro h;refine gR 12 I ?_;subst h;exact qN [.tmp 2];refine gR 6 rfl<|qBeZ 4 9 rfl rfl rfl rfl h ?_ ?_<;>intro h;refine gR 9 I ?_;subst h;exact qN [.tmp 2];refine gR 10 I ?_;subst h;exact qN [.tmp 2]
def oW(m:Nat)(E:Int)(G:YB)(a:Int)(b J:Bool):Prop:=z6 [] f90 (z3<|.bool J) (cB<|xE<|xA<|ac f90) [.blk 0,.seq<|xH<|ac f90] 51 [(1,.str G),(5,qi a),(8,qi E),(9,.bool b)] ⟨0,[]⟩
def ip(m:Nat)(E:Int)(G:YB)(a:Int)(b J:Bool):Prop:=z6 [] f90 (z3<|.bool J) (cB<|xB<|xE<|xA<|ac f90) [.blk 0,.seq<|xH<|ac f90] 51 [(1,.str G),(5,qi a),(8,qi E),(14,.bool b)] ⟨0,[]⟩
theorem zV(m:Nat)(E:Int)(G:YB)(O:Bool)(h:∃a,Gl G a∧((E=1)->oW m E G a true O)∧((E≠1)->oW m E G a (E==3) O)):qn E G O:=by
 refine⟨I,I,?_⟩;refine qA 51 [] func90 λK J=>?_;refine gR 8 I ?_;obtain⟨a,b,h⟩:=h;refine qC0 b rfl<|gR 17 rfl<|qBeZ 9 10 rfl rfl rfl rfl h ?_ ?_<;>intro h;exact gR 3 I<|qJ J (h K J) [];exact gR 6 I<|qJ J (h K J) []
theorem zI(m:Nat)(E:Int)(O:YB)(a:Int)(b J:Bool)(h:z9 b ((a==2)=J)<|y5 E 2 (ip m E O a true J)<|y5 E 4 (ip m E O a true J)<|y5 E 12 (ip m E O a true J)<|ip m E O a (E==20) J):oW (m+1) E O a b J:=by
 intro K G;refine qBi 9 rfl rfl rfl h ?_ ?_<;>intro h;refine gR 11 I ?_;subst h;exact qN [.tmp 4];refine gR 8 rfl<|qBeZ 14 15 rfl rfl rfl rfl h ?_ ?_<;>intro h;exact gR 3 I<|qJ G (h K G) [];refine gR 7 rfl<|qBeZ 14 16 rfl rfl rfl rfl h ?_ ?_<;>intro h;exact gR 3 I<|qJ G (h K G) [];refine gR 7 rfl<|qBeZ 14 17 rfl rfl rfl rfl h ?_ ?_<;>intro h;exact gR 3 I<|qJ G (h K G) [];exact gR 6 I<|qJ G (h K G) []
theorem zJ(m:Nat)(G:Int)(J:YB)(a:Int)(b E:Bool)(h:z9 b ((a==1)=E)<|y5 G 9 (y5 a 2 (true=E)<|(a==4)=E)<|y5 G 16 (y5 a 1 (true=E)<|(a==3)=E)<|y5 G 10 ((a==5)=E)<|y5 G 11 ((a==6)=E)<|y5 G 21 (∃c,nT J c∧c=E)<|(J==[])=E):ip (m+1) G J a b E:=by
 intro K O;refine qBi 14 rfl rfl rfl h ?_ ?_<;>intro h;refine gR 11 I ?_;subst h;exact qN [.tmp 4];refine gR 7 rfl<|qBeZ 21 22 rfl rfl rfl rfl h ?_ ?_<;>intro h;refine gR 6 rfl<|qBeZ 25 24 rfl rfl rfl rfl h ?_ ?_<;>intro h;refine gR 9 I ?_;subst h;exact qN [.tmp 4];refine gR 9 I ?_;subst h;exact qN [.tmp 4];refine gR 7 rfl<|qBeZ 29 30 rfl rfl rfl rfl h ?_ ?_<;>intro h;refine gR 6 rfl<|qBeZ 33 32 rfl rfl rfl rfl h ?_ ?_<;>intro h;refine gR 9 I ?_;subst h;exact qN [.tmp 4];refine gR 9 I ?_;subst h;exact qN [.tmp 4];refine gR 7 rfl<|qBeZ 37 38 rfl rfl rfl rfl h ?_ ?_<;>intro h;refine gR 11 I ?_;subst h;exact qN [.tmp 4];refine gR 7 rfl<|qBeZ 41 42 rfl rfl rfl rfl h ?_ ?_<;>intro h;refine gR 11 I ?_;subst h;exact qN [.tmp 4];refine gR 7 rfl<|qBeZ 45 46 rfl rfl rfl rfl h ?_ ?_<;>intro h;refine gR 4 I ?_;obtain⟨c,d,h⟩:=h;refine qC0 d I<|gR 6 I ?_;subst h;exact qN [.tmp 4];refine gR 12 I ?_;subst h;exact qN [.tmp 4]
def mr(m:Nat)(E:Tree)(G:Int)(a:Tree)(b J:Bool):Prop:=z6 [] f91 (z3<|.bool J) (cB<|xC<|xE<|xA<|ac f91) [.blk 0,.seq<|xH<|ac f91] 67 [(1,qi G),(5,qi a.kind),(13,qi E.kind),(43,.bool b)] ⟨0,[]⟩
theorem Bl(m:Nat)(E:Tree)(G:Int)(J:Bool)(h:∃b,G=((b:Nat):Int)∧∃a,E.kids[b]?=some a∧((E.kind=1)->((a.kind=2)->true=J)∧((a.kind≠2)->(a.kind==3)=J))∧((E.kind≠1)->((E.kind=2)->((G=((E.kids.length:Int)-1))->∃c,dY a.kind c∧c=J)∧((G≠((E.kids.length:Int)-1))->((G=((E.kids.length:Int)-2))->∃d,mn a.kind d∧d=J)∧((G≠((E.kids.length:Int)-2))->(a.kind==4)=J)))∧((E.kind≠2)->((E.kind=3)->mr m E G a true J)∧((E.kind≠3)->((E.kind=4)->mr m E G a true J)∧((E.kind≠4)->mr m E G a (E.kind==8) J))))):rm E G J:=by
 refine⟨I,I,?_⟩;refine qA 67 [] func91 λK O=>?_;refine gR 3 I<|gFP 0 I I I I<|gR 8 I ?_;obtain⟨b,g,h⟩:=h;refine gV 8 (qi ((b:Nat):Int)) I (aI g) I ?_;obtain⟨a,e,h⟩:=h;refine gY (ar (au e) ab rfl rfl rfl rfl) rfl rfl<|gR 19 rfl<|qXeZ 14 15 rfl rfl rfl rfl h ?_ ?_<;>intro U h;refine gR 6 rfl<|qXeZ 18 17 rfl rfl rfl rfl h ?_ ?_<;>intro U h;refine gR 9 I ?_;subst h;exact qN [.tmp 4];refine gR 9 I ?_;subst h;exact qN [.tmp 4];refine gR 7 rfl<|qXeZ 22 23 rfl rfl rfl rfl h ?_ ?_<;>intro U h;refine gR 13 rfl<|gV 28 (qi (E.kids.length:Int)) rfl (aK<|aG _) rfl<|gLB 27 rfl (aG _) λf=>gR 1 rfl<|gV 29 (qi<|(E.kids.length:Int)-1) rfl (al (by have :=f;omega) rfl) rfl<|gR 4 rfl<|qXeZ 25 30 rfl rfl rfl rfl h ?_ ?_<;>intro U h;refine gR 4 I ?_;obtain⟨c,i,h⟩:=h;refine qC0 i I<|gR 8 I ?_;subst h;exact qN [.tmp 4];refine gR 6 rfl<|gV 36 (qi (E.kids.length:Int)) rfl (aK<|aG _) rfl<|gR 1 rfl<|gV 37 (qi<|(E.kids.length:Int)-2) rfl (al (by have :=f;omega) rfl) rfl<|gR 4 rfl<|qXeZ 33 38 rfl rfl rfl rfl h ?_ ?_<;>intro U h;refine gR 4 I ?_;obtain⟨d,j,h⟩:=h;refine qC0 j I<|gR 8 I ?_;subst h;exact qN [.tmp 4];refine gR 14 I ?_;subst h;exact qN [.tmp 4];refine gR 8 rfl<|qXeZ 43 44 rfl rfl rfl rfl h ?_ ?_<;>intro U h;exact gR 3 I<|qJ O (h K O) [];refine gR 7 rfl<|qXeZ 43 45 rfl rfl rfl rfl h ?_ ?_<;>intro U h;exact gR 3 I<|qJ O (h K O) [];exact gR 6 I<|qJ O (h K O) []
theorem Ah(m:Nat)(G:Tree)(J:Int)(a:Tree)(c E:Bool)(h:z9 c (∃d,mn a.kind d∧d=E)<|y5 G.kind 16 ((a.kind==17)=E)<|y5 G.kind 21 (∃b,pH a.kind b∧z9 b (true=E) (y5 J 0 ((a.kind==21)=E)<|false=E))<|∃e,dY a.kind e∧e=E):mr (m+1) G J a c E:=by
 intro K O;refine qBi 43 rfl rfl rfl h ?_ ?_<;>intro h;refine gR 4 I ?_;obtain⟨d,f,h⟩:=h;refine qC0 f I<|gR 6 I ?_;subst h;exact qN [.tmp 4];refine gR 7 rfl<|qBeZ 49 50 rfl rfl rfl rfl h ?_ ?_<;>intro h;refine gR 11 I ?_;subst h;exact qN [.tmp 4];refine gR 7 rfl<|qBeZ 53 54 rfl rfl rfl rfl h ?_ ?_<;>intro h;refine gR 4 I ?_;obtain⟨b,g,h⟩:=h;refine qC0 g rfl<|gR 1 rfl<|qBiZ 57 56 rfl rfl rfl rfl h ?_ ?_<;>intro h;refine gR 13 I ?_;subst h;exact qN [.tmp 4];refine gR 3 rfl<|qBeZ 60 59 rfl rfl rfl rfl h ?_ ?_<;>intro h;refine gR 10 I ?_;subst h;exact qN [.tmp 4];refine gR 10 I ?_;subst h;exact qN [.tmp 4];refine gR 7 I ?_;obtain⟨e,i,h⟩:=h;refine qC0 i I<|gR 4 I ?_;subst h;exact qN [.tmp 4]
def lA(m:Nat)(E:Tree)(a:Nat)(G:Bool):Prop:=z5 m [] f48 (z3<|.bool G) (xM<|ac f48) [.blk 0,.seq<|xH<|ac f48] 38 [(1,.box (am E) 0),(21,.row 4<|kidsV E.kids),(22,qi (E.kids.length:Int)),(23,qi (a:Int))] ⟨0,[]⟩
theorem At(m:Nat)(p0:Tree)(r0:Bool)(h:∃a,nk p0.kind (p0.kids.length:Int) a∧((a<0)->false=r0)∧((¬a<0)->∃b,qn p0.kind p0.text b∧((b=false)->false=r0)∧((b=true)->lA m p0 0 r0))):gr p0 r0:=by
 refine⟨I,I,?_⟩;refine qA 38 [] func48 λK hK=>?_;refine gR 3 I<|gFP 0 I I I I<|gR 11 I<|gV 9 (qi (p0.kids.length:Int)) I (aK<|aG _) I<|gLB 8 I (aG _) λe=>?_;obtain⟨a,c,h⟩:=h;refine qC0 c rfl<|gR 2 rfl<|qXdZ 12 11 rfl rfl rfl rfl h ?_ ?_<;>intro hd h;refine gR 17 I ?_;subst h;exact qN [.tmp 2];refine gR 4 I ?_;obtain⟨b,d,h⟩:=h;refine qC0 d rfl<|gR 4 rfl<|qXh 19 rfl rfl rfl h bI bJ ?_ ?_<;>intro hd h;refine gR 8 I ?_;subst h;exact qN [.tmp 2];exact gR 9 I<|gV 22 (qi (p0.kids.length:Int)) I (aK<|aG _) I<|gR 4 I<|go_loop m<|qW hK h []
theorem sy(m:Nat)(E:Tree)(a:Nat)(G:Bool)(h:z8 (a<E.kids.length) (∃d,E.kids[a]?=some d∧∃b,rm E (a:Int) b∧y4 b (false=G) (∃c,gr d c∧y4 c (false=G) (a+1<=9223372036854775807∧lA m E (a+1) G)))<|true=G):lA (m+1) E a G:=by
 refine qj λK U O i=>?_;refine gR 6 rfl<|qXh 24 rfl rfl rfl h bx bw ?_ ?_<;>intro J h;refine gR 8 I ?_;obtain⟨d,e,h⟩:=h;refine gY (ar (au e) ab I I I I) I I<|gR 10 I ?_;obtain⟨b,f,h⟩:=h;refine qC0 f rfl<|gR 2 rfl<|qXhZ 32 31 rfl rfl rfl rfl h bI bJ ?_ ?_<;>intro J h;refine gR 15 I<|go_xloopR<|gR 2 I ?_;subst h;exact qN [.tmp 2];refine gR 1 I ?_;obtain⟨c,g,h⟩:=h;refine qC0 g rfl<|gR 4 rfl<|qXh 36 rfl rfl rfl h bI bJ ?_ ?_<;>intro J h;refine gR 9 I<|go_xloopR<|gR 2 I ?_;subst h;exact qN [.tmp 2];refine gR 5 I ?_;obtain⟨hb,h⟩:=h;exact gR 1 I<|gV 37 (qi ((a+1:Nat):Int)) I (al (by omega)<|by omega) I<|gR 2 I<|go_xloop<|qW O h [];refine gR 3 I<|go_xloopE<|gR 8 I ?_;subst h;exact qN [.tmp 2]
def gP(m:Nat)(E G:Int)(a:Bool)(J:Int):Prop:=z6 [] f156 (z3<|qi J) (cB<|xC<|xB<|xE<|cB<|ac f156) [.blk 0,.seq<|xA<|ac f156] 71 [(1,qi G),(5,qi E),(22,.bool a)] ⟨0,[]⟩
def bh(m:Nat)(E G:Int)(a:Bool)(J:Int):Prop:=z6 [] f156 (z3<|qi J) (cB<|xG<|xE<|cB<|ac f156) [.blk 0,.seq<|xA<|ac f156] 71 [(1,qi G),(5,qi E),(28,.bool a)] ⟨0,[]⟩
theorem xq(m:Nat)(E G J:Int)(h:((E=1)->((0<=G)->3=J)∧((¬0<=G)->(-1)=J))∧((E≠1)->((E=2)->((2<=G)->InI (G-3)∧InI (6+(max 0<|G-3))∧(6+(max 0<|G-3))=J)∧((¬2<=G)->(-1)=J))∧((E≠2)->((E=3)->∃a,cn G 1 3 a∧a=J)∧((E≠3)->((E=4)->gP m E G true J)∧((E≠4)->((E=8)->gP m E G true J)∧((E≠8)->gP m E G (E==22) J)))))):fk E G J:=by
 refine⟨I,I,?_⟩;refine qA 71 [] func156 λK O=>?_;refine gR 18 rfl<|qBeZ 6 7 rfl rfl rfl rfl h ?_ ?_<;>intro h;refine gR 7 rfl<|qBd 9 rfl rfl rfl h ?_ ?_<;>intro h;refine gR 9 I ?_;subst h;exact qN [.tmp 4];refine gR 10 I ?_;subst h;exact qN [.tmp 4];refine gR 7 rfl<|qBeZ 10 11 rfl rfl rfl rfl h ?_ ?_<;>intro h;refine gR 7 rfl<|qBd 13 rfl rfl rfl h ?_ ?_<;>intro h;refine gR 4 I ?_;obtain⟨hb,h⟩:=h;refine gR 1 I<|gV 15 (qi<|G-3) I (al hb I) I<|gR 1 I ?_;obtain⟨hb,h⟩:=h;refine gR 1 I<|gV 17 (qi<|6+(max 0<|G-3)) I (al hb I) I<|gR 6 I ?_;subst h;exact qN [.tmp 4];refine gR 10 I ?_;subst h;exact qN [.tmp 4];refine gR 7 rfl<|qBeZ 18 19 rfl rfl rfl rfl h ?_ ?_<;>intro h;refine gR 4 I ?_;obtain⟨a,b,h⟩:=h;refine qC0 b I<|gR 6 I ?_;subst h;exact qN [.tmp 4];refine gR 8 rfl<|qBeZ 22 23 rfl rfl rfl rfl h ?_ ?_<;>intro h;exact gR 3 I<|qJ O (h K O) [];refine gR 7 rfl<|qBeZ 22 24 rfl rfl rfl rfl h ?_ ?_<;>intro h;exact gR 3 I<|qJ O (h K O) [];exact gR 6 I<|qJ O (h K O) []
theorem vU(m:Nat)(E J:Int)(a:Bool)(O:Int)(h:z9 a (∃b,cn J 1 2 b∧b=O)<|y5 E 5 (bh m E J true O)<|y5 E 6 (bh m E J true O)<|y5 E 7 (bh m E J true O)<|y5 E 9 (bh m E J true O)<|y5 E 10 (bh m E J true O)<|y5 E 11 (bh m E J true O)<|y5 E 12 (bh m E J true O)<|y5 E 13 (bh m E J true O)<|y5 E 14 (bh m E J true O)<|bh m E J (E==15) O):gP (m+1) E J a O:=by
 intro K G;refine qBi 22 rfl rfl rfl h ?_ ?_<;>intro h;refine gR 4 I ?_;obtain⟨b,c,h⟩:=h;refine qC0 c I<|gR 6 I ?_;subst h;exact qN [.tmp 4];refine gR 8 rfl<|qBeZ 28 29 rfl rfl rfl rfl h ?_ ?_<;>intro h;exact gR 3 I<|qJ G (h K G) [];refine gR 7 rfl<|qBeZ 28 30 rfl rfl rfl rfl h ?_ ?_<;>intro h;exact gR 3 I<|qJ G (h K G) [];refine gR 7 rfl<|qBeZ 28 31 rfl rfl rfl rfl h ?_ ?_<;>intro h;exact gR 3 I<|qJ G (h K G) [];refine gR 7 rfl<|qBeZ 28 32 rfl rfl rfl rfl h ?_ ?_<;>intro h;exact gR 3 I<|qJ G (h K G) [];refine gR 7 rfl<|qBeZ 28 33 rfl rfl rfl rfl h ?_ ?_<;>intro h;exact gR 3 I<|qJ G (h K G) [];refine gR 7 rfl<|qBeZ 28 34 rfl rfl rfl rfl h ?_ ?_<;>intro h;exact gR 3 I<|qJ G (h K G) [];refine gR 7 rfl<|qBeZ 28 35 rfl rfl rfl rfl h ?_ ?_<;>intro h;exact gR 3 I<|qJ G (h K G) [];refine gR 7 rfl<|qBeZ 28 36 rfl rfl rfl rfl h ?_ ?_<;>intro h;exact gR 3 I<|qJ G (h K G) [];refine gR 7 rfl<|qBeZ 28 37 rfl rfl rfl rfl h ?_ ?_<;>intro h;exact gR 3 I<|qJ G (h K G) [];exact gR 6 I<|qJ G (h K G) []
theorem wn(m:Nat)(J E:Int)(a:Bool)(G:Int)(h:z9 a (∃b,cn E 0 1 b∧b=G)<|y5 J 16 (z8 (0<=E) (InI (E-1)∧InI (3+(max 0<|E-1))∧(3+(max 0<|E-1))=G)<|(-1)=G)<|y5 J 17 (∃c,cn E 1 0 c∧c=G)<|y5 J 18 (z8 (1<=E) (InI (1+E)∧(1+E)=G)<|(-1)=G)<|y5 J 19 (∃d,cn E 3 3 d∧d=G)<|y5 J 20 (∃e,cn E 2 4 e∧e=G)<|y5 J 21 (∃f,cn E 2 1 f∧f=G)<|(-1)=G):bh (m+1) J E a G:=by
 intro K O;refine qBi 28 rfl rfl rfl h ?_ ?_<;>intro h;refine gR 4 I ?_;obtain⟨b,g,h⟩:=h;refine qC0 g I<|gR 6 I ?_;subst h;exact qN [.tmp 4];refine gR 7 rfl<|qBeZ 41 42 rfl rfl rfl rfl h ?_ ?_<;>intro h;refine gR 7 rfl<|qBd 44 rfl rfl rfl h ?_ ?_<;>intro h;refine gR 4 I ?_;obtain⟨hb,h⟩:=h;refine gR 1 I<|gV 46 (qi (E-1)) I (al hb I) I<|gR 1 I ?_;obtain⟨hb,h⟩:=h;refine gR 1 I<|gV 48 (qi (3+(max 0 (E-1)))) I (al hb I) I<|gR 6 I ?_;subst h;exact qN [.tmp 4];refine gR 10 I ?_;subst h;exact qN [.tmp 4];refine gR 7 rfl<|qBeZ 49 50 rfl rfl rfl rfl h ?_ ?_<;>intro h;refine gR 4 I ?_;obtain⟨c,i,h⟩:=h;refine qC0 i I<|gR 6 I ?_;subst h;exact qN [.tmp 4];refine gR 7 rfl<|qBeZ 53 54 rfl rfl rfl rfl h ?_ ?_<;>intro h;refine gR 7 rfl<|qBd 56 rfl rfl rfl h ?_ ?_<;>intro h;refine gR 4 I ?_;obtain⟨hb,h⟩:=h;refine gR 1 I<|gV 58 (qi (1+E)) I (al hb I) I<|gR 6 I ?_;subst h;exact qN [.tmp 4];refine gR 10 I ?_;subst h;exact qN [.tmp 4];refine gR 7 rfl<|qBeZ 59 60 rfl rfl rfl rfl h ?_ ?_<;>intro h;refine gR 4 I ?_;obtain⟨d,j,h⟩:=h;refine qC0 j I<|gR 6 I ?_;subst h;exact qN [.tmp 4];refine gR 7 rfl<|qBeZ 63 64 rfl rfl rfl rfl h ?_ ?_<;>intro h;refine gR 4 I ?_;obtain⟨e,k,h⟩:=h;refine qC0 k I<|gR 6 I ?_;subst h;exact qN [.tmp 4];refine gR 7 rfl<|qBeZ 67 68 rfl rfl rfl rfl h ?_ ?_<;>intro h;refine gR 4 I ?_;obtain⟨f,l,h⟩:=h;refine qC0 l I<|gR 6 I ?_;subst h;exact qN [.tmp 4];refine gR 10 I ?_;subst h;exact qN [.tmp 4]
theorem yi(m:Nat)(E G O J:Int)(h:((E=G)->O=J)∧((E≠G)->(-1)=J)):cn E G O J:=by
 refine⟨I,I,?_⟩;refine qA 11 [] func184 λK U=>?_;refine gR 13 rfl<|qBe 9 rfl rfl rfl h ?_ ?_<;>intro h;refine gR 9 I ?_;subst h;exact qN [.tmp 6];refine gR 9 I ?_;subst h;exact qN [.tmp 6]
theorem vV(m:Nat)(E:Int)(G:Bool)(h:((5<=E)->decide (E<=9)=G)∧((¬5<=E)->false=G)):gW E G:=by
 refine⟨I,I,?_⟩;refine qA 9 [] func187 λK J=>?_;refine gR 10 rfl<|qBdZ 5 4 rfl rfl rfl rfl h ?_ ?_<;>intro h;refine gR 7 I ?_;subst h;exact qN [.tmp 2];refine gR 7 I ?_;subst h;exact qN [.tmp 2]
theorem ws(m:Nat)(E:Int)(G:Bool)(h:((10<=E)->((E<=22)->(E !=17)=G)∧((¬E<=22)->false=G))∧((¬10<=E)->false=G)):eu E G:=by
 refine⟨I,I,?_⟩;refine qA 13 [] func186 λK J=>?_;refine gR 10 rfl<|qBdZ 5 4 rfl rfl rfl rfl h ?_ ?_<;>intro h;refine gR 4 rfl<|qBdZ 9 8 rfl rfl rfl rfl h ?_ ?_<;>intro h;refine gR 7 I ?_;subst h;exact qN [.tmp 2];refine gR 7 I ?_;subst h;exact qN [.tmp 2];refine gR 11 I ?_;subst h;exact qN [.tmp 2]
theorem wk(m:Nat)(E:Int)(G:Bool)(h:∃a,eu E a∧((a=true)->((E≠19)->((E≠20)->(E !=21)=G)∧((E=20)->false=G))∧((E=19)->false=G))∧((a=false)->false=G)):gM E G:=by
 refine⟨I,I,?_⟩;refine qA 17 [] func183 λK J=>?_;refine gR 8 I ?_;obtain⟨a,b,h⟩:=h;refine qC0 b rfl<|gR 1 rfl<|qBiZ 5 4 rfl rfl rfl rfl h ?_ ?_<;>intro h;refine gR 4 rfl<|qBhZ 9 8 rfl rfl rfl rfl h iS eY ?_ ?_<;>intro h;refine gR 4 rfl<|qBhZ 13 12 rfl rfl rfl rfl h iS eY ?_ ?_<;>intro h;refine gR 7 I ?_;subst h;exact qN [.tmp 2];refine gR 7 I ?_;subst h;exact qN [.tmp 2];refine gR 11 I ?_;subst h;exact qN [.tmp 2];refine gR 15 I ?_;subst h;exact qN [.tmp 2]
theorem sJ(m:Nat)(E:YB)(G:Bool)(h:((E=[43])->true=G)∧((E≠[43])->((E=[45])->true=G)∧((E≠[45])->((E=[42])->true=G)∧((E≠[42])->((E=[60])->true=G)∧((E≠[60])->((E=[61,61])->true=G)∧((E≠[61,61])->false=G)))))):ic E G:=by
 refine⟨I,I,?_⟩;refine qA 10 [] func185 λK J=>?_;refine gR 19 rfl<|qBeZ 4 5 rfl rfl rfl rfl h ?_ ?_<;>intro h;refine gR 12 I ?_;subst h;exact qN [.tmp 2];refine gR 7 rfl<|qBeZ 4 6 rfl rfl rfl rfl h ?_ ?_<;>intro h;refine gR 12 I ?_;subst h;exact qN [.tmp 2];refine gR 7 rfl<|qBeZ 4 7 rfl rfl rfl rfl h ?_ ?_<;>intro h;refine gR 12 I ?_;subst h;exact qN [.tmp 2];refine gR 7 rfl<|qBeZ 4 8 rfl rfl rfl rfl h ?_ ?_<;>intro h;refine gR 12 I ?_;subst h;exact qN [.tmp 2];refine gR 6 rfl<|qBeZ 4 9 rfl rfl rfl rfl h ?_ ?_<;>intro h;refine gR 9 I ?_;subst h;exact qN [.tmp 2];refine gR 10 I ?_;subst h;exact qN [.tmp 2]
def iM(m:Nat)(E:Int)(G:YB)(a:Int)(b J:Bool):Prop:=z6 [] f157 (z3<|.bool J) (cB<|xE<|xA<|ac f157) [.blk 0,.seq<|xH<|ac f157] 51 [(1,.str G),(5,qi a),(8,qi E),(9,.bool b)] ⟨0,[]⟩
def dC(m:Nat)(E:Int)(G:YB)(a:Int)(b J:Bool):Prop:=z6 [] f157 (z3<|.bool J) (cB<|xB<|xE<|xA<|ac f157) [.blk 0,.seq<|xH<|ac f157] 51 [(1,.str G),(5,qi a),(8,qi E),(14,.bool b)] ⟨0,[]⟩
theorem tQ(m:Nat)(E:Int)(G:YB)(O:Bool)(h:∃a,yg G a∧((E=1)->iM m E G a true O)∧((E≠1)->iM m E G a (E==3) O)):jw E G O:=by
 refine⟨I,I,?_⟩;refine qA 51 [] func157 λK J=>?_;refine gR 8 I ?_;obtain⟨a,b,h⟩:=h;refine qC0 b rfl<|gR 17 rfl<|qBeZ 9 10 rfl rfl rfl rfl h ?_ ?_<;>intro h;exact gR 3 I<|qJ J (h K J) [];exact gR 6 I<|qJ J (h K J) []
theorem tG(m:Nat)(E:Int)(O:YB)(a:Int)(b J:Bool)(h:z9 b ((a==2)=J)<|y5 E 2 (dC m E O a true J)<|y5 E 4 (dC m E O a true J)<|y5 E 12 (dC m E O a true J)<|dC m E O a (E==20) J):iM (m+1) E O a b J:=by
 intro K G;refine qBi 9 rfl rfl rfl h ?_ ?_<;>intro h;refine gR 11 I ?_;subst h;exact qN [.tmp 4];refine gR 8 rfl<|qBeZ 14 15 rfl rfl rfl rfl h ?_ ?_<;>intro h;exact gR 3 I<|qJ G (h K G) [];refine gR 7 rfl<|qBeZ 14 16 rfl rfl rfl rfl h ?_ ?_<;>intro h;exact gR 3 I<|qJ G (h K G) [];refine gR 7 rfl<|qBeZ 14 17 rfl rfl rfl rfl h ?_ ?_<;>intro h;exact gR 3 I<|qJ G (h K G) [];exact gR 6 I<|qJ G (h K G) []
theorem tx(m:Nat)(G:Int)(J:YB)(a:Int)(b E:Bool)(h:z9 b ((a==1)=E)<|y5 G 9 (y5 a 2 (true=E)<|(a==4)=E)<|y5 G 16 (y5 a 1 (true=E)<|(a==3)=E)<|y5 G 10 ((a==5)=E)<|y5 G 11 ((a==6)=E)<|y5 G 21 (∃c,ic J c∧c=E)<|(J==[])=E):dC (m+1) G J a b E:=by
 intro K O;refine qBi 14 rfl rfl rfl h ?_ ?_<;>intro h;refine gR 11 I ?_;subst h;exact qN [.tmp 4];refine gR 7 rfl<|qBeZ 21 22 rfl rfl rfl rfl h ?_ ?_<;>intro h;refine gR 6 rfl<|qBeZ 25 24 rfl rfl rfl rfl h ?_ ?_<;>intro h;refine gR 9 I ?_;subst h;exact qN [.tmp 4];refine gR 9 I ?_;subst h;exact qN [.tmp 4];refine gR 7 rfl<|qBeZ 29 30 rfl rfl rfl rfl h ?_ ?_<;>intro h;refine gR 6 rfl<|qBeZ 33 32 rfl rfl rfl rfl h ?_ ?_<;>intro h;refine gR 9 I ?_;subst h;exact qN [.tmp 4];refine gR 9 I ?_;subst h;exact qN [.tmp 4];refine gR 7 rfl<|qBeZ 37 38 rfl rfl rfl rfl h ?_ ?_<;>intro h;refine gR 11 I ?_;subst h;exact qN [.tmp 4];refine gR 7 rfl<|qBeZ 41 42 rfl rfl rfl rfl h ?_ ?_<;>intro h;refine gR 11 I ?_;subst h;exact qN [.tmp 4];refine gR 7 rfl<|qBeZ 45 46 rfl rfl rfl rfl h ?_ ?_<;>intro h;refine gR 4 I ?_;obtain⟨c,d,h⟩:=h;refine qC0 d I<|gR 6 I ?_;subst h;exact qN [.tmp 4];refine gR 12 I ?_;subst h;exact qN [.tmp 4]
def jq(m:Nat)(E:Tree)(G J:Int)(a O:Bool):Prop:=z6 [] f158 (z3<|.bool O) (cB<|xC<|xE<|xA<|ac f158) [.blk 0,.seq<|xH<|ac f158] 62 [(1,qi G),(2,qi J),(12,qi E.kind),(38,.bool a)] ⟨0,[]⟩
theorem yo(m:Nat)(E:Tree)(O G:Int)(J:Bool)(h:((E.kind=1)->((G=2)->true=J)∧((G≠2)->(G==3)=J))∧((E.kind≠1)->((E.kind=2)->((O=((E.kids.length:Int)-1))->∃a,eu G a∧a=J)∧((O≠((E.kids.length:Int)-1))->((O=((E.kids.length:Int)-2))->∃b,gW G b∧b=J)∧((O≠((E.kids.length:Int)-2))->(G==4)=J)))∧((E.kind≠2)->((E.kind=3)->jq m E O G true J)∧((E.kind≠3)->((E.kind=4)->jq m E O G true J)∧((E.kind≠4)->jq m E O G (E.kind==8) J))))):nQ E O G J:=by
 refine⟨I,I,?_⟩;refine qA 62 [] func158 λK U=>?_;refine gR 3 rfl<|gFP 0 rfl rfl rfl rfl<|gR 8 rfl<|gV 10 (qi (E.kids.length:Int)) rfl (aK<|aG _) rfl<|gLB 9 rfl (aG _) λc=>gR 17 rfl<|qXeZ 13 14 rfl rfl rfl rfl h ?_ ?_<;>intro Z h;refine gR 6 rfl<|qXeZ 17 16 rfl rfl rfl rfl h ?_ ?_<;>intro Z h;refine gR 9 I ?_;subst h;exact qN [.tmp 6];refine gR 9 I ?_;subst h;exact qN [.tmp 6];refine gR 7 rfl<|qXeZ 21 22 rfl rfl rfl rfl h ?_ ?_<;>intro Z h;refine gR 12 rfl<|gV 26 (qi<|(E.kids.length:Int)-1) rfl (al (by have :=c;omega) rfl) rfl<|gR 4 rfl<|qXeZ 24 27 rfl rfl rfl rfl h ?_ ?_<;>intro Z h;refine gR 4 I ?_;obtain⟨a,d,h⟩:=h;refine qC0 d I<|gR 8 I ?_;subst h;exact qN [.tmp 6];refine gR 5 rfl<|gV 32 (qi<|(E.kids.length:Int)-2) rfl (al (by have :=c;omega) rfl) rfl<|gR 4 rfl<|qXeZ 30 33 rfl rfl rfl rfl h ?_ ?_<;>intro Z h;refine gR 4 I ?_;obtain⟨b,e,h⟩:=h;refine qC0 e I<|gR 8 I ?_;subst h;exact qN [.tmp 6];refine gR 14 I ?_;subst h;exact qN [.tmp 6];refine gR 8 rfl<|qXeZ 38 39 rfl rfl rfl rfl h ?_ ?_<;>intro Z h;exact gR 3 I<|qJ U (h K U) [];refine gR 7 rfl<|qXeZ 38 40 rfl rfl rfl rfl h ?_ ?_<;>intro Z h;exact gR 3 I<|qJ U (h K U) [];exact gR 6 I<|qJ U (h K U) []
theorem yh(m:Nat)(J:Tree)(O G:Int)(b E:Bool)(h:z9 b (∃c,gW G c∧c=E)<|y5 J.kind 16 ((G==17)=E)<|y5 J.kind 21 (∃a,gM G a∧z9 a (true=E) (y5 O 0 ((G==21)=E)<|false=E))<|∃d,eu G d∧d=E):jq (m+1) J O G b E:=by
 intro K U;refine qBi 38 rfl rfl rfl h ?_ ?_<;>intro h;refine gR 4 I ?_;obtain⟨c,e,h⟩:=h;refine qC0 e I<|gR 6 I ?_;subst h;exact qN [.tmp 6];refine gR 7 rfl<|qBeZ 44 45 rfl rfl rfl rfl h ?_ ?_<;>intro h;refine gR 11 I ?_;subst h;exact qN [.tmp 6];refine gR 7 rfl<|qBeZ 48 49 rfl rfl rfl rfl h ?_ ?_<;>intro h;refine gR 4 I ?_;obtain⟨a,f,h⟩:=h;refine qC0 f rfl<|gR 1 rfl<|qBiZ 52 51 rfl rfl rfl rfl h ?_ ?_<;>intro h;refine gR 13 I ?_;subst h;exact qN [.tmp 6];refine gR 3 rfl<|qBeZ 55 54 rfl rfl rfl rfl h ?_ ?_<;>intro h;refine gR 10 I ?_;subst h;exact qN [.tmp 6];refine gR 10 I ?_;subst h;exact qN [.tmp 6];refine gR 7 I ?_;obtain⟨d,g,h⟩:=h;refine qC0 g I<|gR 4 I ?_;subst h;exact qN [.tmp 6]
def gc(m:Nat)(E:Tree)(a:Nat)(G:Bool):Prop:=z5 m [] f109 (z3<|.bool G) (xM<|ac f109) [.blk 0,.seq<|xH<|ac f109] 45 [(1,.box (am E) 0),(3,qi (a:Int))] ⟨0,[]⟩
theorem vr(m:Nat)(p0:Tree)(r0:Bool)(h:∃a,fk p0.kind (p0.kids.length:Int) a∧((a<0)->false=r0)∧((¬a<0)->∃b,jw p0.kind p0.text b∧((b=false)->false=r0)∧((b=true)->gc m p0 0 r0))):dv p0 r0:=by
 refine⟨I,I,?_⟩;refine qA 45 [] func109 λK hK=>?_;refine gR 3 I<|gFP 0 I I I I<|gR 11 I<|gV 8 (qi (p0.kids.length:Int)) I (aK<|aG _) I<|gLB 7 I (aG _) λe=>?_;obtain⟨a,c,h⟩:=h;refine qC0 c rfl<|gR 2 rfl<|qXdZ 11 10 rfl rfl rfl rfl h ?_ ?_<;>intro hd h;refine gR 17 I ?_;subst h;exact qN [.tmp 2];refine gR 4 I ?_;obtain⟨b,d,h⟩:=h;refine qC0 d rfl<|gR 4 rfl<|qXh 18 rfl rfl rfl h bI bJ ?_ ?_<;>intro hd h;refine gR 8 I ?_;subst h;exact qN [.tmp 2];exact gR 10 I<|go_loop m<|qW hK h []
theorem oI(m:Nat)(E:Tree)(a:Nat)(G:Bool)(h:z8 (a<E.kids.length) (∃d,E.kids[a]?=some d∧∃b,nQ E (a:Int) d.kind b∧y4 b (false=G) (∃e,E.kids[a]?=some e∧∃c,dv e c∧y4 c (false=G) (gc m E (a+1) G)))<|true=G):gc (m+1) E a G:=by
 refine qj λK U O l=>?_;refine gR 7 rfl<|gV 22 (qi (E.kids.length:Int)) rfl (aK<|aG _) rfl<|gLB 21 rfl (aG _) λi=>gR 3 rfl<|qXh 23 rfl rfl rfl h bx bw ?_ ?_<;>intro J h;refine gR 6 I<|qDs [] 19 19<|qDr (qR 0 4 2 [(4,0)]) I I ?_;obtain⟨d,f,h⟩:=h;refine cc 5 I (by kernel_rfl) (ar (au f) ab I I I I) I I ?_;refine qDr [(6,0),(7,0)] I I ?_;obtain⟨b,j,h⟩:=h;refine bp 8 j (by kernel_rfl) I (by kernel_rfl) I I .rfl I I ?_;refine qDr [(9,0),(10,0)] rfl rfl<|qXhZ 36 35 rfl rfl rfl rfl h bI bJ ?_ ?_<;>intro J h;refine qDr ((11,2)::(12,2)::(qR 13 6 0 [])) I I<|qDe<|gR 10 I<|go_xloopR<|gR 2 I ?_;subst h;exact qN [.tmp 2];refine qDr [(11,2),(12,2),(13,0)] I I ?_;obtain⟨e,g,h⟩:=h;refine cc 14 I (by kernel_rfl) (ar (au g) ab I I I I) I I ?_;refine qDr [(15,0)] I I ?_;obtain⟨c,k,h⟩:=h;refine bp 16 k (by kernel_rfl) I (by kernel_rfl) I I .rfl I I ?_;refine qDr [(17,0),(18,0)] rfl rfl<|qDe<|gR 1 rfl<|qXh 44 rfl rfl rfl h bI bJ ?_ ?_<;>intro J h;refine gR 9 I<|go_xloopR<|gR 2 I ?_;subst h;exact qN [.tmp 2];exact gR 7 I<|gV 25 (qi ((a+1:Nat):Int)) I (al (by have :=i;omega)<|by omega) I<|gR 2 I<|go_xloop<|qW O h [];refine gR 3 I<|go_xloopE<|gR 8 I ?_;subst h;exact qN [.tmp 2]
end Go.Proofs.YtehhanlhfdoiaaaGreat
