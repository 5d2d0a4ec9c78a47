/- Contracts of the functions that the law reaches, part 2. -/
import Derived.Test.YtojjjmkmkbnieaaGreatSr1
set_option linter.unusedVariables false
set_option linter.unusedSimpArgs false
namespace Go.Proofs.YtojjjmkmkbnieaaGreat
open _root_.Go.Proofs.Tryz
open Go.RowKit
structure Ctx where
 w0:World
 S0:Nat→Prop
 X0:Nat→Prop
 pin:Nat→Option Value
structure Inv (K:Ctx) (S:Nat→Prop) (w:World) (ρ:Nat→Option Value) (h:Nat→Ob):Prop where
 chg:ChgP K.X0 K.w0 w
 s0:∀b,K.S0 b→S b
 s1:∀b,S b→K.S0 b∨K.X0 b∨K.w0.heap.size≤b
 ow:∀id b,own ρ id (h id) b→K.X0 b∨K.w0.heap.size≤b
 pin:∀id x,K.pin id=some x→ρ id=some x
variable{all:Array Oper}{o:Oper}
section
variable{P:Program}{T:Tab}{K:Ctx}{S S':Nat→Prop}{w w':World}{ρ ρ':Nat→Option Value}{h h':Nat→Ob}{a:Act}{n:Nat}{F:Fm}{X:Nat→Prop}
theorem Inv.eff(hi:Inv K S w ρ h)(q:Eff S w w' ρ ρ' h h' X):Inv K S w' ρ' h':=
 ⟨hi.chg.trans q.chg (λb ⟨id,_,E⟩=>hi.ow id b E),hi.s0,hi.s1,λid b E=>by
  rcases q.new id b E with⟨j,G⟩|G
  ·exact hi.ow j b G
  ·exact .inr (Nat.le_trans hi.chg.size G),λid x hx=>q.up.r _ _ (hi.pin id x hx)⟩
theorem Inv.frz(hr:HRel S w ρ h)(hi:Inv K S w ρ h)(id:Nat):Inv K (λb=>S b∨own ρ id (h id) b) w ρ (bM h id .gone):=
 ⟨hi.chg,λb q=>.inl (hi.s0 b q),λb q=>by
  rcases q with q|q
  ·exact hi.s1 b q
  ·exact .inr (hi.ow id b q),λi b q=>by
  by_cases E:i=id
  ·subst E;rw[bi]at q;exact q.elim
  ·rw[bN _ _ E]at q;exact hi.ow i b q,hi.pin⟩
theorem HRel.chg0(hr:HRel S w ρ h)(E:Chg [] w w'):HRel S w' ρ h:=by
 have up:Up S S w w' ρ ρ:=⟨λ_ h=>h,λb _ q=>E.block b q (by simp),λ_ _ h=>h⟩;refine⟨λi=>(hr.ob i).up up (λhf=>?_) (λb q=>E.block b (eo (hr.ob i) q) (by simp)),hr.sep,hr.dis,hr.slt.up up λb q=>Nat.lt_of_lt_of_le (hr.slt b q) E.size⟩;have :=hr.ob i;rw[hf]at this;exact this
theorem Up.chg0(q:Chg [] w w'):Up S S w w' ρ ρ:=⟨λ_ h=>h,λb _ E=>q.block b E (by simp),λ_ _ h=>h⟩
theorem Inv.chg0(hi:Inv K S w ρ h)(q:Chg [] w w'):Inv K S w' ρ h:=⟨hi.chg.trans (ChgP.of q) (λb E=>by simp at E),hi.s0,hi.s1,hi.ow,hi.pin⟩
theorem HRel.drop(hr:HRel S w ρ h)(J:∀i,h' i=h i∨h' i=.gone):HRel S w ρ h':=by
 have back:∀i b,own ρ i (h' i) b→own ρ i (h i) b:=λi b q=>by
  rcases J i with e|e
  ·rw[e]at q;exact q
  ·rw[e]at q;exact q.elim
 refine⟨λi=>?_,λi b q=>hr.sep i b (back i b q),λi j b E G=>hr.dis i j b (back i b E) (back j b G),hr.slt⟩;rcases J i with e|e
 ·rw[e];exact hr.ob i
 ·rw[e];trivial
theorem Inv.drop(hi:Inv K S w ρ h)(E:∀i,h' i=h i∨h' i=.gone):Inv K S w ρ h':=
 ⟨hi.chg,hi.s0,hi.s1,λi b q=>by
  rcases E i with e|e
  ·rw[e]at q;exact hi.ow i b q
  ·rw[e]at q;exact q.elim,hi.pin⟩
theorem Agree.refl:Agree S w w:=λ_ _=>rfl
theorem pZ(hr:HRel S w ρ h)(E:Eff S w w' ρ ρ' h h' X):Agree S w w':=λb q=>E.up.blk b q (hr.slt b q)
def aV(F:Fm)(all:Array Oper)(g:Option (Nat×Bool)):Option Bool:=match g with
 |none=>some true
 |some (j,b)=>match(all[j]?).bind (·.dst)with
  |some d=>match F.get d with
   |some (.bool true)=>some b
   |some (.bool false)=>some (!b)
   |some (.tup _)=>some false
   |_=>none
  |none=>none
theorem bQ(E:FRel S w ρ a n F){c:Bool}(q:aV F all o.guard=some c):Region.wanted o (yielded all a.tmps)=c:=by
 unfold aV at q;split at q
 ·rename_i G;injection q with q;subst q
  exact gq E.fr (by rw[G];rfl)
 ·rename_i j b G;split at q
  ·rename_i d hd;split at q
   ·rename_i hv;obtain⟨x,h1,h2⟩:=E.get d _ hv;simp only[VRel]at h2;subst h2;injection q with q;subst q
    cases b
    ·exact ot E.fr (by rw[G];simp only[nk,mL,hd];simp[fA,h1])
    ·exact gq E.fr (by rw[G];simp only[dn,mL,hd];simp[fA,h1])
   ·rename_i hv;obtain⟨x,h1,h2⟩:=E.get d _ hv;simp only[VRel]at h2;subst h2;injection q with q;subst q
    cases b
    ·exact gq E.fr (by rw[G];simp only[dn,mL,hd];simp[fA,h1])
    ·exact ot E.fr (by rw[G];simp only[nk,mL,hd];simp[fA,h1])
   ·rename_i hv;obtain⟨x,h1,h2⟩:=E.get d _ hv;simp only[VRel]at h2;obtain⟨xs,rfl,_⟩:=h2;injection q with q;subst q
    exact ot E.fr (by rw[G];simp only[nk,mL,hd];simp[fA,h1])
   ·cases q
  ·cases q
end
def Go(P:Program)(K:Ctx)(Q:Exit→Act→World→Prop)(p:EP)(s:List EI)(n:Nat)(F:Fm)(H:Hp):Prop:=
 ∀S w ρ a,HRel S w ρ H.get→Inv K S w ρ H.get→FRel S w ρ a n F→EP.wp P Q p s S w ρ a
def CallR (P:Program) (K:Ctx) (fid:FuncId) (vs:List V) (H:Hp) (L:List Nat) (Post:V→Hp→Prop):Prop:=
  ∀ S w ρ xs,HRel S w ρ H.get→Inv K S w ρ H.get→LRel S w ρ vs xs→Calls P fid xs.toArray w λe w'=>
    ∃x S' ρ' v H',e=.returned x∧Post v H'∧HRel S' w' ρ' H'.get∧Inv K S' w' ρ' H'.get∧Up S S' w w' ρ ρ'∧VRel S' w' ρ' v x∧Ls ρ L w w'
def vM(v:Option V):Option V:=match v with
 |some v=>some v
 |none=>some (.tup [])
variable{S:Nat→Prop}{ρ:Nat→Option Value}
variable{a:Act}
variable{v:V}
variable{l:List Oper}
variable{i:Nat}
variable{j:Nat}
variable{ed:ED}
variable{fid:FuncId}
variable{w':World}
variable{ρ':Nat→Option Value}
variable{h:Nat→Ob}
section
variable{P:Program}{T:Tab}{K:Ctx}{Q:Exit→Act→World→Prop}{s:List EI}{n:Nat}{F:Fm}{H:Hp}
theorem sr{w:World}:VRel S w ρ (.tup []) undef:=by
 simp only[VRel];exact⟨[],rfl,by simp[LRel]⟩
theorem mE{w:World}(E:FRel S w ρ a n F)(d:Option Tmp):FRel S w ρ (a.put d undef) n (F.seto d (some (.tup []))):=
 E.set d (λu q=>by injection q with q;subst q;exact sr)
theorem cj{w:World}{x:Value}(E:FRel S w ρ a n F)(d:Option Tmp)(hx:VRel S w ρ v x):FRel S w ρ (a.put d x) n (F.seto d (some v)):=
 E.set d (λu q=>by injection q with q;subst q;exact hx)
theorem Ay{x y:Code}(k:Go P K Q (.code x) (.seq y::s) n F H):Go P K Q (.code (.seq x y)) s n F H:=λS w ρ a hr hi q=>wp_seq (k S w ρ a hr hi q)
theorem uV{id:Nat}{c:Code}(k:Go P K Q (.code c) (.blk id::s) n F H):Go P K Q (.code (.block id c)) s n F H:=λS w ρ a hr hi q=>wp_block (k S w ρ a hr hi q)
theorem xw(k:Go P K Q (.ex .normal) s n F H):Go P K Q (.code .skip) s n F H:=λS w ρ a hr hi q=>wp_skip (k S w ρ a hr hi q)
theorem go_ret(k:Go P K Q (.ex .ret) s n F H):Go P K Q (.code .ret) s n F H:=λS w ρ a hr hi q=>wp_ret (k S w ρ a hr hi q)
theorem xy{id:Nat}(k:Go P K Q (.ex (.exit id)) s n F H):Go P K Q (.code (.exit id)) s n F H:=λS w ρ a hr hi q=>wp_exit (k S w ρ a hr hi q)
theorem Cs{l:Nat}(k:Go P K Q (.ex .normal) s n F H):Go P K Q (.code (.label l)) s n F H:=λS w ρ a hr hi q=>wp_label (k S w ρ a hr hi q)
theorem BL{c:Code}(k:Go P K Q (.code c) (.scp::s) n F H):Go P K Q (.code (.scope c)) s n F H:=λS w ρ a hr hi q=>wp_scope_straight (k S w ρ a hr hi q)
theorem go_loop{c:Code}(j:Nat)(k:Go P K Q (.code c) (.loop c j::s) n F H):Go P K Q (.code (.loop c)) s n F H:=λS w ρ a hr hi hF=>wp_loop_rounds (j+1) (k S w ρ a hr hi hF)
theorem vk{c:Operand}{x y:Code}(E:aF F c=some (.bool true))(k:Go P K Q (.code x) s n F H):Go P K Q (.code (.cond c x y)) s n F H:=λS w ρ a hr hi q=>qY q.fr (ly (al q E)) (k S w ρ a hr hi q)
theorem vz{c:Operand}{x y:Code}(E:aF F c=some (.bool false))(k:Go P K Q (.code y) s n F H):Go P K Q (.code (.cond c x y)) s n F H:=λS w ρ a hr hi q=>rr q.fr (ly (al q E)) (k S w ρ a hr hi q)
theorem tE{id:Nat}(k:Go P K Q (.ops l.toArray l) s n F H):Go P K Q (.code (.region id l.toArray false)) s n F H:=λS w ρ a hr hi q=>wp_region_lit (k S w ρ a hr hi q)
theorem Af(k:Go P K Q (.ex .normal) s n F H):Go P K Q (.ops all []) s n F H:=λS w ρ a hr hi q=>k S w ρ a hr hi q
theorem xV{c:Code}(k:Go P K Q (.code c) s n F H):Go P K Q (.ex .normal) (.seq c::s) n F H:=k
theorem wq{c:Code}(k:Go P K Q (.ex (.exit i)) s n F H):Go P K Q (.ex (.exit i)) (.seq c::s) n F H:=k
theorem vN{c:Code}(k:Go P K Q (.ex .ret) s n F H):Go P K Q (.ex .ret) (.seq c::s) n F H:=k
theorem go_xloop{c:Code}(k:Go P K Q (.code c) (.loop c j::s) n F H):Go P K Q (.ex .normal) (.loop c (j+1)::s) n F H:=λS w ρ a hr hi q=>k S w ρ a hr hi q
theorem go_xloopE{c:Code}(k:Go P K Q (.ex (.exit i)) s n F H):Go P K Q (.ex (.exit i)) (.loop c j::s) n F H:=k
theorem go_xloopR{c:Code}(k:Go P K Q (.ex .ret) s n F H):Go P K Q (.ex .ret) (.loop c j::s) n F H:=k
theorem uT{id:Nat}(k:Go P K Q (.ex .normal) s n F H):Go P K Q (.ex .normal) (.blk id::s) n F H:=k
theorem uQ{id:Nat}(k:Go P K Q (.ex .ret) s n F H):Go P K Q (.ex .ret) (.blk id::s) n F H:=k
theorem vZ{id:Nat}(q:Nat.beq i id=true)(k:Go P K Q (.ex .normal) s n F H):Go P K Q (.ex (.exit i)) (.blk id::s) n F H:=λS w ρ a hr hi E=>by
 have :=Nat.eq_of_beq_eq_true q;subst this;simp only[EP.wp,cR,Exit.inBlock,if_true];exact k S w ρ a hr hi E
theorem uG{id:Nat}(q:Nat.beq i id=false)(k:Go P K Q (.ex (.exit i)) s n F H):Go P K Q (.ex (.exit i)) (.blk id::s) n F H:=λS w ρ a hr hi E=>by
 simp only[EP.wp,cR,Exit.inBlock,if_neg (Nat.ne_of_beq_eq_false q)];exact k S w ρ a hr hi E
theorem Br(k:Go P K Q (.ex .normal) s n F H):Go P K Q (.ex .normal) (.scp::s) n F H:=k
theorem Bm(k:Go P K Q (.ex (.exit i)) s n F H):Go P K Q (.ex (.exit i)) (.scp::s) n F H:=k
theorem CA(k:Go P K Q (.ex .ret) s n F H):Go P K Q (.ex .ret) (.scp::s) n F H:=k
variable{all:Array Oper}{rest:List Oper}{o:Oper}
theorem zL(E:aV F all o.guard=some false)(k:Go P K Q (.ops all rest) s n (F.seto o.dst (some (.tup []))) H):Go P K Q (.ops all (o::rest)) s n F H:=λS w ρ a hr hi q=>by
 show wpList P all (cR P Q s) (o::rest) a w;unfold wpList;rw[bQ q E];simp only[Bool.false_eq_true,if_false];exact k S w ρ _ hr hi (mE q o.dst)
theorem go_opY(E:aV F all o.guard=some true)(hy:∀S w ρ a,HRel S w ρ H.get→FRel S w ρ a n F→Yld P S w ρ a o.type o.op v)(k:Go P K Q (.ops all rest) s n (F.seto o.dst (some v)) H):Go P K Q (.ops all (o::rest)) s n F H:=λS w ρ a hr hi q=>by
 show wpList P all (cR P Q s) (o::rest) a w;unfold wpList;rw[if_pos (bQ q E)];refine .inl ?_;obtain⟨x,h1,h2⟩:=hy S w ρ a hr q;obtain⟨d,op,ty,ps,af,g⟩:=o;unfold Oper.wp;rw[h2 w Agree.refl d ps af g];exact k S w ρ _ hr hi (cj q d h1)
theorem go_opP(q:TabOk P T)(E:aV F all o.guard=some true)(hv:kr T H.get F o.op=some v)(k:Go P K Q (.ops all rest) s n (F.seto o.dst (some v)) H):Go P K Q (.ops all (o::rest)) s n F H:=
 go_opY E (λS w ρ a hr G=>oZ q hr G hv) k
theorem go_opD{v:Option V}(O:aV F all o.guard=some true)(hd:∀S w ρ a,HRel S w ρ H.get→FRel S w ρ a n F→Does P S w ρ H.get a o.type o.op v (ed.app H.get H.nx) ed.tch)(U:ed.ok H.get)(k:Go P K Q (.ops all rest) s n (F.seto o.dst (vM v)) (H.app ed)):Go P K Q (.ops all (o::rest)) s n F H:=λS w ρ a hr hi G=>by
 show wpList P all (cR P Q s) (o::rest) a w;unfold wpList;rw[if_pos (bQ G O)];refine .inl ?_;obtain⟨nx,w',ρ',h1,h2,J⟩:=hd S w ρ a hr G;have q:=h2.hr;have E:=hi.eff h2;rw[←Hp.get_app U]at q E;obtain⟨d,op,ty,ps,af,g⟩:=o;unfold Oper.wp;rw[h1 d ps af g];cases v with
 |none=>
  subst J;exact k S w' ρ' _ q E (mE (G.up h2.up) d)
 |some v=>
  obtain⟨x,rfl,Z⟩:=J;exact k S w' ρ' _ q E (cj (G.up h2.up) d Z)
theorem go_opE(q:TabOk P T){v:Option V}(E:aV F all o.guard=some true)(hv:jX T H.get F H.nx o.op=some (v,ed))(k:Go P K Q (.ops all rest) s n (F.seto o.dst (vM v)) (H.app ed)):Go P K Q (.ops all (o::rest)) s n F H:=
 go_opD E (λS w ρ a hr G=>qx q hr G H.get_free hv) (nA hv) k
theorem go_opC{args:List Operand}{tys:Array TypeId}{vs:List V}{Post:V→Hp→Prop}(U:bE P fid=true)(O:o.op=.call {callee:=.value (.func fid),args:=args.toArray,argTypes:=tys})(Z:aV F all o.guard=some true)(hv:fe F args=some vs)(hC:CallR P K fid vs H [] Post)
  (k:∀v H',Post v H'→Go P K Q (.ops all rest) s n (F.seto o.dst (some v)) H'):Go P K Q (.ops all (o::rest)) s n F H:=λS w ρ a hr hi q=>by
 show wpList P all (cR P Q s) (o::rest) a w;unfold wpList;rw[if_pos (bQ q Z)];refine .inl ?_;obtain⟨xs,h1,h2⟩:=oF q hv;have hc:=hC S w ρ xs hr hi h2;obtain⟨d,op,ty,ps,af,g⟩:=o;simp only at O;subst O;have hx:(execOp a.eval ⟨d,.call {callee:=.value (.func fid),args:=args.toArray,argTypes:=tys},ty,ps,af,g⟩).run P w=.ok (.enter fid xs.toArray) w:=by
  have e:args.toArray.map a.eval=xs.toArray:=by rw[←q.fr.vals h1];simp
  simp only[execOp,resolve,e];simp[Act.eval,Deferred.ofValue,invoke,kW U]
 unfold Oper.wp;rw[hx,Oper.upon_enter];refine hc.mono λe w1 hR=>?_;obtain⟨x,S',ρ',v,H',rfl,hp,E,G,hu,J,_⟩:=hR;exact k v H' hp S' w1 ρ' _ E G (cj (q.up hu) d J)
theorem xX{id:Nat}(L:List Nat)(m sz:Nat)(hsz:l.length=sz)(E:P.follows .mixedOrders=true)(G:Region.noSelect l.toArray=true)(k:Go P K Q (.drw l.toArray L m sz (Array.replicate sz false)) s n F H):Go P K Q (.code (.region id l.toArray true)) s n F H:=λS w ρ a hr hi J=>by
 refine wp_region_noPanic (wp_region_any E (sP (B:=Agree S {w with drawn:=w.drawn+1}) (S:=Ls ρ L {w with drawn:=w.drawn+1}) (m:=m) _ _ _ _ ?_));have q:=Chg.drew w;have :=k S {w with drawn:=w.drawn+1} ρ a (hr.chg0 q) (hi.chg0 q) (J.up (Up.chg0 q)) G;subst hsz;simpa using this
variable{L:List Nat}{m left i:Nat}{listed:Array Bool}
theorem vG(hd:Region.ready .any all listed=[])(k:Go P K Q (.ex .normal) s n F H):Go P K Q (.drw all L m left listed) s n F H:=λS w ρ a hr hi E _=>by
 have q:=k S w ρ a hr hi E;cases left with
 |zero=>exact⟨hd,q⟩
 |succ left=>exact⟨λ_=>q,by rw[hd];simp⟩
theorem pa{S':Nat→Prop}{w:World}(E:∀b,S b→S' b)(h1:Agree S w w'):∀x,Agree S' w' x→Agree S w x:=λx hx b q=>(hx b (E b q)).trans (h1 b q)
theorem DL{w:World}(hρ:∀i x,ρ i=some x→ρ' i=some x)(h1:Ls ρ L w w'):∀x,Ls ρ' L w' x→Ls ρ L w x:=λx hx id hid y b hy q=>(hx id hid y b (hρ _ _ hy) q).trans (h1 id hid y b hy q)
theorem kD{S':Nat→Prop}{w:World}(E:Up S S' w w' ρ ρ')(G:Agree S w w')(q:Ls ρ L w w'∨listed.getD m false=true)(h:wpB P all (NoPanic (cR P Q s)) (Agree S' w') (Ls ρ' L w') m left listed a w'):
  Agree S w w'∧(Ls ρ L w w'∨listed.getD m false=true)∧wpB P all (NoPanic (cR P Q s)) (Agree S w) (Ls ρ L w) m left listed a w':=by
 refine⟨G,q,?_⟩;rcases q with q|q
 ·exact ry (pa E.s G) (λx _=>DL E.r q x) _ _ _ _ h
 ·
  have key:∀(fuel:Nat) (listed:Array Bool) (a:Act) (w'':World),listed.getD m false=true→wpB P all (NoPanic (cR P Q s)) (Agree S' w') (Ls ρ' L w') m fuel listed a w''→wpB P all (NoPanic (cR P Q s)) (Agree S w) (Ls ρ L w) m fuel listed a w'':=by
   intro fuel
   induction fuel with
   |zero=>intro _ _ _ _ h;exact h
   |succ fuel ih=>
    intro listed a w'' J h;exact⟨h.1,λi hi=>wpOp_mono (λa' O h'=>⟨pa E.s G _ h'.1,.inr (fz J),ih _ _ _ (fz J) h'.2.2⟩) (h.2 i hi)⟩
  exact key _ _ _ _ q h
theorem lH{w:World}:Ls ρ L w w:=λ_ _ _ _ _ _=>rfl
theorem CF(q:Nat.beq i m=false)(hi:all[i]?=some o)(hf:Region.free .any all listed i=true)(E:(Region.ready .any all listed).contains i=true)(U:aV F all o.guard=some true)(hy:∀S w ρ a,HRel S w ρ H.get→FRel S w ρ a n F→Yld P S w ρ a o.type o.op v)
  (k:Go P K Q (.drw all L m left (listed.setIfInBounds i true)) s n (F.seto o.dst (some v)) H):Go P K Q (.drw all L m (left+1) listed) s n F H:=λS w ρ a hr G J O=>by
 obtain⟨x,h1,h2⟩:=hy S w ρ a hr J;refine wpB_pure (Nat.ne_of_beq_eq_false q) hi (Region.noSelect_spec O) (λ_ _ _ h=>h.elim) left listed a w (Region.free_spec hi hf) (by simpa using E) (.inl ⟨bQ J U,λw' Z=>?_⟩) Agree.refl (.inl lH) (k S w ρ _ hr G (cj J o.dst h1) O);obtain⟨d,op,ty,ps,af,g⟩:=o;exact h2 w' Z d ps af g
theorem CX(G:TabOk P T)(q:Nat.beq i m=false)(hi:all[i]?=some o)(hf:Region.free .any all listed i=true)(E:(Region.ready .any all listed).contains i=true)(J:aV F all o.guard=some true)(hv:kr T H.get F o.op=some v)
 (k:Go P K Q (.drw all L m left (listed.setIfInBounds i true)) s n (F.seto o.dst (some v)) H):Go P K Q (.drw all L m (left+1) listed) s n F H:=CF q hi hf E J (λS w ρ a hr O=>oZ G hr O hv) k
theorem yz(q:Nat.beq i m=false)(hi:all[i]?=some o)(hf:Region.free .any all listed i=true)(E:(Region.ready .any all listed).contains i=true)(U:aV F all o.guard=some false)
  (k:Go P K Q (.drw all L m left (listed.setIfInBounds i true)) s n (F.seto o.dst (some (.tup []))) H):Go P K Q (.drw all L m (left+1) listed) s n F H:=λS w ρ a hr G J O=>
 wpB_pure (Nat.ne_of_beq_eq_false q) hi (Region.noSelect_spec O) (λ_ _ _ h=>h.elim) left listed a w (Region.free_spec hi hf) (by simpa using E) (.inr ⟨bQ J U,rfl⟩) Agree.refl (.inl lH) (k S w ρ _ hr G (mE J o.dst) O)
def ov(F:Fm)(op:Op):Option Nat:=match op with
 |.load _ x=>match aF F x with
  |some (.ptr id _)=>some id
  |some (.el id _ _ _)=>some id
  |_=>none
 |_=>none
theorem zG (hT:TabOk P T) {S:Nat→Prop} {w:World} {ρ:Nat→Option Value} {h:Nat→Ob} {a:Act} {op:Op} {ty:TypeId} {id nid:Nat} {v:V} {ed:ED} (hr:HRel S w ρ h) (hF:FRel S w ρ a n F) (hid:ov F op=some id) (hv:jX T h F nid op=some (some v,ed)):
  ∃x u b,VRel S w ρ v x∧ρ id=some u∧py u=some b∧∀w',w'.heap[b]?=w.heap[b]?→Runs P a ty op w' (.value x) w':=by
 have fr:=hF.fr;unfold ov at hid;split at hid
 ·rename_i t x;unfold jX at hv;simp only at hv;split at hid
  ·rename_i id' o' hx;injection hid with hid;subst hid
   rw[hx]at hv;simp only at hv;split at hv
   ·rename_i d hd;split at hv
    ·rename_i ho;split at hv
     ·rename_i u hu;simp only[Option.some.injEq,Prod.mk.injEq]at hv;obtain⟨rfl,rfl⟩:=hv;rcases lG (hT.ty _ _ hd) hu with⟨h1,h2⟩|⟨h1,h2,rfl⟩
      ·obtain⟨b,y,g1,g2,g3,g4⟩:=wY (P:=P) (ty:=ty) hr fr (al hF hx) ho h1 h2;exact⟨y,_,b,g3,g1,rfl,λw' hw=>g4 w' ((World.cell?_of_block (a:=⟨b,_,none⟩) hw).trans g2)⟩
      ·obtain⟨b,ys,g1,g2,g3,g4⟩:=wg (P:=P) (ty:=ty) hr fr (al hF hx) ho h1 h2;exact⟨_,_,b,by simp only[VRel];exact⟨ys,rfl,g3⟩,g1,rfl,λw' hw=>g4 w' (λj hj=>(World.cell?_of_block (a:=⟨b,_,none⟩) hw).trans (g2 j hj))⟩
     ·cases hv
    ·cases hv
   ·cases hv
  ·rename_i id' sz i' o' hx;injection hid with hid;subst hid
   rw[hx]at hv;simp only at hv;split at hv
   ·rename_i d hd;split at hv
    ·rename_i ho;split at hv
     ·rename_i hb;have :=Nat.eq_of_beq_eq_true hb;subst this;split at hv
      ·rename_i v0 hi;rw[kC]at hi;split at hv
       ·rename_i u hu;simp only[Option.some.injEq,Prod.mk.injEq]at hv;obtain⟨rfl,rfl⟩:=hv;have hbk:∀(q:Value) (b:Nat),q.ownBlock=some b→py q=some b:=λq b hq=>by
         cases q<;>first|(simp only[Value.ownBlock]at hq;cases hq;done)|skip
         rename_i A _ _;cases A<;>simp_all[Value.ownBlock,py]
        rcases lG (hT.ty _ _ hd) hu with⟨h1,h2⟩|⟨h1,h2,rfl⟩
        ·obtain⟨b,q,y,g1,g1',g2,g3,g4⟩:=uX (P:=P) (ty:=ty) hr fr (al hF hx) ho h1 hi h2;exact⟨y,q,b,g3,g1,hbk q b g1',λw' hw=>g4 w' ((World.cell?_of_block (a:=⟨b,_,none⟩) hw).trans g2)⟩
        ·obtain⟨b,q,ys,g1,g1',g2,g3,g4⟩:=tS (P:=P) (ty:=ty) hr fr (al hF hx) ho h1 hi h2;exact⟨_,q,b,by simp only[VRel];exact⟨ys,rfl,g3⟩,g1,hbk q b g1',λw' hw=>g4 w' (λj hj=>(World.cell?_of_block (a:=⟨b,_,none⟩) hw).trans (g2 j hj))⟩
       ·cases hv
      ·cases hv
     ·cases hv
    ·cases hv
   ·cases hv
  ·cases hid
 ·cases hid
theorem CH(hT:TabOk P T){v:V}{id:Nat}{ed:ED}(q:Nat.beq i m=false)(E:ja .any all m i=true)(G:listed.getD m false=false)(hi:all[i]?=some o)(hf:Region.free .any all listed i=true)(J:(Region.ready .any all listed).contains i=true)(hw:aV F all o.guard=some true)
  (hid:ov F o.op=some id) (hL:L.contains id=true) (hv:jX T H.get F H.nx o.op=some (some v,ed))
  (k:Go P K Q (.drw all L m left (listed.setIfInBounds i true)) s n (F.seto o.dst (some v)) H):Go P K Q (.drw all L m (left+1) listed) s n F H:=λS w ρ a hr O U Z=>by
 obtain⟨x,u,b,h1,h2,h3,h4⟩:=zG (ty:=o.type) hT hr U hid hv;refine Bk (Nat.ne_of_beq_eq_false q) E hi (Region.noSelect_spec Z) (λ_ _ _ h=>h.elim) left listed a w (Region.free_spec hi hf) (by simpa using J) (.inl ⟨bQ U hw,λw' hA=>?_⟩) Agree.refl lH G (k S w ρ _ hr O (cj U o.dst h1) Z);have hb:=hA.2 id (by simpa using hL) u b h2 h3;obtain⟨d,op,ty,ps,af,g⟩:=o;exact h4 w' hb d ps af g
def bV(h:Nat→Ob):List Nat→Bool
 |[]=>true
 |i::r=>match h i with
  |.var _ _=>bV h r
  |.row _ _ _=>bV h r
  |_=>false
theorem km{S:Nat→Prop}{w:World}{ρ:Nat→Option Value}{h:Nat→Ob}(hr:HRel S w ρ h):∀{L:List Nat},bV h L=true→∀id,id∈L→∀x b,ρ id=some x→py x=some b→own ρ id (h id) b
 |[],_,id,hid,x,b,hx,hb=>by simp at hid
 | j::r,hl,id,hid,x,b,hx,hb=>by
  have hown:∀o,h j=o→(∃t cs,o=.var t cs)∨(∃e sz els,o=.row e sz els)→∀x b,ρ j=some x→py x=some b→own ρ j (h j) b:=by
   rintro o ho (⟨t,cs,rfl⟩|⟨e,sz,els,rfl⟩) x b hx hb
   ·obtain⟨c,xs,g1,_⟩:=mG hr ho;rw[g1]at hx;cases hx;simp only[py,Option.some.injEq]at hb;subst hb;rw[ho];exact g1
   ·obtain⟨v,xs,g1,g2,_⟩:=gw hr ho;rw[g1]at hx;cases hx;rw[ho];refine⟨_,g1,?_⟩;obtain⟨A,c,rfl,_⟩:=ee g2;cases A<;>simp_all[Value.ownBlock,py]
  simp only[bV]at hl;rcases List.mem_cons.1 hid with e|e
  ·subst e;split at hl
   ·rename_i t cs ho;exact hown _ ho (.inl ⟨t,cs,rfl⟩) x b hx hb
   ·rename_i e sz els ho;exact hown _ ho (.inr ⟨e,sz,els,rfl⟩) x b hx hb
   ·cases hl
  ·split at hl
   ·exact km hr hl id e x b hx hb
   ·exact km hr hl id e x b hx hb
   ·cases hl
def ED.clear(L:List Nat):ED→Bool
 |.nop=>true
 |.new _=>true
 |.set id _=>!L.contains id
 |.repl id _=>!L.contains id
theorem zH{w:World}{h':Nat→Ob}(hr:HRel S w ρ h)(O:Eff S w w' ρ ρ' h h' ed.tch)(U:bV h L=true)(E:ed.clear L=true):Ls ρ L w w':=λid hid x b hx Z=>by
 have J:=km hr U id hid x b hx Z;refine O.chg.block b (eo (hr.ob id) J) ?_;rintro⟨j,q,G⟩;have e:=hr.dis j id b G J;subst e;cases ed with
 |nop=>exact q
 |new _=>exact q
 |set k _=>simp only[ED.tch]at q;subst q;simp[ED.clear]at E;exact E hid
 |repl k _=>simp only[ED.tch]at q;subst q;simp[ED.clear]at E;exact E hid
theorem sb{a b:Bool}(h:(a||b)=true):a=true∨b=true:=by simpa using h
theorem lF{S:Nat→Prop}{B:World→Prop}{Sx:World→Prop}{w:World}{Q':Exit→Act→World→Prop}(q:Region.ready .any all listed=[i])(J:wpOp P all Q' i (λa' w'=>B w'∧(Sx w'∨(listed.setIfInBounds i true).getD m false=true)∧wpB P all Q' B Sx m left (listed.setIfInBounds i true) a' w') a w):wpB P all Q' B Sx m (left+1) listed a w:=by
 refine⟨λE=>(by rw[q]at E;cases E),λj G=>?_⟩;rw[q]at G;obtain rfl:j=i:=by simpa using G
 exact J
theorem go_d1S(q:Region.ready .any all listed=[i])(hi:all[i]?=some o)(J:aV F all o.guard=some false)(k:Go P K Q (.drw all L m left (listed.setIfInBounds i true)) s n (F.seto o.dst (some (.tup []))) H):Go P K Q (.drw all L m (left+1) listed) s n F H:=λS w ρ a hr E G O=>by
 refine lF (S:=S) q ?_;unfold wpOp;simp only[hi];rw[bQ G J];simp only[Bool.false_eq_true,if_false];exact⟨Agree.refl,.inl lH,k S w ρ _ hr E (mE G o.dst) O⟩
theorem Aj(q:Region.ready .any all listed=[i])(hi:all[i]?=some o)(J:aV F all o.guard=some true)(hy:∀S w ρ a,HRel S w ρ H.get→FRel S w ρ a n F→Yld P S w ρ a o.type o.op v)
  (k:Go P K Q (.drw all L m left (listed.setIfInBounds i true)) s n (F.seto o.dst (some v)) H):Go P K Q (.drw all L m (left+1) listed) s n F H:=λS w ρ a hr E G O=>by
 refine lF (S:=S) q ?_;obtain⟨x,h1,h2⟩:=hy S w ρ a hr G;unfold wpOp;simp only[hi];rw[if_pos (bQ G J)];refine .inl ?_;have U:=k S w ρ _ hr E (cj G o.dst h1) O;obtain⟨d,op,ty,ps,af,g⟩:=o;unfold Oper.wp;rw[h2 w Agree.refl d ps af g];exact⟨Agree.refl,.inl lH,U⟩
theorem uw{v:Option V}(O:Region.ready .any all listed=[i])(hi:all[i]?=some o)(hw:aV F all o.guard=some true)(hd:∀S w ρ a,HRel S w ρ H.get→FRel S w ρ a n F→Does P S w ρ H.get a o.type o.op v (ed.app H.get H.nx) ed.tch)(hl:ed.ok H.get)
  (hc:((bV H.get L&&ed.clear L)||(listed.setIfInBounds i true).getD m false)=true) (k:Go P K Q (.drw all L m left (listed.setIfInBounds i true)) s n (F.seto o.dst (vM v)) (H.app ed)):Go P K Q (.drw all L m (left+1) listed) s n F H:=λS w ρ a hr U J Z=>by
 refine lF (S:=S) O ?_;obtain⟨nx,w',ρ',h1,h2,h3⟩:=hd S w ρ a hr J;have q:=h2.hr;have E:=U.eff h2;rw[←Hp.get_app hl]at q E;have hA:=pZ hr h2;have G:Ls ρ L w w'∨(listed.setIfInBounds i true).getD m false=true:=(sb hc).imp (λh=>by
  simp only[Bool.and_eq_true]at h;exact zH hr h2 h.1 h.2) id
 unfold wpOp;simp only[hi];rw[if_pos (bQ J hw)];refine .inl ?_;have kN:=λ(e:v=none)=>k S w' ρ' (a.put o.dst undef) q E (by subst e;exact mE (J.up h2.up) o.dst) Z;have kV:=λ(x:Value) (u:V) (e:v=some u) (hx:VRel S w' ρ' u x)=>k S w' ρ' (a.put o.dst x) q E (by subst e;exact cj (J.up h2.up) o.dst hx) Z;obtain⟨d,op,ty,ps,af,g⟩:=o;unfold Oper.wp;rw[h1 d ps af g];cases v with
 |none=>
  subst h3;exact kD h2.up hA G (kN rfl)
 |some v=>
  obtain⟨x,rfl,h4⟩:=h3;exact kD h2.up hA G (kV x v rfl h4)
theorem go_d1C{args:List Operand}{tys:Array TypeId}{vs:List V}{Post:V→Hp→Prop}{L':List Nat}(he:bE P fid=true)(E:Region.ready .any all listed=[i])(hi:all[i]?=some o)(ho:o.op=.call {callee:=.value (.func fid),args:=args.toArray,argTypes:=tys})(hw:aV F all o.guard=some true)(hv:fe F args=some vs)(hC:CallR P K fid vs H L' Post)
  (hc:L'=L∨(listed.setIfInBounds i true).getD m false=true) (k:∀v H',Post v H'→Go P K Q (.drw all L m left (listed.setIfInBounds i true)) s n (F.seto o.dst (some v)) H'):Go P K Q (.drw all L m (left+1) listed) s n F H:=λS w ρ a hr G q hs=>by
 refine lF (S:=S) E ?_;obtain⟨xs,h1,h2⟩:=oF q hv;have J:=hC S w ρ xs hr G h2;unfold wpOp;simp only[hi];rw[if_pos (bQ q hw)];refine .inl ?_;obtain⟨d,op,ty,ps,af,g⟩:=o;simp only at ho;subst ho;have hx:(execOp a.eval ⟨d,.call {callee:=.value (.func fid),args:=args.toArray,argTypes:=tys},ty,ps,af,g⟩).run P w=.ok (.enter fid xs.toArray) w:=by
  have e:args.toArray.map a.eval=xs.toArray:=by rw[←q.fr.vals h1];simp
  simp only[execOp,resolve,e];simp[Act.eval,Deferred.ofValue,invoke,kW he]
 unfold Oper.wp;rw[hx,Oper.upon_enter];refine J.mono λe w1 hR=>?_;obtain⟨x,S',ρ',v,H',rfl,hp,O,U,Z,hvr,hls⟩:=hR;have hk:=k v H' hp S' w1 ρ' _ O U (cj (q.up Z) d hvr) hs;exact kD Z (λb hb=>Z.blk b hb (hr.slt b hb)) (hc.imp (λe=>by subst e;exact hls) id) hk
end
variable{H:Hp}{fn:Func}{vs:List V}
variable{t:TypeId}{b:Nat}{cs:List V}
section
variable{P:Program}{T:Tab}{K:Ctx}{Q:Exit→Act→World→Prop}{s:List EI}{n:Nat}{F:Fm}{S S':Nat→Prop}{w w':World}{ρ ρ':Nat→Option Value}{h h1 h1' h2:Nat→Ob}{a:Act}
theorem vP(hr:HRel S w ρ h)(hi:Inv K S w ρ h)(hh1:∀i,h1 i=h i∨h1 i=.gone)(O:HRel S' w' ρ' h1')(E:Inv ⟨w,S,λb=>∃id,own ρ id (h1 id) b,ρ⟩ S' w' ρ' h1')
  (hh2:∀i,(h2 i=h1' i∨h2 i=.gone)∨(h2 i=h i∧h1 i=.gone∧h i≠.free)):
  HRel S' w' ρ' h2∧Inv K S' w' ρ' h2∧Up S S' w w' ρ ρ'∧∀L,bV h L=true→(∀id,id∈L→h1 id=.gone)→Ls ρ L w w':=by
 have h1own:∀id b,own ρ id (h1 id) b→own ρ id (h id) b:=λid b q=>by
  rcases hh1 id with e|e
  ·rw[e]at q;exact q
  ·rw[e]at q;exact q.elim
 have up:Up S S' w w' ρ ρ':=⟨E.s0,λb q hlt=>E.chg.block b hlt (λ⟨id,J⟩=>hr.sep id b (h1own id b J) q),E.pin⟩;have frame:∀i b,h1 i=.gone→own ρ i (h i) b→¬∃id,own ρ id (h1 id) b:=λi b Z J ⟨id,hid⟩=>by
  have e:=hr.dis i id b J (h1own id b hid);subst e;rw[Z]at hid;exact hid.elim
 have cases2:∀i b,own ρ' i (h2 i) b→own ρ' i (h1' i) b∨(h1 i=.gone∧own ρ i (h i) b):=λi b q=>by
  rcases hh2 i with(e|e)|⟨e,e1,e2⟩
  ·rw[e]at q;exact .inl q
  ·rw[e]at q;exact q.elim
  ·rw[e]at q;exact .inr ⟨e1,AN E.pin (hr.ob i) q⟩
 have far:∀i b,h1 i=.gone→own ρ i (h i) b→¬S' b:=λi b Z J hS=>by
  rcases E.s1 b hS with G|G|G
  ·exact hr.sep i b J G
  ·exact frame i b Z J G
  ·have :=eo (hr.ob i) J;simp only at G;omega
 have apart:∀i j b,own ρ' i (h1' i) b→h1 j=.gone→own ρ j (h j) b→False:=λi j b J Z q=>by
  rcases E.ow i b J with G|G
  ·exact frame j b Z q G
  ·have :=eo (hr.ob j) q;simp only at G;omega
 refine⟨⟨λi=>?_,λi b q=>?_,λi j b hbi hbj=>?_,O.slt⟩,⟨?_,λb q=>E.s0 b (hi.s0 b q),λb q=>?_,λi b q=>?_,λid x hx=>E.pin _ _ (hi.pin id x hx)⟩,up,λL hl Z id hid x b hx q=>?_⟩
 ·rcases hh2 i with(e|e)|⟨e,e1,e2⟩
  ·rw[e];exact O.ob i
  ·rw[e];trivial
  ·rw[e];exact(hr.ob i).up up (λhf=>absurd hf e2) (λb q=>E.chg.block b (eo (hr.ob i) q) (frame i b e1 q))
 ·rcases cases2 i b q with G|⟨G,h4⟩
  ·exact O.sep i b G
  ·exact far i b G h4
 ·rcases cases2 i b hbi with G|⟨G,h4⟩<;>rcases cases2 j b hbj with U|⟨U,h6⟩
  ·exact O.dis i j b G U
  ·exact(apart i j b G U h6).elim
  ·exact(apart j i b U G h4).elim
  ·exact hr.dis i j b h4 h6
 ·refine hi.chg.trans E.chg ?_;rintro b ⟨id,J⟩;exact hi.ow id b (h1own id b J)
 ·rcases E.s1 b q with G|⟨id,G⟩|G
  ·exact hi.s1 b G
  ·exact .inr (hi.ow id b (h1own id b G))
  ·exact .inr (.inr (Nat.le_trans hi.chg.size G))
 ·rcases cases2 i b q with G|⟨G,h4⟩
  ·rcases E.ow i b G with⟨id,U⟩|U
   ·exact hi.ow id b (h1own id b U)
   ·exact .inr (Nat.le_trans hi.chg.size U)
  ·exact hi.ow i b h4
 ·have J:=km hr hl id hid x b hx q;exact E.chg.block b (eo (hr.ob id) J) (frame id b (Z id hid) J)
def jx:Nat→List V→Fm
 |0,_=>[]
 |n+1,[]=>none::jx n []
 |n+1,v::r=>some v::jx n r
theorem qZ:∀(n:Nat) (vs:List V),(jx n vs).length=n
 |0,_=>rfl
 |n+1,[]=>by simp[jx,qZ n []]
 |n+1,v::r=>by simp[jx,qZ n r]
theorem rx:∀(n:Nat) (vs:List V) (i:Nat) (v:V),(jx n vs).get i=some v→vs[i]?=some v
 |0,_,i,v,h=>by simp[jx,Fm.get]at h
 |n+1,[],0,v,h=>by simp[jx,Fm.get]at h
 |n+1,[],i+1,v,h=>by
  have :=rx n [] i v (by simpa[jx,Fm.get]using h);simp at this
 |n+1,u::r,0,v,h=>by simpa[jx,Fm.get]using h
 |n+1,u::r,i+1,v,h=>by
  have :=rx n r i v (by simpa[jx,Fm.get]using h);simpa using this
theorem ro{c:Code}{xs:List Value}{R:Ending→World→Prop}(hf:P.funcs[fid]?=some fn)(E:fn.body=some c)(G:Nat.ble vs.length fn.ntmps=true)(hr:HRel S w ρ H.get)(hi:Inv K S w ρ H.get)(hx:LRel S w ρ vs xs)
  (k:Go P K (bodyPost P fn R) (.code c) [] fn.ntmps (jx fn.ntmps vs) H):Calls P fid xs.toArray w R:=by
 refine calls_of_wp hf E (k S w ρ _ hr hi ⟨?_,rfl,hr.slt.gl,?_,λi v hv=>?_⟩)
 ·have h1:vs.length≤fn.ntmps:=Nat.le_of_ble_eq_true G;have h2:=hx.length;simp;omega
 ·exact Nat.le_of_eq (qZ _ _)
 ·have h1:=rx _ _ _ _ hv;obtain⟨x,h2,J⟩:=hx.get h1;refine⟨x,?_,J⟩;have q:i<xs.length:=(List.getElem?_eq_some_iff.1 h2).1;show(xs.toArray++Array.replicate (fn.ntmps-xs.toArray.size) undef)[i]?=some x;rw[Array.getElem?_append_left (by simpa using q)];simpa using h2
def zc (T:Tab) (h:Nat→Ob) (F:Fm):ResultVar→Option V
 |.tmp t=>F.get t
 |.cell t ty=>match T.ty ty with
  |some d=>match F.get t with
   |some (.ptr id 0)=>match h id with
    |.var _ cs=>lQ d cs 0
    |_=>none
   |some (.box cs 0)=>lQ d cs 0
   |_=>none
  |none=>none
def mM(T:Tab)(h:Nat→Ob)(F:Fm):List ResultVar→Option (List V)
 |[]=>some []
 |x::r=>match zc T h F x with
  |some v=>match mM T h F r with
   |some vs=>some (v::vs)
   |none=>none
  |none=>none
def jY:List V→V
 |[v]=>v
 |vs=>.tup vs
theorem uH{d:TD}(td:TdOk P t d){off:Nat}{xs:List Value}(q:LRel S w ρ cs xs)(E:∀j,j<xs.length→w.cell? ⟨b,off+j,none⟩=xs[j]?)(hv:lQ d cs 0=some v):∃y,(loadVar t ⟨b,off,none⟩).run P w=.ok y w∧VRel S w ρ v y:=by
 have G:=q.length;rcases lG td hv with⟨h1,h2⟩|⟨h1,h2,rfl⟩
 ·obtain⟨y,J,O⟩:=q.get h2;have U:0<xs.length:=(List.getElem?_eq_some_iff.1 J).1;have :=tF (P:=P) (w:=w) (p:=⟨b,off,none⟩) h1 (by have :=E 0 U;rw[Nat.add_zero]at this;rw[this,J]);refine⟨y,?_,O⟩;simp only[Instr.loadAt,Instr.sureAddr]at this;simpa using this
 ·have :=pX (P:=P) (w:=w) (b:=b) (o:=off) (cs:=xs.take d.size) h1 (by simp;omega) (λj Z=>by rw[E j (by omega),List.getElem?_take,if_pos Z]);refine⟨_,?_,by simp only[VRel];exact⟨xs.take d.size,rfl,by simpa using q.take d.size⟩⟩;simp only[Instr.loadAt,Instr.sureAddr]at this;simpa using this
theorem Cb(O:TabOk P T)(hr:HRel S w ρ h)(q:FRel S w ρ a n F){x:ResultVar}(hv:zc T h F x=some v):∃y,(kQ a x).run P w=.ok y w∧VRel S w ρ v y:=by
 unfold zc at hv;split at hv
 ·rename_i t;obtain⟨y,h1,h2⟩:=q.get t v hv;exact⟨y,by simp[kQ,Array.getD_eq_getD_getElem?,h1],h2⟩
 ·rename_i t ty;split at hv
  ·rename_i d hd;split at hv
   ·rename_i id hid;split at hv
    ·rename_i U;obtain⟨b,xs,Z,g2,E⟩:=mG hr U;obtain⟨y,h1,h2⟩:=q.get t _ hid;simp only[VRel]at h2;obtain⟨b',G,rfl⟩:=h2;rw[Z]at G;simp only[Option.some.injEq,Value.pointer.injEq,Addr.mk.injEq,and_true]at G;subst G;obtain⟨z,k1,J⟩:=uH (O.ty _ _ hd) E (b:=b) (off:=0) (λj hj=>by rw[Nat.zero_add,g2.cell]) hv;exact⟨z,by simp[kQ,Array.getD_eq_getD_getElem?,h1,asAddr,k1],J⟩
    ·cases hv
   ·rename_i cs hid;obtain⟨y,h1,h2⟩:=q.get t _ hid;simp only[VRel]at h2;obtain⟨b,off,xs,rfl,_,_,E,g4⟩:=h2;obtain⟨z,k1,J⟩:=uH (O.ty _ _ hd) E (b:=b) (off:=off) g4 hv;exact⟨z,by simp[kQ,Array.getD_eq_getD_getElem?,h1,asAddr,k1],J.up up0⟩
   ·cases hv
  ·cases hv
theorem xZ(hT:TabOk P T)(hr:HRel S w ρ h)(hF:FRel S w ρ a n F):∀{l:List ResultVar} {vs:List V},mM T h F l=some vs→∃ys,(l.mapM (kQ a)).run P w=.ok ys w∧LRel S w ρ vs ys
 |[],vs,hv=>by simp only[mM,Option.some.injEq]at hv;subst hv;exact⟨[],by simp,by simp[LRel]⟩
 | x::r,vs,hv=>by
  simp only[mM]at hv;split at hv
  ·rename_i v h1;split at hv
   ·rename_i us h2;simp only[Option.some.injEq]at hv;subst hv;obtain⟨y,g1,g2⟩:=Cb hT hr hF h1;obtain⟨ys,g3,g4⟩:=xZ hT hr hF h2;exact⟨y::ys,by simp[List.mapM_cons,g1,g3],⟨y,ys,rfl,g2,g4⟩⟩
   ·cases hv
  ·cases hv
theorem xr{ys:List Value}(q:LRel S w ρ vs ys):VRel S w ρ (jY vs) (kR ys):=by
 match vs,ys,q with
 |[],ys,q=>simp only[LRel]at q;subst q;simp only[jY,kR,VRel];exact⟨[],rfl,by simp[LRel]⟩
 |[v],ys,q=>
  simp only[LRel]at q;obtain⟨x,zs,rfl,h1,rfl⟩:=q;exact h1
 |v::u::r,ys,q=>
  have E:=q;simp only[LRel]at q;obtain⟨x,zs,rfl,h1,y,zs',rfl,h2,G⟩:=q;simp only[jY,kR,VRel];exact⟨_,rfl,E⟩
theorem ret_go(J:TabOk P T){R:Ending→World→Prop}{rs:List ResultVar}{e:Exit}(O:e=.ret∨e=.normal)(q:fn.results=rs.toArray)(hr:HRel S w ρ h)(E:FRel S w ρ a n F)(hv:mM T h F rs=some vs)(U:∀x,VRel S w ρ (jY vs) x→R (.returned x) w):bodyPost P fn R e a w:=by
 obtain⟨ys,Z,h1⟩:=xZ J hr E hv;have G:bodyPost P fn R .ret a w:=by
  refine bodyPost_ret (v:=kR ys) ?_ E.defers (U _ (xr h1));have e:(Array.mapM (kQ a) rs.toArray).run P w=.ok ys.toArray w:=by rw[List.mapM_toArray];simp[Z]
  unfold results;rw[q];change ((Array.mapM (kQ a) rs.toArray)>>=λvs=>pure (if h:vs.size=1 then vs[0]else .tuple vs)).run P w=_;simp only[Sem.run_bind,e,Result.andThen_ok,Sem.run_pure]
  match ys with
  |[]=>rfl
  |[v]=>rfl
  |v::u::r=>simp[kR]
 rcases O with rfl|rfl
 ·exact G
 ·exact G
end
def yF(d:Nat):Operand→Bool
 |.tmp t=>!Nat.beq t d
 |_=>true
def nU(d:Option Tmp)(ps:List (Nat×Operand)):Bool:=match d with
 |some d=>ps.all λp=>yF d p.2
 |none=>true
def um(d e:Option Tmp):Bool:=match d,e with
 |some d,some e=>!Nat.beq d e
 |_,_=>true
variable{x:Operand}
variable{d:Option Tmp}
section
variable{P:Program}{T:Tab}{K:Ctx}{Q:Exit→Act→World→Prop}{s:List EI}{n:Nat}{F:Fm}{H:Hp}{S:Nat→Prop}{w:World}{ρ:Nat→Option Value}{a:Act}
theorem De{d:Nat}{y:Value}(h:yF d x=true):ao (fA (a.put (some d) y)) x=ao (fA a) x:=by
 cases x with
 |tmp t=>
  have q:t≠d:=λe=>by subst e;simp[yF]at h
  simp only[ao,fA,Act.put,Array.getElem?_setIfInBounds];rw[if_neg (λe=>q e.symm)]
 |_=>rfl
theorem Ai{y:Value}:∀{ps:List (Nat×Operand)},nU d ps=true→dx (fA (a.put d y)) ps=dx (fA a) ps:=by
 intro ps h;cases d with
 |none=>rfl
 | some d=>
  induction ps with
  |nil=>rfl
  |cons p r ih=>
   obtain⟨i,x⟩:=p;simp only[nU,List.all_cons,Bool.and_eq_true]at h;have ih':=ih (by simp only[nU];exact h.2);simp only[dx,De h.1,ih']
theorem gM.up{S':Nat→Prop}{w':World}{ρ':Nat→Option Value}(u:Up S S' w w' ρ ρ'):∀{vs:List (Nat×V)} {ys:List (Nat×Value)},gM S w ρ vs ys→gM S' w' ρ' vs ys
 |[],ys,h=>h
 |(i,v)::r,ys,h=>by
  simp only[gM]at h⊢;obtain⟨x,zs,h1,h2,q⟩:=h;exact⟨x,zs,h1,h2.up u,gM.up u q⟩
theorem AS{e:Option Tmp}{v u:Option V}(h:um d e=true):(F.seto d v).seto e u=(F.seto e u).seto d v:=by
 cases d with
 |none=>rfl
 |some d=>cases e with
  |none=>rfl
  |some e=>
   have :d≠e:=λx=>by subst x;simp[um]at h
   simp only[Fm.seto];exact List.set_comm _ _ this
theorem zO(hd:∀t,d=some t→F.get t=none)(q:FRel S w ρ a n (F.seto d (some v))):FRel S w ρ a n F:=by
 cases d with
 |none=>exact q
 |some d=>
  refine⟨q.size,q.defers,q.gl,by have :=q.len;simpa[Fm.seto]using this,λi u E=>q.get i u ?_⟩;have G:d≠i:=λe=>by subst e;rw[hd d rfl]at E;cases E
  rw[Fm.get_eq]at E⊢;simp only[Fm.seto,List.getElem?_set,if_neg G];exact E
variable{all:Array Oper}{L:List Nat}{m left i:Nat}{listed:Array Bool}{o:Oper}
def GoP (P:Program) (K:Ctx) (Q:Exit→Act→World→Prop) (all:Array Oper) (L:List Nat) (m left:Nat) (listed:Array Bool) (s:List EI) (n:Nat) (F:Fm) (H:Hp) (i:Nat) (o:Oper) (ps:List (Nat×Operand)) (vs:List (Nat×V)) (v:V):Prop:=
  ∀ S w ρ a,HRel S w ρ H.get→Inv K S w ρ H.get→Region.noSelect all=true→
    (FRel S w ρ a n F→(∃ys,dx (fA a) ps=some ys∧gM S w ρ vs ys)→wpB P all (NoPanic (cR P Q s)) (Agree S w) (Ls ρ L w) m (left+1) listed a w)∧
    (FRel S w ρ a n (F.seto o.dst (some v))→wpB P all (NoPanic (cR P Q s)) (Agree S w) (Ls ρ L w) m left (listed.setIfInBounds i true) a w)
theorem zX{ps:List (Nat×Operand)}{vs:List (Nat×V)}(hv:jE F ps=some vs)(k:GoP P K Q all L m left listed s n (F.seto o.dst none) H i o ps vs v):Go P K Q (.drw all L m (left+1) listed) s n F H:=λS w ρ a hr hi q G=>by
 obtain⟨ys,h1,h2⟩:=ma q hv;refine(k S w ρ a hr hi G).1 ?_ ⟨ys,h1,h2⟩;refine⟨q.size,q.defers,q.gl,?_,λj u E=>?_⟩
 ·cases hd:o.dst with
  |none=>exact q.len
  |some d=>have :=q.len;simpa[Fm.seto]using this
 ·cases hd:o.dst with
  |none=>rw[hd]at E;exact q.get j u E
  |some d=>
   rw[hd,Fm.get_eq]at E;simp only[Fm.seto,List.getElem?_set]at E;split at E
   ·split at E<;>simp at E
   ·exact q.get j u (by rw[Fm.get_eq];exact E)
theorem qr(E:Chg [] w w'):Up S (λc=>S c∨c=b) w w' ρ ρ:=⟨λ_ h=>.inl h,λc _ q=>E.block c q (by simp),λ_ _ h=>h⟩
theorem Aq(hr:HRel S w ρ h)(E:Chg [] w w')(J:b=w.heap.size)(G:b<w'.heap.size):HRel (λc=>S c∨c=b) w' ρ h:=by
 refine⟨λi=>(hr.ob i).up (qr E) (λhf=>?_) (λc q=>E.block c (eo (hr.ob i) q) (by simp)),λi c q=>?_,hr.dis,hr.slt.up (qr (ρ:=ρ) E) λc q=>?_⟩
 ·have :=hr.ob i;rw[hf]at this;exact this
 ·rintro(h1|h1)
  ·exact hr.sep i c q h1
  ·have :=eo (hr.ob i) q;omega
 ·rcases q with h1|h1
  ·exact Nat.lt_of_lt_of_le (hr.slt c h1) E.size
  ·omega
theorem BE(hi:Inv K S w ρ h)(E:Chg [] w w')(J:b=w.heap.size):Inv K (λc=>S c∨c=b) w' ρ h:=by
 have G:=hi.chg0 E;refine⟨G.chg,λc q=>.inl (hi.s0 c q),λc q=>?_,hi.ow,hi.pin⟩;rcases q with h1|h1
 ·exact hi.s1 c h1
 ·have :=hi.chg.size;exact .inr (.inr (by omega))
theorem wC{t e:TypeId}{ps:List (Nat×Operand)}{vs:List (Nat×V)}{ys:List (Nat×Value)}{d:TD}{k:Nat}{ty:TypeId}{els:List V}(O:TabOk P T)(hr:HRel S w ρ h)(hi:Inv K S w ρ h)(fr:Fr a n (fA a))(q:dx (fA a) ps=some ys)(U:gM S w ρ vs ys)
  {x1 x2:Nat} {x3:V} (ht:T.ty t=some ⟨x1,x2,x3,.sl e⟩) (he:T.ty e=some d) (hp:iS d.size 0 vs=some els) (hb:(Nat.beq els.length k&&Nat.ble (k*d.size) 16777216&&Nat.ble k 16777216&&pureL els)=true):
  ∃x S' w',Runs P a ty (.buildSlice t k ps.toArray) w (.value x) w'∧HRel S' w' ρ h∧Inv K S' w' ρ h∧Up S S' w w' ρ ρ∧Chg [] w w'∧VRel S' w' ρ (.row d.size els) x:=by
 simp only[Bool.and_eq_true,Nat.beq_eq]at hb;obtain⟨⟨⟨hl,Z⟩,hm⟩,hpu⟩:=hb;have hmm:k≤16777216:=Nat.le_of_ble_eq_true hm;obtain⟨z,hz1,hz2⟩:=(O.ty _ _ he).zeroT;obtain⟨h1,h2,h3⟩:=nH U hp;have E:ps.map (·.1)=List.range k:=by
  have :ps.map (·.1)=ys.map (·.1):=by rw[←fr.parts q];simp
  rw[this,h1,hl,List.range_eq_range']
 obtain⟨w',b,g1,g2,G,g4,g5⟩:=tQ (P:=P) (t:=t) (m:=k) fr q ((O.ty _ _ ht).sl rfl) (O.ty _ _ he).size hz1 E h2 Z rfl w ty;have J:=h3.length;refine⟨_,λc=>S c∨c=b,w',g1,Aq hr G g4 g5,BE hi G g4,qr G,G,?_⟩;simp only[VRel];refine⟨some ⟨b,0,none⟩,k,_,by rw[hl],by omega,by simp only[maxLen];omega,(h3.up (qr G)).pure hpu,J,λ_=>⟨b,0,rfl,.inr rfl,g5,λj hj=>by rw[Nat.zero_add,g2.cell]⟩⟩
def nu (T:Tab) (all:Array Oper) (i:Nat) (vs:List (Nat×V)):Option (Oper×List (Nat×Operand)×V):=match all[i]? with
 |some ⟨dst,.buildSlice t k ⟨ps⟩,ty,pp,af,none⟩=>match T.ty t with
  |some ⟨_,_,_,.sl e⟩=>match T.ty e with
   |some d=>match iS d.size 0 vs with
    |some els=>match Nat.beq els.length k&&Nat.ble (k*d.size) 16777216&&Nat.ble k 16777216&&pureL els with
     |true=>ey d.size λsz=>some (⟨dst,.buildSlice t k ⟨ps⟩,ty,pp,af,none⟩,ps,.row sz els)
     |false=>none
    |none=>none
   |none=>none
  |_=>none
 |_=>none
variable{ps:List (Nat×Operand)}{vs:List (Nat×V)}{v:V}
theorem tM(hT:TabOk P T)(q:nu T all i vs=some (o,ps,v))(hr:HRel S w ρ H.get)(G:Inv K S w ρ H.get)(J:FRel S w ρ a n F){ys:List (Nat×Value)}(O:dx (fA a) ps=some ys)(U:gM S w ρ vs ys)(hs:Region.noSelect all=true)
  (Z:(bV H.get L||(listed.setIfInBounds i true).getD m false)=true)
  (D:∀S w ρ a,HRel S w ρ H.get→Inv K S w ρ H.get→FRel S w ρ a n (F.seto o.dst (some v))→wpB P all (NoPanic (cR P Q s)) (Agree S w) (Ls ρ L w) m left (listed.setIfInBounds i true) a w):
  wpOp P all (NoPanic (cR P Q s)) i (λa' w'=>Agree S w w'∧(Ls ρ L w w'∨(listed.setIfInBounds i true).getD m false=true)∧wpB P all (NoPanic (cR P Q s)) (Agree S w) (Ls ρ L w) m left (listed.setIfInBounds i true) a' w') a w:=by
 unfold nu at q;split at q
 ·rename_i dst t k ps' ty pp af hi;split at q
  ·rename_i e ht;split at q
   ·rename_i d he;split at q
    ·rename_i els hrp;split at q
     ·rename_i E;rw[cz]at q;simp only[Option.some.injEq,Prod.mk.injEq]at q;obtain⟨rfl,rfl,rfl⟩:=q;obtain⟨x,S',w',g1,g2,g3,g4,g5,g6⟩:=wC (ty:=ty) hT hr G J.fr O U ht he hrp E;unfold wpOp;simp only[hi];rw[if_pos (bQ J (o:=⟨dst,.buildSlice t k ⟨ps'⟩,ty,pp,af,none⟩) rfl)];refine .inl ?_;have hk:=D S' w' ρ _ g2 g3 (cj (J.up g4) dst g6);unfold Oper.wp;rw[g1 dst pp af none];refine kD g4 (λb E=>g5.block b (hr.slt b E) (by simp)) ((sb Z).imp (λZ id hid x b hx E=>?_) id) hk;exact g5.block b (eo (hr.ob id) (km hr Z id hid x b hx E)) (by simp)
     ·cases q
    ·cases q
   ·cases q
  ·cases q
 ·cases q
theorem Dy(Z:TabOk P T)(hp:nu T all i vs=some (o,ps,v))(G:Region.ready .any all listed=[i])(hl:(bV H.get L||(listed.setIfInBounds i true).getD m false)=true)
  (kk:Go P K Q (.drw all L m left (listed.setIfInBounds i true)) s n (F.seto o.dst (some v)) H):GoP P K Q all L m left listed s n F H i o ps vs v:=λS w ρ a hr q J=>by
 refine⟨λE ⟨ys,O,U⟩=>lF (S:=S) G (tM Z hp hr q E O U J hl λS w ρ a hr q E=>kk S w ρ a hr q E J),λE=>kk S w ρ a hr q E J⟩
theorem xp{B Sx:World→Prop}{Q':Exit→Act→World→Prop}(q:(match Region.ready .any all listed with|[x,y]=>(Nat.beq x i&&Nat.beq y j)||(Nat.beq x j&&Nat.beq y i)|_=>false)=true)
  (h1:wpOp P all Q' i (λa' w'=>B w'∧(Sx w'∨(listed.setIfInBounds i true).getD m false=true)∧wpB P all Q' B Sx m left (listed.setIfInBounds i true) a' w') a w)
  (h2:wpOp P all Q' j (λa' w'=>B w'∧(Sx w'∨(listed.setIfInBounds j true).getD m false=true)∧wpB P all Q' B Sx m left (listed.setIfInBounds j true) a' w') a w):wpB P all Q' B Sx m (left+1) listed a w:=by
 split at q
 ·rename_i x y hr;refine⟨λG=>(by rw[hr]at G;cases G),λc E=>?_⟩;rw[hr]at E;simp only[Bool.or_eq_true,Bool.and_eq_true,Nat.beq_eq]at q;simp only[List.mem_cons,List.not_mem_nil,or_false]at E;rcases q with⟨rfl,rfl⟩|⟨rfl,rfl⟩
  ·rcases E with rfl|rfl
   ·exact h1
   ·exact h2
  ·rcases E with rfl|rfl
   ·exact h2
   ·exact h1
 ·cases q
theorem BO(hT:TabOk P T)(hp:nu T all i vs=some (o,ps,v)){oj:Oper}(hj:all[j]?=some oj)(hrd:(match Region.ready .any all listed with|[x,y]=>(Nat.beq x i&&Nat.beq y j)||(Nat.beq x j&&Nat.beq y i)|_=>false)=true)(U:Region.ready .any all (listed.setIfInBounds i true)=[j])
  (hl:(bV H.get L||(listed.setIfInBounds i true).getD m false)=true) (hd:∀t,o.dst=some t→F.get t=none) (hne:um o.dst oj.dst=true) (hpn:nU oj.dst ps=true) (hcomm:(listed.setIfInBounds i true).setIfInBounds j true=(listed.setIfInBounds j true).setIfInBounds i true)
  {Post:V→Hp→Prop}
  (hx:∀S w ρ a,HRel S w ρ H.get→Inv K S w ρ H.get→FRel S w ρ a n F→∀(K2:Act→World→Prop),(∀x S' w' ρ' u H',Post u H'→HRel S' w' ρ' H'.get→Inv K S' w' ρ' H'.get→Up S S' w w' ρ ρ'→Agree S w w'→(Ls ρ L w w'∨((listed.setIfInBounds j true).getD m false=true∧((listed.setIfInBounds j true).setIfInBounds i true).getD m false=true))→VRel S' w' ρ' u x→K2 (a.put oj.dst x) w')→wpOp P all (NoPanic (cR P Q s)) j K2 a w)
  (kk:∀u H',Post u H'→GoP P K Q all L m left (listed.setIfInBounds j true) s n (F.seto oj.dst (some u)) H' i o ps vs v):GoP P K Q all L m (left+1) listed s n F H i o ps vs v:=λS w ρ a hr q hs=>by
 have D:∀S w ρ a,HRel S w ρ H.get→Inv K S w ρ H.get→FRel S w ρ a n (F.seto o.dst (some v))→wpB P all (NoPanic (cR P Q s)) (Agree S w) (Ls ρ L w) m (left+1) (listed.setIfInBounds i true) a w:=λS w ρ a hr q J=>by
  refine lF (S:=S) U ?_;refine hx S w ρ a hr q (zO hd J) _ λx S' w' ρ' u H' hP E G O hA hL hv=>?_;rw[hcomm];refine kD O hA (hL.imp id (·.2)) ((kk u H' hP S' w' ρ' _ E G hs).2 ?_);rw[←AS hne];exact cj (J.up O) oj.dst hv
 refine⟨λJ ⟨ys,Z,hpr⟩=>?_,D S w ρ a hr q⟩;refine xp hrd (tM hT hp hr q J Z hpr hs hl D) ?_;refine hx S w ρ a hr q J _ λx S' w' ρ' u H' hP E G O hA hL hv=>?_;refine kD O hA (hL.imp id (·.1)) ((kk u H' hP S' w' ρ' _ E G hs).1 (cj (J.up O) oj.dst hv) ⟨ys,?_,hpr.up O⟩);rw[Ai hpn];exact Z
end
section
variable{P:Program}{T:Tab}{K:Ctx}{Q:Exit→Act→World→Prop}{s:List EI}{n:Nat}{F:Fm}{H:Hp}
def nq (P:Program) (K:Ctx) (o:Oper) (L:List Nat) (ok:Bool) (n:Nat) (F:Fm) (H:Hp) (u:V) (H':Hp):Prop:=
  ∀ S w ρ a,HRel S w ρ H.get→Inv K S w ρ H.get→FRel S w ρ a n F→∀(Q':Exit→Act→World→Prop) (K2:Act→World→Prop),
    (∀x S' w' ρ',HRel S' w' ρ' H'.get→Inv K S' w' ρ' H'.get→Up S S' w w' ρ ρ'→Agree S w w'→(Ls ρ L w w'∨ok=true)→VRel S' w' ρ' u x→K2 (a.put o.dst x) w')→o.wp P a w K2 Q'
theorem Ab(q:TabOk P T){L:List Nat}{ok:Bool}(hv:kr T H.get F o.op=some v):nq P K o L ok n F H v H:=λS w ρ a hr hi E Q' K2 k=>by
 obtain⟨x,h1,h2⟩:=oZ (ty:=o.type) q hr E hv;have :=k x S w ρ hr hi Up.refl Agree.refl (.inl lH) h1;obtain⟨d,op,ty,ps,af,g⟩:=o;unfold Oper.wp;rw[h2 w Agree.refl d ps af g];exact this
theorem oV(O:TabOk P T){L:List Nat}{ok:Bool}{v:Option V}(hv:jX T H.get F H.nx o.op=some (v,ed))(U:((bV H.get L&&ed.clear L)||ok)=true):nq P K o L ok n F H (v.getD (.tup [])) (H.app ed):=λS w ρ a hr hi Z Q' K2 k=>by
 obtain⟨nx,w',ρ',h1,h2,J⟩:=qx (ty:=o.type) O hr Z H.get_free hv;have q:=h2.hr;have E:=hi.eff h2;rw[←Hp.get_app (nA hv)]at q E;have G:Ls ρ L w w'∨ok=true:=(sb U).imp (λh=>by
  simp only[Bool.and_eq_true]at h;exact zH hr h2 h.1 h.2) id
 have kk:=λx hx=>k x S w' ρ' q E h2.up (pZ hr h2) G hx;obtain⟨d,op,ty,ps,af,g⟩:=o;unfold Oper.wp;rw[h1 d ps af g];cases v with
 |none=>
  subst J;exact kk undef sr
 |some v=>
  obtain⟨x,rfl,h4⟩:=J;exact kk x h4
theorem lS{L:List Nat}{ok:Bool}{args:List Operand}{tys:Array TypeId}{vs:List V}{u:V}{H':Hp}{L':List Nat}(he:bE P fid=true)(U:o.op=.call {callee:=.value (.func fid),args:=args.toArray,argTypes:=tys})(hv:fe F args=some vs)(hC:CallR P K fid vs H L' (λu' H''=>u'=u∧H''=H'))(hL:L'=L∨ok=true):nq P K o L ok n F H u H':=λS w ρ a hr hi Z Q' K2 k=>by
 obtain⟨xs,h1,h2⟩:=oF Z hv;have q:=hC S w ρ xs hr hi h2;obtain⟨d,op,ty,ps,af,g⟩:=o;simp only at U;subst U;have hx:(execOp a.eval ⟨d,.call {callee:=.value (.func fid),args:=args.toArray,argTypes:=tys},ty,ps,af,g⟩).run P w=.ok (.enter fid xs.toArray) w:=by
  have e:args.toArray.map a.eval=xs.toArray:=by rw[←Z.fr.vals h1];simp
  simp only[execOp,resolve,e];simp[Act.eval,Deferred.ofValue,invoke,kW he]
 unfold Oper.wp;rw[hx,Oper.upon_enter];refine q.mono λe w1 hR=>?_;obtain⟨x,S',ρ',v,H'',rfl,⟨rfl,rfl⟩,E,G,hu,J,O⟩:=hR;exact k x S' w1 ρ' E G hu (λb hb=>hu.blk b hb (hr.slt b hb)) (hL.imp (λe=>by subst e;exact O) id) J
theorem oz{L:List Nat}{m left:Nat}{listed:Array Bool}{oi oj:Oper}{ui uj:V}{Hi Hj:Hp}(U:(match Region.ready .any all listed with|[x,y]=>(Nat.beq x i&&Nat.beq y j)||(Nat.beq x j&&Nat.beq y i)|_=>false)=true)(hi:all[i]?=some oi)(hj:all[j]?=some oj)(Z:aV F all oi.guard=some true)(hwj:aV F all oj.guard=some true)
  (xi:nq P K oi L ((listed.setIfInBounds i true).getD m false) n F H ui Hi) (xj:nq P K oj L ((listed.setIfInBounds j true).getD m false) n F H uj Hj)
  (ki:Go P K Q (.drw all L m left (listed.setIfInBounds i true)) s n (F.seto oi.dst (some ui)) Hi) (kj:Go P K Q (.drw all L m left (listed.setIfInBounds j true)) s n (F.seto oj.dst (some uj)) Hj):Go P K Q (.drw all L m (left+1) listed) s n F H:=λS w ρ a hr J G hs=>by
 refine xp U ?_ ?_
 ·unfold wpOp;simp only[hi];rw[if_pos (bQ G Z)];exact .inl (xi S w ρ a hr J G _ _ λx S' w' ρ' q E O hA hL hv=>kD O hA hL (ki S' w' ρ' _ q E (cj (G.up O) oi.dst hv) hs))
 ·unfold wpOp;simp only[hj];rw[if_pos (bQ G hwj)];exact .inl (xj S w ρ a hr J G _ _ λx S' w' ρ' q E O hA hL hv=>kD O hA hL (kj S' w' ρ' _ q E (cj (G.up O) oj.dst hv) hs))
end
def atN:List Nat→Nat→Option Nat
 |[],_=>none
 |x::_,0=>some x
 |_::r,i+1=>atN r i
theorem kZ:∀(l:List Nat) (i:Nat),atN l i=l[i]?
 |[],i=>by simp[atN]
 |x::r,0=>by simp[atN]
 |x::r,i+1=>by simp[atN,kZ r i]
abbrev yV:V:=.raw (.agg #[])
mutual
def V.ren(σ:List Nat):V→V
 |.ptr id o=>match atN σ id with
  |some j=>.ptr j o
  |none=>yV
 |.el id sz i o=>match atN σ id with
  |some j=>.el j sz i o
  |none=>yV
 |.sl id=>match atN σ id with
  |some j=>.sl j
  |none=>yV
 |.np id=>match atN σ id with
  |some j=>.np j
  |none=>.nilp
 |.agg cs=>.agg (renL σ cs)
 |.tup cs=>.tup (renL σ cs)
 |.clo fid cs=>.clo fid (renL σ cs)
 |.int k n=>.int k n
 |.bool b=>.bool b
 |.str l=>.str l
 |.nilp=>.nilp
 |.nils=>.nils
 |.raw x=>.raw x
 |.box cs o=>.box cs o
 |.row sz els=>.row sz els
 |.lk els=>.lk els
def renL(σ:List Nat):List V→List V
 |[]=>[]
 |v::r=>v.ren σ::renL σ r
end
def Ob.ren(σ:List Nat):Ob→Ob
 |.var t cs=>.var t (renL σ cs)
 |.row e sz els=>.row e sz (renL σ els)
 |o=>o
def dK(σ:List Nat)(ρ:Nat→Option Value):Nat→Option Value:=λj=>match atN σ j with
 |some i=>ρ i
 |none=>none
section
variable{S:Nat→Prop}{w:World}{ρ:Nat→Option Value}{σ:List Nat}
theorem uB{x:Value}(h:VRel S w ρ yV x):False:=by simp only[VRel,Value.oneCell']at h;exact absurd h.2 (by simp)
mutual
theorem VRel.ren:∀{v:V} {x:Value},VRel S w ρ (v.ren σ) x→VRel S w (dK σ ρ) v x
 |.int _ _,x,h=>by simp only[V.ren,VRel]at h⊢;exact h
 |.bool _,x,h=>by simp only[V.ren,VRel]at h⊢;exact h
 |.str _,x,h=>by simp only[V.ren,VRel]at h⊢;exact h
 |.nilp,x,h=>by simp only[V.ren,VRel]at h⊢;exact h
 |.nils,x,h=>by simp only[V.ren,VRel]at h⊢;exact h
 |.raw _,x,h=>by simp only[V.ren,VRel]at h⊢;exact h
 |.box _ _,x,h=>by simp only[V.ren,VRel]at h⊢;exact h
 |.row _ _,x,h=>by simp only[V.ren,VRel]at h⊢;exact h
 |.lk _,x,h=>by simp only[V.ren,VRel]at h⊢;exact h
 | .ptr id o,x,h=>by
  simp only[V.ren]at h;split at h
  ·rename_i j hj;simp only[VRel]at h⊢;obtain⟨b,h1,h2⟩:=h;exact⟨b,by simp only[dK,hj];exact h1,h2⟩
  ·exact(uB h).elim
 | .el id sz i o,x,h=>by
  simp only[V.ren]at h;split at h
  ·rename_i j hj;simp only[VRel]at h⊢;obtain⟨b,n,c,h1,h2⟩:=h;exact⟨b,n,c,by simp only[dK,hj];exact h1,h2⟩
  ·exact(uB h).elim
 | .sl id,x,h=>by
  simp only[V.ren]at h;split at h
  ·rename_i j hj;simp only[VRel]at h⊢;exact⟨by simp only[dK,hj];exact h.1,h.2⟩
  ·exact(uB h).elim
 | .np id,x,h=>by
  simp only[V.ren]at h;split at h
  ·rename_i j hj;simp only[VRel]at h⊢;exact h.imp_right λ⟨b,h1,h2⟩=>⟨b,by simp only[dK,hj];exact h1,h2⟩
  ·simp only[VRel]at h⊢;exact .inl h
 |.agg cs,x,h=>by
  simp only[V.ren,VRel]at h⊢;obtain⟨xs,h1,h2⟩:=h;exact⟨xs,h1,LRel.ren h2⟩
 |.tup cs,x,h=>by
  simp only[V.ren,VRel]at h⊢;obtain⟨xs,h1,h2⟩:=h;exact⟨xs,h1,LRel.ren h2⟩
 |.clo fid cs,x,h=>by
  simp only[V.ren,VRel]at h⊢;obtain⟨xs,h1,h2⟩:=h;exact⟨xs,h1,LRel.ren h2⟩
theorem LRel.ren:∀{v:List V} {x:List Value},LRel S w ρ (renL σ v) x→LRel S w (dK σ ρ) v x
 |[],x,h=>by simp only[renL,LRel]at h⊢;exact h
 |v::r,x,h=>by
  simp only[renL,LRel]at h⊢;obtain⟨y,ys,h1,h2,h3⟩:=h;exact⟨y,ys,h1,VRel.ren h2,LRel.ren h3⟩
end
theorem rU:∀(l:List V),(renL σ l).length=l.length
 |[]=>by simp[renL]
 |v::r=>by simp[renL,rU r]
theorem CRel.ren{sz:Nat}:∀{v:List V} {x:List Value},CRel S w ρ sz (renL σ v) x→CRel S w (dK σ ρ) sz v x
 |[],x,h=>by simp only[renL,CRel]at h⊢;exact h
 |v::r,x,h=>by
  simp only[renL,CRel]at h⊢;obtain⟨y,ys,h1,h2,q,E⟩:=h;exact⟨y,ys,h1,h2,VRel.ren q,CRel.ren E⟩
mutual
theorem VRel.bwd{ρ':Nat→Option Value}(hσ:∀j x,ρ j=some x→∃i,atN σ j=some i∧ρ' i=some x):∀{v:V} {x:Value},VRel S w ρ v x→VRel S w ρ' (v.ren σ) x
 |.int _ _,x,h=>by simp only[V.ren,VRel]at h⊢;exact h
 |.bool _,x,h=>by simp only[V.ren,VRel]at h⊢;exact h
 |.str _,x,h=>by simp only[V.ren,VRel]at h⊢;exact h
 |.nilp,x,h=>by simp only[V.ren,VRel]at h⊢;exact h
 |.nils,x,h=>by simp only[V.ren,VRel]at h⊢;exact h
 |.raw _,x,h=>by simp only[V.ren,VRel]at h⊢;exact h
 |.box _ _,x,h=>by simp only[V.ren,VRel]at h⊢;exact h
 |.row _ _,x,h=>by simp only[V.ren,VRel]at h⊢;exact h
 |.lk _,x,h=>by simp only[V.ren,VRel]at h⊢;exact h
 |.ptr id o,x,h=>by
  simp only[VRel]at h;obtain⟨b,h1,h2⟩:=h;obtain⟨i,h3,h4⟩:=hσ _ _ h1;simp only[V.ren,h3,VRel];exact⟨b,h4,h2⟩
 |.el id sz i o,x,h=>by
  simp only[VRel]at h;obtain⟨b,n,c,h1,h2⟩:=h;obtain⟨i',h3,h4⟩:=hσ _ _ h1;simp only[V.ren,h3,VRel];exact⟨b,n,c,h4,h2⟩
 |.sl id,x,h=>by
  simp only[VRel]at h;obtain⟨i,h3,h4⟩:=hσ _ _ h.1;simp only[V.ren,h3,VRel];exact⟨h4,h.2⟩
 | .np id,x,h=>by
  simp only[VRel]at h;rcases h with h|⟨b,h1,h2⟩
  ·simp only[V.ren];split
   ·simp only[VRel];exact .inl h
   ·simp only[VRel];exact h
  ·obtain⟨i,h3,h4⟩:=hσ _ _ h1;simp only[V.ren,h3,VRel];exact .inr ⟨b,h4,h2⟩
 |.agg cs,x,h=>by
  simp only[V.ren,VRel]at h⊢;obtain⟨xs,h1,h2⟩:=h;exact⟨xs,h1,LRel.bwd hσ h2⟩
 |.tup cs,x,h=>by
  simp only[V.ren,VRel]at h⊢;obtain⟨xs,h1,h2⟩:=h;exact⟨xs,h1,LRel.bwd hσ h2⟩
 |.clo fid cs,x,h=>by
  simp only[V.ren,VRel]at h⊢;obtain⟨xs,h1,h2⟩:=h;exact⟨xs,h1,LRel.bwd hσ h2⟩
theorem LRel.bwd{ρ':Nat→Option Value}(hσ:∀j x,ρ j=some x→∃i,atN σ j=some i∧ρ' i=some x):∀{v:List V} {x:List Value},LRel S w ρ v x→LRel S w ρ' (renL σ v) x
 |[],x,h=>by simp only[renL,LRel]at h⊢;exact h
 |v::r,x,h=>by
  simp only[renL,LRel]at h⊢;obtain⟨y,ys,h1,h2,h3⟩:=h;exact⟨y,ys,h1,VRel.bwd hσ h2,LRel.bwd hσ h3⟩
end
theorem CRel.bwd{ρ':Nat→Option Value}(hσ:∀j x,ρ j=some x→∃i,atN σ j=some i∧ρ' i=some x){sz:Nat}:∀{v:List V} {x:List Value},CRel S w ρ sz v x→CRel S w ρ' sz (renL σ v) x
 |[],x,h=>by simp only[renL,CRel]at h⊢;exact h
 |v::r,x,h=>by
  simp only[renL,CRel]at h⊢;obtain⟨y,ys,h1,h2,q,E⟩:=h;exact⟨y,ys,h1,h2,VRel.bwd hσ q,CRel.bwd hσ E⟩
end
def cO(v u:V):Prop:=∀S w ρ x,VRel S w ρ v x→VRel S w ρ u x
theorem cO.rfl:cO v v:=λ_ _ _ _ h=>h
theorem cO.of_eq{u:V}(h:v=u):cO v u:=h▸cO.rfl
theorem cO.nil(sz:Nat):cO .nils (.row sz []):=λS w ρ x h=>by
 simp only[VRel]at h⊢;subst h;exact⟨none,0,[],by simp,Nat.le_refl _,by decide,by simp[CRel],RowIn.none_⟩
def aH:List V→List V→Prop
 |[],us=>us=[]
 |v::r,us=>∃u q,us=u::q∧cO v u∧aH r q
theorem aH.rel{S:Nat→Prop}{w:World}{ρ:Nat→Option Value}:∀{vs us:List V} {xs:List Value},aH vs us→LRel S w ρ vs xs→LRel S w ρ us xs
 |[],us,xs,h,E=>by simp only[aH]at h;subst h;exact E
 |v::r,us,xs,h,E=>by
  simp only[aH]at h;obtain⟨u,q,rfl,h1,h2⟩:=h;simp only[LRel]at E⊢;obtain⟨y,ys,rfl,G,J⟩:=E;exact⟨y,ys,rfl,h1 _ _ _ _ G,aH.rel h2 J⟩
theorem aH.rfl:∀{vs:List V},aH vs vs
 |[]=>by simp[aH]
 |v::r=>⟨v,r,by rfl,cO.rfl,aH.rfl⟩
variable{us:List V}
theorem cO.agg(h:aH vs us):cO (.agg vs) (.agg us):=λS w ρ x hx=>by
 simp only[VRel]at hx⊢;obtain⟨xs,h1,h2⟩:=hx;exact⟨xs,h1,h.rel h2⟩
theorem aH.cons{u:V}{r q:List V}(h:cO v u)(k:aH r q):aH (v::r) (u::q):=⟨u,q,by rfl,h,k⟩
theorem aH.nil:aH [] []:=by simp[aH]
def lq:Ob→Ob→Prop
 |_,.gone=>True
 |.var t cs,.var E cs'=>t=E∧aH cs cs'
 |.row e sz els,.row q sz' els'=>e=q∧sz=sz'∧els=els'
 |.mp k e ks vs,.mp k' q ks' vs'=>k=k'∧e=q∧ks=ks'∧vs=vs'
 |_,_=>False
def leF(σ:List Nat):Fm→Fm→Prop
 |_,[]=>True
 |[],none::q=>leF σ [] q
 |[],some _::_=>False
 |x::r,none::q=>leF σ r q
 |x::r,some u::q=>(∃v,x=some v∧cO v (u.ren σ))∧leF σ r q
def leH(σ:List Nat)(H:Hp):List (Nat×Ob)→Prop
 |[]=>True
 |(j,o)::r=>(∃i,atN σ j=some i∧lq (H.get i) (o.ren σ))∧leH σ H r
def bL:List Nat→Bool
 |[]=>true
 |i::r=>!r.contains i&&bL r
variable{o':Ob}
variable{PL:List Nat}{H0:Hp}
variable{Post:V→Hp→Prop}
section
variable{P:Program}{T:Tab}{K:Ctx}{Q:Exit→Act→World→Prop}{s:List EI}{n:Nat}{F F':Fm}{H H':Hp}{σ:List Nat}{S:Nat→Prop}{w:World}{ρ:Nat→Option Value}{a:Act}
theorem qf:∀{F F':Fm},leF σ F F'→∀i u,F'.get i=some u→∃v,F.get i=some v∧cO v (u.ren σ)
 |F,[],h,i,u,q=>by simp[Fm.get]at q
 |[],none::E,h,0,u,q=>by simp[Fm.get]at q
 |[],none::E,h,i+1,u,q=>by
  obtain⟨v,h1,_⟩:=qf (F:=[]) (F':=E) (by simpa[leF]using h) i u (by simpa[Fm.get]using q);simp[Fm.get]at h1
 |[],some _::_,h,i,u,q=>by simp[leF]at h
 |x::r,none::E,h,0,u,q=>by simp[Fm.get]at q
 |x::r,none::E,h,i+1,u,q=>by
  have :=qf (F:=r) (F':=E) (by simpa[leF]using h) i u (by simpa[Fm.get]using q);simpa[Fm.get]using this
 |x::r,some G::E,h,0,u,q=>by
  simp only[leF]at h;simp only[Fm.get,Option.some.injEq]at q;subst q;obtain⟨v,h1,h2⟩:=h.1;exact⟨v,by simp[Fm.get,h1],h2⟩
 |x::r,some G::E,h,i+1,u,q=>by
  simp only[leF]at h;have :=qf h.2 i u (by simpa[Fm.get]using q);simpa[Fm.get]using this
theorem BA(h:leF σ F F')(E:F'.length≤n)(q:FRel S w ρ a n F):FRel S w (dK σ ρ) a n F':=
 ⟨q.size,q.defers,q.gl,E,λi u G=>by
  obtain⟨v,h1,h2⟩:=qf h i u G;obtain⟨x,J,O⟩:=q.get i v h1;exact⟨x,J,(h2 _ _ _ _ O).ren⟩⟩
theorem rn:∀{l:List (Nat×Ob)},leH σ H l→∀j,am l j=.gone∨∃i,atN σ j=some i∧lq (H.get i) ((am l j).ren σ)
 |[],_,j=>.inl rfl
 | (k,o)::r,h,j=>by
  simp only[leH]at h;simp only[am];split
  ·rename_i hb;have :=Nat.eq_of_beq_eq_true hb;subst this;exact .inr h.1
  ·exact rn h.2 j
theorem nl:∀{l:List Nat},bL l=true→∀i j x,atN l i=some x→atN l j=some x→i=j
 |[],_,i,j,x,hi,q=>by simp[atN]at hi
 |y::r,h,0,0,x,hi,q=>rfl
 |y::r,h,0,j+1,x,hi,q=>by
  simp only[bL,Bool.and_eq_true,Bool.not_eq_true']at h;simp only[atN,Option.some.injEq]at hi q;subst hi;rw[kZ]at q;have :=List.mem_of_getElem? q;simp[this]at h
 |y::r,h,i+1,0,x,hi,q=>by
  simp only[bL,Bool.and_eq_true,Bool.not_eq_true']at h;simp only[atN,Option.some.injEq]at hi q;subst q;rw[kZ]at hi;have :=List.mem_of_getElem? hi;simp[this]at h
 |y::r,h,i+1,j+1,x,hi,q=>by
  simp only[bL,Bool.and_eq_true]at h;have :=nl h.2 i j x (by simpa[atN]using hi) (by simpa[atN]using q);omega
theorem Ce{o:Ob}(hij:atN σ j=some i)(h:lq o (o'.ren σ))(ho':o'≠.gone)(hr:gn S w ρ i o):gn S w (dK σ ρ) j o'∧∀b,own (dK σ ρ) j o' b→own ρ i o b:=by
 have hρ:dK σ ρ j=ρ i:=by simp only[dK,hij]
 cases o' with
 |gone=>exact absurd rfl ho'
 |free=>cases o<;>simp[Ob.ren,lq]at h
 |ext bs Φ=>cases o<;>simp[Ob.ren,lq]at h
 |mp kt' et' ks' vs'=>
  cases o<;>simp only[Ob.ren,lq]at h;rename_i kt et ks vs;obtain⟨rfl,rfl,rfl,rfl⟩:=h;obtain⟨b,es,ck,h1,h2,h3,h4⟩:=hr;exact⟨⟨b,es,ck,by rw[hρ];exact h1,h2,h3,h4⟩,λc hc=>by simp only[own]at hc⊢;rw[hρ]at hc;exact hc⟩
 |var t' cs'=>
  cases o<;>simp only[Ob.ren,lq]at h;rename_i t cs;obtain⟨rfl,h⟩:=h;obtain⟨b,xs,h1,h2,h3⟩:=hr;exact⟨⟨b,xs,by rw[hρ];exact h1,h2,(h.rel h3).ren⟩,λc hc=>by simp only[own]at hc⊢;rw[hρ]at hc;exact hc⟩
 | row e' sz' els'=>
  cases o<;>simp only[Ob.ren,lq]at h;rename_i e sz els;obtain⟨rfl,rfl,rfl⟩:=h;obtain⟨v,xs,h1,h2,h3⟩:=hr;rw[rU]at h2;exact⟨⟨v,xs,by rw[hρ];exact h1,h2,h3.ren⟩,λc hc=>by
   obtain⟨q,e1,e2⟩:=hc;exact⟨q,by rw[←hρ];exact e1,e2⟩⟩
def ar(K:Ctx)(pv:List Nat):Prop:=∀id x,K.pin id=some x→id∈pv
def qt(σ pv:List Nat):Bool:=pv.all λi=>match atN σ i with|some j=>Nat.beq i j|none=>false
theorem uM(hH:leH σ H H'.es)(hn:bL σ=true)(E:Nat.ble σ.length H'.nx=true)(hr:HRel S w ρ H.get):HRel S w (dK σ ρ) H'.get∧∀j b,own (dK σ ρ) j (H'.get j) b→∃i,atN σ j=some i∧own ρ i (H.get i) b:=by
 have key:∀j,gn S w (dK σ ρ) j (H'.get j)∧∀b,own (dK σ ρ) j (H'.get j) b→∃i,atN σ j=some i∧own ρ i (H.get i) b:=λj=>by
  unfold Hp.get;split
  ·rcases rn hH j with e|⟨i,h1,h2⟩
   ·rw[e];exact⟨trivial,λb q=>q.elim⟩
   ·by_cases hg:am H'.es j=.gone
    ·rw[hg];exact⟨trivial,λb q=>q.elim⟩
    ·obtain⟨J,O⟩:=Ce h1 h2 hg (hr.ob i);exact⟨J,λb q=>⟨i,h1,O b q⟩⟩
  ·rename_i G;refine⟨?_,λb q=>q.elim⟩;show dK σ ρ j=none;have hj:¬j<H'.nx:=λh=>by rw[nlT h]at G;cases G
   have hl:σ.length≤H'.nx:=Nat.le_of_ble_eq_true E;simp only[dK,kZ];rw[List.getElem?_eq_none (by omega)]
 refine⟨⟨λj=>(key j).1,λj b q=>?_,λi j b U Z=>?_,hr.slt⟩,λj=>(key j).2⟩
 ·obtain⟨i,_,h⟩:=(key j).2 b q;exact hr.sep i b h
 ·obtain⟨i',h1,h2⟩:=(key i).2 b U;obtain⟨j',J,O⟩:=(key j).2 b Z;have :=hr.dis i' j' b h2 O;subst this;exact nl hn i j i' h1 J
def EP.still:EP→Bool
 |.drw .. =>false
 |_=>true
theorem go_sub{p:EP}(σ pv:List Nat)(O:p.still=true)(q:ar K pv)(U:leF σ F F')(hH:leH σ H H'.es)(J:(bL σ&&Nat.ble σ.length H'.nx&&qt σ pv&&Nat.ble F'.length n)=true)(k:Go P K Q p s n F' H'):Go P K Q p s n F H:=λS w ρ a hr hi hf=>by
 simp only[Bool.and_eq_true]at J;obtain⟨⟨⟨h1,h2⟩,Z⟩,h4⟩:=J;obtain⟨g1,g2⟩:=uM hH h1 h2 hr;have E:Inv K S w (dK σ ρ) H'.get:=⟨hi.chg,hi.s0,hi.s1,λj b hb=>by obtain⟨i,_,h⟩:=g2 j b hb;exact hi.ow i b h,λid x hx=>by
  have G:=List.all_eq_true.1 Z id (q id x hx);simp only[dK];split at G
  ·rename_i j hj;have :=Nat.eq_of_beq_eq_true G;subst this
   first|exact hi.pin id x hx|(rw[hj];exact hi.pin id x hx)
  ·cases G⟩
 have :=k S w (dK σ ρ) a g1 E (BA U (Nat.le_of_ble_eq_true h4) hf);cases p with
 |drw=>cases O
 |code c=>exact this
 |ops all rest=>exact this
 |ex e=>exact this
def SP(K:Ctx)(Post:V→Hp→Prop)(e:Ending)(w':World):Prop:=
 ∃x S' ρ' v H',e=.returned x∧Post v H'∧HRel S' w' ρ' H'.get∧Inv K S' w' ρ' H'.get∧VRel S' w' ρ' v x
def ik(PL:List Nat)(i:Nat):Ob→Bool
 |.var _ _=>true
 |.ext _ _=>true
 |.mp _ _ _ _=>true
 |.row _ _ _=>PL.contains i
 |_=>false
def mH(PL:List Nat)(h:Nat→Ob)(ρ:Nat→Option Value):Nat→Option Value:=λi=>match ik PL i (h i)with
 |true=>ρ i
 |false=>none
def dd(PL:List Nat)(P:Program)(fid:FuncId)(vs:List V)(H0:Hp)(Post:V→Hp→Prop):Prop:=
 ∀S w ρ xs,HRel S w ρ H0.get→LRel S w ρ vs xs→Calls P fid xs.toArray w (SP ⟨w,S,λb=>∃id,own ρ id (H0.get id) b,mH PL H0.get ρ⟩ Post)
abbrev Sum(P:Program)(fid:FuncId)(vs:List V)(H0:Hp)(Post:V→Hp→Prop):Prop:=dd [] P fid vs H0 Post
theorem zy{c:Code}{Post:V→Hp→Prop}(N:Nat)(pv:List Nat)(hf:P.funcs[fid]?=some fn)(q:fn.body=some c)(G:fn.ntmps=N)(J:Nat.ble vs.length N=true)(E:∀i,ik PL i (H0.get i)=true→i∈pv)
  (k:∀K,ar K pv→Go P K (bodyPost P fn (SP K Post)) (.code c) [] N (jx N vs) H0):dd PL P fid vs H0 Post:=λS w ρ xs hr hx=>by
 subst G;have hi:Inv ⟨w,S,λb=>∃id,own ρ id (H0.get id) b,mH PL H0.get ρ⟩ S w ρ H0.get:=⟨ChgP.refl _ _,λ_ h=>h,λ_ h=>.inl h,λid b q=>.inl ⟨id,q⟩,λid x h=>by
  simp only[mH]at h;split at h
  ·exact h
  ·cases h⟩
 refine ro hf q J hr hi hx (k _ λid x h=>E id ?_);simp only[mH]at h;split at h
 ·assumption
 ·cases h
theorem EC(E:TabOk P T){rs:List ResultVar}{e:Exit}(q:fn.results=rs.toArray)(hv:mM T H.get F rs=some vs)(G:Post (jY vs) H)(J:e=.ret∨e=.normal:=by first|exact .inl rfl|exact .inr rfl):Go P K (bodyPost P fn (SP K Post)) (.ex e) [] n F H:=λS w ρ a hr hi O=>
 ret_go E J q hr O hv λx hx=>⟨x,S,ρ,_,H,rfl,G,hr,hi,hx⟩
end
def iT:List Nat→Nat→Option Nat
 |[],_=>none
 |x::r,i=>match Nat.beq x i with
  |true=>some 0
  |false=>match iT r i with
   |some j=>some (j+1)
   |none=>none
theorem fM:∀{l:List Nat} {i j:Nat},iT l i=some j→atN l j=some i
 |[],i,j,h=>by cases h
 | x::r,i,j,h=>by
  simp only[iT]at h;split at h
  ·rename_i hb;have :=Nat.eq_of_beq_eq_true hb;injection h with h;subst h;subst this;rfl
  ·split at h
   ·rename_i j' hj;injection h with h;subst h
    simpa[atN]using fM hj
   ·cases h
theorem tr:∀{l:List Nat} {i:Nat},iT l i=none→∀j,atN l j≠some i
 |[],i,h,j=>by simp[atN]
 | x::r,i,h,0=>by
  simp only[iT]at h;split at h
  ·cases h
  ·rename_i hb;simp only[atN,ne_eq,Option.some.injEq];exact Nat.ne_of_beq_eq_false hb
 | x::r,i,h,j+1=>by
  simp only[iT]at h;split at h
  ·cases h
  ·split at h
   ·cases h
   ·rename_i hn;simpa[atN]using tr hn j
theorem DO{l:List Nat}(q:bL l=true)(h:atN l j=some i):iT l i=some j:=by
 cases hi:iT l i with
 |none=>exact absurd h (tr hi j)
 |some k=>rw[nl q k j i (fM hi) h]
def sgN(PL:List Nat)(nx:Nat)(q:Nat→Ob):Nat→List Nat→Nat→List Nat
 |0,_,_=>[]
 |m+1,σ,j=>match σ with
  |[]=>(nx+j)::sgN PL nx q m [] (j+1)
  |i::r=>(match ik PL j (q j)with|true=>i|false=>nx+j)::sgN PL nx q m r (j+1)
theorem sY(PL:List Nat)(nx:Nat)(q:Nat→Ob):∀(m:Nat) (σ:List Nat) (j:Nat),(sgN PL nx q m σ j).length=m
 |0,_,_=>rfl
 |m+1,[],j=>by simp[sgN,sY PL nx q m]
 |m+1,i::r,j=>by simp[sgN,sY PL nx q m]
theorem vW(PL:List Nat)(nx:Nat)(q:Nat→Ob):∀(m:Nat) (σ:List Nat) (j k:Nat),k<m→atN (sgN PL nx q m σ j) k=some (match atN σ k,ik PL (j+k) (q (j+k))with|some i,true=>i|_,_=>nx+(j+k))
 |0,_,_,k,h=>by omega
 |m+1,[],j,0,h=>by simp[sgN,atN]
 |m+1,[],j,k+1,h=>by
  have :=vW PL nx q m [] (j+1) k (by omega);simp only[sgN,atN]at this⊢;rw[this];simp only[show j+1+k=j+(k+1) by omega]
 |m+1,i::r,j,0,h=>by
  simp only[sgN,atN,Nat.add_zero];cases ik PL j (q j)<;>rfl
 |m+1,i::r,j,k+1,h=>by
  have :=vW PL nx q m r (j+1) k (by omega);simp only[sgN,atN]at this⊢;rw[this];simp only[show j+1+k=j+(k+1) by omega]
def pL(σ:List Nat):List (Nat×Ob)→List (Nat×Ob)
 |[]=>[]
 |(j,o)::r=>match atN σ j with
  |some i=>(i,o.ren σ)::pL σ r
  |none=>pL σ r
def mB(σ:List Nat)(nx:Nat):List (Nat×Ob)→List (Nat×Ob)
 |[]=>[]
 |(j,o)::r=>match !σ.contains j&&Nat.blt j nx with
  |true=>match o with
   |.free=>(j,.gone)::mB σ nx r
   |o=>(j,o)::mB σ nx r
  |false=>mB σ nx r
def jw(PL:List Nat)(H:Hp)(σ:List Nat)(H0 H':Hp):Hp:=⟨H.nx+H'.nx,pL (sgN PL H.nx H0.get H'.nx σ 0) H'.es++mB σ H.nx H.es⟩
theorem tu{σ:List Nat}(hn:bL σ=true){i:Nat}:∀{l:List (Nat×Ob)},am (pL σ l) i=match iT σ i with|some j=>(am l j).ren σ|none=>.gone
 |[]=>by simp only[pL,am];cases iT σ i<;>rfl
 | (k,o)::r=>by
  have ih:=tu hn (i:=i) (l:=r);simp only[pL];split
  ·rename_i i' hi';simp only[am];by_cases e:i'=i
   ·subst e;rw[nbT,DO hn hi'];simp only[nbT]
   ·rw[nbF e,ih];cases hj:iT σ i with
    |none=>rfl
    |some j=>
     have hne:k≠j:=λe'=>by subst e';rw[fM hj]at hi';injection hi' with h;exact e h.symm
     simp only[nbF hne]
  ·rename_i hk;rw[ih];cases hj:iT σ i with
   |none=>rfl
   |some j=>
    have hne:k≠j:=λe'=>by subst e';rw[fM hj]at hk;cases hk
    simp only[am,nbF hne]
theorem tC{σ:List Nat}{nx i:Nat}:∀{l:List (Nat×Ob)},am (mB σ nx l) i=.gone∨(am (mB σ nx l) i=am l i∧σ.contains i=false∧i<nx∧am l i≠.free)
 |[]=>.inl rfl
 | (k, o)::r=>by
  have ih:=tC (σ:=σ) (nx:=nx) (i:=i) (l:=r);simp only[mB];by_cases hk:k=i
  ·subst hk;cases hc:(!σ.contains k&&Nat.blt k nx)
   ·simp only;left;have key:∀(l:List (Nat×Ob)),am (mB σ nx l) k=.gone:=by
     intro l
     induction l with
     |nil=>rfl
     | cons q t ih=>
      obtain⟨m,o'⟩:=q;simp only[mB];by_cases hm:m=k
      ·subst hm;rw[hc];exact ih
      ·cases hc':(!σ.contains m&&Nat.blt m nx)
       ·exact ih
       ·cases o'<;>(simp only[am,nbF hm];exact ih)
    exact key r
   ·simp only[Bool.and_eq_true,Bool.not_eq_true']at hc;have hlt:k<nx:=by simpa[Nat.blt_eq]using hc.2
    cases o with
    |free=>left;simp only[am,nbT]
    |gone=>left;simp only[am,nbT]
    |var t cs=>right;simp only[am,nbT];exact⟨trivial,hc.1,hlt,by simp⟩
    |row e sz els=>right;simp only[am,nbT];exact⟨trivial,hc.1,hlt,by simp⟩
    |ext bs Φ=>right;simp only[am,nbT];exact⟨trivial,hc.1,hlt,by simp⟩
    |mp kt et ks vs=>right;simp only[am,nbT];exact⟨trivial,hc.1,hlt,by simp⟩
  ·have e2:am ((k,o)::r) i=am r i:=by simp only[am,nbF hk]
   rw[e2];cases hc:(!σ.contains k&&Nat.blt k nx)
   ·exact ih
   ·cases o<;>(simp only[am,nbF hk];exact ih)
theorem pA:∀{l:List Nat},(∀i j x,atN l i=some x→atN l j=some x→i=j)→bL l=true
 |[],_=>rfl
 | y::r,h=>by
  simp only[bL,Bool.and_eq_true,Bool.not_eq_true'];refine⟨?_,pA λi j x hi hj=>by have :=h (i+1) (j+1) x (by simpa[atN]using hi) (by simpa[atN]using hj);omega⟩;cases hc:r.contains y
  ·rfl
  ·exfalso;have hm:y∈r:=by simpa using hc
   obtain⟨k,hk,e⟩:=List.getElem_of_mem hm;have :=h 0 (k+1) y (by simp[atN]) (by simp only[atN,kZ];rw[List.getElem?_eq_getElem hk,e]);omega
section
variable{P:Program}{K:Ctx}{H H0:Hp}{σ:List Nat}{S:Nat→Prop}{w:World}
theorem Fv{o:Ob}(hσ:∀j x,ρ j=some x→∃i,atN σ j=some i∧ρ' i=some x)(hj:atN σ j=some i)(U:ρ j=none→ρ' i=none∨o≠.free)(h:gn S w ρ j o):gn S w ρ' i (o.ren σ)∧∀b,own ρ' i (o.ren σ) b→own ρ j o b:=by
 have G:∀x,ρ j=some x→ρ' i=some x:=λx hx=>by
  obtain⟨i',h1,h2⟩:=hσ j x hx;rw[hj]at h1;injection h1 with h1;subst h1;exact h2
 cases o with
 |free=>exact⟨(U h).resolve_right (by simp),λb J=>J⟩
 |gone=>exact⟨trivial,λb J=>J⟩
 |ext bs Φ=>exact⟨h,λb J=>J⟩
 |mp kt et ks vs=>
  obtain⟨b,es,ck,h1,h2,O⟩:=h;refine⟨⟨b,es,ck,G _ h1,h2,O⟩,λc E=>?_⟩;simp only[Ob.ren,own]at E⊢;rw[G _ h1]at E;rw[h1];exact E
 |var t cs=>
  obtain⟨b,xs,h1,h2,O⟩:=h;refine⟨⟨b,xs,G _ h1,h2,O.bwd hσ⟩,λc E=>?_⟩;simp only[Ob.ren,own]at E⊢;rw[G _ h1]at E;rw[h1];exact E
 |row e sz els=>
  obtain⟨v,xs,h1,h2,O⟩:=h;refine⟨⟨v,xs,G _ h1,by rw[rU];exact h2,O.bwd hσ⟩,λc E=>?_⟩;obtain⟨q,Z,e2⟩:=E;rw[G _ h1]at Z;cases Z;exact⟨v,h1,e2⟩
theorem mJ(hS:dd PL P fid us H0 Post)(σ:List Nat)(hv:aH vs (renL σ us))(hH:leH σ H H0.es)(hc:(bL σ&&Nat.beq σ.length H0.nx&&σ.all λi=>Nat.blt i H.nx)=true)(L:List Nat)(hL:(bV H.get L&&L.all λi=>!σ.contains i)=true):
  CallR P K fid vs H L (λv' H''=>∃v H',Post v H'∧v'=v.ren (sgN PL H.nx H0.get H'.nx σ 0)∧H''=jw PL H σ H0 H'):=λS w ρ xs hr hi hx=>by
 simp only[Bool.and_eq_true]at hc hL;obtain⟨⟨hc1,hc2⟩,hc3⟩:=hc;have hlen:σ.length=H0.nx:=by simpa using hc2
 have hσlt:∀j i,atN σ j=some i→i<H.nx:=λj i h=>by
  rw[kZ]at h;have :=List.all_eq_true.1 hc3 i (List.mem_of_getElem? h);simpa[Nat.blt_eq]using this
 obtain⟨g1,g2⟩:=uM (H':=H0) hH hc1 (by simp[hlen]) hr;refine(hS S w (dK σ ρ) xs g1 ((hv.rel hx).ren)).mono λe w' hR=>?_;obtain⟨x,S',ρ1,v,H',rfl,hP,hr',hi',hvr⟩:=hR;obtain⟨τ,hτ⟩:∃τ,τ=sgN PL H.nx H0.get H'.nx σ 0:=⟨_,rfl⟩;have hτlen:τ.length=H'.nx:=by rw[hτ];exact sY _ _ _ _ _ _
 have hτat:∀j,j<H'.nx→atN τ j=some (match atN σ j,ik PL j (H0.get j)with|some i,true=>i|_,_=>H.nx+j):=λj hj=>by
  rw[hτ,vW _ _ _ _ _ _ _ hj];simp only[Nat.zero_add]
 have hτlt:∀j i,atN τ j=some i→j<H'.nx:=λj i h=>by
  rw[kZ]at h;have :=(List.getElem?_eq_some_iff.1 h).1;omega
 have hτc:∀j i,atN τ j=some i→(atN σ j=some i∧ik PL j (H0.get j)=true)∨i=H.nx+j:=λj i h=>by
  have hj:=hτlt j i h;rw[hτat j hj]at h;simp only[Option.some.injEq]at h;cases h1:atN σ j with
  |none=>rw[h1]at h;exact .inr h.symm
  |some i1=>
   rw[h1]at h;cases h2:ik PL j (H0.get j)
   ·rw[h2]at h;exact .inr h.symm
   ·rw[h2]at h;simp only at h;subst h;exact .inl ⟨rfl,rfl⟩
 have hτbd:∀j i,atN τ j=some i→i<H.nx+H'.nx:=λj i h=>by
  have hj:=hτlt j i h;rcases hτc j i h with⟨h1,_⟩|h1
  ·have :=hσlt j i h1;omega
  ·omega
 have hτinj:bL τ=true:=pA λj k i h1 h2=>by
  rcases hτc j i h1 with⟨a1,_⟩|a1<;>rcases hτc k i h2 with⟨a2,_⟩|a2
  ·exact nl hc1 j k i a1 a2
  ·have :=hσlt j i a1;omega
  ·have :=hσlt k i a2;omega
  ·omega
 have hfreeρ:∀i,H.nx≤i→ρ i=none:=λi hi'=>by
  have :=hr.ob i;have e:H.get i=.free:=by
   unfold Hp.get;have :Nat.blt i H.nx=false:=by cases hb:Nat.blt i H.nx;rfl;simp[Nat.blt_eq]at hb;omega
   rw[this]
  rw[e]at this;exact this
 have hfree1:∀j,H'.nx≤j→ρ1 j=none:=λj hj=>by
  have :=hr'.ob j;have e:H'.get j=.free:=by
   unfold Hp.get;have :Nat.blt j H'.nx=false:=by cases hb:Nat.blt j H'.nx;rfl;simp[Nat.blt_eq]at hb;omega
   rw[this]
  rw[e]at this;exact this
 obtain⟨ρ2,hρ2⟩:∃ρ2:Nat→Option Value,ρ2=λi=>if i<H.nx then ρ i else ρ1 (i-H.nx):=⟨_,rfl⟩
 have hup:∀i y,ρ i=some y→ρ2 i=some y:=λi y h=>by
  by_cases hlt:i<H.nx
  ·rw[hρ2];simp only[hlt,if_true];exact h
  ·rw[hfreeρ i (by omega)]at h;cases h
 have hpin:∀j,ik PL j (H0.get j)=true→∀y,dK σ ρ j=some y→ρ1 j=some y:=λj hv y h=>hi'.pin j y (by simp only[mH,hv];exact h);have hnoext:∀j i,atN σ j=some i→∀bs Φ,H0.get j=.ext bs Φ→False:=λj i h1 bs Φ hy'=>by
  have hl:=rn hH j;have hlt:j<H0.nx:=by
   rw[←hlen];rw[kZ]at h1;exact(List.getElem?_eq_some_iff.1 h1).1
  have e0:H0.get j=am H0.es j:=by unfold Hp.get;rw[nlT hlt]
  rw[←e0,hy']at hl;rcases hl with hl|⟨i',_,hl⟩
  ·cases hl
  ·cases ho:H.get i'<;>rw[ho]at hl<;>simp[Ob.ren,lq]at hl
 have hτρ:∀j y,ρ1 j=some y→∃i,atN τ j=some i∧ρ2 i=some y:=λj y h=>by
  have hj:j<H'.nx:=by
   rcases Nat.lt_or_ge j H'.nx with h1|h1
   ·exact h1
   ·rw[hfree1 j h1]at h;cases h
  obtain⟨i,hji⟩:∃i,atN τ j=some i:=⟨_,hτat j hj⟩;refine⟨i,hji,?_⟩;rcases hτc j i hji with⟨h1,h2⟩|h1
  ·
   have hob:=g1.ob j;have hsome:∃y',dK σ ρ j=some y'∨∃bs Φ,H0.get j=.ext bs Φ:=by
    cases ho:H0.get j with
    |var t cs=>rw[ho]at hob;obtain⟨b,_,hb,_⟩:=hob;exact⟨_,.inl hb⟩
    |row e sz els=>rw[ho]at hob;obtain⟨b,_,hb,_⟩:=hob;exact⟨_,.inl hb⟩
    |ext bs Φ=>exact⟨.bool true,.inr ⟨bs,Φ,rfl⟩⟩
    |mp kt et ks vs=>rw[ho]at hob;obtain⟨b,_,_,hb,_⟩:=hob;exact⟨_,.inl hb⟩
    |_=>rw[ho]at h2;cases h2
   obtain⟨y',hy'|⟨bs,Φ,hy'⟩⟩:=hsome
   ·have :=hpin j h2 y' hy';rw[h]at this;injection this with this;subst this
    simp only[dK,h1]at hy';exact hup _ _ hy'
   ·exact(hnoext j i h1 bs Φ hy').elim
  ·subst h1;rw[hρ2];simp only[show¬H.nx+j<H.nx by omega,if_false,Nat.add_sub_cancel_left];exact h
 obtain⟨h1',hh1'⟩:∃h1':Nat→Ob,h1'=λi=>match iT τ i with|some j=>(H'.get j).ren τ|none=>if i<H.nx+H'.nx then .gone else .free:=⟨_,rfl⟩
 obtain⟨h1,hh1⟩:∃h1:Nat→Ob,h1=λi=>match σ.contains i with|true=>H.get i|false=>.gone:=⟨_,rfl⟩
 have hin:∀i,h1 i=H.get i∨h1 i=.gone:=λi=>by rw[hh1];simp only[];cases σ.contains i<;>simp
 have hkey:∀i,gn S' w' ρ2 i (h1' i)∧∀b,own ρ2 i (h1' i) b→∃j,iT τ i=some j∧own ρ1 j (H'.get j) b:=λi=>by
  rw[hh1'];simp only[];cases hj:iT τ i with
  | none=>
   simp only[];split
   ·exact⟨trivial,λb hb=>hb.elim⟩
   ·rename_i hlt;refine⟨?_,λb hb=>hb.elim⟩;show ρ2 i=none;rw[hρ2];simp only[show¬i<H.nx by omega,if_false];exact hfree1 _ (by omega)
  | some j=>
   have hat:=fM hj;obtain⟨k1,k2⟩:=Fv hτρ hat (λhn=>by
    have hjl:=hτlt j i hat;by_cases hf:H'.get j=.free
    ·left;rcases hτc j i hat with⟨a1,a2⟩|a1
     ·
      have hob:=g1.ob j;exfalso;cases ho:H0.get j with
      |var t cs=>
       rw[ho]at hob;obtain⟨b,_,hb,_⟩:=hob;have :=hpin j a2 _ hb;rw[hn]at this;cases this
      |row e sz els=>
       rw[ho]at hob;obtain⟨b,_,hb,_⟩:=hob;have :=hpin j a2 _ hb;rw[hn]at this;cases this
      |ext bs Φ=>exact hnoext j i a1 bs Φ ho
      |mp kt et ks vs=>
       rw[ho]at hob;obtain⟨b,_,_,hb,_⟩:=hob;have :=hpin j a2 _ hb;rw[hn]at this;cases this
      |_=>rw[ho]at a2;cases a2
     ·subst a1;rw[hρ2];simp only[show¬H.nx+j<H.nx by omega,if_false,Nat.add_sub_cancel_left];exact hn
    ·exact .inr hf) (hr'.ob j)
   exact⟨k1,λb hb=>⟨j,rfl,k2 b hb⟩⟩
 have hX:∀b,(∃id,own (dK σ ρ) id (H0.get id) b)→∃id,own ρ id (h1 id) b:=λb ⟨id,hb⟩=>by
  obtain⟨i,h2,h3⟩:=g2 id b hb;refine⟨i,?_⟩;have hm:σ.contains i=true:=by
   rw[kZ]at h2;simpa using List.mem_of_getElem? h2
  rw[hh1];simp only[hm];exact h3
 have hrel1:HRel S' w' ρ2 h1':=⟨λi=>(hkey i).1,λi b hb=>by obtain⟨j,_,h⟩:=(hkey i).2 b hb;exact hr'.sep j b h,λi k b hbi hbk=>by
  obtain⟨j,e1,h1⟩:=(hkey i).2 b hbi;obtain⟨j',e2,h2⟩:=(hkey k).2 b hbk;have :=hr'.dis j j' b h1 h2;subst this;have a1:=fM e1;have a2:=fM e2;rw[a1]at a2;injection a2,hr'.slt⟩
 have hinv1:Inv ⟨w,S,λb=>∃id,own ρ id (h1 id) b,ρ⟩ S' w' ρ2 h1':=⟨hi'.chg.mono hX,hi'.s0,λb hb=>by
  rcases hi'.s1 b hb with h|h|h
  ·exact .inl h
  ·exact .inr (.inl (hX b h))
  ·exact .inr (.inr h),λi b hb=>by
  obtain⟨j,_,h⟩:=(hkey i).2 b hb;rcases hi'.ow j b h with h|h
  ·exact .inl (hX b h)
  ·exact .inr h,λid y h=>hup id y h⟩
 have hh2:∀i,((jw PL H σ H0 H').get i=h1' i∨(jw PL H σ H0 H').get i=.gone)∨((jw PL H σ H0 H').get i=H.get i∧h1 i=.gone∧H.get i≠.free):=λi=>by
  by_cases hlt:i<H.nx+H'.nx
  ·have e0:(jw PL H σ H0 H').get i=am (pL τ H'.es++mB σ H.nx H.es) i:=by
    unfold Hp.get jw;simp only[nlT hlt,hτ]
   rw[e0];rcases wj (pL τ H'.es) (mB σ H.nx H.es) i with e|⟨_,e⟩
   ·rw[e,tu hτinj];cases hj:iT τ i with
    |none=>exact .inl (.inr rfl)
    |some j=>
     left;left;rw[hh1'];simp only[hj];have hjl:=hτlt j i (fM hj);unfold Hp.get;rw[nlT hjl]
   ·rw[e];rcases tC (σ:=σ) (nx:=H.nx) (i:=i) (l:=H.es)with e1|⟨e1,e2,e3,e4⟩
    ·exact .inl (.inr e1)
    ·right;have eH:H.get i=am H.es i:=by unfold Hp.get;rw[nlT e3]
     refine⟨by rw[e1,eH],?_,by rw[eH];exact e4⟩;rw[hh1];simp only[e2]
  ·left;left;have e0:(jw PL H σ H0 H').get i=.free:=by
    unfold Hp.get jw;have :Nat.blt i (H.nx+H'.nx)=false:=by cases hb:Nat.blt i (H.nx+H'.nx);rfl;simp[Nat.blt_eq]at hb;omega
    simp only[this]
   rw[e0,hh1'];simp only[];cases hj:iT τ i with
   |none=>simp only[hlt,if_false]
   |some j=>have :=hτbd j i (fM hj);omega
 obtain⟨m1,m2,m3,m4⟩:=vP (h2:=(jw PL H σ H0 H').get) hr hi hin hrel1 hinv1 hh2;refine⟨x,S',ρ2,_,_,rfl,⟨v,H',hP,rfl,rfl⟩,m1,m2,m3,by rw[←hτ];exact hvr.bwd hτρ,m4 L hL.1 λid hid=>?_⟩;have :=List.all_eq_true.1 hL.2 id hid;simp only[Bool.not_eq_true']at this;rw[hh1];simp only[this]
end
variable{α:Type}
section
variable(T:Tab)
def opS(F:Fm)(H:Hp)(o:Oper)(c:Fm→Hp→Option α):Option α:=
 match kr T H.get F o.op with
 |some v=>F.puto o.dst (some v) λF'=>c F' H
 |none=>match jX T H.get F H.nx o.op with
  |some (v,ed)=>H.ap ed λH'=>match v with
   |some v=>F.puto o.dst (some v) λF'=>c F' H'
   |none=>F.puto o.dst (some (.tup [])) λF'=>c F' H'
  |none=>none
def ef:Nat→EP→List EI→Fm→Hp→Option (EP×List EI×Fm×Hp)
 |0,p,s,F,H=>some (p,s,F,H)
 |k+1,.code c,s,F,H=>match c with
  |.seq x y=>ef k (.code x) (.seq y::s) F H
  |.block id c=>ef k (.code c) (.blk id::s) F H
  |.skip=>ef k (.ex .normal) s F H
  |.ret=>ef k (.ex .ret) s F H
  |.exit id=>ef k (.ex (.exit id)) s F H
  |.cond c x y=>match aF F c with
   |some (.bool true)=>ef k (.code x) s F H
   |some (.bool false)=>ef k (.code y) s F H
   |_=>none
  |.region _ ⟨l⟩ false=>ef k (.ops ⟨l⟩ l) s F H
  |_=>none
 |k+1,.ops all rest,s,F,H=>match rest with
  |[]=>ef k (.ex .normal) s F H
  |o::r=>match aV F all o.guard with
   |some true=>opS T F H o λF' H'=>ef k (.ops all r) s F' H'
   |some false=>F.puto o.dst (some (.tup [])) λF'=>ef k (.ops all r) s F' H
   |none=>none
 |k +1,.ex e,s,F,H=>match s with
  |[]=>none
  |.seq c::s=>match e with
   |.normal=>ef k (.code c) s F H
   |.exit i=>ef k (.ex (.exit i)) s F H
   |.ret=>ef k (.ex .ret) s F H
   |_=>none
  |.blk id::s=>match e with
   |.normal=>ef k (.ex .normal) s F H
   |.exit i=>match Nat.beq i id with
    |true=>ef k (.ex .normal) s F H
    |false=>ef k (.ex (.exit i)) s F H
   |.ret=>ef k (.ex .ret) s F H
   |_=>none
  |_=>none
 |k+1,.drw ..,_,_,_=>none
def kK (all:Array Oper) (L:List Nat):List (Nat×Nat)→Fm→Hp→Option (Fm×Hp)
 |[],F,H=>some (F,H)
 |(i, f)::r,F,H=>match all[i]? with
  |some o=>match aV F all o.guard with
   |some false=>F.puto o.dst (some (.tup [])) λF'=>kK all L r F' H
   |some true=>match f with
    |2=>match kr T H.get F o.op with
     |some v=>F.puto o.dst (some v) λF'=>kK all L r F' H
     |none=>none
    |3 =>match ov F o.op with
     |some id=>match L.contains id with
      |true=>match jX T H.get F H.nx o.op with
       |some (some v,_)=>F.puto o.dst (some v) λF'=>kK all L r F' H
       |_=>none
      |false=>none
     |none=>none
    |f =>match kr T H.get F o.op with
     |some v=>F.puto o.dst (some v) λF'=>kK all L r F' H
     |none=>match jX T H.get F H.nx o.op with
      |some (v,ed)=>match(bV H.get L&&ed.clear L)||Nat.beq f 1 with
       |true=>H.ap ed λH'=>match v with
        |some v=>F.puto o.dst (some v) λF'=>kK all L r F' H'
        |none=>F.puto o.dst (some (.tup [])) λF'=>kK all L r F' H'
       |false=>none
      |none=>none
   |none=>none
  |none=>none
end
def uY(all:Array Oper)(m:Nat):List (Nat×Nat)→Array Bool→Bool
 |[],_=>true
 |(i,f)::r,listed=>(match f with
  |2=>!Nat.beq i m&&Region.free .any all listed i&&(Region.ready .any all listed).contains i
  |3=>!Nat.beq i m&&Region.free .any all listed i&&(Region.ready .any all listed).contains i&&ja .any all m i&&!listed.getD m false
  |1=>(match Region.ready .any all listed with|[j]=>Nat.beq i j|_=>false)&&(listed.setIfInBounds i true).getD m false
  |_=>(match Region.ready .any all listed with|[j]=>Nat.beq i j|_=>false))&&uY all m r (listed.setIfInBounds i true)
def zt:List (Nat×Nat)→Array Bool→Array Bool
 |[],l=>l
 |(i,_)::r,l=>zt r (l.setIfInBounds i true)
variable{e:TypeId}{sz:Nat}
variable{y:Operand}{els:List V}{ty:TypeId}
section
variable{P:Program}{T:Tab}{K:Ctx}{Q:Exit→Act→World→Prop}{p p':EP}{s s':List EI}{n:Nat}{F F' F1 F2:Fm}{H H' H1:Hp}
theorem Fz(q:TabOk P T){rest:List Oper}{c:Fm→Hp→Option α}{x:α}(E:aV F all o.guard=some true)(h:opS T F H o c=some x):∃F' H',c F' H'=some x∧(Go P K Q (.ops all rest) s n F' H'→Go P K Q (.ops all (o::rest)) s n F H):=by
 unfold opS at h;split at h
 ·rename_i v hv;rw[Fm.puto_eq]at h;exact⟨_,_,h,λk=>go_opP q E hv k⟩
 ·split at h
  ·rename_i v ed hv;rw[Hp.ap_eq]at h;cases v with
   |none=>
    simp only[Fm.puto_eq]at h;exact⟨_,_,h,λk=>go_opE q E hv k⟩
   |some v=>
    simp only[Fm.puto_eq]at h;exact⟨_,_,h,λk=>go_opE q E hv k⟩
  ·cases h
theorem cf(hT:TabOk P T):∀(k:Nat) (p:EP) (s:List EI) (F:Fm) (H:Hp),ef T k p s F H=some (p',s',F',H')→Go P K Q p' s' n F' H'→Go P K Q p s n F H
 |0,p,s,F,H,h,kk=>by
  simp only[ef,Option.some.injEq,Prod.mk.injEq]at h;obtain⟨rfl,rfl,rfl,rfl⟩:=h;exact kk
 | k+1,.code c,s,F,H,h,kk=>by
  unfold ef at h;split at h
  ·exact Ay (cf hT k _ _ _ _ h kk)
  ·exact uV (cf hT k _ _ _ _ h kk)
  ·exact xw (cf hT k _ _ _ _ h kk)
  ·exact go_ret (cf hT k _ _ _ _ h kk)
  ·exact xy (cf hT k _ _ _ _ h kk)
  ·split at h
   ·exact vk ‹_› (cf hT k _ _ _ _ h kk)
   ·exact vz ‹_› (cf hT k _ _ _ _ h kk)
   ·cases h
  ·exact tE (cf hT k _ _ _ _ h kk)
  ·cases h
 | k+1,.ops all rest,s,F,H,h,kk=>by
  unfold ef at h;split at h
  ·exact Af (cf hT k _ _ _ _ h kk)
  ·split at h
   ·obtain⟨F1,H1,h1,h2⟩:=Fz (P:=P) (K:=K) (Q:=Q) (s:=s) (n:=n) hT ‹_› h;exact h2 (cf hT k _ _ _ _ h1 kk)
   ·rw[Fm.puto_eq]at h;exact zL ‹_› (cf hT k _ _ _ _ h kk)
   ·cases h
 | k+1,.ex e,s,F,H,h,kk=>by
  unfold ef at h;split at h
  ·cases h
  ·split at h
   ·exact xV (cf hT k _ _ _ _ h kk)
   ·exact wq (cf hT k _ _ _ _ h kk)
   ·exact vN (cf hT k _ _ _ _ h kk)
   ·cases h
  ·split at h
   ·exact uT (cf hT k _ _ _ _ h kk)
   ·split at h
    ·exact vZ ‹_› (cf hT k _ _ _ _ h kk)
    ·exact uG ‹_› (cf hT k _ _ _ _ h kk)
   ·exact uQ (cf hT k _ _ _ _ h kk)
   ·cases h
  ·cases h
 |k+1,.drw ..,s,F,H,h,kk=>by simp[ef]at h
variable{all:Array Oper}{rest:List Oper}{o:Oper}{L:List Nat}{m fuel:Nat}{listed:Array Bool}
theorem tx(h:(match Region.ready .any all listed with|[j]=>Nat.beq i j|_=>false)=true):Region.ready .any all listed=[i]:=by
 split at h
 ·rename_i j q;rw[q,Nat.eq_of_beq_eq_true h]
 ·cases h
theorem jW (hT:TabOk P T):∀(is:List (Nat×Nat)) (fuel:Nat) (listed:Array Bool) (F:Fm) (H:Hp),uY all m is listed=true→kK T all L is F H=some (F',H')→Go P K Q (.drw all L m fuel (zt is listed)) s n F' H'→Go P K Q (.drw all L m (fuel+is.length) listed) s n F H
 |[],fuel,listed,F,H,hc,hr,k=>by
  simp only[kK,Option.some.injEq,Prod.mk.injEq]at hr;obtain⟨rfl,rfl⟩:=hr;exact k
 | (i, f)::r,fuel,listed,F,H,hc,hr,k=>by
  simp only[uY,Bool.and_eq_true]at hc;obtain⟨hc1,hc2⟩:=hc;show Go P K Q (.drw all L m (fuel+r.length+1) listed) s n F H;unfold kK at hr;split at hr
  ·rename_i o ho;split at hr
   ·rename_i hw;rw[Fm.puto_eq]at hr;have ih:=jW hT r fuel _ _ _ hc2 hr k;have single:(match Region.ready .any all listed with|[j]=>Nat.beq i j|_=>false)=true→Go P K Q (.drw all L m (fuel+r.length+1) listed) s n F H:=λhx=>go_d1S (tx hx) ho hw ih;split at hc1
    ·simp only[Bool.and_eq_true,Bool.not_eq_true']at hc1;exact yz hc1.1.1 ho hc1.1.2 hc1.2 hw ih
    ·simp only[Bool.and_eq_true,Bool.not_eq_true']at hc1;exact yz hc1.1.1.1.1 ho hc1.1.1.1.2 hc1.1.1.2 hw ih
    ·simp only[Bool.and_eq_true]at hc1;exact single hc1.1
    ·exact single hc1
   ·rename_i hw;split at hr
    ·split at hr
     ·rename_i v hv;rw[Fm.puto_eq]at hr;have ih:=jW hT r fuel _ _ _ hc2 hr k;simp only[Bool.and_eq_true,Bool.not_eq_true']at hc1;exact CX hT hc1.1.1 ho hc1.1.2 hc1.2 hw hv ih
     ·cases hr
    ·split at hr
     ·rename_i id hid;split at hr
      ·rename_i hL;split at hr
       ·rename_i v ed hv;rw[Fm.puto_eq]at hr;have ih:=jW hT r fuel _ _ _ hc2 hr k;simp only[Bool.and_eq_true,Bool.not_eq_true']at hc1;exact CH hT hc1.1.1.1.1 hc1.1.2 hc1.2 ho hc1.1.1.1.2 hc1.1.1.2 hw hid hL hv ih
       ·cases hr
      ·cases hr
     ·cases hr
    ·rename_i h2 h3;have hs:(match Region.ready .any all listed with|[j]=>Nat.beq i j|_=>false)=true∧(Nat.beq f 1=true→(listed.setIfInBounds i true).getD m false=true):=by
      split at hc1
      ·exact absurd rfl h2
      ·exact absurd rfl h3
      ·simp only[Bool.and_eq_true]at hc1;exact⟨hc1.1,λ_=>hc1.2⟩
      ·rename_i h1;exact⟨hc1,λhb=>absurd (Nat.eq_of_beq_eq_true hb) h1⟩
     have hrd:=tx hs.1;split at hr
     ·rename_i v hv;rw[Fm.puto_eq]at hr;have ih:=jW hT r fuel _ _ _ hc2 hr k;exact Aj hrd ho hw (λS w ρ a hr hF=>oZ hT hr hF hv) ih
     ·split at hr
      ·rename_i v ed hv;split at hr
       ·rename_i hcl;rw[Hp.ap_eq]at hr;have hcl':((bV H.get L&&ed.clear L)||(listed.setIfInBounds i true).getD m false)=true:=by
         rcases sb hcl with h|h
         ·rw[h];rfl
         ·rw[hs.2 h];simp
        cases v with
        |none=>
         simp only[Fm.puto_eq]at hr;exact uw hrd ho hw (λS w ρ a hr hF=>qx hT hr hF H.get_free hv) (nA hv) hcl' (jW hT r fuel _ _ _ hc2 hr k)
        |some v=>
         simp only[Fm.puto_eq]at hr;exact uw hrd ho hw (λS w ρ a hr hF=>qx hT hr hF H.get_free hv) (nA hv) hcl' (jW hT r fuel _ _ _ hc2 hr k)
       ·cases hr
      ·cases hr
   ·cases hr
  ·cases hr
theorem mv{d:Nat}{G:V}(hd:F.get d=some v)(J:cO v G)(k:Go P K Q p s n (F.set d (some G)) H):Go P K Q p s n F H:=λS w ρ a hr hi E=>by
 refine k S w ρ a hr hi ⟨E.size,E.defers,E.gl,by have :=E.len;simpa using this,λi u q=>?_⟩;rw[Fm.get_eq,List.getElem?_set]at q;split at q
 ·rename_i e;subst e;split at q
  ·simp only[Option.bind_some,id_eq,Option.some.injEq]at q;subst q;obtain⟨x,h1,h2⟩:=E.get d v hd;exact⟨x,h1,J _ _ _ _ h2⟩
  ·cases q
 ·exact E.get i u (by rw[Fm.get_eq];exact q)
theorem gB{e:Bool}(d:Nat)(hd:F.get d=some (.bool e))(h1:F.put d (some (.bool true)) id=F1)(h2:F.put d (some (.bool false)) id=F2)(kT:e=true→Go P K Q p s n F1 H)(kF:e=false→Go P K Q p s n F2 H):Go P K Q p s n F H:=by
 rw[Fm.put_eq]at h1 h2;subst h1 h2;cases q:e with
 |true=>exact mv hd (by rw[q];exact cO.rfl) (kT q)
 |false=>exact mv hd (by rw[q];exact cO.rfl) (kF q)
theorem gT{e:Bool}(d:Nat)(hd:F.get d=some (.bool e))(q:e=true)(h1:F.put d (some (.bool true)) id=F1)(k:Go P K Q p s n F1 H):Go P K Q p s n F H:=by
 rw[Fm.put_eq]at h1;subst h1;exact mv hd (by rw[q];exact cO.rfl) k
theorem gF{e:Bool}(d:Nat)(hd:F.get d=some (.bool e))(q:e=false)(h1:F.put d (some (.bool false)) id=F1)(k:Go P K Q p s n F1 H):Go P K Q p s n F H:=by
 rw[Fm.put_eq]at h1;subst h1;exact mv hd (by rw[q];exact cO.rfl) k
theorem gV(d:Nat)(q:V)(hd:F.get d=some v)(E:v=q)(h1:F.put d (some q) id=F1)(k:Go P K Q p s n F1 H):Go P K Q p s n F H:=by
 rw[Fm.put_eq]at h1;subst h1;exact mv hd (by rw[E];exact cO.rfl) k
theorem an{m l:Int}(h:-9223372036854775808≤m∧m≤9223372036854775807)(e:m=l):V.int .i64 (IntKind.i64.wrap m)=.int .i64 l:=by
 subst e;rw[IntWalk.i64_in _ (by omega)]
def slT(T:Tab)(t:TypeId):Option (TypeId×Nat):=match T.ty t with
 |some ⟨_,_,_,.sl e⟩=>match T.ty e with
  |some ⟨sz,_,_,_⟩=>some (e,sz)
  |none=>none
 |_=>none
theorem ld(q:TabOk P T)(h:slT T t=some (e,sz)):P.underlying t=some (.slice e)∧bS P e=some sz:=by
 unfold slT at h;split at h
 ·rename_i ht;split at h
  ·rename_i E;simp only[Option.some.injEq,Prod.mk.injEq]at h;obtain⟨rfl,rfl⟩:=h;exact⟨(q.ty _ _ ht).sl rfl,(q.ty _ _ E).size⟩
  ·cases h
 ·cases h
theorem yIR(E:TabOk P T)(ht:slT T t=some (e,sz))(hx:aF F x=some (.row sz els))(hy:aF F y=some (.int .i64 (i:Int)))(hi:els[i]?=some v):∀S w ρ a,HRel S w ρ H.get→FRel S w ρ a n F→Yld P S w ρ a ty (.indexAddr t x y) (.box v.cells 0):=λS w ρ a hr q=>
 p_idxR q.fr (ld E ht).1 (ld E ht).2 (al q hx) (al q hy) hi
theorem yIO(E:TabOk P T){G:TypeId}{id:Nat}(ht:slT T t=some (e,sz))(hx:aF F x=some (.sl id))(J:H.get id=.row G sz els)(hy:aF F y=some (.int .i64 (i:Int)))(hi:i<els.length):∀S w ρ a,HRel S w ρ H.get→FRel S w ρ a n F→Yld P S w ρ a ty (.indexAddr t x y) (.el id sz i 0):=λS w ρ a hr q=>
 p_idxO hr J q.fr (ld E ht).1 (ld E ht).2 (al q hx) (al q hy) hi
theorem gY(hy:∀S w ρ a,HRel S w ρ H.get→FRel S w ρ a n F→Yld P S w ρ a o.type o.op v)(q:aV F all o.guard=some true)(h1:F.puto o.dst (some v) id=F1)(k:Go P K Q (.ops all rest) s n F1 H):Go P K Q (.ops all (o::rest)) s n F H:=by
 rw[Fm.puto_eq]at h1;subst h1;exact go_opY q hy k
mutual
def mapV(f:V→V):V→V
 |.agg cs=>.agg (mapVs f cs)
 |.tup cs=>.tup (mapVs f cs)
 |.clo fid cs=>.clo fid (mapVs f cs)
 |.sl j=>f (.sl j)
 |.int k n=>f (.int k n)
 |.bool b=>f (.bool b)
 |.str l=>f (.str l)
 |.nilp=>f .nilp
 |.nils=>f .nils
 |.raw x=>f (.raw x)
 |.ptr i o=>f (.ptr i o)
 |.el i sz j o=>f (.el i sz j o)
 |.box cs o=>f (.box cs o)
 |.row sz els=>f (.row sz els)
 |.lk els=>f (.lk els)
 |.np i=>f (.np i)
def mapVs(f:V→V):List V→List V
 |[]=>[]
 |v::r=>mapV f v::mapVs f r
end
mutual
theorem VRel.mapV{S S':Nat→Prop}{w:World}{ρ:Nat→Option Value}{f:V→V}(hf:∀v x,VRel S w ρ v x→VRel S' w ρ (f v) x):∀{v:V} {x:Value},VRel S w ρ v x→VRel S' w ρ (mapV f v) x
 |.int _ _,x,h=>by simp only[Go.Proofs.YtojjjmkmkbnieaaGreat.mapV];exact hf _ _ h
 |.bool _,x,h=>by simp only[Go.Proofs.YtojjjmkmkbnieaaGreat.mapV];exact hf _ _ h
 |.str _,x,h=>by simp only[Go.Proofs.YtojjjmkmkbnieaaGreat.mapV];exact hf _ _ h
 |.nilp,x,h=>by simp only[Go.Proofs.YtojjjmkmkbnieaaGreat.mapV];exact hf _ _ h
 |.nils,x,h=>by simp only[Go.Proofs.YtojjjmkmkbnieaaGreat.mapV];exact hf _ _ h
 |.raw _,x,h=>by simp only[Go.Proofs.YtojjjmkmkbnieaaGreat.mapV];exact hf _ _ h
 |.box _ _,x,h=>by simp only[Go.Proofs.YtojjjmkmkbnieaaGreat.mapV];exact hf _ _ h
 |.row _ _,x,h=>by simp only[Go.Proofs.YtojjjmkmkbnieaaGreat.mapV];exact hf _ _ h
 |.lk _,x,h=>by simp only[Go.Proofs.YtojjjmkmkbnieaaGreat.mapV];exact hf _ _ h
 |.ptr _ _,x,h=>by simp only[Go.Proofs.YtojjjmkmkbnieaaGreat.mapV];exact hf _ _ h
 |.el _ _ _ _,x,h=>by simp only[Go.Proofs.YtojjjmkmkbnieaaGreat.mapV];exact hf _ _ h
 |.sl j,x,h=>by simp only[Go.Proofs.YtojjjmkmkbnieaaGreat.mapV];exact hf _ _ h
 |.np j,x,h=>by simp only[Go.Proofs.YtojjjmkmkbnieaaGreat.mapV];exact hf _ _ h
 |.agg cs,x,h=>by
  simp only[Go.Proofs.YtojjjmkmkbnieaaGreat.mapV,VRel]at h⊢;obtain⟨xs,h1,h2⟩:=h;exact⟨xs,h1,LRel.mapV hf h2⟩
 |.tup cs,x,h=>by
  simp only[Go.Proofs.YtojjjmkmkbnieaaGreat.mapV,VRel]at h⊢;obtain⟨xs,h1,h2⟩:=h;exact⟨xs,h1,LRel.mapV hf h2⟩
 |.clo fid cs,x,h=>by
  simp only[Go.Proofs.YtojjjmkmkbnieaaGreat.mapV,VRel]at h⊢;obtain⟨xs,h1,h2⟩:=h;exact⟨xs,h1,LRel.mapV hf h2⟩
theorem LRel.mapV{S S':Nat→Prop}{w:World}{ρ:Nat→Option Value}{f:V→V}(hf:∀v x,VRel S w ρ v x→VRel S' w ρ (f v) x):∀{v:List V} {x:List Value},LRel S w ρ v x→LRel S' w ρ (mapVs f v) x
 |[],x,h=>by simp only[mapVs,LRel]at h⊢;exact h
 |v::r,x,h=>by
  simp only[mapVs,LRel]at h⊢;obtain⟨y,ys,h1,h2,h3⟩:=h;exact⟨y,ys,h1,VRel.mapV hf h2,LRel.mapV hf h3⟩
end
def kv(f:V→V):Fm→Fm
 |[]=>[]
 |none::r=>none::kv f r
 |some v::r=>some (mapV f v)::kv f r
theorem rv{f:V→V}:∀(F:Fm) (i:Nat),(kv f F).get i=(F.get i).map (mapV f)
 |[],i=>by simp[kv,Fm.get]
 |none::r,0=>by simp[kv,Fm.get]
 |some v::r,0=>by simp[kv,Fm.get]
 |none::r,i+1=>by simp[kv,Fm.get,rv r i]
 |some v::r,i+1=>by simp[kv,Fm.get,rv r i]
theorem qV{f:V→V}:∀(F:Fm),(kv f F).length=F.length
 |[]=>rfl
 |none::r=>by simp[kv,qV r]
 |some v::r=>by simp[kv,qV r]
def kU(f:V→V)(id:Nat):List (Nat×Ob)→List (Nat×Ob)
 |[]=>[]
 |(j,o)::r=>match Nat.beq j id with
  |true=>kU f id r
  |false=>match o with
   |.var t cs=>(j,.var t (mapVs f cs))::kU f id r
   |o=>(j,o)::kU f id r
theorem pK{f:V→V}{id i:Nat}:∀{l:List (Nat×Ob)},am (kU f id l) i=if i=id then .gone else match am l i with|.var t cs=>.var t (mapVs f cs)|o=>o
 |[]=>by simp[kU,am]
 | (j,o)::r=>by
  have ih:=pK (f:=f) (id:=id) (i:=i) (l:=r);simp only[kU];by_cases hj:j=id
  ·subst hj;rw[nbT];simp only[];rw[ih];by_cases hi:i=j
   ·simp[hi]
   ·rw[if_neg hi,if_neg hi];simp only[am,nbF (Ne.symm hi)]
  ·rw[nbF hj];simp only[];by_cases hi:j=i
   ·subst hi;rw[if_neg hj];cases o<;>simp only[am,nbT]
   ·have e2:am ((j,o)::r) i=am r i:=by simp only[am,nbF hi]
    rw[e2,←ih];cases o<;>simp only[am,nbF hi]
theorem go_frz{f:V→V}{id:Nat}(hid:H.get id≠.free)(hf:∀S w ρ,HRel S w ρ H.get→∀v x,VRel S w ρ v x→VRel (λb=>S b∨own ρ id (H.get id) b) w ρ (f v) x)(h1:kv f F=F1)(h2:(⟨H.nx,kU f id H.es⟩:Hp)=H1)(k:Go P K Q p s n F1 H1):Go P K Q p s n F H:=λS w ρ a hr hi O=>by
 subst h1 h2;obtain⟨g1,g2⟩:=eO (id:=id) hr;have hlt:id<H.nx:=by
  rcases Nat.lt_or_ge id H.nx with h|h
  ·exact h
  ·exfalso;apply hid;unfold Hp.get;have :Nat.blt id H.nx=false:=by cases E:Nat.blt id H.nx;rfl;simp[Nat.blt_eq]at E;omega
   rw[this]
 have Z:∀i,(⟨H.nx,kU f id H.es⟩:Hp).get i=if i=id then .gone else match H.get i with|.var t cs=>.var t (mapVs f cs)|o=>o:=λi=>by
  unfold Hp.get;by_cases hi:i=id
  ·subst hi;simp only[nlT hlt,if_true,pK]
  ·simp only[if_neg hi];cases E:Nat.blt i H.nx
   ·rfl
   ·simp only[pK,if_neg hi]
 have U:∀i,i≠id→own ρ i ((⟨H.nx,kU f id H.es⟩:Hp).get i)=own ρ i (H.get i):=λi q=>by
  rw[Z i,if_neg q];cases H.get i<;>rfl
 have hhr:HRel (λb=>S b∨own ρ id (H.get id) b) w ρ (⟨H.nx,kU f id H.es⟩:Hp).get:=by
  have J:∀i b,own ρ i ((⟨H.nx,kU f id H.es⟩:Hp).get i) b→i≠id∧own ρ i (H.get i) b:=λi b E=>by
   by_cases q:i=id
   ·subst q;rw[Z i,if_pos rfl]at E;exact E.elim
   ·rw[U i q]at E;exact⟨q,E⟩
  refine⟨λi=>?_,λi b E=>?_,λi j b hbi hbj=>hr.dis i j b (J i b hbi).2 (J j b hbj).2,g1.slt⟩
  ·rw[Z i];by_cases q:i=id
   ·rw[if_pos q];trivial
   ·rw[if_neg q];have G:=g1.ob i;rw[bN _ _ q]at G;have h1:=hr.ob i;cases ho:H.get i with
    |var t cs=>
     rw[ho]at h1;obtain⟨b,xs,q1,q2,q3⟩:=h1;exact⟨b,xs,q1,q2,q3.mapV (hf S w ρ hr)⟩
    |_=>rw[ho]at G;exact G
  ·have :=J i b E;exact g1.sep i b (by rw[bN _ _ this.1];exact this.2)
 have q:Inv K (λb=>S b∨own ρ id (H.get id) b) w ρ (⟨H.nx,kU f id H.es⟩:Hp).get:=by
  have G:=hi.frz hr id;refine⟨G.chg,G.s0,G.s1,λi b E=>?_,G.pin⟩;by_cases q:i=id
  ·subst q;rw[Z i,if_pos rfl]at E;exact E.elim
  ·rw[U i q]at E;exact hi.ow i b E
 have :=k _ w ρ a hhr q ⟨O.size,O.defers,λp hp=>(O.gl p hp).up (eO (id:=id) hr).2.z,by rw[qV];exact O.len,λi u hu=>by
  rw[rv]at hu;obtain⟨v,h3,h4⟩:=Option.map_eq_some_iff.1 hu;obtain⟨x,h5,h6⟩:=O.get i v h3;exact⟨x,h5,by rw[←h4];exact h6.mapV (hf S w ρ hr)⟩⟩
 cases p with
 |drw all L m left listed=>exact λhs=>ry (pa (λb E=>.inl E) Agree.refl) (λx _ h=>h) _ _ _ _ (this hs)
 |code c=>exact this
 |ops all rest=>exact this
 |ex e=>exact this
def fzR(id sz:Nat)(els:List V):V→V
 |.sl j=>match Nat.beq j id with
  |true=>.row sz els
  |false=>.sl j
 |v=>v
def fzP(id:Nat)(cs:List V):V→V
 |.ptr j o=>match Nat.beq j id with
  |true=>.box cs o
  |false=>.ptr j o
 |v=>v
theorem gFR(id:Nat)(E:H.get id=.row e sz els)(q:pureL els=true)(h1:kv (fzR id sz els) F=F1)(h2:(⟨H.nx,kU (fzR id sz els) id H.es⟩:Hp)=H1)(k:Go P K Q p s n F1 H1):Go P K Q p s n F H:=
 go_frz (f:=fzR id sz els) (by rw[E];simp) (λS w ρ hr v x hx=>by
  unfold fzR;split
  ·split
   ·rename_i G;have :=Nat.eq_of_beq_eq_true G;subst this;exact se hr E q hx
   ·exact hx.up (eO hr).2
  ·exact hx.up (eO hr).2) h1 h2 k
theorem gFP(id:Nat)(E:H.get id=.var t cs)(q:pureL cs=true)(h1:kv (fzP id cs) F=F1)(h2:(⟨H.nx,kU (fzP id cs) id H.es⟩:Hp)=H1)(k:Go P K Q p s n F1 H1):Go P K Q p s n F H:=
 go_frz (f:=fzP id cs) (by rw[E];simp) (λS w ρ hr v x hx=>by
  unfold fzP;split
  ·split
   ·rename_i G;have :=Nat.eq_of_beq_eq_true G;subst this;exact yR hr E q hx
   ·exact hx.up (eO hr).2
  ·exact hx.up (eO hr).2) h1 h2 k
def mkF:Nat→Nat→List (Nat×V)→Fm
 |0,_,_=>[]
 |n+1,i,[]=>none::mkF n (i+1) []
 |n+1,i,(j,v)::r=>match Nat.beq i j with
  |true=>some v::mkF n (i+1) r
  |false=>none::mkF n (i+1) ((j,v)::r)
end
mutual
def vEq:V→V→Bool
 |.int k n,v=>match v with
  |.int k' n'=>kEq k k'&&iEq n n'
  |_=>false
 |.bool b,v=>match v with
  |.bool c=>b==c
  |_=>false
 |.str l,v=>match v with
  |.str l'=>lEq l l'
  |_=>false
 |.nilp,v=>match v with
  |.nilp=>true
  |_=>false
 |.nils,v=>match v with
  |.nils=>true
  |_=>false
 |.ptr i o,v=>match v with
  |.ptr j p=>Nat.beq i j&&Nat.beq o p
  |_=>false
 |.el i z k o,v=>match v with
  |.el i' z' k' o'=>Nat.beq i i'&&Nat.beq z z'&&Nat.beq k k'&&Nat.beq o o'
  |_=>false
 |.sl i,v=>match v with
  |.sl j=>Nat.beq i j
  |_=>false
 |.np i,v=>match v with
  |.np j=>Nat.beq i j
  |_=>false
 |.row z cs,v=>match v with
  |.row z' cs'=>Nat.beq z z'&&vEqL cs cs'
  |_=>false
 |.agg cs,v=>match v with
  |.agg cs'=>vEqL cs cs'
  |_=>false
 |.tup cs,v=>match v with
  |.tup cs'=>vEqL cs cs'
  |_=>false
 |.raw _,_=>false
 |.box _ _,_=>false
 |.clo _ _,_=>false
 |.lk _,_=>false
def vEqL:List V→List V→Bool
 |[],vs=>match vs with
  |[]=>true
  |_::_=>false
 |v::r,vs=>match vs with
  |u::q=>vEq v u&&vEqL r q
  |[]=>false
end
mutual
theorem vEq_eq:∀{v u:V},vEq v u=true→v=u
 | .int k n,u,h=>by
  unfold vEq at h;split at h
  ·rename_i k' n';simp only[Bool.and_eq_true,pC,beq_iff_eq]at h;obtain⟨h1,h2⟩:=h;have :k=k':=by
    unfold kEq at h1;split at h1<;>first|rfl|cases h1
   rw[this,h2]
  ·cases h
 |.bool b,u,h=>by
  unfold vEq at h;split at h
  ·rw[beq_iff_eq]at h;rw[h]
  ·cases h
 |.str l,u,h=>by
  unfold vEq at h;split at h
  ·rw[oy,beq_iff_eq]at h;rw[h]
  ·cases h
 |.nilp,u,h=>by
  unfold vEq at h;split at h
  ·rfl
  ·cases h
 |.nils,u,h=>by
  unfold vEq at h;split at h
  ·rfl
  ·cases h
 | .ptr i o,u,h=>by
  unfold vEq at h;split at h
  ·simp only[Bool.and_eq_true,Nat.beq_eq]at h;obtain⟨rfl,rfl⟩:=h;rfl
  ·cases h
 | .el i z k o,u,h=>by
  unfold vEq at h;split at h
  ·simp only[Bool.and_eq_true,Nat.beq_eq]at h;obtain⟨⟨⟨rfl,rfl⟩,rfl⟩,rfl⟩:=h;rfl
  ·cases h
 |.sl i,u,h=>by
  unfold vEq at h;split at h
  ·rw[Nat.beq_eq]at h;rw[h]
  ·cases h
 |.np i,u,h=>by
  unfold vEq at h;split at h
  ·rw[Nat.beq_eq]at h;rw[h]
  ·cases h
 | .row z cs,u,h=>by
  unfold vEq at h;split at h
  ·simp only[Bool.and_eq_true,Nat.beq_eq]at h;obtain⟨rfl,h2⟩:=h;rw[vEqL_eq h2]
  ·cases h
 |.agg cs,u,h=>by
  unfold vEq at h;split at h
  ·rw[vEqL_eq h]
  ·cases h
 |.tup cs,u,h=>by
  unfold vEq at h;split at h
  ·rw[vEqL_eq h]
  ·cases h
 |.raw _,u,h=>by unfold vEq at h;cases h
 |.box _ _,u,h=>by unfold vEq at h;cases h
 |.clo _ _,u,h=>by unfold vEq at h;cases h
 |.lk _,u,h=>by unfold vEq at h;cases h
theorem vEqL_eq:∀{v u:List V},vEqL v u=true→v=u
 |[],u,h=>by
  unfold vEqL at h;split at h
  ·rfl
  ·cases h
 | v::r,u,h=>by
  unfold vEqL at h;split at h
  ·simp only[Bool.and_eq_true]at h;rw[vEq_eq h.1,vEqL_eq h.2]
  ·cases h
end
def fmB (σ:List Nat):Fm→Fm→Bool
 |[],F'=>match F' with
  |[]=>true
  |_::_=>false
 |x ::r,F'=>match F' with
  |[]=>false
  |y::r'=>(match y with
   |none=>true
   |some u=>match x with
    |some v=>vEq v (u.ren σ)
    |none=>false)&&fmB σ r r'
theorem zI{σ:List Nat}:∀{F F':Fm},fmB σ F F'=true→leF σ F F'∧F.length=F'.length
 |[],F',h=>by
  unfold fmB at h;split at h
  ·simp[leF]
  ·cases h
 | x ::r,F',h=>by
  unfold fmB at h;split at h
  ·cases h
  ·rename_i y r';simp only[Bool.and_eq_true]at h;obtain⟨h1,h2⟩:=h;obtain⟨g1,g2⟩:=zI h2;refine⟨?_,by simp[g2]⟩;cases y with
   |none=>simp only[leF];exact g1
   | some u=>
    simp only at h1;split at h1
    ·rename_i v;simp only[leF];exact⟨⟨v,rfl,cO.of_eq (vEq_eq h1)⟩,g1⟩
    ·cases h1
theorem aH.of_eq{v u:List V}(h:v=u):aH v u:=h▸aH.rfl
def obB(o:Ob):Ob→Bool
 |.gone=>true
 |.var t cs=>match o with
  |.var q cs'=>Nat.beq q t&&vEqL cs' cs
  |_=>false
 |.row e z els=>match o with
  |.row E G els'=>Nat.beq E e&&Nat.beq G z&&vEqL els' els
  |_=>false
 |_=>false
theorem Ej{o:Ob}(h:obB o o'=true):lq o o':=by
 unfold obB at h;split at h
 ·cases o<;>simp[lq]
 ·split at h
  ·simp only[Bool.and_eq_true,Nat.beq_eq]at h;obtain⟨rfl,h2⟩:=h;exact⟨rfl,aH.of_eq (vEqL_eq h2)⟩
  ·cases h
 ·split at h
  ·simp only[Bool.and_eq_true,Nat.beq_eq]at h;obtain⟨⟨rfl,rfl⟩,h2⟩:=h;exact⟨rfl,rfl,vEqL_eq h2⟩
  ·cases h
 ·cases h
def hpB(σ:List Nat)(H:Hp):List (Nat×Ob)→Bool
 |[]=>true
 |(j,o)::r=>(match atN σ j with
  |some i=>obB (H.get i) (o.ren σ)
  |none=>false)&&hpB σ H r
theorem AG{σ:List Nat}{H:Hp}:∀{l:List (Nat×Ob)},hpB σ H l=true→leH σ H l
 |[],_=>by simp[leH]
 | (j,o)::r,h=>by
  simp only[hpB,Bool.and_eq_true]at h;obtain⟨h1,h2⟩:=h;simp only[leH];refine⟨?_,AG h2⟩;split at h1
  ·rename_i i hi;exact⟨i,hi,Ej h1⟩
  ·cases h1
def Gw(k i:Nat):Nat:=match Nat.beq i k with
 |true=>k+1
 |false=>match Nat.beq i (k+1)with
  |true=>k
  |false=>i
def CQ(k:Nat):Nat→List Nat→List Nat
 |0,acc=>acc
 |n+1,acc=>ey (Gw k n) λx=>CQ k n (x::acc)
def vn(k:Nat)(F:Fm)(H:Hp)(F':Fm)(H':Hp):Bool:=
 listK (CQ k H'.nx []) λσ=>fmB σ F F'&&hpB σ H H'.es&&(bL σ&&Nat.ble σ.length H'.nx&&qt σ (List.range k))
variable{P:Program}
theorem go_alike{K:Ctx}{Q:Exit→Act→World→Prop}{s:List EI}{n:Nat}{F F':Fm}{H':Hp}{e:Exit}{k:Nat}(h:vn k F H F' H'=true)(q:∀id x,K.pin id=some x→id<k)(c:Go P K Q (.ex e) s n F' H'):Go P K Q (.ex e) s n F H:=λS w ρ a hr hi hf=>by
 unfold vn at h;rw[bP]at h;simp only[Bool.and_eq_true]at h;obtain⟨⟨h1,h2⟩,⟨E,G⟩,J⟩:=h;obtain⟨O,U⟩:=zI h1;refine go_sub _ (List.range k) rfl (λid x h=>List.mem_range.2 (q id x h)) O (AG h2) ?_ c S w ρ a hr hi hf;simp only[Bool.and_eq_true];exact⟨⟨⟨E,G⟩,J⟩,by rw[←U];exact Nat.ble_eq_true_of_le hf.len⟩
inductive Rs where
 |ok (e:Bool) (F:Fm) (H:Hp)
 |pt (p:EP) (s:List EI) (F:Fm) (H:Hp)
 |er (n m:Nat)
def Ee:V→List Nat→List Nat
 |.ptr id _,acc=>id::acc
 |.el id _ _ _,acc=>id::acc
 |.sl id,acc=>id::acc
 |_,acc=>acc
def Co:List V→List Nat→List Nat
 |[],acc=>acc
 |v::r,acc=>Co r (Ee v acc)
def Ew:V→List Nat→List Nat
 |.agg cs,acc=>Co cs acc
 |v,acc=>Ee v acc
def oX:List V→List Nat→List Nat
 |[],acc=>acc
 |.tup vs::r,acc=>oX r (vs.foldl (λacc v=>Ew v acc) acc)
 |v::r,acc=>oX r (Ew v acc)
def ib(i:Nat):List Nat→Bool
 |[]=>false
 |j::r=>match Nat.beq i j with
  |true=>true
  |false=>ib i r
def mc(H:Hp):Nat→List Nat→List Nat→List Nat
 |0,_,acc=>acc
 |_+1,[],acc=>acc
 |n+1,id::r,acc=>match ib id acc with
  |true=>mc H n r acc
  |false=>match H.get id with
   |.var _ cs=>mc H n (Co cs r) (id::acc)
   |_=>mc H n r (id::acc)
def qh{α:Type}(R:List Nat):List (Nat×Ob)→(List (Nat×Ob)→α)→α
 |[],c=>c []
 |(i,o)::r,c=>match ib i R with
  |true=>qh R r λq=>c ((i,o)::q)
  |false=>qh R r c
def pc{α:Type}(nx:Nat)(R:List Nat):List (Nat×Ob)→(List (Nat×Ob)→α)→α
 |[],c=>c []
 |(i,o)::r,c=>match !ib i R&&Nat.blt i nx with
  |true=>match o with
   |.free=>pc nx R r λq=>c ((i,.gone)::q)
   |o=>pc nx R r λq=>c ((i,o)::q)
  |false=>pc nx R r c
def yN {α:Type} (lo:Nat) (H:Hp) (v:V) (c:V→Hp→α):α:=match v with
 |.sl id=>match Nat.ble lo id with
  |true=>match H.get id with
   |.row _ sz els=>match pureL els with
    |true=>sZ id H.es λes=>c (.row sz els) ⟨H.nx,es⟩
    |false=>c v H
   |_=>c v H
  |false=>c v H
 |_=>c v H
def yW{α:Type}(lo:Nat)(H:Hp):List V→(List V→Hp→α)→α
 |[],c=>c [] H
 |v::r,c=>yN lo H v λq H'=>yW lo H' r λE H''=>c (q::E) H''
def BH(lo:Nat)(H:Hp)(v:V)(c:V→Hp→α):α:=match v with
 |.agg cs=>yW lo H cs λcs H'=>c (.agg cs) H'
 |v=>yN lo H v c
def uR{α:Type}(lo:Nat)(H:Hp):List V→(List V→Hp→α)→α
 |[],c=>c [] H
 |v::r,c=>BH lo H v λq H'=>uR lo H' r λE H''=>c (q::E) H''
def Aa(H:Hp):List Nat→Bool
 |[]=>false
 |i::r=>match H.get i with
  |.row _ _ _=>true
  |_=>Aa H r
def DQ(o:Oper):Bool:=match o.op with
 |.store .. =>true
 |_=>false
def Fu(o:Oper):Bool:=match o.op with
 |.alloc .. =>false
 |.box .. =>false
 |.store .. =>false
 |.buildSlice .. =>false
 |.makeSlice .. =>false
 |.call ⟨.builtin .len,_,_⟩=>true
 |.call ⟨.builtin .max,_,_⟩=>true
 |.call .. =>false
 |_=>true
def xc:Nat→List Oper→Nat
 |i,[]=>i
 |i,o::r=>match DQ o with
  |true=>i
  |false=>xc (i+1) r
def pR (T:Tab) (H:Hp) (all:Array Oper):List Oper→Fm→List Nat→List Nat→List Nat
 |[],_,rd,cl=>rd.filter λi=>!ib i cl
 |o ::r,F,rd,cl=>match aV F all o.guard with
  |some false=>F.puto o.dst (some (.tup [])) λF'=>pR T H all r F' rd cl
  |_ =>match kr T H.get F o.op with
   |some v=>F.puto o.dst (some v) λF'=>pR T H all r F' rd cl
   |none=>match ov F o.op with
    |some id=>match jX T H.get F H.nx o.op with
     |some (v,_)=>F.puto o.dst v λF'=>pR T H all r F' (match ib id rd with|true=>rd|false=>id::rd) cl
     |none=>F.puto o.dst none λF'=>pR T H all r F' rd cl
    |none=>match o.op with
     |.call ⟨.value (.func _),⟨args⟩,_⟩=>match fe F args with
      |some vs=>F.puto o.dst none λF'=>pR T H all r F' rd (mc H 40 (oX vs []) cl)
      |none=>F.puto o.dst none λF'=>pR T H all r F' rd cl
     |_=>F.puto o.dst none λF'=>pR T H all r F' rd cl
def si (F:Fm) (all:Array Oper) (L:List Nat) (m:Nat) (listed:Array Bool):List Nat→Option Nat
 |[]=>none
 |i ::r=>match all[i]? with
  |some o=>match Nat.beq i m with
   |true=>si F all L m listed r
   |false=>match Fu o with
    |true=>match Region.free .any all listed i with
     |true=>some i
     |false=>si F all L m listed r
    |false=>si F all L m listed r
  |none=>none
section
variable(T:Tab)(ih:EP→List EI→Fm→Hp→Rs)
def yU (keep:Bool) (vs:List V) (fn:Func) (b:Code) (H:Hp) (L:List Nat) (ok:Bool) (c:V→Hp→Rs):Rs:=
 match mc H 40 (oX vs []) []with
 |R => match(bV H.get L&&L.all λi=>!ib i R)||ok with
  |true=>qh R H.es λes1=>match ih (.code b) [] (jx fn.ntmps vs) ⟨H.nx,es1⟩with
   |.ok _ F1 H1=>match mM T H1.get F1 fn.results.toList with
    |some rs=>match Nat.ble H.nx H1.nx with
     |true=>match keep||Aa H R with
      |true=>pc H.nx R H.es λes2=>c (jY rs) ⟨H1.nx,H1.es++es2⟩
      |false=>uR H.nx H1 rs λrs H2=>match mc H2 60 (oX rs R) []with
       |R2=>qh R2 H2.es λes3=>pc H.nx R H.es λes2=>c (jY rs) ⟨H2.nx,es3++es2⟩
     |false=>.er 1 0
    |none=>.er 2 0
   |.er n m=>.er n m
   |.pt .. =>.er 3 0
  |false=>.er 4 0
def pg (F:Fm) (H:Hp) (L:List Nat) (ok:Bool) (o:Oper) (c:Option V→Hp→Rs):Rs:=
 match kr T H.get F o.op with
 |some v=>c (some v) H
 |none =>match ey H.nx λnid=>jX T H.get F nid o.op with
  |some (v,ed)=>match(bV H.get L&&ed.clear L)||ok with
   |true=>H.ap ed λH'=>match v with
    |some v=>c (some v) H'
    |none=>c (some (.tup [])) H'
   |false=>.er 5 0
  |none =>match o.op with
   |.call ⟨.value (.func fid),⟨args⟩,_⟩=>match fe F args with
    |some vs=>match T.nat fid vs with
     |some v=>c (some v) H
     |none=>match T.fn fid with
      |some fn=>match fn.body with
       |some b=>match Nat.ble vs.length fn.ntmps with
        |true=>yU T ih (T.keep fid) vs fn b H L ok λv H'=>c (some v) H'
        |false=>.er 6 fid
       |none=>.er 7 fid
      |none=>.er 8 fid
    |none=>.er 9 fid
   |_=>.er (10000+o.type) (match o.dst with|some d=>d|none=>999)
def vQ(l:List Nat)(j:Nat):Bool:=match l with
 |[x]=>Nat.beq x j
 |_=>false
def yv(x y i:Nat):Nat:=match Nat.beq x i with
 |true=>y
 |false=>match Nat.beq y i with
  |true=>x
  |false=>i
def uq (all:Array Oper) (L:List Nat) (m i:Nat) (o:Oper) (ps:List (Nat×Operand)) (v:V) (s:List EI):Nat→Array Bool→Fm→Hp→Rs
 |left, listed,F,H=>match bV H.get L||(listed.setIfInBounds i true).getD m false with
  |true =>match Region.ready .any all listed with
   |[x]=>match Nat.beq x i with
    |true=>F.puto o.dst (some v) λF'=>ih (.drw all L m left (listed.setIfInBounds i true)) s F' H
    |false=>.er 41 i
   |[x, y]=>match left with
    |0=>.er 42 i
    |left+1=>ey (yv x y i) λj=>match Nat.beq j i with
     |true=>.er 43 i
     |false=>match all[j]? with
      |some oj=>match vQ (Region.ready .any all (listed.setIfInBounds i true)) j&&um o.dst oj.dst&&nU oj.dst ps&&(match o.dst with|some t=>(F.get t).isNone|none=>true)with
       |true=>match aV F all oj.guard with
        |some true=>pg T ih F H L ((listed.setIfInBounds j true).getD m false&&((listed.setIfInBounds j true).setIfInBounds i true).getD m false) oj λu H'=>F.puto oj.dst u λF'=>uq all L m i o ps v s left (listed.setIfInBounds j true) F' H'
        |_=>.er 44 i
       |false=>.er 45 i
      |none=>.er 46 i
   |_=>.er 47 i
  |false=>.er 48 i
def oo (T:Tab) (F:Fm) (all:Array Oper):List Nat→Option (Nat×Oper×List (Nat×Operand)×V)
 |[]=>none
 |i ::r=>match all[i]? with
  |some ⟨_,.buildSlice _ _ ⟨ps⟩,_,_,_,none⟩=>match jE F ps with
   |some vs=>match nu T all i vs with
    |some (o,ps',v)=>some (i,o,ps',v)
    |none=>oo T F all r
   |none=>oo T F all r
  |_=>oo T F all r
def Bl (all:Array Oper) (L:List Nat) (m left i j:Nat) (listed:Array Bool) (s:List EI) (F:Fm) (H:Hp):Rs:=match all[i]? with
 |some oi=>match all[j]? with
  |some oj=>match aV F all oi.guard with
   |some true=>match aV F all oj.guard with
    |some true=>pg T ih F H L ((listed.setIfInBounds i true).getD m false) oi λui Hi=>F.puto oi.dst ui λFi=>match ih (.drw all L m left (listed.setIfInBounds i true)) [] Fi Hi with
     |.ok false F1 H1=>pg T ih F H L ((listed.setIfInBounds j true).getD m false) oj λuj Hj=>F.puto oj.dst uj λFj=>match ih (.drw all L m left (listed.setIfInBounds j true)) [] Fj Hj with
      |.ok false F2 H2=>match vn H.nx F2 H2 F1 H1 with
       |true=>ih (.ex .normal) s F1 H1
       |false=>.er 51 i
      |.er a b=>.er a b
      |_=>.er 52 i
     |.er a b=>.er a b
     |_=>.er 53 i
    |_=>.er 54 i
   |_=>.er 55 i
  |none=>.er 56 i
 |none=>.er 57 i
def zu(c:Code)(s:List EI)(F:Fm)(H:Hp):Rs:=match c with
 |.seq x y=>ih (.code x) (.seq y::s) F H
 |.block id c=>ih (.code c) (.blk id::s) F H
 |.skip=>ih (.ex .normal) s F H
 |.ret=>ih (.ex .ret) s F H
 |.exit id=>ih (.ex (.exit id)) s F H
 |.scope c=>ih (.code c) (.scp::s) F H
 |.label _=>ih (.ex .normal) s F H
 |.loop c=>ih (.code c) (.loop c 1000000::s) F H
 |.cond c x y=>match aF F c with
  |some (.bool true)=>ih (.code x) s F H
  |some (.bool false)=>ih (.code y) s F H
  |_=>.er 11 0
 |.region _ ⟨l⟩ false=>ih (.ops ⟨l⟩ l) s F H
 |.region _ ⟨l⟩ true=>match Region.noSelect ⟨l⟩with
  |true=>listK (pR T H ⟨l⟩ l F [] []) λL=>ey (xc 0 l) λm=>ey l.length λn=>ih (.drw ⟨l⟩ L m n (Array.replicate n false)) s F H
  |false=>.er 13 0
 |_=>.er 14 0
def vc(all:Array Oper)(rest:List Oper)(s:List EI)(F:Fm)(H:Hp):Rs:=match rest with
 |[]=>ih (.ex .normal) s F H
 |o::r=>match aV F all o.guard with
  |some false=>F.puto o.dst (some (.tup [])) λF'=>ih (.ops all r) s F' H
  |some true=>pg T ih F H [] true o λv H'=>F.puto o.dst v λF'=>ih (.ops all r) s F' H'
  |none=>.er 15 0
def zp(e:Exit)(s:List EI)(F:Fm)(H:Hp):Rs:=match s with
 |[]=>match e with
  |.normal=>.ok false F H
  |.ret=>.ok true F H
  |_=>.er 16 0
 |.seq c::s=>match e with
  |.normal=>ih (.code c) s F H
  |.exit i=>ih (.ex (.exit i)) s F H
  |.ret=>ih (.ex .ret) s F H
  |_=>.er 17 0
 |.loop c j::s=>match e with
  |.normal=>match j with
   |0=>.er 18 0
   |j+1=>ih (.code c) (.loop c j::s) F H
  |.exit i=>ih (.ex (.exit i)) s F H
  |.ret=>ih (.ex .ret) s F H
  |_=>.er 19 0
 |.scp::s=>match e with
  |.normal=>ih (.ex .normal) s F H
  |.exit i=>ih (.ex (.exit i)) s F H
  |.ret=>ih (.ex .ret) s F H
  |_=>.er 20 0
 |.blk id::s=>match e with
  |.normal=>ih (.ex .normal) s F H
  |.exit i=>match Nat.beq i id with
   |true=>ih (.ex .normal) s F H
   |false=>ih (.ex (.exit i)) s F H
  |.ret=>ih (.ex .ret) s F H
  |_=>.er 21 0
def yC (all:Array Oper) (L:List Nat) (m left:Nat) (listed:Array Bool) (s:List EI) (F:Fm) (H:Hp):Rs:=match Region.ready .any all listed with
 |[]=>ih (.ex .normal) s F H
 |i :: R =>match left with
  |0=>.er 22 0
  |left + 1=>match R with
   |[]=>match all[i]? with
    |some o=>match aV F all o.guard with
     |some false=>F.puto o.dst (some (.tup [])) λF'=>ih (.drw all L m left (listed.setIfInBounds i true)) s F' H
     |some true=>pg T ih F H L ((listed.setIfInBounds i true).getD m false) o λv H'=>F.puto o.dst v λF'=>ih (.drw all L m left (listed.setIfInBounds i true)) s F' H'
     |none=>.er (6000+all.size) i
    |none=>.er 24 0
   |_ => match si F all L m listed (i::R)with
    |some i=>match all[i]? with
     |some o=>match(Region.ready .any all listed).contains i&&Region.free .any all listed i&&!Nat.beq i m with
      |true=>match aV F all o.guard with
       |some false=>F.puto o.dst (some (.tup [])) λF'=>ih (.drw all L m left (listed.setIfInBounds i true)) s F' H
       |some true=>match kr T H.get F o.op with
        |some v=>F.puto o.dst (some v) λF'=>ih (.drw all L m left (listed.setIfInBounds i true)) s F' H
        |none=>match ov F o.op with
         |some id=>match L.contains id&&ja .any all m i&&!listed.getD m false with
          |true=>match jX T H.get F H.nx o.op with
           |some (some v,_)=>F.puto o.dst (some v) λF'=>ih (.drw all L m left (listed.setIfInBounds i true)) s F' H
           |_=>.er (4000+all.size) i
          |false=>.er (2000+all.size) i
         |none=>.er (3000+all.size) i
       |none=>.er (5000+all.size) i
      |false=>.er 29 i
     |none=>.er 30 i
    |none=>match oo T F all (i::R)with
     |some (i,o,ps,v)=>F.puto o.dst none λF'=>uq T ih all L m i o ps v s left listed F' H
     |none=>match R with
      |[j]=>Bl T ih all L m left i j listed s F H
      |_=>.er (1000+all.size) i
def AC(p:EP)(s:List EI)(F:Fm)(H:Hp):Rs:=match p with
 |.code c=>zu T ih c s F H
 |.ops all rest=>vc T ih all rest s F H
 |.ex e=>zp ih e s F H
 |.drw all L m left listed=>yC T ih all L m left listed s F H
end
def run(T:Tab):Nat→EP→List EI→Fm→Hp→Rs
 |0,p,s,F,H=>.pt p s F H
 |k+1,p,s,F,H=>AC T (run T k) p s F H
set_option maxRecDepth 100000
def tyL:List (Nat×TD):=[
 (31,⟨4,72,.agg [.int .i64 0,.str [],.nils,.nils],.struct [(0,1,true),(1,1,true),(2,1,true),(3,1,true)]⟩),
 (3,⟨1,8,.int .i64 0,.sc⟩),
 (9,⟨1,16,.str [],.str⟩),
 (25,⟨1,24,.nils,.sl 31⟩),
 (29,⟨1,24,.nils,.sl 9⟩),
 (107,⟨1,24,.nils,.sl 110⟩),
 (5,⟨1,1,.int .u8 0,.sc⟩),
 (57,⟨1,8,.nilp,.sc⟩),
 (22,⟨1,24,.nils,.sl 3⟩),
 (61,⟨3,40,.agg [.int .i64 0,.str [],.str []],.struct [(0,1,true),(1,1,true),(2,1,true)]⟩),
 (125,⟨4,32,.agg [.int .i64 0,.int .i64 0,.int .i64 0,.int .i64 0],.struct [(0,1,true),(1,1,true),(2,1,true),(3,1,true)]⟩),
 (72,⟨1,8,.nilp,.sc⟩),
 (110,⟨2,32,.agg [.str [],.str []],.struct [(0,1,true),(1,1,true)]⟩),
 (54,⟨1,24,.nils,.sl 61⟩),
 (27,⟨1,24,.nils,.sl 33⟩),
 (59,⟨5,56,.agg [.nils,.int .i64 0,.int .i64 0,.int .i64 0,.int .i64 0],.struct [(0,1,true),(1,1,true),(2,1,true),(3,1,true),(4,1,true)]⟩),
 (39,⟨1,8,.int .i64 0,.sc⟩),
 (46,⟨1,24,.nils,.sl 68⟩),
 (33,⟨3,56,.agg [.nils,.nils,.bool false],.struct [(0,1,true),(1,1,true),(2,1,true)]⟩),
 (49,⟨3,72,.agg [.nils,.nils,.nils],.struct [(0,1,true),(1,1,true),(2,1,true)]⟩),
 (68,⟨2,40,.agg [.str [],.nils],.struct [(0,1,true),(1,1,true)]⟩),
 (94,⟨2,32,.agg [.nils,.int .i64 0],.struct [(0,1,true),(1,1,true)]⟩),
 (4,⟨1,1,.bool false,.bool⟩),
 (79,⟨1,8,.nilp,.sc⟩),
 (76,⟨1,8,.nilp,.sc⟩)]
def lK{α:Type}:List (Nat×α)→Nat→Option α
 |[],_=>none
 |(i,x)::r,j=>match Nat.beq i j with
  |true=>some x
  |false=>lK r j
def tyB(P:Program):List (Nat×TD)→Bool
 |[]=>true
 |(t,d)::r=>tdB P t d&&tyB P r
theorem AL{P:Program}:∀{l:List (Nat×TD)},tyB P l=true→∀t d,lK l t=some d→TdOk P t d
 |[],_,t,d,h=>by cases h
 | (i,x)::r,hb,t,d,h=>by
  simp only[tyB,Bool.and_eq_true]at hb;simp only[lK]at h;split at h
  ·rename_i e;have :=Nat.eq_of_beq_eq_true e;subst this;injection h with h;subst h
   exact Ef hb.1
  ·exact AL hb.2 t d h
theorem At:∀t d,lK tyL t=some d→TdOk prog t d:=AL (by kernel_rfl)
noncomputable def fnL:List (Nat×Func):=[(12,f12),(21,f21),(22,Tryz.f22),(23,f23),(36,Tryz.f36),(37,f37),(38,f38),(39,f39),(40,f40),(41,f41),(42,f42),(43,f43),(44,f44),(61,f61),(62,f62),(63,f63),(64,f64),(65,f65),(67,f67),(68,f68),(69,f69),(70,f70),(87,f87),(88,f88),(89,f89),(90,f90),(83,f83),(92,f92),(105,f105),(106,f106),(118,f118),(119,f119)]
def fnB(P:Program):List (Nat×Func)→Prop
 |[]=>True
 |(i,f)::r=>(P.funcs[i]?=some f∧bE P i=true)∧fnB P r
theorem zQ{P:Program}:∀{l:List (Nat×Func)},fnB P l→∀i f,lK l i=some f→P.funcs[i]?=some f∧bE P i=true
 |[],_,i,f,h=>by cases h
 | (j,x)::r,hb,i,f,h=>by
  simp only[lK]at h;split at h
  ·rename_i e;have :=Nat.eq_of_beq_eq_true e;subst this;injection h with h;subst h
   exact hb.1
  ·exact zQ hb.2 i f h
theorem FG:∀i f,lK fnL i=some f→prog.funcs[i]?=some f∧bE prog i=true:=zQ ⟨⟨func12,by kernel_rfl⟩,⟨func21,by kernel_rfl⟩,⟨func22,by kernel_rfl⟩,⟨func23,by kernel_rfl⟩,⟨func36,by kernel_rfl⟩,⟨func37,by kernel_rfl⟩,⟨func38,by kernel_rfl⟩,⟨func39,by kernel_rfl⟩,⟨func40,by kernel_rfl⟩,⟨func41,by kernel_rfl⟩,⟨func42,by kernel_rfl⟩,⟨func43,by kernel_rfl⟩,⟨func44,by kernel_rfl⟩,⟨func61,by kernel_rfl⟩,⟨func62,by kernel_rfl⟩,⟨func63,by kernel_rfl⟩,⟨func64,by kernel_rfl⟩,⟨func65,by kernel_rfl⟩,⟨func67,by kernel_rfl⟩,⟨func68,by kernel_rfl⟩,⟨func69,by kernel_rfl⟩,⟨func70,by kernel_rfl⟩,⟨func87,by kernel_rfl⟩,⟨func88,by kernel_rfl⟩,⟨func89,by kernel_rfl⟩,⟨func90,by kernel_rfl⟩,⟨func83,by kernel_rfl⟩,⟨func92,by kernel_rfl⟩,⟨func105,by kernel_rfl⟩,⟨func106,by kernel_rfl⟩,⟨func118,by kernel_rfl⟩,⟨func119,by kernel_rfl⟩,trivial⟩
open Go.RowKit Lx Sx
def tg:Tab:=⟨false,lK tyL,λ_=>none,λ_ _=>none,λ_=>false⟩
theorem ac:TabOk prog tg:=⟨At,(λ_ _ h=>by cases h),(λ_ _ _ h=>by cases h)⟩
mutual
def treeV:Tree→V
 |.node k s ls ks=>.agg [.int .i64 k,.str s,.row 1 (ls.map .str),.row 4 (kidsV ks)]
def kidsV:List Tree→List V
 |[]=>[]
 |t::r=>treeV t::kidsV r
end
abbrev ak(t:Tree):List V:=[.int .i64 t.kind,.str t.text,.row 1 (t.leads.map .str),.row 4 (kidsV t.kids)]
abbrev oJ(t:Tree):V:=.agg (ak t)
theorem ig(t:Tree):treeV t=oJ t:=by cases t;simp[treeV,Tree.kind,Tree.text,Tree.leads,Tree.kids]
theorem gU:∀(ks:List Tree),(kidsV ks).length=ks.length
 |[]=>rfl
 |t::r=>by simp[kidsV,gU r]
theorem aq:∀{ks:List Tree} {i:Nat} {u:Tree},ks[i]?=some u→(kidsV ks)[i]?=some (oJ u)
 |[],i,u,h=>by simp at h
 |t::r,0,u,h=>by
  simp only[List.getElem?_cons_zero,Option.some.injEq]at h;subst h;simp[kidsV,ig]
 |t::r,i+1,u,h=>by
  simp only[List.getElem?_cons_succ]at h;simpa[kidsV]using aq h
theorem fF:∀(a b:List Tree),kidsV (a++b)=kidsV a++kidsV b
 |[],b=>rfl
 |t::r,b=>by simp[kidsV,fF r b]
theorem zo(t:Tree):(oJ t).pure=true:=rfl
theorem sx:∀(ks:List Tree),pureL (kidsV ks)=true
 |[]=>rfl
 |t::r=>by simp only[kidsV,pureL,ig,zo,sx r]
def nJ(P:Program)(fid:FuncId)(us:List V)(v:V):Prop:=pureL us=true∧v.pure=true∧Sum P fid us ⟨0,[]⟩ (λu _=>u=v)
theorem iZ(i:Nat):(⟨0,[]⟩:Hp).get i=.free:=by
 unfold Hp.get;have :Nat.blt i 0=false:=by cases i<;>rfl
 simp only[this]
theorem un{K:Ctx}(U:nJ P fid us v)(hs:aH vs us)(L:List Nat)(hL:bV H.get L=true):CallR P K fid vs H L (λv' H''=>v'=v∧H''=H):=λS w ρ xs hr hi hx=>by
 obtain⟨h1,h2,h3⟩:=U;have Z:HRel S w ρ0 (⟨0,[]⟩:Hp).get:=⟨λi=>by rw[iZ];rfl,λi b q=>by rw[iZ]at q;exact q.elim,λi j b q _=>by rw[iZ]at q;exact q.elim,hr.slt⟩;refine(h3 S w ρ0 xs Z ((hs.rel hx).pure h1)).mono λe w' hR=>?_;obtain⟨x,S',ρ',u,H',rfl,rfl,hr',E,hv⟩:=hR;have G:∀b,¬∃id,own ρ0 id ((⟨0,[]⟩:Hp).get id) b:=λb ⟨id,q⟩=>by rw[iZ]at q;exact q
 have O:Chg [] w w':=⟨E.chg.os,E.chg.tape,E.chg.output,E.chg.size,λb q _=>E.chg.block b q (G b)⟩;have up:Up S S' w w' ρ ρ:=⟨E.s0,λb q hlt=>O.block b hlt (by simp),λ_ _ h=>h⟩;have J:∀b,S' b→S b∨w.heap.size≤b:=λb q=>by
  rcases E.s1 b q with h|h|h
  ·exact .inl h
  ·exact absurd h (G b)
  ·exact .inr h
 refine⟨x,S',ρ,u,H,rfl,⟨rfl,rfl⟩,⟨λi=>(hr.ob i).up up (λhf=>?_) (λb q=>O.block b (eo (hr.ob i) q) (by simp)),λi b q=>?_,hr.dis,hr'.slt⟩,⟨hi.chg.trans (ChgP.of O) (λb q=>by simp at q),λb q=>E.s0 b (hi.s0 b q),λb q=>?_,hi.ow,hi.pin⟩,up,hv.pure h2,λid hid y b hy q=>?_⟩
 ·have :=hr.ob i;rw[hf]at this;exact this
 ·intro U;rcases J b U with h|h
  ·exact hr.sep i b q h
  ·have :=eo (hr.ob i) q;omega
 ·rcases J b q with h|h
  ·exact hi.s1 b h
  ·exact .inr (.inr (Nat.le_trans hi.chg.size h))
 ·exact O.block b (eo (hr.ob id) (km hr hL id hid y b hy q)) (by simp)
theorem jT[BEq α][LawfulBEq α]{a b:α}(h:(a !=b)=false):a=b:=by simpa using h
variable{g:Option (Nat×Bool)}
section
variable{K:Ctx}{Q:Exit→Act→World→Prop}{p p':EP}{s s':List EI}{n:Nat}{F F' F1 F2:Fm}{H H' H1:Hp}{all:Array Oper}{rest:List Oper}{o:Oper}
theorem gR(k:Nat)(h:ef tg k p s F H=some (p',s',F',H'))(kk:Go prog K Q p' s' n F' H'):Go prog K Q p s n F H:=cf ac k p s F H h kk
theorem gC{args:List Operand}{tys:Array TypeId}{d:Option Tmp}{ty:TypeId}{ps:String}{af:Array Edge}(q:dd PL prog fid us H0 Post)(σ:List Nat)(E:bE prog fid=true)(G:aV F all g=some true)(hv:fe F args=some vs)(J:aH vs (renL σ us))(hH:leH σ H H0.es)(O:(bL σ&&Nat.beq σ.length H0.nx&&σ.all λi=>Nat.blt i H.nx)=true)
  (k:∀v H',Post v H'→Go prog K Q (.ops all rest) s n (F.seto d (some (v.ren (sgN PL H.nx H0.get H'.nx σ 0)))) (jw PL H σ H0 H')):Go prog K Q (.ops all (⟨d,.call {callee:=.value (.func fid),args:=args.toArray,argTypes:=tys},ty,ps,af,g⟩::rest)) s n F H:=
 go_opC (o:=⟨d,.call {callee:=.value (.func fid),args:=args.toArray,argTypes:=tys},ty,ps,af,g⟩) E rfl G hv (mJ q σ J hH O [] (by simp[bV])) λv' H'' ⟨v,H',U,Z,e2⟩=>by subst Z e2;exact k v H' U
theorem gC0{args:List Operand}{tys:Array TypeId}{ty:TypeId}{ps:String}{af:Array Edge}(q:nJ prog fid us v)(E:bE prog fid=true)(G:aV F all g=some true)(hv:fe F args=some vs)(J:aH vs us)(h1:F.puto d (some v) id=F1)
  (k:Go prog K Q (.ops all rest) s n F1 H):Go prog K Q (.ops all (⟨d,.call {callee:=.value (.func fid),args:=args.toArray,argTypes:=tys},ty,ps,af,g⟩::rest)) s n F H:=by
 rw[Fm.puto_eq]at h1;subst h1;exact go_opC (o:=⟨d,.call {callee:=.value (.func fid),args:=args.toArray,argTypes:=tys},ty,ps,af,g⟩) E rfl G hv (un q J [] rfl) λZ H'' ⟨O,U⟩=>by subst O U;exact k
def slB(T:Tab)(t:TypeId):Option (TypeId×Nat×Nat):=match T.ty t with
 |some ⟨_,_,_,.sl e⟩=>match T.ty e with
  |some ⟨sz,by_,_,_⟩=>match Nat.blt 0 sz&&Nat.ble by_ 100000 with
   |true=>some (e,sz,by_)
   |false=>none
  |none=>none
 |_=>none
theorem Fw{T:Tab}(E:TabOk P T){by_:Nat}(h:slB T t=some (e,sz,by_)):P.underlying t=some (.slice e)∧0<sz∧by_≤100000∧∃z:Value,(P.info? e).map (λi=>(i.zero,i.size,i.bytes))=some (some z,sz,by_)∧z.cells.size=sz:=by
 unfold slB at h;split at h
 ·rename_i ht;split at h
  ·rename_i G;split at h
   ·rename_i q;simp only[Option.some.injEq,Prod.mk.injEq]at h;obtain⟨rfl,rfl,rfl⟩:=h;simp only[Bool.and_eq_true,Nat.blt_eq,Nat.ble_eq]at q;obtain⟨z,h1,_,J,_⟩:=(E.ty _ _ G).info;exact⟨(E.ty _ _ ht).sl rfl,q.1,q.2,z,h1,J⟩
   ·cases h
  ·cases h
 ·cases h
theorem dAp{T:Tab}(E:TabOk P T){by_ id:Nat}{news:List V}{ty:TypeId}(ht:slB T t=some (e,sz,by_))(hx:aF F x=some (.sl id))(G:H.get id=.row e sz els)(hy:aF F y=some v)(J:uF H.get sz v=some news)(O:els.length+news.length≤1000000000):
  ∀S w ρ a,HRel S w ρ H.get→FRel S w ρ a n F→Does P S w ρ H.get a ty (.call {callee:=.builtin .append,args:=#[x,y],argTypes:=#[t,t]}) (some (.sl H.nx)) ((ED.repl id (.row e sz (els++news))).app H.get H.nx) (ED.repl id (.row e sz (els++news))).tch:=λS w ρ a hr q=>by
 obtain⟨h1,h2,U,z,Z,h5⟩:=Fw E ht;obtain⟨u,g1,g2⟩:=xn hr q hy J;exact vp hr q.fr H.get_free g1 g2 h1 Z h5 h2 (al q hx) G (by simp only[maxLen];omega) (Nat.le_trans (Nat.mul_le_mul O U) (by decide))
variable{L:List Nat}{m fuel c:Nat}{listed:Array Bool}
theorem gDs{id:Nat}(L:List Nat)(m sz:Nat)(hsz:l.length=sz)(q:prog.follows .mixedOrders=true)(E:Region.noSelect l.toArray=true)(k:Go prog K Q (.drw l.toArray L m sz (Array.replicate sz false)) s n F H):Go prog K Q (.code (.region id l.toArray true)) s n F H:=xX L m sz hsz q E k
theorem gDr(is:List (Nat×Nat))(q:uY all m is listed=true)(E:is.length=c)(hr:kK tg all L is F H=some (F',H'))(k:Go prog K Q (.drw all L m fuel (zt is listed)) s n F' H'):Go prog K Q (.drw all L m (fuel+c) listed) s n F H:=by
 subst E;exact jW ac is fuel listed F H q hr k
theorem gDe(hd:Region.ready .any all listed=[])(k:Go prog K Q (.ex .normal) s n F H):Go prog K Q (.drw all L m fuel listed) s n F H:=vG hd k
theorem bD{args:List Operand}{tys:Array TypeId}{vs:List V}{ty:TypeId}{ps:String}{af:Array Edge}{g:Option (Nat×Bool)}(i:Nat)(E:nJ prog fid us v)(G:bE prog fid=true)(hi:all[i]?=some ⟨d,.call {callee:=.value (.func fid),args:=args.toArray,argTypes:=tys},ty,ps,af,g⟩)(q:Region.ready .any all listed=[i])(J:aV F all g=some true)(hv:fe F args=some vs)(O:aH vs us)(U:bV H.get L=true)(h1:F.puto d (some v) id=F1)
  (k:Go prog K Q (.drw all L m fuel (listed.setIfInBounds i true)) s n F1 H):Go prog K Q (.drw all L m (fuel+1) listed) s n F H:=by
 rw[Fm.puto_eq]at h1;subst h1;exact go_d1C G q hi rfl J hv (un E O L U) (.inl rfl) λv' H'' ⟨Z,e2⟩=>by subst Z e2;exact k
theorem gDC{args:List Operand}{tys:Array TypeId}{vs:List V}{ty:TypeId}{ps:String}{af:Array Edge}{g:Option (Nat×Bool)}(i:Nat)(E:dd PL prog fid us H0 Post)(σ:List Nat)(G:bE prog fid=true)(hi:all[i]?=some ⟨d,.call {callee:=.value (.func fid),args:=args.toArray,argTypes:=tys},ty,ps,af,g⟩)(q:Region.ready .any all listed=[i])(J:aV F all g=some true)(hv:fe F args=some vs)(O:aH vs (renL σ us))(hH:leH σ H H0.es)(U:(bL σ&&Nat.beq σ.length H0.nx&&σ.all λi=>Nat.blt i H.nx)=true)(Z:(bV H.get L&&L.all λi=>!σ.contains i)=true)
  (k:∀v H',Post v H'→Go prog K Q (.drw all L m fuel (listed.setIfInBounds i true)) s n (F.seto d (some (v.ren (sgN PL H.nx H0.get H'.nx σ 0)))) (jw PL H σ H0 H')):Go prog K Q (.drw all L m (fuel+1) listed) s n F H:=
 go_d1C G q hi rfl J hv (mJ E σ O hH U L Z) (.inl rfl) λv' H'' ⟨v,H',hP,e1,e2⟩=>by subst e1 e2;exact k v H' hP
end
def ae(f:Func):Code:=match f.body with
 |some c=>c
 |none=>.skip
def cA:Code→Code
 |.seq x _=>x
 |c=>c
def cB:Code→Code
 |.seq _ y=>y
 |c=>c
def cK:Code→Code
 |.block _ c=>c
 |c=>c
def cL:Code→Code
 |.loop c=>c
 |c=>c
def cT:Code→Code
 |.cond _ x _=>x
 |c=>c
def cE:Code→Code
 |.cond _ _ y=>y
 |c=>c
theorem apM(f:α→V)(l:List α)(x:α):List.map f l++[f x]=List.map f (l++[x]):=by simp
theorem sR(l:List Tree):l.map oJ=kidsV l:=by
 induction l with
 |nil=>rfl
 |cons t r ih=>simp[kidsV,ig,ih]
theorem lv(x:Tree):[oJ x]=kidsV [x]:=by simp[kidsV,ig]
theorem pH:∀(l:List Tree),kidsV l=l.map oJ
 |[]=>rfl
 |t::r=>by simp[kidsV,ig,pH r]
theorem au{f:α→V}{l:List α}{x:α}(h:l[i]?=some x):(List.map f l)[i]?=some (f x):=by simp[h]
theorem aN(l:List Tree):(kidsV l).length=l.length:=gU l
theorem ax(f:α→V)(l:List α):(List.map f l).length=l.length:=List.length_map ..
theorem aW{n:Nat}{m:Nat}(h:n=m):V.int .i64 (n:Int)=.int .i64 (m:Int):=by rw[h]
theorem Bx:∀(l:List Tree) (i:Nat) (x:Tree),(kidsV l).set i (oJ x)=kidsV (l.set i x)
 |[],i,x=>rfl
 |t::r,0,x=>by simp[kidsV,ig]
 |t::r,i+1,x=>by simp[kidsV,Bx r i x]
theorem mN(f:α→V)(l:List α)(i:Nat)(x:α):(List.map f l).set i (f x)=List.map f (l.set i x):=by simp
theorem CP(f:α→V)(l:List α)(i:Nat):(List.map f l).take i=List.map f (l.take i):=by simp
theorem GB(f:α→V)(l:List α)(i j:Nat):((List.map f l).drop i).take j=List.map f ((l.drop i).take j):=by simp[List.map_drop,List.map_take]
theorem tn(σ:List Nat):∀(l:List Tree),renL σ (kidsV l)=kidsV l
 |[]=>rfl
 |t::r=>by simp only[kidsV,renL,tn σ r];rw[ig];rfl
theorem dN{α:Type}(σ:List Nat)(f:α→V)(hf:∀x,(f x).ren σ=f x):∀(l:List α),renL σ (List.map f l)=List.map f l
 |[]=>rfl
 |x::r=>by simp only[List.map_cons,renL,hf,dN σ f hf r]
theorem cN(l:List Tree):pureL (kidsV l)=true:=sx l
theorem ie{α:Type}(f:α→V)(hf:∀x,(f x).pure=true):∀(l:List α),pureL (List.map f l)=true
 |[]=>rfl
 |x::r=>by simp only[List.map_cons,pureL,hf,ie f hf r]
theorem cx{e:Bool}(h:(!e)=true):e=false:=by simpa using h
theorem cw{e:Bool}(h:(!e)=false):e=true:=by simpa using h
theorem mj[BEq α][LawfulBEq α]{a b:α}(h:(a !=b)=true):a≠b:=by simpa using h
theorem ec{a:Nat}(h:decide ((a:Int)<(b:Int))=true):a<b:=by have :=of_decide_eq_true h;omega
theorem ej{a:Nat}(h:decide ((a:Int)<(b:Int))=false):¬a<b:=by have :=of_decide_eq_false h;omega
theorem FC{a:Nat}(h:((a:Int)!=(b:Int))=true):a≠b:=by have :=mj h;omega
theorem EB{a:Nat}(h:((a:Int)!=(b:Int))=false):a=b:=by have :=jT h;omega
variable{m:Int}
theorem ds{n:Int}(h:n=m):V.int .i64 n=.int .i64 m:=by rw[h]
abbrev InI(x:Int):Prop:=-9223372036854775808≤x∧x≤9223372036854775807
variable{N:Nat}
variable{els':List V}
variable{f:Nat→Option Value}{u:TypeId}
section
variable{P:Program}{T:Tab}{K:Ctx}{Q:Exit→Act→World→Prop}{p p':EP}{s s':List EI}{n:Nat}{F F' F1 F2:Fm}{H H' H1:Hp}{all:Array Oper}{rest:List Oper}{o:Oper}{L:List Nat}{m fuel:Nat}{listed:Array Bool}
theorem gS(d:Nat)(q:V)(hd:F.get d=some v)(E:cO v q)(h1:F.put d (some q) id=F1)(k:Go P K Q p s n F1 H):Go P K Q p s n F H:=by
 rw[Fm.put_eq]at h1;subst h1;exact mv hd E k
theorem By{id:Nat}{o:Ob}(q:h id=o):bM h id o=h:=by
 funext i
 by_cases hi:i=id
 ·subst hi;rw[bi,q]
 ·rw[bN _ _ hi]
theorem gHR(id:Nat)(els':List V)(q:H.get id=.row e sz els)(G:els=els')(h2:H.ap (.set id (.row e sz els')) _root_.id=H1)(k:Go P K Q p s n F H1):Go P K Q p s n F H:=by
 subst G;rw[Hp.ap_eq]at h2;subst h2;have E:(H.app (.set id (.row e sz els))).get=H.get:=by
  rw[Hp.get_app (by exact⟨by rw[q];simp,by rw[q];simp⟩)];exact By q
 intro S w ρ a hr hi J;exact k S w ρ a (by rw[id_eq,E];exact hr) (by rw[id_eq,E];exact hi) J
theorem CRel.sub{w:World}:∀{vs us:List V} {xs:List Value},aH vs us→CRel S w ρ sz vs xs→CRel S w ρ sz us xs
 |[],us,xs,h,E=>by simp only[aH]at h;subst h;exact E
 |v::r,us,xs,h,E=>by
  simp only[aH]at h;obtain⟨u,q,rfl,h1,h2⟩:=h;simp only[CRel]at E⊢;obtain⟨x,ys,rfl,G,J,O⟩:=E;exact⟨x,ys,rfl,G,h1 _ _ _ _ J,O.sub h2⟩
theorem aH.len:∀{vs us:List V},aH vs us→us.length=vs.length
 |[],us,h=>by simp only[aH]at h;subst h;rfl
 |v::r,us,h=>by
  simp only[aH]at h;obtain⟨u,q,rfl,_,h2⟩:=h;simp[h2.len]
theorem aH.rep{a b:V}(h:cO a b):∀n,aH (List.replicate n a) (List.replicate n b)
 |0=>aH.nil
 |n+1=>aH.cons h (aH.rep h n)
theorem gHW(id:Nat)(els':List V)(hp:p.still=true)(G:H.get id=.row e sz els)(O:aH els els')(h2:H.ap (.set id (.row e sz els')) _root_.id=H1)(k:Go P K Q p s n F H1):Go P K Q p s n F H:=by
 rw[Hp.ap_eq]at h2;subst h2;have U:(H.app (.set id (.row e sz els'))).get=bM H.get id (.row e sz els'):=Hp.get_app (by exact⟨by rw[G];simp,by rw[G];simp⟩);intro S w ρ a hr hi Z;have q:∀i b,own ρ i (bM H.get id (.row e sz els') i) b↔own ρ i (H.get i) b:=λi b=>by
  by_cases hi:i=id
  ·subst hi;rw[bi,G];rfl
  ·rw[bN _ _ hi]
 refine k S w ρ a ?_ ?_ Z
 ·rw[id_eq,U];refine⟨λi=>?_,λi b J=>hr.sep i b ((q i b).1 J),λi j b h1 h2=>hr.dis i j b ((q i b).1 h1) ((q j b).1 h2),hr.slt⟩;by_cases E:i=id
  ·subst E;rw[bi];obtain⟨v,xs,h1,h2,h3⟩:=gw hr G;exact⟨v,xs,h1,by rw[O.len];exact h2,h3.sub O⟩
  ·rw[bN _ _ E];exact hr.ob i
 ·rw[id_eq,U];exact⟨hi.chg,hi.s0,hi.s1,λi b J=>hi.ow i b ((q i b).1 J),hi.pin⟩
def ul(PL:List Nat):List (Nat×Ob)→List Nat→Bool
 |[],_=>true
 |(i,o)::r,pv=>(!ik PL i o||pv.contains i)&&ul PL r pv
theorem wm{PL:List Nat}:∀{es:List (Nat×Ob)} {pv:List Nat},ul PL es pv=true→∀i,ik PL i (am es i)=true→i∈pv
 |[],pv,h,i,hi=>by simp[am,ik]at hi
 | (j,o)::r,pv,h,i,hi=>by
  simp only[ul,Bool.and_eq_true,Bool.or_eq_true,Bool.not_eq_true']at h;simp only[am]at hi;split at hi
  ·rename_i e;have :=Nat.eq_of_beq_eq_true e;subst this;rcases h.1 with h1|h1
   ·rw[h1]at hi;cases hi
   ·simpa using h1
  ·exact wm h.2 i hi
theorem Gc{nx:Nat}{es:List (Nat×Ob)}{pv:List Nat}(h:ul PL es pv=true):∀i,ik PL i ((⟨nx,es⟩:Hp).get i)=true→i∈pv:=λi hi=>by
 unfold Hp.get at hi;split at hi
 ·exact wm h i hi
 ·simp[ik]at hi
def kE(ids:List Nat):List (Nat×Ob)→List (Nat×Ob)
 |[]=>[]
 |(j,o)::r=>match ids.contains j with
  |true=>kE ids r
  |false=>(j,o)::kE ids r
theorem sj{ids:List Nat}{i:Nat}:∀{l:List (Nat×Ob)},am (kE ids l) i=am l i∨am (kE ids l) i=.gone
 |[]=>.inl rfl
 | (j, o)::r=>by
  have ih:=sj (ids:=ids) (i:=i) (l:=r);simp only[kE];split
  ·rename_i hc;by_cases hj:j=i
   ·subst hj;refine .inr ?_;have :∀l:List (Nat×Ob),am (kE ids l) j=.gone:=λl=>by
     induction l with
     |nil=>rfl
     | cons p q ihq=>
      obtain⟨k,o'⟩:=p;simp only[kE];split
      ·exact ihq
      ·rename_i hk;have hne:k≠j:=λe=>by subst e;rw[hc]at hk;cases hk
       simp only[am,nbF hne];exact ihq
    exact this r
   ·simp only[am,nbF hj];exact ih
  ·simp only[am];split
   ·exact .inl rfl
   ·exact ih
theorem DI{rs:List ResultVar}{e:Exit}(ids:List Nat)(G:TabOk P T)(q:fn.results=rs.toArray)(hv:mM T H.get F rs=some vs)(J:Post (jY vs) ⟨H.nx,kE ids H.es⟩)(O:e=.ret∨e=.normal:=by first|exact .inl rfl|exact .inr rfl):Go P K (bodyPost P fn (SP K Post)) (.ex e) [] n F H:=λS w ρ a hr hi U=>by
 have E:∀i,(⟨H.nx,kE ids H.es⟩:Hp).get i=H.get i∨(⟨H.nx,kE ids H.es⟩:Hp).get i=.gone:=λi=>by
  unfold Hp.get;cases Z:Nat.blt i H.nx
  ·exact .inl rfl
  ·exact sj
 exact ret_go G O q hr U hv λx hx=>⟨x,S,ρ,_,_,rfl,J,hr.drop E,hi.drop E,hx⟩
theorem gJ(k:Go P K Q p s n F' H')(σ pv:List Nat)(E:p.still=true)(q:ar K pv)(G:leF σ F F')(hH:leH σ H H'.es)(J:(bL σ&&Nat.ble σ.length H'.nx&&qt σ pv&&Nat.ble F'.length n)=true):Go P K Q p s n F H:=go_sub σ pv E q G hH J k
theorem tm{w:World}{nid:Nat}(e:TypeId)(sz:Nat)(hr:HRel S w ρ h)(hf:h nid=.free):Eff S w w ρ (dc ρ nid (.slice none 0 0)) h (bM h nid (.row e sz [])) (λ_=>False):=
 eff_new hr hf (Chg.refl _ _) ⟨_,[],aJ _ _ _,⟨by simp,.inl ⟨rfl,rfl⟩⟩,by simp[CRel]⟩ (λb q=>by
  obtain⟨v,h1,h2⟩:=q;rw[aJ]at h1;cases h1;cases h2)
theorem gNS(d:Nat)(e:TypeId)(sz:Nat)(Z:p.still=true)(hd:F.get d=some .nils)(h1:F.put d (some (.sl H.nx)) id=F1)(h2:H.ap (.new (.row e sz [])) id=H1)(k:Go P K Q p s n F1 H1):Go P K Q p s n F H:=by
 rw[Fm.put_eq]at h1;rw[Hp.ap_eq]at h2;subst h1 h2;intro S w ρ a hr hi J;have G:=tm e sz hr H.get_free;have O:(H.app (.new (.row e sz []))).get=bM H.get H.nx (.row e sz []):=Hp.get_app trivial;have :=k S w (dc ρ H.nx (.slice none 0 0)) a (by rw[id_eq,O];exact G.hr) (by rw[id_eq,O];exact hi.eff G) (by
  have E:=J.up G.up;refine⟨E.size,E.defers,E.gl,by simpa using E.len,λi u q=>?_⟩;rw[id_eq,Fm.get_eq,List.getElem?_set]at q;split at q
  ·rename_i e1;subst e1;split at q
   ·simp only[Option.bind_some,id_eq,Option.some.injEq]at q;subst q;obtain⟨x,h3,U⟩:=J.get d _ hd;simp only[VRel]at U;subst U;exact⟨_,h3,by simp only[VRel];exact⟨aJ _ _ _,rfl⟩⟩
   ·cases q
  ·exact E.get i u (by rw[Fm.get_eq];exact q))
 cases p with
 |drw all L m left listed=>cases Z
 |code c=>exact this
 |ops all rest=>exact this
 |ex e=>exact this
theorem gNC(id o:Nat)(e:TypeId)(sz:Nat)(hp:p.still=true)(O:H.get id=.var t cs)(hc:cs[o]?=some .nils)(h2:(H.ap (.new (.row e sz [])) λH1=>H1.ap (.set id (.var t (cs.set o (.sl H.nx)))) _root_.id)=H1)(k:Go P K Q p s n F H1):Go P K Q p s n F H:=by
 rw[Hp.ap_eq,Hp.ap_eq]at h2;subst h2;intro S w ρ a hr hi hF;have U:=tm e sz hr H.get_free;have Z:(H.app (.new (.row e sz []))).get=bM H.get H.nx (.row e sz []):=Hp.get_app trivial;have hne:id≠H.nx:=λe1=>by subst e1;rw[H.get_free]at O;cases O
 have q:(H.app (.new (.row e sz []))).get id=.var t cs:=by rw[Z,bN _ _ hne,O]
 have G:((H.app (.new (.row e sz []))).app (.set id (.var t (cs.set o (.sl H.nx))))).get=bM (H.app (.new (.row e sz []))).get id (.var t (cs.set o (.sl H.nx))):=Hp.get_app (by exact⟨by rw[q];simp,by rw[q];simp⟩);have h1:HRel S w (dc ρ H.nx (.slice none 0 0)) (H.app (.new (.row e sz []))).get:=by rw[Z];exact U.hr
 have h2:Inv K S w (dc ρ H.nx (.slice none 0 0)) (H.app (.new (.row e sz []))).get:=by rw[Z];exact hi.eff U
 have E:∀i b,own (dc ρ H.nx (.slice none 0 0)) i (bM (H.app (.new (.row e sz []))).get id (.var t (cs.set o (.sl H.nx))) i) b↔own (dc ρ H.nx (.slice none 0 0)) i ((H.app (.new (.row e sz []))).get i) b:=λi b=>by
  by_cases hi:i=id
  ·subst hi;rw[bi,q];rfl
  ·rw[bN _ _ hi]
 have :=k S w (dc ρ H.nx (.slice none 0 0)) a (by
  rw[id_eq,G];refine⟨λi=>?_,λi b hb=>h1.sep i b ((E i b).1 hb),λi j b q1 q2=>h1.dis i j b ((E i b).1 q1) ((E j b).1 q2),h1.slt⟩;by_cases J:i=id
  ·subst J;rw[bi];obtain⟨b,xs,q1,q2,q3⟩:=mG h1 q;obtain⟨x,q4,q5⟩:=q3.get hc;simp only[VRel]at q5;subst q5;refine⟨b,xs,q1,q2,?_⟩;have :=q3.set (i:=o) (v:=.sl H.nx) (x:=.slice none 0 0) (by simp only[VRel];exact⟨aJ _ _ _,rfl⟩);have e2:xs.set o (.slice none 0 0)=xs:=by
    obtain⟨hl,q6⟩:=List.getElem?_eq_some_iff.1 q4;rw[←q6];exact List.set_getElem_self ..
   rw[e2]at this;exact this
  ·rw[bN _ _ J];exact h1.ob i) (by
  rw[id_eq,G];exact⟨h2.chg,h2.s0,h2.s1,λi b hb=>h2.ow i b ((E i b).1 hb),h2.pin⟩) (hF.up U.up)
 cases p with
 |drw all L m left listed=>cases hp
 |code c=>exact this
 |ops all rest=>exact this
 |ex e=>exact this
theorem gLB(d:Nat)(hd:F.get d=some (.row sz els))(G:els.length=N)(k:N≤9223372036854775807→Go P K Q p s n F H):Go P K Q p s n F H:=λS w ρ a hr hi q=>by
 obtain⟨x,h1,h2⟩:=q.get d _ hd;simp only[VRel]at h2;obtain⟨A,c,xs,rfl,J,E,_⟩:=h2;exact k (by simp only[maxLen]at E;omega) S w ρ a hr hi q
theorem gLO(id:Nat)(q:H.get id=.row e sz els)(J:els.length=N)(k:N≤9223372036854775807→Go P K Q p s n F H):Go P K Q p s n F H:=λS w ρ a hr hi E=>by
 obtain⟨v,xs,h1,h2,O⟩:=gw hr q;refine k ?_ S w ρ a hr hi E;rcases h2.2 with⟨_,h⟩|⟨g,cap,cur,_,_,_,U,G,_⟩
 ·omega
 ·simp only[maxLen]at G;omega
def rP(F:Fm)(y:Option Operand)(i:Nat)(dflt:Nat):Prop:=(y=none∧i=dflt)∨∃z,y=some z∧aF F z=some (.int .i64 (i:Int))
theorem GJ:rP F none i i:=.inl ⟨rfl,rfl⟩
theorem He{z:Operand}{d:Nat}(h:aF F z=some (.int .i64 (i:Int))):rP F (some z) i d:=.inr ⟨z,rfl,h⟩
theorem Bg{w:World}(q:FRel S w ρ a n F){y:Option Operand}{d:Nat}(h:rP F y i d):(y=none∧i=d)∨∃z,y=some z∧Opd S w ρ a z (.int .i64 (i:Int)):=h.imp _root_.id λ⟨z,e,h⟩=>⟨z,e,al q h⟩
theorem ySR(O:TabOk P T){lo hi:Option Operand}(ht:slT T t=some (e,sz))(hx:aF F x=some (.row sz els))(E:rP F lo i 0)(G:rP F hi j els.length)(J:i≤j)(U:j≤els.length)(Z:(els.drop i).take (j-i)=els'):∀S w ρ a,HRel S w ρ H.get→FRel S w ρ a n F→Yld P S w ρ a ty (.slice t x lo hi none) (.row sz els'):=λS w ρ a hr q=>by
 subst Z;exact CK q.fr (ld O ht).1 (ld O ht).2 (al q hx) (Bg q E) (Bg q G) J U
theorem GU{lo hi:Option Operand}(J:els.length=N)(O:TabOk P T)(ht:slT T t=some (e,sz))(hx:aF F x=some (.row sz els))(q:rP F lo i 0)(E:rP F hi j N)(G:i≤j)(U:j≤N)(Z:(els.drop i).take (j-i)=els'):∀S w ρ a,HRel S w ρ H.get→FRel S w ρ a n F→Yld P S w ρ a ty (.slice t x lo hi none) (.row sz els'):=by
 subst J;exact ySR O ht hx q E G U Z
theorem Cr(l:List α)(j:Nat):(l.drop 0).take (j-0)=l.take j:=by simp
theorem aG(hi:els[i]?=some v)(q:TabOk P T)(ht:slT T t=some (e,sz))(hx:aF F x=some (.row sz els))(hy:aF F y=some (.int .i64 (i:Int)))(E:v.cells=cs):∀S w ρ a,HRel S w ρ H.get→FRel S w ρ a n F→Yld P S w ρ a ty (.indexAddr t x y) (.box cs 0):=by
 subst E;exact yIR q ht hx hy hi
theorem DZ{w:World}{m l:Int}(h:Fr a n f)(hx:ao f x=some (.int .i64 m))(hy:ao f y=some (.int .i64 l))(q:l≠0):Runs P a ty (.binOp .rem t x y u) w (.value (.int .i64 (Int.tmod m l))) w:=λ_ _ _ _=>by
 simp only[execOp,h.eval hx,h.eval hy];simp[go_sem,eqGuard,Op.intDiv,q]
theorem DA{w:World}{m l:List UInt8}(h:Fr a n f)(hx:ao f x=some (.string ⟨m.toArray⟩))(hy:ao f y=some (.string ⟨l.toArray⟩))(q:m.length+l.length≤9223372036854775807):Runs P a ty (.binOp .add t x y u) w (.value (.string ⟨(m++l).toArray⟩)) w:=λ_ _ _ _=>by
 simp only[execOp,h.eval hx,h.eval hy];simp[go_sem,eqGuard,show¬9223372036854775807<m.length+l.length by omega];rfl
theorem EV{w:World}{m l:List UInt8}(h:Fr a n f)(hx:ao f x=some (.string ⟨m.toArray⟩))(hy:ao f y=some (.string ⟨l.toArray⟩)):Runs P a ty (.binOp .lss t x y u) w (.value (.bool (Op.bytesLess m l))) w:=λ_ _ _ _=>by
 simp only[execOp,h.eval hx,h.eval hy];simp[go_sem,eqGuard]
theorem yLt{m l:List UInt8}(hx:aF F x=some (.str m))(hy:aF F y=some (.str l)):∀S w ρ a,HRel S w ρ H.get→FRel S w ρ a n F→Yld P S w ρ a ty (.binOp .lss t x y u) (.bool (Op.bytesLess m l)):=λS w ρ a hr q=>⟨_,by simp only[VRel],λw' _=>EV q.fr (eQ (al q hx)) (eQ (al q hy))⟩
theorem sO{w:World}(d:Nat)(A:Option Addr)(k c:Nat)(ht:P.underlying t=some (.slice e)):(Op.equalIn (d+1) t (.slice A k c) (.slice none 0 0)).run P w=.ok A.isNone w:=by
 cases A<;>simp[Op.equalIn,run_underlying ht]
theorem uk{w:World}(A:Option Addr)(k c:Nat)(ht:P.underlying t=some (.slice e)):(Op.equal t (.slice A k c) (.slice none 0 0)).run P w=.ok A.isNone w:=sO 9999 A k c ht
theorem Fb{w:World}{A:Option Addr}{k c:Nat}(h:Fr a n f)(ht:P.underlying t=some (.slice e))(hx:ao f x=some (.slice A k c)):Runs P a ty (.binOp .eql t x (.const (.slice none 0 0)) u) w (.value (.bool A.isNone)) w:=λ_ _ _ _=>by
 have q:(binOp .eql t (.slice A k c) (.slice none 0 0)).run P w=.ok (.bool A.isNone) w:=by simp only[binOp];simp[uk A k c ht]
 simp only[execOp,h.eval hx];simp[go_sem,eqGuard,q]
def Ch(h:Nat→Ob):V→Bool
 |.row _ _=>true
 |.sl i=>match h i with|.row _ _ _=>true|_=>false
 |.nils=>true
 |_=>false
def Bt(h:Nat→Ob):V→Nat
 |.row _ els=>els.length
 |.sl i=>match h i with|.row _ _ els=>els.length|_=>0
 |_=>0
theorem DC{w:World}{x:Value}(hr:HRel S w ρ h)(q:Ch h v=true)(hx:VRel S w ρ v x):∃A k c,x=.slice A k c∧(A.isNone=true→Bt h v=0):=by
 unfold Ch at q;split at q
 ·simp only[VRel]at hx;obtain⟨A,c,xs,rfl,_,_,_,J⟩:=hx;refine⟨_,_,_,rfl,λE=>?_⟩;refine Nat.eq_zero_of_not_pos λO=>?_;obtain⟨b,off,rfl,_⟩:=J.2 O;cases E
 ·split at q
  ·rename_i G;obtain⟨v,xs,h1,h2,_⟩:=gw hr G;simp only[VRel]at hx;rw[h1]at hx;obtain⟨e,_⟩:=hx;injection e with e;subst e
   rcases h2.2 with⟨rfl,U⟩|⟨_,_,_,rfl,_⟩
   ·exact⟨_,_,_,rfl,λ_=>by simp only[Bt,G];exact U⟩
   ·exact⟨_,_,_,rfl,λE=>by cases E⟩
  ·cases q
 ·simp only[VRel]at hx;subst hx;exact⟨_,_,_,rfl,λ_=>rfl⟩
 ·cases q
theorem CO{ps:String}{af:Array Edge}(E:TabOk P T)(G:aV F all g=some true)(ht:slT T t=some (e,sz))(hx:aF F x=some v)(hv:Ch H.get v=true)(J:Bt H.get v=N)(k:∀b:Bool,(b=true→N=0)→Go P K Q (.ops all rest) s n (F.seto d (some (.bool b))) H):Go P K Q (.ops all (⟨d,.binOp .eql t x (.const (.slice none 0 0)) u,ty,ps,af,g⟩::rest)) s n F H:=λS w ρ a hr hi q=>by
 show wpList P all (cR P Q s) (⟨d,.binOp .eql t x (.const (.slice none 0 0)) u,ty,ps,af,g⟩::rest) a w;unfold wpList;rw[if_pos (bQ q G)];refine .inl ?_;obtain⟨y,h1,h2⟩:=al q hx;obtain⟨A,kk,c,rfl,O⟩:=DC hr hv h2;have :=Fb (P:=P) (w:=w) (ty:=ty) (u:=u) q.fr (ld E ht).1 h1;unfold Oper.wp;rw[this d ps af g];exact k A.isNone (λU=>by subst J;exact O (by simpa using U)) S w ρ _ hr hi (cj q d (by simp only[VRel]))
theorem GP{m l:Int}(hx:aF F x=some (.int .i64 m))(hy:aF F y=some (.int .i64 l))(E:l≠0):∀S w ρ a,HRel S w ρ H.get→FRel S w ρ a n F→Yld P S w ρ a ty (.binOp .rem t x y u) (.int .i64 (Int.tmod m l)):=λS w ρ a hr q=>⟨_,by simp only[VRel],λw' _=>DZ q.fr (aT (al q hx)) (aT (al q hy)) E⟩
theorem oE{m l:List UInt8}(hx:aF F x=some (.str m))(hy:aF F y=some (.str l))(E:m.length+l.length≤9223372036854775807):∀S w ρ a,HRel S w ρ H.get→FRel S w ρ a n F→Yld P S w ρ a ty (.binOp .add t x y u) (.str (m++l)):=λS w ρ a hr q=>⟨_,by simp only[VRel],λw' _=>DA q.fr (eQ (al q hx)) (eQ (al q hy)) E⟩
theorem zP{G:Hp}(E:dd PL P fid us H0 (λu G'=>u=v∧G'=G))(σ:List Nat)(hv:aH vs (renL σ us))(hH:leH σ H H0.es)(J:(bL σ&&Nat.beq σ.length H0.nx&&σ.all λi=>Nat.blt i H.nx)=true)(L:List Nat)(O:(bV H.get L&&L.all λi=>!σ.contains i)=true):
  CallR P K fid vs H L (λq H''=>q=v.ren (sgN PL H.nx H0.get G.nx σ 0)∧H''=jw PL H σ H0 G):=λS w ρ xs hr hi hx=>
 (mJ E σ hv hH J L O S w ρ xs hr hi hx).mono λe w' U=>by
  obtain⟨x,S',ρ',q,H',h1,⟨u,G',⟨Z,q2⟩,e1,e2⟩,h3⟩:=U;subst Z q2;exact⟨x,S',ρ',q,H',h1,⟨e1,e2⟩,h3⟩
theorem zN{L:List Nat}(i:Nat)(e:TypeId)(sz:Nat)(hv:vs[i]?=some .nils)(k:CallR P K fid (vs.set i (.sl H.nx)) (H.app (.new (.row e sz []))) L Post):CallR P K fid vs H L Post:=λS w ρ xs hr hi hx=>by
 have q:=tm e sz hr H.get_free;have J:(H.app (.new (.row e sz []))).get=bM H.get H.nx (.row e sz []):=Hp.get_app trivial;have E:LRel S w (dc ρ H.nx (.slice none 0 0)) (vs.set i (.sl H.nx)) xs:=by
  obtain⟨x,h1,h2⟩:=hx.get hv;simp only[VRel]at h2;subst h2;have :=(hx.up q.up).set (i:=i) (v:=.sl H.nx) (x:=.slice none 0 0) (by simp only[VRel];exact⟨aJ _ _ _,rfl⟩);have O:xs.set i (.slice none 0 0)=xs:=by
   obtain⟨hl,U⟩:=List.getElem?_eq_some_iff.1 h1;rw[←U];exact List.set_getElem_self ..
  rw[O]at this;exact this
 refine(k S w (dc ρ H.nx (.slice none 0 0)) xs (by rw[J];exact q.hr) (by rw[J];exact hi.eff q) E).mono λe w' Z=>?_;obtain⟨x,S',ρ',v,H',h1,h2,h3,h4,G,h6,h7⟩:=Z;exact⟨x,S',ρ',v,H',h1,h2,h3,h4,⟨G.s,G.blk,λi y h=>G.r i y (q.up.r i y h)⟩,h6,λid hid y b hy hb=>h7 id hid y b (q.up.r _ _ hy) hb⟩
theorem gYd(i:Nat)(hi:all[i]?=some o)(q:(!Nat.beq i m&&Region.free .any all listed i&&(Region.ready .any all listed).contains i)=true)(hy:∀S w ρ a,HRel S w ρ H.get→FRel S w ρ a n F→Yld P S w ρ a o.type o.op v)(E:aV F all o.guard=some true)(h1:F.puto o.dst (some v) id=F1)(k:Go P K Q (.drw all L m fuel (listed.setIfInBounds i true)) s n F1 H):Go P K Q (.drw all L m (fuel+1) listed) s n F H:=by
 rw[Fm.puto_eq]at h1;subst h1;simp only[Bool.and_eq_true,Bool.not_eq_true']at q;exact CF q.1.1 hi q.1.2 q.2 E hy k
theorem dI(i:Nat)(hi:all[i]?=some o)(q:Region.ready .any all listed=[i])(hy:∀S w ρ a,HRel S w ρ H.get→FRel S w ρ a n F→Yld P S w ρ a o.type o.op v)(E:aV F all o.guard=some true)(h1:F.puto o.dst (some v) id=F1)(k:Go P K Q (.drw all L m fuel (listed.setIfInBounds i true)) s n F1 H):Go P K Q (.drw all L m (fuel+1) listed) s n F H:=by
 rw[Fm.puto_eq]at h1;subst h1;exact Aj q hi E hy k
theorem gDo{v:Option V}(ed:ED)(hd:∀S w ρ a,HRel S w ρ H.get→FRel S w ρ a n F→Does P S w ρ H.get a o.type o.op v (ed.app H.get H.nx) ed.tch)(q:ed.ok H.get)(E:aV F all o.guard=some true)(h1:F.puto o.dst (vM v) id=F1)(h2:H.ap ed id=H1)(k:Go P K Q (.ops all rest) s n F1 H1):Go P K Q (.ops all (o::rest)) s n F H:=by
 rw[Fm.puto_eq]at h1;rw[Hp.ap_eq]at h2;subst h1 h2;exact go_opD E hd q k
theorem bY{v:Option V}(i:Nat)(ed:ED)(hi:all[i]?=some o)(q:Region.ready .any all listed=[i])(hd:∀S w ρ a,HRel S w ρ H.get→FRel S w ρ a n F→Does P S w ρ H.get a o.type o.op v (ed.app H.get H.nx) ed.tch)(E:ed.ok H.get)(G:aV F all o.guard=some true)(J:((bV H.get L&&ed.clear L)||(listed.setIfInBounds i true).getD m false)=true)(h1:F.puto o.dst (vM v) id=F1)(h2:H.ap ed id=H1)(k:Go P K Q (.drw all L m fuel (listed.setIfInBounds i true)) s n F1 H1):Go P K Q (.drw all L m (fuel+1) listed) s n F H:=by
 rw[Fm.puto_eq]at h1;rw[Hp.ap_eq]at h2;subst h1 h2;exact uw q hi G hd E J k
theorem bm{by_ id:Nat}{news:List V}{ty:TypeId}(q:TabOk P T)(ht:slB T t=some (e,sz,by_))(hx:aF F x=some (.sl id))(E:H.get id=.row e sz els)(hy:aF F y=some v)(G:uF H.get sz v=some news)(J:els++news=els')(O:els'.length≤1000000000):
  ∀S w ρ a,HRel S w ρ H.get→FRel S w ρ a n F→Does P S w ρ H.get a ty (.call {callee:=.builtin .append,args:=#[x,y],argTypes:=#[t,t]}) (some (.sl H.nx)) ((ED.repl id (.row e sz els')).app H.get H.nx) (ED.repl id (.row e sz els')).tch:=by
 subst J;exact dAp q ht hx E hy G (by simpa using O)
theorem okR{id:Nat}(q:H.get id=.row e sz els):(ED.repl id o').ok H.get:=by exact⟨by rw[q];simp,by rw[q];simp⟩
theorem okS{id:Nat}(q:H.get id=.row e sz els):(ED.set id o').ok H.get:=by exact⟨by rw[q];simp,by rw[q];simp⟩
theorem dTr(E:TabOk P T){id k:Nat}{ty:TypeId}(ht:slT T t=some (e,sz))(hx:aF F x=some (.sl id))(G:H.get id=.row e sz els)(hy:aF F y=some (.int .i64 (k:Int)))(J:k≤els.length)(O:els.take k=els'):
  ∀S w ρ a,HRel S w ρ H.get→FRel S w ρ a n F→Does P S w ρ H.get a ty (.slice t x none (some y) none) (some (.sl H.nx)) ((ED.repl id (.row e sz els')).app H.get H.nx) (ED.repl id (.row e sz els')).tch:=λS w ρ a hr q=>by
 subst O;exact xU hr q.fr H.get_free (al q hx) (al q hy) G (ld E ht).1 (ld E ht).2 J
theorem dLe(G:TabOk P T){id o:Nat}{v0:V}{td:TD}(ht:T.ty t=some td)(hx:aF F x=some (.el id sz i o))(E:H.get id=.row e sz els)(hi:els[i]?=some v0)(hv:lQ td v0.cells o=some v):
  ∀S w ρ a,HRel S w ρ H.get→FRel S w ρ a n F→Does P S w ρ H.get a ty (.load t x) (some v) (ED.nop.app H.get H.nx) ED.nop.tch:=λS w ρ a hr q=>by
 rcases lG (G.ty _ _ ht) hv with⟨h1,h2⟩|⟨h1,h2,rfl⟩
 ·exact wV hr q.fr (al q hx) E h1 hi h2
 ·exact uJ hr q.fr (al q hx) E h1 hi h2
theorem dSe(J:TabOk P T){id o:Nat}{v0:V}{td:TD}(ht:T.ty t=some td)(hx:aF F x=some (.el id sz i o))(hy:aF F y=some v)(O:H.get id=.row e sz els)(hi:els[i]?=some v0)(G:(Nat.beq v.cells.length td.size&&v.cells.all V.one&&Nat.ble (o+td.size) v0.cells.length&&(match v0 with|.agg _=>true|v0=>v0.one&&v.one))=true)(U:els.set i (v0.over o v.cells)=els'):
  ∀S w ρ a,HRel S w ρ H.get→FRel S w ρ a n F→Does P S w ρ H.get a ty (.store t x y) none ((ED.set id (.row e sz els')).app H.get H.nx) (ED.set id (.row e sz els')).tch:=λS w ρ a hr q=>by
 subst U;simp only[Bool.and_eq_true]at G;obtain⟨⟨⟨h1,h2⟩,Z⟩,E⟩:=G;exact rI hr q.fr (al q hx) (al q hy) O (J.ty _ _ ht).size hi (Nat.eq_of_beq_eq_true h1) h2 (Nat.le_of_ble_eq_true Z) (by
  cases v0 with
  |agg cs=>exact .inl ⟨cs,rfl⟩
  |_=>simp only[Bool.and_eq_true]at E;exact .inr ⟨oT E.1,oT E.2⟩)
theorem dMk(hT:TabOk P T){m:Nat}{q:V}{td:TD}{tz:TD}(ht:T.ty t=some tz)(E:(match tz.kind with|.sl e'=>Nat.beq e e'|_=>false)=true)(G:T.ty e=some td)(hx:aF F x=some (.int .i64 (m:Int)))(hy:aF F y=some (.int .i64 (m:Int)))(hsz:td.size=sz)(J:td.zero=q)(O:(Nat.blt 0 td.size&&Nat.ble td.bytes 1000)=true)(hm:m≤1000000000):
  ∀S w ρ a,HRel S w ρ H.get→FRel S w ρ a n F→Does P S w ρ H.get a ty (.makeSlice t x y) (some (.sl H.nx)) ((ED.new (.row e sz (List.replicate m q))).app H.get H.nx) (ED.new (.row e sz (List.replicate m q))).tch:=λS w ρ a hr U=>by
 subst hsz J;simp only[Bool.and_eq_true,Nat.blt_eq]at O;obtain⟨z,h1,h2,h3,h4⟩:=(hT.ty _ _ G).info;have Z:P.underlying t=some (.slice e):=by
  split at E
  ·rename_i e' he';have :=Nat.eq_of_beq_eq_true E;subst this;exact(hT.ty _ _ ht).sl he'
  ·cases E
 have hb:td.bytes≤1000:=Nat.le_of_ble_eq_true O.2;exact Ap hr U.fr H.get_free (al U hx) (al U hy) Z h1 h3 O.1 h4 h2 (Nat.le_trans (Nat.mul_le_mul hb hm) (by decide)) (by simp only[maxLen];omega)
theorem gCn{args:List Operand}{tys:Array TypeId}{d:Option Tmp}{ty:TypeId}{ps:String}{af:Array Edge}(i:Nat)(e:TypeId)(sz:Nat)(E:dd PL P fid us H0 Post)(σ:List Nat)(G:bE P fid=true)(J:aV F all g=some true)(hv:fe F args=some vs)(q:vs[i]?=some .nils)(h2:H.ap (.new (.row e sz [])) id=H1)(O:aH (vs.set i (.sl H.nx)) (renL σ us))(hH:leH σ H1 H0.es)(U:(bL σ&&Nat.beq σ.length H0.nx&&σ.all λi=>Nat.blt i H1.nx)=true)
  (k:∀v H',Post v H'→Go P K Q (.ops all rest) s n (F.seto d (some (v.ren (sgN PL H1.nx H0.get H'.nx σ 0)))) (jw PL H1 σ H0 H')):Go P K Q (.ops all (⟨d,.call {callee:=.value (.func fid),args:=args.toArray,argTypes:=tys},ty,ps,af,g⟩::rest)) s n F H:=by
 rw[Hp.ap_eq]at h2;subst h2;exact go_opC (o:=⟨d,.call {callee:=.value (.func fid),args:=args.toArray,argTypes:=tys},ty,ps,af,g⟩) G rfl J hv (zN i e sz q (mJ E σ O hH U [] (by simp[bV]))) λv' H'' ⟨v,H',Z,e1,e2⟩=>by subst e1 e2;exact k v H' Z
end
abbrev qS(f:FuncId)(a:List V)(r:V):Prop:=nJ prog f a r
abbrev qLG(K:Ctx)(fn:Func)(Q:V→Hp→Prop)(c:Code)(s:List EI)(n:Nat)(F:Fm)(H:Hp):Prop:=Go prog K (bodyPost prog fn (SP K Q)) (.code c) s n F H
variable{A B C D:Prop}
section
variable{P:Program}{K:Ctx}{Q:Exit→Act→World→Prop}{p:EP}{s:List EI}{n:Nat}{F F1 F2 F3 F4:Fm}{H:Hp}
theorem qBh{e:Bool}(d:Nat)(hd:F.get d=some (.bool e))(h1:F.put d (some (.bool true)) id=F1)(h2:F.put d (some (.bool false)) id=F2)(h:(A→C)∧(B→D))(a:e=true→A)(b:e=false→B)(kT:C→Go P K Q p s n F1 H)(kF:D→Go P K Q p s n F2 H):Go P K Q p s n F H:=gB d hd h1 h2 (λz=>kT (h.1 (a z))) (λz=>kF (h.2 (b z)))
theorem qBi{e:Bool}(d:Nat)(hd:F.get d=some (.bool e))(h1:F.put d (some (.bool true)) id=F1)(h2:F.put d (some (.bool false)) id=F2)(h:(e=true→C)∧(e=false→D))(kT:C→Go P K Q p s n F1 H)(kF:D→Go P K Q p s n F2 H):Go P K Q p s n F H:=qBh d hd h1 h2 h id id kT kF
theorem qBe[BEq α][LawfulBEq α]{x y:α}(d:Nat)(hd:F.get d=some (.bool (x==y)))(h1:F.put d (some (.bool true)) id=F1)(h2:F.put d (some (.bool false)) id=F2)(h:(x=y→C)∧(x≠y→D))(kT:C→Go P K Q p s n F1 H)(kF:D→Go P K Q p s n F2 H):Go P K Q p s n F H:=qBh d hd h1 h2 h eq_of_beq ne_of_beq_false kT kF
theorem qBd{x:Prop}[Decidable x](d:Nat)(hd:F.get d=some (.bool (decide x)))(h1:F.put d (some (.bool true)) id=F1)(h2:F.put d (some (.bool false)) id=F2)(h:(x→C)∧(¬x→D))(kT:C→Go P K Q p s n F1 H)(kF:D→Go P K Q p s n F2 H):Go P K Q p s n F H:=qBh d hd h1 h2 h of_decide_eq_true of_decide_eq_false kT kF
theorem qBhZ{e:Bool}(d i:Nat)(hd:F.get d=some (.bool e))(hi:Fm.get (F.set d none) i=some (.bool e))(h1:F.put d (some (.bool true)) (λF=>F.put i (some (.bool true)) id)=F3)(h2:F.put d (some (.bool false)) (λF=>F.put i (some (.bool false)) id)=F4)(h:(A→C)∧(B→D))(a:e=true→A)(b:e=false→B)(kT:C→Go P K Q p s n F3 H)(kF:D→Go P K Q p s n F4 H):Go P K Q p s n F H:=by
 rw[Fm.put_eq,Fm.put_eq]at h1 h2;have w (v:V):Fm.get (F.set d (some v)) i=some (.bool e):=by
  rw[Fm.get_eq,List.getElem?_set]at hi⊢;split at hi
  ·split at hi<;>simp at hi
  ·rename_i e;rw[if_neg e];exact hi
 exact gB d hd (Fm.put_eq ..) (Fm.put_eq ..) (λz=>gT i (w _) z ((Fm.put_eq ..).trans h1) (kT (h.1 (a z)))) (λz=>gF i (w _) z ((Fm.put_eq ..).trans h2) (kF (h.2 (b z))))
theorem qBiZ{e:Bool}(d i:Nat)(hd:F.get d=some (.bool e))(hi:Fm.get (F.set d none) i=some (.bool e))(h1:F.put d (some (.bool true)) (λF=>F.put i (some (.bool true)) id)=F3)(h2:F.put d (some (.bool false)) (λF=>F.put i (some (.bool false)) id)=F4)(h:(e=true→C)∧(e=false→D))(kT:C→Go P K Q p s n F3 H)(kF:D→Go P K Q p s n F4 H):Go P K Q p s n F H:=qBhZ d i hd hi h1 h2 h id id kT kF
theorem qBeZ[BEq α][LawfulBEq α]{x y:α}(d i:Nat)(hd:F.get d=some (.bool (x==y)))(hi:Fm.get (F.set d none) i=some (.bool (x==y)))(h1:F.put d (some (.bool true)) (λF=>F.put i (some (.bool true)) id)=F3)(h2:F.put d (some (.bool false)) (λF=>F.put i (some (.bool false)) id)=F4)(h:(x=y→C)∧(x≠y→D))(kT:C→Go P K Q p s n F3 H)(kF:D→Go P K Q p s n F4 H):Go P K Q p s n F H:=qBhZ d i hd hi h1 h2 h eq_of_beq ne_of_beq_false kT kF
theorem qBdZ{x:Prop}[Decidable x](d i:Nat)(hd:F.get d=some (.bool (decide x)))(hi:Fm.get (F.set d none) i=some (.bool (decide x)))(h1:F.put d (some (.bool true)) (λF=>F.put i (some (.bool true)) id)=F3)(h2:F.put d (some (.bool false)) (λF=>F.put i (some (.bool false)) id)=F4)(h:(x→C)∧(¬x→D))(kT:C→Go P K Q p s n F3 H)(kF:D→Go P K Q p s n F4 H):Go P K Q p s n F H:=qBhZ d i hd hi h1 h2 h of_decide_eq_true of_decide_eq_false kT kF
end
section
variable{K:Ctx}{Q:Exit→Act→World→Prop}{s:List EI}{n:Nat}{F:Fm}{H H0 H1:Hp}{all:Array Oper}{rest:List Oper}{L PL:List Nat}{m fuel:Nat}{listed:Array Bool}{fid:FuncId}{args:List Operand}{tys:Array TypeId}{vs us:List V}{v1:V}{d:Option Tmp}{ty:TypeId}{ps:String}{af:Array Edge}{g:Option (Nat×Bool)}
end
theorem pqq:∃u,some v=some u∧cO u v:=⟨v,rfl,cO.rfl⟩
theorem pq1{q:V}:(∃u,some q=some u∧cO u q)∧True:=⟨pqq,trivial⟩
theorem pq2{q E:V}:(∃u,some q=some u∧cO u q)∧(∃u,some E=some u∧cO u E)∧True:=⟨pqq,pqq,trivial⟩
theorem pq3{q E G:V}:(∃u,some q=some u∧cO u q)∧(∃u,some E=some u∧cO u E)∧(∃u,some G=some u∧cO u G)∧True:=⟨pqq,pqq,pqq,trivial⟩
theorem pqo{x:Option Nat}(h1:x=some i)(h2:H.get i=.var t cs):∃i,x=some i∧lq (H.get i) (.var t cs):=⟨i,h1,by rw[h2];exact⟨rfl,aH.rfl⟩⟩
theorem pqo1{q:Option Nat}{E:Nat}{t0:TypeId}{c0:List V}(G:q=some E)(J:H.get E=.var t0 c0):(∃i,q=some i∧lq (H.get i) (.var t0 c0))∧True:=⟨pqo G J,trivial⟩
section
variable{P:Program}{K:Ctx}{Q:Exit→Act→World→Prop}{p:EP}{s:List EI}{n:Nat}{F F1 F2 F3 F4:Fm}{H:Hp}
theorem qXh{e:Bool}(d:Nat)(hd:F.get d=some (.bool e))(h1:F.put d (some (.bool true)) id=F1)(h2:F.put d (some (.bool false)) id=F2)(h:(A→C)∧(B→D))(a:e=true→A)(b:e=false→B)(kT:A→C→Go P K Q p s n F1 H)(kF:B→D→Go P K Q p s n F2 H):Go P K Q p s n F H:=gB d hd h1 h2 (λz=>kT (a z) (h.1 (a z))) (λz=>kF (b z) (h.2 (b z)))
theorem qXi{e:Bool}(d:Nat)(hd:F.get d=some (.bool e))(h1:F.put d (some (.bool true)) id=F1)(h2:F.put d (some (.bool false)) id=F2)(h:(e=true→C)∧(e=false→D))(kT:e=true→C→Go P K Q p s n F1 H)(kF:e=false→D→Go P K Q p s n F2 H):Go P K Q p s n F H:=qXh d hd h1 h2 h id id kT kF
theorem qXe[BEq α][LawfulBEq α]{x y:α}(d:Nat)(hd:F.get d=some (.bool (x==y)))(h1:F.put d (some (.bool true)) id=F1)(h2:F.put d (some (.bool false)) id=F2)(h:(x=y→C)∧(x≠y→D))(kT:x=y→C→Go P K Q p s n F1 H)(kF:x≠y→D→Go P K Q p s n F2 H):Go P K Q p s n F H:=qXh d hd h1 h2 h eq_of_beq ne_of_beq_false kT kF
theorem qXd{x:Prop}[Decidable x](d:Nat)(hd:F.get d=some (.bool (decide x)))(h1:F.put d (some (.bool true)) id=F1)(h2:F.put d (some (.bool false)) id=F2)(h:(x→C)∧(¬x→D))(kT:x→C→Go P K Q p s n F1 H)(kF:¬x→D→Go P K Q p s n F2 H):Go P K Q p s n F H:=qXh d hd h1 h2 h of_decide_eq_true of_decide_eq_false kT kF
theorem qXhZ{e:Bool}(d i:Nat)(hd:F.get d=some (.bool e))(hi:Fm.get (F.set d none) i=some (.bool e))(h1:F.put d (some (.bool true)) (λF=>F.put i (some (.bool true)) id)=F3)(h2:F.put d (some (.bool false)) (λF=>F.put i (some (.bool false)) id)=F4)(h:(A→C)∧(B→D))(a:e=true→A)(b:e=false→B)(kT:A→C→Go P K Q p s n F3 H)(kF:B→D→Go P K Q p s n F4 H):Go P K Q p s n F H:=qBhZ (A:=A) (B:=B) (C:=A∧C) (D:=B∧D) d i hd hi h1 h2 ⟨λx=>⟨x,h.1 x⟩,λx=>⟨x,h.2 x⟩⟩ a b (λz=>kT z.1 z.2) (λz=>kF z.1 z.2)
theorem qXiZ{e:Bool}(d i:Nat)(hd:F.get d=some (.bool e))(hi:Fm.get (F.set d none) i=some (.bool e))(h1:F.put d (some (.bool true)) (λF=>F.put i (some (.bool true)) id)=F3)(h2:F.put d (some (.bool false)) (λF=>F.put i (some (.bool false)) id)=F4)(h:(e=true→C)∧(e=false→D))(kT:e=true→C→Go P K Q p s n F3 H)(kF:e=false→D→Go P K Q p s n F4 H):Go P K Q p s n F H:=qXhZ d i hd hi h1 h2 h id id kT kF
theorem qXeZ[BEq α][LawfulBEq α]{x y:α}(d i:Nat)(hd:F.get d=some (.bool (x==y)))(hi:Fm.get (F.set d none) i=some (.bool (x==y)))(h1:F.put d (some (.bool true)) (λF=>F.put i (some (.bool true)) id)=F3)(h2:F.put d (some (.bool false)) (λF=>F.put i (some (.bool false)) id)=F4)(h:(x=y→C)∧(x≠y→D))(kT:x=y→C→Go P K Q p s n F3 H)(kF:x≠y→D→Go P K Q p s n F4 H):Go P K Q p s n F H:=qXhZ d i hd hi h1 h2 h eq_of_beq ne_of_beq_false kT kF
theorem qXdZ{x:Prop}[Decidable x](d i:Nat)(hd:F.get d=some (.bool (decide x)))(hi:Fm.get (F.set d none) i=some (.bool (decide x)))(h1:F.put d (some (.bool true)) (λF=>F.put i (some (.bool true)) id)=F3)(h2:F.put d (some (.bool false)) (λF=>F.put i (some (.bool false)) id)=F4)(h:(x→C)∧(¬x→D))(kT:x→C→Go P K Q p s n F3 H)(kF:¬x→D→Go P K Q p s n F4 H):Go P K Q p s n F H:=qXhZ d i hd hi h1 h2 h of_decide_eq_true of_decide_eq_false kT kF
theorem qG{l:List α}{x:α}(h:l[i]?=some x):i<l.length:=(List.getElem?_eq_some_iff.1 h).1
theorem qj{m:Nat}{R:Ctx→Prop}{B:Ctx→Nat→Prop}(h:∀K j,R K→m+1≤j+1→B K (j+1)):∀K j,R K→m+1≤j→B K j:=λK j a b=>by
 obtain⟨j,rfl⟩:∃i,j=i+1:=⟨j-1,by omega⟩;exact h K j a b
end
section
variable{P:Program}{T:Tab}{K:Ctx}{Q:Exit→Act→World→Prop}{p:EP}{s:List EI}{n:Nat}{F F':Fm}{H H':Hp}{pv:List Nat}
theorem qJ(q:ar K pv)(k:Go P K Q p s n F' H')(σ:List Nat)(E:leF σ F F':=by repeat (first|exact trivial|refine⟨pqq,?_⟩))(hH:leH σ H H'.es:=by repeat (first|exact trivial|refine⟨⟨_,rfl,by first|exact⟨rfl,aH.rfl⟩|exact⟨rfl,rfl,(dN _ _ (λ_=>rfl) _).symm⟩|exact⟨rfl,rfl,(tn _ _).symm⟩|exact⟨rfl,rfl,rfl⟩|exact⟨rfl,rfl,rfl,rfl⟩⟩,?_⟩))(G:p.still=true:=by rfl)(J:(bL σ&&Nat.ble σ.length H'.nx&&qt σ pv&&Nat.ble F'.length n)=true:=by rfl):Go P K Q p s n F H:=go_sub σ pv G q E hH J k
theorem qW{m:Nat}{Q:Ctx→Exit→Act→World→Prop}{s:Ctx→Nat→List EI}(q:ar K pv)(h:∀K j,ar K pv→m≤j→Go P K (Q K) p (s K j) n F' H')(σ:List Nat)(E:leF σ F F':=by repeat (first|exact trivial|refine⟨pqq,?_⟩))(hH:leH σ H H'.es:=by repeat (first|exact trivial|refine⟨⟨_,rfl,by first|exact⟨rfl,aH.rfl⟩|exact⟨rfl,rfl,(dN _ _ (λ_=>rfl) _).symm⟩|exact⟨rfl,rfl,(tn _ _).symm⟩|exact⟨rfl,rfl,rfl⟩|exact⟨rfl,rfl,rfl,rfl⟩⟩,?_⟩))(G:p.still=true:=by rfl)(J:(bL σ&&Nat.ble σ.length H'.nx&&qt σ pv&&Nat.ble F'.length n)=true:=by rfl)(O:m≤j:=by omega):Go P K (Q K) p (s K j) n F H:=go_sub σ pv G q E hH J (h K j q O)
theorem gE{fn:Func}{v0:V}{H0:Hp}{vs:List V}{e:Exit}(q:ar K pv)(X:List (Nat×Ob))(L:List (Nat×V))(σ:List Nat)(rs:List ResultVar)(U:leF σ F (mkF n 0 L):=by repeat (first|exact trivial|refine⟨pqq,?_⟩))(hH:leH σ H (X++H0.es):=by repeat (first|exact trivial|refine⟨⟨_,rfl,by first|exact⟨rfl,aH.rfl⟩|exact⟨rfl,rfl,(dN _ _ (λ_=>rfl) _).symm⟩|exact⟨rfl,rfl,(tn _ _).symm⟩|exact⟨rfl,rfl,rfl⟩|exact⟨rfl,rfl,rfl,rfl⟩⟩,?_⟩))(Z:(bL σ&&Nat.ble σ.length H0.nx&&qt σ pv&&Nat.ble (mkF n 0 L).length n)=true:=by rfl)(E:fn.results=rs.toArray:=by rfl)(hv:mM tg (⟨H0.nx,X++H0.es⟩:Hp).get (mkF n 0 L) rs=some vs:=by rfl)(J:jY vs=v0:=by rfl)(O:(⟨H0.nx,kE (X.map (·.1)) (X++H0.es)⟩:Hp)=H0:=by rfl)(he:e=.ret∨e=.normal:=by first|exact .inl rfl|exact .inr rfl):Go prog K (bodyPost prog fn (SP K λu G=>u=v0∧G=H0)) (.ex e) [] n F H:=go_sub (F':=mkF n 0 L) (H':=⟨H0.nx,X++H0.es⟩) σ pv rfl q U hH Z (DI (X.map (·.1)) ac E hv ⟨J,O⟩ he)
end
section
variable{K:Ctx}{Q:Exit→Act→World→Prop}{s:List EI}{n:Nat}{F F':Fm}{H H' H0 H1:Hp}{all:Array Oper}{rest:List Oper}{L PL:List Nat}{m fuel c:Nat}{listed:Array Bool}{fid:FuncId}{args:List Operand}{tys:Array TypeId}{vs us:List V}{v1:V}{d:Option Tmp}{ty:TypeId}{ps:String}{af:Array Edge}{g:Option (Nat×Bool)}
theorem qC(q:dd PL prog fid us H0 (λv H'=>v=v1∧H'=H1))(σ:List Nat)(k:Go prog K Q (.ops all rest) s n (F.seto d (some (v1.ren (sgN PL H.nx H0.get H1.nx σ 0)))) (jw PL H σ H0 H1))(E:bE prog fid=true:=by kernel_rfl)(G:aV F all g=some true:=by rfl)(hv:fe F args=some vs:=by rfl)(J:aH vs (renL σ us):=by exact .rfl)(hH:leH σ H H0.es:=by repeat (first|exact trivial|refine⟨⟨_,rfl,by first|exact⟨rfl,aH.rfl⟩|exact⟨rfl,rfl,(dN _ _ (λ_=>rfl) _).symm⟩|exact⟨rfl,rfl,(tn _ _).symm⟩|exact⟨rfl,rfl,rfl⟩|exact⟨rfl,rfl,rfl,rfl⟩⟩,?_⟩))(O:(bL σ&&Nat.beq σ.length H0.nx&&σ.all λi=>Nat.blt i H.nx)=true:=by rfl):Go prog K Q (.ops all (⟨d,.call {callee:=.value (.func fid),args:=args.toArray,argTypes:=tys},ty,ps,af,g⟩::rest)) s n F H:=gC q σ E G hv J hH O λ_ _ ⟨U,Z⟩=>by subst U Z;exact k
theorem qDC(i:Nat)(E:dd PL prog fid us H0 (λv H'=>v=v1∧H'=H1))(σ:List Nat)(hi:all[i]?=some ⟨d,.call {callee:=.value (.func fid),args:=args.toArray,argTypes:=tys},ty,ps,af,g⟩)(k:Go prog K Q (.drw all L m fuel (listed.setIfInBounds i true)) s n (F.seto d (some (v1.ren (sgN PL H.nx H0.get H1.nx σ 0)))) (jw PL H σ H0 H1))(G:bE prog fid=true:=by kernel_rfl)(q:Region.ready .any all listed=[i]:=by kernel_rfl)(J:aV F all g=some true:=by rfl)(hv:fe F args=some vs:=by rfl)(O:aH vs (renL σ us):=by exact .rfl)(hH:leH σ H H0.es:=by repeat (first|exact trivial|refine⟨⟨_,rfl,by first|exact⟨rfl,aH.rfl⟩|exact⟨rfl,rfl,(dN _ _ (λ_=>rfl) _).symm⟩|exact⟨rfl,rfl,(tn _ _).symm⟩|exact⟨rfl,rfl,rfl⟩|exact⟨rfl,rfl,rfl,rfl⟩⟩,?_⟩))(U:(bL σ&&Nat.beq σ.length H0.nx&&σ.all λi=>Nat.blt i H.nx)=true:=by kernel_rfl)(Z:(bV H.get L&&L.all λi=>!σ.contains i)=true:=by rfl):Go prog K Q (.drw all L m (fuel+1) listed) s n F H:=gDC i E σ G hi q J hv O hH U Z λ_ _ ⟨e1,e2⟩=>by subst e1 e2;exact k
theorem qC0(q:nJ prog fid us v)(h1:F.puto d (some v) id=F')(k:Go prog K Q (.ops all rest) s n F' H)(E:bE prog fid=true:=by kernel_rfl)(G:aV F all g=some true:=by rfl)(hv:fe F args=some vs:=by rfl)(J:aH vs us:=by exact .rfl):Go prog K Q (.ops all (⟨d,.call {callee:=.value (.func fid),args:=args.toArray,argTypes:=tys},ty,ps,af,g⟩::rest)) s n F H:=gC0 q E G hv J h1 k
theorem qDe(k:Go prog K Q (.ex .normal) s n F H)(hd:Region.ready .any all listed=[]:=by kernel_rfl):Go prog K Q (.drw all L m fuel listed) s n F H:=gDe hd k
theorem qA{c:Code}(N:Nat)(pv:List Nat)(hf:prog.funcs[fid]?=some fn)(k:∀K,ar K pv→Go prog K (bodyPost prog fn (SP K Post)) (.code c) [] N (jx N vs) H0)(E:fn.body=some c:=by exact rfl)(G:fn.ntmps=N:=by exact rfl)(J:Nat.ble vs.length N=true:=by rfl)(q:∀i,ik PL i (H0.get i)=true→i∈pv:=by exact Gc rfl):dd PL prog fid vs H0 Post:=zy N pv hf E G J q k
theorem qN{Post:V→Hp→Prop}{e:Exit}(rs:List ResultVar)(q:fn.results=rs.toArray:=by exact rfl)(hv:mM tg H.get F rs=some vs:=by exact rfl)(E:Post (jY vs) H:=by exact rfl)(G:e=.ret∨e=.normal:=by first|exact .inl rfl|exact .inr rfl):Go prog K (bodyPost prog fn (SP K Post)) (.ex e) [] n F H:=EC ac q hv E G
@[reducible] def qR : Nat → Nat → Nat → List (Nat × Nat) → List (Nat × Nat)
 |_,0,_,r=>r
 |i,n+1,f,r=>(i,f)::qR (i+1) n f r
theorem qDr(is:List (Nat×Nat))(q:is.length=c)(hr:kK tg all L is F H=some (F',H'))(k:Go prog K Q (.drw all L m fuel (zt is listed)) s n F' H')(E:uY all m is listed=true:=by kernel_rfl):Go prog K Q (.drw all L m (fuel+c) listed) s n F H:=gDr is E q hr k
theorem qDs{id:Nat}(L:List Nat)(m sz:Nat)(k:Go prog K Q (.drw l.toArray L m sz (Array.replicate sz false)) s n F H)(hsz:l.length=sz:=by rfl)(q:prog.follows .mixedOrders=true:=by kernel_rfl)(E:Region.noSelect l.toArray=true:=by kernel_rfl):Go prog K Q (.code (.region id l.toArray true)) s n F H:=gDs L m sz hsz q E k
end
abbrev xA(c:Code):Code:=cB (cB c)
abbrev xB(c:Code):Code:=cE (cB c)
abbrev xC(c:Code):Code:=xB (xB c)
abbrev xD(c:Code):Code:=cK (cB c)
abbrev xE(c:Code):Code:=xD (cA c)
abbrev xF(c:Code):Code:=xC (xC c)
abbrev xG(c:Code):Code:=xE (xA c)
abbrev xH(c:Code):Code:=xA (cB c)
abbrev xI(c:Code):Code:=cL (xG c)
abbrev xJ(c:Code):Code:=xA (xA c)
abbrev xK(c:Code):Code:=xF (xF c)
abbrev xL(c:Code):Code:=xB (xG c)
abbrev xM(c:Code):Code:=cT (cB c)
abbrev xN(c:Code):Code:=xI (cB c)
set_option maxHeartbeats 4000000
def wN(q:List UInt8)(E:Int):Prop:=qS 82 [.str q] (qi E)
def po(q:List UInt8)(E:Int):Prop:=qS 102 [.str q] (qi E)
def lw(q p1 E:Int):Prop:=qS 56 [qi q,qi p1] (qi E)
def dC(q p1 E G:Int):Prop:=qS 81 [qi q,qi p1,qi E] (qi G)
def iB(q:Int)(E:Bool):Prop:=qS 85 [qi q] (.bool E)
def da(q:Int)(E:Bool):Prop:=qS 84 [qi q] (.bool E)
def kL(q:Int)(E:Bool):Prop:=qS 86 [qi q] (.bool E)
def jv(q:List UInt8)(E:Bool):Prop:=qS 83 [.str q] (.bool E)
def kw(q:Int)(p1:List UInt8)(E:Bool):Prop:=qS 57 [qi q,.str p1] (.bool E)
def ln(q:Tree)(p1:Int)(E:Bool):Prop:=qS 58 [.agg (ak q),qi p1] (.bool E)
def iJ(q:Tree)(E:Bool):Prop:=qS 32 [.agg (ak q)] (.bool E)
def dt(q p1 E:Int):Prop:=qS 95 [qi q,qi p1] (qi E)
def bB(q p1 E G:Int):Prop:=qS 108 [qi q,qi p1,qi E] (qi G)
def eM(q:Int)(E:Bool):Prop:=qS 111 [qi q] (.bool E)
def di(q:Int)(E:Bool):Prop:=qS 110 [qi q] (.bool E)
def eF(q:Int)(E:Bool):Prop:=qS 107 [qi q] (.bool E)
def eU(q:List UInt8)(E:Bool):Prop:=qS 109 [.str q] (.bool E)
def ga(q:Int)(p1:List UInt8)(E:Bool):Prop:=qS 96 [qi q,.str p1] (.bool E)
def ju(q:Tree)(p1 E:Int)(G:Bool):Prop:=qS 97 [.agg (ak q),qi p1,qi E] (.bool G)
def df(q:Tree)(E:Bool):Prop:=qS 76 [.agg (ak q)] (.bool E)
def aA(m:Nat)(p1:Int)(a b c:Nat)(d q:Int):Prop:=∀(K:Ctx),ar K []→qLG K f56 (λu _=>u=qi q) (xJ (ae f56)) [] 69 (mkF 69 0 [(1,qi p1),(5,qi (a:Int)),(6,qi d),(7,qi (b:Int)),(8,qi (c:Int))]) ⟨0,[]⟩
def iG(m:Nat)(q p1:Int)(a:Bool)(E:Int):Prop:=∀(K:Ctx),ar K []→qLG K f56 (λu _=>u=qi E) (cB (xF (xL (cB (ae f56))))) [.blk 0,.seq (xJ (ae f56))] 69 (mkF 69 0 [(1,qi p1),(5,qi 0),(6,qi 0),(7,qi 1),(8,qi 0),(9,qi q),(22,.bool a)]) ⟨0,[]⟩
def iI(m:Nat)(p1:Int)(a b c:Nat)(d q:Int):Prop:=∀(K:Ctx),ar K []→qLG K f56 (λu _=>u=qi q) (xA (xH (ae f56))) [] 69 (mkF 69 0 [(1,qi p1),(5,qi (a:Int)),(6,qi d),(7,qi (b:Int)),(8,qi (c:Int))]) ⟨0,[]⟩
theorem sG(m:Nat)(q p1 G:Int)(h:((q=1)→∃a,dC p1 0 3 a∧a=G)∧((q≠1)→((q=2)→aA m p1 2 6 2 (-1) G)∧((q≠2)→((q=16)→aA m p1 0 3 0 (-1) G)∧((q≠16)→((q=18)→aA m p1 1 2 0 (-1) G)∧((q≠18)→((q=3)→aA m p1 1 3 0 1 G)∧((q≠3)→((q=4)→iG m q p1 true G)∧((q≠4)→((q=8)→iG m q p1 true G)∧((q≠8)→iG m q p1 (q==22) G)))))))):lw q p1 G:=by
 refine⟨rfl,rfl,?_⟩;refine qA 69 [] func56 λK E=>?_;refine gR 30 rfl<|qBeZ 10 11 rfl rfl rfl rfl h ?_ ?_<;>intro h;refine gR 4 rfl ?_;obtain⟨a,b,h⟩:=h;refine qC0 b rfl<|gR 6 rfl ?_;subst h;exact qN [.tmp 4];refine gR 7 rfl<|qBeZ 14 15 rfl rfl rfl rfl h ?_ ?_<;>intro h;exact gR 9 rfl<|qJ E (h K E) [];refine gR 7 rfl<|qBeZ 16 17 rfl rfl rfl rfl h ?_ ?_<;>intro h;exact gR 9 rfl<|qJ E (h K E) [];refine gR 7 rfl<|qBeZ 18 19 rfl rfl rfl rfl h ?_ ?_<;>intro h;exact gR 9 rfl<|qJ E (h K E) [];refine gR 7 rfl<|qBeZ 20 21 rfl rfl rfl rfl h ?_ ?_<;>intro h;exact gR 8 rfl<|qJ E (h K E) [];refine gR 8 rfl<|qBeZ 22 23 rfl rfl rfl rfl h ?_ ?_<;>intro h;exact gR 3 rfl<|qJ E (h K E) [];refine gR 7 rfl<|qBeZ 22 24 rfl rfl rfl rfl h ?_ ?_<;>intro h;exact gR 3 rfl<|qJ E (h K E) [];exact gR 6 rfl<|qJ E (h K E) []
theorem ri(m:Nat)(p1:Int)(b c d:Nat)(a q:Int)(h:((0≤a)→((a<p1)→(-1)=q)∧((¬a<p1)→iI m p1 b c d a q))∧((¬0≤a)→iI m p1 b c d a q)):aA (m+1) p1 b c d a q:=by
 intro K E;refine gR 6 rfl<|qBdZ 47 46 rfl rfl rfl rfl h ?_ ?_<;>intro h;refine gR 6 rfl<|qBd 51 rfl rfl rfl h ?_ ?_<;>intro h;refine gR 8 rfl ?_;subst h;exact qN [.tmp 4];exact gR 3 rfl<|qJ E (h K E) [];exact gR 9 rfl<|qJ E (h K E) []
theorem rB(m:Nat)(E p1:Int)(a:Bool)(G:Int)(h:((a=true)→aA m p1 1 2 0 1 G)∧((a=false)→((E=17)→aA m p1 1 0 0 1 G)∧((E≠17)→((E=19)→aA m p1 3 3 0 3 G)∧((E≠19)→((E=20)→aA m p1 2 4 0 2 G)∧((E≠20)→((E=21)→aA m p1 2 1 0 2 G)∧((E≠21)→((E=5)→aA m p1 0 1 0 0 G)∧((E≠5)→((E=6)→aA m p1 0 1 0 0 G)∧((E≠6)→((E=7)→aA m p1 0 1 0 0 G)∧((E≠7)→((E=9)→aA m p1 0 1 0 0 G)∧((E≠9)→((E=10)→aA m p1 0 1 0 0 G)∧((E≠10)→((E=11)→aA m p1 0 1 0 0 G)∧((E≠11)→((E=12)→aA m p1 0 1 0 0 G)∧((E≠12)→((E=13)→aA m p1 0 1 0 0 G)∧((E≠13)→((E=14)→aA m p1 0 1 0 0 G)∧((E≠14)→((E=15)→aA m p1 0 1 0 0 G)∧((E≠15)→(-1)=G)))))))))))))))):iG (m+1) E p1 a G:=by
 intro K q;refine qBi 22 rfl rfl rfl h ?_ ?_<;>intro h;exact gR 8 rfl<|qJ q (h K q) [];refine gR 7 rfl<|qBeZ 26 27 rfl rfl rfl rfl h ?_ ?_<;>intro h;exact gR 8 rfl<|qJ q (h K q) [];refine gR 7 rfl<|qBeZ 28 29 rfl rfl rfl rfl h ?_ ?_<;>intro h;exact gR 8 rfl<|qJ q (h K q) [];refine gR 7 rfl<|qBeZ 30 31 rfl rfl rfl rfl h ?_ ?_<;>intro h;exact gR 8 rfl<|qJ q (h K q) [];refine gR 7 rfl<|qBeZ 32 33 rfl rfl rfl rfl h ?_ ?_<;>intro h;exact gR 8 rfl<|qJ q (h K q) [];refine gR 8 rfl<|qBeZ 34 35 rfl rfl rfl rfl h ?_ ?_<;>intro h;exact gR 7 rfl<|qJ q (h K q) [];refine gR 7 rfl<|qBeZ 34 36 rfl rfl rfl rfl h ?_ ?_<;>intro h;exact gR 7 rfl<|qJ q (h K q) [];refine gR 7 rfl<|qBeZ 34 37 rfl rfl rfl rfl h ?_ ?_<;>intro h;exact gR 7 rfl<|qJ q (h K q) [];refine gR 7 rfl<|qBeZ 34 38 rfl rfl rfl rfl h ?_ ?_<;>intro h;exact gR 7 rfl<|qJ q (h K q) [];refine gR 7 rfl<|qBeZ 34 39 rfl rfl rfl rfl h ?_ ?_<;>intro h;exact gR 7 rfl<|qJ q (h K q) [];refine gR 7 rfl<|qBeZ 34 40 rfl rfl rfl rfl h ?_ ?_<;>intro h;exact gR 7 rfl<|qJ q (h K q) [];refine gR 7 rfl<|qBeZ 34 41 rfl rfl rfl rfl h ?_ ?_<;>intro h;exact gR 7 rfl<|qJ q (h K q) [];refine gR 7 rfl<|qBeZ 34 42 rfl rfl rfl rfl h ?_ ?_<;>intro h;exact gR 7 rfl<|qJ q (h K q) [];refine gR 7 rfl<|qBeZ 34 43 rfl rfl rfl rfl h ?_ ?_<;>intro h;exact gR 7 rfl<|qJ q (h K q) [];refine gR 6 rfl<|qBeZ 34 44 rfl rfl rfl rfl h ?_ ?_<;>intro h;exact gR 4 rfl<|qJ q (h K q) [];refine gR 9 rfl ?_;subst h;exact qN [.tmp 4]
theorem rq(m:Nat)(p1:Int)(c b a:Nat)(d E:Int)(h:((d<0)→(((a:Int)<p1)→InI (p1-(a:Int))∧InI ((p1-(a:Int))-1)∧InI ((b:Int)+((p1-(a:Int))-1))∧∃e,dC p1 (c:Int) ((b:Int)+((p1-(a:Int))-1)) e∧e=E)∧((¬(a:Int)<p1)→∃f,dC p1 (c:Int) (b:Int) f∧f=E))∧((¬d<0)→∃g,dC p1 (c:Int) (b:Int) g∧g=E)):iI (m+1) p1 c b a d E:=by
 intro K G;refine gR 6 rfl<|qBdZ 54 53 rfl rfl rfl rfl h ?_ ?_<;>intro h;refine gR 6 rfl<|qBd 58 rfl rfl rfl h ?_ ?_<;>intro h;refine gR 5 rfl ?_;obtain⟨q,h⟩:=h;refine gR 1 rfl<|gV 62 (qi (p1-(a:Int))) rfl (an q rfl) rfl ?_;obtain⟨q,h⟩:=h;refine gR 1 rfl<|gV 63 (qi ((p1-(a:Int))-1)) rfl (an q rfl) rfl ?_;obtain⟨q,h⟩:=h;refine gR 1 rfl<|gV 64 (qi ((b:Int)+((p1-(a:Int))-1))) rfl (an q rfl) rfl<|gR 8 rfl ?_;obtain⟨e,i,h⟩:=h;refine qC0 i rfl<|gR 4 rfl ?_;subst h;exact qN [.tmp 4];refine gR 8 rfl ?_;obtain⟨f,j,h⟩:=h;refine qC0 j rfl<|gR 4 rfl ?_;subst h;exact qN [.tmp 4];refine gR 14 rfl ?_;obtain⟨g,k,h⟩:=h;refine qC0 k rfl<|gR 4 rfl ?_;subst h;exact qN [.tmp 4]
theorem qE(m:Nat)(q p1 G E:Int)(h:((q<p1)→(-1)=E)∧((¬q<p1)→G=E)):dC q p1 G E:=by
 refine⟨rfl,rfl,?_⟩;refine qA 11 [] func81 λK J=>?_;refine gR 13 rfl<|qBd 9 rfl rfl rfl h ?_ ?_<;>intro h;refine gR 8 rfl ?_;subst h;exact qN [.tmp 6];refine gR 10 rfl ?_;subst h;exact qN [.tmp 6]
theorem rp(m:Nat)(q:Int)(E:Bool)(h:((5≤q)→decide (q≤9)=E)∧((¬5≤q)→false=E)):iB q E:=by
 refine⟨rfl,rfl,?_⟩;refine qA 9 [] func85 λK G=>?_;refine gR 10 rfl<|qBdZ 5 4 rfl rfl rfl rfl h ?_ ?_<;>intro h;refine gR 7 rfl ?_;subst h;exact qN [.tmp 2];refine gR 7 rfl ?_;subst h;exact qN [.tmp 2]
theorem nC(m:Nat)(q:Int)(E:Bool)(h:((10≤q)→((q≤22)→(q !=17)=E)∧((¬q≤22)→false=E))∧((¬10≤q)→false=E)):da q E:=by
 refine⟨rfl,rfl,?_⟩;refine qA 13 [] func84 λK G=>?_;refine gR 10 rfl<|qBdZ 5 4 rfl rfl rfl rfl h ?_ ?_<;>intro h;refine gR 4 rfl<|qBdZ 9 8 rfl rfl rfl rfl h ?_ ?_<;>intro h;refine gR 7 rfl ?_;subst h;exact qN [.tmp 2];refine gR 7 rfl ?_;subst h;exact qN [.tmp 2];refine gR 11 rfl ?_;subst h;exact qN [.tmp 2]
theorem ru(m:Nat)(q:Int)(E:Bool)(h:∃a,da q a∧((a=true)→((q≠19)→((q≠20)→(q !=21)=E)∧((q=20)→false=E))∧((q=19)→false=E))∧((a=false)→false=E)):kL q E:=by
 refine⟨rfl,rfl,?_⟩;refine qA 17 [] func86 λK G=>?_;refine gR 8 rfl ?_;obtain⟨a,b,h⟩:=h;refine qC0 b rfl<|gR 1 rfl<|qBiZ 5 4 rfl rfl rfl rfl h ?_ ?_<;>intro h;refine gR 4 rfl<|qBhZ 9 8 rfl rfl rfl rfl h mj jT ?_ ?_<;>intro h;refine gR 4 rfl<|qBhZ 13 12 rfl rfl rfl rfl h mj jT ?_ ?_<;>intro h;refine gR 7 rfl ?_;subst h;exact qN [.tmp 2];refine gR 7 rfl ?_;subst h;exact qN [.tmp 2];refine gR 11 rfl ?_;subst h;exact qN [.tmp 2];refine gR 15 rfl ?_;subst h;exact qN [.tmp 2]
theorem pO(m:Nat)(q:List UInt8)(E:Bool)(h:((q=[43])→true=E)∧((q≠[43])→((q=[45])→true=E)∧((q≠[45])→((q=[42])→true=E)∧((q≠[42])→((q=[60])→true=E)∧((q≠[60])→((q=[61,61])→true=E)∧((q≠[61,61])→false=E)))))):jv q E:=by
 refine⟨rfl,rfl,?_⟩;refine qA 10 [] func83 λK G=>?_;refine gR 19 rfl<|qBeZ 4 5 rfl rfl rfl rfl h ?_ ?_<;>intro h;refine gR 12 rfl ?_;subst h;exact qN [.tmp 2];refine gR 7 rfl<|qBeZ 4 6 rfl rfl rfl rfl h ?_ ?_<;>intro h;refine gR 12 rfl ?_;subst h;exact qN [.tmp 2];refine gR 7 rfl<|qBeZ 4 7 rfl rfl rfl rfl h ?_ ?_<;>intro h;refine gR 12 rfl ?_;subst h;exact qN [.tmp 2];refine gR 7 rfl<|qBeZ 4 8 rfl rfl rfl rfl h ?_ ?_<;>intro h;refine gR 12 rfl ?_;subst h;exact qN [.tmp 2];refine gR 6 rfl<|qBeZ 4 9 rfl rfl rfl rfl h ?_ ?_<;>intro h;refine gR 9 rfl ?_;subst h;exact qN [.tmp 2];refine gR 10 rfl ?_;subst h;exact qN [.tmp 2]
def jZ(m:Nat)(q:Int)(p1:List UInt8)(a:Int)(b E:Bool):Prop:=∀(K:Ctx),ar K []→qLG K f57 (λu _=>u=.bool E) (cB (xG (ae f57))) [.blk 0,.seq (xH (ae f57))] 51 (mkF 51 0 [(1,.str p1),(5,qi a),(8,qi q),(9,.bool b)]) ⟨0,[]⟩
def eZ(m:Nat)(q:Int)(p1:List UInt8)(a:Int)(b E:Bool):Prop:=∀(K:Ctx),ar K []→qLG K f57 (λu _=>u=.bool E) (cB (xL (ae f57))) [.blk 0,.seq (xH (ae f57))] 51 (mkF 51 0 [(1,.str p1),(5,qi a),(8,qi q),(14,.bool b)]) ⟨0,[]⟩
theorem rM(m:Nat)(q:Int)(p1:List UInt8)(G:Bool)(h:∃a,wN p1 a∧((q=1)→jZ m q p1 a true G)∧((q≠1)→jZ m q p1 a (q==3) G)):kw q p1 G:=by
 refine⟨rfl,rfl,?_⟩;refine qA 51 [] func57 λK E=>?_;refine gR 8 rfl ?_;obtain⟨a,b,h⟩:=h;refine qC0 b rfl<|gR 17 rfl<|qBeZ 9 10 rfl rfl rfl rfl h ?_ ?_<;>intro h;exact gR 3 rfl<|qJ E (h K E) [];exact gR 6 rfl<|qJ E (h K E) []
theorem qK(m:Nat)(q:Int)(p1:List UInt8)(a:Int)(b G:Bool)(h:((b=true)→(a==2)=G)∧((b=false)→((q=2)→eZ m q p1 a true G)∧((q≠2)→((q=4)→eZ m q p1 a true G)∧((q≠4)→((q=12)→eZ m q p1 a true G)∧((q≠12)→eZ m q p1 a (q==20) G))))):jZ (m+1) q p1 a b G:=by
 intro K E;refine qBi 9 rfl rfl rfl h ?_ ?_<;>intro h;refine gR 11 rfl ?_;subst h;exact qN [.tmp 4];refine gR 8 rfl<|qBeZ 14 15 rfl rfl rfl rfl h ?_ ?_<;>intro h;exact gR 3 rfl<|qJ E (h K E) [];refine gR 7 rfl<|qBeZ 14 16 rfl rfl rfl rfl h ?_ ?_<;>intro h;exact gR 3 rfl<|qJ E (h K E) [];refine gR 7 rfl<|qBeZ 14 17 rfl rfl rfl rfl h ?_ ?_<;>intro h;exact gR 3 rfl<|qJ E (h K E) [];exact gR 6 rfl<|qJ E (h K E) []
theorem qI(m:Nat)(q:Int)(p1:List UInt8)(a:Int)(b E:Bool)(h:((b=true)→(a==1)=E)∧((b=false)→((q=9)→((a=2)→true=E)∧((a≠2)→(a==4)=E))∧((q≠9)→((q=16)→((a=1)→true=E)∧((a≠1)→(a==3)=E))∧((q≠16)→((q=10)→(a==5)=E)∧((q≠10)→((q=11)→(a==6)=E)∧((q≠11)→((q=21)→∃c,jv p1 c∧c=E)∧((q≠21)→(p1==[])=E))))))):eZ (m+1) q p1 a b E:=by
 intro K G;refine qBi 14 rfl rfl rfl h ?_ ?_<;>intro h;refine gR 11 rfl ?_;subst h;exact qN [.tmp 4];refine gR 7 rfl<|qBeZ 21 22 rfl rfl rfl rfl h ?_ ?_<;>intro h;refine gR 6 rfl<|qBeZ 25 24 rfl rfl rfl rfl h ?_ ?_<;>intro h;refine gR 9 rfl ?_;subst h;exact qN [.tmp 4];refine gR 9 rfl ?_;subst h;exact qN [.tmp 4];refine gR 7 rfl<|qBeZ 29 30 rfl rfl rfl rfl h ?_ ?_<;>intro h;refine gR 6 rfl<|qBeZ 33 32 rfl rfl rfl rfl h ?_ ?_<;>intro h;refine gR 9 rfl ?_;subst h;exact qN [.tmp 4];refine gR 9 rfl ?_;subst h;exact qN [.tmp 4];refine gR 7 rfl<|qBeZ 37 38 rfl rfl rfl rfl h ?_ ?_<;>intro h;refine gR 11 rfl ?_;subst h;exact qN [.tmp 4];refine gR 7 rfl<|qBeZ 41 42 rfl rfl rfl rfl h ?_ ?_<;>intro h;refine gR 11 rfl ?_;subst h;exact qN [.tmp 4];refine gR 7 rfl<|qBeZ 45 46 rfl rfl rfl rfl h ?_ ?_<;>intro h;refine gR 4 rfl ?_;obtain⟨c,d,h⟩:=h;refine qC0 d rfl<|gR 6 rfl ?_;subst h;exact qN [.tmp 4];refine gR 12 rfl ?_;subst h;exact qN [.tmp 4]
def iD(m:Nat)(q:Tree)(p1:Int)(a:Tree)(b E:Bool):Prop:=∀(K:Ctx),ar K []→qLG K f58 (λu _=>u=.bool E) (cB (xC (xG (ae f58)))) [.blk 0,.seq (xH (ae f58))] 67 (mkF 67 0 [(1,qi p1),(5,qi a.kind),(13,qi q.kind),(43,.bool b)]) ⟨0,[]⟩
theorem sL(m:Nat)(q:Tree)(p1:Int)(E:Bool)(h:∃b,p1=((b:Nat):Int)∧∃a,q.kids[b]?=some a∧((q.kind=1)→((a.kind=2)→true=E)∧((a.kind≠2)→(a.kind==3)=E))∧((q.kind≠1)→((q.kind=2)→((p1=((q.kids.length:Int)-1))→∃c,da a.kind c∧c=E)∧((p1≠((q.kids.length:Int)-1))→((p1=((q.kids.length:Int)-2))→∃d,iB a.kind d∧d=E)∧((p1≠((q.kids.length:Int)-2))→(a.kind==4)=E)))∧((q.kind≠2)→((q.kind=3)→iD m q p1 a true E)∧((q.kind≠3)→((q.kind=4)→iD m q p1 a true E)∧((q.kind≠4)→iD m q p1 a (q.kind==8) E))))):ln q p1 E:=by
 refine⟨rfl,rfl,?_⟩;refine qA 67 [] func58 λK G=>?_;refine gR 3 rfl<|gFP 0 rfl rfl rfl rfl<|gR 8 rfl ?_;obtain⟨b,g,h⟩:=h;refine gV 8 (qi ((b:Nat):Int)) rfl (ds g) rfl ?_;obtain⟨a,e,h⟩:=h;refine gY (aG (aq e) ac rfl rfl rfl rfl) rfl rfl<|gR 19 rfl<|qXeZ 14 15 rfl rfl rfl rfl h ?_ ?_<;>intro hd h;refine gR 6 rfl<|qXeZ 18 17 rfl rfl rfl rfl h ?_ ?_<;>intro hd h;refine gR 9 rfl ?_;subst h;exact qN [.tmp 4];refine gR 9 rfl ?_;subst h;exact qN [.tmp 4];refine gR 7 rfl<|qXeZ 22 23 rfl rfl rfl rfl h ?_ ?_<;>intro hd h;refine gR 13 rfl<|gV 28 (qi (q.kids.length:Int)) rfl (aW (aN _)) rfl<|gLB 27 rfl (aN _) λf=>gR 1 rfl<|gV 29 (qi ((q.kids.length:Int)-1)) rfl (an (by have :=f;omega) rfl) rfl<|gR 4 rfl<|qXeZ 25 30 rfl rfl rfl rfl h ?_ ?_<;>intro hd h;refine gR 4 rfl ?_;obtain⟨c,i,h⟩:=h;refine qC0 i rfl<|gR 8 rfl ?_;subst h;exact qN [.tmp 4];refine gR 6 rfl<|gV 36 (qi (q.kids.length:Int)) rfl (aW (aN _)) rfl<|gR 1 rfl<|gV 37 (qi ((q.kids.length:Int)-2)) rfl (an (by have :=f;omega) rfl) rfl<|gR 4 rfl<|qXeZ 33 38 rfl rfl rfl rfl h ?_ ?_<;>intro hd h;refine gR 4 rfl ?_;obtain⟨d,j,h⟩:=h;refine qC0 j rfl<|gR 8 rfl ?_;subst h;exact qN [.tmp 4];refine gR 14 rfl ?_;subst h;exact qN [.tmp 4];refine gR 8 rfl<|qXeZ 43 44 rfl rfl rfl rfl h ?_ ?_<;>intro hd h;exact gR 3 rfl<|qJ G (h K G) [];refine gR 7 rfl<|qXeZ 43 45 rfl rfl rfl rfl h ?_ ?_<;>intro hd h;exact gR 3 rfl<|qJ G (h K G) [];exact gR 6 rfl<|qJ G (h K G) []
theorem re(m:Nat)(E:Tree)(p1:Int)(a:Tree)(c q:Bool)(h:((c=true)→∃d,iB a.kind d∧d=q)∧((c=false)→((E.kind=16)→(a.kind==17)=q)∧((E.kind≠16)→((E.kind=21)→∃b,kL a.kind b∧((b=true)→true=q)∧((b=false)→((p1=0)→(a.kind==21)=q)∧((p1≠0)→false=q)))∧((E.kind≠21)→∃e,da a.kind e∧e=q)))):iD (m+1) E p1 a c q:=by
 intro K G;refine qBi 43 rfl rfl rfl h ?_ ?_<;>intro h;refine gR 4 rfl ?_;obtain⟨d,f,h⟩:=h;refine qC0 f rfl<|gR 6 rfl ?_;subst h;exact qN [.tmp 4];refine gR 7 rfl<|qBeZ 49 50 rfl rfl rfl rfl h ?_ ?_<;>intro h;refine gR 11 rfl ?_;subst h;exact qN [.tmp 4];refine gR 7 rfl<|qBeZ 53 54 rfl rfl rfl rfl h ?_ ?_<;>intro h;refine gR 4 rfl ?_;obtain⟨b,g,h⟩:=h;refine qC0 g rfl<|gR 1 rfl<|qBiZ 57 56 rfl rfl rfl rfl h ?_ ?_<;>intro h;refine gR 13 rfl ?_;subst h;exact qN [.tmp 4];refine gR 3 rfl<|qBeZ 60 59 rfl rfl rfl rfl h ?_ ?_<;>intro h;refine gR 10 rfl ?_;subst h;exact qN [.tmp 4];refine gR 10 rfl ?_;subst h;exact qN [.tmp 4];refine gR 7 rfl ?_;obtain⟨e,i,h⟩:=h;refine qC0 i rfl<|gR 4 rfl ?_;subst h;exact qN [.tmp 4]
def ij(m:Nat)(q:Tree)(a:Nat)(G:Bool):Prop:=∀(K:Ctx) (E:Nat),ar K []→m≤E→qLG K f32 (λu _=>u=.bool G) (xI (ae f32)) [.loop (xI (ae f32)) E,.blk 0,.seq (xH (ae f32))] 38 (mkF 38 0 [(1,.box (ak q) 0),(21,.row 4 (kidsV q.kids)),(22,qi (q.kids.length:Int)),(23,qi (a:Int))]) ⟨0,[]⟩
theorem rK(m:Nat)(p0:Tree)(r0:Bool)(h:∃a,lw p0.kind (p0.kids.length:Int) a∧((a<0)→false=r0)∧((¬a<0)→∃b,kw p0.kind p0.text b∧((b=false)→false=r0)∧((b=true)→ij m p0 0 r0))):iJ p0 r0:=by
 refine⟨rfl,rfl,?_⟩;refine qA 38 [] func32 λK hK=>?_;refine gR 3 rfl<|gFP 0 rfl rfl rfl rfl<|gR 11 rfl<|gV 9 (qi (p0.kids.length:Int)) rfl (aW (aN _)) rfl<|gLB 8 rfl (aN _) λe=>?_;obtain⟨a,c,h⟩:=h;refine qC0 c rfl<|gR 2 rfl<|qXdZ 12 11 rfl rfl rfl rfl h ?_ ?_<;>intro hd h;refine gR 17 rfl ?_;subst h;exact qN [.tmp 2];refine gR 4 rfl ?_;obtain⟨b,d,h⟩:=h;refine qC0 d rfl<|gR 4 rfl<|qXh 19 rfl rfl rfl h cx cw ?_ ?_<;>intro hd h;refine gR 8 rfl ?_;subst h;exact qN [.tmp 2];exact gR 9 rfl<|gV 22 (qi (p0.kids.length:Int)) rfl (aW (aN _)) rfl<|gR 4 rfl<|go_loop m<|qW hK h []
theorem mn(m:Nat)(q:Tree)(a:Nat)(E:Bool)(h:((a<q.kids.length)→∃d,q.kids[a]?=some d∧∃b,ln q (a:Int) b∧((b=false)→false=E)∧((b=true)→∃c,iJ d c∧((c=false)→false=E)∧((c=true)→a+1≤9223372036854775807∧ij m q (a+1) E)))∧((¬a<q.kids.length)→true=E)):ij (m+1) q a E:=by
 refine qj λK J G i=>?_;refine gR 6 rfl<|qXh 24 rfl rfl rfl h ec ej ?_ ?_<;>intro hd h;refine gR 8 rfl ?_;obtain⟨d,e,h⟩:=h;refine gY (aG (aq e) ac rfl rfl rfl rfl) rfl rfl<|gR 10 rfl ?_;obtain⟨b,f,h⟩:=h;refine qC0 f rfl<|gR 2 rfl<|qXhZ 32 31 rfl rfl rfl rfl h cx cw ?_ ?_<;>intro hd h;refine gR 15 rfl<|go_xloopR<|gR 2 rfl ?_;subst h;exact qN [.tmp 2];refine gR 1 rfl ?_;obtain⟨c,g,h⟩:=h;refine qC0 g rfl<|gR 4 rfl<|qXh 36 rfl rfl rfl h cx cw ?_ ?_<;>intro hd h;refine gR 9 rfl<|go_xloopR<|gR 2 rfl ?_;subst h;exact qN [.tmp 2];refine gR 5 rfl ?_;obtain⟨O,h⟩:=h;exact gR 1 rfl<|gV 37 (qi ((a+1:Nat):Int)) rfl (an (by omega) (by omega)) rfl<|gR 2 rfl<|go_xloop<|qW G h [];refine gR 3 rfl<|go_xloopE<|gR 8 rfl ?_;subst h;exact qN [.tmp 2]
def eK(m:Nat)(q p1:Int)(a:Bool)(E:Int):Prop:=∀(K:Ctx),ar K []→qLG K f95 (λu _=>u=qi E) (cB (xC (xB (xE (cB (ae f95)))))) [.blk 0,.seq (xA (ae f95))] 71 (mkF 71 0 [(1,qi p1),(5,qi q),(22,.bool a)]) ⟨0,[]⟩
def aR(m:Nat)(q p1:Int)(a:Bool)(E:Int):Prop:=∀(K:Ctx),ar K []→qLG K f95 (λu _=>u=qi E) (cB (xF (xE (cB (ae f95))))) [.blk 0,.seq (xA (ae f95))] 71 (mkF 71 0 [(1,qi p1),(5,qi q),(28,.bool a)]) ⟨0,[]⟩
theorem pf(m:Nat)(q p1 E:Int)(h:((q=1)→((0≤p1)→3=E)∧((¬0≤p1)→(-1)=E))∧((q≠1)→((q=2)→((2≤p1)→InI (p1-3)∧InI (6+(max 0 (p1-3)))∧(6+(max 0 (p1-3)))=E)∧((¬2≤p1)→(-1)=E))∧((q≠2)→((q=3)→∃a,bB p1 1 3 a∧a=E)∧((q≠3)→((q=4)→eK m q p1 true E)∧((q≠4)→((q=8)→eK m q p1 true E)∧((q≠8)→eK m q p1 (q==22) E)))))):dt q p1 E:=by
 refine⟨rfl,rfl,?_⟩;refine qA 71 [] func95 λK G=>?_;refine gR 18 rfl<|qBeZ 6 7 rfl rfl rfl rfl h ?_ ?_<;>intro h;refine gR 7 rfl<|qBd 9 rfl rfl rfl h ?_ ?_<;>intro h;refine gR 9 rfl ?_;subst h;exact qN [.tmp 4];refine gR 10 rfl ?_;subst h;exact qN [.tmp 4];refine gR 7 rfl<|qBeZ 10 11 rfl rfl rfl rfl h ?_ ?_<;>intro h;refine gR 7 rfl<|qBd 13 rfl rfl rfl h ?_ ?_<;>intro h;refine gR 4 rfl ?_;obtain⟨J,h⟩:=h;refine gR 1 rfl<|gV 15 (qi (p1-3)) rfl (an J rfl) rfl<|gR 1 rfl ?_;obtain⟨J,h⟩:=h;refine gR 1 rfl<|gV 17 (qi (6+(max 0 (p1-3)))) rfl (an J rfl) rfl<|gR 6 rfl ?_;subst h;exact qN [.tmp 4];refine gR 10 rfl ?_;subst h;exact qN [.tmp 4];refine gR 7 rfl<|qBeZ 18 19 rfl rfl rfl rfl h ?_ ?_<;>intro h;refine gR 4 rfl ?_;obtain⟨a,b,h⟩:=h;refine qC0 b rfl<|gR 6 rfl ?_;subst h;exact qN [.tmp 4];refine gR 8 rfl<|qBeZ 22 23 rfl rfl rfl rfl h ?_ ?_<;>intro h;exact gR 3 rfl<|qJ G (h K G) [];refine gR 7 rfl<|qBeZ 22 24 rfl rfl rfl rfl h ?_ ?_<;>intro h;exact gR 3 rfl<|qJ G (h K G) [];exact gR 6 rfl<|qJ G (h K G) []
theorem ou(m:Nat)(q p1:Int)(a:Bool)(G:Int)(h:((a=true)→∃b,bB p1 1 2 b∧b=G)∧((a=false)→((q=5)→aR m q p1 true G)∧((q≠5)→((q=6)→aR m q p1 true G)∧((q≠6)→((q=7)→aR m q p1 true G)∧((q≠7)→((q=9)→aR m q p1 true G)∧((q≠9)→((q=10)→aR m q p1 true G)∧((q≠10)→((q=11)→aR m q p1 true G)∧((q≠11)→((q=12)→aR m q p1 true G)∧((q≠12)→((q=13)→aR m q p1 true G)∧((q≠13)→((q=14)→aR m q p1 true G)∧((q≠14)→aR m q p1 (q==15) G))))))))))):eK (m+1) q p1 a G:=by
 intro K E;refine qBi 22 rfl rfl rfl h ?_ ?_<;>intro h;refine gR 4 rfl ?_;obtain⟨b,c,h⟩:=h;refine qC0 c rfl<|gR 6 rfl ?_;subst h;exact qN [.tmp 4];refine gR 8 rfl<|qBeZ 28 29 rfl rfl rfl rfl h ?_ ?_<;>intro h;exact gR 3 rfl<|qJ E (h K E) [];refine gR 7 rfl<|qBeZ 28 30 rfl rfl rfl rfl h ?_ ?_<;>intro h;exact gR 3 rfl<|qJ E (h K E) [];refine gR 7 rfl<|qBeZ 28 31 rfl rfl rfl rfl h ?_ ?_<;>intro h;exact gR 3 rfl<|qJ E (h K E) [];refine gR 7 rfl<|qBeZ 28 32 rfl rfl rfl rfl h ?_ ?_<;>intro h;exact gR 3 rfl<|qJ E (h K E) [];refine gR 7 rfl<|qBeZ 28 33 rfl rfl rfl rfl h ?_ ?_<;>intro h;exact gR 3 rfl<|qJ E (h K E) [];refine gR 7 rfl<|qBeZ 28 34 rfl rfl rfl rfl h ?_ ?_<;>intro h;exact gR 3 rfl<|qJ E (h K E) [];refine gR 7 rfl<|qBeZ 28 35 rfl rfl rfl rfl h ?_ ?_<;>intro h;exact gR 3 rfl<|qJ E (h K E) [];refine gR 7 rfl<|qBeZ 28 36 rfl rfl rfl rfl h ?_ ?_<;>intro h;exact gR 3 rfl<|qJ E (h K E) [];refine gR 7 rfl<|qBeZ 28 37 rfl rfl rfl rfl h ?_ ?_<;>intro h;exact gR 3 rfl<|qJ E (h K E) [];exact gR 6 rfl<|qJ E (h K E) []
theorem nY(m:Nat)(q p1:Int)(a:Bool)(E:Int)(h:((a=true)→∃b,bB p1 0 1 b∧b=E)∧((a=false)→((q=16)→((0≤p1)→InI (p1-1)∧InI (3+(max 0 (p1-1)))∧(3+(max 0 (p1-1)))=E)∧((¬0≤p1)→(-1)=E))∧((q≠16)→((q=17)→∃c,bB p1 1 0 c∧c=E)∧((q≠17)→((q=18)→((1≤p1)→InI (1+p1)∧(1+p1)=E)∧((¬1≤p1)→(-1)=E))∧((q≠18)→((q=19)→∃d,bB p1 3 3 d∧d=E)∧((q≠19)→((q=20)→∃e,bB p1 2 4 e∧e=E)∧((q≠20)→((q=21)→∃f,bB p1 2 1 f∧f=E)∧((q≠21)→(-1)=E)))))))):aR (m+1) q p1 a E:=by
 intro K J;refine qBi 28 rfl rfl rfl h ?_ ?_<;>intro h;refine gR 4 rfl ?_;obtain⟨b,g,h⟩:=h;refine qC0 g rfl<|gR 6 rfl ?_;subst h;exact qN [.tmp 4];refine gR 7 rfl<|qBeZ 41 42 rfl rfl rfl rfl h ?_ ?_<;>intro h;refine gR 7 rfl<|qBd 44 rfl rfl rfl h ?_ ?_<;>intro h;refine gR 4 rfl ?_;obtain⟨G,h⟩:=h;refine gR 1 rfl<|gV 46 (qi (p1-1)) rfl (an G rfl) rfl<|gR 1 rfl ?_;obtain⟨G,h⟩:=h;refine gR 1 rfl<|gV 48 (qi (3+(max 0 (p1-1)))) rfl (an G rfl) rfl<|gR 6 rfl ?_;subst h;exact qN [.tmp 4];refine gR 10 rfl ?_;subst h;exact qN [.tmp 4];refine gR 7 rfl<|qBeZ 49 50 rfl rfl rfl rfl h ?_ ?_<;>intro h;refine gR 4 rfl ?_;obtain⟨c,i,h⟩:=h;refine qC0 i rfl<|gR 6 rfl ?_;subst h;exact qN [.tmp 4];refine gR 7 rfl<|qBeZ 53 54 rfl rfl rfl rfl h ?_ ?_<;>intro h;refine gR 7 rfl<|qBd 56 rfl rfl rfl h ?_ ?_<;>intro h;refine gR 4 rfl ?_;obtain⟨G,h⟩:=h;refine gR 1 rfl<|gV 58 (qi (1+p1)) rfl (an G rfl) rfl<|gR 6 rfl ?_;subst h;exact qN [.tmp 4];refine gR 10 rfl ?_;subst h;exact qN [.tmp 4];refine gR 7 rfl<|qBeZ 59 60 rfl rfl rfl rfl h ?_ ?_<;>intro h;refine gR 4 rfl ?_;obtain⟨d,j,h⟩:=h;refine qC0 j rfl<|gR 6 rfl ?_;subst h;exact qN [.tmp 4];refine gR 7 rfl<|qBeZ 63 64 rfl rfl rfl rfl h ?_ ?_<;>intro h;refine gR 4 rfl ?_;obtain⟨e,k,h⟩:=h;refine qC0 k rfl<|gR 6 rfl ?_;subst h;exact qN [.tmp 4];refine gR 7 rfl<|qBeZ 67 68 rfl rfl rfl rfl h ?_ ?_<;>intro h;refine gR 4 rfl ?_;obtain⟨f,l,h⟩:=h;refine qC0 l rfl<|gR 6 rfl ?_;subst h;exact qN [.tmp 4];refine gR 10 rfl ?_;subst h;exact qN [.tmp 4]
theorem pk(m:Nat)(q p1 G E:Int)(h:((q=p1)→G=E)∧((q≠p1)→(-1)=E)):bB q p1 G E:=by
 refine⟨rfl,rfl,?_⟩;refine qA 11 [] func108 λK J=>?_;refine gR 13 rfl<|qBe 9 rfl rfl rfl h ?_ ?_<;>intro h;refine gR 9 rfl ?_;subst h;exact qN [.tmp 6];refine gR 9 rfl ?_;subst h;exact qN [.tmp 6]
theorem oq(m:Nat)(q:Int)(E:Bool)(h:((5≤q)→decide (q≤9)=E)∧((¬5≤q)→false=E)):eM q E:=by
 refine⟨rfl,rfl,?_⟩;refine qA 9 [] func111 λK G=>?_;refine gR 10 rfl<|qBdZ 5 4 rfl rfl rfl rfl h ?_ ?_<;>intro h;refine gR 7 rfl ?_;subst h;exact qN [.tmp 2];refine gR 7 rfl ?_;subst h;exact qN [.tmp 2]
theorem nV(m:Nat)(q:Int)(E:Bool)(h:((10≤q)→((q≤22)→(q !=17)=E)∧((¬q≤22)→false=E))∧((¬10≤q)→false=E)):di q E:=by
 refine⟨rfl,rfl,?_⟩;refine qA 13 [] func110 λK G=>?_;refine gR 10 rfl<|qBdZ 5 4 rfl rfl rfl rfl h ?_ ?_<;>intro h;refine gR 4 rfl<|qBdZ 9 8 rfl rfl rfl rfl h ?_ ?_<;>intro h;refine gR 7 rfl ?_;subst h;exact qN [.tmp 2];refine gR 7 rfl ?_;subst h;exact qN [.tmp 2];refine gR 11 rfl ?_;subst h;exact qN [.tmp 2]
theorem og(m:Nat)(q:Int)(E:Bool)(h:∃a,di q a∧((a=true)→((q≠19)→((q≠20)→(q !=21)=E)∧((q=20)→false=E))∧((q=19)→false=E))∧((a=false)→false=E)):eF q E:=by
 refine⟨rfl,rfl,?_⟩;refine qA 17 [] func107 λK G=>?_;refine gR 8 rfl ?_;obtain⟨a,b,h⟩:=h;refine qC0 b rfl<|gR 1 rfl<|qBiZ 5 4 rfl rfl rfl rfl h ?_ ?_<;>intro h;refine gR 4 rfl<|qBhZ 9 8 rfl rfl rfl rfl h mj jT ?_ ?_<;>intro h;refine gR 4 rfl<|qBhZ 13 12 rfl rfl rfl rfl h mj jT ?_ ?_<;>intro h;refine gR 7 rfl ?_;subst h;exact qN [.tmp 2];refine gR 7 rfl ?_;subst h;exact qN [.tmp 2];refine gR 11 rfl ?_;subst h;exact qN [.tmp 2];refine gR 15 rfl ?_;subst h;exact qN [.tmp 2]
theorem mu(m:Nat)(q:List UInt8)(E:Bool)(h:((q=[43])→true=E)∧((q≠[43])→((q=[45])→true=E)∧((q≠[45])→((q=[42])→true=E)∧((q≠[42])→((q=[60])→true=E)∧((q≠[60])→((q=[61,61])→true=E)∧((q≠[61,61])→false=E)))))):eU q E:=by
 refine⟨rfl,rfl,?_⟩;refine qA 10 [] func109 λK G=>?_;refine gR 19 rfl<|qBeZ 4 5 rfl rfl rfl rfl h ?_ ?_<;>intro h;refine gR 12 rfl ?_;subst h;exact qN [.tmp 2];refine gR 7 rfl<|qBeZ 4 6 rfl rfl rfl rfl h ?_ ?_<;>intro h;refine gR 12 rfl ?_;subst h;exact qN [.tmp 2];refine gR 7 rfl<|qBeZ 4 7 rfl rfl rfl rfl h ?_ ?_<;>intro h;refine gR 12 rfl ?_;subst h;exact qN [.tmp 2];refine gR 7 rfl<|qBeZ 4 8 rfl rfl rfl rfl h ?_ ?_<;>intro h;refine gR 12 rfl ?_;subst h;exact qN [.tmp 2];refine gR 6 rfl<|qBeZ 4 9 rfl rfl rfl rfl h ?_ ?_<;>intro h;refine gR 9 rfl ?_;subst h;exact qN [.tmp 2];refine gR 10 rfl ?_;subst h;exact qN [.tmp 2]
def fx(m:Nat)(q:Int)(p1:List UInt8)(a:Int)(b E:Bool):Prop:=∀(K:Ctx),ar K []→qLG K f96 (λu _=>u=.bool E) (cB (xG (ae f96))) [.blk 0,.seq (xH (ae f96))] 51 (mkF 51 0 [(1,.str p1),(5,qi a),(8,qi q),(9,.bool b)]) ⟨0,[]⟩
def ch(m:Nat)(q:Int)(p1:List UInt8)(a:Int)(b E:Bool):Prop:=∀(K:Ctx),ar K []→qLG K f96 (λu _=>u=.bool E) (cB (xL (ae f96))) [.blk 0,.seq (xH (ae f96))] 51 (mkF 51 0 [(1,.str p1),(5,qi a),(8,qi q),(14,.bool b)]) ⟨0,[]⟩
theorem mY(m:Nat)(q:Int)(p1:List UInt8)(G:Bool)(h:∃a,po p1 a∧((q=1)→fx m q p1 a true G)∧((q≠1)→fx m q p1 a (q==3) G)):ga q p1 G:=by
 refine⟨rfl,rfl,?_⟩;refine qA 51 [] func96 λK E=>?_;refine gR 8 rfl ?_;obtain⟨a,b,h⟩:=h;refine qC0 b rfl<|gR 17 rfl<|qBeZ 9 10 rfl rfl rfl rfl h ?_ ?_<;>intro h;exact gR 3 rfl<|qJ E (h K E) [];exact gR 6 rfl<|qJ E (h K E) []
theorem mD(m:Nat)(q:Int)(p1:List UInt8)(a:Int)(b G:Bool)(h:((b=true)→(a==2)=G)∧((b=false)→((q=2)→ch m q p1 a true G)∧((q≠2)→((q=4)→ch m q p1 a true G)∧((q≠4)→((q=12)→ch m q p1 a true G)∧((q≠12)→ch m q p1 a (q==20) G))))):fx (m+1) q p1 a b G:=by
 intro K E;refine qBi 9 rfl rfl rfl h ?_ ?_<;>intro h;refine gR 11 rfl ?_;subst h;exact qN [.tmp 4];refine gR 8 rfl<|qBeZ 14 15 rfl rfl rfl rfl h ?_ ?_<;>intro h;exact gR 3 rfl<|qJ E (h K E) [];refine gR 7 rfl<|qBeZ 14 16 rfl rfl rfl rfl h ?_ ?_<;>intro h;exact gR 3 rfl<|qJ E (h K E) [];refine gR 7 rfl<|qBeZ 14 17 rfl rfl rfl rfl h ?_ ?_<;>intro h;exact gR 3 rfl<|qJ E (h K E) [];exact gR 6 rfl<|qJ E (h K E) []
theorem mQ(m:Nat)(q:Int)(p1:List UInt8)(a:Int)(b E:Bool)(h:((b=true)→(a==1)=E)∧((b=false)→((q=9)→((a=2)→true=E)∧((a≠2)→(a==4)=E))∧((q≠9)→((q=16)→((a=1)→true=E)∧((a≠1)→(a==3)=E))∧((q≠16)→((q=10)→(a==5)=E)∧((q≠10)→((q=11)→(a==6)=E)∧((q≠11)→((q=21)→∃c,eU p1 c∧c=E)∧((q≠21)→(p1==[])=E))))))):ch (m+1) q p1 a b E:=by
 intro K G;refine qBi 14 rfl rfl rfl h ?_ ?_<;>intro h;refine gR 11 rfl ?_;subst h;exact qN [.tmp 4];refine gR 7 rfl<|qBeZ 21 22 rfl rfl rfl rfl h ?_ ?_<;>intro h;refine gR 6 rfl<|qBeZ 25 24 rfl rfl rfl rfl h ?_ ?_<;>intro h;refine gR 9 rfl ?_;subst h;exact qN [.tmp 4];refine gR 9 rfl ?_;subst h;exact qN [.tmp 4];refine gR 7 rfl<|qBeZ 29 30 rfl rfl rfl rfl h ?_ ?_<;>intro h;refine gR 6 rfl<|qBeZ 33 32 rfl rfl rfl rfl h ?_ ?_<;>intro h;refine gR 9 rfl ?_;subst h;exact qN [.tmp 4];refine gR 9 rfl ?_;subst h;exact qN [.tmp 4];refine gR 7 rfl<|qBeZ 37 38 rfl rfl rfl rfl h ?_ ?_<;>intro h;refine gR 11 rfl ?_;subst h;exact qN [.tmp 4];refine gR 7 rfl<|qBeZ 41 42 rfl rfl rfl rfl h ?_ ?_<;>intro h;refine gR 11 rfl ?_;subst h;exact qN [.tmp 4];refine gR 7 rfl<|qBeZ 45 46 rfl rfl rfl rfl h ?_ ?_<;>intro h;refine gR 4 rfl ?_;obtain⟨c,d,h⟩:=h;refine qC0 d rfl<|gR 6 rfl ?_;subst h;exact qN [.tmp 4];refine gR 12 rfl ?_;subst h;exact qN [.tmp 4]
def fJ(m:Nat)(q:Tree)(p1 E:Int)(a G:Bool):Prop:=∀(K:Ctx),ar K []→qLG K f97 (λu _=>u=.bool G) (cB (xC (xG (ae f97)))) [.blk 0,.seq (xH (ae f97))] 62 (mkF 62 0 [(1,qi p1),(2,qi E),(12,qi q.kind),(38,.bool a)]) ⟨0,[]⟩
theorem qc(m:Nat)(q:Tree)(p1 E:Int)(G:Bool)(h:((q.kind=1)→((E=2)→true=G)∧((E≠2)→(E==3)=G))∧((q.kind≠1)→((q.kind=2)→((p1=((q.kids.length:Int)-1))→∃a,di E a∧a=G)∧((p1≠((q.kids.length:Int)-1))→((p1=((q.kids.length:Int)-2))→∃b,eM E b∧b=G)∧((p1≠((q.kids.length:Int)-2))→(E==4)=G)))∧((q.kind≠2)→((q.kind=3)→fJ m q p1 E true G)∧((q.kind≠3)→((q.kind=4)→fJ m q p1 E true G)∧((q.kind≠4)→fJ m q p1 E (q.kind==8) G))))):ju q p1 E G:=by
 refine⟨rfl,rfl,?_⟩;refine qA 62 [] func97 λK J=>?_;refine gR 3 rfl<|gFP 0 rfl rfl rfl rfl<|gR 8 rfl<|gV 10 (qi (q.kids.length:Int)) rfl (aW (aN _)) rfl<|gLB 9 rfl (aN _) λc=>gR 17 rfl<|qXeZ 13 14 rfl rfl rfl rfl h ?_ ?_<;>intro hd h;refine gR 6 rfl<|qXeZ 17 16 rfl rfl rfl rfl h ?_ ?_<;>intro hd h;refine gR 9 rfl ?_;subst h;exact qN [.tmp 6];refine gR 9 rfl ?_;subst h;exact qN [.tmp 6];refine gR 7 rfl<|qXeZ 21 22 rfl rfl rfl rfl h ?_ ?_<;>intro hd h;refine gR 12 rfl<|gV 26 (qi ((q.kids.length:Int)-1)) rfl (an (by have :=c;omega) rfl) rfl<|gR 4 rfl<|qXeZ 24 27 rfl rfl rfl rfl h ?_ ?_<;>intro hd h;refine gR 4 rfl ?_;obtain⟨a,d,h⟩:=h;refine qC0 d rfl<|gR 8 rfl ?_;subst h;exact qN [.tmp 6];refine gR 5 rfl<|gV 32 (qi ((q.kids.length:Int)-2)) rfl (an (by have :=c;omega) rfl) rfl<|gR 4 rfl<|qXeZ 30 33 rfl rfl rfl rfl h ?_ ?_<;>intro hd h;refine gR 4 rfl ?_;obtain⟨b,e,h⟩:=h;refine qC0 e rfl<|gR 8 rfl ?_;subst h;exact qN [.tmp 6];refine gR 14 rfl ?_;subst h;exact qN [.tmp 6];refine gR 8 rfl<|qXeZ 38 39 rfl rfl rfl rfl h ?_ ?_<;>intro hd h;exact gR 3 rfl<|qJ J (h K J) [];refine gR 7 rfl<|qXeZ 38 40 rfl rfl rfl rfl h ?_ ?_<;>intro hd h;exact gR 3 rfl<|qJ J (h K J) [];exact gR 6 rfl<|qJ J (h K J) []
theorem pm(m:Nat)(G:Tree)(p1 E:Int)(b q:Bool)(h:((b=true)→∃c,eM E c∧c=q)∧((b=false)→((G.kind=16)→(E==17)=q)∧((G.kind≠16)→((G.kind=21)→∃a,eF E a∧((a=true)→true=q)∧((a=false)→((p1=0)→(E==21)=q)∧((p1≠0)→false=q)))∧((G.kind≠21)→∃d,di E d∧d=q)))):fJ (m+1) G p1 E b q:=by
 intro K J;refine qBi 38 rfl rfl rfl h ?_ ?_<;>intro h;refine gR 4 rfl ?_;obtain⟨c,e,h⟩:=h;refine qC0 e rfl<|gR 6 rfl ?_;subst h;exact qN [.tmp 6];refine gR 7 rfl<|qBeZ 44 45 rfl rfl rfl rfl h ?_ ?_<;>intro h;refine gR 11 rfl ?_;subst h;exact qN [.tmp 6];refine gR 7 rfl<|qBeZ 48 49 rfl rfl rfl rfl h ?_ ?_<;>intro h;refine gR 4 rfl ?_;obtain⟨a,f,h⟩:=h;refine qC0 f rfl<|gR 1 rfl<|qBiZ 52 51 rfl rfl rfl rfl h ?_ ?_<;>intro h;refine gR 13 rfl ?_;subst h;exact qN [.tmp 6];refine gR 3 rfl<|qBeZ 55 54 rfl rfl rfl rfl h ?_ ?_<;>intro h;refine gR 10 rfl ?_;subst h;exact qN [.tmp 6];refine gR 10 rfl ?_;subst h;exact qN [.tmp 6];refine gR 7 rfl ?_;obtain⟨d,g,h⟩:=h;refine qC0 g rfl<|gR 4 rfl ?_;subst h;exact qN [.tmp 6]
def dW(m:Nat)(E:Tree)(a:Nat)(G:Bool):Prop:=∀(K:Ctx) (q:Nat),ar K []→m≤q→qLG K f76 (λu _=>u=.bool G) (xI (ae f76)) [.loop (xI (ae f76)) q,.blk 0,.seq (xH (ae f76))] 45 (mkF 45 0 [(1,.box (ak E) 0),(3,qi (a:Int))]) ⟨0,[]⟩
theorem ox(m:Nat)(p0:Tree)(r0:Bool)(h:∃a,dt p0.kind (p0.kids.length:Int) a∧((a<0)→false=r0)∧((¬a<0)→∃b,ga p0.kind p0.text b∧((b=false)→false=r0)∧((b=true)→dW m p0 0 r0))):df p0 r0:=by
 refine⟨rfl,rfl,?_⟩;refine qA 45 [] func76 λK hK=>?_;refine gR 3 rfl<|gFP 0 rfl rfl rfl rfl<|gR 11 rfl<|gV 8 (qi (p0.kids.length:Int)) rfl (aW (aN _)) rfl<|gLB 7 rfl (aN _) λe=>?_;obtain⟨a,c,h⟩:=h;refine qC0 c rfl<|gR 2 rfl<|qXdZ 11 10 rfl rfl rfl rfl h ?_ ?_<;>intro hd h;refine gR 17 rfl ?_;subst h;exact qN [.tmp 2];refine gR 4 rfl ?_;obtain⟨b,d,h⟩:=h;refine qC0 d rfl<|gR 4 rfl<|qXh 18 rfl rfl rfl h cx cw ?_ ?_<;>intro hd h;refine gR 8 rfl ?_;subst h;exact qN [.tmp 2];exact gR 10 rfl<|go_loop m<|qW hK h []
theorem jH(m:Nat)(q:Tree)(a:Nat)(E:Bool)(h:((a<q.kids.length)→∃d,q.kids[a]?=some d∧∃b,ju q (a:Int) d.kind b∧((b=false)→false=E)∧((b=true)→∃e,q.kids[a]?=some e∧∃c,df e c∧((c=false)→false=E)∧((c=true)→dW m q (a+1) E)))∧((¬a<q.kids.length)→true=E)):dW (m+1) q a E:=by
 refine qj λK J G l=>?_;refine gR 7 rfl<|gV 22 (qi (q.kids.length:Int)) rfl (aW (aN _)) rfl<|gLB 21 rfl (aN _) λi=>gR 3 rfl<|qXh 23 rfl rfl rfl h ec ej ?_ ?_<;>intro hd h;refine gR 6 rfl<|qDs [] 19 19<|qDr (qR 0 4 2 [(4,0)]) rfl rfl ?_;obtain⟨d,f,h⟩:=h;refine dI 5 rfl (by kernel_rfl) (aG (aq f) ac rfl rfl rfl rfl) rfl rfl ?_;refine qDr [(6,0),(7,0)] rfl rfl ?_;obtain⟨b,j,h⟩:=h;refine bD 8 j (by kernel_rfl) rfl (by kernel_rfl) rfl rfl .rfl rfl rfl ?_;refine qDr [(9,0),(10,0)] rfl rfl<|qXhZ 36 35 rfl rfl rfl rfl h cx cw ?_ ?_<;>intro hd h;refine qDr ((11,2)::(12,2)::(qR 13 6 0 [])) rfl rfl<|qDe<|gR 10 rfl<|go_xloopR<|gR 2 rfl ?_;subst h;exact qN [.tmp 2];refine qDr [(11,2),(12,2),(13,0)] rfl rfl ?_;obtain⟨e,g,h⟩:=h;refine dI 14 rfl (by kernel_rfl) (aG (aq g) ac rfl rfl rfl rfl) rfl rfl ?_;refine qDr [(15,0)] rfl rfl ?_;obtain⟨c,k,h⟩:=h;refine bD 16 k (by kernel_rfl) rfl (by kernel_rfl) rfl rfl .rfl rfl rfl ?_;refine qDr [(17,0),(18,0)] rfl rfl<|qDe<|gR 1 rfl<|qXh 44 rfl rfl rfl h cx cw ?_ ?_<;>intro hd h;refine gR 9 rfl<|go_xloopR<|gR 2 rfl ?_;subst h;exact qN [.tmp 2];exact gR 7 rfl<|gV 25 (qi ((a+1:Nat):Int)) rfl (an (by have :=i;omega) (by omega)) rfl<|gR 2 rfl<|go_xloop<|qW G h [];refine gR 3 rfl<|go_xloopE<|gR 8 rfl ?_;subst h;exact qN [.tmp 2]
def bh(q p1:List Int)(E:Bool):Prop:=qS 10 [.row 1 (List.map (V.int .i64) q),.row 1 (List.map (V.int .i64) p1)] (.bool E)
def iY(q E:List Int):Prop:=qS 33 [.row 1 (List.map (V.int .i64) q)] (.row 1 (List.map (V.int .i64) E))
def gW(q E:List Int):Prop:=dd [0] prog 33 [.sl 0] ⟨1,[(0,.row 3 1 (List.map (V.int .i64) q))]⟩ (λu G=>u=.row 1 (List.map (V.int .i64) E)∧G=⟨1,[(0,.row 3 1 (List.map (V.int .i64) q))]⟩)
def cg(m:Nat)(E p1:List Int)(a:Nat)(G:Bool):Prop:=∀(K:Ctx) (q:Nat),ar K []→m≤q→qLG K f10 (λu _=>u=.bool G) (xI (ae f10)) [.loop (xI (ae f10)) q,.blk 0,.seq (xH (ae f10))] 26 (mkF 26 0 [(0,.row 1 (List.map (V.int .i64) E)),(1,.row 1 (List.map (V.int .i64) p1)),(5,qi (a:Int))]) ⟨0,[]⟩
theorem fp(m:Nat)(p0 p1:List Int)(r0:Bool)(h:((p0.length≠p1.length)→false=r0)∧((p0.length=p1.length)→cg m p0 p1 0 r0)):bh p0 p1 r0:=by
 refine⟨rfl,rfl,?_⟩;refine qA 26 [] func10 λK hK=>?_;refine gR 10 rfl<|gV 7 (qi (p0.length:Int)) rfl (aW (ax (V.int .i64) _)) rfl<|gLB 6 rfl (ax (V.int .i64) _) λa=>gR 2 rfl<|gV 9 (qi (p1.length:Int)) rfl (aW (ax (V.int .i64) _)) rfl<|gLB 8 rfl (ax (V.int .i64) _) λb=>gR 3 rfl<|qXh 10 rfl rfl rfl h FC EB ?_ ?_<;>intro hd h;refine gR 8 rfl ?_;subst h;exact qN [.tmp 4];exact gR 10 rfl<|go_loop m<|qW hK h []
theorem dh(m:Nat)(q p1:List Int)(a:Nat)(E:Bool)(h:((a<q.length)→∃b,q[a]?=some b∧∃c,p1[a]?=some c∧((b≠c)→false=E)∧((b=c)→cg m q p1 (a+1) E))∧((¬a<q.length)→true=E)):cg (m+1) q p1 a E:=by
 refine qj λK J G i=>?_;refine gR 6 rfl<|gV 13 (qi (q.length:Int)) rfl (aW (ax (V.int .i64) _)) rfl<|gLB 12 rfl (ax (V.int .i64) _) λg=>gR 3 rfl<|qXh 14 rfl rfl rfl h ec ej ?_ ?_<;>intro hd h;refine gR 6 rfl<|qDs [] 9 9<|qDr [(0,2),(1,2)] rfl rfl ?_;obtain⟨b,d,h⟩:=h;refine gYd 2 rfl (by kernel_rfl) (aG (au (f:=(V.int .i64)) d) ac rfl rfl rfl rfl) rfl rfl<|qDr [(3,2),(4,2),(5,0)] rfl rfl ?_;obtain⟨c,e,h⟩:=h;refine dI 6 rfl (by kernel_rfl) (aG (au (f:=(V.int .i64)) e) ac rfl rfl rfl rfl) rfl rfl ?_;refine qDr [(7,0),(8,0)] rfl rfl<|qDe<|gR 1 rfl<|qXh 25 rfl rfl rfl h mj jT ?_ ?_<;>intro hd h;refine gR 9 rfl<|go_xloopR<|gR 2 rfl ?_;subst h;exact qN [.tmp 4];exact gR 7 rfl<|gV 16 (qi ((a+1:Nat):Int)) rfl (an (by have :=g;omega) (by omega)) rfl<|gR 2 rfl<|go_xloop<|qW G h [];refine gR 3 rfl<|go_xloopE<|gR 8 rfl ?_;subst h;exact qN [.tmp 4]
theorem st(m:Nat)(q E:List Int)(h:∀(a:Bool),(a=true→q.length=0)→((a=true)→[]=E)∧((a=false)→q.length≤1000000000∧q=E)):iY q E:=by
 refine⟨rfl,rfl,?_⟩;refine qA 8 [] func33 λK J=>?_;refine gR 9 rfl<|CO (N:=q.length) ac rfl rfl rfl rfl (ax (V.int .i64) q) λa G=>?_;replace h:=h a G;refine gR 2 rfl<|qBi 4 rfl rfl rfl h ?_ ?_<;>intro h;refine gR 8 rfl ?_;subst h;exact go_sub (F':=(mkF 8 0 [(2,.row 1 (List.map (V.int .i64) []))])) (H':=⟨0,[]⟩) [] [] rfl J ⟨⟨_,rfl,(.nil 1)⟩,trivial⟩ trivial rfl<|qN [.tmp 2];refine gR 7 rfl ?_;obtain⟨G,h⟩:=h;refine gDo (.repl 0 (.row 3 1 (List.map (V.int .i64) q))) (bm ac rfl rfl rfl rfl rfl (List.nil_append _) (by rw[ax];exact G)) (okR rfl) rfl rfl rfl<|gR 4 rfl<|gFR 1 rfl (ie _ (λ_=>rfl) _) rfl rfl ?_;subst h;exact qN [.tmp 2]
theorem qF(m:Nat)(q E:List Int)(h:∀(a:Bool),(a=true→q.length=0)→((a=true)→[]=E)∧((a=false)→q.length≤1000000000∧q=E)):gW q E:=by
 refine qA 8 [0] func33 λK J=>?_;refine gR 9 rfl<|CO (N:=q.length) ac rfl rfl rfl rfl (ax (V.int .i64) q) λa G=>?_;replace h:=h a G;refine gR 2 rfl<|qBi 4 rfl rfl rfl h ?_ ?_<;>intro h;refine gR 8 rfl ?_;subst h;exact gE J [] [(2,.row 1 (List.map (V.int .i64) []))] [0] [.tmp 2] ⟨⟨_,rfl,(.nil 1)⟩,trivial⟩;refine gR 7 rfl ?_;obtain⟨G,h⟩:=h;refine gDo (.repl 1 (.row 3 1 (List.map (V.int .i64) q))) (bm ac rfl rfl rfl rfl rfl (List.nil_append _) (by rw[ax];exact G)) (okR rfl) rfl rfl rfl<|gR 4 rfl<|gFR 2 rfl (ie _ (λ_=>rfl) _) rfl rfl ?_;subst h;exact gE J [] [(2,.row 1 (List.map (V.int .i64) q))] [0] [.tmp 2]
variable{k k':IntKind}
section
variable{P:Program}{T:Tab}{K:Ctx}{Q:Exit→Act→World→Prop}{s:List EI}{n:Nat}{F:Fm}{H:Hp}{all:Array Oper}{rest:List Oper}{o:Oper}
theorem FM{w:World}{src dst:TypeId}{k1:IntKind}(h:Fr a n f)(q:P.underlying src=some (.int k1))(ht:P.underlying dst=some (.int k))(hx:ao f x=some (.int k' m))(E:k.wrap m=m):Runs P a ty (.convert src dst x) w (.value (.int k m)) w:=λ_ _ _ _=>by
 simp only[execOp,h.eval hx];simp[go_sem,convert,run_underlying q,run_underlying ht,Conv.intToInt,E]
theorem Dt{w:World}(h:Fr a n f)(hx:ao f x=some (.int k m))(hy:ao f y=some (.int k' 1))   :Runs P a ty (.binOp .shr t x y u) w (.value (.int k (m.fdiv 2))) w:=λ_ _ _ _=>by
 simp only[execOp,h.eval hx,h.eval hy];cases k<;>simp[go_sem,eqGuard,Op.shift]
theorem Gf(q:0≤m)(h1:m≤9223372036854775807):IntKind.u64.wrap m=m:=IntWalk.u64_in m (by omega)
theorem Gm(q:0≤m)(h1:m≤9223372036854775807):IntKind.i64.wrap m=m:=IntWalk.i64_in m (by omega)
theorem yCv{src dst:TypeId}{k1:IntKind}(E:P.underlying src=some (.int k1))(ht:P.underlying dst=some (.int k))(hx:aF F x=some (.int k' m))(G:k.wrap m=m):∀S w ρ a,HRel S w ρ H.get→FRel S w ρ a n F→Yld P S w ρ a ty (.convert src dst x) (.int k m):=λS w ρ a hr q=>⟨_,by simp only[VRel],λw' _=>FM q.fr E ht (aT (al q hx)) G⟩
theorem GO{m:Nat}(hx:aF F x=some (.int k (m:Int)))(hy:aF F y=some (.int k' 1)):∀S w ρ a,HRel S w ρ H.get→FRel S w ρ a n F→Yld P S w ρ a ty (.binOp .shr t x y u) (.int k ((m/2:Nat):Int)):=λS w ρ a hr q=>by
 have e:((m/2:Nat):Int)=(m:Int).fdiv 2:=by rw[Int.fdiv_eq_ediv_of_nonneg _ (by decide)];omega
 rw[e];exact⟨_,by simp only[VRel],λw' _=>Dt q.fr (aT (al q hx)) (aT (al q hy))⟩
end
section
variable{P:Program}{T:Tab}{K:Ctx}{Q:Exit→Act→World→Prop}{s:List EI}{n:Nat}{F F1:Fm}{H H1:Hp}{all:Array Oper}{rest:List Oper}{L:List Nat}{m fuel:Nat}{listed:Array Bool}{p:EP}
theorem Hf{args:List Operand}{tys:Array TypeId}{vs:List V}{ty:TypeId}{ps:String}{af:Array Edge}{g:Option (Nat×Bool)}(i:Nat)(E:dd PL P fid us H0 Post)(σ:List Nat)(G:bE P fid=true)(hi:all[i]?=some ⟨d,.call {callee:=.value (.func fid),args:=args.toArray,argTypes:=tys},ty,ps,af,g⟩)(q:Region.ready .any all listed=[i])(J:aV F all g=some true)(hv:fe F args=some vs)(O:aH vs (renL σ us))(hH:leH σ H H0.es)(U:(bL σ&&Nat.beq σ.length H0.nx&&σ.all λi=>Nat.blt i H.nx)=true)(Z:(listed.setIfInBounds i true).getD m false=true)
  (k:∀v H',Post v H'→Go P K Q (.drw all L m fuel (listed.setIfInBounds i true)) s n (F.seto d (some (v.ren (sgN PL H.nx H0.get H'.nx σ 0)))) (jw PL H σ H0 H')):Go P K Q (.drw all L m (fuel+1) listed) s n F H:=
 go_d1C G q hi rfl J hv (mJ E σ O hH U [] rfl) (.inr Z) λv' H'' ⟨v,H',hP,e1,e2⟩=>by subst e1 e2;exact k v H' hP
end
section
variable{P:Program}{K:Ctx}{Q:Exit→Act→World→Prop}{p:EP}{s:List EI}{n:Nat}{F:Fm}{H:Hp}
end
end Go.Proofs.YtojjjmkmkbnieaaGreat
