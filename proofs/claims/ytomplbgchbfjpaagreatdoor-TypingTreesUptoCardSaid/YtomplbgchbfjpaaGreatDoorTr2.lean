/- Contracts of the functions that the law reaches, part 2. -/
import Derived.Test.YtomplbgchbfjpaaGreatDoorTr1
set_option linter.unusedVariables false
set_option linter.unusedSimpArgs false
namespace Go.Proofs.YtomplbgchbfjpaaGreatDoor
open _root_.Go.Proofs.Tryz
open Go.RowKit
structure Ctx where
 w0:World
 S0:Nat→Prop
 X0:Nat→Prop
 pin:Nat→Option Value
structure Inv (K:Ctx) (S:Nat→Prop) (w:World) (ρ:Nat→Option Value) (h:Nat→Ob):Prop where
 chg:ChgP K.X0 K.w0 w
 s0:∀b,K.S0 b→S b
 s1:∀b,S b→K.S0 b∨K.X0 b∨K.w0.heap.size≤b
 ow:∀id b,own ρ id (h id) b→K.X0 b∨K.w0.heap.size≤b
 pin:∀id x,K.pin id=some x→ρ id=some x
variable{all:Array Oper}
section
variable{P:Program}{T:Tab}{K:Ctx}{S S':Nat→Prop}{w w':World}{ρ ρ':Nat→Option Value}{h h':Nat→Ob}{a:Act}{n:Nat}{F:Fm}{X:Nat→Prop}
theorem Inv.eff(hi:Inv K S w ρ h)(G:Eff S w w' ρ ρ' h h' X):Inv K S w' ρ' h':=
 ⟨hi.chg.trans G.chg (λb ⟨id,_,hb⟩=>hi.ow id b hb),hi.s0,hi.s1,λid b hb=>by
  rcases G.new id b hb with⟨j,J⟩|J
  ·exact hi.ow j b J
  ·exact .inr (Nat.le_trans hi.chg.size J),λid x hx=>G.up.r _ _ (hi.pin id x hx)⟩
theorem Inv.frz(hr:HRel S w ρ h)(hi:Inv K S w ρ h)(id:Nat):Inv K (λb=>S b∨own ρ id (h id) b) w ρ (bW h id .gone):=
 ⟨hi.chg,λb hb=>.inl (hi.s0 b hb),λb hb=>by
  rcases hb with hb|hb
  ·exact hi.s1 b hb
  ·exact .inr (hi.ow id b hb),λi b hb=>by
  by_cases G:i=id
  ·subst G;rw[bO]at hb;exact hb.elim
  ·rw[de _ _ G]at hb;exact hi.ow i b hb,hi.pin⟩
theorem HRel.chg0(hr:HRel S w ρ h)(G:Chg [] w w'):HRel S w' ρ h:=by
 have up:Up S S w w' ρ ρ:=⟨λ_ h=>h,λb _ hb=>G.block b hb (by simp),λ_ _ h=>h⟩;refine⟨λi=>(hr.ob i).up up (λhf=>?_) (λb hb=>G.block b (gN (hr.ob i) hb) (by simp)),hr.sep,hr.dis,hr.slt.up up λb hb=>Nat.lt_of_lt_of_le (hr.slt b hb) G.size⟩;have :=hr.ob i;rw[hf]at this;exact this
theorem Up.chg0(G:Chg [] w w'):Up S S w w' ρ ρ:=⟨λ_ h=>h,λb _ hb=>G.block b hb (by simp),λ_ _ h=>h⟩
theorem Inv.chg0(hi:Inv K S w ρ h)(G:Chg [] w w'):Inv K S w' ρ h:=⟨hi.chg.trans (ChgP.of G) (λb hb=>by simp at hb),hi.s0,hi.s1,hi.ow,hi.pin⟩
theorem HRel.drop(hr:HRel S w ρ h)(O:∀i,h' i=h i∨h' i=.gone):HRel S w ρ h':=by
 have back:∀i b,own ρ i (h' i) b→own ρ i (h i) b:=λi b hb=>by
  rcases O i with e|e
  ·rw[e]at hb;exact hb
  ·rw[e]at hb;exact hb.elim
 refine⟨λi=>?_,λi b hb=>hr.sep i b (back i b hb),λi j b G J=>hr.dis i j b (back i b G) (back j b J),hr.slt⟩;rcases O i with e|e
 ·rw[e];exact hr.ob i
 ·rw[e];trivial
theorem Inv.drop(hi:Inv K S w ρ h)(G:∀i,h' i=h i∨h' i=.gone):Inv K S w ρ h':=
 ⟨hi.chg,hi.s0,hi.s1,λi b hb=>by
  rcases G i with e|e
  ·rw[e]at hb;exact hi.ow i b hb
  ·rw[e]at hb;exact hb.elim,hi.pin⟩
theorem Agree.refl:Agree S w w:=λ_ _=>rfl
theorem sm(hr:HRel S w ρ h)(G:Eff S w w' ρ ρ' h h' X):Agree S w w':=λb hb=>G.up.blk b hb (hr.slt b hb)
def bm(F:Fm)(all:Array Oper)(g:Option (Nat×Bool)):Option Bool:=match g with
 |none=>some true
 |some (j,b)=>match(all[j]?).bind (·.dst)with
  |some d=>match F.get d with
   |some (.bool true)=>some b
   |some (.bool false)=>some (!b)
   |some (.tup _)=>some false
   |_=>none
  |none=>none
theorem cc(J:FRel S w ρ a n F){o:Oper}{c:Bool}(G:bm F all o.guard=some c):Region.wanted o (yielded all a.tmps)=c:=by
 unfold bm at G;split at G
 ·rename_i O;injection G with G;subst G
  exact km J.fr (by rw[O];rfl)
 ·rename_i j b O;split at G
  ·rename_i d U;split at G
   ·rename_i hv;obtain⟨x,h1,h2⟩:=J.get d _ hv;simp only[VRel]at h2;subst h2;injection G with G;subst G
    cases b
    ·exact tP J.fr (by rw[O];simp only[sS,rR,U];simp[fA,h1])
    ·exact km J.fr (by rw[O];simp only[gh,rR,U];simp[fA,h1])
   ·rename_i hv;obtain⟨x,h1,h2⟩:=J.get d _ hv;simp only[VRel]at h2;subst h2;injection G with G;subst G
    cases b
    ·exact km J.fr (by rw[O];simp only[gh,rR,U];simp[fA,h1])
    ·exact tP J.fr (by rw[O];simp only[sS,rR,U];simp[fA,h1])
   ·rename_i hv;obtain⟨x,h1,h2⟩:=J.get d _ hv;simp only[VRel]at h2;obtain⟨xs,rfl,_⟩:=h2;injection G with G;subst G
    exact tP J.fr (by rw[O];simp only[sS,rR,U];simp[fA,h1])
   ·cases G
  ·cases G
end
def Go(P:Program)(K:Ctx)(Q:Exit→Act→World→Prop)(p:EP)(s:List EI)(n:Nat)(F:Fm)(H:Hp):Prop:=
 ∀S w ρ a,HRel S w ρ H.get→Inv K S w ρ H.get→FRel S w ρ a n F→EP.wp P Q p s S w ρ a
def CallR (P:Program) (K:Ctx) (fid:FuncId) (vs:List V) (H:Hp) (L:List Nat) (Post:V→Hp→Prop):Prop:=
  ∀ S w ρ xs,HRel S w ρ H.get→Inv K S w ρ H.get→LRel S w ρ vs xs→Calls P fid xs.toArray w λe w'=>
    ∃x S' ρ' v H',e=.returned x∧Post v H'∧HRel S' w' ρ' H'.get∧Inv K S' w' ρ' H'.get∧Up S S' w w' ρ ρ'∧VRel S' w' ρ' v x∧Ls ρ L w w'
def Cz(v:Option V):Option V:=match v with
 |some v=>some v
 |none=>some (.tup [])
variable{S:Nat→Prop}{ρ:Nat→Option Value}
variable{a:Act}
variable{l:List Oper}
variable{i:Nat}
variable{j:Nat}
variable{ed:ED}
variable{fid:FuncId}
variable{w':World}
variable{ρ':Nat→Option Value}
variable{h:Nat→Ob}
section
variable{P:Program}{T:Tab}{K:Ctx}{Q:Exit→Act→World→Prop}{s:List EI}{n:Nat}{F:Fm}{H:Hp}
theorem uE{w:World}:VRel S w ρ (.tup []) undef:=by
 simp only[VRel];exact⟨[],rfl,by simp[LRel]⟩
theorem rW{w:World}(J:FRel S w ρ a n F)(d:Option Tmp):FRel S w ρ (a.put d undef) n (F.seto d (some (.tup []))):=
 J.set d (λu G=>by injection G with G;subst G;exact uE)
theorem cH{w:World}{v:V}{x:Value}(J:FRel S w ρ a n F)(d:Option Tmp)(hx:VRel S w ρ v x):FRel S w ρ (a.put d x) n (F.seto d (some v)):=
 J.set d (λu G=>by injection G with G;subst G;exact hx)
theorem IU{x y:Code}(k:Go P K Q (.code x) (.seq y::s) n F H):Go P K Q (.code (.seq x y)) s n F H:=λS w ρ a hr hi G=>wp_seq (k S w ρ a hr hi G)
theorem Dt{id:Nat}{c:Code}(k:Go P K Q (.code c) (.blk id::s) n F H):Go P K Q (.code (.block id c)) s n F H:=λS w ρ a hr hi G=>wp_block (k S w ρ a hr hi G)
theorem Ed(k:Go P K Q (.ex .normal) s n F H):Go P K Q (.code .skip) s n F H:=λS w ρ a hr hi G=>wp_skip (k S w ρ a hr hi G)
theorem go_ret(k:Go P K Q (.ex .ret) s n F H):Go P K Q (.code .ret) s n F H:=λS w ρ a hr hi G=>wp_ret (k S w ρ a hr hi G)
theorem EY{id:Nat}(k:Go P K Q (.ex (.exit id)) s n F H):Go P K Q (.code (.exit id)) s n F H:=λS w ρ a hr hi G=>wp_exit (k S w ρ a hr hi G)
theorem Kb{l:Nat}(k:Go P K Q (.ex .normal) s n F H):Go P K Q (.code (.label l)) s n F H:=λS w ρ a hr hi G=>wp_label (k S w ρ a hr hi G)
theorem JR{c:Code}(k:Go P K Q (.code c) (.scp::s) n F H):Go P K Q (.code (.scope c)) s n F H:=λS w ρ a hr hi G=>wp_scope_straight (k S w ρ a hr hi G)
theorem go_loop{c:Code}(j:Nat)(k:Go P K Q (.code c) (.loop c j::s) n F H):Go P K Q (.code (.loop c)) s n F H:=λS w ρ a hr hi hF=>wp_loop_rounds (j+1) (k S w ρ a hr hi hF)
theorem Bi{c:Operand}{x y:Code}(J:aL F c=some (.bool true))(k:Go P K Q (.code x) s n F H):Go P K Q (.code (.cond c x y)) s n F H:=λS w ρ a hr hi G=>xt G.fr (pK (ao G J)) (k S w ρ a hr hi G)
theorem CJ{c:Operand}{x y:Code}(J:aL F c=some (.bool false))(k:Go P K Q (.code y) s n F H):Go P K Q (.code (.cond c x y)) s n F H:=λS w ρ a hr hi G=>xV G.fr (pK (ao G J)) (k S w ρ a hr hi G)
theorem As{id:Nat}(k:Go P K Q (.ops l.toArray l) s n F H):Go P K Q (.code (.region id l.toArray false)) s n F H:=λS w ρ a hr hi G=>wp_region_lit (k S w ρ a hr hi G)
theorem Hc(k:Go P K Q (.ex .normal) s n F H):Go P K Q (.ops all []) s n F H:=λS w ρ a hr hi G=>k S w ρ a hr hi G
theorem DV{c:Code}(k:Go P K Q (.code c) s n F H):Go P K Q (.ex .normal) (.seq c::s) n F H:=k
theorem Dj{c:Code}(k:Go P K Q (.ex (.exit i)) s n F H):Go P K Q (.ex (.exit i)) (.seq c::s) n F H:=k
theorem Bm{c:Code}(k:Go P K Q (.ex .ret) s n F H):Go P K Q (.ex .ret) (.seq c::s) n F H:=k
theorem go_xloop{c:Code}(k:Go P K Q (.code c) (.loop c j::s) n F H):Go P K Q (.ex .normal) (.loop c (j+1)::s) n F H:=λS w ρ a hr hi G=>k S w ρ a hr hi G
theorem go_xloopE{c:Code}(k:Go P K Q (.ex (.exit i)) s n F H):Go P K Q (.ex (.exit i)) (.loop c j::s) n F H:=k
theorem go_xloopR{c:Code}(k:Go P K Q (.ex .ret) s n F H):Go P K Q (.ex .ret) (.loop c j::s) n F H:=k
theorem Cr{id:Nat}(k:Go P K Q (.ex .normal) s n F H):Go P K Q (.ex .normal) (.blk id::s) n F H:=k
theorem BV{id:Nat}(k:Go P K Q (.ex .ret) s n F H):Go P K Q (.ex .ret) (.blk id::s) n F H:=k
theorem CE{id:Nat}(hb:Nat.beq i id=true)(k:Go P K Q (.ex .normal) s n F H):Go P K Q (.ex (.exit i)) (.blk id::s) n F H:=λS w ρ a hr hi G=>by
 have :=Nat.eq_of_beq_eq_true hb;subst this;simp only[EP.wp,eK,Exit.inBlock,if_true];exact k S w ρ a hr hi G
theorem Dr{id:Nat}(hb:Nat.beq i id=false)(k:Go P K Q (.ex (.exit i)) s n F H):Go P K Q (.ex (.exit i)) (.blk id::s) n F H:=λS w ρ a hr hi G=>by
 simp only[EP.wp,eK,Exit.inBlock,if_neg (Nat.ne_of_beq_eq_false hb)];exact k S w ρ a hr hi G
theorem Jj(k:Go P K Q (.ex .normal) s n F H):Go P K Q (.ex .normal) (.scp::s) n F H:=k
theorem Jx(k:Go P K Q (.ex (.exit i)) s n F H):Go P K Q (.ex (.exit i)) (.scp::s) n F H:=k
theorem JI(k:Go P K Q (.ex .ret) s n F H):Go P K Q (.ex .ret) (.scp::s) n F H:=k
variable{all:Array Oper}{rest:List Oper}{o:Oper}
theorem II(J:bm F all o.guard=some false)(k:Go P K Q (.ops all rest) s n (F.seto o.dst (some (.tup []))) H):Go P K Q (.ops all (o::rest)) s n F H:=λS w ρ a hr hi G=>by
 show wpList P all (eK P Q s) (o::rest) a w;unfold wpList;rw[cc G J];simp only[Bool.false_eq_true,if_false];exact k S w ρ _ hr hi (rW G o.dst)
theorem go_opY{v:V}(J:bm F all o.guard=some true)(hy:∀S w ρ a,HRel S w ρ H.get→FRel S w ρ a n F→Yld P S w ρ a o.type o.op v)(k:Go P K Q (.ops all rest) s n (F.seto o.dst (some v)) H):Go P K Q (.ops all (o::rest)) s n F H:=λS w ρ a hr hi G=>by
 show wpList P all (eK P Q s) (o::rest) a w;unfold wpList;rw[if_pos (cc G J)];refine .inl ?_;obtain⟨x,h1,h2⟩:=hy S w ρ a hr G;obtain⟨d,op,ty,ps,af,g⟩:=o;unfold Oper.wp;rw[h2 w Agree.refl d ps af g];exact k S w ρ _ hr hi (cH G d h1)
theorem go_opP(G:TabOk P T){v:V}(J:bm F all o.guard=some true)(hv:oQ T H.get F o.op=some v)(k:Go P K Q (.ops all rest) s n (F.seto o.dst (some v)) H):Go P K Q (.ops all (o::rest)) s n F H:=
 go_opY J (λS w ρ a hr O=>uO G hr O hv) k
theorem go_opD{v:Option V}(Z:bm F all o.guard=some true)(hd:∀S w ρ a,HRel S w ρ H.get→FRel S w ρ a n F→Does P S w ρ H.get a o.type o.op v (ed.app H.get H.nx) ed.tch)(hl:ed.ok H.get)(k:Go P K Q (.ops all rest) s n (F.seto o.dst (Cz v)) (H.app ed)):Go P K Q (.ops all (o::rest)) s n F H:=λS w ρ a hr hi O=>by
 show wpList P all (eK P Q s) (o::rest) a w;unfold wpList;rw[if_pos (cc O Z)];refine .inl ?_;obtain⟨nx,w',ρ',h1,h2,U⟩:=hd S w ρ a hr O;have G:=h2.hr;have J:=hi.eff h2;rw[←Hp.get_app hl]at G J;obtain⟨d,op,ty,ps,af,g⟩:=o;unfold Oper.wp;rw[h1 d ps af g];cases v with
 |none=>
  subst U;exact k S w' ρ' _ G J (rW (O.up h2.up) d)
 |some v=>
  obtain⟨x,rfl,h4⟩:=U;exact k S w' ρ' _ G J (cH (O.up h2.up) d h4)
theorem go_opE(G:TabOk P T){v:Option V}(J:bm F all o.guard=some true)(hv:ms T H.get F H.nx o.op=some (v,ed))(k:Go P K Q (.ops all rest) s n (F.seto o.dst (Cz v)) (H.app ed)):Go P K Q (.ops all (o::rest)) s n F H:=
 go_opD J (λS w ρ a hr O=>wG G hr O H.get_free hv) (tf hv) k
theorem go_opC{args:List Operand}{tys:Array TypeId}{vs:List V}{Post:V→Hp→Prop}(he:bX P fid=true)(Z:o.op=.call {callee:=.value (.func fid),args:=args.toArray,argTypes:=tys})(hw:bm F all o.guard=some true)(hv:gc F args=some vs)(hC:CallR P K fid vs H [] Post)
  (k:∀v H',Post v H'→Go P K Q (.ops all rest) s n (F.seto o.dst (some v)) H'):Go P K Q (.ops all (o::rest)) s n F H:=λS w ρ a hr hi G=>by
 show wpList P all (eK P Q s) (o::rest) a w;unfold wpList;rw[if_pos (cc G hw)];refine .inl ?_;obtain⟨xs,h1,h2⟩:=nS G hv;have hc:=hC S w ρ xs hr hi h2;obtain⟨d,op,ty,ps,af,g⟩:=o;simp only at Z;subst Z;have hx:(execOp a.eval ⟨d,.call {callee:=.value (.func fid),args:=args.toArray,argTypes:=tys},ty,ps,af,g⟩).run P w=.ok (.enter fid xs.toArray) w:=by
  have e:args.toArray.map a.eval=xs.toArray:=by rw[←G.fr.vals h1];simp
  simp only[execOp,resolve,e];simp[Act.eval,Deferred.ofValue,invoke,kA he]
 unfold Oper.wp;rw[hx,Oper.upon_enter];refine hc.mono λe w1 hR=>?_;obtain⟨x,S',ρ',v,H',rfl,hp,J,O,hu,U,_⟩:=hR;exact k v H' hp S' w1 ρ' _ J O (cH (G.up hu) d U)
theorem Ex{id:Nat}(L:List Nat)(m sz:Nat)(hsz:l.length=sz)(J:P.follows .mixedOrders=true)(hs:Region.noSelect l.toArray=true)(k:Go P K Q (.drw l.toArray L m sz (Array.replicate sz false)) s n F H):Go P K Q (.code (.region id l.toArray true)) s n F H:=λS w ρ a hr hi O=>by
 refine wp_region_noPanic (wp_region_any J (yS (B:=Agree S {w with drawn:=w.drawn+1}) (S:=Ls ρ L {w with drawn:=w.drawn+1}) (m:=m) _ _ _ _ ?_));have G:=Chg.drew w;have :=k S {w with drawn:=w.drawn+1} ρ a (hr.chg0 G) (hi.chg0 G) (O.up (Up.chg0 G)) hs;subst hsz;simpa using this
variable{L:List Nat}{m left i:Nat}{listed:Array Bool}
theorem BK(G:Region.ready .any all listed=[])(k:Go P K Q (.ex .normal) s n F H):Go P K Q (.drw all L m left listed) s n F H:=λS w ρ a hr hi O _=>by
 have J:=k S w ρ a hr hi O;cases left with
 |zero=>exact⟨G,J⟩
 |succ left=>exact⟨λ_=>J,by rw[G];simp⟩
theorem uv{S':Nat→Prop}{w:World}(G:∀b,S b→S' b)(h1:Agree S w w'):∀x,Agree S' w' x→Agree S w x:=λx hx b hb=>(hx b (G b hb)).trans (h1 b hb)
theorem Ma{w:World}(hρ:∀i x,ρ i=some x→ρ' i=some x)(h1:Ls ρ L w w'):∀x,Ls ρ' L w' x→Ls ρ L w x:=λx hx id hid y b hy hb=>(hx id hid y b (hρ _ _ hy) hb).trans (h1 id hid y b hy hb)
theorem kr{S':Nat→Prop}{w:World}(J:Up S S' w w' ρ ρ')(O:Agree S w w')(G:Ls ρ L w w'∨listed.getD m false=true)(h:wpB P all (NoPanic (eK P Q s)) (Agree S' w') (Ls ρ' L w') m left listed a w'):
  Agree S w w'∧(Ls ρ L w w'∨listed.getD m false=true)∧wpB P all (NoPanic (eK P Q s)) (Agree S w) (Ls ρ L w) m left listed a w':=by
 refine⟨O,G,?_⟩;rcases G with G|G
 ·exact xT (uv J.s O) (λx _=>Ma J.r G x) _ _ _ _ h
 ·
  have key:∀(fuel:Nat) (listed:Array Bool) (a:Act) (w'':World),listed.getD m false=true→wpB P all (NoPanic (eK P Q s)) (Agree S' w') (Ls ρ' L w') m fuel listed a w''→wpB P all (NoPanic (eK P Q s)) (Agree S w) (Ls ρ L w) m fuel listed a w'':=by
   intro fuel
   induction fuel with
   |zero=>intro _ _ _ _ h;exact h
   |succ fuel ih=>
    intro listed a w'' U h;exact⟨h.1,λi hi=>wpOp_mono (λZ w3 h'=>⟨uv J.s O _ h'.1,.inr (jv U),ih _ _ _ (jv U) h'.2.2⟩) (h.2 i hi)⟩
  exact key _ _ _ _ G h
theorem pL{w:World}:Ls ρ L w w:=λ_ _ _ _ _ _=>rfl
theorem Kt{v:V}(G:Nat.beq i m=false)(hi:all[i]?=some o)(hf:Region.free .any all listed i=true)(J:(Region.ready .any all listed).contains i=true)(Z:bm F all o.guard=some true)(hy:∀S w ρ a,HRel S w ρ H.get→FRel S w ρ a n F→Yld P S w ρ a o.type o.op v)
  (k:Go P K Q (.drw all L m left (listed.setIfInBounds i true)) s n (F.seto o.dst (some v)) H):Go P K Q (.drw all L m (left+1) listed) s n F H:=λS w ρ a hr O U hs=>by
 obtain⟨x,h1,h2⟩:=hy S w ρ a hr U;refine wpB_pure (Nat.ne_of_beq_eq_false G) hi (Region.noSelect_spec hs) (λ_ _ _ h=>h.elim) left listed a w (Region.free_spec hi hf) (by simpa using J) (.inl ⟨cc U Z,λw' hA=>?_⟩) Agree.refl (.inl pL) (k S w ρ _ hr O (cH U o.dst h1) hs);obtain⟨d,op,ty,ps,af,g⟩:=o;exact h2 w' hA d ps af g
theorem KI(O:TabOk P T){v:V}(G:Nat.beq i m=false)(hi:all[i]?=some o)(hf:Region.free .any all listed i=true)(J:(Region.ready .any all listed).contains i=true)(U:bm F all o.guard=some true)(hv:oQ T H.get F o.op=some v)
 (k:Go P K Q (.drw all L m left (listed.setIfInBounds i true)) s n (F.seto o.dst (some v)) H):Go P K Q (.drw all L m (left+1) listed) s n F H:=Kt G hi hf J U (λS w ρ a hr Z=>uO O hr Z hv) k
theorem GI(G:Nat.beq i m=false)(hi:all[i]?=some o)(hf:Region.free .any all listed i=true)(J:(Region.ready .any all listed).contains i=true)(Z:bm F all o.guard=some false)
  (k:Go P K Q (.drw all L m left (listed.setIfInBounds i true)) s n (F.seto o.dst (some (.tup []))) H):Go P K Q (.drw all L m (left+1) listed) s n F H:=λS w ρ a hr O U hs=>
 wpB_pure (Nat.ne_of_beq_eq_false G) hi (Region.noSelect_spec hs) (λ_ _ _ h=>h.elim) left listed a w (Region.free_spec hi hf) (by simpa using J) (.inr ⟨cc U Z,rfl⟩) Agree.refl (.inl pL) (k S w ρ _ hr O (rW U o.dst) hs)
def qd(F:Fm)(op:Op):Option Nat:=match op with
 |.load _ x=>match aL F x with
  |some (.ptr id _)=>some id
  |some (.el id _ _ _)=>some id
  |_=>none
 |_=>none
theorem Is (hT:TabOk P T) {S:Nat→Prop} {w:World} {ρ:Nat→Option Value} {h:Nat→Ob} {a:Act} {op:Op} {ty:TypeId} {id nid:Nat} {v:V} {ed:ED} (hr:HRel S w ρ h) (hF:FRel S w ρ a n F) (hid:qd F op=some id) (hv:ms T h F nid op=some (some v,ed)):
  ∃x u b,VRel S w ρ v x∧ρ id=some u∧vw u=some b∧∀w',w'.heap[b]?=w.heap[b]?→Runs P a ty op w' (.value x) w':=by
 have fr:=hF.fr;unfold qd at hid;split at hid
 ·rename_i t x;unfold ms at hv;simp only at hv;split at hid
  ·rename_i id' o' hx;injection hid with hid;subst hid
   rw[hx]at hv;simp only at hv;split at hv
   ·rename_i d hd;split at hv
    ·rename_i ho;split at hv
     ·rename_i u hu;simp only[Option.some.injEq,Prod.mk.injEq]at hv;obtain⟨rfl,rfl⟩:=hv;rcases pJ (hT.ty _ _ hd) hu with⟨h1,h2⟩|⟨h1,h2,rfl⟩
      ·obtain⟨b,y,g1,g2,g3,g4⟩:=ER (P:=P) (ty:=ty) hr fr (ao hF hx) ho h1 h2;exact⟨y,_,b,g3,g1,rfl,λw' hw=>g4 w' ((World.cell?_of_block (a:=⟨b,_,none⟩) hw).trans g2)⟩
      ·obtain⟨b,ys,g1,g2,g3,g4⟩:=Cf (P:=P) (ty:=ty) hr fr (ao hF hx) ho h1 h2;exact⟨_,_,b,by simp only[VRel];exact⟨ys,rfl,g3⟩,g1,rfl,λw' hw=>g4 w' (λj hj=>(World.cell?_of_block (a:=⟨b,_,none⟩) hw).trans (g2 j hj))⟩
     ·cases hv
    ·cases hv
   ·cases hv
  ·rename_i id' sz i' o' hx;injection hid with hid;subst hid
   rw[hx]at hv;simp only at hv;split at hv
   ·rename_i d hd;split at hv
    ·rename_i ho;split at hv
     ·rename_i hb;have :=Nat.eq_of_beq_eq_true hb;subst this;split at hv
      ·rename_i v0 hi;rw[nw]at hi;split at hv
       ·rename_i u hu;simp only[Option.some.injEq,Prod.mk.injEq]at hv;obtain⟨rfl,rfl⟩:=hv;have hbk:∀(q:Value) (b:Nat),q.ownBlock=some b→vw q=some b:=λq b hq=>by
         cases q<;>first|(simp only[Value.ownBlock]at hq;cases hq;done)|skip
         rename_i A _ _;cases A<;>simp_all[Value.ownBlock,vw]
        rcases pJ (hT.ty _ _ hd) hu with⟨h1,h2⟩|⟨h1,h2,rfl⟩
        ·obtain⟨b,q,y,g1,g1',g2,g3,g4⟩:=BM (P:=P) (ty:=ty) hr fr (ao hF hx) ho h1 hi h2;exact⟨y,q,b,g3,g1,hbk q b g1',λw' hw=>g4 w' ((World.cell?_of_block (a:=⟨b,_,none⟩) hw).trans g2)⟩
        ·obtain⟨b,q,ys,g1,g1',g2,g3,g4⟩:=Au (P:=P) (ty:=ty) hr fr (ao hF hx) ho h1 hi h2;exact⟨_,q,b,by simp only[VRel];exact⟨ys,rfl,g3⟩,g1,hbk q b g1',λw' hw=>g4 w' (λj hj=>(World.cell?_of_block (a:=⟨b,_,none⟩) hw).trans (g2 j hj))⟩
       ·cases hv
      ·cases hv
     ·cases hv
    ·cases hv
   ·cases hv
  ·cases hid
 ·cases hid
theorem Gl(hT:TabOk P T){v:V}{id:Nat}{ed:ED}(G:Nat.beq i m=false)(J:mg .any all m i=true)(O:listed.getD m false=false)(hi:all[i]?=some o)(hf:Region.free .any all listed i=true)(U:(Region.ready .any all listed).contains i=true)(hw:bm F all o.guard=some true)
  (hid:qd F o.op=some id) (hL:L.contains id=true) (hv:ms T H.get F H.nx o.op=some (some v,ed))
  (k:Go P K Q (.drw all L m left (listed.setIfInBounds i true)) s n (F.seto o.dst (some v)) H):Go P K Q (.drw all L m (left+1) listed) s n F H:=λS w ρ a hr Z hF hs=>by
 obtain⟨x,u,b,h1,h2,h3,h4⟩:=Is (ty:=o.type) hT hr hF hid hv;refine JQ (Nat.ne_of_beq_eq_false G) J hi (Region.noSelect_spec hs) (λ_ _ _ h=>h.elim) left listed a w (Region.free_spec hi hf) (by simpa using U) (.inl ⟨cc hF hw,λw' hA=>?_⟩) Agree.refl pL O (k S w ρ _ hr Z (cH hF o.dst h1) hs);have hb:=hA.2 id (by simpa using hL) u b h2 h3;obtain⟨d,op,ty,ps,af,g⟩:=o;exact h4 w' hb d ps af g
def dk(h:Nat→Ob):List Nat→Bool
 |[]=>true
 |i::r=>match h i with
  |.var _ _=>dk h r
  |.row _ _ _=>dk h r
  |_=>false
theorem mJ{S:Nat→Prop}{w:World}{ρ:Nat→Option Value}{h:Nat→Ob}(hr:HRel S w ρ h):∀{L:List Nat},dk h L=true→∀id,id∈L→∀x b,ρ id=some x→vw x=some b→own ρ id (h id) b
 |[],_,id,hid,x,b,hx,hb=>by simp at hid
 | j::r,hl,id,hid,x,b,hx,hb=>by
  have hown:∀o,h j=o→(∃t cs,o=.var t cs)∨(∃e sz els,o=.row e sz els)→∀x b,ρ j=some x→vw x=some b→own ρ j (h j) b:=by
   rintro o ho (⟨t,cs,rfl⟩|⟨e,sz,els,rfl⟩) x b hx hb
   ·obtain⟨c,xs,g1,_⟩:=sF hr ho;rw[g1]at hx;cases hx;simp only[vw,Option.some.injEq]at hb;subst hb;rw[ho];exact g1
   ·obtain⟨v,xs,g1,g2,_⟩:=lz hr ho;rw[g1]at hx;cases hx;rw[ho];refine⟨_,g1,?_⟩;obtain⟨A,c,rfl,_⟩:=im g2;cases A<;>simp_all[Value.ownBlock,vw]
  simp only[dk]at hl;rcases List.mem_cons.1 hid with e|e
  ·subst e;split at hl
   ·rename_i t cs ho;exact hown _ ho (.inl ⟨t,cs,rfl⟩) x b hx hb
   ·rename_i e sz els ho;exact hown _ ho (.inr ⟨e,sz,els,rfl⟩) x b hx hb
   ·cases hl
  ·split at hl
   ·exact mJ hr hl id e x b hx hb
   ·exact mJ hr hl id e x b hx hb
   ·cases hl
def ED.clear(L:List Nat):ED→Bool
 |.nop=>true
 |.new _=>true
 |.set id _=>!L.contains id
 |.repl id _=>!L.contains id
theorem CM{w:World}{h':Nat→Ob}(hr:HRel S w ρ h)(Z:Eff S w w' ρ ρ' h h' ed.tch)(hl:dk h L=true)(J:ed.clear L=true):Ls ρ L w w':=λid hid x b hx hb=>by
 have U:=mJ hr hl id hid x b hx hb;refine Z.chg.block b (gN (hr.ob id) U) ?_;rintro⟨j,G,O⟩;have e:=hr.dis j id b O U;subst e;cases ed with
 |nop=>exact G
 |new _=>exact G
 |set k _=>simp only[ED.tch]at G;subst G;simp[ED.clear]at J;exact J hid
 |repl k _=>simp only[ED.tch]at G;subst G;simp[ED.clear]at J;exact J hid
theorem wM{a b:Bool}(h:(a||b)=true):a=true∨b=true:=by simpa using h
theorem oc{S:Nat→Prop}{B:World→Prop}{Sx:World→Prop}{w:World}{Q':Exit→Act→World→Prop}(G:Region.ready .any all listed=[i])(U:wpOp P all Q' i (λZ w'=>B w'∧(Sx w'∨(listed.setIfInBounds i true).getD m false=true)∧wpB P all Q' B Sx m left (listed.setIfInBounds i true) Z w') a w):wpB P all Q' B Sx m (left+1) listed a w:=by
 refine⟨λJ=>(by rw[G]at J;cases J),λj O=>?_⟩;rw[G]at O;obtain rfl:j=i:=by simpa using O
 exact U
theorem go_d1S(G:Region.ready .any all listed=[i])(hi:all[i]?=some o)(U:bm F all o.guard=some false)(k:Go P K Q (.drw all L m left (listed.setIfInBounds i true)) s n (F.seto o.dst (some (.tup []))) H):Go P K Q (.drw all L m (left+1) listed) s n F H:=λS w ρ a hr J O hs=>by
 refine oc (S:=S) G ?_;unfold wpOp;simp only[hi];rw[cc O U];simp only[Bool.false_eq_true,if_false];exact⟨Agree.refl,.inl pL,k S w ρ _ hr J (rW O o.dst) hs⟩
theorem IQ{v:V}(G:Region.ready .any all listed=[i])(hi:all[i]?=some o)(U:bm F all o.guard=some true)(hy:∀S w ρ a,HRel S w ρ H.get→FRel S w ρ a n F→Yld P S w ρ a o.type o.op v)
  (k:Go P K Q (.drw all L m left (listed.setIfInBounds i true)) s n (F.seto o.dst (some v)) H):Go P K Q (.drw all L m (left+1) listed) s n F H:=λS w ρ a hr J O hs=>by
 refine oc (S:=S) G ?_;obtain⟨x,h1,h2⟩:=hy S w ρ a hr O;unfold wpOp;simp only[hi];rw[if_pos (cc O U)];refine .inl ?_;have Z:=k S w ρ _ hr J (cH O o.dst h1) hs;obtain⟨d,op,ty,ps,af,g⟩:=o;unfold Oper.wp;rw[h2 w Agree.refl d ps af g];exact⟨Agree.refl,.inl pL,Z⟩
theorem Cl{v:Option V}(Z:Region.ready .any all listed=[i])(hi:all[i]?=some o)(hw:bm F all o.guard=some true)(hd:∀S w ρ a,HRel S w ρ H.get→FRel S w ρ a n F→Does P S w ρ H.get a o.type o.op v (ed.app H.get H.nx) ed.tch)(hl:ed.ok H.get)
  (hc:((dk H.get L&&ed.clear L)||(listed.setIfInBounds i true).getD m false)=true) (k:Go P K Q (.drw all L m left (listed.setIfInBounds i true)) s n (F.seto o.dst (Cz v)) (H.app ed)):Go P K Q (.drw all L m (left+1) listed) s n F H:=λS w ρ a hr hiv U hs=>by
 refine oc (S:=S) Z ?_;obtain⟨nx,w',ρ',h1,h2,h3⟩:=hd S w ρ a hr U;have G:=h2.hr;have J:=hiv.eff h2;rw[←Hp.get_app hl]at G J;have hA:=sm hr h2;have O:Ls ρ L w w'∨(listed.setIfInBounds i true).getD m false=true:=(wM hc).imp (λh=>by
  simp only[Bool.and_eq_true]at h;exact CM hr h2 h.1 h.2) id
 unfold wpOp;simp only[hi];rw[if_pos (cc U hw)];refine .inl ?_;have kN:=λ(e:v=none)=>k S w' ρ' (a.put o.dst undef) G J (by subst e;exact rW (U.up h2.up) o.dst) hs;have kV:=λ(x:Value) (u:V) (e:v=some u) (hx:VRel S w' ρ' u x)=>k S w' ρ' (a.put o.dst x) G J (by subst e;exact cH (U.up h2.up) o.dst hx) hs;obtain⟨d,op,ty,ps,af,g⟩:=o;unfold Oper.wp;rw[h1 d ps af g];cases v with
 |none=>
  subst h3;exact kr h2.up hA O (kN rfl)
 |some v=>
  obtain⟨x,rfl,h4⟩:=h3;exact kr h2.up hA O (kV x v rfl h4)
theorem go_d1C{args:List Operand}{tys:Array TypeId}{vs:List V}{Post:V→Hp→Prop}{L':List Nat}(he:bX P fid=true)(J:Region.ready .any all listed=[i])(hi:all[i]?=some o)(ho:o.op=.call {callee:=.value (.func fid),args:=args.toArray,argTypes:=tys})(hw:bm F all o.guard=some true)(hv:gc F args=some vs)(hC:CallR P K fid vs H L' Post)
  (hc:L'=L∨(listed.setIfInBounds i true).getD m false=true) (k:∀v H',Post v H'→Go P K Q (.drw all L m left (listed.setIfInBounds i true)) s n (F.seto o.dst (some v)) H'):Go P K Q (.drw all L m (left+1) listed) s n F H:=λS w ρ a hr O G hs=>by
 refine oc (S:=S) J ?_;obtain⟨xs,h1,h2⟩:=nS G hv;have U:=hC S w ρ xs hr O h2;unfold wpOp;simp only[hi];rw[if_pos (cc G hw)];refine .inl ?_;obtain⟨d,op,ty,ps,af,g⟩:=o;simp only at ho;subst ho;have hx:(execOp a.eval ⟨d,.call {callee:=.value (.func fid),args:=args.toArray,argTypes:=tys},ty,ps,af,g⟩).run P w=.ok (.enter fid xs.toArray) w:=by
  have e:args.toArray.map a.eval=xs.toArray:=by rw[←G.fr.vals h1];simp
  simp only[execOp,resolve,e];simp[Act.eval,Deferred.ofValue,invoke,kA he]
 unfold Oper.wp;rw[hx,Oper.upon_enter];refine U.mono λe w1 hR=>?_;obtain⟨x,S',ρ',v,H',rfl,hp,Z,hi',hu,hvr,hls⟩:=hR;have hk:=k v H' hp S' w1 ρ' _ Z hi' (cH (G.up hu) d hvr) hs;exact kr hu (λb hb=>hu.blk b hb (hr.slt b hb)) (hc.imp (λe=>by subst e;exact hls) id) hk
end
variable{H:Hp}{fn:Func}{vs:List V}
variable{t:TypeId}{b:Nat}{cs:List V}
section
variable{P:Program}{T:Tab}{K:Ctx}{Q:Exit→Act→World→Prop}{s:List EI}{n:Nat}{F:Fm}{S S':Nat→Prop}{w w':World}{ρ ρ':Nat→Option Value}{h h1 h1' h2:Nat→Ob}{a:Act}
theorem Cj(hr:HRel S w ρ h)(hi:Inv K S w ρ h)(hh1:∀i,h1 i=h i∨h1 i=.gone)(U:HRel S' w' ρ' h1')(G:Inv ⟨w,S,λb=>∃id,own ρ id (h1 id) b,ρ⟩ S' w' ρ' h1')
  (hh2:∀i,(h2 i=h1' i∨h2 i=.gone)∨(h2 i=h i∧h1 i=.gone∧h i≠.free)):
  HRel S' w' ρ' h2∧Inv K S' w' ρ' h2∧Up S S' w w' ρ ρ'∧∀L,dk h L=true→(∀id,id∈L→h1 id=.gone)→Ls ρ L w w':=by
 have h1own:∀id b,own ρ id (h1 id) b→own ρ id (h id) b:=λid b hb=>by
  rcases hh1 id with e|e
  ·rw[e]at hb;exact hb
  ·rw[e]at hb;exact hb.elim
 have up:Up S S' w w' ρ ρ':=⟨G.s0,λb hb hlt=>G.chg.block b hlt (λ⟨id,O⟩=>hr.sep id b (h1own id b O) hb),G.pin⟩;have frame:∀i b,h1 i=.gone→own ρ i (h i) b→¬∃id,own ρ id (h1 id) b:=λi b hg O ⟨id,hid⟩=>by
  have e:=hr.dis i id b O (h1own id b hid);subst e;rw[hg]at hid;exact hid.elim
 have cases2:∀i b,own ρ' i (h2 i) b→own ρ' i (h1' i) b∨(h1 i=.gone∧own ρ i (h i) b):=λi b hb=>by
  rcases hh2 i with(e|e)|⟨e,e1,e2⟩
  ·rw[e]at hb;exact .inl hb
  ·rw[e]at hb;exact hb.elim
  ·rw[e]at hb;exact .inr ⟨e1,Ia G.pin (hr.ob i) hb⟩
 have far:∀i b,h1 i=.gone→own ρ i (h i) b→¬S' b:=λi b hg O hS=>by
  rcases G.s1 b hS with J|J|J
  ·exact hr.sep i b O J
  ·exact frame i b hg O J
  ·have :=gN (hr.ob i) O;simp only at J;omega
 have apart:∀i j b,own ρ' i (h1' i) b→h1 j=.gone→own ρ j (h j) b→False:=λi j b O hg hb=>by
  rcases G.ow i b O with J|J
  ·exact frame j b hg hb J
  ·have :=gN (hr.ob j) hb;simp only at J;omega
 refine⟨⟨λi=>?_,λi b hb=>?_,λi j b hbi hbj=>?_,U.slt⟩,⟨?_,λb hb=>G.s0 b (hi.s0 b hb),λb hb=>?_,λi b hb=>?_,λid x hx=>G.pin _ _ (hi.pin id x hx)⟩,up,λL hl hg id hid x b hx hb=>?_⟩
 ·rcases hh2 i with(e|e)|⟨e,e1,e2⟩
  ·rw[e];exact U.ob i
  ·rw[e];trivial
  ·rw[e];exact(hr.ob i).up up (λhf=>absurd hf e2) (λb hb=>G.chg.block b (gN (hr.ob i) hb) (frame i b e1 hb))
 ·rcases cases2 i b hb with J|⟨J,h4⟩
  ·exact U.sep i b J
  ·exact far i b J h4
 ·rcases cases2 i b hbi with J|⟨J,h4⟩<;>rcases cases2 j b hbj with Z|⟨Z,h6⟩
  ·exact U.dis i j b J Z
  ·exact(apart i j b J Z h6).elim
  ·exact(apart j i b Z J h4).elim
  ·exact hr.dis i j b h4 h6
 ·refine hi.chg.trans G.chg ?_;rintro b ⟨id,O⟩;exact hi.ow id b (h1own id b O)
 ·rcases G.s1 b hb with J|⟨id,J⟩|J
  ·exact hi.s1 b J
  ·exact .inr (hi.ow id b (h1own id b J))
  ·exact .inr (.inr (Nat.le_trans hi.chg.size J))
 ·rcases cases2 i b hb with J|⟨J,h4⟩
  ·rcases G.ow i b J with⟨id,Z⟩|Z
   ·exact hi.ow id b (h1own id b Z)
   ·exact .inr (Nat.le_trans hi.chg.size Z)
  ·exact hi.ow i b h4
 ·have O:=mJ hr hl id hid x b hx hb;exact G.chg.block b (gN (hr.ob id) O) (frame id b (hg id hid) O)
def nd:Nat→List V→Fm
 |0,_=>[]
 |n+1,[]=>none::nd n []
 |n+1,v::r=>some v::nd n r
theorem xf:∀(n:Nat) (vs:List V),(nd n vs).length=n
 |0,_=>rfl
 |n+1,[]=>by simp[nd,xf n []]
 |n+1,v::r=>by simp[nd,xf n r]
theorem xO:∀(n:Nat) (vs:List V) (i:Nat) (v:V),(nd n vs).get i=some v→vs[i]?=some v
 |0,_,i,v,h=>by simp[nd,Fm.get]at h
 |n+1,[],0,v,h=>by simp[nd,Fm.get]at h
 |n+1,[],i+1,v,h=>by
  have :=xO n [] i v (by simpa[nd,Fm.get]using h);simp at this
 |n+1,u::r,0,v,h=>by simpa[nd,Fm.get]using h
 |n+1,u::r,i+1,v,h=>by
  have :=xO n r i v (by simpa[nd,Fm.get]using h);simpa using this
theorem yh{c:Code}{xs:List Value}{R:Ending→World→Prop}(hf:P.funcs[fid]?=some fn)(hb:fn.body=some c)(J:Nat.ble vs.length fn.ntmps=true)(hr:HRel S w ρ H.get)(hi:Inv K S w ρ H.get)(hx:LRel S w ρ vs xs)
  (k:Go P K (bodyPost P fn R) (.code c) [] fn.ntmps (nd fn.ntmps vs) H):Calls P fid xs.toArray w R:=by
 refine calls_of_wp hf hb (k S w ρ _ hr hi ⟨?_,rfl,hr.slt.gl,?_,λi v hv=>?_⟩)
 ·have h1:vs.length≤fn.ntmps:=Nat.le_of_ble_eq_true J;have h2:=hx.length;simp;omega
 ·exact Nat.le_of_eq (xf _ _)
 ·have h1:=xO _ _ _ _ hv;obtain⟨x,h2,O⟩:=hx.get h1;refine⟨x,?_,O⟩;have G:i<xs.length:=(List.getElem?_eq_some_iff.1 h2).1;show(xs.toArray++Array.replicate (fn.ntmps-xs.toArray.size) undef)[i]?=some x;rw[Array.getElem?_append_left (by simpa using G)];simpa using h2
def Gm (T:Tab) (h:Nat→Ob) (F:Fm):ResultVar→Option V
 |.tmp t=>F.get t
 |.cell t ty=>match T.ty ty with
  |some d=>match F.get t with
   |some (.ptr id 0)=>match h id with
    |.var _ cs=>ot d cs 0
    |_=>none
   |some (.box cs 0)=>ot d cs 0
   |_=>none
  |none=>none
def sD(T:Tab)(h:Nat→Ob)(F:Fm):List ResultVar→Option (List V)
 |[]=>some []
 |x::r=>match Gm T h F x with
  |some v=>match sD T h F r with
   |some vs=>some (v::vs)
   |none=>none
  |none=>none
def nK:List V→V
 |[v]=>v
 |vs=>.tup vs
theorem De{d:TD}(td:TdOk P t d){off:Nat}{xs:List Value}{v:V}(G:LRel S w ρ cs xs)(J:∀j,j<xs.length→w.cell? ⟨b,off+j,none⟩=xs[j]?)(hv:ot d cs 0=some v):∃y,(loadVar t ⟨b,off,none⟩).run P w=.ok y w∧VRel S w ρ v y:=by
 have O:=G.length;rcases pJ td hv with⟨h1,h2⟩|⟨h1,h2,rfl⟩
 ·obtain⟨y,U,Z⟩:=G.get h2;have h0:0<xs.length:=(List.getElem?_eq_some_iff.1 U).1;have :=zZ (P:=P) (w:=w) (p:=⟨b,off,none⟩) h1 (by have :=J 0 h0;rw[Nat.add_zero]at this;rw[this,U]);refine⟨y,?_,Z⟩;simp only[Instr.loadAt,Instr.sureAddr]at this;simpa using this
 ·have :=vJ (P:=P) (w:=w) (b:=b) (o:=off) (cs:=xs.take d.size) h1 (by simp;omega) (λj hj=>by rw[J j (by omega),List.getElem?_take,if_pos hj]);refine⟨_,?_,by simp only[VRel];exact⟨xs.take d.size,rfl,by simpa using G.take d.size⟩⟩;simp only[Instr.loadAt,Instr.sureAddr]at this;simpa using this
theorem Jv(Z:TabOk P T)(hr:HRel S w ρ h)(G:FRel S w ρ a n F){x:ResultVar}{v:V}(hv:Gm T h F x=some v):∃y,(oR a x).run P w=.ok y w∧VRel S w ρ v y:=by
 unfold Gm at hv;split at hv
 ·rename_i t;obtain⟨y,h1,h2⟩:=G.get t v hv;exact⟨y,by simp[oR,Array.getD_eq_getD_getElem?,h1],h2⟩
 ·rename_i t ty;split at hv
  ·rename_i d hd;split at hv
   ·rename_i id hid;split at hv
    ·rename_i ho;obtain⟨b,xs,g1,g2,J⟩:=sF hr ho;obtain⟨y,h1,h2⟩:=G.get t _ hid;simp only[VRel]at h2;obtain⟨b',O,rfl⟩:=h2;rw[g1]at O;simp only[Option.some.injEq,Value.pointer.injEq,Addr.mk.injEq,and_true]at O;subst O;obtain⟨z,k1,U⟩:=De (Z.ty _ _ hd) J (b:=b) (off:=0) (λj hj=>by rw[Nat.zero_add,g2.cell]) hv;exact⟨z,by simp[oR,Array.getD_eq_getD_getElem?,h1,asAddr,k1],U⟩
    ·cases hv
   ·rename_i cs hid;obtain⟨y,h1,h2⟩:=G.get t _ hid;simp only[VRel]at h2;obtain⟨b,off,xs,rfl,_,_,J,g4⟩:=h2;obtain⟨z,k1,U⟩:=De (Z.ty _ _ hd) J (b:=b) (off:=off) g4 hv;exact⟨z,by simp[oR,Array.getD_eq_getD_getElem?,h1,asAddr,k1],U.up up0⟩
   ·cases hv
  ·cases hv
theorem EZ(hT:TabOk P T)(hr:HRel S w ρ h)(hF:FRel S w ρ a n F):∀{l:List ResultVar} {vs:List V},sD T h F l=some vs→∃ys,(l.mapM (oR a)).run P w=.ok ys w∧LRel S w ρ vs ys
 |[],vs,hv=>by simp only[sD,Option.some.injEq]at hv;subst hv;exact⟨[],by simp,by simp[LRel]⟩
 | x::r,vs,hv=>by
  simp only[sD]at hv;split at hv
  ·rename_i v h1;split at hv
   ·rename_i us h2;simp only[Option.some.injEq]at hv;subst hv;obtain⟨y,g1,g2⟩:=Jv hT hr hF h1;obtain⟨ys,g3,g4⟩:=EZ hT hr hF h2;exact⟨y::ys,by simp[List.mapM_cons,g1,g3],⟨y,ys,rfl,g2,g4⟩⟩
   ·cases hv
  ·cases hv
theorem EL{ys:List Value}(G:LRel S w ρ vs ys):VRel S w ρ (nK vs) (oz ys):=by
 match vs,ys,G with
 |[],ys,G=>simp only[LRel]at G;subst G;simp only[nK,oz,VRel];exact⟨[],rfl,by simp[LRel]⟩
 |[v],ys,G=>
  simp only[LRel]at G;obtain⟨x,zs,rfl,h1,rfl⟩:=G;exact h1
 |v::u::r,ys,G=>
  have J:=G;simp only[LRel]at G;obtain⟨x,zs,rfl,h1,y,zs',rfl,h2,O⟩:=G;simp only[nK,oz,VRel];exact⟨_,rfl,J⟩
theorem ret_go(O:TabOk P T){R:Ending→World→Prop}{rs:List ResultVar}{e:Exit}(U:e=.ret∨e=.normal)(G:fn.results=rs.toArray)(hr:HRel S w ρ h)(J:FRel S w ρ a n F)(hv:sD T h F rs=some vs)(Z:∀x,VRel S w ρ (nK vs) x→R (.returned x) w):bodyPost P fn R e a w:=by
 obtain⟨ys,h0,h1⟩:=EZ O hr J hv;have hb:bodyPost P fn R .ret a w:=by
  refine bodyPost_ret (v:=oz ys) ?_ J.defers (Z _ (EL h1));have e:(Array.mapM (oR a) rs.toArray).run P w=.ok ys.toArray w:=by rw[List.mapM_toArray];simp[h0]
  unfold results;rw[G];change ((Array.mapM (oR a) rs.toArray)>>=λvs=>pure (if h:vs.size=1 then vs[0]else .tuple vs)).run P w=_;simp only[Sem.run_bind,e,Result.andThen_ok,Sem.run_pure]
  match ys with
  |[]=>rfl
  |[v]=>rfl
  |v::u::r=>simp[oz]
 rcases U with rfl|rfl
 ·exact hb
 ·exact hb
end
def FR(d:Nat):Operand→Bool
 |.tmp t=>!Nat.beq t d
 |_=>true
def tN(d:Option Tmp)(ps:List (Nat×Operand)):Bool:=match d with
 |some d=>ps.all λp=>FR d p.2
 |none=>true
def AP(d e:Option Tmp):Bool:=match d,e with
 |some d,some e=>!Nat.beq d e
 |_,_=>true
variable{x:Operand}
variable{d:Option Tmp}
section
variable{P:Program}{T:Tab}{K:Ctx}{Q:Exit→Act→World→Prop}{s:List EI}{n:Nat}{F:Fm}{H:Hp}{S:Nat→Prop}{w:World}{ρ:Nat→Option Value}{a:Act}
theorem Ly{d:Nat}{y:Value}(h:FR d x=true):aB (fA (a.put (some d) y)) x=aB (fA a) x:=by
 cases x with
 |tmp t=>
  have G:t≠d:=λe=>by subst e;simp[FR]at h
  simp only[aB,fA,Act.put,Array.getElem?_setIfInBounds];rw[if_neg (λe=>G e.symm)]
 |_=>rfl
theorem Hq{y:Value}:∀{ps:List (Nat×Operand)},tN d ps=true→gp (fA (a.put d y)) ps=gp (fA a) ps:=by
 intro ps h;cases d with
 |none=>rfl
 | some d=>
  induction ps with
  |nil=>rfl
  |cons p r ih=>
   obtain⟨i,x⟩:=p;simp only[tN,List.all_cons,Bool.and_eq_true]at h;have ih':=ih (by simp only[tN];exact h.2);simp only[gp,Ly h.1,ih']
theorem kC.up{S':Nat→Prop}{w':World}{ρ':Nat→Option Value}(u:Up S S' w w' ρ ρ'):∀{vs:List (Nat×V)} {ys:List (Nat×Value)},kC S w ρ vs ys→kC S' w' ρ' vs ys
 |[],ys,h=>h
 |(i,v)::r,ys,h=>by
  simp only[kC]at h⊢;obtain⟨x,zs,h1,h2,G⟩:=h;exact⟨x,zs,h1,h2.up u,kC.up u G⟩
theorem Hv{e:Option Tmp}{v u:Option V}(h:AP d e=true):(F.seto d v).seto e u=(F.seto e u).seto d v:=by
 cases d with
 |none=>rfl
 |some d=>cases e with
  |none=>rfl
  |some e=>
   have :d≠e:=λx=>by subst x;simp[AP]at h
   simp only[Fm.seto];exact List.set_comm _ _ this
theorem Hm{v:V}(U:∀t,d=some t→F.get t=none)(G:FRel S w ρ a n (F.seto d (some v))):FRel S w ρ a n F:=by
 cases d with
 |none=>exact G
 |some d=>
  refine⟨G.size,G.defers,G.gl,by have :=G.len;simpa[Fm.seto]using this,λi u J=>G.get i u ?_⟩;have O:d≠i:=λe=>by subst e;rw[U d rfl]at J;cases J
  rw[Fm.get_eq]at J⊢;simp only[Fm.seto,List.getElem?_set,if_neg O];exact J
variable{all:Array Oper}{L:List Nat}{m left i:Nat}{listed:Array Bool}{o:Oper}
def GoP (P:Program) (K:Ctx) (Q:Exit→Act→World→Prop) (all:Array Oper) (L:List Nat) (m left:Nat) (listed:Array Bool) (s:List EI) (n:Nat) (F:Fm) (H:Hp) (i:Nat) (o:Oper) (ps:List (Nat×Operand)) (vs:List (Nat×V)) (v:V):Prop:=
  ∀ S w ρ a,HRel S w ρ H.get→Inv K S w ρ H.get→Region.noSelect all=true→
    (FRel S w ρ a n F→(∃ys,gp (fA a) ps=some ys∧kC S w ρ vs ys)→wpB P all (NoPanic (eK P Q s)) (Agree S w) (Ls ρ L w) m (left+1) listed a w)∧
    (FRel S w ρ a n (F.seto o.dst (some v))→wpB P all (NoPanic (eK P Q s)) (Agree S w) (Ls ρ L w) m left (listed.setIfInBounds i true) a w)
theorem Ha{ps:List (Nat×Operand)}{vs:List (Nat×V)}{v:V}(hv:nz F ps=some vs)(k:GoP P K Q all L m left listed s n (F.seto o.dst none) H i o ps vs v):Go P K Q (.drw all L m (left+1) listed) s n F H:=λS w ρ a hr hi G hs=>by
 obtain⟨ys,h1,h2⟩:=qb G hv;refine(k S w ρ a hr hi hs).1 ?_ ⟨ys,h1,h2⟩;refine⟨G.size,G.defers,G.gl,?_,λj u J=>?_⟩
 ·cases O:o.dst with
  |none=>exact G.len
  |some d=>have :=G.len;simpa[Fm.seto]using this
 ·cases O:o.dst with
  |none=>rw[O]at J;exact G.get j u J
  |some d=>
   rw[O,Fm.get_eq]at J;simp only[Fm.seto,List.getElem?_set]at J;split at J
   ·split at J<;>simp at J
   ·exact G.get j u (by rw[Fm.get_eq];exact J)
theorem wE(J:Chg [] w w'):Up S (λc=>S c∨c=b) w w' ρ ρ:=⟨λ_ h=>.inl h,λc _ G=>J.block c G (by simp),λ_ _ h=>h⟩
theorem Hw(hr:HRel S w ρ h)(J:Chg [] w w')(hb:b=w.heap.size)(O:b<w'.heap.size):HRel (λc=>S c∨c=b) w' ρ h:=by
 refine⟨λi=>(hr.ob i).up (wE J) (λhf=>?_) (λc G=>J.block c (gN (hr.ob i) G) (by simp)),λi c G=>?_,hr.dis,hr.slt.up (wE (ρ:=ρ) J) λc G=>?_⟩
 ·have :=hr.ob i;rw[hf]at this;exact this
 ·rintro(h1|h1)
  ·exact hr.sep i c G h1
  ·have :=gN (hr.ob i) G;omega
 ·rcases G with h1|h1
  ·exact Nat.lt_of_lt_of_le (hr.slt c h1) J.size
  ·omega
theorem Ja(hi:Inv K S w ρ h)(J:Chg [] w w')(hb:b=w.heap.size):Inv K (λc=>S c∨c=b) w' ρ h:=by
 have O:=hi.chg0 J;refine⟨O.chg,λc G=>.inl (hi.s0 c G),λc G=>?_,hi.ow,hi.pin⟩;rcases G with h1|h1
 ·exact hi.s1 c h1
 ·have :=hi.chg.size;exact .inr (.inr (by omega))
theorem DB{t e:TypeId}{ps:List (Nat×Operand)}{vs:List (Nat×V)}{ys:List (Nat×Value)}{d:TD}{k:Nat}{ty:TypeId}{els:List V}(Z:TabOk P T)(hr:HRel S w ρ h)(hi:Inv K S w ρ h)(fr:Fr a n (fA a))(G:gp (fA a) ps=some ys)(hpr:kC S w ρ vs ys)
  {x1 x2:Nat} {x3:V} (ht:T.ty t=some ⟨x1,x2,x3,.sl e⟩) (he:T.ty e=some d) (hp:mu d.size 0 vs=some els) (hb:(Nat.beq els.length k&&Nat.ble (k*d.size) 16777216&&Nat.ble k 16777216&&pureL els)=true):
  ∃x S' w',Runs P a ty (.buildSlice t k ps.toArray) w (.value x) w'∧HRel S' w' ρ h∧Inv K S' w' ρ h∧Up S S' w w' ρ ρ∧Chg [] w w'∧VRel S' w' ρ (.row d.size els) x:=by
 simp only[Bool.and_eq_true,Nat.beq_eq]at hb;obtain⟨⟨⟨hl,hsm⟩,hm⟩,hpu⟩:=hb;have hmm:k≤16777216:=Nat.le_of_ble_eq_true hm;obtain⟨z,hz1,hz2⟩:=(Z.ty _ _ he).zeroT;obtain⟨h1,h2,h3⟩:=tD hpr hp;have J:ps.map (·.1)=List.range k:=by
  have :ps.map (·.1)=ys.map (·.1):=by rw[←fr.parts G];simp
  rw[this,h1,hl,List.range_eq_range']
 obtain⟨w',b,g1,g2,O,g4,g5⟩:=Ak (P:=P) (t:=t) (m:=k) fr G ((Z.ty _ _ ht).sl rfl) (Z.ty _ _ he).size hz1 J h2 hsm rfl w ty;have U:=h3.length;refine⟨_,λc=>S c∨c=b,w',g1,Hw hr O g4 g5,Ja hi O g4,wE O,O,?_⟩;simp only[VRel];refine⟨some ⟨b,0,none⟩,k,_,by rw[hl],by omega,by simp only[maxLen];omega,(h3.up (wE O)).pure hpu,U,λ_=>⟨b,0,rfl,.inr rfl,g5,λj hj=>by rw[Nat.zero_add,g2.cell]⟩⟩
def tn (T:Tab) (all:Array Oper) (i:Nat) (vs:List (Nat×V)):Option (Oper×List (Nat×Operand)×V):=match all[i]? with
 |some ⟨dst,.buildSlice t k ⟨ps⟩,ty,pp,af,none⟩=>match T.ty t with
  |some ⟨_,_,_,.sl e⟩=>match T.ty e with
   |some d=>match mu d.size 0 vs with
    |some els=>match Nat.beq els.length k&&Nat.ble (k*d.size) 16777216&&Nat.ble k 16777216&&pureL els with
     |true=>iG d.size λsz=>some (⟨dst,.buildSlice t k ⟨ps⟩,ty,pp,af,none⟩,ps,.row sz els)
     |false=>none
    |none=>none
   |none=>none
  |_=>none
 |_=>none
variable{ps:List (Nat×Operand)}{vs:List (Nat×V)}{v:V}
theorem Am(hT:TabOk P T)(G:tn T all i vs=some (o,ps,v))(hr:HRel S w ρ H.get)(J:Inv K S w ρ H.get)(O:FRel S w ρ a n F){ys:List (Nat×Value)}(U:gp (fA a) ps=some ys)(Z:kC S w ρ vs ys)(hs:Region.noSelect all=true)
  (hl:(dk H.get L||(listed.setIfInBounds i true).getD m false)=true)
  (D:∀S w ρ a,HRel S w ρ H.get→Inv K S w ρ H.get→FRel S w ρ a n (F.seto o.dst (some v))→wpB P all (NoPanic (eK P Q s)) (Agree S w) (Ls ρ L w) m left (listed.setIfInBounds i true) a w):
  wpOp P all (NoPanic (eK P Q s)) i (λa' w'=>Agree S w w'∧(Ls ρ L w w'∨(listed.setIfInBounds i true).getD m false=true)∧wpB P all (NoPanic (eK P Q s)) (Agree S w) (Ls ρ L w) m left (listed.setIfInBounds i true) a' w') a w:=by
 unfold tn at G;split at G
 ·rename_i dst t k ps' ty pp af hi;split at G
  ·rename_i e ht;split at G
   ·rename_i d he;split at G
    ·rename_i els hrp;split at G
     ·rename_i hb;rw[eC]at G;simp only[Option.some.injEq,Prod.mk.injEq]at G;obtain⟨rfl,rfl,rfl⟩:=G;obtain⟨x,S',w',g1,g2,g3,g4,g5,g6⟩:=DB (ty:=ty) hT hr J O.fr U Z ht he hrp hb;unfold wpOp;simp only[hi];rw[if_pos (cc O (o:=⟨dst,.buildSlice t k ⟨ps'⟩,ty,pp,af,none⟩) rfl)];refine .inl ?_;have hk:=D S' w' ρ _ g2 g3 (cH (O.up g4) dst g6);unfold Oper.wp;rw[g1 dst pp af none];refine kr g4 (λb hb=>g5.block b (hr.slt b hb) (by simp)) ((wM hl).imp (λhl id hid x b hx hb=>?_) id) hk;exact g5.block b (gN (hr.ob id) (mJ hr hl id hid x b hx hb)) (by simp)
     ·cases G
    ·cases G
   ·cases G
  ·cases G
 ·cases G
theorem LS(hT:TabOk P T)(hp:tn T all i vs=some (o,ps,v))(O:Region.ready .any all listed=[i])(hl:(dk H.get L||(listed.setIfInBounds i true).getD m false)=true)
  (kk:Go P K Q (.drw all L m left (listed.setIfInBounds i true)) s n (F.seto o.dst (some v)) H):GoP P K Q all L m left listed s n F H i o ps vs v:=λS w ρ a hr G hs=>by
 refine⟨λJ ⟨ys,U,Z⟩=>oc (S:=S) O (Am hT hp hr G J U Z hs hl λS w ρ a hr G J=>kk S w ρ a hr G J hs),λJ=>kk S w ρ a hr G J hs⟩
theorem DZ{B Sx:World→Prop}{Q':Exit→Act→World→Prop}(G:(match Region.ready .any all listed with|[x,y]=>(Nat.beq x i&&Nat.beq y j)||(Nat.beq x j&&Nat.beq y i)|_=>false)=true)
  (h1:wpOp P all Q' i (λO w'=>B w'∧(Sx w'∨(listed.setIfInBounds i true).getD m false=true)∧wpB P all Q' B Sx m left (listed.setIfInBounds i true) O w') a w)
  (h2:wpOp P all Q' j (λO w'=>B w'∧(Sx w'∨(listed.setIfInBounds j true).getD m false=true)∧wpB P all Q' B Sx m left (listed.setIfInBounds j true) O w') a w):wpB P all Q' B Sx m (left+1) listed a w:=by
 split at G
 ·rename_i x y hr;refine⟨λU=>(by rw[hr]at U;cases U),λc J=>?_⟩;rw[hr]at J;simp only[Bool.or_eq_true,Bool.and_eq_true,Nat.beq_eq]at G;simp only[List.mem_cons,List.not_mem_nil,or_false]at J;rcases G with⟨rfl,rfl⟩|⟨rfl,rfl⟩
  ·rcases J with rfl|rfl
   ·exact h1
   ·exact h2
  ·rcases J with rfl|rfl
   ·exact h2
   ·exact h1
 ·cases G
theorem Ji(hT:TabOk P T)(hp:tn T all i vs=some (o,ps,v)){oj:Oper}(hj:all[j]?=some oj)(hrd:(match Region.ready .any all listed with|[x,y]=>(Nat.beq x i&&Nat.beq y j)||(Nat.beq x j&&Nat.beq y i)|_=>false)=true)(hrd1:Region.ready .any all (listed.setIfInBounds i true)=[j])
  (hl:(dk H.get L||(listed.setIfInBounds i true).getD m false)=true) (hd:∀t,o.dst=some t→F.get t=none) (hne:AP o.dst oj.dst=true) (hpn:tN oj.dst ps=true) (hcomm:(listed.setIfInBounds i true).setIfInBounds j true=(listed.setIfInBounds j true).setIfInBounds i true)
  {Post:V→Hp→Prop}
  (hx:∀S w ρ a,HRel S w ρ H.get→Inv K S w ρ H.get→FRel S w ρ a n F→∀(K2:Act→World→Prop),(∀x S' w' ρ' u H',Post u H'→HRel S' w' ρ' H'.get→Inv K S' w' ρ' H'.get→Up S S' w w' ρ ρ'→Agree S w w'→(Ls ρ L w w'∨((listed.setIfInBounds j true).getD m false=true∧((listed.setIfInBounds j true).setIfInBounds i true).getD m false=true))→VRel S' w' ρ' u x→K2 (a.put oj.dst x) w')→wpOp P all (NoPanic (eK P Q s)) j K2 a w)
  (kk:∀u H',Post u H'→GoP P K Q all L m left (listed.setIfInBounds j true) s n (F.seto oj.dst (some u)) H' i o ps vs v):GoP P K Q all L m (left+1) listed s n F H i o ps vs v:=λS w ρ a hr G hs=>by
 have D:∀S w ρ a,HRel S w ρ H.get→Inv K S w ρ H.get→FRel S w ρ a n (F.seto o.dst (some v))→wpB P all (NoPanic (eK P Q s)) (Agree S w) (Ls ρ L w) m (left+1) (listed.setIfInBounds i true) a w:=λS w ρ a hr G U=>by
  refine oc (S:=S) hrd1 ?_;refine hx S w ρ a hr G (Hm hd U) _ λx S' w' ρ' u H' hP J O Z hA hL hv=>?_;rw[hcomm];refine kr Z hA (hL.imp id (·.2)) ((kk u H' hP S' w' ρ' _ J O hs).2 ?_);rw[←Hv hne];exact cH (U.up Z) oj.dst hv
 refine⟨λU ⟨ys,hps,hpr⟩=>?_,D S w ρ a hr G⟩;refine DZ hrd (Am hT hp hr G U hps hpr hs hl D) ?_;refine hx S w ρ a hr G U _ λx S' w' ρ' u H' hP J O Z hA hL hv=>?_;refine kr Z hA (hL.imp id (·.1)) ((kk u H' hP S' w' ρ' _ J O hs).1 (cH (U.up Z) oj.dst hv) ⟨ys,?_,hpr.up Z⟩);rw[Hq hpn];exact hps
end
section
variable{P:Program}{T:Tab}{K:Ctx}{Q:Exit→Act→World→Prop}{s:List EI}{n:Nat}{F:Fm}{H:Hp}
def nE (P:Program) (K:Ctx) (o:Oper) (L:List Nat) (ok:Bool) (n:Nat) (F:Fm) (H:Hp) (u:V) (H':Hp):Prop:=
  ∀ S w ρ a,HRel S w ρ H.get→Inv K S w ρ H.get→FRel S w ρ a n F→∀(Q':Exit→Act→World→Prop) (K2:Act→World→Prop),
    (∀x S' w' ρ',HRel S' w' ρ' H'.get→Inv K S' w' ρ' H'.get→Up S S' w w' ρ ρ'→Agree S w w'→(Ls ρ L w w'∨ok=true)→VRel S' w' ρ' u x→K2 (a.put o.dst x) w')→o.wp P a w K2 Q'
theorem Ic(G:TabOk P T){o:Oper}{L:List Nat}{ok:Bool}{v:V}(hv:oQ T H.get F o.op=some v):nE P K o L ok n F H v H:=λS w ρ a hr hi J Q' K2 k=>by
 obtain⟨x,h1,h2⟩:=uO (ty:=o.type) G hr J hv;have :=k x S w ρ hr hi Up.refl Agree.refl (.inl pL) h1;obtain⟨d,op,ty,ps,af,g⟩:=o;unfold Oper.wp;rw[h2 w Agree.refl d ps af g];exact this
theorem bg(Z:TabOk P T){o:Oper}{L:List Nat}{ok:Bool}{v:Option V}(hv:ms T H.get F H.nx o.op=some (v,ed))(hc:((dk H.get L&&ed.clear L)||ok)=true):nE P K o L ok n F H (v.getD (.tup [])) (H.app ed):=λS w ρ a hr hi hF Q' K2 k=>by
 obtain⟨nx,w',ρ',h1,h2,U⟩:=wG (ty:=o.type) Z hr hF H.get_free hv;have G:=h2.hr;have J:=hi.eff h2;rw[←Hp.get_app (tf hv)]at G J;have O:Ls ρ L w w'∨ok=true:=(wM hc).imp (λh=>by
  simp only[Bool.and_eq_true]at h;exact CM hr h2 h.1 h.2) id
 have kk:=λx hx=>k x S w' ρ' G J h2.up (sm hr h2) O hx;obtain⟨d,op,ty,ps,af,g⟩:=o;unfold Oper.wp;rw[h1 d ps af g];cases v with
 |none=>
  subst U;exact kk undef uE
 |some v=>
  obtain⟨x,rfl,h4⟩:=U;exact kk x h4
theorem cg{o:Oper}{L:List Nat}{ok:Bool}{args:List Operand}{tys:Array TypeId}{vs:List V}{u:V}{H':Hp}{L':List Nat}(he:bX P fid=true)(ho:o.op=.call {callee:=.value (.func fid),args:=args.toArray,argTypes:=tys})(hv:gc F args=some vs)(hC:CallR P K fid vs H L' (λu' H''=>u'=u∧H''=H'))(hL:L'=L∨ok=true):nE P K o L ok n F H u H':=λS w ρ a hr hi hF Q' K2 k=>by
 obtain⟨xs,h1,h2⟩:=nS hF hv;have G:=hC S w ρ xs hr hi h2;obtain⟨d,op,ty,ps,af,g⟩:=o;simp only at ho;subst ho;have hx:(execOp a.eval ⟨d,.call {callee:=.value (.func fid),args:=args.toArray,argTypes:=tys},ty,ps,af,g⟩).run P w=.ok (.enter fid xs.toArray) w:=by
  have e:args.toArray.map a.eval=xs.toArray:=by rw[←hF.fr.vals h1];simp
  simp only[execOp,resolve,e];simp[Act.eval,Deferred.ofValue,invoke,kA he]
 unfold Oper.wp;rw[hx,Oper.upon_enter];refine G.mono λe w1 hR=>?_;obtain⟨x,S',ρ',v,H'',rfl,⟨rfl,rfl⟩,J,O,hu,U,Z⟩:=hR;exact k x S' w1 ρ' J O hu (λb hb=>hu.blk b hb (hr.slt b hb)) (hL.imp (λe=>by subst e;exact Z) id) U
theorem bH{L:List Nat}{m left:Nat}{listed:Array Bool}{oi oj:Oper}{ui uj:V}{Hi Hj:Hp}(hrd:(match Region.ready .any all listed with|[x,y]=>(Nat.beq x i&&Nat.beq y j)||(Nat.beq x j&&Nat.beq y i)|_=>false)=true)(hi:all[i]?=some oi)(hj:all[j]?=some oj)(hwi:bm F all oi.guard=some true)(hwj:bm F all oj.guard=some true)
  (xi:nE P K oi L ((listed.setIfInBounds i true).getD m false) n F H ui Hi) (xj:nE P K oj L ((listed.setIfInBounds j true).getD m false) n F H uj Hj)
  (ki:Go P K Q (.drw all L m left (listed.setIfInBounds i true)) s n (F.seto oi.dst (some ui)) Hi) (kj:Go P K Q (.drw all L m left (listed.setIfInBounds j true)) s n (F.seto oj.dst (some uj)) Hj):Go P K Q (.drw all L m (left+1) listed) s n F H:=λS w ρ a hr U O hs=>by
 refine DZ hrd ?_ ?_
 ·unfold wpOp;simp only[hi];rw[if_pos (cc O hwi)];exact .inl (xi S w ρ a hr U O _ _ λx S' w' ρ' G J Z hA hL hv=>kr Z hA hL (ki S' w' ρ' _ G J (cH (O.up Z) oi.dst hv) hs))
 ·unfold wpOp;simp only[hj];rw[if_pos (cc O hwj)];exact .inl (xj S w ρ a hr U O _ _ λx S' w' ρ' G J Z hA hL hv=>kr Z hA hL (kj S' w' ρ' _ G J (cH (O.up Z) oj.dst hv) hs))
end
def atN:List Nat→Nat→Option Nat
 |[],_=>none
 |x::_,0=>some x
 |_::r,i+1=>atN r i
theorem oX:∀(l:List Nat) (i:Nat),atN l i=l[i]?
 |[],i=>by simp[atN]
 |x::r,0=>by simp[atN]
 |x::r,i+1=>by simp[atN,oX r i]
abbrev Fs:V:=.raw (.agg #[])
mutual
def V.ren(σ:List Nat):V→V
 |.ptr id o=>match atN σ id with
  |some j=>.ptr j o
  |none=>Fs
 |.el id sz i o=>match atN σ id with
  |some j=>.el j sz i o
  |none=>Fs
 |.sl id=>match atN σ id with
  |some j=>.sl j
  |none=>Fs
 |.np id=>match atN σ id with
  |some j=>.np j
  |none=>.nilp
 |.agg cs=>.agg (renL σ cs)
 |.tup cs=>.tup (renL σ cs)
 |.clo fid cs=>.clo fid (renL σ cs)
 |.int k n=>.int k n
 |.bool b=>.bool b
 |.str l=>.str l
 |.nilp=>.nilp
 |.nils=>.nils
 |.raw x=>.raw x
 |.box cs o=>.box cs o
 |.row sz els=>.row sz els
 |.lk els=>.lk els
def renL(σ:List Nat):List V→List V
 |[]=>[]
 |v::r=>v.ren σ::renL σ r
end
def Ob.ren(σ:List Nat):Ob→Ob
 |.var t cs=>.var t (renL σ cs)
 |.row e sz els=>.row e sz (renL σ els)
 |o=>o
def gP(σ:List Nat)(ρ:Nat→Option Value):Nat→Option Value:=λj=>match atN σ j with
 |some i=>ρ i
 |none=>none
section
variable{S:Nat→Prop}{w:World}{ρ:Nat→Option Value}{σ:List Nat}
theorem CY{x:Value}(h:VRel S w ρ Fs x):False:=by simp only[VRel,Value.oneCell']at h;exact absurd h.2 (by simp)
mutual
theorem VRel.ren:∀{v:V} {x:Value},VRel S w ρ (v.ren σ) x→VRel S w (gP σ ρ) v x
 |.int _ _,x,h=>by simp only[V.ren,VRel]at h⊢;exact h
 |.bool _,x,h=>by simp only[V.ren,VRel]at h⊢;exact h
 |.str _,x,h=>by simp only[V.ren,VRel]at h⊢;exact h
 |.nilp,x,h=>by simp only[V.ren,VRel]at h⊢;exact h
 |.nils,x,h=>by simp only[V.ren,VRel]at h⊢;exact h
 |.raw _,x,h=>by simp only[V.ren,VRel]at h⊢;exact h
 |.box _ _,x,h=>by simp only[V.ren,VRel]at h⊢;exact h
 |.row _ _,x,h=>by simp only[V.ren,VRel]at h⊢;exact h
 |.lk _,x,h=>by simp only[V.ren,VRel]at h⊢;exact h
 | .ptr id o,x,h=>by
  simp only[V.ren]at h;split at h
  ·rename_i j hj;simp only[VRel]at h⊢;obtain⟨b,h1,h2⟩:=h;exact⟨b,by simp only[gP,hj];exact h1,h2⟩
  ·exact(CY h).elim
 | .el id sz i o,x,h=>by
  simp only[V.ren]at h;split at h
  ·rename_i j hj;simp only[VRel]at h⊢;obtain⟨b,n,c,h1,h2⟩:=h;exact⟨b,n,c,by simp only[gP,hj];exact h1,h2⟩
  ·exact(CY h).elim
 | .sl id,x,h=>by
  simp only[V.ren]at h;split at h
  ·rename_i j hj;simp only[VRel]at h⊢;exact⟨by simp only[gP,hj];exact h.1,h.2⟩
  ·exact(CY h).elim
 | .np id,x,h=>by
  simp only[V.ren]at h;split at h
  ·rename_i j hj;simp only[VRel]at h⊢;exact h.imp_right λ⟨b,h1,h2⟩=>⟨b,by simp only[gP,hj];exact h1,h2⟩
  ·simp only[VRel]at h⊢;exact .inl h
 |.agg cs,x,h=>by
  simp only[V.ren,VRel]at h⊢;obtain⟨xs,h1,h2⟩:=h;exact⟨xs,h1,LRel.ren h2⟩
 |.tup cs,x,h=>by
  simp only[V.ren,VRel]at h⊢;obtain⟨xs,h1,h2⟩:=h;exact⟨xs,h1,LRel.ren h2⟩
 |.clo fid cs,x,h=>by
  simp only[V.ren,VRel]at h⊢;obtain⟨xs,h1,h2⟩:=h;exact⟨xs,h1,LRel.ren h2⟩
theorem LRel.ren:∀{v:List V} {x:List Value},LRel S w ρ (renL σ v) x→LRel S w (gP σ ρ) v x
 |[],x,h=>by simp only[renL,LRel]at h⊢;exact h
 |v::r,x,h=>by
  simp only[renL,LRel]at h⊢;obtain⟨y,ys,h1,h2,h3⟩:=h;exact⟨y,ys,h1,VRel.ren h2,LRel.ren h3⟩
end
theorem yc:∀(l:List V),(renL σ l).length=l.length
 |[]=>by simp[renL]
 |v::r=>by simp[renL,yc r]
theorem CRel.ren{sz:Nat}:∀{v:List V} {x:List Value},CRel S w ρ sz (renL σ v) x→CRel S w (gP σ ρ) sz v x
 |[],x,h=>by simp only[renL,CRel]at h⊢;exact h
 |v::r,x,h=>by
  simp only[renL,CRel]at h⊢;obtain⟨y,ys,h1,h2,G,J⟩:=h;exact⟨y,ys,h1,h2,VRel.ren G,CRel.ren J⟩
mutual
theorem VRel.bwd{ρ':Nat→Option Value}(hσ:∀j x,ρ j=some x→∃i,atN σ j=some i∧ρ' i=some x):∀{v:V} {x:Value},VRel S w ρ v x→VRel S w ρ' (v.ren σ) x
 |.int _ _,x,h=>by simp only[V.ren,VRel]at h⊢;exact h
 |.bool _,x,h=>by simp only[V.ren,VRel]at h⊢;exact h
 |.str _,x,h=>by simp only[V.ren,VRel]at h⊢;exact h
 |.nilp,x,h=>by simp only[V.ren,VRel]at h⊢;exact h
 |.nils,x,h=>by simp only[V.ren,VRel]at h⊢;exact h
 |.raw _,x,h=>by simp only[V.ren,VRel]at h⊢;exact h
 |.box _ _,x,h=>by simp only[V.ren,VRel]at h⊢;exact h
 |.row _ _,x,h=>by simp only[V.ren,VRel]at h⊢;exact h
 |.lk _,x,h=>by simp only[V.ren,VRel]at h⊢;exact h
 |.ptr id o,x,h=>by
  simp only[VRel]at h;obtain⟨b,h1,h2⟩:=h;obtain⟨i,h3,h4⟩:=hσ _ _ h1;simp only[V.ren,h3,VRel];exact⟨b,h4,h2⟩
 |.el id sz i o,x,h=>by
  simp only[VRel]at h;obtain⟨b,n,c,h1,h2⟩:=h;obtain⟨i',h3,h4⟩:=hσ _ _ h1;simp only[V.ren,h3,VRel];exact⟨b,n,c,h4,h2⟩
 |.sl id,x,h=>by
  simp only[VRel]at h;obtain⟨i,h3,h4⟩:=hσ _ _ h.1;simp only[V.ren,h3,VRel];exact⟨h4,h.2⟩
 | .np id,x,h=>by
  simp only[VRel]at h;rcases h with h|⟨b,h1,h2⟩
  ·simp only[V.ren];split
   ·simp only[VRel];exact .inl h
   ·simp only[VRel];exact h
  ·obtain⟨i,h3,h4⟩:=hσ _ _ h1;simp only[V.ren,h3,VRel];exact .inr ⟨b,h4,h2⟩
 |.agg cs,x,h=>by
  simp only[V.ren,VRel]at h⊢;obtain⟨xs,h1,h2⟩:=h;exact⟨xs,h1,LRel.bwd hσ h2⟩
 |.tup cs,x,h=>by
  simp only[V.ren,VRel]at h⊢;obtain⟨xs,h1,h2⟩:=h;exact⟨xs,h1,LRel.bwd hσ h2⟩
 |.clo fid cs,x,h=>by
  simp only[V.ren,VRel]at h⊢;obtain⟨xs,h1,h2⟩:=h;exact⟨xs,h1,LRel.bwd hσ h2⟩
theorem LRel.bwd{ρ':Nat→Option Value}(hσ:∀j x,ρ j=some x→∃i,atN σ j=some i∧ρ' i=some x):∀{v:List V} {x:List Value},LRel S w ρ v x→LRel S w ρ' (renL σ v) x
 |[],x,h=>by simp only[renL,LRel]at h⊢;exact h
 |v::r,x,h=>by
  simp only[renL,LRel]at h⊢;obtain⟨y,ys,h1,h2,h3⟩:=h;exact⟨y,ys,h1,VRel.bwd hσ h2,LRel.bwd hσ h3⟩
end
theorem CRel.bwd{ρ':Nat→Option Value}(hσ:∀j x,ρ j=some x→∃i,atN σ j=some i∧ρ' i=some x){sz:Nat}:∀{v:List V} {x:List Value},CRel S w ρ sz v x→CRel S w ρ' sz (renL σ v) x
 |[],x,h=>by simp only[renL,CRel]at h⊢;exact h
 |v::r,x,h=>by
  simp only[renL,CRel]at h⊢;obtain⟨y,ys,h1,h2,G,J⟩:=h;exact⟨y,ys,h1,h2,VRel.bwd hσ G,CRel.bwd hσ J⟩
end
def cm(v u:V):Prop:=∀S w ρ x,VRel S w ρ v x→VRel S w ρ u x
theorem cm.rfl{v:V}:cm v v:=λ_ _ _ _ h=>h
theorem cm.of_eq{v u:V}(h:v=u):cm v u:=h▸cm.rfl
theorem cm.nil(sz:Nat):cm .nils (.row sz []):=λS w ρ x h=>by
 simp only[VRel]at h⊢;subst h;exact⟨none,0,[],by simp,Nat.le_refl _,by decide,by simp[CRel],RowIn.none_⟩
def be:List V→List V→Prop
 |[],us=>us=[]
 |v::r,us=>∃u q,us=u::q∧cm v u∧be r q
theorem be.rel{S:Nat→Prop}{w:World}{ρ:Nat→Option Value}:∀{vs us:List V} {xs:List Value},be vs us→LRel S w ρ vs xs→LRel S w ρ us xs
 |[],us,xs,h,G=>by simp only[be]at h;subst h;exact G
 |v::r,us,xs,h,G=>by
  simp only[be]at h;obtain⟨u,q,rfl,h1,h2⟩:=h;simp only[LRel]at G⊢;obtain⟨y,ys,rfl,J,O⟩:=G;exact⟨y,ys,rfl,h1 _ _ _ _ J,be.rel h2 O⟩
theorem be.rfl:∀{vs:List V},be vs vs
 |[]=>by simp[be]
 |v::r=>⟨v,r,by rfl,cm.rfl,be.rfl⟩
variable{us:List V}
theorem cm.agg(h:be vs us):cm (.agg vs) (.agg us):=λS w ρ x hx=>by
 simp only[VRel]at hx⊢;obtain⟨xs,h1,h2⟩:=hx;exact⟨xs,h1,h.rel h2⟩
theorem be.cons{v u:V}{r q:List V}(h:cm v u)(k:be r q):be (v::r) (u::q):=⟨u,q,by rfl,h,k⟩
theorem be.nil:be [] []:=by simp[be]
def lL:Ob→Ob→Prop
 |_,.gone=>True
 |.var t cs,.var J cs'=>t=J∧be cs cs'
 |.row e sz els,.row G sz' els'=>e=G∧sz=sz'∧els=els'
 |.mp k e ks vs,.mp k' G ks' vs'=>k=k'∧e=G∧ks=ks'∧vs=vs'
 |_,_=>False
def leF(σ:List Nat):Fm→Fm→Prop
 |_,[]=>True
 |[],none::G=>leF σ [] G
 |[],some _::_=>False
 |x::r,none::G=>leF σ r G
 |x::r,some u::G=>(∃v,x=some v∧cm v (u.ren σ))∧leF σ r G
def leH(σ:List Nat)(H:Hp):List (Nat×Ob)→Prop
 |[]=>True
 |(j,o)::r=>(∃i,atN σ j=some i∧lL (H.get i) (o.ren σ))∧leH σ H r
def db:List Nat→Bool
 |[]=>true
 |i::r=>!r.contains i&&db r
variable{o':Ob}
variable{PL:List Nat}{H0:Hp}
variable{Post:V→Hp→Prop}
section
variable{P:Program}{T:Tab}{K:Ctx}{Q:Exit→Act→World→Prop}{s:List EI}{n:Nat}{F F':Fm}{H H':Hp}{σ:List Nat}{S:Nat→Prop}{w:World}{ρ:Nat→Option Value}{a:Act}
theorem wz:∀{F F':Fm},leF σ F F'→∀i u,F'.get i=some u→∃v,F.get i=some v∧cm v (u.ren σ)
 |F,[],h,i,u,G=>by simp[Fm.get]at G
 |[],none::J,h,0,u,G=>by simp[Fm.get]at G
 |[],none::J,h,i+1,u,G=>by
  obtain⟨v,h1,_⟩:=wz (F:=[]) (F':=J) (by simpa[leF]using h) i u (by simpa[Fm.get]using G);simp[Fm.get]at h1
 |[],some _::_,h,i,u,G=>by simp[leF]at h
 |x::r,none::J,h,0,u,G=>by simp[Fm.get]at G
 |x::r,none::J,h,i+1,u,G=>by
  have :=wz (F:=r) (F':=J) (by simpa[leF]using h) i u (by simpa[Fm.get]using G);simpa[Fm.get]using this
 |x::r,some u'::J,h,0,u,G=>by
  simp only[leF]at h;simp only[Fm.get,Option.some.injEq]at G;subst G;obtain⟨v,h1,h2⟩:=h.1;exact⟨v,by simp[Fm.get,h1],h2⟩
 |x::r,some u'::J,h,i+1,u,G=>by
  simp only[leF]at h;have :=wz h.2 i u (by simpa[Fm.get]using G);simpa[Fm.get]using this
theorem Jo(h:leF σ F F')(J:F'.length≤n)(G:FRel S w ρ a n F):FRel S w (gP σ ρ) a n F':=
 ⟨G.size,G.defers,G.gl,J,λi u O=>by
  obtain⟨v,h1,h2⟩:=wz h i u O;obtain⟨x,U,Z⟩:=G.get i v h1;exact⟨x,U,(h2 _ _ _ _ Z).ren⟩⟩
theorem xz:∀{l:List (Nat×Ob)},leH σ H l→∀j,ay l j=.gone∨∃i,atN σ j=some i∧lL (H.get i) ((ay l j).ren σ)
 |[],_,j=>.inl rfl
 | (k,o)::r,h,j=>by
  simp only[leH]at h;simp only[ay];split
  ·rename_i hb;have :=Nat.eq_of_beq_eq_true hb;subst this;exact .inr h.1
  ·exact xz h.2 j
theorem tm:∀{l:List Nat},db l=true→∀i j x,atN l i=some x→atN l j=some x→i=j
 |[],_,i,j,x,hi,G=>by simp[atN]at hi
 |y::r,h,0,0,x,hi,G=>rfl
 |y::r,h,0,j+1,x,hi,G=>by
  simp only[db,Bool.and_eq_true,Bool.not_eq_true']at h;simp only[atN,Option.some.injEq]at hi G;subst hi;rw[oX]at G;have :=List.mem_of_getElem? G;simp[this]at h
 |y::r,h,i+1,0,x,hi,G=>by
  simp only[db,Bool.and_eq_true,Bool.not_eq_true']at h;simp only[atN,Option.some.injEq]at hi G;subst G;rw[oX]at hi;have :=List.mem_of_getElem? hi;simp[this]at h
 |y::r,h,i+1,j+1,x,hi,G=>by
  simp only[db,Bool.and_eq_true]at h;have :=tm h.2 i j x (by simpa[atN]using hi) (by simpa[atN]using G);omega
theorem Jw{o:Ob}(hij:atN σ j=some i)(h:lL o (o'.ren σ))(ho':o'≠.gone)(hr:kd S w ρ i o):kd S w (gP σ ρ) j o'∧∀b,own (gP σ ρ) j o' b→own ρ i o b:=by
 have hρ:gP σ ρ j=ρ i:=by simp only[gP,hij]
 cases o' with
 |gone=>exact absurd rfl ho'
 |free=>cases o<;>simp[Ob.ren,lL]at h
 |ext bs Φ=>cases o<;>simp[Ob.ren,lL]at h
 |mp kt' et' ks' vs'=>
  cases o<;>simp only[Ob.ren,lL]at h;rename_i kt et ks vs;obtain⟨rfl,rfl,rfl,rfl⟩:=h;obtain⟨b,es,ck,h1,h2,h3,h4⟩:=hr;exact⟨⟨b,es,ck,by rw[hρ];exact h1,h2,h3,h4⟩,λc hc=>by simp only[own]at hc⊢;rw[hρ]at hc;exact hc⟩
 |var t' cs'=>
  cases o<;>simp only[Ob.ren,lL]at h;rename_i t cs;obtain⟨rfl,h⟩:=h;obtain⟨b,xs,h1,h2,h3⟩:=hr;exact⟨⟨b,xs,by rw[hρ];exact h1,h2,(h.rel h3).ren⟩,λc hc=>by simp only[own]at hc⊢;rw[hρ]at hc;exact hc⟩
 | row e' sz' els'=>
  cases o<;>simp only[Ob.ren,lL]at h;rename_i e sz els;obtain⟨rfl,rfl,rfl⟩:=h;obtain⟨v,xs,h1,h2,h3⟩:=hr;rw[yc]at h2;exact⟨⟨v,xs,by rw[hρ];exact h1,h2,h3.ren⟩,λc hc=>by
   obtain⟨q,e1,e2⟩:=hc;exact⟨q,by rw[←hρ];exact e1,e2⟩⟩
def az(K:Ctx)(pv:List Nat):Prop:=∀id x,K.pin id=some x→id∈pv
def uK(σ pv:List Nat):Bool:=pv.all λi=>match atN σ i with|some j=>Nat.beq i j|none=>false
theorem CI(hH:leH σ H H'.es)(hn:db σ=true)(G:Nat.ble σ.length H'.nx=true)(hr:HRel S w ρ H.get):HRel S w (gP σ ρ) H'.get∧∀j b,own (gP σ ρ) j (H'.get j) b→∃i,atN σ j=some i∧own ρ i (H.get i) b:=by
 have key:∀j,kd S w (gP σ ρ) j (H'.get j)∧∀b,own (gP σ ρ) j (H'.get j) b→∃i,atN σ j=some i∧own ρ i (H.get i) b:=λj=>by
  unfold Hp.get;split
  ·rcases xz hH j with e|⟨i,h1,h2⟩
   ·rw[e];exact⟨trivial,λb hb=>hb.elim⟩
   ·by_cases hg:ay H'.es j=.gone
    ·rw[hg];exact⟨trivial,λb hb=>hb.elim⟩
    ·obtain⟨O,U⟩:=Jw h1 h2 hg (hr.ob i);exact⟨O,λb hb=>⟨i,h1,U b hb⟩⟩
  ·rename_i J;refine⟨?_,λb hb=>hb.elim⟩;show gP σ ρ j=none;have hj:¬j<H'.nx:=λh=>by rw[nlT h]at J;cases J
   have hl:σ.length≤H'.nx:=Nat.le_of_ble_eq_true G;simp only[gP,oX];rw[List.getElem?_eq_none (by omega)]
 refine⟨⟨λj=>(key j).1,λj b hb=>?_,λi j b Z hbj=>?_,hr.slt⟩,λj=>(key j).2⟩
 ·obtain⟨i,_,h⟩:=(key j).2 b hb;exact hr.sep i b h
 ·obtain⟨i',h1,h2⟩:=(key i).2 b Z;obtain⟨j',O,U⟩:=(key j).2 b hbj;have :=hr.dis i' j' b h2 U;subst this;exact tm hn i j i' h1 O
def EP.still:EP→Bool
 |.drw .. =>false
 |_=>true
theorem go_sub{p:EP}(σ pv:List Nat)(Z:p.still=true)(G:az K pv)(hF:leF σ F F')(hH:leH σ H H'.es)(U:(db σ&&Nat.ble σ.length H'.nx&&uK σ pv&&Nat.ble F'.length n)=true)(k:Go P K Q p s n F' H'):Go P K Q p s n F H:=λS w ρ a hr hi hf=>by
 simp only[Bool.and_eq_true]at U;obtain⟨⟨⟨h1,h2⟩,h3⟩,h4⟩:=U;obtain⟨g1,g2⟩:=CI hH h1 h2 hr;have J:Inv K S w (gP σ ρ) H'.get:=⟨hi.chg,hi.s0,hi.s1,λj b hb=>by obtain⟨i,_,h⟩:=g2 j b hb;exact hi.ow i b h,λid x hx=>by
  have O:=List.all_eq_true.1 h3 id (G id x hx);simp only[gP];split at O
  ·rename_i j hj;have :=Nat.eq_of_beq_eq_true O;subst this
   first|exact hi.pin id x hx|(rw[hj];exact hi.pin id x hx)
  ·cases O⟩
 have :=k S w (gP σ ρ) a g1 J (Jo hF (Nat.le_of_ble_eq_true h4) hf);cases p with
 |drw=>cases Z
 |code c=>exact this
 |ops all rest=>exact this
 |ex e=>exact this
def SP(K:Ctx)(Post:V→Hp→Prop)(e:Ending)(w':World):Prop:=
 ∃x S' ρ' v H',e=.returned x∧Post v H'∧HRel S' w' ρ' H'.get∧Inv K S' w' ρ' H'.get∧VRel S' w' ρ' v x
def ln(PL:List Nat)(i:Nat):Ob→Bool
 |.var _ _=>true
 |.ext _ _=>true
 |.mp _ _ _ _=>true
 |.row _ _ _=>PL.contains i
 |_=>false
def tJ(PL:List Nat)(h:Nat→Ob)(ρ:Nat→Option Value):Nat→Option Value:=λi=>match ln PL i (h i)with
 |true=>ρ i
 |false=>none
def bC(PL:List Nat)(P:Program)(fid:FuncId)(vs:List V)(H0:Hp)(Post:V→Hp→Prop):Prop:=
 ∀S w ρ xs,HRel S w ρ H0.get→LRel S w ρ vs xs→Calls P fid xs.toArray w (SP ⟨w,S,λb=>∃id,own ρ id (H0.get id) b,tJ PL H0.get ρ⟩ Post)
abbrev Sum(P:Program)(fid:FuncId)(vs:List V)(H0:Hp)(Post:V→Hp→Prop):Prop:=bC [] P fid vs H0 Post
theorem IS{c:Code}{Post:V→Hp→Prop}(N:Nat)(pv:List Nat)(hf:P.funcs[fid]?=some fn)(hb:fn.body=some c)(J:fn.ntmps=N)(O:Nat.ble vs.length N=true)(G:∀i,ln PL i (H0.get i)=true→i∈pv)
  (k:∀K,az K pv→Go P K (bodyPost P fn (SP K Post)) (.code c) [] N (nd N vs) H0):bC PL P fid vs H0 Post:=λS w ρ xs hr hx=>by
 subst J;have hi:Inv ⟨w,S,λb=>∃id,own ρ id (H0.get id) b,tJ PL H0.get ρ⟩ S w ρ H0.get:=⟨ChgP.refl _ _,λ_ h=>h,λ_ h=>.inl h,λid b hb=>.inl ⟨id,hb⟩,λid x h=>by
  simp only[tJ]at h;split at h
  ·exact h
  ·cases h⟩
 refine yh hf hb O hr hi hx (k _ λid x h=>G id ?_);simp only[tJ]at h;split at h
 ·assumption
 ·cases h
theorem Nj(J:TabOk P T){rs:List ResultVar}{e:Exit}(G:fn.results=rs.toArray)(hv:sD T H.get F rs=some vs)(O:Post (nK vs) H)(U:e=.ret∨e=.normal:=by first|exact .inl rfl|exact .inr rfl):Go P K (bodyPost P fn (SP K Post)) (.ex e) [] n F H:=λS w ρ a hr hi Z=>
 ret_go J U G hr Z hv λx hx=>⟨x,S,ρ,_,H,rfl,O,hr,hi,hx⟩
end
def mD:List Nat→Nat→Option Nat
 |[],_=>none
 |x::r,i=>match Nat.beq x i with
  |true=>some 0
  |false=>match mD r i with
   |some j=>some (j+1)
   |none=>none
theorem jA:∀{l:List Nat} {i j:Nat},mD l i=some j→atN l j=some i
 |[],i,j,h=>by cases h
 | x::r,i,j,h=>by
  simp only[mD]at h;split at h
  ·rename_i hb;have :=Nat.eq_of_beq_eq_true hb;injection h with h;subst h;subst this;rfl
  ·split at h
   ·rename_i j' hj;injection h with h;subst h
    simpa[atN]using jA hj
   ·cases h
theorem Ad:∀{l:List Nat} {i:Nat},mD l i=none→∀j,atN l j≠some i
 |[],i,h,j=>by simp[atN]
 | x::r,i,h,0=>by
  simp only[mD]at h;split at h
  ·cases h
  ·rename_i hb;simp only[atN,ne_eq,Option.some.injEq];exact Nat.ne_of_beq_eq_false hb
 | x::r,i,h,j+1=>by
  simp only[mD]at h;split at h
  ·cases h
  ·split at h
   ·cases h
   ·rename_i hn;simpa[atN]using Ad hn j
theorem Lr{l:List Nat}(G:db l=true)(h:atN l j=some i):mD l i=some j:=by
 cases hi:mD l i with
 |none=>exact absurd h (Ad hi j)
 |some k=>rw[tm G k j i (jA hi) h]
def sgN(PL:List Nat)(nx:Nat)(G:Nat→Ob):Nat→List Nat→Nat→List Nat
 |0,_,_=>[]
 |m+1,σ,j=>match σ with
  |[]=>(nx+j)::sgN PL nx G m [] (j+1)
  |i::r=>(match ln PL j (G j)with|true=>i|false=>nx+j)::sgN PL nx G m r (j+1)
theorem zL(PL:List Nat)(nx:Nat)(G:Nat→Ob):∀(m:Nat) (σ:List Nat) (j:Nat),(sgN PL nx G m σ j).length=m
 |0,_,_=>rfl
 |m+1,[],j=>by simp[sgN,zL PL nx G m]
 |m+1,i::r,j=>by simp[sgN,zL PL nx G m]
theorem Bo(PL:List Nat)(nx:Nat)(G:Nat→Ob):∀(m:Nat) (σ:List Nat) (j k:Nat),k<m→atN (sgN PL nx G m σ j) k=some (match atN σ k,ln PL (j+k) (G (j+k))with|some i,true=>i|_,_=>nx+(j+k))
 |0,_,_,k,h=>by omega
 |m+1,[],j,0,h=>by simp[sgN,atN]
 |m+1,[],j,k+1,h=>by
  have :=Bo PL nx G m [] (j+1) k (by omega);simp only[sgN,atN]at this⊢;rw[this];simp only[show j+1+k=j+(k+1) by omega]
 |m+1,i::r,j,0,h=>by
  simp only[sgN,atN,Nat.add_zero];cases ln PL j (G j)<;>rfl
 |m+1,i::r,j,k+1,h=>by
  have :=Bo PL nx G m r (j+1) k (by omega);simp only[sgN,atN]at this⊢;rw[this];simp only[show j+1+k=j+(k+1) by omega]
def vz(σ:List Nat):List (Nat×Ob)→List (Nat×Ob)
 |[]=>[]
 |(j,o)::r=>match atN σ j with
  |some i=>(i,o.ren σ)::vz σ r
  |none=>vz σ r
def rZ(σ:List Nat)(nx:Nat):List (Nat×Ob)→List (Nat×Ob)
 |[]=>[]
 |(j,o)::r=>match !σ.contains j&&Nat.blt j nx with
  |true=>match o with
   |.free=>(j,.gone)::rZ σ nx r
   |o=>(j,o)::rZ σ nx r
  |false=>rZ σ nx r
def nl(PL:List Nat)(H:Hp)(σ:List Nat)(H0 H':Hp):Hp:=⟨H.nx+H'.nx,vz (sgN PL H.nx H0.get H'.nx σ 0) H'.es++rZ σ H.nx H.es⟩
theorem AA{σ:List Nat}(hn:db σ=true){i:Nat}:∀{l:List (Nat×Ob)},ay (vz σ l) i=match mD σ i with|some j=>(ay l j).ren σ|none=>.gone
 |[]=>by simp only[vz,ay];cases mD σ i<;>rfl
 | (k,o)::r=>by
  have ih:=AA hn (i:=i) (l:=r);simp only[vz];split
  ·rename_i i' hi';simp only[ay];by_cases e:i'=i
   ·subst e;rw[nbT,Lr hn hi'];simp only[nbT]
   ·rw[nbF e,ih];cases hj:mD σ i with
    |none=>rfl
    |some j=>
     have hne:k≠j:=λe'=>by subst e';rw[jA hj]at hi';injection hi' with h;exact e h.symm
     simp only[nbF hne]
  ·rename_i hk;rw[ih];cases hj:mD σ i with
   |none=>rfl
   |some j=>
    have hne:k≠j:=λe'=>by subst e';rw[jA hj]at hk;cases hk
    simp only[ay,nbF hne]
theorem Ax{σ:List Nat}{nx i:Nat}:∀{l:List (Nat×Ob)},ay (rZ σ nx l) i=.gone∨(ay (rZ σ nx l) i=ay l i∧σ.contains i=false∧i<nx∧ay l i≠.free)
 |[]=>.inl rfl
 | (k, o)::r=>by
  have ih:=Ax (σ:=σ) (nx:=nx) (i:=i) (l:=r);simp only[rZ];by_cases hk:k=i
  ·subst hk;cases hc:(!σ.contains k&&Nat.blt k nx)
   ·simp only;left;have key:∀(l:List (Nat×Ob)),ay (rZ σ nx l) k=.gone:=by
     intro l
     induction l with
     |nil=>rfl
     | cons q t ih=>
      obtain⟨m,o'⟩:=q;simp only[rZ];by_cases hm:m=k
      ·subst hm;rw[hc];exact ih
      ·cases hc':(!σ.contains m&&Nat.blt m nx)
       ·exact ih
       ·cases o'<;>(simp only[ay,nbF hm];exact ih)
    exact key r
   ·simp only[Bool.and_eq_true,Bool.not_eq_true']at hc;have hlt:k<nx:=by simpa[Nat.blt_eq]using hc.2
    cases o with
    |free=>left;simp only[ay,nbT]
    |gone=>left;simp only[ay,nbT]
    |var t cs=>right;simp only[ay,nbT];exact⟨trivial,hc.1,hlt,by simp⟩
    |row e sz els=>right;simp only[ay,nbT];exact⟨trivial,hc.1,hlt,by simp⟩
    |ext bs Φ=>right;simp only[ay,nbT];exact⟨trivial,hc.1,hlt,by simp⟩
    |mp kt et ks vs=>right;simp only[ay,nbT];exact⟨trivial,hc.1,hlt,by simp⟩
  ·have e2:ay ((k,o)::r) i=ay r i:=by simp only[ay,nbF hk]
   rw[e2];cases hc:(!σ.contains k&&Nat.blt k nx)
   ·exact ih
   ·cases o<;>(simp only[ay,nbF hk];exact ih)
theorem vq:∀{l:List Nat},(∀i j x,atN l i=some x→atN l j=some x→i=j)→db l=true
 |[],_=>rfl
 | y::r,h=>by
  simp only[db,Bool.and_eq_true,Bool.not_eq_true'];refine⟨?_,vq λi j x hi hj=>by have :=h (i+1) (j+1) x (by simpa[atN]using hi) (by simpa[atN]using hj);omega⟩;cases hc:r.contains y
  ·rfl
  ·exfalso;have hm:y∈r:=by simpa using hc
   obtain⟨k,hk,e⟩:=List.getElem_of_mem hm;have :=h 0 (k+1) y (by simp[atN]) (by simp only[atN,oX];rw[List.getElem?_eq_getElem hk,e]);omega
section
variable{P:Program}{K:Ctx}{H H0:Hp}{σ:List Nat}{S:Nat→Prop}{w:World}
theorem NL{o:Ob}(hσ:∀j x,ρ j=some x→∃i,atN σ j=some i∧ρ' i=some x)(Z:atN σ j=some i)(O:ρ j=none→ρ' i=none∨o≠.free)(h:kd S w ρ j o):kd S w ρ' i (o.ren σ)∧∀b,own ρ' i (o.ren σ) b→own ρ j o b:=by
 have hs:∀x,ρ j=some x→ρ' i=some x:=λx hx=>by
  obtain⟨i',h1,h2⟩:=hσ j x hx;rw[Z]at h1;injection h1 with h1;subst h1;exact h2
 cases o with
 |free=>exact⟨(O h).resolve_right (by simp),λb hb=>hb⟩
 |gone=>exact⟨trivial,λb hb=>hb⟩
 |ext bs Φ=>exact⟨h,λb hb=>hb⟩
 |mp kt et ks vs=>
  obtain⟨b,es,ck,h1,h2,J⟩:=h;refine⟨⟨b,es,ck,hs _ h1,h2,J⟩,λc G=>?_⟩;simp only[Ob.ren,own]at G⊢;rw[hs _ h1]at G;rw[h1];exact G
 |var t cs=>
  obtain⟨b,xs,h1,h2,J⟩:=h;refine⟨⟨b,xs,hs _ h1,h2,J.bwd hσ⟩,λc G=>?_⟩;simp only[Ob.ren,own]at G⊢;rw[hs _ h1]at G;rw[h1];exact G
 |row e sz els=>
  obtain⟨v,xs,h1,h2,J⟩:=h;refine⟨⟨v,xs,hs _ h1,by rw[yc];exact h2,J.bwd hσ⟩,λc G=>?_⟩;obtain⟨q,U,e2⟩:=G;rw[hs _ h1]at U;cases U;exact⟨v,h1,e2⟩
theorem uB(hS:bC PL P fid us H0 Post)(σ:List Nat)(hv:be vs (renL σ us))(hH:leH σ H H0.es)(hc:(db σ&&Nat.beq σ.length H0.nx&&σ.all λi=>Nat.blt i H.nx)=true)(L:List Nat)(hL:(dk H.get L&&L.all λi=>!σ.contains i)=true):
  CallR P K fid vs H L (λv' H''=>∃v H',Post v H'∧v'=v.ren (sgN PL H.nx H0.get H'.nx σ 0)∧H''=nl PL H σ H0 H'):=λS w ρ xs hr hi hx=>by
 simp only[Bool.and_eq_true]at hc hL;obtain⟨⟨hc1,hc2⟩,hc3⟩:=hc;have hlen:σ.length=H0.nx:=by simpa using hc2
 have hσlt:∀j i,atN σ j=some i→i<H.nx:=λj i h=>by
  rw[oX]at h;have :=List.all_eq_true.1 hc3 i (List.mem_of_getElem? h);simpa[Nat.blt_eq]using this
 obtain⟨g1,g2⟩:=CI (H':=H0) hH hc1 (by simp[hlen]) hr;refine(hS S w (gP σ ρ) xs g1 ((hv.rel hx).ren)).mono λe w' hR=>?_;obtain⟨x,S',ρ1,v,H',rfl,hP,hr',hi',hvr⟩:=hR;obtain⟨τ,hτ⟩:∃τ,τ=sgN PL H.nx H0.get H'.nx σ 0:=⟨_,rfl⟩;have hτlen:τ.length=H'.nx:=by rw[hτ];exact zL _ _ _ _ _ _
 have hτat:∀j,j<H'.nx→atN τ j=some (match atN σ j,ln PL j (H0.get j)with|some i,true=>i|_,_=>H.nx+j):=λj hj=>by
  rw[hτ,Bo _ _ _ _ _ _ _ hj];simp only[Nat.zero_add]
 have hτlt:∀j i,atN τ j=some i→j<H'.nx:=λj i h=>by
  rw[oX]at h;have :=(List.getElem?_eq_some_iff.1 h).1;omega
 have hτc:∀j i,atN τ j=some i→(atN σ j=some i∧ln PL j (H0.get j)=true)∨i=H.nx+j:=λj i h=>by
  have hj:=hτlt j i h;rw[hτat j hj]at h;simp only[Option.some.injEq]at h;cases h1:atN σ j with
  |none=>rw[h1]at h;exact .inr h.symm
  |some i1=>
   rw[h1]at h;cases h2:ln PL j (H0.get j)
   ·rw[h2]at h;exact .inr h.symm
   ·rw[h2]at h;simp only at h;subst h;exact .inl ⟨rfl,rfl⟩
 have hτbd:∀j i,atN τ j=some i→i<H.nx+H'.nx:=λj i h=>by
  have hj:=hτlt j i h;rcases hτc j i h with⟨h1,_⟩|h1
  ·have :=hσlt j i h1;omega
  ·omega
 have hτinj:db τ=true:=vq λj k i h1 h2=>by
  rcases hτc j i h1 with⟨a1,_⟩|a1<;>rcases hτc k i h2 with⟨a2,_⟩|a2
  ·exact tm hc1 j k i a1 a2
  ·have :=hσlt j i a1;omega
  ·have :=hσlt k i a2;omega
  ·omega
 have hfreeρ:∀i,H.nx≤i→ρ i=none:=λi hi'=>by
  have :=hr.ob i;have e:H.get i=.free:=by
   unfold Hp.get;have :Nat.blt i H.nx=false:=by cases hb:Nat.blt i H.nx;rfl;simp[Nat.blt_eq]at hb;omega
   rw[this]
  rw[e]at this;exact this
 have hfree1:∀j,H'.nx≤j→ρ1 j=none:=λj hj=>by
  have :=hr'.ob j;have e:H'.get j=.free:=by
   unfold Hp.get;have :Nat.blt j H'.nx=false:=by cases hb:Nat.blt j H'.nx;rfl;simp[Nat.blt_eq]at hb;omega
   rw[this]
  rw[e]at this;exact this
 obtain⟨ρ2,hρ2⟩:∃ρ2:Nat→Option Value,ρ2=λi=>if i<H.nx then ρ i else ρ1 (i-H.nx):=⟨_,rfl⟩
 have hup:∀i y,ρ i=some y→ρ2 i=some y:=λi y h=>by
  by_cases hlt:i<H.nx
  ·rw[hρ2];simp only[hlt,if_true];exact h
  ·rw[hfreeρ i (by omega)]at h;cases h
 have hpin:∀j,ln PL j (H0.get j)=true→∀y,gP σ ρ j=some y→ρ1 j=some y:=λj hv y h=>hi'.pin j y (by simp only[tJ,hv];exact h);have hnoext:∀j i,atN σ j=some i→∀bs Φ,H0.get j=.ext bs Φ→False:=λj i h1 bs Φ hy'=>by
  have hl:=xz hH j;have hlt:j<H0.nx:=by
   rw[←hlen];rw[oX]at h1;exact(List.getElem?_eq_some_iff.1 h1).1
  have e0:H0.get j=ay H0.es j:=by unfold Hp.get;rw[nlT hlt]
  rw[←e0,hy']at hl;rcases hl with hl|⟨i',_,hl⟩
  ·cases hl
  ·cases ho:H.get i'<;>rw[ho]at hl<;>simp[Ob.ren,lL]at hl
 have hτρ:∀j y,ρ1 j=some y→∃i,atN τ j=some i∧ρ2 i=some y:=λj y h=>by
  have hj:j<H'.nx:=by
   rcases Nat.lt_or_ge j H'.nx with h1|h1
   ·exact h1
   ·rw[hfree1 j h1]at h;cases h
  obtain⟨i,hji⟩:∃i,atN τ j=some i:=⟨_,hτat j hj⟩;refine⟨i,hji,?_⟩;rcases hτc j i hji with⟨h1,h2⟩|h1
  ·
   have hob:=g1.ob j;have hsome:∃y',gP σ ρ j=some y'∨∃bs Φ,H0.get j=.ext bs Φ:=by
    cases ho:H0.get j with
    |var t cs=>rw[ho]at hob;obtain⟨b,_,hb,_⟩:=hob;exact⟨_,.inl hb⟩
    |row e sz els=>rw[ho]at hob;obtain⟨b,_,hb,_⟩:=hob;exact⟨_,.inl hb⟩
    |ext bs Φ=>exact⟨.bool true,.inr ⟨bs,Φ,rfl⟩⟩
    |mp kt et ks vs=>rw[ho]at hob;obtain⟨b,_,_,hb,_⟩:=hob;exact⟨_,.inl hb⟩
    |_=>rw[ho]at h2;cases h2
   obtain⟨y',hy'|⟨bs,Φ,hy'⟩⟩:=hsome
   ·have :=hpin j h2 y' hy';rw[h]at this;injection this with this;subst this
    simp only[gP,h1]at hy';exact hup _ _ hy'
   ·exact(hnoext j i h1 bs Φ hy').elim
  ·subst h1;rw[hρ2];simp only[show¬H.nx+j<H.nx by omega,if_false,Nat.add_sub_cancel_left];exact h
 obtain⟨h1',hh1'⟩:∃h1':Nat→Ob,h1'=λi=>match mD τ i with|some j=>(H'.get j).ren τ|none=>if i<H.nx+H'.nx then .gone else .free:=⟨_,rfl⟩
 obtain⟨h1,hh1⟩:∃h1:Nat→Ob,h1=λi=>match σ.contains i with|true=>H.get i|false=>.gone:=⟨_,rfl⟩
 have hin:∀i,h1 i=H.get i∨h1 i=.gone:=λi=>by rw[hh1];simp only[];cases σ.contains i<;>simp
 have hkey:∀i,kd S' w' ρ2 i (h1' i)∧∀b,own ρ2 i (h1' i) b→∃j,mD τ i=some j∧own ρ1 j (H'.get j) b:=λi=>by
  rw[hh1'];simp only[];cases hj:mD τ i with
  | none=>
   simp only[];split
   ·exact⟨trivial,λb hb=>hb.elim⟩
   ·rename_i hlt;refine⟨?_,λb hb=>hb.elim⟩;show ρ2 i=none;rw[hρ2];simp only[show¬i<H.nx by omega,if_false];exact hfree1 _ (by omega)
  | some j=>
   have hat:=jA hj;obtain⟨k1,k2⟩:=NL hτρ hat (λhn=>by
    have hjl:=hτlt j i hat;by_cases hf:H'.get j=.free
    ·left;rcases hτc j i hat with⟨a1,a2⟩|a1
     ·
      have hob:=g1.ob j;exfalso;cases ho:H0.get j with
      |var t cs=>
       rw[ho]at hob;obtain⟨b,_,hb,_⟩:=hob;have :=hpin j a2 _ hb;rw[hn]at this;cases this
      |row e sz els=>
       rw[ho]at hob;obtain⟨b,_,hb,_⟩:=hob;have :=hpin j a2 _ hb;rw[hn]at this;cases this
      |ext bs Φ=>exact hnoext j i a1 bs Φ ho
      |mp kt et ks vs=>
       rw[ho]at hob;obtain⟨b,_,_,hb,_⟩:=hob;have :=hpin j a2 _ hb;rw[hn]at this;cases this
      |_=>rw[ho]at a2;cases a2
     ·subst a1;rw[hρ2];simp only[show¬H.nx+j<H.nx by omega,if_false,Nat.add_sub_cancel_left];exact hn
    ·exact .inr hf) (hr'.ob j)
   exact⟨k1,λb hb=>⟨j,rfl,k2 b hb⟩⟩
 have hX:∀b,(∃id,own (gP σ ρ) id (H0.get id) b)→∃id,own ρ id (h1 id) b:=λb ⟨id,hb⟩=>by
  obtain⟨i,h2,h3⟩:=g2 id b hb;refine⟨i,?_⟩;have hm:σ.contains i=true:=by
   rw[oX]at h2;simpa using List.mem_of_getElem? h2
  rw[hh1];simp only[hm];exact h3
 have hrel1:HRel S' w' ρ2 h1':=⟨λi=>(hkey i).1,λi b hb=>by obtain⟨j,_,h⟩:=(hkey i).2 b hb;exact hr'.sep j b h,λi k b hbi hbk=>by
  obtain⟨j,e1,h1⟩:=(hkey i).2 b hbi;obtain⟨j',e2,h2⟩:=(hkey k).2 b hbk;have :=hr'.dis j j' b h1 h2;subst this;have a1:=jA e1;have a2:=jA e2;rw[a1]at a2;injection a2,hr'.slt⟩
 have hinv1:Inv ⟨w,S,λb=>∃id,own ρ id (h1 id) b,ρ⟩ S' w' ρ2 h1':=⟨hi'.chg.mono hX,hi'.s0,λb hb=>by
  rcases hi'.s1 b hb with h|h|h
  ·exact .inl h
  ·exact .inr (.inl (hX b h))
  ·exact .inr (.inr h),λi b hb=>by
  obtain⟨j,_,h⟩:=(hkey i).2 b hb;rcases hi'.ow j b h with h|h
  ·exact .inl (hX b h)
  ·exact .inr h,λid y h=>hup id y h⟩
 have hh2:∀i,((nl PL H σ H0 H').get i=h1' i∨(nl PL H σ H0 H').get i=.gone)∨((nl PL H σ H0 H').get i=H.get i∧h1 i=.gone∧H.get i≠.free):=λi=>by
  by_cases hlt:i<H.nx+H'.nx
  ·have e0:(nl PL H σ H0 H').get i=ay (vz τ H'.es++rZ σ H.nx H.es) i:=by
    unfold Hp.get nl;simp only[nlT hlt,hτ]
   rw[e0];rcases CA (vz τ H'.es) (rZ σ H.nx H.es) i with e|⟨_,e⟩
   ·rw[e,AA hτinj];cases hj:mD τ i with
    |none=>exact .inl (.inr rfl)
    |some j=>
     left;left;rw[hh1'];simp only[hj];have hjl:=hτlt j i (jA hj);unfold Hp.get;rw[nlT hjl]
   ·rw[e];rcases Ax (σ:=σ) (nx:=H.nx) (i:=i) (l:=H.es)with e1|⟨e1,e2,e3,e4⟩
    ·exact .inl (.inr e1)
    ·right;have eH:H.get i=ay H.es i:=by unfold Hp.get;rw[nlT e3]
     refine⟨by rw[e1,eH],?_,by rw[eH];exact e4⟩;rw[hh1];simp only[e2]
  ·left;left;have e0:(nl PL H σ H0 H').get i=.free:=by
    unfold Hp.get nl;have :Nat.blt i (H.nx+H'.nx)=false:=by cases hb:Nat.blt i (H.nx+H'.nx);rfl;simp[Nat.blt_eq]at hb;omega
    simp only[this]
   rw[e0,hh1'];simp only[];cases hj:mD τ i with
   |none=>simp only[hlt,if_false]
   |some j=>have :=hτbd j i (jA hj);omega
 obtain⟨m1,m2,m3,m4⟩:=Cj (h2:=(nl PL H σ H0 H').get) hr hi hin hrel1 hinv1 hh2;refine⟨x,S',ρ2,_,_,rfl,⟨v,H',hP,rfl,rfl⟩,m1,m2,m3,by rw[←hτ];exact hvr.bwd hτρ,m4 L hL.1 λid hid=>?_⟩;have :=List.all_eq_true.1 hL.2 id hid;simp only[Bool.not_eq_true']at this;rw[hh1];simp only[this]
end
variable{α:Type}
section
variable(T:Tab)
def opS(F:Fm)(H:Hp)(o:Oper)(c:Fm→Hp→Option α):Option α:=
 match oQ T H.get F o.op with
 |some v=>F.puto o.dst (some v) λF'=>c F' H
 |none=>match ms T H.get F H.nx o.op with
  |some (v,ed)=>H.ap ed λH'=>match v with
   |some v=>F.puto o.dst (some v) λF'=>c F' H'
   |none=>F.puto o.dst (some (.tup [])) λF'=>c F' H'
  |none=>none
def il:Nat→EP→List EI→Fm→Hp→Option (EP×List EI×Fm×Hp)
 |0,p,s,F,H=>some (p,s,F,H)
 |k+1,.code c,s,F,H=>match c with
  |.seq x y=>il k (.code x) (.seq y::s) F H
  |.block id c=>il k (.code c) (.blk id::s) F H
  |.skip=>il k (.ex .normal) s F H
  |.ret=>il k (.ex .ret) s F H
  |.exit id=>il k (.ex (.exit id)) s F H
  |.cond c x y=>match aL F c with
   |some (.bool true)=>il k (.code x) s F H
   |some (.bool false)=>il k (.code y) s F H
   |_=>none
  |.region _ ⟨l⟩ false=>il k (.ops ⟨l⟩ l) s F H
  |_=>none
 |k+1,.ops all rest,s,F,H=>match rest with
  |[]=>il k (.ex .normal) s F H
  |o::r=>match bm F all o.guard with
   |some true=>opS T F H o λF' H'=>il k (.ops all r) s F' H'
   |some false=>F.puto o.dst (some (.tup [])) λF'=>il k (.ops all r) s F' H
   |none=>none
 |k +1,.ex e,s,F,H=>match s with
  |[]=>none
  |.seq c::s=>match e with
   |.normal=>il k (.code c) s F H
   |.exit i=>il k (.ex (.exit i)) s F H
   |.ret=>il k (.ex .ret) s F H
   |_=>none
  |.blk id::s=>match e with
   |.normal=>il k (.ex .normal) s F H
   |.exit i=>match Nat.beq i id with
    |true=>il k (.ex .normal) s F H
    |false=>il k (.ex (.exit i)) s F H
   |.ret=>il k (.ex .ret) s F H
   |_=>none
  |_=>none
 |k+1,.drw ..,_,_,_=>none
def oT (all:Array Oper) (L:List Nat):List (Nat×Nat)→Fm→Hp→Option (Fm×Hp)
 |[],F,H=>some (F,H)
 |(i, f)::r,F,H=>match all[i]? with
  |some o=>match bm F all o.guard with
   |some false=>F.puto o.dst (some (.tup [])) λF'=>oT all L r F' H
   |some true=>match f with
    |2=>match oQ T H.get F o.op with
     |some v=>F.puto o.dst (some v) λF'=>oT all L r F' H
     |none=>none
    |3 =>match qd F o.op with
     |some id=>match L.contains id with
      |true=>match ms T H.get F H.nx o.op with
       |some (some v,_)=>F.puto o.dst (some v) λF'=>oT all L r F' H
       |_=>none
      |false=>none
     |none=>none
    |f =>match oQ T H.get F o.op with
     |some v=>F.puto o.dst (some v) λF'=>oT all L r F' H
     |none=>match ms T H.get F H.nx o.op with
      |some (v,ed)=>match(dk H.get L&&ed.clear L)||Nat.beq f 1 with
       |true=>H.ap ed λH'=>match v with
        |some v=>F.puto o.dst (some v) λF'=>oT all L r F' H'
        |none=>F.puto o.dst (some (.tup [])) λF'=>oT all L r F' H'
       |false=>none
      |none=>none
   |none=>none
  |none=>none
end
def BW(all:Array Oper)(m:Nat):List (Nat×Nat)→Array Bool→Bool
 |[],_=>true
 |(i,f)::r,listed=>(match f with
  |2=>!Nat.beq i m&&Region.free .any all listed i&&(Region.ready .any all listed).contains i
  |3=>!Nat.beq i m&&Region.free .any all listed i&&(Region.ready .any all listed).contains i&&mg .any all m i&&!listed.getD m false
  |1=>(match Region.ready .any all listed with|[j]=>Nat.beq i j|_=>false)&&(listed.setIfInBounds i true).getD m false
  |_=>(match Region.ready .any all listed with|[j]=>Nat.beq i j|_=>false))&&BW all m r (listed.setIfInBounds i true)
def FK:List (Nat×Nat)→Array Bool→Array Bool
 |[],l=>l
 |(i,_)::r,l=>FK r (l.setIfInBounds i true)
variable{e:TypeId}{sz:Nat}
variable{els:List V}{ty:TypeId}
section
variable{P:Program}{T:Tab}{K:Ctx}{Q:Exit→Act→World→Prop}{p p':EP}{s s':List EI}{n:Nat}{F F' F1 F2:Fm}{H H' H1:Hp}
theorem MM(G:TabOk P T){rest:List Oper}{o:Oper}{c:Fm→Hp→Option α}{x:α}(J:bm F all o.guard=some true)(h:opS T F H o c=some x):∃F' H',c F' H'=some x∧(Go P K Q (.ops all rest) s n F' H'→Go P K Q (.ops all (o::rest)) s n F H):=by
 unfold opS at h;split at h
 ·rename_i v hv;rw[Fm.puto_eq]at h;exact⟨_,_,h,λk=>go_opP G J hv k⟩
 ·split at h
  ·rename_i v ed hv;rw[Hp.ap_eq]at h;cases v with
   |none=>
    simp only[Fm.puto_eq]at h;exact⟨_,_,h,λk=>go_opE G J hv k⟩
   |some v=>
    simp only[Fm.puto_eq]at h;exact⟨_,_,h,λk=>go_opE G J hv k⟩
  ·cases h
theorem dU(hT:TabOk P T):∀(k:Nat) (p:EP) (s:List EI) (F:Fm) (H:Hp),il T k p s F H=some (p',s',F',H')→Go P K Q p' s' n F' H'→Go P K Q p s n F H
 |0,p,s,F,H,h,kk=>by
  simp only[il,Option.some.injEq,Prod.mk.injEq]at h;obtain⟨rfl,rfl,rfl,rfl⟩:=h;exact kk
 | k+1,.code c,s,F,H,h,kk=>by
  unfold il at h;split at h
  ·exact IU (dU hT k _ _ _ _ h kk)
  ·exact Dt (dU hT k _ _ _ _ h kk)
  ·exact Ed (dU hT k _ _ _ _ h kk)
  ·exact go_ret (dU hT k _ _ _ _ h kk)
  ·exact EY (dU hT k _ _ _ _ h kk)
  ·split at h
   ·exact Bi ‹_› (dU hT k _ _ _ _ h kk)
   ·exact CJ ‹_› (dU hT k _ _ _ _ h kk)
   ·cases h
  ·exact As (dU hT k _ _ _ _ h kk)
  ·cases h
 | k+1,.ops all rest,s,F,H,h,kk=>by
  unfold il at h;split at h
  ·exact Hc (dU hT k _ _ _ _ h kk)
  ·split at h
   ·obtain⟨F1,H1,h1,h2⟩:=MM (P:=P) (K:=K) (Q:=Q) (s:=s) (n:=n) hT ‹_› h;exact h2 (dU hT k _ _ _ _ h1 kk)
   ·rw[Fm.puto_eq]at h;exact II ‹_› (dU hT k _ _ _ _ h kk)
   ·cases h
 | k+1,.ex e,s,F,H,h,kk=>by
  unfold il at h;split at h
  ·cases h
  ·split at h
   ·exact DV (dU hT k _ _ _ _ h kk)
   ·exact Dj (dU hT k _ _ _ _ h kk)
   ·exact Bm (dU hT k _ _ _ _ h kk)
   ·cases h
  ·split at h
   ·exact Cr (dU hT k _ _ _ _ h kk)
   ·split at h
    ·exact CE ‹_› (dU hT k _ _ _ _ h kk)
    ·exact Dr ‹_› (dU hT k _ _ _ _ h kk)
   ·exact BV (dU hT k _ _ _ _ h kk)
   ·cases h
  ·cases h
 |k+1,.drw ..,s,F,H,h,kk=>by simp[il]at h
variable{all:Array Oper}{rest:List Oper}{o:Oper}{L:List Nat}{m fuel:Nat}{listed:Array Bool}
theorem zX(h:(match Region.ready .any all listed with|[j]=>Nat.beq i j|_=>false)=true):Region.ready .any all listed=[i]:=by
 split at h
 ·rename_i j G;rw[G,Nat.eq_of_beq_eq_true h]
 ·cases h
theorem nN (hT:TabOk P T):∀(is:List (Nat×Nat)) (fuel:Nat) (listed:Array Bool) (F:Fm) (H:Hp),BW all m is listed=true→oT T all L is F H=some (F',H')→Go P K Q (.drw all L m fuel (FK is listed)) s n F' H'→Go P K Q (.drw all L m (fuel+is.length) listed) s n F H
 |[],fuel,listed,F,H,hc,hr,k=>by
  simp only[oT,Option.some.injEq,Prod.mk.injEq]at hr;obtain⟨rfl,rfl⟩:=hr;exact k
 | (i, f)::r,fuel,listed,F,H,hc,hr,k=>by
  simp only[BW,Bool.and_eq_true]at hc;obtain⟨hc1,hc2⟩:=hc;show Go P K Q (.drw all L m (fuel+r.length+1) listed) s n F H;unfold oT at hr;split at hr
  ·rename_i o ho;split at hr
   ·rename_i hw;rw[Fm.puto_eq]at hr;have ih:=nN hT r fuel _ _ _ hc2 hr k;have single:(match Region.ready .any all listed with|[j]=>Nat.beq i j|_=>false)=true→Go P K Q (.drw all L m (fuel+r.length+1) listed) s n F H:=λhx=>go_d1S (zX hx) ho hw ih;split at hc1
    ·simp only[Bool.and_eq_true,Bool.not_eq_true']at hc1;exact GI hc1.1.1 ho hc1.1.2 hc1.2 hw ih
    ·simp only[Bool.and_eq_true,Bool.not_eq_true']at hc1;exact GI hc1.1.1.1.1 ho hc1.1.1.1.2 hc1.1.1.2 hw ih
    ·simp only[Bool.and_eq_true]at hc1;exact single hc1.1
    ·exact single hc1
   ·rename_i hw;split at hr
    ·split at hr
     ·rename_i v hv;rw[Fm.puto_eq]at hr;have ih:=nN hT r fuel _ _ _ hc2 hr k;simp only[Bool.and_eq_true,Bool.not_eq_true']at hc1;exact KI hT hc1.1.1 ho hc1.1.2 hc1.2 hw hv ih
     ·cases hr
    ·split at hr
     ·rename_i id hid;split at hr
      ·rename_i hL;split at hr
       ·rename_i v ed hv;rw[Fm.puto_eq]at hr;have ih:=nN hT r fuel _ _ _ hc2 hr k;simp only[Bool.and_eq_true,Bool.not_eq_true']at hc1;exact Gl hT hc1.1.1.1.1 hc1.1.2 hc1.2 ho hc1.1.1.1.2 hc1.1.1.2 hw hid hL hv ih
       ·cases hr
      ·cases hr
     ·cases hr
    ·rename_i h2 h3;have hs:(match Region.ready .any all listed with|[j]=>Nat.beq i j|_=>false)=true∧(Nat.beq f 1=true→(listed.setIfInBounds i true).getD m false=true):=by
      split at hc1
      ·exact absurd rfl h2
      ·exact absurd rfl h3
      ·simp only[Bool.and_eq_true]at hc1;exact⟨hc1.1,λ_=>hc1.2⟩
      ·rename_i h1;exact⟨hc1,λhb=>absurd (Nat.eq_of_beq_eq_true hb) h1⟩
     have hrd:=zX hs.1;split at hr
     ·rename_i v hv;rw[Fm.puto_eq]at hr;have ih:=nN hT r fuel _ _ _ hc2 hr k;exact IQ hrd ho hw (λS w ρ a hr hF=>uO hT hr hF hv) ih
     ·split at hr
      ·rename_i v ed hv;split at hr
       ·rename_i hcl;rw[Hp.ap_eq]at hr;have hcl':((dk H.get L&&ed.clear L)||(listed.setIfInBounds i true).getD m false)=true:=by
         rcases wM hcl with h|h
         ·rw[h];rfl
         ·rw[hs.2 h];simp
        cases v with
        |none=>
         simp only[Fm.puto_eq]at hr;exact Cl hrd ho hw (λS w ρ a hr hF=>wG hT hr hF H.get_free hv) (tf hv) hcl' (nN hT r fuel _ _ _ hc2 hr k)
        |some v=>
         simp only[Fm.puto_eq]at hr;exact Cl hrd ho hw (λS w ρ a hr hF=>wG hT hr hF H.get_free hv) (tf hv) hcl' (nN hT r fuel _ _ _ hc2 hr k)
       ·cases hr
      ·cases hr
   ·cases hr
  ·cases hr
theorem ru{d:Nat}{v O:V}(U:F.get d=some v)(hs:cm v O)(k:Go P K Q p s n (F.set d (some O)) H):Go P K Q p s n F H:=λS w ρ a hr hi J=>by
 refine k S w ρ a hr hi ⟨J.size,J.defers,J.gl,by have :=J.len;simpa using this,λi u G=>?_⟩;rw[Fm.get_eq,List.getElem?_set]at G;split at G
 ·rename_i e;subst e;split at G
  ·simp only[Option.bind_some,id_eq,Option.some.injEq]at G;subst G;obtain⟨x,h1,h2⟩:=J.get d v U;exact⟨x,h1,hs _ _ _ _ h2⟩
  ·cases G
 ·exact J.get i u (by rw[Fm.get_eq];exact G)
theorem gB{e:Bool}(d:Nat)(J:F.get d=some (.bool e))(h1:F.put d (some (.bool true)) id=F1)(h2:F.put d (some (.bool false)) id=F2)(kT:e=true→Go P K Q p s n F1 H)(kF:e=false→Go P K Q p s n F2 H):Go P K Q p s n F H:=by
 rw[Fm.put_eq]at h1 h2;subst h1 h2;cases G:e with
 |true=>exact ru J (by rw[G];exact cm.rfl) (kT G)
 |false=>exact ru J (by rw[G];exact cm.rfl) (kF G)
theorem gT{e:Bool}(d:Nat)(G:F.get d=some (.bool e))(J:e=true)(h1:F.put d (some (.bool true)) id=F1)(k:Go P K Q p s n F1 H):Go P K Q p s n F H:=by
 rw[Fm.put_eq]at h1;subst h1;exact ru G (by rw[J];exact cm.rfl) k
theorem gF{e:Bool}(d:Nat)(G:F.get d=some (.bool e))(J:e=false)(h1:F.put d (some (.bool false)) id=F1)(k:Go P K Q p s n F1 H):Go P K Q p s n F H:=by
 rw[Fm.put_eq]at h1;subst h1;exact ru G (by rw[J];exact cm.rfl) k
theorem gV{v:V}(d:Nat)(G:V)(J:F.get d=some v)(O:v=G)(h1:F.put d (some G) id=F1)(k:Go P K Q p s n F1 H):Go P K Q p s n F H:=by
 rw[Fm.put_eq]at h1;subst h1;exact ru J (by rw[O];exact cm.rfl) k
theorem al{m l:Int}(h:-9223372036854775808≤m∧m≤9223372036854775807)(e:m=l):V.int .i64 (IntKind.i64.wrap m)=.int .i64 l:=by
 subst e;rw[IntWalk.i64_in _ (by omega)]
def slT(T:Tab)(t:TypeId):Option (TypeId×Nat):=match T.ty t with
 |some ⟨_,_,_,.sl e⟩=>match T.ty e with
  |some ⟨sz,_,_,_⟩=>some (e,sz)
  |none=>none
 |_=>none
theorem oI(G:TabOk P T)(h:slT T t=some (e,sz)):P.underlying t=some (.slice e)∧dt P e=some sz:=by
 unfold slT at h;split at h
 ·rename_i ht;split at h
  ·rename_i J;simp only[Option.some.injEq,Prod.mk.injEq]at h;obtain⟨rfl,rfl⟩:=h;exact⟨(G.ty _ _ ht).sl rfl,(G.ty _ _ J).size⟩
  ·cases h
 ·cases h
theorem yIR(J:TabOk P T){y:Operand}{v:V}(ht:slT T t=some (e,sz))(hx:aL F x=some (.row sz els))(hy:aL F y=some (.int .i64 (i:Int)))(hi:els[i]?=some v):∀S w ρ a,HRel S w ρ H.get→FRel S w ρ a n F→Yld P S w ρ a ty (.indexAddr t x y) (.box v.cells 0):=λS w ρ a hr G=>
 p_idxR G.fr (oI J ht).1 (oI J ht).2 (ao G hx) (ao G hy) hi
theorem yIO(J:TabOk P T){O:TypeId}{y:Operand}{id:Nat}(ht:slT T t=some (e,sz))(hx:aL F x=some (.sl id))(U:H.get id=.row O sz els)(hy:aL F y=some (.int .i64 (i:Int)))(hi:i<els.length):∀S w ρ a,HRel S w ρ H.get→FRel S w ρ a n F→Yld P S w ρ a ty (.indexAddr t x y) (.el id sz i 0):=λS w ρ a hr G=>
 p_idxO hr U G.fr (oI J ht).1 (oI J ht).2 (ao G hx) (ao G hy) hi
theorem gY{v:V}(hy:∀S w ρ a,HRel S w ρ H.get→FRel S w ρ a n F→Yld P S w ρ a o.type o.op v)(G:bm F all o.guard=some true)(h1:F.puto o.dst (some v) id=F1)(k:Go P K Q (.ops all rest) s n F1 H):Go P K Q (.ops all (o::rest)) s n F H:=by
 rw[Fm.puto_eq]at h1;subst h1;exact go_opY G hy k
mutual
def mapV(f:V→V):V→V
 |.agg cs=>.agg (mapVs f cs)
 |.tup cs=>.tup (mapVs f cs)
 |.clo fid cs=>.clo fid (mapVs f cs)
 |.sl j=>f (.sl j)
 |.int k n=>f (.int k n)
 |.bool b=>f (.bool b)
 |.str l=>f (.str l)
 |.nilp=>f .nilp
 |.nils=>f .nils
 |.raw x=>f (.raw x)
 |.ptr i o=>f (.ptr i o)
 |.el i sz j o=>f (.el i sz j o)
 |.box cs o=>f (.box cs o)
 |.row sz els=>f (.row sz els)
 |.lk els=>f (.lk els)
 |.np i=>f (.np i)
def mapVs(f:V→V):List V→List V
 |[]=>[]
 |v::r=>mapV f v::mapVs f r
end
mutual
theorem VRel.mapV{S S':Nat→Prop}{w:World}{ρ:Nat→Option Value}{f:V→V}(hf:∀v x,VRel S w ρ v x→VRel S' w ρ (f v) x):∀{v:V} {x:Value},VRel S w ρ v x→VRel S' w ρ (mapV f v) x
 |.int _ _,x,h=>by simp only[Go.Proofs.YtomplbgchbfjpaaGreatDoor.mapV];exact hf _ _ h
 |.bool _,x,h=>by simp only[Go.Proofs.YtomplbgchbfjpaaGreatDoor.mapV];exact hf _ _ h
 |.str _,x,h=>by simp only[Go.Proofs.YtomplbgchbfjpaaGreatDoor.mapV];exact hf _ _ h
 |.nilp,x,h=>by simp only[Go.Proofs.YtomplbgchbfjpaaGreatDoor.mapV];exact hf _ _ h
 |.nils,x,h=>by simp only[Go.Proofs.YtomplbgchbfjpaaGreatDoor.mapV];exact hf _ _ h
 |.raw _,x,h=>by simp only[Go.Proofs.YtomplbgchbfjpaaGreatDoor.mapV];exact hf _ _ h
 |.box _ _,x,h=>by simp only[Go.Proofs.YtomplbgchbfjpaaGreatDoor.mapV];exact hf _ _ h
 |.row _ _,x,h=>by simp only[Go.Proofs.YtomplbgchbfjpaaGreatDoor.mapV];exact hf _ _ h
 |.lk _,x,h=>by simp only[Go.Proofs.YtomplbgchbfjpaaGreatDoor.mapV];exact hf _ _ h
 |.ptr _ _,x,h=>by simp only[Go.Proofs.YtomplbgchbfjpaaGreatDoor.mapV];exact hf _ _ h
 |.el _ _ _ _,x,h=>by simp only[Go.Proofs.YtomplbgchbfjpaaGreatDoor.mapV];exact hf _ _ h
 |.sl j,x,h=>by simp only[Go.Proofs.YtomplbgchbfjpaaGreatDoor.mapV];exact hf _ _ h
 |.np j,x,h=>by simp only[Go.Proofs.YtomplbgchbfjpaaGreatDoor.mapV];exact hf _ _ h
 |.agg cs,x,h=>by
  simp only[Go.Proofs.YtomplbgchbfjpaaGreatDoor.mapV,VRel]at h⊢;obtain⟨xs,h1,h2⟩:=h;exact⟨xs,h1,LRel.mapV hf h2⟩
 |.tup cs,x,h=>by
  simp only[Go.Proofs.YtomplbgchbfjpaaGreatDoor.mapV,VRel]at h⊢;obtain⟨xs,h1,h2⟩:=h;exact⟨xs,h1,LRel.mapV hf h2⟩
 |.clo fid cs,x,h=>by
  simp only[Go.Proofs.YtomplbgchbfjpaaGreatDoor.mapV,VRel]at h⊢;obtain⟨xs,h1,h2⟩:=h;exact⟨xs,h1,LRel.mapV hf h2⟩
theorem LRel.mapV{S S':Nat→Prop}{w:World}{ρ:Nat→Option Value}{f:V→V}(hf:∀v x,VRel S w ρ v x→VRel S' w ρ (f v) x):∀{v:List V} {x:List Value},LRel S w ρ v x→LRel S' w ρ (mapVs f v) x
 |[],x,h=>by simp only[mapVs,LRel]at h⊢;exact h
 |v::r,x,h=>by
  simp only[mapVs,LRel]at h⊢;obtain⟨y,ys,h1,h2,h3⟩:=h;exact⟨y,ys,h1,VRel.mapV hf h2,LRel.mapV hf h3⟩
end
def ox(f:V→V):Fm→Fm
 |[]=>[]
 |none::r=>none::ox f r
 |some v::r=>some (mapV f v)::ox f r
theorem yd{f:V→V}:∀(F:Fm) (i:Nat),(ox f F).get i=(F.get i).map (mapV f)
 |[],i=>by simp[ox,Fm.get]
 |none::r,0=>by simp[ox,Fm.get]
 |some v::r,0=>by simp[ox,Fm.get]
 |none::r,i+1=>by simp[ox,Fm.get,yd r i]
 |some v::r,i+1=>by simp[ox,Fm.get,yd r i]
theorem yt{f:V→V}:∀(F:Fm),(ox f F).length=F.length
 |[]=>rfl
 |none::r=>by simp[ox,yt r]
 |some v::r=>by simp[ox,yt r]
def oy(f:V→V)(id:Nat):List (Nat×Ob)→List (Nat×Ob)
 |[]=>[]
 |(j,o)::r=>match Nat.beq j id with
  |true=>oy f id r
  |false=>match o with
   |.var t cs=>(j,.var t (mapVs f cs))::oy f id r
   |o=>(j,o)::oy f id r
theorem vI{f:V→V}{id i:Nat}:∀{l:List (Nat×Ob)},ay (oy f id l) i=if i=id then .gone else match ay l i with|.var t cs=>.var t (mapVs f cs)|o=>o
 |[]=>by simp[oy,ay]
 | (j,o)::r=>by
  have ih:=vI (f:=f) (id:=id) (i:=i) (l:=r);simp only[oy];by_cases hj:j=id
  ·subst hj;rw[nbT];simp only[];rw[ih];by_cases hi:i=j
   ·simp[hi]
   ·rw[if_neg hi,if_neg hi];simp only[ay,nbF (Ne.symm hi)]
  ·rw[nbF hj];simp only[];by_cases hi:j=i
   ·subst hi;rw[if_neg hj];cases o<;>simp only[ay,nbT]
   ·have e2:ay ((j,o)::r) i=ay r i:=by simp only[ay,nbF hi]
    rw[e2,←ih];cases o<;>simp only[ay,nbF hi]
theorem go_frz{f:V→V}{id:Nat}(hid:H.get id≠.free)(hf:∀S w ρ,HRel S w ρ H.get→∀v x,VRel S w ρ v x→VRel (λb=>S b∨own ρ id (H.get id) b) w ρ (f v) x)(h1:ox f F=F1)(h2:(⟨H.nx,oy f id H.es⟩:Hp)=H1)(k:Go P K Q p s n F1 H1):Go P K Q p s n F H:=λS w ρ a hr hi U=>by
 subst h1 h2;obtain⟨g1,g2⟩:=fV (id:=id) hr;have hlt:id<H.nx:=by
  rcases Nat.lt_or_ge id H.nx with h|h
  ·exact h
  ·exfalso;apply hid;unfold Hp.get;have :Nat.blt id H.nx=false:=by cases hb:Nat.blt id H.nx;rfl;simp[Nat.blt_eq]at hb;omega
   rw[this]
 have hg:∀i,(⟨H.nx,oy f id H.es⟩:Hp).get i=if i=id then .gone else match H.get i with|.var t cs=>.var t (mapVs f cs)|o=>o:=λi=>by
  unfold Hp.get;by_cases hi:i=id
  ·subst hi;simp only[nlT hlt,if_true,vI]
  ·simp only[if_neg hi];cases hb:Nat.blt i H.nx
   ·rfl
   ·simp only[vI,if_neg hi]
 have Z:∀i,i≠id→own ρ i ((⟨H.nx,oy f id H.es⟩:Hp).get i)=own ρ i (H.get i):=λi G=>by
  rw[hg i,if_neg G];cases H.get i<;>rfl
 have hhr:HRel (λb=>S b∨own ρ id (H.get id) b) w ρ (⟨H.nx,oy f id H.es⟩:Hp).get:=by
  have O:∀i b,own ρ i ((⟨H.nx,oy f id H.es⟩:Hp).get i) b→i≠id∧own ρ i (H.get i) b:=λi b hb=>by
   by_cases G:i=id
   ·subst G;rw[hg i,if_pos rfl]at hb;exact hb.elim
   ·rw[Z i G]at hb;exact⟨G,hb⟩
  refine⟨λi=>?_,λi b hb=>?_,λi j b hbi hbj=>hr.dis i j b (O i b hbi).2 (O j b hbj).2,g1.slt⟩
  ·rw[hg i];by_cases G:i=id
   ·rw[if_pos G];trivial
   ·rw[if_neg G];have J:=g1.ob i;rw[de _ _ G]at J;have h1:=hr.ob i;cases ho:H.get i with
    |var t cs=>
     rw[ho]at h1;obtain⟨b,xs,q1,q2,q3⟩:=h1;exact⟨b,xs,q1,q2,q3.mapV (hf S w ρ hr)⟩
    |_=>rw[ho]at J;exact J
  ·have :=O i b hb;exact g1.sep i b (by rw[de _ _ this.1];exact this.2)
 have G:Inv K (λb=>S b∨own ρ id (H.get id) b) w ρ (⟨H.nx,oy f id H.es⟩:Hp).get:=by
  have J:=hi.frz hr id;refine⟨J.chg,J.s0,J.s1,λi b hb=>?_,J.pin⟩;by_cases G:i=id
  ·subst G;rw[hg i,if_pos rfl]at hb;exact hb.elim
  ·rw[Z i G]at hb;exact hi.ow i b hb
 have :=k _ w ρ a hhr G ⟨U.size,U.defers,λp hp=>(U.gl p hp).up (fV (id:=id) hr).2.z,by rw[yt];exact U.len,λi u hu=>by
  rw[yd]at hu;obtain⟨v,h3,h4⟩:=Option.map_eq_some_iff.1 hu;obtain⟨x,h5,h6⟩:=U.get i v h3;exact⟨x,h5,by rw[←h4];exact h6.mapV (hf S w ρ hr)⟩⟩
 cases p with
 |drw all L m left listed=>exact λhs=>xT (uv (λb hb=>.inl hb) Agree.refl) (λx _ h=>h) _ _ _ _ (this hs)
 |code c=>exact this
 |ops all rest=>exact this
 |ex e=>exact this
def fzR(id sz:Nat)(els:List V):V→V
 |.sl j=>match Nat.beq j id with
  |true=>.row sz els
  |false=>.sl j
 |v=>v
def fzP(id:Nat)(cs:List V):V→V
 |.ptr j o=>match Nat.beq j id with
  |true=>.box cs o
  |false=>.ptr j o
 |v=>v
theorem gFR(id:Nat)(J:H.get id=.row e sz els)(G:pureL els=true)(h1:ox (fzR id sz els) F=F1)(h2:(⟨H.nx,oy (fzR id sz els) id H.es⟩:Hp)=H1)(k:Go P K Q p s n F1 H1):Go P K Q p s n F H:=
 go_frz (f:=fzR id sz els) (by rw[J];simp) (λS w ρ hr v x hx=>by
  unfold fzR;split
  ·split
   ·rename_i hb;have :=Nat.eq_of_beq_eq_true hb;subst this;exact rn hr J G hx
   ·exact hx.up (fV hr).2
  ·exact hx.up (fV hr).2) h1 h2 k
theorem gFP(id:Nat)(J:H.get id=.var t cs)(G:pureL cs=true)(h1:ox (fzP id cs) F=F1)(h2:(⟨H.nx,oy (fzP id cs) id H.es⟩:Hp)=H1)(k:Go P K Q p s n F1 H1):Go P K Q p s n F H:=
 go_frz (f:=fzP id cs) (by rw[J];simp) (λS w ρ hr v x hx=>by
  unfold fzP;split
  ·split
   ·rename_i hb;have :=Nat.eq_of_beq_eq_true hb;subst this;exact Ga hr J G hx
   ·exact hx.up (fV hr).2
  ·exact hx.up (fV hr).2) h1 h2 k
def At(K:Ctx)(n:Nat)(F:Fm)(H:Hp)(a:Act)(w:World):Prop:=∃S ρ,HRel S w ρ H.get∧Inv K S w ρ H.get∧FRel S w ρ a n F
def mkF:Nat→Nat→List (Nat×V)→Fm
 |0,_,_=>[]
 |n+1,i,[]=>none::mkF n (i+1) []
 |n+1,i,(j,v)::r=>match Nat.beq i j with
  |true=>some v::mkF n (i+1) r
  |false=>none::mkF n (i+1) ((j,v)::r)
end
mutual
def vEq:V→V→Bool
 |.int k n,v=>match v with
  |.int k' n'=>kEq k k'&&iEq n n'
  |_=>false
 |.bool b,v=>match v with
  |.bool c=>b==c
  |_=>false
 |.str l,v=>match v with
  |.str l'=>lEq l l'
  |_=>false
 |.nilp,v=>match v with
  |.nilp=>true
  |_=>false
 |.nils,v=>match v with
  |.nils=>true
  |_=>false
 |.ptr i o,v=>match v with
  |.ptr j p=>Nat.beq i j&&Nat.beq o p
  |_=>false
 |.el i z k o,v=>match v with
  |.el i' z' k' o'=>Nat.beq i i'&&Nat.beq z z'&&Nat.beq k k'&&Nat.beq o o'
  |_=>false
 |.sl i,v=>match v with
  |.sl j=>Nat.beq i j
  |_=>false
 |.np i,v=>match v with
  |.np j=>Nat.beq i j
  |_=>false
 |.row z cs,v=>match v with
  |.row z' cs'=>Nat.beq z z'&&vEqL cs cs'
  |_=>false
 |.agg cs,v=>match v with
  |.agg cs'=>vEqL cs cs'
  |_=>false
 |.tup cs,v=>match v with
  |.tup cs'=>vEqL cs cs'
  |_=>false
 |.raw _,_=>false
 |.box _ _,_=>false
 |.clo _ _,_=>false
 |.lk _,_=>false
def vEqL:List V→List V→Bool
 |[],vs=>match vs with
  |[]=>true
  |_::_=>false
 |v::r,vs=>match vs with
  |u::q=>vEq v u&&vEqL r q
  |[]=>false
end
mutual
theorem vEq_eq:∀{v u:V},vEq v u=true→v=u
 | .int k n,u,h=>by
  unfold vEq at h;split at h
  ·rename_i k' n';simp only[Bool.and_eq_true,vM,beq_iff_eq]at h;obtain⟨h1,h2⟩:=h;have :k=k':=by
    unfold kEq at h1;split at h1<;>first|rfl|cases h1
   rw[this,h2]
  ·cases h
 |.bool b,u,h=>by
  unfold vEq at h;split at h
  ·rw[beq_iff_eq]at h;rw[h]
  ·cases h
 |.str l,u,h=>by
  unfold vEq at h;split at h
  ·rw[tT,beq_iff_eq]at h;rw[h]
  ·cases h
 |.nilp,u,h=>by
  unfold vEq at h;split at h
  ·rfl
  ·cases h
 |.nils,u,h=>by
  unfold vEq at h;split at h
  ·rfl
  ·cases h
 | .ptr i o,u,h=>by
  unfold vEq at h;split at h
  ·simp only[Bool.and_eq_true,Nat.beq_eq]at h;obtain⟨rfl,rfl⟩:=h;rfl
  ·cases h
 | .el i z k o,u,h=>by
  unfold vEq at h;split at h
  ·simp only[Bool.and_eq_true,Nat.beq_eq]at h;obtain⟨⟨⟨rfl,rfl⟩,rfl⟩,rfl⟩:=h;rfl
  ·cases h
 |.sl i,u,h=>by
  unfold vEq at h;split at h
  ·rw[Nat.beq_eq]at h;rw[h]
  ·cases h
 |.np i,u,h=>by
  unfold vEq at h;split at h
  ·rw[Nat.beq_eq]at h;rw[h]
  ·cases h
 | .row z cs,u,h=>by
  unfold vEq at h;split at h
  ·simp only[Bool.and_eq_true,Nat.beq_eq]at h;obtain⟨rfl,h2⟩:=h;rw[vEqL_eq h2]
  ·cases h
 |.agg cs,u,h=>by
  unfold vEq at h;split at h
  ·rw[vEqL_eq h]
  ·cases h
 |.tup cs,u,h=>by
  unfold vEq at h;split at h
  ·rw[vEqL_eq h]
  ·cases h
 |.raw _,u,h=>by unfold vEq at h;cases h
 |.box _ _,u,h=>by unfold vEq at h;cases h
 |.clo _ _,u,h=>by unfold vEq at h;cases h
 |.lk _,u,h=>by unfold vEq at h;cases h
theorem vEqL_eq:∀{v u:List V},vEqL v u=true→v=u
 |[],u,h=>by
  unfold vEqL at h;split at h
  ·rfl
  ·cases h
 | v::r,u,h=>by
  unfold vEqL at h;split at h
  ·simp only[Bool.and_eq_true]at h;rw[vEq_eq h.1,vEqL_eq h.2]
  ·cases h
end
def fmB (σ:List Nat):Fm→Fm→Bool
 |[],F'=>match F' with
  |[]=>true
  |_::_=>false
 |x ::r,F'=>match F' with
  |[]=>false
  |y::r'=>(match y with
   |none=>true
   |some u=>match x with
    |some v=>vEq v (u.ren σ)
    |none=>false)&&fmB σ r r'
theorem GX{σ:List Nat}:∀{F F':Fm},fmB σ F F'=true→leF σ F F'∧F.length=F'.length
 |[],F',h=>by
  unfold fmB at h;split at h
  ·simp[leF]
  ·cases h
 | x ::r,F',h=>by
  unfold fmB at h;split at h
  ·cases h
  ·rename_i y r';simp only[Bool.and_eq_true]at h;obtain⟨h1,h2⟩:=h;obtain⟨g1,g2⟩:=GX h2;refine⟨?_,by simp[g2]⟩;cases y with
   |none=>simp only[leF];exact g1
   | some u=>
    simp only at h1;split at h1
    ·rename_i v;simp only[leF];exact⟨⟨v,rfl,cm.of_eq (vEq_eq h1)⟩,g1⟩
    ·cases h1
theorem be.of_eq{v u:List V}(h:v=u):be v u:=h▸be.rfl
def obB(o:Ob):Ob→Bool
 |.gone=>true
 |.var t cs=>match o with
  |.var G cs'=>Nat.beq G t&&vEqL cs' cs
  |_=>false
 |.row e z els=>match o with
  |.row J O els'=>Nat.beq J e&&Nat.beq O z&&vEqL els' els
  |_=>false
 |_=>false
theorem NT{o:Ob}(h:obB o o'=true):lL o o':=by
 unfold obB at h;split at h
 ·cases o<;>simp[lL]
 ·split at h
  ·simp only[Bool.and_eq_true,Nat.beq_eq]at h;obtain⟨rfl,h2⟩:=h;exact⟨rfl,be.of_eq (vEqL_eq h2)⟩
  ·cases h
 ·split at h
  ·simp only[Bool.and_eq_true,Nat.beq_eq]at h;obtain⟨⟨rfl,rfl⟩,h2⟩:=h;exact⟨rfl,rfl,vEqL_eq h2⟩
  ·cases h
 ·cases h
def hpB(σ:List Nat)(H:Hp):List (Nat×Ob)→Bool
 |[]=>true
 |(j,o)::r=>(match atN σ j with
  |some i=>obB (H.get i) (o.ren σ)
  |none=>false)&&hpB σ H r
theorem Io{σ:List Nat}{H:Hp}:∀{l:List (Nat×Ob)},hpB σ H l=true→leH σ H l
 |[],_=>by simp[leH]
 | (j,o)::r,h=>by
  simp only[hpB,Bool.and_eq_true]at h;obtain⟨h1,h2⟩:=h;simp only[leH];refine⟨?_,Io h2⟩;split at h1
  ·rename_i i hi;exact⟨i,hi,NT h1⟩
  ·cases h1
def OE(k i:Nat):Nat:=match Nat.beq i k with
 |true=>k+1
 |false=>match Nat.beq i (k+1)with
  |true=>k
  |false=>i
def Ko(k:Nat):Nat→List Nat→List Nat
 |0,acc=>acc
 |n+1,acc=>iG (OE k n) λx=>Ko k n (x::acc)
def BF(k:Nat)(F:Fm)(H:Hp)(F':Fm)(H':Hp):Bool:=
 listK (Ko k H'.nx []) λσ=>fmB σ F F'&&hpB σ H H'.es&&(db σ&&Nat.ble σ.length H'.nx&&uK σ (List.range k))
variable{P:Program}{k:Nat}
theorem go_alike{K:Ctx}{Q:Exit→Act→World→Prop}{s:List EI}{n:Nat}{F F':Fm}{H':Hp}{e:Exit}(h:BF k F H F' H'=true)(G:∀id x,K.pin id=some x→id<k)(c:Go P K Q (.ex e) s n F' H'):Go P K Q (.ex e) s n F H:=λS w ρ a hr hi hf=>by
 unfold BF at h;rw[ds]at h;simp only[Bool.and_eq_true]at h;obtain⟨⟨h1,h2⟩,⟨J,O⟩,U⟩:=h;obtain⟨Z,g2⟩:=GX h1;refine go_sub _ (List.range k) rfl (λid x h=>List.mem_range.2 (G id x h)) Z (Io h2) ?_ c S w ρ a hr hi hf;simp only[Bool.and_eq_true];exact⟨⟨⟨J,O⟩,U⟩,by rw[←g2];exact Nat.ble_eq_true_of_le hf.len⟩
inductive Rs where
 |ok (e:Bool) (F:Fm) (H:Hp)
 |pt (p:EP) (s:List EI) (F:Fm) (H:Hp)
 |er (n m:Nat)
def Nn:V→List Nat→List Nat
 |.ptr id _,acc=>id::acc
 |.el id _ _ _,acc=>id::acc
 |.sl id,acc=>id::acc
 |_,acc=>acc
def JV:List V→List Nat→List Nat
 |[],acc=>acc
 |v::r,acc=>JV r (Nn v acc)
def Nt:V→List Nat→List Nat
 |.agg cs,acc=>JV cs acc
 |v,acc=>Nn v acc
def uV:List V→List Nat→List Nat
 |[],acc=>acc
 |.tup vs::r,acc=>uV r (vs.foldl (λacc v=>Nt v acc) acc)
 |v::r,acc=>uV r (Nt v acc)
def lj(i:Nat):List Nat→Bool
 |[]=>false
 |j::r=>match Nat.beq i j with
  |true=>true
  |false=>lj i r
def ql(H:Hp):Nat→List Nat→List Nat→List Nat
 |0,_,acc=>acc
 |_+1,[],acc=>acc
 |n+1,id::r,acc=>match lj id acc with
  |true=>ql H n r acc
  |false=>match H.get id with
   |.var _ cs=>ql H n (JV cs r) (id::acc)
   |_=>ql H n r (id::acc)
def wL{α:Type}(R:List Nat):List (Nat×Ob)→(List (Nat×Ob)→α)→α
 |[],c=>c []
 |(i,o)::r,c=>match lj i R with
  |true=>wL R r λG=>c ((i,o)::G)
  |false=>wL R r c
def uU{α:Type}(nx:Nat)(R:List Nat):List (Nat×Ob)→(List (Nat×Ob)→α)→α
 |[],c=>c []
 |(i,o)::r,c=>match !lj i R&&Nat.blt i nx with
  |true=>match o with
   |.free=>uU nx R r λG=>c ((i,.gone)::G)
   |o=>uU nx R r λG=>c ((i,o)::G)
  |false=>uU nx R r c
def Gy {α:Type} (lo:Nat) (H:Hp) (v:V) (c:V→Hp→α):α:=match v with
 |.sl id=>match Nat.ble lo id with
  |true=>match H.get id with
   |.row _ sz els=>match pureL els with
    |true=>zO id H.es λes=>c (.row sz els) ⟨H.nx,es⟩
    |false=>c v H
   |_=>c v H
  |false=>c v H
 |_=>c v H
def Fo{α:Type}(lo:Nat)(H:Hp):List V→(List V→Hp→α)→α
 |[],c=>c [] H
 |v::r,c=>Gy lo H v λG H'=>Fo lo H' r λJ H''=>c (G::J) H''
def Jq(lo:Nat)(H:Hp)(v:V)(c:V→Hp→α):α:=match v with
 |.agg cs=>Fo lo H cs λcs H'=>c (.agg cs) H'
 |v=>Gy lo H v c
def Ck{α:Type}(lo:Nat)(H:Hp):List V→(List V→Hp→α)→α
 |[],c=>c [] H
 |v::r,c=>Jq lo H v λG H'=>Ck lo H' r λJ H''=>c (G::J) H''
def IR(H:Hp):List Nat→Bool
 |[]=>false
 |i::r=>match H.get i with
  |.row _ _ _=>true
  |_=>IR H r
def Le(o:Oper):Bool:=match o.op with
 |.store .. =>true
 |_=>false
def MB(o:Oper):Bool:=match o.op with
 |.alloc .. =>false
 |.box .. =>false
 |.store .. =>false
 |.buildSlice .. =>false
 |.makeSlice .. =>false
 |.call ⟨.builtin .len,_,_⟩=>true
 |.call ⟨.builtin .max,_,_⟩=>true
 |.call .. =>false
 |_=>true
def EN:Nat→List Oper→Nat
 |i,[]=>i
 |i,o::r=>match Le o with
  |true=>i
  |false=>EN (i+1) r
def vY (T:Tab) (H:Hp) (all:Array Oper):List Oper→Fm→List Nat→List Nat→List Nat
 |[],_,rd,cl=>rd.filter λi=>!lj i cl
 |o ::r,F,rd,cl=>match bm F all o.guard with
  |some false=>F.puto o.dst (some (.tup [])) λF'=>vY T H all r F' rd cl
  |_ =>match oQ T H.get F o.op with
   |some v=>F.puto o.dst (some v) λF'=>vY T H all r F' rd cl
   |none=>match qd F o.op with
    |some id=>match ms T H.get F H.nx o.op with
     |some (v,_)=>F.puto o.dst v λF'=>vY T H all r F' (match lj id rd with|true=>rd|false=>id::rd) cl
     |none=>F.puto o.dst none λF'=>vY T H all r F' rd cl
    |none=>match o.op with
     |.call ⟨.value (.func _),⟨args⟩,_⟩=>match gc F args with
      |some vs=>F.puto o.dst none λF'=>vY T H all r F' rd (ql H 40 (uV vs []) cl)
      |none=>F.puto o.dst none λF'=>vY T H all r F' rd cl
     |_=>F.puto o.dst none λF'=>vY T H all r F' rd cl
def yJ (F:Fm) (all:Array Oper) (L:List Nat) (m:Nat) (listed:Array Bool):List Nat→Option Nat
 |[]=>none
 |i ::r=>match all[i]? with
  |some o=>match Nat.beq i m with
   |true=>yJ F all L m listed r
   |false=>match MB o with
    |true=>match Region.free .any all listed i with
     |true=>some i
     |false=>yJ F all L m listed r
    |false=>yJ F all L m listed r
  |none=>none
section
variable(T:Tab)(ih:EP→List EI→Fm→Hp→Rs)
def GJ (keep:Bool) (vs:List V) (fn:Func) (b:Code) (H:Hp) (L:List Nat) (ok:Bool) (c:V→Hp→Rs):Rs:=
 match ql H 40 (uV vs []) []with
 |R => match(dk H.get L&&L.all λi=>!lj i R)||ok with
  |true=>wL R H.es λes1=>match ih (.code b) [] (nd fn.ntmps vs) ⟨H.nx,es1⟩with
   |.ok _ F1 H1=>match sD T H1.get F1 fn.results.toList with
    |some rs=>match Nat.ble H.nx H1.nx with
     |true=>match keep||IR H R with
      |true=>uU H.nx R H.es λes2=>c (nK rs) ⟨H1.nx,H1.es++es2⟩
      |false=>Ck H.nx H1 rs λrs H2=>match ql H2 60 (uV rs R) []with
       |R2=>wL R2 H2.es λes3=>uU H.nx R H.es λes2=>c (nK rs) ⟨H2.nx,es3++es2⟩
     |false=>.er 1 0
    |none=>.er 2 0
   |.er n m=>.er n m
   |.pt .. =>.er 3 0
  |false=>.er 4 0
def va (F:Fm) (H:Hp) (L:List Nat) (ok:Bool) (o:Oper) (c:Option V→Hp→Rs):Rs:=
 match oQ T H.get F o.op with
 |some v=>c (some v) H
 |none =>match iG H.nx λnid=>ms T H.get F nid o.op with
  |some (v,ed)=>match(dk H.get L&&ed.clear L)||ok with
   |true=>H.ap ed λH'=>match v with
    |some v=>c (some v) H'
    |none=>c (some (.tup [])) H'
   |false=>.er 5 0
  |none =>match o.op with
   |.call ⟨.value (.func fid),⟨args⟩,_⟩=>match gc F args with
    |some vs=>match T.nat fid vs with
     |some v=>c (some v) H
     |none=>match T.fn fid with
      |some fn=>match fn.body with
       |some b=>match Nat.ble vs.length fn.ntmps with
        |true=>GJ T ih (T.keep fid) vs fn b H L ok λv H'=>c (some v) H'
        |false=>.er 6 fid
       |none=>.er 7 fid
      |none=>.er 8 fid
    |none=>.er 9 fid
   |_=>.er (10000+o.type) (match o.dst with|some d=>d|none=>999)
def Cm(l:List Nat)(j:Nat):Bool:=match l with
 |[x]=>Nat.beq x j
 |_=>false
def Gr(x y i:Nat):Nat:=match Nat.beq x i with
 |true=>y
 |false=>match Nat.beq y i with
  |true=>x
  |false=>i
def AU (all:Array Oper) (L:List Nat) (m i:Nat) (o:Oper) (ps:List (Nat×Operand)) (v:V) (s:List EI):Nat→Array Bool→Fm→Hp→Rs
 |left, listed,F,H=>match dk H.get L||(listed.setIfInBounds i true).getD m false with
  |true =>match Region.ready .any all listed with
   |[x]=>match Nat.beq x i with
    |true=>F.puto o.dst (some v) λF'=>ih (.drw all L m left (listed.setIfInBounds i true)) s F' H
    |false=>.er 41 i
   |[x, y]=>match left with
    |0=>.er 42 i
    |left+1=>iG (Gr x y i) λj=>match Nat.beq j i with
     |true=>.er 43 i
     |false=>match all[j]? with
      |some oj=>match Cm (Region.ready .any all (listed.setIfInBounds i true)) j&&AP o.dst oj.dst&&tN oj.dst ps&&(match o.dst with|some t=>(F.get t).isNone|none=>true)with
       |true=>match bm F all oj.guard with
        |some true=>va T ih F H L ((listed.setIfInBounds j true).getD m false&&((listed.setIfInBounds j true).setIfInBounds i true).getD m false) oj λu H'=>F.puto oj.dst u λF'=>AU all L m i o ps v s left (listed.setIfInBounds j true) F' H'
        |_=>.er 44 i
       |false=>.er 45 i
      |none=>.er 46 i
   |_=>.er 47 i
  |false=>.er 48 i
def ua (T:Tab) (F:Fm) (all:Array Oper):List Nat→Option (Nat×Oper×List (Nat×Operand)×V)
 |[]=>none
 |i ::r=>match all[i]? with
  |some ⟨_,.buildSlice _ _ ⟨ps⟩,_,_,_,none⟩=>match nz F ps with
   |some vs=>match tn T all i vs with
    |some (o,ps',v)=>some (i,o,ps',v)
    |none=>ua T F all r
   |none=>ua T F all r
  |_=>ua T F all r
def Jt (all:Array Oper) (L:List Nat) (m left i j:Nat) (listed:Array Bool) (s:List EI) (F:Fm) (H:Hp):Rs:=match all[i]? with
 |some oi=>match all[j]? with
  |some oj=>match bm F all oi.guard with
   |some true=>match bm F all oj.guard with
    |some true=>va T ih F H L ((listed.setIfInBounds i true).getD m false) oi λui Hi=>F.puto oi.dst ui λFi=>match ih (.drw all L m left (listed.setIfInBounds i true)) [] Fi Hi with
     |.ok false F1 H1=>va T ih F H L ((listed.setIfInBounds j true).getD m false) oj λuj Hj=>F.puto oj.dst uj λFj=>match ih (.drw all L m left (listed.setIfInBounds j true)) [] Fj Hj with
      |.ok false F2 H2=>match BF H.nx F2 H2 F1 H1 with
       |true=>ih (.ex .normal) s F1 H1
       |false=>.er 51 i
      |.er a b=>.er a b
      |_=>.er 52 i
     |.er a b=>.er a b
     |_=>.er 53 i
    |_=>.er 54 i
   |_=>.er 55 i
  |none=>.er 56 i
 |none=>.er 57 i
def FZ(c:Code)(s:List EI)(F:Fm)(H:Hp):Rs:=match c with
 |.seq x y=>ih (.code x) (.seq y::s) F H
 |.block id c=>ih (.code c) (.blk id::s) F H
 |.skip=>ih (.ex .normal) s F H
 |.ret=>ih (.ex .ret) s F H
 |.exit id=>ih (.ex (.exit id)) s F H
 |.scope c=>ih (.code c) (.scp::s) F H
 |.label _=>ih (.ex .normal) s F H
 |.loop c=>ih (.code c) (.loop c 1000000::s) F H
 |.cond c x y=>match aL F c with
  |some (.bool true)=>ih (.code x) s F H
  |some (.bool false)=>ih (.code y) s F H
  |_=>.er 11 0
 |.region _ ⟨l⟩ false=>ih (.ops ⟨l⟩ l) s F H
 |.region _ ⟨l⟩ true=>match Region.noSelect ⟨l⟩with
  |true=>listK (vY T H ⟨l⟩ l F [] []) λL=>iG (EN 0 l) λm=>iG l.length λn=>ih (.drw ⟨l⟩ L m n (Array.replicate n false)) s F H
  |false=>.er 13 0
 |_=>.er 14 0
def Co(all:Array Oper)(rest:List Oper)(s:List EI)(F:Fm)(H:Hp):Rs:=match rest with
 |[]=>ih (.ex .normal) s F H
 |o::r=>match bm F all o.guard with
  |some false=>F.puto o.dst (some (.tup [])) λF'=>ih (.ops all r) s F' H
  |some true=>va T ih F H [] true o λv H'=>F.puto o.dst v λF'=>ih (.ops all r) s F' H'
  |none=>.er 15 0
def Gh(e:Exit)(s:List EI)(F:Fm)(H:Hp):Rs:=match s with
 |[]=>match e with
  |.normal=>.ok false F H
  |.ret=>.ok true F H
  |_=>.er 16 0
 |.seq c::s=>match e with
  |.normal=>ih (.code c) s F H
  |.exit i=>ih (.ex (.exit i)) s F H
  |.ret=>ih (.ex .ret) s F H
  |_=>.er 17 0
 |.loop c j::s=>match e with
  |.normal=>match j with
   |0=>.er 18 0
   |j+1=>ih (.code c) (.loop c j::s) F H
  |.exit i=>ih (.ex (.exit i)) s F H
  |.ret=>ih (.ex .ret) s F H
  |_=>.er 19 0
 |.scp::s=>match e with
  |.normal=>ih (.ex .normal) s F H
  |.exit i=>ih (.ex (.exit i)) s F H
  |.ret=>ih (.ex .ret) s F H
  |_=>.er 20 0
 |.blk id::s=>match e with
  |.normal=>ih (.ex .normal) s F H
  |.exit i=>match Nat.beq i id with
   |true=>ih (.ex .normal) s F H
   |false=>ih (.ex (.exit i)) s F H
  |.ret=>ih (.ex .ret) s F H
  |_=>.er 21 0
def Gn (all:Array Oper) (L:List Nat) (m left:Nat) (listed:Array Bool) (s:List EI) (F:Fm) (H:Hp):Rs:=match Region.ready .any all listed with
 |[]=>ih (.ex .normal) s F H
 |i :: R =>match left with
  |0=>.er 22 0
  |left + 1=>match R with
   |[]=>match all[i]? with
    |some o=>match bm F all o.guard with
     |some false=>F.puto o.dst (some (.tup [])) λF'=>ih (.drw all L m left (listed.setIfInBounds i true)) s F' H
     |some true=>va T ih F H L ((listed.setIfInBounds i true).getD m false) o λv H'=>F.puto o.dst v λF'=>ih (.drw all L m left (listed.setIfInBounds i true)) s F' H'
     |none=>.er (6000+all.size) i
    |none=>.er 24 0
   |_ => match yJ F all L m listed (i::R)with
    |some i=>match all[i]? with
     |some o=>match(Region.ready .any all listed).contains i&&Region.free .any all listed i&&!Nat.beq i m with
      |true=>match bm F all o.guard with
       |some false=>F.puto o.dst (some (.tup [])) λF'=>ih (.drw all L m left (listed.setIfInBounds i true)) s F' H
       |some true=>match oQ T H.get F o.op with
        |some v=>F.puto o.dst (some v) λF'=>ih (.drw all L m left (listed.setIfInBounds i true)) s F' H
        |none=>match qd F o.op with
         |some id=>match L.contains id&&mg .any all m i&&!listed.getD m false with
          |true=>match ms T H.get F H.nx o.op with
           |some (some v,_)=>F.puto o.dst (some v) λF'=>ih (.drw all L m left (listed.setIfInBounds i true)) s F' H
           |_=>.er (4000+all.size) i
          |false=>.er (2000+all.size) i
         |none=>.er (3000+all.size) i
       |none=>.er (5000+all.size) i
      |false=>.er 29 i
     |none=>.er 30 i
    |none=>match ua T F all (i::R)with
     |some (i,o,ps,v)=>F.puto o.dst none λF'=>AU T ih all L m i o ps v s left listed F' H
     |none=>match R with
      |[j]=>Jt T ih all L m left i j listed s F H
      |_=>.er (1000+all.size) i
def Hk(p:EP)(s:List EI)(F:Fm)(H:Hp):Rs:=match p with
 |.code c=>FZ T ih c s F H
 |.ops all rest=>Co T ih all rest s F H
 |.ex e=>Gh ih e s F H
 |.drw all L m left listed=>Gn T ih all L m left listed s F H
end
def run(T:Tab):Nat→EP→List EI→Fm→Hp→Rs
 |0,p,s,F,H=>.pt p s F H
 |k+1,p,s,F,H=>Hk T (run T k) p s F H
set_option maxRecDepth 100000
def tyL:List (Nat×TD):=[
 (3,⟨1,8,.int .i64 0,.sc⟩),
 (29,⟨4,72,.agg [.int .i64 0,.str [],.nils,.nils],.struct [(0,1,true),(1,1,true),(2,1,true),(3,1,true)]⟩),
 (22,⟨1,24,.nils,.sl 29⟩),
 (9,⟨1,16,.str [],.str⟩),
 (23,⟨1,24,.nils,.sl 3⟩),
 (27,⟨1,24,.nils,.sl 9⟩),
 (58,⟨2,16,.agg [.int .i64 0,.int .i64 0],.struct [(0,1,true),(1,1,true)]⟩),
 (64,⟨5,80,.agg [.bool false,.int .i64 0,.str [],.nils,.nils],.struct [(0,1,true),(1,4,false)]⟩),
 (161,⟨1,24,.nils,.sl 164⟩),
 (5,⟨1,1,.int .u8 0,.sc⟩),
 (88,⟨1,8,.nilp,.sc⟩),
 (36,⟨1,24,.nils,.sl 47⟩),
 (47,⟨3,40,.agg [.int .i64 0,.nils,.int .i64 0],.struct [(0,2,false),(2,1,true)]⟩),
 (92,⟨3,40,.agg [.int .i64 0,.str [],.str []],.struct [(0,1,true),(1,1,true),(2,1,true)]⟩),
 (25,⟨2,32,.agg [.int .i64 0,.nils],.struct [(0,1,true),(1,1,true)]⟩),
 (52,⟨1,8,.nilp,.sc⟩),
 (189,⟨4,32,.agg [.int .i64 0,.int .i64 0,.int .i64 0,.int .i64 0],.struct [(0,1,true),(1,1,true),(2,1,true),(3,1,true)]⟩),
 (79,⟨1,8,.nilp,.sc⟩),
 (164,⟨2,32,.agg [.str [],.str []],.struct [(0,1,true),(1,1,true)]⟩),
 (62,⟨1,8,.nilp,.sc⟩),
 (60,⟨11,168,.agg [.nils,.nils,.raw (.map none),.raw (.map none),.int .i64 0,.nils,.nils,.int .i64 0,.nils,.int .i64 0,.int .i64 0],.struct [(0,1,true),(1,1,true),(2,1,true),(3,1,true),(4,1,true),(5,1,true),(6,1,true),(7,2,false),(9,2,false)]⟩),
 (31,⟨1,8,.int .i64 0,.sc⟩),
 (85,⟨1,24,.nils,.sl 92⟩),
 (105,⟨1,24,.nils,.sl 107⟩),
 (144,⟨2,16,.agg [.int .i64 0,.int .i64 0],.struct [(0,1,true),(1,1,true)]⟩),
 (90,⟨5,56,.agg [.nils,.int .i64 0,.int .i64 0,.int .i64 0,.int .i64 0],.struct [(0,1,true),(1,1,true),(2,1,true),(3,1,true),(4,1,true)]⟩),
 (66,⟨9,160,.agg [.nils,.int .i64 0,.nils,.nils,.bool false,.int .i64 0,.str [],.nils,.nils],.struct [(0,1,true),(1,1,true),(2,1,true),(3,1,true),(4,5,false)]⟩),
 (151,⟨5,56,.agg [.int .i64 0,.nils,.int .i64 0,.int .i64 0,.bool false],.struct [(0,2,false),(2,1,true),(3,1,true),(4,1,true)]⟩),
 (113,⟨2,16,.agg [.int .i64 0,.int .i64 0],.arr 2 3⟩),
 (138,⟨1,8,.nilp,.sc⟩),
 (97,⟨3,40,.agg [.nils,.int .i64 0,.int .i64 0],.struct [(0,1,true),(1,2,false)]⟩),
 (135,⟨4,80,.agg [.nils,.int .i64 0,.nils,.nils],.struct [(0,1,true),(1,1,true),(2,1,true),(3,1,true)]⟩),
 (197,⟨4,32,.agg [.int .i64 0,.int .i64 0,.int .i64 0,.int .i64 0],.arr 2 58⟩),
 (54,⟨1,24,.nils,.sl 151⟩),
 (95,⟨1,24,.nils,.sl 58⟩),
 (4,⟨1,1,.bool false,.bool⟩),
 (41,⟨1,24,.nils,.sl 23⟩),
 (114,⟨1,24,.nils,.sl 113⟩),
 (118,⟨2,32,.agg [.nils,.int .i64 0],.struct [(0,1,true),(1,1,true)]⟩),
 (140,⟨4,40,.agg [.str [],.int .i64 0,.int .i64 0,.nilp],.struct [(0,1,true),(1,2,false),(3,1,true)]⟩),
 (107,⟨6,96,.agg [.str [],.bool false,.int .i64 0,.str [],.nils,.nils],.struct [(0,1,true),(1,5,false)]⟩),
 (176,⟨2,24,.agg [.int .i64 0,.str []],.struct [(0,1,true),(1,1,true)]⟩),
 (180,⟨1,8,.int .u64 0,.sc⟩),
 (56,⟨1,8,.raw (.map none),.sc⟩),
 (100,⟨2,16,.agg [.int .i64 0,.int .i64 0],.struct [(0,1,true),(1,1,true)]⟩),
 (133,⟨1,8,.nilp,.sc⟩),
 (55,⟨1,8,.raw (.map none),.sc⟩),
 (171,⟨1,8,.nilp,.sc⟩)]
def pO{α:Type}:List (Nat×α)→Nat→Option α
 |[],_=>none
 |(i,x)::r,j=>match Nat.beq i j with
  |true=>some x
  |false=>pO r j
def tyB(P:Program):List (Nat×TD)→Bool
 |[]=>true
 |(t,d)::r=>tdB P t d&&tyB P r
theorem Hy{P:Program}:∀{l:List (Nat×TD)},tyB P l=true→∀t d,pO l t=some d→TdOk P t d
 |[],_,t,d,h=>by cases h
 | (i,x)::r,hb,t,d,h=>by
  simp only[tyB,Bool.and_eq_true]at hb;simp only[pO]at h;split at h
  ·rename_i e;have :=Nat.eq_of_beq_eq_true e;subst this;injection h with h;subst h
   exact MR hb.1
  ·exact Hy hb.2 t d h
theorem IOx:∀t d,pO tyL t=some d→TdOk prog t d:=Hy (by kernel_rfl)
noncomputable def fnL:List (Nat×Func):=[(20,f20),(46,f46),(47,f47),(48,f48),(77,f77),(78,f78),(79,f79),(80,f80),(81,f81),(82,f82),(83,f83),(84,f84),(85,f85),(115,f115),(116,f116),(117,f117),(118,f118),(119,f119),(121,f121),(122,f122),(123,f123),(124,f124),(155,f155),(156,f156),(157,f157),(158,f158),(127,f127),(160,f160),(179,f179),(180,f180),(192,f192),(193,f193)]
def fnB(P:Program):List (Nat×Func)→Prop
 |[]=>True
 |(i,f)::r=>(P.funcs[i]?=some f∧bX P i=true)∧fnB P r
theorem Hf{P:Program}:∀{l:List (Nat×Func)},fnB P l→∀i f,pO l i=some f→P.funcs[i]?=some f∧bX P i=true
 |[],_,i,f,h=>by cases h
 | (j,x)::r,hb,i,f,h=>by
  simp only[pO]at h;split at h
  ·rename_i e;have :=Nat.eq_of_beq_eq_true e;subst this;injection h with h;subst h
   exact hb.1
  ·exact Hf hb.2 i f h
theorem Mz:∀i f,pO fnL i=some f→prog.funcs[i]?=some f∧bX prog i=true:=Hf ⟨⟨func20,by kernel_rfl⟩,⟨func46,by kernel_rfl⟩,⟨func47,by kernel_rfl⟩,⟨func48,by kernel_rfl⟩,⟨func77,by kernel_rfl⟩,⟨func78,by kernel_rfl⟩,⟨func79,by kernel_rfl⟩,⟨func80,by kernel_rfl⟩,⟨func81,by kernel_rfl⟩,⟨func82,by kernel_rfl⟩,⟨func83,by kernel_rfl⟩,⟨func84,by kernel_rfl⟩,⟨func85,by kernel_rfl⟩,⟨func115,by kernel_rfl⟩,⟨func116,by kernel_rfl⟩,⟨func117,by kernel_rfl⟩,⟨func118,by kernel_rfl⟩,⟨func119,by kernel_rfl⟩,⟨func121,by kernel_rfl⟩,⟨func122,by kernel_rfl⟩,⟨func123,by kernel_rfl⟩,⟨func124,by kernel_rfl⟩,⟨func155,by kernel_rfl⟩,⟨func156,by kernel_rfl⟩,⟨func157,by kernel_rfl⟩,⟨func158,by kernel_rfl⟩,⟨func127,by kernel_rfl⟩,⟨func160,by kernel_rfl⟩,⟨func179,by kernel_rfl⟩,⟨func180,by kernel_rfl⟩,⟨func192,by kernel_rfl⟩,⟨func193,by kernel_rfl⟩,trivial⟩
open Go.RowKit Lx Sx
def zJ:Tab:=⟨false,pO tyL,λ_=>none,λ_ _=>none,λ_=>false⟩
theorem ah:TabOk prog zJ:=⟨IOx,(λ_ _ h=>by cases h),(λ_ _ _ h=>by cases h)⟩
mutual
def treeV:Tree→V
 |.node k s ls ks=>.agg [.int .i64 k,.str s,.row 1 (ls.map .str),.row 4 (kidsV ks)]
def kidsV:List Tree→List V
 |[]=>[]
 |t::r=>treeV t::kidsV r
end
abbrev am(t:Tree):List V:=[.int .i64 t.kind,.str t.text,.row 1 (t.leads.map .str),.row 4 (kidsV t.kids)]
abbrev zk(t:Tree):V:=.agg (am t)
theorem nU(t:Tree):treeV t=zk t:=by cases t;simp[treeV,Tree.kind,Tree.text,Tree.leads,Tree.kids]
theorem gI:∀(ks:List Tree),(kidsV ks).length=ks.length
 |[]=>rfl
 |t::r=>by simp[kidsV,gI r]
theorem aq:∀{ks:List Tree} {i:Nat} {u:Tree},ks[i]?=some u→(kidsV ks)[i]?=some (zk u)
 |[],i,u,h=>by simp at h
 |t::r,0,u,h=>by
  simp only[List.getElem?_cons_zero,Option.some.injEq]at h;subst h;simp[kidsV,nU]
 |t::r,i+1,u,h=>by
  simp only[List.getElem?_cons_succ]at h;simpa[kidsV]using aq h
theorem Av:∀(a b:List Tree),kidsV (a++b)=kidsV a++kidsV b
 |[],b=>rfl
 |t::r,b=>by simp[kidsV,Av r b]
theorem Gx(t:Tree):(zk t).pure=true:=rfl
theorem yL:∀(ks:List Tree),pureL (kidsV ks)=true
 |[]=>rfl
 |t::r=>by simp only[kidsV,pureL,nU,Gx,yL r]
def qF(P:Program)(fid:FuncId)(us:List V)(v:V):Prop:=pureL us=true∧v.pure=true∧Sum P fid us ⟨0,[]⟩ (λu _=>u=v)
theorem nG(i:Nat):(⟨0,[]⟩:Hp).get i=.free:=by
 unfold Hp.get;have :Nat.blt i 0=false:=by cases i<;>rfl
 simp only[this]
theorem pS{K:Ctx}{v:V}(Z:qF P fid us v)(hs:be vs us)(L:List Nat)(hL:dk H.get L=true):CallR P K fid vs H L (λv' H''=>v'=v∧H''=H):=λS w ρ xs hr hi hx=>by
 obtain⟨h1,h2,h3⟩:=Z;have hr0:HRel S w ρ0 (⟨0,[]⟩:Hp).get:=⟨λi=>by rw[nG];rfl,λi b hb=>by rw[nG]at hb;exact hb.elim,λi j b hb _=>by rw[nG]at hb;exact hb.elim,hr.slt⟩;refine(h3 S w ρ0 xs hr0 ((hs.rel hx).pure h1)).mono λe w' hR=>?_;obtain⟨x,S',ρ',u,H',rfl,rfl,hr',G,hv⟩:=hR;have J:∀b,¬∃id,own ρ0 id ((⟨0,[]⟩:Hp).get id) b:=λb ⟨id,hb⟩=>by rw[nG]at hb;exact hb
 have U:Chg [] w w':=⟨G.chg.os,G.chg.tape,G.chg.output,G.chg.size,λb hb _=>G.chg.block b hb (J b)⟩;have up:Up S S' w w' ρ ρ:=⟨G.s0,λb hb hlt=>U.block b hlt (by simp),λ_ _ h=>h⟩;have O:∀b,S' b→S b∨w.heap.size≤b:=λb hb=>by
  rcases G.s1 b hb with h|h|h
  ·exact .inl h
  ·exact absurd h (J b)
  ·exact .inr h
 refine⟨x,S',ρ,u,H,rfl,⟨rfl,rfl⟩,⟨λi=>(hr.ob i).up up (λhf=>?_) (λb hb=>U.block b (gN (hr.ob i) hb) (by simp)),λi b hb=>?_,hr.dis,hr'.slt⟩,⟨hi.chg.trans (ChgP.of U) (λb hb=>by simp at hb),λb hb=>G.s0 b (hi.s0 b hb),λb hb=>?_,hi.ow,hi.pin⟩,up,hv.pure h2,λid hid y b hy hb=>?_⟩
 ·have :=hr.ob i;rw[hf]at this;exact this
 ·intro Z;rcases O b Z with h|h
  ·exact hr.sep i b hb h
  ·have :=gN (hr.ob i) hb;omega
 ·rcases O b hb with h|h
  ·exact hi.s1 b h
  ·exact .inr (.inr (Nat.le_trans hi.chg.size h))
 ·exact U.block b (gN (hr.ob id) (mJ hr hL id hid y b hy hb)) (by simp)
theorem ce[BEq α][LawfulBEq α]{a b:α}(h:(a !=b)=false):a=b:=by simpa using h
variable{g:Option (Nat×Bool)}
section
variable{K:Ctx}{Q:Exit→Act→World→Prop}{p p':EP}{s s':List EI}{n:Nat}{F F' F1 F2:Fm}{H H' H1:Hp}{all:Array Oper}{rest:List Oper}{o:Oper}
theorem gR(k:Nat)(h:il zJ k p s F H=some (p',s',F',H'))(kk:Go prog K Q p' s' n F' H'):Go prog K Q p s n F H:=dU ah k p s F H h kk
theorem gC{args:List Operand}{tys:Array TypeId}{d:Option Tmp}{ty:TypeId}{ps:String}{af:Array Edge}(G:bC PL prog fid us H0 Post)(σ:List Nat)(J:bX prog fid=true)(O:bm F all g=some true)(hv:gc F args=some vs)(hs:be vs (renL σ us))(hH:leH σ H H0.es)(U:(db σ&&Nat.beq σ.length H0.nx&&σ.all λi=>Nat.blt i H.nx)=true)
  (k:∀v H',Post v H'→Go prog K Q (.ops all rest) s n (F.seto d (some (v.ren (sgN PL H.nx H0.get H'.nx σ 0)))) (nl PL H σ H0 H')):Go prog K Q (.ops all (⟨d,.call {callee:=.value (.func fid),args:=args.toArray,argTypes:=tys},ty,ps,af,g⟩::rest)) s n F H:=
 go_opC (o:=⟨d,.call {callee:=.value (.func fid),args:=args.toArray,argTypes:=tys},ty,ps,af,g⟩) J rfl O hv (uB G σ hs hH U [] (by simp[dk])) λv' H'' ⟨v,H',Z,e1,e2⟩=>by subst e1 e2;exact k v H' Z
theorem gC0{args:List Operand}{tys:Array TypeId}{v:V}{ty:TypeId}{ps:String}{af:Array Edge}(G:qF prog fid us v)(J:bX prog fid=true)(O:bm F all g=some true)(hv:gc F args=some vs)(hs:be vs us)(h1:F.puto d (some v) id=F1)
  (k:Go prog K Q (.ops all rest) s n F1 H):Go prog K Q (.ops all (⟨d,.call {callee:=.value (.func fid),args:=args.toArray,argTypes:=tys},ty,ps,af,g⟩::rest)) s n F H:=by
 rw[Fm.puto_eq]at h1;subst h1;exact go_opC (o:=⟨d,.call {callee:=.value (.func fid),args:=args.toArray,argTypes:=tys},ty,ps,af,g⟩) J rfl O hv (pS G hs [] rfl) λv' H'' ⟨U,Z⟩=>by subst U Z;exact k
def slB(T:Tab)(t:TypeId):Option (TypeId×Nat×Nat):=match T.ty t with
 |some ⟨_,_,_,.sl e⟩=>match T.ty e with
  |some ⟨sz,by_,_,_⟩=>match Nat.blt 0 sz&&Nat.ble by_ 100000 with
   |true=>some (e,sz,by_)
   |false=>none
  |none=>none
 |_=>none
theorem Mp{T:Tab}(G:TabOk P T){by_:Nat}(h:slB T t=some (e,sz,by_)):P.underlying t=some (.slice e)∧0<sz∧by_≤100000∧∃z:Value,(P.info? e).map (λi=>(i.zero,i.size,i.bytes))=some (some z,sz,by_)∧z.cells.size=sz:=by
 unfold slB at h;split at h
 ·rename_i ht;split at h
  ·rename_i J;split at h
   ·rename_i hb;simp only[Option.some.injEq,Prod.mk.injEq]at h;obtain⟨rfl,rfl,rfl⟩:=h;simp only[Bool.and_eq_true,Nat.blt_eq,Nat.ble_eq]at hb;obtain⟨z,h1,_,O,_⟩:=(G.ty _ _ J).info;exact⟨(G.ty _ _ ht).sl rfl,hb.1,hb.2,z,h1,O⟩
   ·cases h
  ·cases h
 ·cases h
theorem dAp{T:Tab}(J:TabOk P T){y:Operand}{by_ id:Nat}{news:List V}{v:V}{ty:TypeId}(ht:slB T t=some (e,sz,by_))(hx:aL F x=some (.sl id))(O:H.get id=.row e sz els)(hy:aL F y=some v)(hs:Bg H.get sz v=some news)(hb:els.length+news.length≤1000000000):
  ∀S w ρ a,HRel S w ρ H.get→FRel S w ρ a n F→Does P S w ρ H.get a ty (.call {callee:=.builtin .append,args:=#[x,y],argTypes:=#[t,t]}) (some (.sl H.nx)) ((ED.repl id (.row e sz (els++news))).app H.get H.nx) (ED.repl id (.row e sz (els++news))).tch:=λS w ρ a hr G=>by
 obtain⟨h1,h2,U,z,Z,h5⟩:=Mp J ht;obtain⟨u,g1,g2⟩:=EH hr G hy hs;exact BG hr G.fr H.get_free g1 g2 h1 Z h5 h2 (ao G hx) O (by simp only[maxLen];omega) (Nat.le_trans (Nat.mul_le_mul hb U) (by decide))
variable{L:List Nat}{m fuel c:Nat}{listed:Array Bool}
theorem gDs{id:Nat}(L:List Nat)(m sz:Nat)(hsz:l.length=sz)(G:prog.follows .mixedOrders=true)(hs:Region.noSelect l.toArray=true)(k:Go prog K Q (.drw l.toArray L m sz (Array.replicate sz false)) s n F H):Go prog K Q (.code (.region id l.toArray true)) s n F H:=Ex L m sz hsz G hs k
theorem gDr(is:List (Nat×Nat))(G:BW all m is listed=true)(J:is.length=c)(hr:oT zJ all L is F H=some (F',H'))(k:Go prog K Q (.drw all L m fuel (FK is listed)) s n F' H'):Go prog K Q (.drw all L m (fuel+c) listed) s n F H:=by
 subst J;exact nN ah is fuel listed F H G hr k
theorem gDe(G:Region.ready .any all listed=[])(k:Go prog K Q (.ex .normal) s n F H):Go prog K Q (.drw all L m fuel listed) s n F H:=BK G k
theorem eU{args:List Operand}{tys:Array TypeId}{vs:List V}{v:V}{ty:TypeId}{ps:String}{af:Array Edge}{g:Option (Nat×Bool)}(i:Nat)(J:qF prog fid us v)(O:bX prog fid=true)(hi:all[i]?=some ⟨d,.call {callee:=.value (.func fid),args:=args.toArray,argTypes:=tys},ty,ps,af,g⟩)(G:Region.ready .any all listed=[i])(U:bm F all g=some true)(hv:gc F args=some vs)(hs:be vs us)(Z:dk H.get L=true)(h1:F.puto d (some v) id=F1)
  (k:Go prog K Q (.drw all L m fuel (listed.setIfInBounds i true)) s n F1 H):Go prog K Q (.drw all L m (fuel+1) listed) s n F H:=by
 rw[Fm.puto_eq]at h1;subst h1;exact go_d1C O G hi rfl U hv (pS J hs L Z) (.inl rfl) λv' H'' ⟨e1,e2⟩=>by subst e1 e2;exact k
theorem gDC{args:List Operand}{tys:Array TypeId}{vs:List V}{ty:TypeId}{ps:String}{af:Array Edge}{g:Option (Nat×Bool)}(i:Nat)(J:bC PL prog fid us H0 Post)(σ:List Nat)(O:bX prog fid=true)(hi:all[i]?=some ⟨d,.call {callee:=.value (.func fid),args:=args.toArray,argTypes:=tys},ty,ps,af,g⟩)(G:Region.ready .any all listed=[i])(U:bm F all g=some true)(hv:gc F args=some vs)(hs:be vs (renL σ us))(hH:leH σ H H0.es)(Z:(db σ&&Nat.beq σ.length H0.nx&&σ.all λi=>Nat.blt i H.nx)=true)(hL:(dk H.get L&&L.all λi=>!σ.contains i)=true)
  (k:∀v H',Post v H'→Go prog K Q (.drw all L m fuel (listed.setIfInBounds i true)) s n (F.seto d (some (v.ren (sgN PL H.nx H0.get H'.nx σ 0)))) (nl PL H σ H0 H')):Go prog K Q (.drw all L m (fuel+1) listed) s n F H:=
 go_d1C O G hi rfl U hv (uB J σ hs hH Z L hL) (.inl rfl) λv' H'' ⟨v,H',hP,e1,e2⟩=>by subst e1 e2;exact k v H' hP
end
def ai(f:Func):Code:=match f.body with
 |some c=>c
 |none=>.skip
def cA:Code→Code
 |.seq x _=>x
 |c=>c
def cB:Code→Code
 |.seq _ y=>y
 |c=>c
def cK:Code→Code
 |.block _ c=>c
 |c=>c
def cL:Code→Code
 |.loop c=>c
 |c=>c
def cT:Code→Code
 |.cond _ x _=>x
 |c=>c
def cE:Code→Code
 |.cond _ _ y=>y
 |c=>c
theorem apM(f:α→V)(l:List α)(x:α):List.map f l++[f x]=List.map f (l++[x]):=by simp
theorem xS(x:Tree):[zk x]=kidsV [x]:=by simp[kidsV,nU]
theorem Ah:∀(l:List Tree),kidsV l=l.map zk
 |[]=>rfl
 |t::r=>by simp[kidsV,nU,Ah r]
theorem aw{f:α→V}{l:List α}{x:α}(h:l[i]?=some x):(List.map f l)[i]?=some (f x):=by simp[h]
theorem aD(l:List Tree):(kidsV l).length=l.length:=gI l
theorem aH(f:α→V)(l:List α):(List.map f l).length=l.length:=List.length_map ..
theorem aI{n:Nat}{m:Nat}(h:n=m):V.int .i64 (n:Int)=.int .i64 (m:Int):=by rw[h]
theorem tE(f:α→V)(l:List α)(i:Nat)(x:α):(List.map f l).set i (f x)=List.map f (l.set i x):=by simp
theorem Kk(f:α→V)(l:List α)(i:Nat):(List.map f l).take i=List.map f (l.take i):=by simp
theorem MO(l:List Tree)(i j:Nat):((kidsV l).drop i).take j=kidsV ((l.drop i).take j):=by simp[Ah,List.map_drop,List.map_take]
theorem Pk(f:α→V)(l:List α)(i j:Nat):((List.map f l).drop i).take j=List.map f ((l.drop i).take j):=by simp[List.map_drop,List.map_take]
theorem zz(σ:List Nat):∀(l:List Tree),renL σ (kidsV l)=kidsV l
 |[]=>rfl
 |t::r=>by simp only[kidsV,renL,zz σ r];rw[nU];rfl
theorem pj{α:Type}(σ:List Nat)(f:α→V)(hf:∀x,(f x).ren σ=f x):∀(l:List α),renL σ (List.map f l)=List.map f l
 |[]=>rfl
 |x::r=>by simp only[List.map_cons,renL,hf,pj σ f hf r]
theorem qZ(l:List Tree):pureL (kidsV l)=true:=yL l
theorem lV{α:Type}(f:α→V)(hf:∀x,(f x).pure=true):∀(l:List α),pureL (List.map f l)=true
 |[]=>rfl
 |x::r=>by simp only[List.map_cons,pureL,hf,lV f hf r]
theorem bt{e:Bool}(h:(!e)=true):e=false:=by simpa using h
theorem br{e:Bool}(h:(!e)=false):e=true:=by simpa using h
theorem dq[BEq α][LawfulBEq α]{a b:α}(h:(a !=b)=true):a≠b:=by simpa using h
theorem cr{a:Nat}(h:decide ((a:Int)<(b:Int))=true):a<b:=by have :=of_decide_eq_true h;omega
theorem co{a:Nat}(h:decide ((a:Int)<(b:Int))=false):¬a<b:=by have :=of_decide_eq_false h;omega
theorem Pr{a:Nat}(h:decide ((a:Int)≤(b:Int))=true):a≤b:=by have :=of_decide_eq_true h;omega
theorem Pz{a:Nat}(h:decide ((a:Int)≤(b:Int))=false):¬a≤b:=by have :=of_decide_eq_false h;omega
theorem Px{a:Nat}(h:((a:Int)==(b:Int))=true):a=b:=by have :=eq_of_beq h;omega
theorem Pe{a:Nat}(h:((a:Int)==(b:Int))=false):a≠b:=by have :=ne_of_beq_false h;omega
theorem xr{a:Nat}(h:((a:Int)!=(b:Int))=true):a≠b:=by have :=dq h;omega
theorem xh{a:Nat}(h:((a:Int)!=(b:Int))=false):a=b:=by have :=ce h;omega
theorem aK{n m:Int}(h:n=m):V.int .i64 n=.int .i64 m:=by rw[h]
abbrev InI(x:Int):Prop:=-9223372036854775808≤x∧x≤9223372036854775807
variable{N:Nat}
variable{els':List V}
variable{u:TypeId}
section
variable{P:Program}{T:Tab}{K:Ctx}{Q:Exit→Act→World→Prop}{p p':EP}{s s':List EI}{n:Nat}{F F' F1 F2:Fm}{H H' H1:Hp}{all:Array Oper}{rest:List Oper}{o:Oper}{L:List Nat}{m fuel:Nat}{listed:Array Bool}
theorem gS{v:V}(d:Nat)(G:V)(J:F.get d=some v)(hs:cm v G)(h1:F.put d (some G) id=F1)(k:Go P K Q p s n F1 H):Go P K Q p s n F H:=by
 rw[Fm.put_eq]at h1;subst h1;exact ru J hs k
theorem BE{id:Nat}{o:Ob}(G:h id=o):bW h id o=h:=by
 funext i
 by_cases hi:i=id
 ·subst hi;rw[bO,G]
 ·rw[de _ _ hi]
theorem gHR(id:Nat)(els':List V)(G:H.get id=.row e sz els)(O:els=els')(h2:H.ap (.set id (.row e sz els')) _root_.id=H1)(k:Go P K Q p s n F H1):Go P K Q p s n F H:=by
 subst O;rw[Hp.ap_eq]at h2;subst h2;have J:(H.app (.set id (.row e sz els))).get=H.get:=by
  rw[Hp.get_app (by exact⟨by rw[G];simp,by rw[G];simp⟩)];exact BE G
 intro S w ρ a hr hi U;exact k S w ρ a (by rw[id_eq,J];exact hr) (by rw[id_eq,J];exact hi) U
def AK(PL:List Nat):List (Nat×Ob)→List Nat→Bool
 |[],_=>true
 |(i,o)::r,pv=>(!ln PL i o||pv.contains i)&&AK PL r pv
theorem Ct{PL:List Nat}:∀{es:List (Nat×Ob)} {pv:List Nat},AK PL es pv=true→∀i,ln PL i (ay es i)=true→i∈pv
 |[],pv,h,i,hi=>by simp[ay,ln]at hi
 | (j,o)::r,pv,h,i,hi=>by
  simp only[AK,Bool.and_eq_true,Bool.or_eq_true,Bool.not_eq_true']at h;simp only[ay]at hi;split at hi
  ·rename_i e;have :=Nat.eq_of_beq_eq_true e;subst this;rcases h.1 with h1|h1
   ·rw[h1]at hi;cases hi
   ·simpa using h1
  ·exact Ct h.2 i hi
theorem Ol{nx:Nat}{es:List (Nat×Ob)}{pv:List Nat}(h:AK PL es pv=true):∀i,ln PL i ((⟨nx,es⟩:Hp).get i)=true→i∈pv:=λi hi=>by
 unfold Hp.get at hi;split at hi
 ·exact Ct h i hi
 ·simp[ln]at hi
def oZ(ids:List Nat):List (Nat×Ob)→List (Nat×Ob)
 |[]=>[]
 |(j,o)::r=>match ids.contains j with
  |true=>oZ ids r
  |false=>(j,o)::oZ ids r
theorem yT{ids:List Nat}{i:Nat}:∀{l:List (Nat×Ob)},ay (oZ ids l) i=ay l i∨ay (oZ ids l) i=.gone
 |[]=>.inl rfl
 | (j, o)::r=>by
  have ih:=yT (ids:=ids) (i:=i) (l:=r);simp only[oZ];split
  ·rename_i hc;by_cases hj:j=i
   ·subst hj;refine .inr ?_;have :∀l:List (Nat×Ob),ay (oZ ids l) j=.gone:=λl=>by
     induction l with
     |nil=>rfl
     | cons p q ihq=>
      obtain⟨k,o'⟩:=p;simp only[oZ];split
      ·exact ihq
      ·rename_i hk;have hne:k≠j:=λe=>by subst e;rw[hc]at hk;cases hk
       simp only[ay,nbF hne];exact ihq
    exact this r
   ·simp only[ay,nbF hj];exact ih
  ·simp only[ay];split
   ·exact .inl rfl
   ·exact ih
theorem KJ{rs:List ResultVar}{e:Exit}(ids:List Nat)(O:TabOk P T)(G:fn.results=rs.toArray)(hv:sD T H.get F rs=some vs)(U:Post (nK vs) ⟨H.nx,oZ ids H.es⟩)(Z:e=.ret∨e=.normal:=by first|exact .inl rfl|exact .inr rfl):Go P K (bodyPost P fn (SP K Post)) (.ex e) [] n F H:=λS w ρ a hr hi hF=>by
 have J:∀i,(⟨H.nx,oZ ids H.es⟩:Hp).get i=H.get i∨(⟨H.nx,oZ ids H.es⟩:Hp).get i=.gone:=λi=>by
  unfold Hp.get;cases hb:Nat.blt i H.nx
  ·exact .inl rfl
  ·exact yT
 exact ret_go O Z G hr hF hv λx hx=>⟨x,S,ρ,_,_,rfl,U,hr.drop J,hi.drop J,hx⟩
theorem gJ(k:Go P K Q p s n F' H')(σ pv:List Nat)(J:p.still=true)(G:az K pv)(O:leF σ F F')(hH:leH σ H H'.es)(U:(db σ&&Nat.ble σ.length H'.nx&&uK σ pv&&Nat.ble F'.length n)=true):Go P K Q p s n F H:=go_sub σ pv J G O hH U k
theorem EQ{w:World}{nid:Nat}(e:TypeId)(sz:Nat)(hr:HRel S w ρ h)(hf:h nid=.free):Eff S w w ρ (eV ρ nid (.slice none 0 0)) h (bW h nid (.row e sz [])) (λ_=>False):=
 eff_new hr hf (Chg.refl _ _) ⟨_,[],aW _ _ _,⟨by simp,.inl ⟨rfl,rfl⟩⟩,by simp[CRel]⟩ (λb hb=>by
  obtain⟨v,h1,h2⟩:=hb;rw[aW]at h1;cases h1;cases h2)
theorem gNS(d:Nat)(e:TypeId)(sz:Nat)(hp:p.still=true)(hd:F.get d=some .nils)(h1:F.put d (some (.sl H.nx)) id=F1)(h2:H.ap (.new (.row e sz [])) id=H1)(k:Go P K Q p s n F1 H1):Go P K Q p s n F H:=by
 rw[Fm.put_eq]at h1;rw[Hp.ap_eq]at h2;subst h1 h2;intro S w ρ a hr hi U;have O:=EQ e sz hr H.get_free;have Z:(H.app (.new (.row e sz []))).get=bW H.get H.nx (.row e sz []):=Hp.get_app trivial;have :=k S w (eV ρ H.nx (.slice none 0 0)) a (by rw[id_eq,Z];exact O.hr) (by rw[id_eq,Z];exact hi.eff O) (by
  have J:=U.up O.up;refine⟨J.size,J.defers,J.gl,by simpa using J.len,λi u G=>?_⟩;rw[id_eq,Fm.get_eq,List.getElem?_set]at G;split at G
  ·rename_i e1;subst e1;split at G
   ·simp only[Option.bind_some,id_eq,Option.some.injEq]at G;subst G;obtain⟨x,h3,h4⟩:=U.get d _ hd;simp only[VRel]at h4;subst h4;exact⟨_,h3,by simp only[VRel];exact⟨aW _ _ _,rfl⟩⟩
   ·cases G
  ·exact J.get i u (by rw[Fm.get_eq];exact G))
 cases p with
 |drw all L m left listed=>cases hp
 |code c=>exact this
 |ops all rest=>exact this
 |ex e=>exact this
theorem gNC(id o:Nat)(e:TypeId)(sz:Nat)(hp:p.still=true)(Z:H.get id=.var t cs)(hc:cs[o]?=some .nils)(h2:(H.ap (.new (.row e sz [])) λH1=>H1.ap (.set id (.var t (cs.set o (.sl H.nx)))) _root_.id)=H1)(k:Go P K Q p s n F H1):Go P K Q p s n F H:=by
 rw[Hp.ap_eq,Hp.ap_eq]at h2;subst h2;intro S w ρ a hr hi hF;have he:=EQ e sz hr H.get_free;have hg:(H.app (.new (.row e sz []))).get=bW H.get H.nx (.row e sz []):=Hp.get_app trivial;have hne:id≠H.nx:=λe1=>by subst e1;rw[H.get_free]at Z;cases Z
 have G:(H.app (.new (.row e sz []))).get id=.var t cs:=by rw[hg,de _ _ hne,Z]
 have O:((H.app (.new (.row e sz []))).app (.set id (.var t (cs.set o (.sl H.nx))))).get=bW (H.app (.new (.row e sz []))).get id (.var t (cs.set o (.sl H.nx))):=Hp.get_app (by exact⟨by rw[G];simp,by rw[G];simp⟩);have h1:HRel S w (eV ρ H.nx (.slice none 0 0)) (H.app (.new (.row e sz []))).get:=by rw[hg];exact he.hr
 have h2:Inv K S w (eV ρ H.nx (.slice none 0 0)) (H.app (.new (.row e sz []))).get:=by rw[hg];exact hi.eff he
 have J:∀i b,own (eV ρ H.nx (.slice none 0 0)) i (bW (H.app (.new (.row e sz []))).get id (.var t (cs.set o (.sl H.nx))) i) b↔own (eV ρ H.nx (.slice none 0 0)) i ((H.app (.new (.row e sz []))).get i) b:=λi b=>by
  by_cases hi:i=id
  ·subst hi;rw[bO,G];rfl
  ·rw[de _ _ hi]
 have :=k S w (eV ρ H.nx (.slice none 0 0)) a (by
  rw[id_eq,O];refine⟨λi=>?_,λi b hb=>h1.sep i b ((J i b).1 hb),λi j b q1 q2=>h1.dis i j b ((J i b).1 q1) ((J j b).1 q2),h1.slt⟩;by_cases U:i=id
  ·subst U;rw[bO];obtain⟨b,xs,q1,q2,q3⟩:=sF h1 G;obtain⟨x,q4,q5⟩:=q3.get hc;simp only[VRel]at q5;subst q5;refine⟨b,xs,q1,q2,?_⟩;have :=q3.set (i:=o) (v:=.sl H.nx) (x:=.slice none 0 0) (by simp only[VRel];exact⟨aW _ _ _,rfl⟩);have e2:xs.set o (.slice none 0 0)=xs:=by
    obtain⟨hl,q6⟩:=List.getElem?_eq_some_iff.1 q4;rw[←q6];exact List.set_getElem_self ..
   rw[e2]at this;exact this
  ·rw[de _ _ U];exact h1.ob i) (by
  rw[id_eq,O];exact⟨h2.chg,h2.s0,h2.s1,λi b hb=>h2.ow i b ((J i b).1 hb),h2.pin⟩) (hF.up he.up)
 cases p with
 |drw all L m left listed=>cases hp
 |code c=>exact this
 |ops all rest=>exact this
 |ex e=>exact this
theorem gLB(d:Nat)(J:F.get d=some (.row sz els))(U:els.length=N)(k:N≤9223372036854775807→Go P K Q p s n F H):Go P K Q p s n F H:=λS w ρ a hr hi G=>by
 obtain⟨x,h1,h2⟩:=G.get d _ J;simp only[VRel]at h2;obtain⟨A,c,xs,rfl,Z,O,_⟩:=h2;exact k (by simp only[maxLen]at O;omega) S w ρ a hr hi G
theorem gLO(id:Nat)(G:H.get id=.row e sz els)(U:els.length=N)(k:N≤9223372036854775807→Go P K Q p s n F H):Go P K Q p s n F H:=λS w ρ a hr hi J=>by
 obtain⟨v,xs,h1,h2,Z⟩:=lz hr G;refine k ?_ S w ρ a hr hi J;rcases h2.2 with⟨_,h⟩|⟨g,cap,cur,_,_,_,h4,O,_⟩
 ·omega
 ·simp only[maxLen]at O;omega
theorem NC(G:TabOk P T)(ht:(match T.ty t with|some ⟨_,_,_,.str⟩=>true|_=>false)=true):P.underlying t=some .string:=by
 split at ht
 ·rename_i h;exact(G.ty _ _ h).str rfl
 ·cases ht
theorem yIS(J:TabOk P T){y:Operand}{l:List UInt8}{c:UInt8}(ht:(match T.ty t with|some ⟨_,_,_,.str⟩=>true|_=>false)=true)(hx:aL F x=some (.str l))(hy:aL F y=some (.int .i64 (i:Int)))(hi:l[i]?=some c):∀S w ρ a,HRel S w ρ H.get→FRel S w ρ a n F→Yld P S w ρ a ty (.index t x y) (.int .u8 (c.toNat:Int)):=λS w ρ a hr G=>
 p_idxS G.fr (NC J ht) (ao G hx) (ao G hy) hi
def uz(F:Fm)(y:Option Operand)(i:Nat)(dflt:Nat):Prop:=(y=none∧i=dflt)∨∃z,y=some z∧aL F z=some (.int .i64 (i:Int))
theorem xy:uz F none i i:=.inl ⟨rfl,rfl⟩
theorem xe{z:Operand}{d:Nat}(h:aL F z=some (.int .i64 (i:Int))):uz F (some z) i d:=.inr ⟨z,rfl,h⟩
theorem yK{w:World}(G:FRel S w ρ a n F){y:Option Operand}{d:Nat}(h:uz F y i d):(y=none∧i=d)∨∃z,y=some z∧Opd S w ρ a z (.int .i64 (i:Int)):=h.imp _root_.id λ⟨z,e,h⟩=>⟨z,e,ao G h⟩
theorem ySS(Z:TabOk P T){lo hi:Option Operand}{l r:List UInt8}(ht:(match T.ty t with|some ⟨_,_,_,.str⟩=>true|_=>false)=true)(hx:aL F x=some (.str l))(J:uz F lo i 0)(O:uz F hi j l.length)(U:i≤j)(hj:j≤l.length)(he:(l.drop i).take (j-i)=r):∀S w ρ a,HRel S w ρ H.get→FRel S w ρ a n F→Yld P S w ρ a ty (.slice t x lo hi none) (.str r):=λS w ρ a hr G=>by
 subst he;exact Kp G.fr (NC Z ht) (ao G hx) (yK G J) (yK G O) U hj
theorem ySR(Z:TabOk P T){lo hi:Option Operand}(ht:slT T t=some (e,sz))(hx:aL F x=some (.row sz els))(J:uz F lo i 0)(O:uz F hi j els.length)(U:i≤j)(hj:j≤els.length)(he:(els.drop i).take (j-i)=els'):∀S w ρ a,HRel S w ρ H.get→FRel S w ρ a n F→Yld P S w ρ a ty (.slice t x lo hi none) (.row sz els'):=λS w ρ a hr G=>by
 subst he;exact KC G.fr (oI Z ht).1 (oI Z ht).2 (ao G hx) (yK G J) (yK G O) U hj
theorem IY{lo hi:Option Operand}(U:els.length=N)(Z:TabOk P T)(ht:slT T t=some (e,sz))(hx:aL F x=some (.row sz els))(G:uz F lo i 0)(J:uz F hi j N)(O:i≤j)(hj:j≤N)(he:(els.drop i).take (j-i)=els'):∀S w ρ a,HRel S w ρ H.get→FRel S w ρ a n F→Yld P S w ρ a ty (.slice t x lo hi none) (.row sz els'):=by
 subst U;exact ySR Z ht hx G J O hj he
theorem yl(l:List α)(i:Nat):(l.drop i).take (l.length-i)=l.drop i:=by
 rw[List.take_of_length_le (by simp)]
theorem uF(l:List α)(j:Nat):(l.drop 0).take (j-0)=l.take j:=by simp
theorem aG{y:Operand}{v:V}(hi:els[i]?=some v)(G:TabOk P T)(ht:slT T t=some (e,sz))(hx:aL F x=some (.row sz els))(hy:aL F y=some (.int .i64 (i:Int)))(J:v.cells=cs):∀S w ρ a,HRel S w ρ H.get→FRel S w ρ a n F→Yld P S w ρ a ty (.indexAddr t x y) (.box cs 0):=by
 subst J;exact yIR G ht hx hy hi
theorem La{f:Nat→Option Value}{w:World}{y:Operand}{m l:Int}(h:Fr a n f)(hx:aB f x=some (.int .i64 m))(hy:aB f y=some (.int .i64 l))(hb:InI (m*l)):Runs P a ty (.binOp .mul t x y u) w (.value (.int .i64 (m*l))) w:=λ_ _ _ _=>by
 have e:IntKind.i64.wrap (m*l)=m*l:=IntWalk.i64_in _ (by omega);simp only[execOp,h.eval hx,h.eval hy];simp[go_sem,eqGuard,e]
theorem zd{w:World}(d:Nat)(A:Option Addr)(k c:Nat)(ht:P.underlying t=some (.slice e)):(Op.equalIn (d+1) t (.slice A k c) (.slice none 0 0)).run P w=.ok A.isNone w:=by
 cases A<;>simp[Op.equalIn,run_underlying ht]
theorem AD{w:World}(A:Option Addr)(k c:Nat)(ht:P.underlying t=some (.slice e)):(Op.equal t (.slice A k c) (.slice none 0 0)).run P w=.ok A.isNone w:=zd 9999 A k c ht
theorem Ng{f:Nat→Option Value}{w:World}{A:Option Addr}{c:Nat}(h:Fr a n f)(ht:P.underlying t=some (.slice e))(hx:aB f x=some (.slice A k c)):Runs P a ty (.binOp .eql t x (.const (.slice none 0 0)) u) w (.value (.bool A.isNone)) w:=λ_ _ _ _=>by
 have hb:(binOp .eql t (.slice A k c) (.slice none 0 0)).run P w=.ok (.bool A.isNone) w:=by simp only[binOp];simp[AD A k c ht]
 simp only[execOp,h.eval hx];simp[go_sem,eqGuard,hb]
def JS(h:Nat→Ob):V→Bool
 |.row _ _=>true
 |.sl i=>match h i with|.row _ _ _=>true|_=>false
 |.nils=>true
 |_=>false
def JC(h:Nat→Ob):V→Nat
 |.row _ els=>els.length
 |.sl i=>match h i with|.row _ _ els=>els.length|_=>0
 |_=>0
theorem Li{w:World}{v:V}{x:Value}(hr:HRel S w ρ h)(hs:JS h v=true)(hx:VRel S w ρ v x):∃A k c,x=.slice A k c∧(A.isNone=true→JC h v=0):=by
 unfold JS at hs;split at hs
 ·simp only[VRel]at hx;obtain⟨A,c,xs,rfl,_,_,_,O⟩:=hx;refine⟨_,_,_,rfl,λG=>?_⟩;refine Nat.eq_zero_of_not_pos λU=>?_;obtain⟨b,off,rfl,_⟩:=O.2 U;cases G
 ·split at hs
  ·rename_i J;obtain⟨v,xs,h1,h2,_⟩:=lz hr J;simp only[VRel]at hx;rw[h1]at hx;obtain⟨e,_⟩:=hx;injection e with e;subst e
   rcases h2.2 with⟨rfl,Z⟩|⟨_,_,_,rfl,_⟩
   ·exact⟨_,_,_,rfl,λ_=>by simp only[JC,J];exact Z⟩
   ·exact⟨_,_,_,rfl,λG=>by cases G⟩
  ·cases hs
 ·simp only[VRel]at hx;subst hx;exact⟨_,_,_,rfl,λ_=>rfl⟩
 ·cases hs
theorem Oq{v:V}{ps:String}{af:Array Edge}(J:TabOk P T)(O:bm F all g=some true)(ht:slT T t=some (e,sz))(hx:aL F x=some v)(hv:JS H.get v=true)(U:JC H.get v=N)(k:∀b:Bool,(b=true→N=0)→Go P K Q (.ops all rest) s n (F.seto d (some (.bool b))) H):Go P K Q (.ops all (⟨d,.binOp .eql t x (.const (.slice none 0 0)) u,ty,ps,af,g⟩::rest)) s n F H:=λS w ρ a hr hi G=>by
 show wpList P all (eK P Q s) (⟨d,.binOp .eql t x (.const (.slice none 0 0)) u,ty,ps,af,g⟩::rest) a w;unfold wpList;rw[if_pos (cc G O)];refine .inl ?_;obtain⟨y,h1,h2⟩:=ao G hx;obtain⟨A,kk,c,rfl,Z⟩:=Li hr hv h2;have :=Ng (P:=P) (w:=w) (ty:=ty) (u:=u) G.fr (oI J ht).1 h1;unfold Oper.wp;rw[this d ps af g];exact k A.isNone (λhb=>by subst U;exact Z (by simpa using hb)) S w ρ _ hr hi (cH G d (by simp only[VRel]))
theorem FI{y:Operand}{m l:Int}(hx:aL F x=some (.int .i64 m))(hy:aL F y=some (.int .i64 l))(hb:InI (m*l)):∀S w ρ a,HRel S w ρ H.get→FRel S w ρ a n F→Yld P S w ρ a ty (.binOp .mul t x y u) (.int .i64 (m*l)):=λS w ρ a hr G=>⟨_,by simp only[VRel],λw' _=>La G.fr (bn (ao G hx)) (bn (ao G hy)) hb⟩
theorem fW{v:V}{G:Hp}(O:bC PL P fid us H0 (λu G'=>u=v∧G'=G))(σ:List Nat)(hv:be vs (renL σ us))(hH:leH σ H H0.es)(U:(db σ&&Nat.beq σ.length H0.nx&&σ.all λi=>Nat.blt i H.nx)=true)(L:List Nat)(Z:(dk H.get L&&L.all λi=>!σ.contains i)=true):
  CallR P K fid vs H L (λJ H''=>J=v.ren (sgN PL H.nx H0.get G.nx σ 0)∧H''=nl PL H σ H0 G):=λS w ρ xs hr hi hx=>
 (uB O σ hv hH U L Z S w ρ xs hr hi hx).mono λe w' hh=>by
  obtain⟨x,S',ρ',J,H',h1,⟨u,G',⟨q1,q2⟩,e1,e2⟩,h3⟩:=hh;subst q1 q2;exact⟨x,S',ρ',J,H',h1,⟨e1,e2⟩,h3⟩
theorem qe{o:Oper}{L:List Nat}{ok:Bool}{v:Option V}(ed:ED)(Z:∀S w ρ a,HRel S w ρ H.get→FRel S w ρ a n F→Does P S w ρ H.get a o.type o.op v (ed.app H.get H.nx) ed.tch)(hl:ed.ok H.get)(hc:((dk H.get L&&ed.clear L)||ok)=true):nE P K o L ok n F H (v.getD (.tup [])) (H.app ed):=λS w ρ a hr hi hF Q' K2 k=>by
 obtain⟨nx,w',ρ',h1,h2,U⟩:=Z S w ρ a hr hF;have G:=h2.hr;have J:=hi.eff h2;rw[←Hp.get_app hl]at G J;have O:Ls ρ L w w'∨ok=true:=(wM hc).imp (λh=>by
  simp only[Bool.and_eq_true]at h;exact CM hr h2 h.1 h.2) _root_.id
 have kk:=λx hx=>k x S w' ρ' G J h2.up (sm hr h2) O hx;obtain⟨d,op,ty,ps,af,g⟩:=o;unfold Oper.wp;rw[h1 d ps af g];cases v with
 |none=>
  subst U;exact kk undef uE
 |some v=>
  obtain⟨x,rfl,h4⟩:=U;exact kk x h4
theorem En{f:Nat→Option Value}{w:World}{ty:TypeId}{y:Operand}{o len r:Nat}{i:Int}{k:Nat}(h:Fr a n f)(ht:P.underlying t=some (.array len e))(O:(P.info? e).map (·.size)=some sz)(hx:aB f x=some (.pointer (some ⟨b,o,none⟩)))(hy:aB f y=some (.int .i64 i))
  (U:i=(k:Int)) (G:k<len) (hr:o+k*sz=r):Runs P a ty (.indexAddr t x y) w (.value (.pointer (some ⟨b,r,none⟩))) w:=λ_ _ _ _=>by
 obtain⟨inf,hi,hs⟩:=Option.map_eq_some_iff.1 O;have J:(sizeOf e).run P w=.ok sz w:=by simp[sizeOf,typeInfo,hi,hs]
 subst U hr;simp only[execOp,h.eval hx,h.eval hy];simp[Instr.indexAt,asIntOf,run_underlying ht,Instr.sureAddr,J,G,mG]
theorem LRel.sub{w:World}{xs:List Value}(h:LRel S w ρ vs xs)(i j:Nat):LRel S w ρ ((vs.drop i).take j) ((xs.drop i).take j):=(h.drop i).take j
theorem yIA(hT:TabOk P T){y:Operand}{len o:Nat}{cs':List V}{td tz:TD}(ht:T.ty t=some tz)(G:(match tz.kind with|.arr l e'=>Nat.beq l len&&Nat.beq e e'|_=>false)=true)(U:T.ty e=some td)(hsz:td.size=sz)(hx:aL F x=some (.box cs o))(hy:aL F y=some (.int .i64 (k:Int)))(Z:k<len)(hc:(cs.drop (o+k*sz)).take sz=cs')(hl:o+k*sz+sz≤cs.length):
  ∀S w ρ a,HRel S w ρ H.get→FRel S w ρ a n F→Yld P S w ρ a ty (.indexAddr t x y) (.box cs' 0):=λS w ρ a hr hF=>by
 subst hc hsz;obtain⟨y0,h1,h2⟩:=ao hF hx;simp only[VRel]at h2;obtain⟨b,off,xs,rfl,hS,hb,J,hcell⟩:=h2;have O:P.underlying t=some (.array len e):=by
  split at G
  ·rename_i l e' he';simp only[Bool.and_eq_true]at G;have h3:=Nat.eq_of_beq_eq_true G.1;have h4:=Nat.eq_of_beq_eq_true G.2;subst h3 h4;exact(hT.ty _ _ ht).arr he'
  ·cases G
 refine⟨_,?_,λw' _=>En hF.fr O (hT.ty _ _ U).size h1 (bn (ao hF hy)) rfl Z rfl⟩;simp only[VRel];refine⟨b,off+o+k*td.size,(xs.drop (o+k*td.size)).take td.size,by simp,hS,hb,J.sub _ _,λj hj=>?_⟩;have hxl:=J.length;simp only[List.length_take,List.length_drop]at hj;rw[show off+o+k*td.size+j=off+(o+k*td.size+j) by omega,hcell _ (by omega),List.getElem?_take,if_pos (by omega),List.getElem?_drop]
theorem yMF{caps:List Operand}(hv:gc F caps=some vs):∀S w ρ a,HRel S w ρ H.get→FRel S w ρ a n F→Yld P S w ρ a ty (.makeFunc (.func fid) #[] caps.toArray) (.clo fid vs):=λS w ρ a hr G=>by
 obtain⟨xs,h1,h2⟩:=nS G hv;refine⟨.func (.func fid) #[] xs.toArray,by simp only[VRel];exact⟨xs,rfl,h2⟩,λw' _=>λ_ _ _ _=>?_⟩;have e:caps.toArray.map a.eval=xs.toArray:=by rw[←G.fr.vals h1];simp
 simp only[execOp,e];simp[Instr.makeFunc]
theorem OX{t:Tmp}{args:List Operand}{tys:Array TypeId}{caps:List V}{v:V}{ty:TypeId}{ps:String}{af:Array Edge}(hS:qF P fid us v)(he:bX P fid=true)(hw:bm F all g=some true)(hf:aL F (.tmp t)=some (.clo fid caps))(hv:gc F args=some vs)(hs:be (vs++caps) us)(h1:F.puto d (some v) id=F1)
  (k:Go P K Q (.ops all rest) s n F1 H):Go P K Q (.ops all (⟨d,.call {callee:=.value (.tmp t),args:=args.toArray,argTypes:=tys},ty,ps,af,g⟩::rest)) s n F H:=λS w ρ a hr hi G=>by
 rw[Fm.puto_eq]at h1;subst h1;show wpList P all (eK P Q s) (⟨d,.call {callee:=.value (.tmp t),args:=args.toArray,argTypes:=tys},ty,ps,af,g⟩::rest) a w;unfold wpList;rw[if_pos (cc G hw)];refine .inl ?_;obtain⟨xs,h1,h2⟩:=nS G hv;obtain⟨y,h3,Z⟩:=ao G hf;simp only[VRel]at Z;obtain⟨ys,rfl,h5⟩:=Z;have hc:=pS (K:=K) (H:=H) hS hs [] rfl S w ρ (xs++ys) hr hi (h2.append h5);have hx:(execOp a.eval ⟨d,.call {callee:=.value (.tmp t),args:=args.toArray,argTypes:=tys},ty,ps,af,g⟩).run P w=.ok (.enter fid (xs++ys).toArray) w:=by
  have e:args.toArray.map a.eval=xs.toArray:=by rw[←G.fr.vals h1];simp
  have e2:a.eval (.tmp t)=.func (.func fid) #[] ys.toArray:=G.fr.eval h3;simp only[execOp,resolve,e,e2];simp[Deferred.ofValue,invoke,kA he]
 unfold Oper.wp;rw[hx,Oper.upon_enter];refine hc.mono λe w1 hR=>?_;obtain⟨x,S',ρ',v',H',rfl,⟨rfl,rfl⟩,J,O,hu,U,_⟩:=hR;exact k S' w1 ρ' _ J O (cH (G.up hu) d U)
theorem gYd{v:V}(i:Nat)(hi:all[i]?=some o)(G:(!Nat.beq i m&&Region.free .any all listed i&&(Region.ready .any all listed).contains i)=true)(hy:∀S w ρ a,HRel S w ρ H.get→FRel S w ρ a n F→Yld P S w ρ a o.type o.op v)(J:bm F all o.guard=some true)(h1:F.puto o.dst (some v) id=F1)(k:Go P K Q (.drw all L m fuel (listed.setIfInBounds i true)) s n F1 H):Go P K Q (.drw all L m (fuel+1) listed) s n F H:=by
 rw[Fm.puto_eq]at h1;subst h1;simp only[Bool.and_eq_true,Bool.not_eq_true']at G;exact Kt G.1.1 hi G.1.2 G.2 J hy k
theorem bU{v:V}(i:Nat)(hi:all[i]?=some o)(G:Region.ready .any all listed=[i])(hy:∀S w ρ a,HRel S w ρ H.get→FRel S w ρ a n F→Yld P S w ρ a o.type o.op v)(J:bm F all o.guard=some true)(h1:F.puto o.dst (some v) id=F1)(k:Go P K Q (.drw all L m fuel (listed.setIfInBounds i true)) s n F1 H):Go P K Q (.drw all L m (fuel+1) listed) s n F H:=by
 rw[Fm.puto_eq]at h1;subst h1;exact IQ G hi J hy k
theorem gDo{v:Option V}(ed:ED)(G:∀S w ρ a,HRel S w ρ H.get→FRel S w ρ a n F→Does P S w ρ H.get a o.type o.op v (ed.app H.get H.nx) ed.tch)(J:ed.ok H.get)(O:bm F all o.guard=some true)(h1:F.puto o.dst (Cz v) id=F1)(h2:H.ap ed id=H1)(k:Go P K Q (.ops all rest) s n F1 H1):Go P K Q (.ops all (o::rest)) s n F H:=by
 rw[Fm.puto_eq]at h1;rw[Hp.ap_eq]at h2;subst h1 h2;exact go_opD O G J k
theorem cb{v:Option V}(i:Nat)(ed:ED)(hi:all[i]?=some o)(G:Region.ready .any all listed=[i])(J:∀S w ρ a,HRel S w ρ H.get→FRel S w ρ a n F→Does P S w ρ H.get a o.type o.op v (ed.app H.get H.nx) ed.tch)(O:ed.ok H.get)(U:bm F all o.guard=some true)(Z:((dk H.get L&&ed.clear L)||(listed.setIfInBounds i true).getD m false)=true)(h1:F.puto o.dst (Cz v) id=F1)(h2:H.ap ed id=H1)(k:Go P K Q (.drw all L m fuel (listed.setIfInBounds i true)) s n F1 H1):Go P K Q (.drw all L m (fuel+1) listed) s n F H:=by
 rw[Fm.puto_eq]at h1;rw[Hp.ap_eq]at h2;subst h1 h2;exact Cl G hi U J O Z k
theorem ju{y:Operand}{by_ id:Nat}{news:List V}{v:V}{ty:TypeId}(G:TabOk P T)(ht:slB T t=some (e,sz,by_))(hx:aL F x=some (.sl id))(J:H.get id=.row e sz els)(hy:aL F y=some v)(hs:Bg H.get sz v=some news)(O:els++news=els')(hb:els'.length≤1000000000):
  ∀S w ρ a,HRel S w ρ H.get→FRel S w ρ a n F→Does P S w ρ H.get a ty (.call {callee:=.builtin .append,args:=#[x,y],argTypes:=#[t,t]}) (some (.sl H.nx)) ((ED.repl id (.row e sz els')).app H.get H.nx) (ED.repl id (.row e sz els')).tch:=by
 subst O;exact dAp G ht hx J hy hs (by simpa using hb)
theorem okR{id:Nat}(G:H.get id=.row e sz els):(ED.repl id o').ok H.get:=by exact⟨by rw[G];simp,by rw[G];simp⟩
theorem okS{id:Nat}(G:H.get id=.row e sz els):(ED.set id o').ok H.get:=by exact⟨by rw[G];simp,by rw[G];simp⟩
theorem dTr(J:TabOk P T){y:Operand}{id:Nat}{ty:TypeId}(ht:slT T t=some (e,sz))(hx:aL F x=some (.sl id))(O:H.get id=.row e sz els)(hy:aL F y=some (.int .i64 (k:Int)))(U:k≤els.length)(Z:els.take k=els'):
  ∀S w ρ a,HRel S w ρ H.get→FRel S w ρ a n F→Does P S w ρ H.get a ty (.slice t x none (some y) none) (some (.sl H.nx)) ((ED.repl id (.row e sz els')).app H.get H.nx) (ED.repl id (.row e sz els')).tch:=λS w ρ a hr G=>by
 subst Z;exact EB hr G.fr H.get_free (ao G hx) (ao G hy) O (oI J ht).1 (oI J ht).2 U
theorem dLe(O:TabOk P T){id o:Nat}{v0 v:V}{td:TD}(ht:T.ty t=some td)(hx:aL F x=some (.el id sz i o))(J:H.get id=.row e sz els)(hi:els[i]?=some v0)(hv:ot td v0.cells o=some v):
  ∀S w ρ a,HRel S w ρ H.get→FRel S w ρ a n F→Does P S w ρ H.get a ty (.load t x) (some v) (ED.nop.app H.get H.nx) ED.nop.tch:=λS w ρ a hr G=>by
 rcases pJ (O.ty _ _ ht) hv with⟨h1,h2⟩|⟨h1,h2,rfl⟩
 ·exact Ew hr G.fr (ao G hx) J h1 hi h2
 ·exact CC hr G.fr (ao G hx) J h1 hi h2
theorem dSe(U:TabOk P T){y:Operand}{id o:Nat}{v0 v:V}{td:TD}(ht:T.ty t=some td)(hx:aL F x=some (.el id sz i o))(hy:aL F y=some v)(Z:H.get id=.row e sz els)(hi:els[i]?=some v0)(O:(Nat.beq v.cells.length td.size&&v.cells.all V.one&&Nat.ble (o+td.size) v0.cells.length&&(match v0 with|.agg _=>true|v0=>v0.one&&v.one))=true)(he:els.set i (v0.over o v.cells)=els'):
  ∀S w ρ a,HRel S w ρ H.get→FRel S w ρ a n F→Does P S w ρ H.get a ty (.store t x y) none ((ED.set id (.row e sz els')).app H.get H.nx) (ED.set id (.row e sz els')).tch:=λS w ρ a hr G=>by
 subst he;simp only[Bool.and_eq_true]at O;obtain⟨⟨⟨h1,h2⟩,h3⟩,J⟩:=O;exact yg hr G.fr (ao G hx) (ao G hy) Z (U.ty _ _ ht).size hi (Nat.eq_of_beq_eq_true h1) h2 (Nat.le_of_ble_eq_true h3) (by
  cases v0 with
  |agg cs=>exact .inl ⟨cs,rfl⟩
  |_=>simp only[Bool.and_eq_true]at J;exact .inr ⟨uY J.1,uY J.2⟩)
end
abbrev qS(f:FuncId)(a:List V)(r:V):Prop:=qF prog f a r
abbrev qLG(K:Ctx)(fn:Func)(Q:V→Hp→Prop)(c:Code)(s:List EI)(n:Nat)(F:Fm)(H:Hp):Prop:=Go prog K (bodyPost prog fn (SP K Q)) (.code c) s n F H
variable{A B C D:Prop}
section
variable{P:Program}{K:Ctx}{Q:Exit→Act→World→Prop}{p:EP}{s:List EI}{n:Nat}{F F1 F2 F3 F4:Fm}{H:Hp}
theorem qBh{e:Bool}(d:Nat)(G:F.get d=some (.bool e))(h1:F.put d (some (.bool true)) id=F1)(h2:F.put d (some (.bool false)) id=F2)(h:(A→C)∧(B→D))(a:e=true→A)(b:e=false→B)(kT:C→Go P K Q p s n F1 H)(kF:D→Go P K Q p s n F2 H):Go P K Q p s n F H:=gB d G h1 h2 (λz=>kT (h.1 (a z))) (λz=>kF (h.2 (b z)))
theorem qBi{e:Bool}(d:Nat)(G:F.get d=some (.bool e))(h1:F.put d (some (.bool true)) id=F1)(h2:F.put d (some (.bool false)) id=F2)(h:(e=true→C)∧(e=false→D))(kT:C→Go P K Q p s n F1 H)(kF:D→Go P K Q p s n F2 H):Go P K Q p s n F H:=qBh d G h1 h2 h id id kT kF
theorem qBe[BEq α][LawfulBEq α]{x y:α}(d:Nat)(G:F.get d=some (.bool (x==y)))(h1:F.put d (some (.bool true)) id=F1)(h2:F.put d (some (.bool false)) id=F2)(h:(x=y→C)∧(x≠y→D))(kT:C→Go P K Q p s n F1 H)(kF:D→Go P K Q p s n F2 H):Go P K Q p s n F H:=qBh d G h1 h2 h eq_of_beq ne_of_beq_false kT kF
theorem qBd{x:Prop}[Decidable x](d:Nat)(G:F.get d=some (.bool (decide x)))(h1:F.put d (some (.bool true)) id=F1)(h2:F.put d (some (.bool false)) id=F2)(h:(x→C)∧(¬x→D))(kT:C→Go P K Q p s n F1 H)(kF:D→Go P K Q p s n F2 H):Go P K Q p s n F H:=qBh d G h1 h2 h of_decide_eq_true of_decide_eq_false kT kF
theorem qBhZ{e:Bool}(d i:Nat)(G:F.get d=some (.bool e))(hi:Fm.get (F.set d none) i=some (.bool e))(h1:F.put d (some (.bool true)) (λF=>F.put i (some (.bool true)) id)=F3)(h2:F.put d (some (.bool false)) (λF=>F.put i (some (.bool false)) id)=F4)(h:(A→C)∧(B→D))(a:e=true→A)(b:e=false→B)(kT:C→Go P K Q p s n F3 H)(kF:D→Go P K Q p s n F4 H):Go P K Q p s n F H:=by
 rw[Fm.put_eq,Fm.put_eq]at h1 h2;have w (v:V):Fm.get (F.set d (some v)) i=some (.bool e):=by
  rw[Fm.get_eq,List.getElem?_set]at hi⊢;split at hi
  ·split at hi<;>simp at hi
  ·rename_i e;rw[if_neg e];exact hi
 exact gB d G (Fm.put_eq ..) (Fm.put_eq ..) (λz=>gT i (w _) z ((Fm.put_eq ..).trans h1) (kT (h.1 (a z)))) (λz=>gF i (w _) z ((Fm.put_eq ..).trans h2) (kF (h.2 (b z))))
theorem qBiZ{e:Bool}(d i:Nat)(G:F.get d=some (.bool e))(hi:Fm.get (F.set d none) i=some (.bool e))(h1:F.put d (some (.bool true)) (λF=>F.put i (some (.bool true)) id)=F3)(h2:F.put d (some (.bool false)) (λF=>F.put i (some (.bool false)) id)=F4)(h:(e=true→C)∧(e=false→D))(kT:C→Go P K Q p s n F3 H)(kF:D→Go P K Q p s n F4 H):Go P K Q p s n F H:=qBhZ d i G hi h1 h2 h id id kT kF
theorem qBeZ[BEq α][LawfulBEq α]{x y:α}(d i:Nat)(G:F.get d=some (.bool (x==y)))(hi:Fm.get (F.set d none) i=some (.bool (x==y)))(h1:F.put d (some (.bool true)) (λF=>F.put i (some (.bool true)) id)=F3)(h2:F.put d (some (.bool false)) (λF=>F.put i (some (.bool false)) id)=F4)(h:(x=y→C)∧(x≠y→D))(kT:C→Go P K Q p s n F3 H)(kF:D→Go P K Q p s n F4 H):Go P K Q p s n F H:=qBhZ d i G hi h1 h2 h eq_of_beq ne_of_beq_false kT kF
theorem qBdZ{x:Prop}[Decidable x](d i:Nat)(G:F.get d=some (.bool (decide x)))(hi:Fm.get (F.set d none) i=some (.bool (decide x)))(h1:F.put d (some (.bool true)) (λF=>F.put i (some (.bool true)) id)=F3)(h2:F.put d (some (.bool false)) (λF=>F.put i (some (.bool false)) id)=F4)(h:(x→C)∧(¬x→D))(kT:C→Go P K Q p s n F3 H)(kF:D→Go P K Q p s n F4 H):Go P K Q p s n F H:=qBhZ d i G hi h1 h2 h of_decide_eq_true of_decide_eq_false kT kF
end
section
variable{K:Ctx}{Q:Exit→Act→World→Prop}{s:List EI}{n:Nat}{F:Fm}{H H0 H1:Hp}{all:Array Oper}{rest:List Oper}{L PL:List Nat}{m fuel:Nat}{listed:Array Bool}{fid:FuncId}{args:List Operand}{tys:Array TypeId}{vs us:List V}{v1:V}{d:Option Tmp}{ty:TypeId}{ps:String}{af:Array Edge}{g:Option (Nat×Bool)}
theorem gCZ(G:bC PL prog fid us H0 (λv H'=>v=v1∧H'=H1))(σ:List Nat)(hH:leH σ H H0.es)(k:Go prog K Q (.ops all rest) s n (F.seto d (some (v1.ren (sgN PL H.nx H0.get H1.nx σ 0)))) (nl PL H σ H0 H1))(J:bX prog fid=true:=by kernel_rfl)(O:bm F all g=some true:=by rfl)(hv:gc F args=some vs:=by rfl)(hs:be vs (renL σ us):=by exact .rfl)(U:(db σ&&Nat.beq σ.length H0.nx&&σ.all λi=>Nat.blt i H.nx)=true:=by rfl):Go prog K Q (.ops all (⟨d,.call {callee:=.value (.func fid),args:=args.toArray,argTypes:=tys},ty,ps,af,g⟩::rest)) s n F H:=gC G σ J O hv hs hH U λ_ _ ⟨Z,e2⟩=>by subst Z e2;exact k
end
theorem pqq{v:V}:∃u,some v=some u∧cm u v:=⟨v,rfl,cm.rfl⟩
variable{a0:V}
theorem pq1:(∃u,some a0=some u∧cm u a0)∧True:=⟨pqq,trivial⟩
variable{a1:V}
theorem pq2:(∃u,some a0=some u∧cm u a0)∧(∃u,some a1=some u∧cm u a1)∧True:=⟨pqq,pqq,trivial⟩
theorem pq3{G:V}:(∃u,some a0=some u∧cm u a0)∧(∃u,some a1=some u∧cm u a1)∧(∃u,some G=some u∧cm u G)∧True:=⟨pqq,pqq,pqq,trivial⟩
theorem pq4{G J:V}:(∃u,some a0=some u∧cm u a0)∧(∃u,some a1=some u∧cm u a1)∧(∃u,some G=some u∧cm u G)∧(∃u,some J=some u∧cm u J)∧True:=⟨pqq,pqq,pqq,pqq,trivial⟩
theorem pq7{G J O U Z:V}:(∃u,some a0=some u∧cm u a0)∧(∃u,some a1=some u∧cm u a1)∧(∃u,some G=some u∧cm u G)∧(∃u,some J=some u∧cm u J)∧(∃u,some O=some u∧cm u O)∧(∃u,some U=some u∧cm u U)∧(∃u,some Z=some u∧cm u Z)∧True:=⟨pqq,pqq,pqq,pqq,pqq,pqq,pqq,trivial⟩
theorem pqo{x:Option Nat}(h1:x=some i)(h2:H.get i=.var t cs):∃i,x=some i∧lL (H.get i) (.var t cs):=⟨i,h1,by rw[h2];exact⟨rfl,be.rfl⟩⟩
theorem pqo1{G:Option Nat}{J:Nat}{t0:TypeId}{c0:List V}(O:G=some J)(k0:H.get J=.var t0 c0):(∃i,G=some i∧lL (H.get i) (.var t0 c0))∧True:=⟨pqo O k0,trivial⟩
theorem pqo2{G:Option Nat}{J:Nat}{t0:TypeId}{c0:List V}(h0:G=some J)(k0:H.get J=.var t0 c0){O:Option Nat}{U:Nat}{Z:TypeId}{c1:List V}(h1:O=some U)(k1:H.get U=.var Z c1):(∃i,G=some i∧lL (H.get i) (.var t0 c0))∧(∃i,O=some i∧lL (H.get i) (.var Z c1))∧True:=⟨pqo h0 k0,pqo h1 k1,trivial⟩
theorem pqo3{G:Option Nat}{J:Nat}{t0:TypeId}{c0:List V}(h0:G=some J)(k0:H.get J=.var t0 c0){O:Option Nat}{U:Nat}{Z:TypeId}{c1:List V}(h1:O=some U)(k1:H.get U=.var Z c1){x2:Option Nat}{i2:Nat}{t2:TypeId}{c2:List V}(h2:x2=some i2)(k2:H.get i2=.var t2 c2):(∃i,G=some i∧lL (H.get i) (.var t0 c0))∧(∃i,O=some i∧lL (H.get i) (.var Z c1))∧(∃i,x2=some i∧lL (H.get i) (.var t2 c2))∧True:=⟨pqo h0 k0,pqo h1 k1,pqo h2 k2,trivial⟩
section
variable{P:Program}{K:Ctx}{Q:Exit→Act→World→Prop}{p:EP}{s:List EI}{n:Nat}{F F1 F2 F3 F4:Fm}{H:Hp}
theorem qXh{e:Bool}(d:Nat)(G:F.get d=some (.bool e))(h1:F.put d (some (.bool true)) id=F1)(h2:F.put d (some (.bool false)) id=F2)(h:(A→C)∧(B→D))(a:e=true→A)(b:e=false→B)(kT:A→C→Go P K Q p s n F1 H)(kF:B→D→Go P K Q p s n F2 H):Go P K Q p s n F H:=gB d G h1 h2 (λz=>kT (a z) (h.1 (a z))) (λz=>kF (b z) (h.2 (b z)))
theorem qXi{e:Bool}(d:Nat)(G:F.get d=some (.bool e))(h1:F.put d (some (.bool true)) id=F1)(h2:F.put d (some (.bool false)) id=F2)(h:(e=true→C)∧(e=false→D))(kT:e=true→C→Go P K Q p s n F1 H)(kF:e=false→D→Go P K Q p s n F2 H):Go P K Q p s n F H:=qXh d G h1 h2 h id id kT kF
theorem qXe[BEq α][LawfulBEq α]{x y:α}(d:Nat)(G:F.get d=some (.bool (x==y)))(h1:F.put d (some (.bool true)) id=F1)(h2:F.put d (some (.bool false)) id=F2)(h:(x=y→C)∧(x≠y→D))(kT:x=y→C→Go P K Q p s n F1 H)(kF:x≠y→D→Go P K Q p s n F2 H):Go P K Q p s n F H:=qXh d G h1 h2 h eq_of_beq ne_of_beq_false kT kF
theorem qXd{x:Prop}[Decidable x](d:Nat)(G:F.get d=some (.bool (decide x)))(h1:F.put d (some (.bool true)) id=F1)(h2:F.put d (some (.bool false)) id=F2)(h:(x→C)∧(¬x→D))(kT:x→C→Go P K Q p s n F1 H)(kF:¬x→D→Go P K Q p s n F2 H):Go P K Q p s n F H:=qXh d G h1 h2 h of_decide_eq_true of_decide_eq_false kT kF
theorem qXhZ{e:Bool}(d i:Nat)(G:F.get d=some (.bool e))(hi:Fm.get (F.set d none) i=some (.bool e))(h1:F.put d (some (.bool true)) (λF=>F.put i (some (.bool true)) id)=F3)(h2:F.put d (some (.bool false)) (λF=>F.put i (some (.bool false)) id)=F4)(h:(A→C)∧(B→D))(a:e=true→A)(b:e=false→B)(kT:A→C→Go P K Q p s n F3 H)(kF:B→D→Go P K Q p s n F4 H):Go P K Q p s n F H:=qBhZ (A:=A) (B:=B) (C:=A∧C) (D:=B∧D) d i G hi h1 h2 ⟨λx=>⟨x,h.1 x⟩,λx=>⟨x,h.2 x⟩⟩ a b (λz=>kT z.1 z.2) (λz=>kF z.1 z.2)
theorem qXiZ{e:Bool}(d i:Nat)(G:F.get d=some (.bool e))(hi:Fm.get (F.set d none) i=some (.bool e))(h1:F.put d (some (.bool true)) (λF=>F.put i (some (.bool true)) id)=F3)(h2:F.put d (some (.bool false)) (λF=>F.put i (some (.bool false)) id)=F4)(h:(e=true→C)∧(e=false→D))(kT:e=true→C→Go P K Q p s n F3 H)(kF:e=false→D→Go P K Q p s n F4 H):Go P K Q p s n F H:=qXhZ d i G hi h1 h2 h id id kT kF
theorem qXeZ[BEq α][LawfulBEq α]{x y:α}(d i:Nat)(G:F.get d=some (.bool (x==y)))(hi:Fm.get (F.set d none) i=some (.bool (x==y)))(h1:F.put d (some (.bool true)) (λF=>F.put i (some (.bool true)) id)=F3)(h2:F.put d (some (.bool false)) (λF=>F.put i (some (.bool false)) id)=F4)(h:(x=y→C)∧(x≠y→D))(kT:x=y→C→Go P K Q p s n F3 H)(kF:x≠y→D→Go P K Q p s n F4 H):Go P K Q p s n F H:=qXhZ d i G hi h1 h2 h eq_of_beq ne_of_beq_false kT kF
theorem qXdZ{x:Prop}[Decidable x](d i:Nat)(G:F.get d=some (.bool (decide x)))(hi:Fm.get (F.set d none) i=some (.bool (decide x)))(h1:F.put d (some (.bool true)) (λF=>F.put i (some (.bool true)) id)=F3)(h2:F.put d (some (.bool false)) (λF=>F.put i (some (.bool false)) id)=F4)(h:(x→C)∧(¬x→D))(kT:x→C→Go P K Q p s n F3 H)(kF:¬x→D→Go P K Q p s n F4 H):Go P K Q p s n F H:=qXhZ d i G hi h1 h2 h of_decide_eq_true of_decide_eq_false kT kF
theorem qG{l:List α}{x:α}(h:l[i]?=some x):i<l.length:=(List.getElem?_eq_some_iff.1 h).1
theorem qj{m:Nat}{R:Ctx→Prop}{B:Ctx→Nat→Prop}(h:∀K j,R K→m+1≤j+1→B K (j+1)):∀K j,R K→m+1≤j→B K j:=λK j a b=>by
 obtain⟨j,rfl⟩:∃i,j=i+1:=⟨j-1,by omega⟩;exact h K j a b
end
section
variable{P:Program}{T:Tab}{K:Ctx}{Q:Exit→Act→World→Prop}{p:EP}{s:List EI}{n:Nat}{F F':Fm}{H H':Hp}{pv:List Nat}
theorem qJ(G:az K pv)(k:Go P K Q p s n F' H')(σ:List Nat)(J:leF σ F F':=by repeat (first|exact trivial|refine⟨pqq,?_⟩))(hH:leH σ H H'.es:=by repeat (first|exact trivial|refine⟨⟨_,rfl,by first|exact⟨rfl,be.rfl⟩|exact⟨rfl,rfl,(pj _ _ (λ_=>rfl) _).symm⟩|exact⟨rfl,rfl,(zz _ _).symm⟩|exact⟨rfl,rfl,rfl⟩|exact⟨rfl,rfl,rfl,rfl⟩⟩,?_⟩))(O:p.still=true:=by rfl)(U:(db σ&&Nat.ble σ.length H'.nx&&uK σ pv&&Nat.ble F'.length n)=true:=by rfl):Go P K Q p s n F H:=go_sub σ pv O G J hH U k
theorem qW{m:Nat}{Q:Ctx→Exit→Act→World→Prop}{s:Ctx→Nat→List EI}(G:az K pv)(h:∀K j,az K pv→m≤j→Go P K (Q K) p (s K j) n F' H')(σ:List Nat)(J:leF σ F F':=by repeat (first|exact trivial|refine⟨pqq,?_⟩))(hH:leH σ H H'.es:=by repeat (first|exact trivial|refine⟨⟨_,rfl,by first|exact⟨rfl,be.rfl⟩|exact⟨rfl,rfl,(pj _ _ (λ_=>rfl) _).symm⟩|exact⟨rfl,rfl,(zz _ _).symm⟩|exact⟨rfl,rfl,rfl⟩|exact⟨rfl,rfl,rfl,rfl⟩⟩,?_⟩))(O:p.still=true:=by rfl)(U:(db σ&&Nat.ble σ.length H'.nx&&uK σ pv&&Nat.ble F'.length n)=true:=by rfl)(Z:m≤j:=by omega):Go P K (Q K) p (s K j) n F H:=go_sub σ pv O G J hH U (h K j G Z)
theorem qJH(G:az K pv)(k:Go P K Q p s n F' H')(σ:List Nat)(hH:leH σ H H'.es)(J:leF σ F F':=by repeat (first|exact trivial|refine⟨pqq,?_⟩))(O:p.still=true:=by rfl)(U:(db σ&&Nat.ble σ.length H'.nx&&uK σ pv&&Nat.ble F'.length n)=true:=by rfl):Go P K Q p s n F H:=go_sub σ pv O G J hH U k
theorem gE{fn:Func}{v0:V}{H0:Hp}{vs:List V}{e:Exit}(J:az K pv)(X:List (Nat×Ob))(L:List (Nat×V))(σ:List Nat)(rs:List ResultVar)(hF:leF σ F (mkF n 0 L):=by repeat (first|exact trivial|refine⟨pqq,?_⟩))(hH:leH σ H (X++H0.es):=by repeat (first|exact trivial|refine⟨⟨_,rfl,by first|exact⟨rfl,be.rfl⟩|exact⟨rfl,rfl,(pj _ _ (λ_=>rfl) _).symm⟩|exact⟨rfl,rfl,(zz _ _).symm⟩|exact⟨rfl,rfl,rfl⟩|exact⟨rfl,rfl,rfl,rfl⟩⟩,?_⟩))(hc:(db σ&&Nat.ble σ.length H0.nx&&uK σ pv&&Nat.ble (mkF n 0 L).length n)=true:=by rfl)(O:fn.results=rs.toArray:=by rfl)(hv:sD zJ (⟨H0.nx,X++H0.es⟩:Hp).get (mkF n 0 L) rs=some vs:=by rfl)(U:nK vs=v0:=by rfl)(Z:(⟨H0.nx,oZ (X.map (·.1)) (X++H0.es)⟩:Hp)=H0:=by rfl)(he:e=.ret∨e=.normal:=by first|exact .inl rfl|exact .inr rfl):Go prog K (bodyPost prog fn (SP K λu G=>u=v0∧G=H0)) (.ex e) [] n F H:=go_sub (F':=mkF n 0 L) (H':=⟨H0.nx,X++H0.es⟩) σ pv rfl J hF hH hc (KJ (X.map (·.1)) ah O hv ⟨U,Z⟩ he)
end
section
variable{K:Ctx}{Q:Exit→Act→World→Prop}{s:List EI}{n:Nat}{F F':Fm}{H H' H0 H1:Hp}{all:Array Oper}{rest:List Oper}{L PL:List Nat}{m fuel c:Nat}{listed:Array Bool}{fid:FuncId}{args:List Operand}{tys:Array TypeId}{vs us:List V}{v1:V}{d:Option Tmp}{ty:TypeId}{ps:String}{af:Array Edge}{g:Option (Nat×Bool)}
theorem qC(G:bC PL prog fid us H0 (λv H'=>v=v1∧H'=H1))(σ:List Nat)(k:Go prog K Q (.ops all rest) s n (F.seto d (some (v1.ren (sgN PL H.nx H0.get H1.nx σ 0)))) (nl PL H σ H0 H1))(J:bX prog fid=true:=by kernel_rfl)(O:bm F all g=some true:=by rfl)(hv:gc F args=some vs:=by rfl)(hs:be vs (renL σ us):=by exact .rfl)(hH:leH σ H H0.es:=by repeat (first|exact trivial|refine⟨⟨_,rfl,by first|exact⟨rfl,be.rfl⟩|exact⟨rfl,rfl,(pj _ _ (λ_=>rfl) _).symm⟩|exact⟨rfl,rfl,(zz _ _).symm⟩|exact⟨rfl,rfl,rfl⟩|exact⟨rfl,rfl,rfl,rfl⟩⟩,?_⟩))(U:(db σ&&Nat.beq σ.length H0.nx&&σ.all λi=>Nat.blt i H.nx)=true:=by rfl):Go prog K Q (.ops all (⟨d,.call {callee:=.value (.func fid),args:=args.toArray,argTypes:=tys},ty,ps,af,g⟩::rest)) s n F H:=gC G σ J O hv hs hH U λ_ _ ⟨Z,e2⟩=>by subst Z e2;exact k
theorem qDC(i:Nat)(J:bC PL prog fid us H0 (λv H'=>v=v1∧H'=H1))(σ:List Nat)(hi:all[i]?=some ⟨d,.call {callee:=.value (.func fid),args:=args.toArray,argTypes:=tys},ty,ps,af,g⟩)(k:Go prog K Q (.drw all L m fuel (listed.setIfInBounds i true)) s n (F.seto d (some (v1.ren (sgN PL H.nx H0.get H1.nx σ 0)))) (nl PL H σ H0 H1))(O:bX prog fid=true:=by kernel_rfl)(G:Region.ready .any all listed=[i]:=by kernel_rfl)(U:bm F all g=some true:=by rfl)(hv:gc F args=some vs:=by rfl)(hs:be vs (renL σ us):=by exact .rfl)(hH:leH σ H H0.es:=by repeat (first|exact trivial|refine⟨⟨_,rfl,by first|exact⟨rfl,be.rfl⟩|exact⟨rfl,rfl,(pj _ _ (λ_=>rfl) _).symm⟩|exact⟨rfl,rfl,(zz _ _).symm⟩|exact⟨rfl,rfl,rfl⟩|exact⟨rfl,rfl,rfl,rfl⟩⟩,?_⟩))(Z:(db σ&&Nat.beq σ.length H0.nx&&σ.all λi=>Nat.blt i H.nx)=true:=by kernel_rfl)(hL:(dk H.get L&&L.all λi=>!σ.contains i)=true:=by rfl):Go prog K Q (.drw all L m (fuel+1) listed) s n F H:=gDC i J σ O hi G U hv hs hH Z hL λ_ _ ⟨e1,e2⟩=>by subst e1 e2;exact k
theorem qC0{v:V}(G:qF prog fid us v)(h1:F.puto d (some v) id=F')(k:Go prog K Q (.ops all rest) s n F' H)(J:bX prog fid=true:=by kernel_rfl)(O:bm F all g=some true:=by rfl)(hv:gc F args=some vs:=by rfl)(hs:be vs us:=by exact .rfl):Go prog K Q (.ops all (⟨d,.call {callee:=.value (.func fid),args:=args.toArray,argTypes:=tys},ty,ps,af,g⟩::rest)) s n F H:=gC0 G J O hv hs h1 k
theorem qDe(k:Go prog K Q (.ex .normal) s n F H)(G:Region.ready .any all listed=[]:=by kernel_rfl):Go prog K Q (.drw all L m fuel listed) s n F H:=gDe G k
theorem qA{c:Code}(N:Nat)(pv:List Nat)(hf:prog.funcs[fid]?=some fn)(k:∀K,az K pv→Go prog K (bodyPost prog fn (SP K Post)) (.code c) [] N (nd N vs) H0)(hb:fn.body=some c:=by exact rfl)(J:fn.ntmps=N:=by exact rfl)(O:Nat.ble vs.length N=true:=by rfl)(G:∀i,ln PL i (H0.get i)=true→i∈pv:=by exact Ol rfl):bC PL prog fid vs H0 Post:=IS N pv hf hb J O G k
theorem qN{Post:V→Hp→Prop}{e:Exit}(rs:List ResultVar)(G:fn.results=rs.toArray:=by exact rfl)(hv:sD zJ H.get F rs=some vs:=by exact rfl)(J:Post (nK vs) H:=by exact rfl)(O:e=.ret∨e=.normal:=by first|exact .inl rfl|exact .inr rfl):Go prog K (bodyPost prog fn (SP K Post)) (.ex e) [] n F H:=Nj ah G hv J O
@[reducible] def qR : Nat → Nat → Nat → List (Nat × Nat) → List (Nat × Nat)
 |_,0,_,r=>r
 |i,n+1,f,r=>(i,f)::qR (i+1) n f r
theorem qDr(is:List (Nat×Nat))(G:is.length=c)(hr:oT zJ all L is F H=some (F',H'))(k:Go prog K Q (.drw all L m fuel (FK is listed)) s n F' H')(J:BW all m is listed=true:=by kernel_rfl):Go prog K Q (.drw all L m (fuel+c) listed) s n F H:=gDr is J G hr k
theorem qDs{id:Nat}(L:List Nat)(m sz:Nat)(k:Go prog K Q (.drw l.toArray L m sz (Array.replicate sz false)) s n F H)(hsz:l.length=sz:=by rfl)(G:prog.follows .mixedOrders=true:=by kernel_rfl)(hs:Region.noSelect l.toArray=true:=by kernel_rfl):Go prog K Q (.code (.region id l.toArray true)) s n F H:=gDs L m sz hsz G hs k
end
abbrev xA(c:Code):Code:=cB (cB c)
abbrev xB(c:Code):Code:=cL (cK c)
abbrev xC(c:Code):Code:=cB (cA c)
abbrev xD(c:Code):Code:=xB (xC c)
abbrev xE(c:Code):Code:=xA (cB c)
abbrev xF(c:Code):Code:=xA (xA c)
abbrev xG(c:Code):Code:=xD (xE c)
abbrev xH(c:Code):Code:=xD (xA c)
abbrev xI(c:Code):Code:=cE (cB c)
abbrev xJ(c:Code):Code:=xI (xI c)
abbrev xK(c:Code):Code:=cK (cA c)
abbrev xL(c:Code):Code:=xD (cB c)
abbrev xM(c:Code):Code:=xB (cB c)
abbrev xN(c:Code):Code:=cT (xC c)
set_option maxHeartbeats 4000000
abbrev vE(a0:Int)(a1:List UInt8):Ob:=.var 29 [.int .i64 a0,.str a1,.nils,.nils]
abbrev vC(a0:Int)(a1:List UInt8)(a2:List (List UInt8))(a3:List Tree):Ob:=.var 29 [.int .i64 a0,.str a1,.row 1 (List.map V.str a2),.row 4 (kidsV a3)]
def iV(G:Tree)(p1:List Int)(J:Tree)(O:Bool):Prop:=qS 27 [.agg (am G),.row 1 (List.map (V.int .i64) p1)] (.tup [.agg (am J),.bool O])
def cD(G p1:List Int)(J:Bool):Prop:=qS 21 [.row 1 (List.map (V.int .i64) G),.row 1 (List.map (V.int .i64) p1)] (.bool J)
def jt(G:(List (List UInt8)))(p1:(List (List UInt8)))(J:Bool):Prop:=qS 30 [.row 1 (List.map V.str G),.row 1 (List.map V.str p1)] (.bool J)
def nR(J O:List Int):Prop:=bC [0] prog 132 [.sl 0] ⟨1,[(0,.row 3 1 (List.map (V.int .i64) J))]⟩ (λu G=>u=.row 1 (List.map (V.int .i64) O)∧G=⟨1,[(0,.row 3 1 (List.map (V.int .i64) J))]⟩)
def kc(m:Nat)(p1:List Int)(a:Tree)(b:Nat)(J:Tree)(O:Bool):Prop:=∀(K:Ctx) (G:Nat),az K []→m≤G→qLG K f27 (λu _=>u=.tup [.agg (am J),.bool O]) (xL (ai f27)) [.loop (xL (ai f27)) G,.blk 0,.seq (xA (ai f27))] 38 (mkF 38 0 [(1,.row 1 (List.map (V.int .i64) p1)),(2,.ptr 0 0),(4,.ptr 1 0),(6,qi (b:Int))]) ⟨2,[(1,vE 0 []),(0,.var 29 (am a))]⟩
theorem wU(m:Nat)(p0:Tree)(p1:List Int)(r0:Tree)(r1:Bool)(h:kc m p1 p0 0 r0 r1):iV p0 p1 r0 r1:=by
 refine⟨rfl,rfl,?_⟩;refine qA 38 [] func27 λK hK=>?_;exact gR 14 rfl<|go_loop m<|qW hK h [0,1]
theorem qh(m:Nat)(p1:List Int)(a:Tree)(b:Nat)(G:Tree)(J:Bool)(h:((b<p1.length)→∃c,p1[b]?=some c∧((c<0)→(Tree.node 0 [] [] [])=G∧false=J)∧((¬c<0)→∃d,p1[b]?=some d∧(((a.kids.length:Int)≤d)→(Tree.node 0 [] [] [])=G∧false=J)∧((¬(a.kids.length:Int)≤d)→∃g,p1[b]?=some g∧∃e,g=((e:Nat):Int)∧∃i,a.kids[e]?=some i∧kc m p1 i (b+1) G J)))∧((¬b<p1.length)→a=G∧true=J)):kc (m+1) p1 a b G J:=by
 refine qj λK Z O r=>?_;refine gR 6 rfl<|gV 9 (qi (p1.length:Int)) rfl (aI (aH (V.int .i64) _)) rfl<|gLB 8 rfl (aH (V.int .i64) _) λp=>gR 3 rfl<|qXh 10 rfl rfl rfl h cr co ?_ ?_<;>intro U h;refine gR 7 rfl<|qDs [0] 12 15<|qDr [(0,2),(1,0)] rfl rfl ?_;obtain⟨c,j,h⟩:=h;refine bU 2 rfl (by kernel_rfl) (aG (aw (f:=(V.int .i64)) j) ah rfl rfl rfl rfl) rfl rfl ?_;refine qDr (qR 3 3 0 []) rfl rfl<|qXdZ 18 17 rfl rfl rfl rfl h ?_ ?_<;>intro U h;refine qDr (qR 6 4 2 (qR 10 4 0 [(14,1)])) rfl rfl<|qDe<|gR 13 rfl<|go_xloopR<|gR 2 rfl ?_;obtain⟨rfl,rfl⟩:=h;exact go_sub (F':=(mkF 38 0 [(4,.ptr 0 0),(5,.bool false)])) (H':=⟨1,[(0,vC ((Tree.node 0 [] [] []).kind) ((Tree.node 0 [] [] []).text) ((Tree.node 0 [] [] []).leads) ((Tree.node 0 [] [] []).kids))]⟩) [1] [] rfl O pq2 ⟨⟨_,rfl,rfl,(.cons .rfl (.cons .rfl (.cons (.nil 1) (.cons (.nil 4) .nil))))⟩,trivial⟩ rfl<|qN [.cell 4 29,.tmp 5];refine qDr [(6,2),(7,2)] rfl rfl ?_;obtain⟨d,k,h⟩:=h;refine gYd 8 rfl (by kernel_rfl) (aG (aw (f:=(V.int .i64)) k) ah rfl rfl rfl rfl) rfl rfl<|qDr [(9,2),(10,0),(11,0),(12,1)] rfl rfl<|gV 25 (qi (a.kids.length:Int)) rfl (aI (aD _)) rfl<|gLB 24 rfl (aD _) λq=>qDr [(13,1),(14,1)] rfl rfl<|qDe<|gR 1 rfl<|qXd 27 rfl rfl rfl h ?_ ?_<;>intro U h;refine gR 12 rfl<|go_xloopR<|gR 2 rfl ?_;obtain⟨rfl,rfl⟩:=h;exact go_sub (F':=(mkF 38 0 [(4,.ptr 0 0),(5,.bool false)])) (H':=⟨1,[(0,vC ((Tree.node 0 [] [] []).kind) ((Tree.node 0 [] [] []).text) ((Tree.node 0 [] [] []).leads) ((Tree.node 0 [] [] []).kids))]⟩) [1] [] rfl O pq2 ⟨⟨_,rfl,rfl,(.cons .rfl (.cons .rfl (.cons (.nil 1) (.cons (.nil 4) .nil))))⟩,trivial⟩ rfl<|qN [.cell 4 29,.tmp 5];refine gR 3 rfl<|qDs [0] 8 9<|qDr [(0,2),(1,3),(2,2),(3,0)] rfl rfl ?_;obtain⟨g,l,h⟩:=h;refine bU 4 rfl (by kernel_rfl) (aG (aw (f:=(V.int .i64)) l) ah rfl rfl rfl rfl) rfl rfl ?_;refine qDr [(5,0)] rfl rfl ?_;obtain⟨e,o,h⟩:=h;refine gV 34 (qi ((e:Nat):Int)) rfl (aK o) rfl ?_;obtain⟨i,n,h⟩:=h;refine bU 6 rfl (by kernel_rfl) (aG (aq n) ah rfl rfl rfl rfl) rfl rfl ?_;exact qDr [(7,0),(8,1)] rfl rfl<|qDe<|gR 5 rfl<|gV 12 (qi ((b+1:Nat):Int)) rfl (al (by have :=p;omega) (by omega)) rfl<|gR 2 rfl<|go_xloop<|qW O h [0,1];refine gR 3 rfl<|go_xloopE<|gR 10 rfl ?_;obtain⟨rfl,rfl⟩:=h;exact go_sub (F':=(mkF 38 0 [(4,.ptr 0 0),(5,.bool true)])) (H':=⟨1,[(0,vC a.kind a.text a.leads a.kids)]⟩) [1] [] rfl O pq2 (pqo1 rfl rfl) rfl<|qN [.cell 4 29,.tmp 5]
def dZ(m:Nat)(J p1:List Int)(a:Nat)(O:Bool):Prop:=∀(K:Ctx) (G:Nat),az K []→m≤G→qLG K f21 (λu _=>u=.bool O) (xH (ai f21)) [.loop (xH (ai f21)) G,.blk 0,.seq (xE (ai f21))] 26 (mkF 26 0 [(0,.row 1 (List.map (V.int .i64) J)),(1,.row 1 (List.map (V.int .i64) p1)),(5,qi (a:Int))]) ⟨0,[]⟩
theorem jq(m:Nat)(p0 p1:List Int)(r0:Bool)(h:((p0.length≠p1.length)→false=r0)∧((p0.length=p1.length)→dZ m p0 p1 0 r0)):cD p0 p1 r0:=by
 refine⟨rfl,rfl,?_⟩;refine qA 26 [] func21 λK hK=>?_;refine gR 10 rfl<|gV 7 (qi (p0.length:Int)) rfl (aI (aH (V.int .i64) _)) rfl<|gLB 6 rfl (aH (V.int .i64) _) λa=>gR 2 rfl<|gV 9 (qi (p1.length:Int)) rfl (aI (aH (V.int .i64) _)) rfl<|gLB 8 rfl (aH (V.int .i64) _) λb=>gR 3 rfl<|qXh 10 rfl rfl rfl h xr xh ?_ ?_<;>intro hd h;refine gR 8 rfl ?_;subst h;exact qN [.tmp 4];exact gR 10 rfl<|go_loop m<|qW hK h []
theorem fP(m:Nat)(G p1:List Int)(a:Nat)(J:Bool)(h:((a<G.length)→∃b,G[a]?=some b∧∃c,p1[a]?=some c∧((b≠c)→false=J)∧((b=c)→dZ m G p1 (a+1) J))∧((¬a<G.length)→true=J)):dZ (m+1) G p1 a J:=by
 refine qj λK Z O i=>?_;refine gR 6 rfl<|gV 13 (qi (G.length:Int)) rfl (aI (aH (V.int .i64) _)) rfl<|gLB 12 rfl (aH (V.int .i64) _) λg=>gR 3 rfl<|qXh 14 rfl rfl rfl h cr co ?_ ?_<;>intro U h;refine gR 6 rfl<|qDs [] 9 9<|qDr [(0,2),(1,2)] rfl rfl ?_;obtain⟨b,d,h⟩:=h;refine gYd 2 rfl (by kernel_rfl) (aG (aw (f:=(V.int .i64)) d) ah rfl rfl rfl rfl) rfl rfl<|qDr [(3,2),(4,2),(5,0)] rfl rfl ?_;obtain⟨c,e,h⟩:=h;refine bU 6 rfl (by kernel_rfl) (aG (aw (f:=(V.int .i64)) e) ah rfl rfl rfl rfl) rfl rfl ?_;refine qDr [(7,0),(8,0)] rfl rfl<|qDe<|gR 1 rfl<|qXh 25 rfl rfl rfl h dq ce ?_ ?_<;>intro U h;refine gR 9 rfl<|go_xloopR<|gR 2 rfl ?_;subst h;exact qN [.tmp 4];exact gR 7 rfl<|gV 16 (qi ((a+1:Nat):Int)) rfl (al (by have :=g;omega) (by omega)) rfl<|gR 2 rfl<|go_xloop<|qW O h [];refine gR 3 rfl<|go_xloopE<|gR 8 rfl ?_;subst h;exact qN [.tmp 4]
def fS(m:Nat)(J:(List (List UInt8)))(p1:(List (List UInt8)))(a:Nat)(O:Bool):Prop:=∀(K:Ctx) (G:Nat),az K []→m≤G→qLG K f30 (λu _=>u=.bool O) (xH (ai f30)) [.loop (xH (ai f30)) G,.blk 0,.seq (xE (ai f30))] 26 (mkF 26 0 [(0,.row 1 (List.map V.str J)),(1,.row 1 (List.map V.str p1)),(5,qi (a:Int))]) ⟨0,[]⟩
theorem sn(m:Nat)(p0:(List (List UInt8)))(p1:(List (List UInt8)))(r0:Bool)(h:((p0.length≠p1.length)→false=r0)∧((p0.length=p1.length)→fS m p0 p1 0 r0)):jt p0 p1 r0:=by
 refine⟨rfl,rfl,?_⟩;refine qA 26 [] func30 λK hK=>?_;refine gR 10 rfl<|gV 7 (qi (p0.length:Int)) rfl (aI (aH V.str _)) rfl<|gLB 6 rfl (aH V.str _) λa=>gR 2 rfl<|gV 9 (qi (p1.length:Int)) rfl (aI (aH V.str _)) rfl<|gLB 8 rfl (aH V.str _) λb=>gR 3 rfl<|qXh 10 rfl rfl rfl h xr xh ?_ ?_<;>intro hd h;refine gR 8 rfl ?_;subst h;exact qN [.tmp 4];exact gR 10 rfl<|go_loop m<|qW hK h []
theorem lU(m:Nat)(G:(List (List UInt8)))(p1:(List (List UInt8)))(a:Nat)(J:Bool)(h:((a<G.length)→∃b,G[a]?=some b∧∃c,p1[a]?=some c∧((b≠c)→false=J)∧((b=c)→fS m G p1 (a+1) J))∧((¬a<G.length)→true=J)):fS (m+1) G p1 a J:=by
 refine qj λK Z O i=>?_;refine gR 6 rfl<|gV 13 (qi (G.length:Int)) rfl (aI (aH V.str _)) rfl<|gLB 12 rfl (aH V.str _) λg=>gR 3 rfl<|qXh 14 rfl rfl rfl h cr co ?_ ?_<;>intro U h;refine gR 6 rfl<|qDs [] 9 9<|qDr [(0,2),(1,2)] rfl rfl ?_;obtain⟨b,d,h⟩:=h;refine gYd 2 rfl (by kernel_rfl) (aG (aw (f:=V.str) d) ah rfl rfl rfl rfl) rfl rfl<|qDr [(3,2),(4,2),(5,0)] rfl rfl ?_;obtain⟨c,e,h⟩:=h;refine bU 6 rfl (by kernel_rfl) (aG (aw (f:=V.str) e) ah rfl rfl rfl rfl) rfl rfl ?_;refine qDr [(7,0),(8,0)] rfl rfl<|qDe<|gR 1 rfl<|qXh 25 rfl rfl rfl h dq ce ?_ ?_<;>intro U h;refine gR 9 rfl<|go_xloopR<|gR 2 rfl ?_;subst h;exact qN [.tmp 4];exact gR 7 rfl<|gV 16 (qi ((a+1:Nat):Int)) rfl (al (by have :=g;omega) (by omega)) rfl<|gR 2 rfl<|go_xloop<|qW O h [];refine gR 3 rfl<|go_xloopE<|gR 8 rfl ?_;subst h;exact qN [.tmp 4]
theorem wX(m:Nat)(G J:List Int)(h:∀(a:Bool),(a=true→G.length=0)→((a=true)→[]=J)∧((a=false)→G.length≤1000000000∧G=J)):nR G J:=by
 refine qA 8 [0] func132 λK O=>?_;refine gR 9 rfl<|Oq (N:=G.length) ah rfl rfl rfl rfl (aH (V.int .i64) G) λa hb=>?_;replace h:=h a hb;refine gR 2 rfl<|qBi 4 rfl rfl rfl h ?_ ?_<;>intro h;refine gR 8 rfl ?_;subst h;exact gE O [] [(2,.row 1 (List.map (V.int .i64) []))] [0] [.tmp 2] ⟨⟨_,rfl,(.nil 1)⟩,trivial⟩;refine gR 7 rfl ?_;obtain⟨hb,h⟩:=h;refine gDo (.repl 1 (.row 3 1 (List.map (V.int .i64) G))) (ju ah rfl rfl rfl rfl rfl (List.nil_append _) (by rw[aH];exact hb)) (okR rfl) rfl rfl rfl<|gR 4 rfl<|gFR 2 rfl (lV _ (λ_=>rfl) _) rfl rfl ?_;subst h;exact gE O [] [(2,.row 1 (List.map (V.int .i64) G))] [0] [.tmp 2]
def Dy(G:List UInt8)(J:Int):Prop:=qS 126 [.str G] (qi J)
def vl(G:List UInt8)(J:Int):Prop:=qS 139 [.str G] (qi J)
def px(G p1 J:Int):Prop:=qS 86 [qi G,qi p1] (qi J)
def gu(G p1 p2 J:Int):Prop:=qS 125 [qi G,qi p1,qi p2] (qi J)
def lT(G:Int)(J:Bool):Prop:=qS 129 [qi G] (.bool J)
def fo(G:Int)(J:Bool):Prop:=qS 128 [qi G] (.bool J)
def oV(G:Int)(J:Bool):Prop:=qS 130 [qi G] (.bool J)
def ni(G:List UInt8)(J:Bool):Prop:=qS 127 [.str G] (.bool J)
def oE(G:Int)(p1:List UInt8)(J:Bool):Prop:=qS 87 [qi G,.str p1] (.bool J)
def pD(G:Tree)(p1:Int)(J:Bool):Prop:=qS 88 [.agg (am G),qi p1] (.bool J)
def fM(G:Tree)(J:Bool):Prop:=qS 49 [.agg (am G)] (.bool J)
def lK(G p1 J:Int):Prop:=qS 100 [qi G,qi p1] (qi J)
def cw(G p1 p2 J:Int):Prop:=qS 138 [qi G,qi p1,qi p2] (qi J)
def ix(G:Int)(J:Bool):Prop:=qS 141 [qi G] (.bool J)
def dT(G:Int)(J:Bool):Prop:=qS 28 [qi G] (.bool J)
def la(G:Int)(J:Bool):Prop:=qS 142 [qi G] (.bool J)
def ji(G:List UInt8)(J:Bool):Prop:=qS 140 [.str G] (.bool J)
def jT(G:Int)(p1:List UInt8)(J:Bool):Prop:=qS 101 [qi G,.str p1] (.bool J)
def nr(G:Tree)(p1 p2:Int)(J:Bool):Prop:=qS 102 [.agg (am G),qi p1,qi p2] (.bool J)
def iE(G:Tree)(J:Bool):Prop:=qS 60 [.agg (am G)] (.bool J)
def aP(m:Nat)(p1:Int)(a b c:Nat)(d G:Int):Prop:=∀(K:Ctx),az K []→qLG K f86 (λu _=>u=qi G) (xF (ai f86)) [] 69 (mkF 69 0 [(1,qi p1),(5,qi (a:Int)),(6,qi d),(7,qi (b:Int)),(8,qi (c:Int))]) ⟨0,[]⟩
def mf(m:Nat)(G p1:Int)(a:Bool)(J:Int):Prop:=∀(K:Ctx),az K []→qLG K f86 (λu _=>u=qi J) (cB (xJ (xJ (xI (cK (xC (xE (ai f86)))))))) [.blk 0,.seq (xF (ai f86))] 69 (mkF 69 0 [(1,qi p1),(5,qi 0),(6,qi 0),(7,qi 1),(8,qi 0),(9,qi G),(22,.bool a)]) ⟨0,[]⟩
def mh(m:Nat)(p1:Int)(a b c:Nat)(d G:Int):Prop:=∀(K:Ctx),az K []→qLG K f86 (λu _=>u=qi G) (xA (xE (ai f86))) [] 69 (mkF 69 0 [(1,qi p1),(5,qi (a:Int)),(6,qi d),(7,qi (b:Int)),(8,qi (c:Int))]) ⟨0,[]⟩
theorem yH(m:Nat)(G p1 O:Int)(h:((G=1)→∃a,gu p1 0 3 a∧a=O)∧((G≠1)→((G=2)→aP m p1 2 6 2 (-1) O)∧((G≠2)→((G=16)→aP m p1 0 3 0 (-1) O)∧((G≠16)→((G=18)→aP m p1 1 2 0 (-1) O)∧((G≠18)→((G=3)→aP m p1 1 3 0 1 O)∧((G≠3)→((G=4)→mf m G p1 true O)∧((G≠4)→((G=8)→mf m G p1 true O)∧((G≠8)→mf m G p1 (G==22) O)))))))):px G p1 O:=by
 refine⟨rfl,rfl,?_⟩;refine qA 69 [] func86 λK J=>?_;refine gR 30 rfl<|qBeZ 10 11 rfl rfl rfl rfl h ?_ ?_<;>intro h;refine gR 4 rfl ?_;obtain⟨a,b,h⟩:=h;refine qC0 b rfl<|gR 6 rfl ?_;subst h;exact qN [.tmp 4];refine gR 7 rfl<|qBeZ 14 15 rfl rfl rfl rfl h ?_ ?_<;>intro h;exact gR 9 rfl<|qJ J (h K J) [];refine gR 7 rfl<|qBeZ 16 17 rfl rfl rfl rfl h ?_ ?_<;>intro h;exact gR 9 rfl<|qJ J (h K J) [];refine gR 7 rfl<|qBeZ 18 19 rfl rfl rfl rfl h ?_ ?_<;>intro h;exact gR 9 rfl<|qJ J (h K J) [];refine gR 7 rfl<|qBeZ 20 21 rfl rfl rfl rfl h ?_ ?_<;>intro h;exact gR 8 rfl<|qJ J (h K J) [];refine gR 8 rfl<|qBeZ 22 23 rfl rfl rfl rfl h ?_ ?_<;>intro h;exact gR 3 rfl<|qJ J (h K J) [];refine gR 7 rfl<|qBeZ 22 24 rfl rfl rfl rfl h ?_ ?_<;>intro h;exact gR 3 rfl<|qJ J (h K J) [];exact gR 6 rfl<|qJ J (h K J) []
theorem xk(m:Nat)(p1:Int)(b c d:Nat)(a G:Int)(h:((0≤a)→((a<p1)→(-1)=G)∧((¬a<p1)→mh m p1 b c d a G))∧((¬0≤a)→mh m p1 b c d a G)):aP (m+1) p1 b c d a G:=by
 intro K J;refine gR 6 rfl<|qBdZ 47 46 rfl rfl rfl rfl h ?_ ?_<;>intro h;refine gR 6 rfl<|qBd 51 rfl rfl rfl h ?_ ?_<;>intro h;refine gR 8 rfl ?_;subst h;exact qN [.tmp 4];exact gR 3 rfl<|qJ J (h K J) [];exact gR 9 rfl<|qJ J (h K J) []
theorem xu(m:Nat)(J p1:Int)(a:Bool)(O:Int)(h:((a=true)→aP m p1 1 2 0 1 O)∧((a=false)→((J=17)→aP m p1 1 0 0 1 O)∧((J≠17)→((J=19)→aP m p1 3 3 0 3 O)∧((J≠19)→((J=20)→aP m p1 2 4 0 2 O)∧((J≠20)→((J=21)→aP m p1 2 1 0 2 O)∧((J≠21)→((J=5)→aP m p1 0 1 0 0 O)∧((J≠5)→((J=6)→aP m p1 0 1 0 0 O)∧((J≠6)→((J=7)→aP m p1 0 1 0 0 O)∧((J≠7)→((J=9)→aP m p1 0 1 0 0 O)∧((J≠9)→((J=10)→aP m p1 0 1 0 0 O)∧((J≠10)→((J=11)→aP m p1 0 1 0 0 O)∧((J≠11)→((J=12)→aP m p1 0 1 0 0 O)∧((J≠12)→((J=13)→aP m p1 0 1 0 0 O)∧((J≠13)→((J=14)→aP m p1 0 1 0 0 O)∧((J≠14)→((J=15)→aP m p1 0 1 0 0 O)∧((J≠15)→(-1)=O)))))))))))))))):mf (m+1) J p1 a O:=by
 intro K G;refine qBi 22 rfl rfl rfl h ?_ ?_<;>intro h;exact gR 8 rfl<|qJ G (h K G) [];refine gR 7 rfl<|qBeZ 26 27 rfl rfl rfl rfl h ?_ ?_<;>intro h;exact gR 8 rfl<|qJ G (h K G) [];refine gR 7 rfl<|qBeZ 28 29 rfl rfl rfl rfl h ?_ ?_<;>intro h;exact gR 8 rfl<|qJ G (h K G) [];refine gR 7 rfl<|qBeZ 30 31 rfl rfl rfl rfl h ?_ ?_<;>intro h;exact gR 8 rfl<|qJ G (h K G) [];refine gR 7 rfl<|qBeZ 32 33 rfl rfl rfl rfl h ?_ ?_<;>intro h;exact gR 8 rfl<|qJ G (h K G) [];refine gR 8 rfl<|qBeZ 34 35 rfl rfl rfl rfl h ?_ ?_<;>intro h;exact gR 7 rfl<|qJ G (h K G) [];refine gR 7 rfl<|qBeZ 34 36 rfl rfl rfl rfl h ?_ ?_<;>intro h;exact gR 7 rfl<|qJ G (h K G) [];refine gR 7 rfl<|qBeZ 34 37 rfl rfl rfl rfl h ?_ ?_<;>intro h;exact gR 7 rfl<|qJ G (h K G) [];refine gR 7 rfl<|qBeZ 34 38 rfl rfl rfl rfl h ?_ ?_<;>intro h;exact gR 7 rfl<|qJ G (h K G) [];refine gR 7 rfl<|qBeZ 34 39 rfl rfl rfl rfl h ?_ ?_<;>intro h;exact gR 7 rfl<|qJ G (h K G) [];refine gR 7 rfl<|qBeZ 34 40 rfl rfl rfl rfl h ?_ ?_<;>intro h;exact gR 7 rfl<|qJ G (h K G) [];refine gR 7 rfl<|qBeZ 34 41 rfl rfl rfl rfl h ?_ ?_<;>intro h;exact gR 7 rfl<|qJ G (h K G) [];refine gR 7 rfl<|qBeZ 34 42 rfl rfl rfl rfl h ?_ ?_<;>intro h;exact gR 7 rfl<|qJ G (h K G) [];refine gR 7 rfl<|qBeZ 34 43 rfl rfl rfl rfl h ?_ ?_<;>intro h;exact gR 7 rfl<|qJ G (h K G) [];refine gR 6 rfl<|qBeZ 34 44 rfl rfl rfl rfl h ?_ ?_<;>intro h;exact gR 4 rfl<|qJ G (h K G) [];refine gR 9 rfl ?_;subst h;exact qN [.tmp 4]
theorem xg(m:Nat)(p1:Int)(c b a:Nat)(d G:Int)(h:((d<0)→(((a:Int)<p1)→InI (p1-(a:Int))∧InI ((p1-(a:Int))-1)∧InI ((b:Int)+((p1-(a:Int))-1))∧∃e,gu p1 (c:Int) ((b:Int)+((p1-(a:Int))-1)) e∧e=G)∧((¬(a:Int)<p1)→∃f,gu p1 (c:Int) (b:Int) f∧f=G))∧((¬d<0)→∃g,gu p1 (c:Int) (b:Int) g∧g=G)):mh (m+1) p1 c b a d G:=by
 intro K J;refine gR 6 rfl<|qBdZ 54 53 rfl rfl rfl rfl h ?_ ?_<;>intro h;refine gR 6 rfl<|qBd 58 rfl rfl rfl h ?_ ?_<;>intro h;refine gR 5 rfl ?_;obtain⟨hb,h⟩:=h;refine gR 1 rfl<|gV 62 (qi (p1-(a:Int))) rfl (al hb rfl) rfl ?_;obtain⟨hb,h⟩:=h;refine gR 1 rfl<|gV 63 (qi ((p1-(a:Int))-1)) rfl (al hb rfl) rfl ?_;obtain⟨hb,h⟩:=h;refine gR 1 rfl<|gV 64 (qi ((b:Int)+((p1-(a:Int))-1))) rfl (al hb rfl) rfl<|gR 8 rfl ?_;obtain⟨e,i,h⟩:=h;refine qC0 i rfl<|gR 4 rfl ?_;subst h;exact qN [.tmp 4];refine gR 8 rfl ?_;obtain⟨f,j,h⟩:=h;refine qC0 j rfl<|gR 4 rfl ?_;subst h;exact qN [.tmp 4];refine gR 14 rfl ?_;obtain⟨g,k,h⟩:=h;refine qC0 k rfl<|gR 4 rfl ?_;subst h;exact qN [.tmp 4]
theorem wQ(m:Nat)(G p1 p2 J:Int)(h:((G<p1)→(-1)=J)∧((¬G<p1)→p2=J)):gu G p1 p2 J:=by
 refine⟨rfl,rfl,?_⟩;refine qA 11 [] func125 λK O=>?_;refine gR 13 rfl<|qBd 9 rfl rfl rfl h ?_ ?_<;>intro h;refine gR 8 rfl ?_;subst h;exact qN [.tmp 6];refine gR 10 rfl ?_;subst h;exact qN [.tmp 6]
theorem xW(m:Nat)(G:Int)(J:Bool)(h:((5≤G)→decide (G≤9)=J)∧((¬5≤G)→false=J)):lT G J:=by
 refine⟨rfl,rfl,?_⟩;refine qA 9 [] func129 λK O=>?_;refine gR 10 rfl<|qBdZ 5 4 rfl rfl rfl rfl h ?_ ?_<;>intro h;refine gR 7 rfl ?_;subst h;exact qN [.tmp 2];refine gR 7 rfl ?_;subst h;exact qN [.tmp 2]
theorem tA(m:Nat)(G:Int)(J:Bool)(h:((10≤G)→((G≤22)→(G !=17)=J)∧((¬G≤22)→false=J))∧((¬10≤G)→false=J)):fo G J:=by
 refine⟨rfl,rfl,?_⟩;refine qA 13 [] func128 λK O=>?_;refine gR 10 rfl<|qBdZ 5 4 rfl rfl rfl rfl h ?_ ?_<;>intro h;refine gR 4 rfl<|qBdZ 9 8 rfl rfl rfl rfl h ?_ ?_<;>intro h;refine gR 7 rfl ?_;subst h;exact qN [.tmp 2];refine gR 7 rfl ?_;subst h;exact qN [.tmp 2];refine gR 11 rfl ?_;subst h;exact qN [.tmp 2]
theorem xY(m:Nat)(G:Int)(J:Bool)(h:∃a,fo G a∧((a=true)→((G≠19)→((G≠20)→(G !=21)=J)∧((G=20)→false=J))∧((G=19)→false=J))∧((a=false)→false=J)):oV G J:=by
 refine⟨rfl,rfl,?_⟩;refine qA 17 [] func130 λK O=>?_;refine gR 8 rfl ?_;obtain⟨a,b,h⟩:=h;refine qC0 b rfl<|gR 1 rfl<|qBiZ 5 4 rfl rfl rfl rfl h ?_ ?_<;>intro h;refine gR 4 rfl<|qBhZ 9 8 rfl rfl rfl rfl h dq ce ?_ ?_<;>intro h;refine gR 4 rfl<|qBhZ 13 12 rfl rfl rfl rfl h dq ce ?_ ?_<;>intro h;refine gR 7 rfl ?_;subst h;exact qN [.tmp 2];refine gR 7 rfl ?_;subst h;exact qN [.tmp 2];refine gR 11 rfl ?_;subst h;exact qN [.tmp 2];refine gR 15 rfl ?_;subst h;exact qN [.tmp 2]
theorem wd(m:Nat)(G:List UInt8)(J:Bool)(h:((G=[43])→true=J)∧((G≠[43])→((G=[45])→true=J)∧((G≠[45])→((G=[42])→true=J)∧((G≠[42])→((G=[60])→true=J)∧((G≠[60])→((G=[61,61])→true=J)∧((G≠[61,61])→false=J)))))):ni G J:=by
 refine⟨rfl,rfl,?_⟩;refine qA 10 [] func127 λK O=>?_;refine gR 19 rfl<|qBeZ 4 5 rfl rfl rfl rfl h ?_ ?_<;>intro h;refine gR 12 rfl ?_;subst h;exact qN [.tmp 2];refine gR 7 rfl<|qBeZ 4 6 rfl rfl rfl rfl h ?_ ?_<;>intro h;refine gR 12 rfl ?_;subst h;exact qN [.tmp 2];refine gR 7 rfl<|qBeZ 4 7 rfl rfl rfl rfl h ?_ ?_<;>intro h;refine gR 12 rfl ?_;subst h;exact qN [.tmp 2];refine gR 7 rfl<|qBeZ 4 8 rfl rfl rfl rfl h ?_ ?_<;>intro h;refine gR 12 rfl ?_;subst h;exact qN [.tmp 2];refine gR 6 rfl<|qBeZ 4 9 rfl rfl rfl rfl h ?_ ?_<;>intro h;refine gR 9 rfl ?_;subst h;exact qN [.tmp 2];refine gR 10 rfl ?_;subst h;exact qN [.tmp 2]
def nM(m:Nat)(G:Int)(p1:List UInt8)(a:Int)(b J:Bool):Prop:=∀(K:Ctx),az K []→qLG K f87 (λu _=>u=.bool J) (cB (cK (xC (xA (ai f87))))) [.blk 0,.seq (xE (ai f87))] 51 (mkF 51 0 [(1,.str p1),(5,qi a),(8,qi G),(9,.bool b)]) ⟨0,[]⟩
def jh(m:Nat)(G:Int)(p1:List UInt8)(a:Int)(b J:Bool):Prop:=∀(K:Ctx),az K []→qLG K f87 (λu _=>u=.bool J) (cB (xI (cK (xC (xA (ai f87)))))) [.blk 0,.seq (xE (ai f87))] 51 (mkF 51 0 [(1,.str p1),(5,qi a),(8,qi G),(14,.bool b)]) ⟨0,[]⟩
theorem xZ(m:Nat)(G:Int)(p1:List UInt8)(O:Bool)(h:∃a,Dy p1 a∧((G=1)→nM m G p1 a true O)∧((G≠1)→nM m G p1 a (G==3) O)):oE G p1 O:=by
 refine⟨rfl,rfl,?_⟩;refine qA 51 [] func87 λK J=>?_;refine gR 8 rfl ?_;obtain⟨a,b,h⟩:=h;refine qC0 b rfl<|gR 17 rfl<|qBeZ 9 10 rfl rfl rfl rfl h ?_ ?_<;>intro h;exact gR 3 rfl<|qJ J (h K J) [];exact gR 6 rfl<|qJ J (h K J) []
theorem wY(m:Nat)(G:Int)(p1:List UInt8)(a:Int)(b O:Bool)(h:((b=true)→(a==2)=O)∧((b=false)→((G=2)→jh m G p1 a true O)∧((G≠2)→((G=4)→jh m G p1 a true O)∧((G≠4)→((G=12)→jh m G p1 a true O)∧((G≠12)→jh m G p1 a (G==20) O))))):nM (m+1) G p1 a b O:=by
 intro K J;refine qBi 9 rfl rfl rfl h ?_ ?_<;>intro h;refine gR 11 rfl ?_;subst h;exact qN [.tmp 4];refine gR 8 rfl<|qBeZ 14 15 rfl rfl rfl rfl h ?_ ?_<;>intro h;exact gR 3 rfl<|qJ J (h K J) [];refine gR 7 rfl<|qBeZ 14 16 rfl rfl rfl rfl h ?_ ?_<;>intro h;exact gR 3 rfl<|qJ J (h K J) [];refine gR 7 rfl<|qBeZ 14 17 rfl rfl rfl rfl h ?_ ?_<;>intro h;exact gR 3 rfl<|qJ J (h K J) [];exact gR 6 rfl<|qJ J (h K J) []
theorem wT(m:Nat)(G:Int)(p1:List UInt8)(a:Int)(b J:Bool)(h:((b=true)→(a==1)=J)∧((b=false)→((G=9)→((a=2)→true=J)∧((a≠2)→(a==4)=J))∧((G≠9)→((G=16)→((a=1)→true=J)∧((a≠1)→(a==3)=J))∧((G≠16)→((G=10)→(a==5)=J)∧((G≠10)→((G=11)→(a==6)=J)∧((G≠11)→((G=21)→∃c,ni p1 c∧c=J)∧((G≠21)→(p1==[])=J))))))):jh (m+1) G p1 a b J:=by
 intro K O;refine qBi 14 rfl rfl rfl h ?_ ?_<;>intro h;refine gR 11 rfl ?_;subst h;exact qN [.tmp 4];refine gR 7 rfl<|qBeZ 21 22 rfl rfl rfl rfl h ?_ ?_<;>intro h;refine gR 6 rfl<|qBeZ 25 24 rfl rfl rfl rfl h ?_ ?_<;>intro h;refine gR 9 rfl ?_;subst h;exact qN [.tmp 4];refine gR 9 rfl ?_;subst h;exact qN [.tmp 4];refine gR 7 rfl<|qBeZ 29 30 rfl rfl rfl rfl h ?_ ?_<;>intro h;refine gR 6 rfl<|qBeZ 33 32 rfl rfl rfl rfl h ?_ ?_<;>intro h;refine gR 9 rfl ?_;subst h;exact qN [.tmp 4];refine gR 9 rfl ?_;subst h;exact qN [.tmp 4];refine gR 7 rfl<|qBeZ 37 38 rfl rfl rfl rfl h ?_ ?_<;>intro h;refine gR 11 rfl ?_;subst h;exact qN [.tmp 4];refine gR 7 rfl<|qBeZ 41 42 rfl rfl rfl rfl h ?_ ?_<;>intro h;refine gR 11 rfl ?_;subst h;exact qN [.tmp 4];refine gR 7 rfl<|qBeZ 45 46 rfl rfl rfl rfl h ?_ ?_<;>intro h;refine gR 4 rfl ?_;obtain⟨c,d,h⟩:=h;refine qC0 d rfl<|gR 6 rfl ?_;subst h;exact qN [.tmp 4];refine gR 12 rfl ?_;subst h;exact qN [.tmp 4]
def lZ(m:Nat)(G:Tree)(p1:Int)(a:Tree)(b J:Bool):Prop:=∀(K:Ctx),az K []→qLG K f88 (λu _=>u=.bool J) (cB (xJ (cK (xC (xA (ai f88)))))) [.blk 0,.seq (xE (ai f88))] 67 (mkF 67 0 [(1,qi p1),(5,qi a.kind),(13,qi G.kind),(43,.bool b)]) ⟨0,[]⟩
theorem zp(m:Nat)(G:Tree)(p1:Int)(J:Bool)(h:∃b,p1=((b:Nat):Int)∧∃a,G.kids[b]?=some a∧((G.kind=1)→((a.kind=2)→true=J)∧((a.kind≠2)→(a.kind==3)=J))∧((G.kind≠1)→((G.kind=2)→((p1=((G.kids.length:Int)-1))→∃c,fo a.kind c∧c=J)∧((p1≠((G.kids.length:Int)-1))→((p1=((G.kids.length:Int)-2))→∃d,lT a.kind d∧d=J)∧((p1≠((G.kids.length:Int)-2))→(a.kind==4)=J)))∧((G.kind≠2)→((G.kind=3)→lZ m G p1 a true J)∧((G.kind≠3)→((G.kind=4)→lZ m G p1 a true J)∧((G.kind≠4)→lZ m G p1 a (G.kind==8) J))))):pD G p1 J:=by
 refine⟨rfl,rfl,?_⟩;refine qA 67 [] func88 λK O=>?_;refine gR 3 rfl<|gFP 0 rfl rfl rfl rfl<|gR 8 rfl ?_;obtain⟨b,g,h⟩:=h;refine gV 8 (qi ((b:Nat):Int)) rfl (aK g) rfl ?_;obtain⟨a,e,h⟩:=h;refine gY (aG (aq e) ah rfl rfl rfl rfl) rfl rfl<|gR 19 rfl<|qXeZ 14 15 rfl rfl rfl rfl h ?_ ?_<;>intro U h;refine gR 6 rfl<|qXeZ 18 17 rfl rfl rfl rfl h ?_ ?_<;>intro U h;refine gR 9 rfl ?_;subst h;exact qN [.tmp 4];refine gR 9 rfl ?_;subst h;exact qN [.tmp 4];refine gR 7 rfl<|qXeZ 22 23 rfl rfl rfl rfl h ?_ ?_<;>intro U h;refine gR 13 rfl<|gV 28 (qi (G.kids.length:Int)) rfl (aI (aD _)) rfl<|gLB 27 rfl (aD _) λf=>gR 1 rfl<|gV 29 (qi ((G.kids.length:Int)-1)) rfl (al (by have :=f;omega) rfl) rfl<|gR 4 rfl<|qXeZ 25 30 rfl rfl rfl rfl h ?_ ?_<;>intro U h;refine gR 4 rfl ?_;obtain⟨c,i,h⟩:=h;refine qC0 i rfl<|gR 8 rfl ?_;subst h;exact qN [.tmp 4];refine gR 6 rfl<|gV 36 (qi (G.kids.length:Int)) rfl (aI (aD _)) rfl<|gR 1 rfl<|gV 37 (qi ((G.kids.length:Int)-2)) rfl (al (by have :=f;omega) rfl) rfl<|gR 4 rfl<|qXeZ 33 38 rfl rfl rfl rfl h ?_ ?_<;>intro U h;refine gR 4 rfl ?_;obtain⟨d,j,h⟩:=h;refine qC0 j rfl<|gR 8 rfl ?_;subst h;exact qN [.tmp 4];refine gR 14 rfl ?_;subst h;exact qN [.tmp 4];refine gR 8 rfl<|qXeZ 43 44 rfl rfl rfl rfl h ?_ ?_<;>intro U h;exact gR 3 rfl<|qJ O (h K O) [];refine gR 7 rfl<|qXeZ 43 45 rfl rfl rfl rfl h ?_ ?_<;>intro U h;exact gR 3 rfl<|qJ O (h K O) [];exact gR 6 rfl<|qJ O (h K O) []
theorem xX(m:Nat)(J:Tree)(p1:Int)(a:Tree)(c G:Bool)(h:((c=true)→∃d,lT a.kind d∧d=G)∧((c=false)→((J.kind=16)→(a.kind==17)=G)∧((J.kind≠16)→((J.kind=21)→∃b,oV a.kind b∧((b=true)→true=G)∧((b=false)→((p1=0)→(a.kind==21)=G)∧((p1≠0)→false=G)))∧((J.kind≠21)→∃e,fo a.kind e∧e=G)))):lZ (m+1) J p1 a c G:=by
 intro K O;refine qBi 43 rfl rfl rfl h ?_ ?_<;>intro h;refine gR 4 rfl ?_;obtain⟨d,f,h⟩:=h;refine qC0 f rfl<|gR 6 rfl ?_;subst h;exact qN [.tmp 4];refine gR 7 rfl<|qBeZ 49 50 rfl rfl rfl rfl h ?_ ?_<;>intro h;refine gR 11 rfl ?_;subst h;exact qN [.tmp 4];refine gR 7 rfl<|qBeZ 53 54 rfl rfl rfl rfl h ?_ ?_<;>intro h;refine gR 4 rfl ?_;obtain⟨b,g,h⟩:=h;refine qC0 g rfl<|gR 1 rfl<|qBiZ 57 56 rfl rfl rfl rfl h ?_ ?_<;>intro h;refine gR 13 rfl ?_;subst h;exact qN [.tmp 4];refine gR 3 rfl<|qBeZ 60 59 rfl rfl rfl rfl h ?_ ?_<;>intro h;refine gR 10 rfl ?_;subst h;exact qN [.tmp 4];refine gR 10 rfl ?_;subst h;exact qN [.tmp 4];refine gR 7 rfl ?_;obtain⟨e,i,h⟩:=h;refine qC0 i rfl<|gR 4 rfl ?_;subst h;exact qN [.tmp 4]
def kQ(m:Nat)(G:Tree)(a:Nat)(O:Bool):Prop:=∀(K:Ctx) (J:Nat),az K []→m≤J→qLG K f49 (λu _=>u=.bool O) (xH (ai f49)) [.loop (xH (ai f49)) J,.blk 0,.seq (xE (ai f49))] 38 (mkF 38 0 [(1,.box (am G) 0),(21,.row 4 (kidsV G.kids)),(22,qi (G.kids.length:Int)),(23,qi (a:Int))]) ⟨0,[]⟩
theorem yz(m:Nat)(p0:Tree)(r0:Bool)(h:∃a,px p0.kind (p0.kids.length:Int) a∧((a<0)→false=r0)∧((¬a<0)→∃b,oE p0.kind p0.text b∧((b=false)→false=r0)∧((b=true)→kQ m p0 0 r0))):fM p0 r0:=by
 refine⟨rfl,rfl,?_⟩;refine qA 38 [] func49 λK hK=>?_;refine gR 3 rfl<|gFP 0 rfl rfl rfl rfl<|gR 11 rfl<|gV 9 (qi (p0.kids.length:Int)) rfl (aI (aD _)) rfl<|gLB 8 rfl (aD _) λe=>?_;obtain⟨a,c,h⟩:=h;refine qC0 c rfl<|gR 2 rfl<|qXdZ 12 11 rfl rfl rfl rfl h ?_ ?_<;>intro hd h;refine gR 17 rfl ?_;subst h;exact qN [.tmp 2];refine gR 4 rfl ?_;obtain⟨b,d,h⟩:=h;refine qC0 d rfl<|gR 4 rfl<|qXh 19 rfl rfl rfl h bt br ?_ ?_<;>intro hd h;refine gR 8 rfl ?_;subst h;exact qN [.tmp 2];exact gR 9 rfl<|gV 22 (qi (p0.kids.length:Int)) rfl (aI (aD _)) rfl<|gR 4 rfl<|go_loop m<|qW hK h []
theorem qM(m:Nat)(G:Tree)(a:Nat)(J:Bool)(h:((a<G.kids.length)→∃d,G.kids[a]?=some d∧∃b,pD G (a:Int) b∧((b=false)→false=J)∧((b=true)→∃c,fM d c∧((c=false)→false=J)∧((c=true)→a+1≤9223372036854775807∧kQ m G (a+1) J)))∧((¬a<G.kids.length)→true=J)):kQ (m+1) G a J:=by
 refine qj λK Z U i=>?_;refine gR 6 rfl<|qXh 24 rfl rfl rfl h cr co ?_ ?_<;>intro O h;refine gR 8 rfl ?_;obtain⟨d,e,h⟩:=h;refine gY (aG (aq e) ah rfl rfl rfl rfl) rfl rfl<|gR 10 rfl ?_;obtain⟨b,f,h⟩:=h;refine qC0 f rfl<|gR 2 rfl<|qXhZ 32 31 rfl rfl rfl rfl h bt br ?_ ?_<;>intro O h;refine gR 15 rfl<|go_xloopR<|gR 2 rfl ?_;subst h;exact qN [.tmp 2];refine gR 1 rfl ?_;obtain⟨c,g,h⟩:=h;refine qC0 g rfl<|gR 4 rfl<|qXh 36 rfl rfl rfl h bt br ?_ ?_<;>intro O h;refine gR 9 rfl<|go_xloopR<|gR 2 rfl ?_;subst h;exact qN [.tmp 2];refine gR 5 rfl ?_;obtain⟨hb,h⟩:=h;exact gR 1 rfl<|gV 37 (qi ((a+1:Nat):Int)) rfl (al (by omega) (by omega)) rfl<|gR 2 rfl<|go_xloop<|qW U h [];refine gR 3 rfl<|go_xloopE<|gR 8 rfl ?_;subst h;exact qN [.tmp 2]
def iJ(m:Nat)(G p1:Int)(a:Bool)(J:Int):Prop:=∀(K:Ctx),az K []→qLG K f100 (λu _=>u=qi J) (cB (xJ (xI (cK (xC (cB (ai f100))))))) [.blk 0,.seq (xA (ai f100))] 71 (mkF 71 0 [(1,qi p1),(5,qi G),(22,.bool a)]) ⟨0,[]⟩
def bq(m:Nat)(G p1:Int)(a:Bool)(J:Int):Prop:=∀(K:Ctx),az K []→qLG K f100 (λu _=>u=qi J) (cB (xJ (xJ (cK (xC (cB (ai f100))))))) [.blk 0,.seq (xA (ai f100))] 71 (mkF 71 0 [(1,qi p1),(5,qi G),(28,.bool a)]) ⟨0,[]⟩
theorem vb(m:Nat)(G p1 J:Int)(h:((G=1)→((0≤p1)→3=J)∧((¬0≤p1)→(-1)=J))∧((G≠1)→((G=2)→((2≤p1)→InI (p1-3)∧InI (6+(max 0 (p1-3)))∧(6+(max 0 (p1-3)))=J)∧((¬2≤p1)→(-1)=J))∧((G≠2)→((G=3)→∃a,cw p1 1 3 a∧a=J)∧((G≠3)→((G=4)→iJ m G p1 true J)∧((G≠4)→((G=8)→iJ m G p1 true J)∧((G≠8)→iJ m G p1 (G==22) J)))))):lK G p1 J:=by
 refine⟨rfl,rfl,?_⟩;refine qA 71 [] func100 λK O=>?_;refine gR 18 rfl<|qBeZ 6 7 rfl rfl rfl rfl h ?_ ?_<;>intro h;refine gR 7 rfl<|qBd 9 rfl rfl rfl h ?_ ?_<;>intro h;refine gR 9 rfl ?_;subst h;exact qN [.tmp 4];refine gR 10 rfl ?_;subst h;exact qN [.tmp 4];refine gR 7 rfl<|qBeZ 10 11 rfl rfl rfl rfl h ?_ ?_<;>intro h;refine gR 7 rfl<|qBd 13 rfl rfl rfl h ?_ ?_<;>intro h;refine gR 4 rfl ?_;obtain⟨hb,h⟩:=h;refine gR 1 rfl<|gV 15 (qi (p1-3)) rfl (al hb rfl) rfl<|gR 1 rfl ?_;obtain⟨hb,h⟩:=h;refine gR 1 rfl<|gV 17 (qi (6+(max 0 (p1-3)))) rfl (al hb rfl) rfl<|gR 6 rfl ?_;subst h;exact qN [.tmp 4];refine gR 10 rfl ?_;subst h;exact qN [.tmp 4];refine gR 7 rfl<|qBeZ 18 19 rfl rfl rfl rfl h ?_ ?_<;>intro h;refine gR 4 rfl ?_;obtain⟨a,b,h⟩:=h;refine qC0 b rfl<|gR 6 rfl ?_;subst h;exact qN [.tmp 4];refine gR 8 rfl<|qBeZ 22 23 rfl rfl rfl rfl h ?_ ?_<;>intro h;exact gR 3 rfl<|qJ O (h K O) [];refine gR 7 rfl<|qBeZ 22 24 rfl rfl rfl rfl h ?_ ?_<;>intro h;exact gR 3 rfl<|qJ O (h K O) [];exact gR 6 rfl<|qJ O (h K O) []
theorem ub(m:Nat)(G p1:Int)(a:Bool)(O:Int)(h:((a=true)→∃b,cw p1 1 2 b∧b=O)∧((a=false)→((G=5)→bq m G p1 true O)∧((G≠5)→((G=6)→bq m G p1 true O)∧((G≠6)→((G=7)→bq m G p1 true O)∧((G≠7)→((G=9)→bq m G p1 true O)∧((G≠9)→((G=10)→bq m G p1 true O)∧((G≠10)→((G=11)→bq m G p1 true O)∧((G≠11)→((G=12)→bq m G p1 true O)∧((G≠12)→((G=13)→bq m G p1 true O)∧((G≠13)→((G=14)→bq m G p1 true O)∧((G≠14)→bq m G p1 (G==15) O))))))))))):iJ (m+1) G p1 a O:=by
 intro K J;refine qBi 22 rfl rfl rfl h ?_ ?_<;>intro h;refine gR 4 rfl ?_;obtain⟨b,c,h⟩:=h;refine qC0 c rfl<|gR 6 rfl ?_;subst h;exact qN [.tmp 4];refine gR 8 rfl<|qBeZ 28 29 rfl rfl rfl rfl h ?_ ?_<;>intro h;exact gR 3 rfl<|qJ J (h K J) [];refine gR 7 rfl<|qBeZ 28 30 rfl rfl rfl rfl h ?_ ?_<;>intro h;exact gR 3 rfl<|qJ J (h K J) [];refine gR 7 rfl<|qBeZ 28 31 rfl rfl rfl rfl h ?_ ?_<;>intro h;exact gR 3 rfl<|qJ J (h K J) [];refine gR 7 rfl<|qBeZ 28 32 rfl rfl rfl rfl h ?_ ?_<;>intro h;exact gR 3 rfl<|qJ J (h K J) [];refine gR 7 rfl<|qBeZ 28 33 rfl rfl rfl rfl h ?_ ?_<;>intro h;exact gR 3 rfl<|qJ J (h K J) [];refine gR 7 rfl<|qBeZ 28 34 rfl rfl rfl rfl h ?_ ?_<;>intro h;exact gR 3 rfl<|qJ J (h K J) [];refine gR 7 rfl<|qBeZ 28 35 rfl rfl rfl rfl h ?_ ?_<;>intro h;exact gR 3 rfl<|qJ J (h K J) [];refine gR 7 rfl<|qBeZ 28 36 rfl rfl rfl rfl h ?_ ?_<;>intro h;exact gR 3 rfl<|qJ J (h K J) [];refine gR 7 rfl<|qBeZ 28 37 rfl rfl rfl rfl h ?_ ?_<;>intro h;exact gR 3 rfl<|qJ J (h K J) [];exact gR 6 rfl<|qJ J (h K J) []
theorem tL(m:Nat)(G p1:Int)(a:Bool)(J:Int)(h:((a=true)→∃b,cw p1 0 1 b∧b=J)∧((a=false)→((G=16)→((0≤p1)→InI (p1-1)∧InI (3+(max 0 (p1-1)))∧(3+(max 0 (p1-1)))=J)∧((¬0≤p1)→(-1)=J))∧((G≠16)→((G=17)→∃c,cw p1 1 0 c∧c=J)∧((G≠17)→((G=18)→((1≤p1)→InI (1+p1)∧(1+p1)=J)∧((¬1≤p1)→(-1)=J))∧((G≠18)→((G=19)→∃d,cw p1 3 3 d∧d=J)∧((G≠19)→((G=20)→∃e,cw p1 2 4 e∧e=J)∧((G≠20)→((G=21)→∃f,cw p1 2 1 f∧f=J)∧((G≠21)→(-1)=J)))))))):bq (m+1) G p1 a J:=by
 intro K O;refine qBi 28 rfl rfl rfl h ?_ ?_<;>intro h;refine gR 4 rfl ?_;obtain⟨b,g,h⟩:=h;refine qC0 g rfl<|gR 6 rfl ?_;subst h;exact qN [.tmp 4];refine gR 7 rfl<|qBeZ 41 42 rfl rfl rfl rfl h ?_ ?_<;>intro h;refine gR 7 rfl<|qBd 44 rfl rfl rfl h ?_ ?_<;>intro h;refine gR 4 rfl ?_;obtain⟨hb,h⟩:=h;refine gR 1 rfl<|gV 46 (qi (p1-1)) rfl (al hb rfl) rfl<|gR 1 rfl ?_;obtain⟨hb,h⟩:=h;refine gR 1 rfl<|gV 48 (qi (3+(max 0 (p1-1)))) rfl (al hb rfl) rfl<|gR 6 rfl ?_;subst h;exact qN [.tmp 4];refine gR 10 rfl ?_;subst h;exact qN [.tmp 4];refine gR 7 rfl<|qBeZ 49 50 rfl rfl rfl rfl h ?_ ?_<;>intro h;refine gR 4 rfl ?_;obtain⟨c,i,h⟩:=h;refine qC0 i rfl<|gR 6 rfl ?_;subst h;exact qN [.tmp 4];refine gR 7 rfl<|qBeZ 53 54 rfl rfl rfl rfl h ?_ ?_<;>intro h;refine gR 7 rfl<|qBd 56 rfl rfl rfl h ?_ ?_<;>intro h;refine gR 4 rfl ?_;obtain⟨hb,h⟩:=h;refine gR 1 rfl<|gV 58 (qi (1+p1)) rfl (al hb rfl) rfl<|gR 6 rfl ?_;subst h;exact qN [.tmp 4];refine gR 10 rfl ?_;subst h;exact qN [.tmp 4];refine gR 7 rfl<|qBeZ 59 60 rfl rfl rfl rfl h ?_ ?_<;>intro h;refine gR 4 rfl ?_;obtain⟨d,j,h⟩:=h;refine qC0 j rfl<|gR 6 rfl ?_;subst h;exact qN [.tmp 4];refine gR 7 rfl<|qBeZ 63 64 rfl rfl rfl rfl h ?_ ?_<;>intro h;refine gR 4 rfl ?_;obtain⟨e,k,h⟩:=h;refine qC0 k rfl<|gR 6 rfl ?_;subst h;exact qN [.tmp 4];refine gR 7 rfl<|qBeZ 67 68 rfl rfl rfl rfl h ?_ ?_<;>intro h;refine gR 4 rfl ?_;obtain⟨f,l,h⟩:=h;refine qC0 l rfl<|gR 6 rfl ?_;subst h;exact qN [.tmp 4];refine gR 10 rfl ?_;subst h;exact qN [.tmp 4]
theorem vp(m:Nat)(G p1 p2 J:Int)(h:((G=p1)→p2=J)∧((G≠p1)→(-1)=J)):cw G p1 p2 J:=by
 refine⟨rfl,rfl,?_⟩;refine qA 11 [] func138 λK O=>?_;refine gR 13 rfl<|qBe 9 rfl rfl rfl h ?_ ?_<;>intro h;refine gR 9 rfl ?_;subst h;exact qN [.tmp 6];refine gR 9 rfl ?_;subst h;exact qN [.tmp 6]
theorem uf(m:Nat)(G:Int)(J:Bool)(h:((5≤G)→decide (G≤9)=J)∧((¬5≤G)→false=J)):ix G J:=by
 refine⟨rfl,rfl,?_⟩;refine qA 9 [] func141 λK O=>?_;refine gR 10 rfl<|qBdZ 5 4 rfl rfl rfl rfl h ?_ ?_<;>intro h;refine gR 7 rfl ?_;subst h;exact qN [.tmp 2];refine gR 7 rfl ?_;subst h;exact qN [.tmp 2]
theorem ud(m:Nat)(G:Int)(J:Bool)(h:((10≤G)→((G≤22)→(G !=17)=J)∧((¬G≤22)→false=J))∧((¬10≤G)→false=J)):dT G J:=by
 refine⟨rfl,rfl,?_⟩;refine qA 13 [] func28 λK O=>?_;refine gR 10 rfl<|qBdZ 5 4 rfl rfl rfl rfl h ?_ ?_<;>intro h;refine gR 4 rfl<|qBdZ 9 8 rfl rfl rfl rfl h ?_ ?_<;>intro h;refine gR 7 rfl ?_;subst h;exact qN [.tmp 2];refine gR 7 rfl ?_;subst h;exact qN [.tmp 2];refine gR 11 rfl ?_;subst h;exact qN [.tmp 2]
theorem tV(m:Nat)(G:Int)(J:Bool)(h:∃a,dT G a∧((a=true)→((G≠19)→((G≠20)→(G !=21)=J)∧((G=20)→false=J))∧((G=19)→false=J))∧((a=false)→false=J)):la G J:=by
 refine⟨rfl,rfl,?_⟩;refine qA 17 [] func142 λK O=>?_;refine gR 8 rfl ?_;obtain⟨a,b,h⟩:=h;refine qC0 b rfl<|gR 1 rfl<|qBiZ 5 4 rfl rfl rfl rfl h ?_ ?_<;>intro h;refine gR 4 rfl<|qBhZ 9 8 rfl rfl rfl rfl h dq ce ?_ ?_<;>intro h;refine gR 4 rfl<|qBhZ 13 12 rfl rfl rfl rfl h dq ce ?_ ?_<;>intro h;refine gR 7 rfl ?_;subst h;exact qN [.tmp 2];refine gR 7 rfl ?_;subst h;exact qN [.tmp 2];refine gR 11 rfl ?_;subst h;exact qN [.tmp 2];refine gR 15 rfl ?_;subst h;exact qN [.tmp 2]
theorem rb(m:Nat)(G:List UInt8)(J:Bool)(h:((G=[43])→true=J)∧((G≠[43])→((G=[45])→true=J)∧((G≠[45])→((G=[42])→true=J)∧((G≠[42])→((G=[60])→true=J)∧((G≠[60])→((G=[61,61])→true=J)∧((G≠[61,61])→false=J)))))):ji G J:=by
 refine⟨rfl,rfl,?_⟩;refine qA 10 [] func140 λK O=>?_;refine gR 19 rfl<|qBeZ 4 5 rfl rfl rfl rfl h ?_ ?_<;>intro h;refine gR 12 rfl ?_;subst h;exact qN [.tmp 2];refine gR 7 rfl<|qBeZ 4 6 rfl rfl rfl rfl h ?_ ?_<;>intro h;refine gR 12 rfl ?_;subst h;exact qN [.tmp 2];refine gR 7 rfl<|qBeZ 4 7 rfl rfl rfl rfl h ?_ ?_<;>intro h;refine gR 12 rfl ?_;subst h;exact qN [.tmp 2];refine gR 7 rfl<|qBeZ 4 8 rfl rfl rfl rfl h ?_ ?_<;>intro h;refine gR 12 rfl ?_;subst h;exact qN [.tmp 2];refine gR 6 rfl<|qBeZ 4 9 rfl rfl rfl rfl h ?_ ?_<;>intro h;refine gR 9 rfl ?_;subst h;exact qN [.tmp 2];refine gR 10 rfl ?_;subst h;exact qN [.tmp 2]
def js(m:Nat)(G:Int)(p1:List UInt8)(a:Int)(b J:Bool):Prop:=∀(K:Ctx),az K []→qLG K f101 (λu _=>u=.bool J) (cB (cK (xC (xA (ai f101))))) [.blk 0,.seq (xE (ai f101))] 51 (mkF 51 0 [(1,.str p1),(5,qi a),(8,qi G),(9,.bool b)]) ⟨0,[]⟩
def dX(m:Nat)(G:Int)(p1:List UInt8)(a:Int)(b J:Bool):Prop:=∀(K:Ctx),az K []→qLG K f101 (λu _=>u=.bool J) (cB (xI (cK (xC (xA (ai f101)))))) [.blk 0,.seq (xE (ai f101))] 51 (mkF 51 0 [(1,.str p1),(5,qi a),(8,qi G),(14,.bool b)]) ⟨0,[]⟩
theorem sO(m:Nat)(G:Int)(p1:List UInt8)(O:Bool)(h:∃a,vl p1 a∧((G=1)→js m G p1 a true O)∧((G≠1)→js m G p1 a (G==3) O)):jT G p1 O:=by
 refine⟨rfl,rfl,?_⟩;refine qA 51 [] func101 λK J=>?_;refine gR 8 rfl ?_;obtain⟨a,b,h⟩:=h;refine qC0 b rfl<|gR 17 rfl<|qBeZ 9 10 rfl rfl rfl rfl h ?_ ?_<;>intro h;exact gR 3 rfl<|qJ J (h K J) [];exact gR 6 rfl<|qJ J (h K J) []
theorem sd(m:Nat)(G:Int)(p1:List UInt8)(a:Int)(b O:Bool)(h:((b=true)→(a==2)=O)∧((b=false)→((G=2)→dX m G p1 a true O)∧((G≠2)→((G=4)→dX m G p1 a true O)∧((G≠4)→((G=12)→dX m G p1 a true O)∧((G≠12)→dX m G p1 a (G==20) O))))):js (m+1) G p1 a b O:=by
 intro K J;refine qBi 9 rfl rfl rfl h ?_ ?_<;>intro h;refine gR 11 rfl ?_;subst h;exact qN [.tmp 4];refine gR 8 rfl<|qBeZ 14 15 rfl rfl rfl rfl h ?_ ?_<;>intro h;exact gR 3 rfl<|qJ J (h K J) [];refine gR 7 rfl<|qBeZ 14 16 rfl rfl rfl rfl h ?_ ?_<;>intro h;exact gR 3 rfl<|qJ J (h K J) [];refine gR 7 rfl<|qBeZ 14 17 rfl rfl rfl rfl h ?_ ?_<;>intro h;exact gR 3 rfl<|qJ J (h K J) [];exact gR 6 rfl<|qJ J (h K J) []
theorem rH(m:Nat)(G:Int)(p1:List UInt8)(a:Int)(b J:Bool)(h:((b=true)→(a==1)=J)∧((b=false)→((G=9)→((a=2)→true=J)∧((a≠2)→(a==4)=J))∧((G≠9)→((G=16)→((a=1)→true=J)∧((a≠1)→(a==3)=J))∧((G≠16)→((G=10)→(a==5)=J)∧((G≠10)→((G=11)→(a==6)=J)∧((G≠11)→((G=21)→∃c,ji p1 c∧c=J)∧((G≠21)→(p1==[])=J))))))):dX (m+1) G p1 a b J:=by
 intro K O;refine qBi 14 rfl rfl rfl h ?_ ?_<;>intro h;refine gR 11 rfl ?_;subst h;exact qN [.tmp 4];refine gR 7 rfl<|qBeZ 21 22 rfl rfl rfl rfl h ?_ ?_<;>intro h;refine gR 6 rfl<|qBeZ 25 24 rfl rfl rfl rfl h ?_ ?_<;>intro h;refine gR 9 rfl ?_;subst h;exact qN [.tmp 4];refine gR 9 rfl ?_;subst h;exact qN [.tmp 4];refine gR 7 rfl<|qBeZ 29 30 rfl rfl rfl rfl h ?_ ?_<;>intro h;refine gR 6 rfl<|qBeZ 33 32 rfl rfl rfl rfl h ?_ ?_<;>intro h;refine gR 9 rfl ?_;subst h;exact qN [.tmp 4];refine gR 9 rfl ?_;subst h;exact qN [.tmp 4];refine gR 7 rfl<|qBeZ 37 38 rfl rfl rfl rfl h ?_ ?_<;>intro h;refine gR 11 rfl ?_;subst h;exact qN [.tmp 4];refine gR 7 rfl<|qBeZ 41 42 rfl rfl rfl rfl h ?_ ?_<;>intro h;refine gR 11 rfl ?_;subst h;exact qN [.tmp 4];refine gR 7 rfl<|qBeZ 45 46 rfl rfl rfl rfl h ?_ ?_<;>intro h;refine gR 4 rfl ?_;obtain⟨c,d,h⟩:=h;refine qC0 d rfl<|gR 6 rfl ?_;subst h;exact qN [.tmp 4];refine gR 12 rfl ?_;subst h;exact qN [.tmp 4]
def jI(m:Nat)(G:Tree)(p1 p2:Int)(a J:Bool):Prop:=∀(K:Ctx),az K []→qLG K f102 (λu _=>u=.bool J) (cB (xJ (cK (xC (xA (ai f102)))))) [.blk 0,.seq (xE (ai f102))] 62 (mkF 62 0 [(1,qi p1),(2,qi p2),(12,qi G.kind),(38,.bool a)]) ⟨0,[]⟩
theorem wa(m:Nat)(G:Tree)(p1 p2:Int)(J:Bool)(h:((G.kind=1)→((p2=2)→true=J)∧((p2≠2)→(p2==3)=J))∧((G.kind≠1)→((G.kind=2)→((p1=((G.kids.length:Int)-1))→∃a,dT p2 a∧a=J)∧((p1≠((G.kids.length:Int)-1))→((p1=((G.kids.length:Int)-2))→∃b,ix p2 b∧b=J)∧((p1≠((G.kids.length:Int)-2))→(p2==4)=J)))∧((G.kind≠2)→((G.kind=3)→jI m G p1 p2 true J)∧((G.kind≠3)→((G.kind=4)→jI m G p1 p2 true J)∧((G.kind≠4)→jI m G p1 p2 (G.kind==8) J))))):nr G p1 p2 J:=by
 refine⟨rfl,rfl,?_⟩;refine qA 62 [] func102 λK O=>?_;refine gR 3 rfl<|gFP 0 rfl rfl rfl rfl<|gR 8 rfl<|gV 10 (qi (G.kids.length:Int)) rfl (aI (aD _)) rfl<|gLB 9 rfl (aD _) λc=>gR 17 rfl<|qXeZ 13 14 rfl rfl rfl rfl h ?_ ?_<;>intro U h;refine gR 6 rfl<|qXeZ 17 16 rfl rfl rfl rfl h ?_ ?_<;>intro U h;refine gR 9 rfl ?_;subst h;exact qN [.tmp 6];refine gR 9 rfl ?_;subst h;exact qN [.tmp 6];refine gR 7 rfl<|qXeZ 21 22 rfl rfl rfl rfl h ?_ ?_<;>intro U h;refine gR 12 rfl<|gV 26 (qi ((G.kids.length:Int)-1)) rfl (al (by have :=c;omega) rfl) rfl<|gR 4 rfl<|qXeZ 24 27 rfl rfl rfl rfl h ?_ ?_<;>intro U h;refine gR 4 rfl ?_;obtain⟨a,d,h⟩:=h;refine qC0 d rfl<|gR 8 rfl ?_;subst h;exact qN [.tmp 6];refine gR 5 rfl<|gV 32 (qi ((G.kids.length:Int)-2)) rfl (al (by have :=c;omega) rfl) rfl<|gR 4 rfl<|qXeZ 30 33 rfl rfl rfl rfl h ?_ ?_<;>intro U h;refine gR 4 rfl ?_;obtain⟨b,e,h⟩:=h;refine qC0 e rfl<|gR 8 rfl ?_;subst h;exact qN [.tmp 6];refine gR 14 rfl ?_;subst h;exact qN [.tmp 6];refine gR 8 rfl<|qXeZ 38 39 rfl rfl rfl rfl h ?_ ?_<;>intro U h;exact gR 3 rfl<|qJ O (h K O) [];refine gR 7 rfl<|qXeZ 38 40 rfl rfl rfl rfl h ?_ ?_<;>intro U h;exact gR 3 rfl<|qJ O (h K O) [];exact gR 6 rfl<|qJ O (h K O) []
theorem vn(m:Nat)(J:Tree)(p1 p2:Int)(b G:Bool)(h:((b=true)→∃c,ix p2 c∧c=G)∧((b=false)→((J.kind=16)→(p2==17)=G)∧((J.kind≠16)→((J.kind=21)→∃a,la p2 a∧((a=true)→true=G)∧((a=false)→((p1=0)→(p2==21)=G)∧((p1≠0)→false=G)))∧((J.kind≠21)→∃d,dT p2 d∧d=G)))):jI (m+1) J p1 p2 b G:=by
 intro K O;refine qBi 38 rfl rfl rfl h ?_ ?_<;>intro h;refine gR 4 rfl ?_;obtain⟨c,e,h⟩:=h;refine qC0 e rfl<|gR 6 rfl ?_;subst h;exact qN [.tmp 6];refine gR 7 rfl<|qBeZ 44 45 rfl rfl rfl rfl h ?_ ?_<;>intro h;refine gR 11 rfl ?_;subst h;exact qN [.tmp 6];refine gR 7 rfl<|qBeZ 48 49 rfl rfl rfl rfl h ?_ ?_<;>intro h;refine gR 4 rfl ?_;obtain⟨a,f,h⟩:=h;refine qC0 f rfl<|gR 1 rfl<|qBiZ 52 51 rfl rfl rfl rfl h ?_ ?_<;>intro h;refine gR 13 rfl ?_;subst h;exact qN [.tmp 6];refine gR 3 rfl<|qBeZ 55 54 rfl rfl rfl rfl h ?_ ?_<;>intro h;refine gR 10 rfl ?_;subst h;exact qN [.tmp 6];refine gR 10 rfl ?_;subst h;exact qN [.tmp 6];refine gR 7 rfl ?_;obtain⟨d,g,h⟩:=h;refine qC0 g rfl<|gR 4 rfl ?_;subst h;exact qN [.tmp 6]
def gU(m:Nat)(J:Tree)(a:Nat)(O:Bool):Prop:=∀(K:Ctx) (G:Nat),az K []→m≤G→qLG K f60 (λu _=>u=.bool O) (xH (ai f60)) [.loop (xH (ai f60)) G,.blk 0,.seq (xE (ai f60))] 45 (mkF 45 0 [(1,.box (am J) 0),(3,qi (a:Int))]) ⟨0,[]⟩
theorem tO(m:Nat)(p0:Tree)(r0:Bool)(h:∃a,lK p0.kind (p0.kids.length:Int) a∧((a<0)→false=r0)∧((¬a<0)→∃b,jT p0.kind p0.text b∧((b=false)→false=r0)∧((b=true)→gU m p0 0 r0))):iE p0 r0:=by
 refine⟨rfl,rfl,?_⟩;refine qA 45 [] func60 λK hK=>?_;refine gR 3 rfl<|gFP 0 rfl rfl rfl rfl<|gR 11 rfl<|gV 8 (qi (p0.kids.length:Int)) rfl (aI (aD _)) rfl<|gLB 7 rfl (aD _) λe=>?_;obtain⟨a,c,h⟩:=h;refine qC0 c rfl<|gR 2 rfl<|qXdZ 11 10 rfl rfl rfl rfl h ?_ ?_<;>intro hd h;refine gR 17 rfl ?_;subst h;exact qN [.tmp 2];refine gR 4 rfl ?_;obtain⟨b,d,h⟩:=h;refine qC0 d rfl<|gR 4 rfl<|qXh 18 rfl rfl rfl h bt br ?_ ?_<;>intro hd h;refine gR 8 rfl ?_;subst h;exact qN [.tmp 2];exact gR 10 rfl<|go_loop m<|qW hK h []
theorem nv(m:Nat)(G:Tree)(a:Nat)(J:Bool)(h:((a<G.kids.length)→∃d,G.kids[a]?=some d∧∃b,nr G (a:Int) d.kind b∧((b=false)→false=J)∧((b=true)→∃e,G.kids[a]?=some e∧∃c,iE e c∧((c=false)→false=J)∧((c=true)→gU m G (a+1) J)))∧((¬a<G.kids.length)→true=J)):gU (m+1) G a J:=by
 refine qj λK Z U l=>?_;refine gR 7 rfl<|gV 22 (qi (G.kids.length:Int)) rfl (aI (aD _)) rfl<|gLB 21 rfl (aD _) λi=>gR 3 rfl<|qXh 23 rfl rfl rfl h cr co ?_ ?_<;>intro O h;refine gR 6 rfl<|qDs [] 19 19<|qDr (qR 0 4 2 [(4,0)]) rfl rfl ?_;obtain⟨d,f,h⟩:=h;refine bU 5 rfl (by kernel_rfl) (aG (aq f) ah rfl rfl rfl rfl) rfl rfl ?_;refine qDr [(6,0),(7,0)] rfl rfl ?_;obtain⟨b,j,h⟩:=h;refine eU 8 j (by kernel_rfl) rfl (by kernel_rfl) rfl rfl .rfl rfl rfl ?_;refine qDr [(9,0),(10,0)] rfl rfl<|qXhZ 36 35 rfl rfl rfl rfl h bt br ?_ ?_<;>intro O h;refine qDr ((11,2)::(12,2)::(qR 13 6 0 [])) rfl rfl<|qDe<|gR 10 rfl<|go_xloopR<|gR 2 rfl ?_;subst h;exact qN [.tmp 2];refine qDr [(11,2),(12,2),(13,0)] rfl rfl ?_;obtain⟨e,g,h⟩:=h;refine bU 14 rfl (by kernel_rfl) (aG (aq g) ah rfl rfl rfl rfl) rfl rfl ?_;refine qDr [(15,0)] rfl rfl ?_;obtain⟨c,k,h⟩:=h;refine eU 16 k (by kernel_rfl) rfl (by kernel_rfl) rfl rfl .rfl rfl rfl ?_;refine qDr [(17,0),(18,0)] rfl rfl<|qDe<|gR 1 rfl<|qXh 44 rfl rfl rfl h bt br ?_ ?_<;>intro O h;refine gR 9 rfl<|go_xloopR<|gR 2 rfl ?_;subst h;exact qN [.tmp 2];exact gR 7 rfl<|gV 25 (qi ((a+1:Nat):Int)) rfl (al (by have :=i;omega) (by omega)) rfl<|gR 2 rfl<|go_xloop<|qW U h [];refine gR 3 rfl<|go_xloopE<|gR 8 rfl ?_;subst h;exact qN [.tmp 2]
end Go.Proofs.YtomplbgchbfjpaaGreatDoor
