/- Contracts of the functions that the law reaches, part 7. -/
import Derived.Test.YtomplbgchbfjpaaGreatDoorOf6
set_option linter.unusedVariables false
set_option linter.unusedSimpArgs false
namespace Go.Proofs.YtomplbgchbfjpaaGreatDoor
open _root_.Go.Proofs.Tryz
open Go.RowKit Lx Sx
set_option maxRecDepth 100000
set_option maxHeartbeats 1000000
variable{α:Type}
variable{n:Nat}
variable{i:Nat}
variable{q:YI}
variable{x:Cx}
variable{s:Sv}
variable{s':Sv}{c':CHr}
variable{env:Env}{en:List Bd}
variable{u:Tree}
variable{t:Tree}
variable{E:Ev}{N L:Nat}
variable{m:Nat}
variable{a b:Kn}
variable{q1:YI}
variable{p:YT}
variable{B:Int×Int}
set_option maxHeartbeats 4000000
open Go.RowKit
variable{S:Nat->Prop}
variable{k:Nat}{fid:FuncId}
theorem QB:AW pS (GO Kb 10000 20 [.str SZ])=true:=by kernel_rfl
theorem FX:bk [pS]=true:=by decide+kernel
theorem GM:kbulk [pS]<=10000000:=by decide+kernel
theorem RU(nm:List<|(Int×YB)×ac):(gm [pS] nm 0 []).fa=[⟨⟨0,[0,1,1]⟩,6⟩,⟨⟨0,[1,2,2]⟩,3⟩]:=by kernel_rfl
theorem FI(nm:List<|(Int×YB)×ac):(gm [pS] nm 0 [0,1]).rs=5∧(gm [pS] nm 0 [0,1]).rl=0:=⟨by kernel_rfl,by kernel_rfl⟩
def Sm:Tree:=(atK pS [0,1]).getD<|.node 0 [] [] []
theorem RF:dT Sm.kind=true:=by decide+kernel
inductive It where
 |seq (c:Code)
 |blk (id:Nat)
inductive Pt where
 |code (c:Code)
 |ops (all:Array Oper) (rest:List Oper)
 |ex (e:Exit)
def stk(P:Program)(Q:Exit->Act->World->Prop):List It->Exit->Act->World->Prop
 |[]=>Q
 |.seq c::s=>Exit.then (c.wp P<|stk P Q s)<|stk P Q s
 |.blk id::s=>Exit.inBlock id<|stk P Q s
def Pt.wp(P:Program)(Q:Exit->Act->World->Prop)(p:Pt)(s:List It)(a:Act)(w:World):Prop:=
 match p with
 |.code c=>c.wp P (stk P Q s) a w
 |.ops all rest=>wpList P all (stk P Q s) rest a w
 |.ex e=>stk P Q s e a w
def Hy(b:Bool):Option Value:=match b with|true=>some (.bool true)|false=>some<|.bool false
def JC(ft:Nat->Nat->Option Nat)(f:Nat->Option Value)(op:Op):Option Value:=
 match op with
 |.move x=>aG f x
 |.assign x=>aG f x
 |.pick c x y=>match aG f c with
  |some (.bool true)=>aG f x
  |some (.bool false)=>aG f y
  |_=>none
 |.nilCheck x=>match aG f x with
  |some (.pointer (some p))=>some<|.pointer<|some p
  |_=>none
 |.extract x i=>match aG f x with
  |some (.tuple vs)=>vs[i]?
  |_=>none
 |.unOp .not _ x=>match aG f x with
  |some (.bool b)=>Hy<|!b
  |_=>none
 |.fieldAddr t x i=>match aG f x with
  |some (.pointer (some ⟨b,o,none⟩))=>match ft t i with
   |some k=>some<|.pointer<|some ⟨b,o+k,none⟩
   |none=>none
  |_=>none
 |.binOp .eql _ x y _=>match aG f x with
  |some (.int k m)=>match aG f y with
   |some (.int k' l)=>if k=k' then Hy (m==l)else none
   |_=>none
  |_=>none
 |.binOp .neq _ x y _=>match aG f x with
  |some (.int k m)=>match aG f y with
   |some (.int k' l)=>if k=k' then Hy (m !=l)else none
   |_=>none
  |_=>none
 |_=>none
def Dg(ft:Nat->Nat->Option Nat)(n:Nat)(all:Array Oper)(o:Oper)(f:Nat->Option Value):Option (Nat->Option Value):=
 match hI f all o.guard with
 |true=>match JC ft f o.op with
  |some v=>match gy o.dst n with
   |true=>some<|upo f o.dst v
   |false=>none
  |none=>none
 |false=>match wV f all o.guard with
  |true=>match gy o.dst n with
   |true=>some<|upo f o.dst undef
   |false=>none
  |false=>none
def jN (ft:Nat->Nat->Option Nat) (n:Nat):Nat->Pt->List It->(Nat->Option Value)->Option (Pt×List It×(Nat->Option Value))
 |0,p,s,f=>some (p,s,f)
 |k+1,.code c,s,f=>match c with
  |.seq x y=>jN ft n k (.code x) (.seq y::s) f
  |.block id c=>jN ft n k (.code c) (.blk id::s) f
  |.skip=>jN ft n k (.ex .normal) s f
  |.ret=>jN ft n k (.ex .ret) s f
  |.exit id=>jN ft n k (.ex<|.exit id) s f
  |.cond c x y=>match aG f c with
   |some (.bool true)=>jN ft n k (.code x) s f
   |some (.bool false)=>jN ft n k (.code y) s f
   |_=>none
  |.region _ ⟨l⟩ false=>jN ft n k (.ops ⟨l⟩ l) s f
  |_=>none
 |k+1,.ops all rest,s,f=>match rest with
  |[]=>jN ft n k (.ex .normal) s f
  |o::r=>match Dg ft n all o f with
   |some f'=>jN ft n k (.ops all r) s f'
   |none=>none
 |k +1,.ex e,s,f=>match s with
  |[]=>none
  |.seq c::s=>match e with
   |.normal=>jN ft n k (.code c) s f
   |.exit i=>jN ft n k (.ex<|.exit i) s f
   |.ret=>jN ft n k (.ex .ret) s f
   |_=>none
  |.blk id::s=>match e with
   |.normal=>jN ft n k (.ex .normal) s f
   |.exit i=>match Nat.beq i id with
    |true=>jN ft n k (.ex .normal) s f
    |false=>jN ft n k (.ex<|.exit i) s f
   |.ret=>jN ft n k (.ex .ret) s f
   |_=>none
section
variable{P:Program}{Q:Exit->Act->World->Prop}{a:Act}{w w':World}{n:Nat}{f f':Nat->Option Value}{ft:Nat->Nat->Option Nat}{p p':Pt}{s s':List It}
theorem Ar{b:Bool}{v:Value}(h:Hy b=some v):v=.bool b:=by cases b<;>simp[Hy]at h<;>exact h.symm
theorem FT(G:∀t i k,ft t i=some k->jc P t i=some k){op:Op}{v:Value}{ty:TypeId}(h:Fr a n f)(hv:JC ft f op=some v):Runs P a ty op w (.value v) w:=by
 unfold JC at hv;split at hv
 ·exact AS h hv
 ·exact Ad h hv
 ·split at hv
  ·exact Hx h ‹_› hv
  ·exact FJ h ‹_› hv
  ·cases hv
 ·split at hv
  ·injection hv with hv;subst hv;exact De h ‹_›
  ·cases hv
 ·split at hv
  ·exact Dm h ‹_› hv
  ·cases hv
 ·split at hv
  ·rw[Ar hv];exact Me h ‹_› rfl
  ·cases hv
 ·split at hv
  ·split at hv
   ·injection hv with hv;subst hv;exact EO h ‹_› (G _ _ _ ‹_›) rfl
   ·cases hv
  ·cases hv
 ·split at hv
  ·split at hv
   ·split at hv
    ·rename_i e;subst e;rw[Ar hv];exact Ni h ‹_› ‹_› rfl
    ·cases hv
   ·cases hv
  ·cases hv
 ·split at hv
  ·split at hv
   ·split at hv
    ·rename_i e;subst e;rw[Ar hv];exact Mn h ‹_› ‹_› rfl
    ·cases hv
   ·cases hv
  ·cases hv
 ·cases hv
theorem OG(G:∀t i k,ft t i=some k->jc P t i=some k){all:Array Oper}{o:Oper}{rest:List Oper}{Q:Exit->Act->World->Prop}(h:Fr a n f)(hs:Dg ft n all o f=some f')(k:∀a',Fr a' n f'->wpList P all Q rest a' w):wpList P all Q (o::rest) a w:=by
 obtain⟨d,op,ty,ps,af,g⟩:=o;unfold Dg at hs;dsimp only at hs;split at hs
 ·split at hs
  ·split at hs
   ·injection hs with hs;subst hs
    exact NG h ‹_› ‹_› (FT G h ‹_›) k
   ·cases hs
  ·cases hs
 ·split at hs
  ·split at hs
   ·injection hs with hs;subst hs
    exact Uz h ‹_› ‹_› k
   ·cases hs
  ·cases hs
theorem fk(hft:∀t i k,ft t i=some k->jc P t i=some k):∀(k:Nat) (p:Pt) (s:List It) (f:Nat->Option Value) (a:Act),Fr a n f->jN ft n k p s f=some (p',s',f')->(∀a',Fr a' n f'->Pt.wp P Q p' s' a' w)->Pt.wp P Q p s a w
 |0,p,s,f,a,h,hr,kk=>by simp only[jN,aad,Prod.mk.injEq]at hr;obtain⟨rfl,rfl,rfl⟩:=hr;exact kk a h
 | k+1,.code c,s,f,a,h,hr,kk=>by
  unfold jN at hr;split at hr
  ·exact wp_seq<|fk hft k _ (.seq _::s) f a h hr kk
  ·exact wp_block<|fk hft k _ (.blk _::s) f a h hr kk
  ·exact wp_skip<|fk hft k _ s f a h hr kk
  ·exact wp_ret<|fk hft k _ s f a h hr kk
  ·exact wp_exit<|fk hft k _ s f a h hr kk
  ·split at hr
   ·exact Co h ‹_› (fk hft k _ s f a h hr kk)
   ·exact Cr h ‹_› (fk hft k _ s f a h hr kk)
   ·cases hr
  ·exact wp_region_lit<|fk hft k _ s f a h hr kk
  ·cases hr
 | k+1,.ops all rest,s,f,a,h,hr,kk=>by
  unfold jN at hr;split at hr
  ·have ih:=fk hft k _ _ f a h hr kk;exact(MF ih:wpList P all (stk P Q s) [] a w)
  ·split at hr
   ·exact OG hft h ‹_› (λa' h'=>fk hft k _ s _ a' h' hr kk)
   ·cases hr
 | k +1,.ex e,s,f,a,h,hr,kk=>by
  unfold jN at hr;split at hr
  ·cases hr
  ·split at hr
   ·have ih:=fk hft k _ _ f a h hr kk;exact ih
   ·have ih:=fk hft k _ _ f a h hr kk;exact ih
   ·have ih:=fk hft k _ _ f a h hr kk;exact ih
   ·cases hr
  ·split at hr
   ·have ih:=fk hft k _ _ f a h hr kk;exact ih
   ·split at hr
    ·rename_i hb;have :=aag hb;subst this;have :=fk hft k _ _ f a h hr kk;simp only[Pt.wp,stk,Exit.inBlock,if_true]at this⊢;exact this
    ·rename_i hb;have hne:=Nat.ne_of_beq_eq_false hb;have :=fk hft k _ _ f a h hr kk;simp only[Pt.wp,stk,Exit.inBlock,if_neg hne]at this⊢;exact this
   ·have ih:=fk hft k _ _ f a h hr kk;exact ih
   ·cases hr
end
def ftG:List (Nat×Nat×Nat)->Nat->Nat->Option Nat
 |[],_,_=>none
 |(t,i,k)::r,G,J=>match Nat.beq t G with
  |true=>match Nat.beq i J with
   |true=>some k
   |false=>ftG r G J
  |false=>ftG r G J
def ftB(P:Program):List (Nat×Nat×Nat)->Bool
 |[]=>true
 |(t,i,k)::r=>(jc P t i==some k)&&ftB P r
theorem HJ{P:Program}:∀(l:List<|Nat×Nat×Nat),ftB P l=true->∀t i k,ftG l t i=some k->jc P t i=some k
 |[],_,_,_,_,h=>by cases h
 | (t0,i0,k0)::r,hb,t,i,k,h=>by
  simp only[ftB,aaa,aaq]at hb;simp only[ftG]at h;split at h
  ·rename_i e1;split at h
   ·rename_i e2;have :=aag e1;have :=aag e2
    subst_vars
    rw[hb.1];exact h
   ·exact HJ r hb.2 t i k h
  ·exact HJ r hb.2 t i k h
section
variable{P:Program}{Q:Exit->Act->World->Prop}{a:Act}{w w':World}{n:Nat}{f f':Nat->Option Value}{p p':Pt}{s s':List It}{all:Array Oper}{rest:List Oper}{d:Option Tmp}{op:Op}{ty:TypeId}{ps:String}{af:Array Edge}{g:Option (Nat×Bool)}{v:Value}
theorem rV(h:Fr a n f)(G:(hI f all g&&gy d n)=true)(J:Runs P a ty op w (.value v) w')(k:∀a',Fr a' n (upo f d v)->Pt.wp P Q (.ops all rest) s a' w'):Pt.wp P Q (.ops all<|⟨d,op,ty,ps,af,g⟩::rest) s a w:=NG h (Bool.and_eq_true_iff.1 G).1 (Bool.and_eq_true_iff.1 G).2 J k
theorem rS(h:Fr a n f)(G:(hI f all g&&gy d n)=true)(J:Runs P a ty op w .skip w')(k:∀a',Fr a' n (upo f d undef)->Pt.wp P Q (.ops all rest) s a' w'):Pt.wp P Q (.ops all<|⟨d,op,ty,ps,af,g⟩::rest) s a w:=Uw h (Bool.and_eq_true_iff.1 G).1 (Bool.and_eq_true_iff.1 G).2 J k
theorem rC{args:List Operand}{tys:Array TypeId}{vs:List Value}{R:Ending->World->Prop}(h:Fr a n f)(G:(hI f all g&&gy d n)=true)(hv:tF f args=some vs)(J:cw P fid=true)
 (O:Calls P fid vs.toArray w R) (k:∀e w',R e w'->∃v,e=.returned v∧∀a',Fr a' n (upo f d v)->Pt.wp P Q (.ops all rest) s a' w'):
 Pt.wp P Q (.ops all<|⟨d,.call {callee:=.value<|.func fid,args:=args.toArray,argTypes:=tys},ty,ps,af,g⟩::rest) s a w:=UL h (Bool.and_eq_true_iff.1 G).1 (Bool.and_eq_true_iff.1 G).2 hv J O k
theorem rL{c:Code}(I:Nat->Act->World->Prop)(n₀:Nat)(h₀:I n₀ a w)(round:∀n a w,I n a w->Pt.wp P (Exit.then (λa' w'=>∃G,G<n∧I G a' w')<|stk P Q s) (.code c) [] a w):Pt.wp P Q (.code<|.loop c) s a w:=wp_loop_ghost I n₀ h₀ round
theorem rX{K:Act->World->Prop}(h:K a w):Pt.wp P (Exit.then K Q) (.ex .normal) [] a w:=h
theorem rO{K:Act->World->Prop}(h:Pt.wp P Q (.ex<|.exit i) s a w):Pt.wp P (Exit.then K<|stk P Q s) (.ex<|.exit i) [] a w:=h
theorem rD{id:Nat}{l:List Oper}(S:World->Prop)(m sz:Nat)(hsz:l.length=sz)(G:P.follows .mixedOrders=true)(hs:Region.noSelect l.toArray=true)
 (k:∀w',Chg [] w w'->Region.noSelect l.toArray=true->wpAnyL P .any l.toArray (NoPanic<|stk P Q s) S m sz (Array.replicate sz false) a w'):Pt.wp P Q (.code<|.region id l.toArray true) s a w:=Nn S m sz hsz G hs k
theorem rN{S:World->Prop}{fuel:Nat}{listed:Array Bool}(hr:Region.ready .any all listed=[])(k:Pt.wp P Q (.ex .normal) s a w):wpAnyL P .any all (NoPanic<|stk P Q s) S m fuel listed a w:=PB hr k
theorem rE{fn:Func}{c:Code}{args:List Value}{R:Ending->World->Prop}(N:Nat)(hf:P.funcs[fid]?=some fn)(hb:fn.body=some c)(G:fn.ntmps=N)(J:Nat.ble args.length N=true)
 (k:∀a,Fr a N (λi=>args[i]?)->Pt.wp P (bodyPost P fn R) (.code c) [] a w):Calls P fid args.toArray w R:=Oz N hf hb G J k
theorem rT{fn:Func}{R:Ending->World->Prop}{rs:List ResultVar}{vs:List Value}(h:Fr a n f)(hr:fn.results=rs.toArray)(hv:tM P f w rs vs)(G:R (.returned<|rM vs) w):Pt.wp P (bodyPost P fn R) (.ex .ret) [] a w:=ret_of h hr hv G
theorem rF{fn:Func}{R:Ending->World->Prop}{rs:List ResultVar}{vs:List Value}(h:Fr a n f)(hr:fn.results=rs.toArray)(hv:tM P f w rs vs)(G:R (.returned<|rM vs) w):Pt.wp P (bodyPost P fn R) (.ex .normal) [] a w:=Ru h hr hv G
end
def JF(ops:Array Oper)(m:Nat):YN->Array Bool->Bool
 |[],_=>true
 |i::r,l=>(!(Nat.beq i m)&&Region.free .any ops l i&&(Region.ready .any ops l).contains i)&&JF ops m r (l.setIfInBounds i true)
def Oe:YN->Array Bool->Array Bool
 |[],l=>l
 |i::r,l=>Oe r<|l.setIfInBounds i true
def HB(ft:Nat->Nat->Option Nat)(n:Nat)(ops:Array Oper):YN->(Nat->Option Value)->Option (Nat->Option Value)
 |[],f=>some f
 |i::r,f=>match ops[i]? with
  |some o=>match Dg ft n ops o f with
   |some f'=>HB ft n ops r f'
   |none=>none
  |none=>none
theorem NU{l:Array Bool}(h:Nat.beq i m=false)(J:l.getD m false=true):(l.setIfInBounds i true).getD m false=true:=by have G:i≠m:=Nat.ne_of_beq_eq_false h;rw[Array.getD_eq_getD_getElem?]at J⊢;rw[Array.getElem?_setIfInBounds,if_neg G];exact J
theorem Pb{P:Program}{Q:Exit->Act->World->Prop}{w:World}{n:Nat}{f':Nat->Option Value}{ops:Array Oper}{S:World->Prop}{m:Nat}{ft:Nat->Nat->Option Nat}(hft:∀t i k,ft t i=some k->jc P t i=some k)(hs:Region.noSelect ops=true):∀(is:YN) (fuel:Nat) (listed:Array Bool) (f:Nat->Option Value) (a:Act),JF ops m is listed=true->Fr a n f->HB ft n ops is f=some f'->(S w∨listed.getD m false=true)->(∀a',Fr a' n f'->wpAnyL P .any ops (NoPanic Q) S m fuel (Oe is listed) a' w)->wpAnyL P .any ops (NoPanic Q) S m (fuel+is.length) listed a w
 |[],fuel,listed,f,a,hc,h,hr,hS,k=>by simp only[HB,aad]at hr;subst hr;exact k a h
 | i ::r,fuel,listed,f,a,hc,h,hr,hS,k=>by
  simp only[JF,aaa,Bool.not_eq_true']at hc;obtain⟨⟨⟨h1,h2⟩,h3⟩,h4⟩:=hc;unfold HB at hr;split at hr
  ·rename_i o ho;obtain⟨d,op,ty,ps,af,g⟩:=o;split at hr
   ·rename_i f1 hf1;have hS':S w∨(listed.setIfInBounds i true).getD m false=true:=hS.imp id<|NU h1;have go:∀a',Fr a' n f1->wpAnyL P .any ops (NoPanic Q) S m (fuel+r.length) (listed.setIfInBounds i true) a' w:=λa' h'=>Pb hft hs r fuel _ f1 a' h4 h' hr hS' k;show wpAnyL P .any ops (NoPanic Q) S m (fuel+r.length+1) listed a w;unfold Dg at hf1;dsimp only at hf1;split at hf1
    ·split at hf1
     ·rename_i v hv;split at hf1
      ·injection hf1 with e;subst e
       exact dl_v i h1 ho hs h2 h3 h ‹_› ‹_› hS (λw'=>FT hft h hv) go
      ·cases hf1
     ·cases hf1
    ·split at hf1
     ·split at hf1
      ·injection hf1 with e;subst e
       exact UE i h1 ho hs h2 h3 h ‹_› ‹_› hS go
      ·cases hf1
     ·cases hf1
   ·cases hr
  ·cases hr
abbrev zT:List Value:=[.int .i64 0,.string ⟨([]:YB).toArray⟩,.slice none 0 0,.slice none 0 0]
theorem Chg.t0{X:YN}{w w1 w2:World}(h:Chg X w w1)(k:Chg [] w1 w2):Chg X w w2:=h.trans k Rt
theorem Chg.n1{X:YN}{w w1 w2:World}{c:Nat}(h:Chg X w w1)(k:Chg [c] w1 w2)(g:w.heap.size<=c):Chg X w w2:=h.trans k<|Ug (.inr g) Rt
section
variable{w w1:World}{b c:Nat}{t:TypeId}{cs:List Value}
theorem Blk.c0(h:Blk w b t cs)(hx:Chg [] w w1):Blk w1 b t cs:=h.chg hx nm0
end
theorem eT(a:Act)(w:World)(ty:TypeId):∃w' b,Runs prog a ty (.alloc 29) w (.value<|.pointer<|some ⟨b,0,none⟩) w'∧Blk w' b 29 zT∧Chg [] w w'∧b=w.heap.size∧b<w'.heap.size:=FB zT (by kernel_rfl) a w ty
section
variable{a:Act}{w:World}{n:Nat}{f:Nat->Option Value}{tb:TypeId}{b o:Nat}{v:Value}{vs cs:List Value}
theorem eN(x y:Operand)(h:Fr a n f)(hx:aG f x=some (.pointer<|some ⟨b,0,none⟩))(hy:aG f y=some (.agg vs.toArray))(hv:vs.length=4)(G:vs.all (·.oneCell')=true)(hb:Blk w b tb cs)(J:cs.length=4)(ty:TypeId):
 ∃w',Runs prog a ty (.store 29 x y) w .skip w'∧Blk w' b tb vs∧Chg [b] w w':=LL (m:=4) h hx hy (by kernel_rfl) hv G hb J ty
theorem eS(t:TypeId)(x y:Operand)(h:Fr a n f)(hx:aG f x=some (.pointer<|some ⟨b,o,none⟩))(hy:aG f y=some v)(G:dO prog t=some 1)(h1:v.oneCell'=true)(hb:Blk w b tb cs)(J:Nat.ble (o+1) cs.length=true)(ty:TypeId):
 ∃w',Runs prog a ty (.store t x y) w .skip w'∧Blk w' b tb (cs.set o v)∧Chg [b] w w':=FV h hx hy G h1 hb (Nat.le_of_ble_eq_true J) ty
end
theorem dL{Q:Exit->Act->World->Prop}{a:Act}{w:World}{n:Nat}{f:Nat->Option Value}{ops:Array Oper}{d:Option Tmp}{op:Op}{ty:TypeId}{ps:String}{af:Array Edge}{g:Option<|Nat×Bool}{v:Value}{P:Program}{S:World->Prop}{fuel:Nat}{listed:Array Bool}(i:Nat)(G:Nat.beq i m=false)(hi:ops[i]?=some ⟨d,op,ty,ps,af,g⟩)(hs:Region.noSelect ops=true)(hf:(nW .any ops m i&&!listed.getD m false&&Region.free .any ops listed i&&(Region.ready .any ops listed).contains i)=true)
  (h:Fr a n f) (J:(hI f ops g&&gy d n)=true) (O:S w) (U:∀w',S w'->Runs P a ty op w' (.value v) w')
  (k:∀a',Fr a' n (upo f d v)->wpAnyL P .any ops (NoPanic Q) S m fuel (listed.setIfInBounds i true) a' w):wpAnyL P .any ops (NoPanic Q) S m (fuel+1) listed a w:=by
 simp only[aaa,Bool.not_eq_true']at hf;exact Um i G hf.1.1.1 hf.1.1.2 hi hs hf.1.2 hf.2 h (Bool.and_eq_true_iff.1 J).1 (Bool.and_eq_true_iff.1 J).2 O U k
abbrev wR:= @wp_region_lit
abbrev wS:= @wp_seq_k
abbrev sN:= @MF
abbrev cdT:= @Co
abbrev cdF:= @Cr
abbrev nlt:= @Nat.le_trans
theorem yqA[BEq α][LawfulBEq α]{a b:α}:(a==b)=false↔a≠b:=aaB
theorem yqB[BEq α][LawfulBEq α]{a b:α}:(a==b)=true↔a=b:=aaq
theorem yqC[BEq α][LawfulBEq α]{a b:α}:(a !=b)=true↔a≠b:=bne_iff_ne
theorem yqD[BEq α][LawfulBEq α]{a b:α}:(a !=b)=false↔a=b:=bne_eq_false_iff_eq
theorem yqE{p:Prop}[Decidable p]:(decide p=true)↔p:=decide_eq_true_iff
theorem yqF{p:Prop}[Decidable p]:(decide p=false)↔¬p:=decide_eq_false_iff_not
section
variable{P:Program}{ops:Array Oper}{Q:Exit->Act->World->Prop}{a:Act}{w w':World}{rest:List Oper}{n:Nat}{f:Nat->Option Value}{ty:TypeId}{d:Option Tmp}{op:Op}{ps:String}{af:Array Edge}{g:Option (Nat×Bool)}{v:Value}{x:Operand}
theorem sV(h:Fr a n f)(G:(hI f ops g&&gy d n)=true)(J:Runs P a ty op w (.value v) w')(k:∀a',Fr a' n (upo f d v)->wpList P ops Q rest a' w'):wpList P ops Q (⟨d,op,ty,ps,af,g⟩::rest) a w:=NG h (Bool.and_eq_true_iff.1 G).1 (Bool.and_eq_true_iff.1 G).2 J k
theorem sA(h:Fr a n f)(G:(hI f ops g&&gy d n)=true)(hx:aG f x=some v)(k:∀a',Fr a' n (upo f d v)->wpList P ops Q rest a' w):wpList P ops Q (⟨d,.assign x,ty,ps,af,g⟩::rest) a w:=sV h G (Ad h hx) k
theorem sM(h:Fr a n f)(G:(hI f ops g&&gy d n)=true)(hx:aG f x=some v)(k:∀a',Fr a' n (upo f d v)->wpList P ops Q rest a' w):wpList P ops Q (⟨d,.move x,ty,ps,af,g⟩::rest) a w:=sV h G (AS h hx) k
variable{S:World->Prop}{m fuel:Nat}{listed:Array Bool}
theorem dV(i:Nat)(G:Nat.beq i m=false)(hi:ops[i]?=some ⟨d,op,ty,ps,af,g⟩)(hs:Region.noSelect ops=true)(hf:(Region.free .any ops listed i&&(Region.ready .any ops listed).contains i)=true)
    (h:Fr a n f) (J:(hI f ops g&&gy d n)=true) (O:S w∨listed.getD m false=true) (U:∀w',Runs P a ty op w' (.value v) w')
    (k:∀a',Fr a' n (upo f d v)->wpAnyL P .any ops (NoPanic Q) S m fuel (listed.setIfInBounds i true) a' w):wpAnyL P .any ops (NoPanic Q) S m (fuel+1) listed a w:=
  dl_v i G hi hs (Bool.and_eq_true_iff.1 hf).1 (Bool.and_eq_true_iff.1 hf).2 h (Bool.and_eq_true_iff.1 J).1 (Bool.and_eq_true_iff.1 J).2 O U k
theorem dM(i:Nat)(G:Nat.beq i m=false)(hi:ops[i]?=some ⟨d,.move x,ty,ps,af,g⟩)(hs:Region.noSelect ops=true)(hf:(Region.free .any ops listed i&&(Region.ready .any ops listed).contains i)=true)
    (h:Fr a n f) (J:(hI f ops g&&gy d n)=true) (O:S w) (hx:aG f x=some v)
    (k:∀a',Fr a' n (upo f d v)->wpAnyL P .any ops (NoPanic Q) S m fuel (listed.setIfInBounds i true) a' w):wpAnyL P .any ops (NoPanic Q) S m (fuel+1) listed a w:=
  dV i G hi hs hf h J (.inl O) (λ_=>AS h hx) k
end
end Go.Proofs.YtomplbgchbfjpaaGreatDoor
