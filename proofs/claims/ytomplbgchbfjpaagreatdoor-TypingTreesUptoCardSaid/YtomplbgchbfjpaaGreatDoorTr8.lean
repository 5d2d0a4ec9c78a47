/- Contracts of the functions that the law reaches, part 8. -/
import Derived.Test.YtomplbgchbfjpaaGreatDoorTr7
set_option linter.unusedVariables false
set_option linter.unusedSimpArgs false
namespace Go.Proofs.YtomplbgchbfjpaaGreatDoor
open _root_.Go.Proofs.Tryz
open Go.RowKit
inductive It where
 |seq (c:Code)
 |blk (id:Nat)
inductive Pt where
 |code (c:Code)
 |ops (all:Array Oper) (rest:List Oper)
 |ex (e:Exit)
def stk(P:Program)(Q:Exit→Act→World→Prop):List It→Exit→Act→World→Prop
 |[]=>Q
 |.seq c::s=>Exit.then (c.wp P (stk P Q s)) (stk P Q s)
 |.blk id::s=>Exit.inBlock id (stk P Q s)
def Pt.wp(P:Program)(Q:Exit→Act→World→Prop)(p:Pt)(s:List It)(a:Act)(w:World):Prop:=
 match p with
 |.code c=>c.wp P (stk P Q s) a w
 |.ops all rest=>wpList P all (stk P Q s) rest a w
 |.ex e=>stk P Q s e a w
def CT(b:Bool):Option Value:=match b with|true=>some (.bool true)|false=>some (.bool false)
def GC(ft:Nat→Nat→Option Nat)(f:Nat→Option Value)(op:Op):Option Value:=
 match op with
 |.move x=>aB f x
 |.assign x=>aB f x
 |.pick c x y=>match aB f c with
  |some (.bool true)=>aB f x
  |some (.bool false)=>aB f y
  |_=>none
 |.nilCheck x=>match aB f x with
  |some (.pointer (some p))=>some (.pointer (some p))
  |_=>none
 |.extract x i=>match aB f x with
  |some (.tuple vs)=>vs[i]?
  |_=>none
 |.unOp .not _ x=>match aB f x with
  |some (.bool b)=>CT (!b)
  |_=>none
 |.fieldAddr t x i=>match aB f x with
  |some (.pointer (some ⟨b,o,none⟩))=>match ft t i with
   |some k=>some (.pointer (some ⟨b,o+k,none⟩))
   |none=>none
  |_=>none
 |.binOp .eql _ x y _=>match aB f x with
  |some (.int k m)=>match aB f y with
   |some (.int k' l)=>if k=k' then CT (m==l)else none
   |_=>none
  |_=>none
 |.binOp .neq _ x y _=>match aB f x with
  |some (.int k m)=>match aB f y with
   |some (.int k' l)=>if k=k' then CT (m !=l)else none
   |_=>none
  |_=>none
 |_=>none
def yV(ft:Nat→Nat→Option Nat)(n:Nat)(all:Array Oper)(o:Oper)(f:Nat→Option Value):Option (Nat→Option Value):=
 match gh f all o.guard with
 |true=>match GC ft f o.op with
  |some v=>match fL o.dst n with
   |true=>some (upo f o.dst v)
   |false=>none
  |none=>none
 |false=>match sS f all o.guard with
  |true=>match fL o.dst n with
   |true=>some (upo f o.dst undef)
   |false=>none
  |false=>none
def jg (ft:Nat→Nat→Option Nat) (n:Nat):Nat→Pt→List It→(Nat→Option Value)→Option (Pt×List It×(Nat→Option Value))
 |0,p,s,f=>some (p,s,f)
 |k+1,.code c,s,f=>match c with
  |.seq x y=>jg ft n k (.code x) (.seq y::s) f
  |.block id c=>jg ft n k (.code c) (.blk id::s) f
  |.skip=>jg ft n k (.ex .normal) s f
  |.ret=>jg ft n k (.ex .ret) s f
  |.exit id=>jg ft n k (.ex (.exit id)) s f
  |.cond c x y=>match aB f c with
   |some (.bool true)=>jg ft n k (.code x) s f
   |some (.bool false)=>jg ft n k (.code y) s f
   |_=>none
  |.region _ ⟨l⟩ false=>jg ft n k (.ops ⟨l⟩ l) s f
  |_=>none
 |k+1,.ops all rest,s,f=>match rest with
  |[]=>jg ft n k (.ex .normal) s f
  |o::r=>match yV ft n all o f with
   |some f'=>jg ft n k (.ops all r) s f'
   |none=>none
 |k +1,.ex e,s,f=>match s with
  |[]=>none
  |.seq c::s=>match e with
   |.normal=>jg ft n k (.code c) s f
   |.exit i=>jg ft n k (.ex (.exit i)) s f
   |.ret=>jg ft n k (.ex .ret) s f
   |_=>none
  |.blk id::s=>match e with
   |.normal=>jg ft n k (.ex .normal) s f
   |.exit i=>match Nat.beq i id with
    |true=>jg ft n k (.ex .normal) s f
    |false=>jg ft n k (.ex (.exit i)) s f
   |.ret=>jg ft n k (.ex .ret) s f
   |_=>none
section
variable{P:Program}{Q:Exit→Act→World→Prop}{a:Act}{w w':World}{n:Nat}{f f':Nat→Option Value}{ft:Nat→Nat→Option Nat}{p p':Pt}{s s':List It}
theorem wb{b:Bool}{v:Value}(h:CT b=some v):v=.bool b:=by cases b<;>simp[CT]at h<;>exact h.symm
theorem AZ(G:∀t i k,ft t i=some k→ip P t i=some k){op:Op}{v:Value}{ty:TypeId}(h:Fr a n f)(hv:GC ft f op=some v):Runs P a ty op w (.value v) w:=by
 unfold GC at hv;split at hv
 ·exact wH h hv
 ·exact vO h hv
 ·split at hv
  ·exact BD h ‹_› hv
  ·exact Bp h ‹_› hv
  ·cases hv
 ·split at hv
  ·injection hv with hv;subst hv;exact yQ h ‹_›
  ·cases hv
 ·split at hv
  ·exact zm h ‹_› hv
  ·cases hv
 ·split at hv
  ·rw[wb hv];exact Hz h ‹_› rfl
  ·cases hv
 ·split at hv
  ·split at hv
   ·injection hv with hv;subst hv;exact AS h ‹_› (G _ _ _ ‹_›) rfl
   ·cases hv
  ·cases hv
 ·split at hv
  ·split at hv
   ·split at hv
    ·rename_i e;subst e;rw[wb hv];exact IC h ‹_› ‹_› rfl
    ·cases hv
   ·cases hv
  ·cases hv
 ·split at hv
  ·split at hv
   ·split at hv
    ·rename_i e;subst e;rw[wb hv];exact IG h ‹_› ‹_› rfl
    ·cases hv
   ·cases hv
  ·cases hv
 ·cases hv
theorem JL(G:∀t i k,ft t i=some k→ip P t i=some k){all:Array Oper}{o:Oper}{rest:List Oper}{Q:Exit→Act→World→Prop}(h:Fr a n f)(hs:yV ft n all o f=some f')(k:∀J,Fr J n f'→wpList P all Q rest J w):wpList P all Q (o::rest) a w:=by
 obtain⟨d,op,ty,ps,af,g⟩:=o;unfold yV at hs;dsimp only at hs;split at hs
 ·split at hs
  ·split at hs
   ·injection hs with hs;subst hs
    exact Je h ‹_› ‹_› (AZ G h ‹_›) k
   ·cases hs
  ·cases hs
 ·split at hs
  ·split at hs
   ·injection hs with hs;subst hs
    exact OY h ‹_› ‹_› k
   ·cases hs
  ·cases hs
theorem eG(hft:∀t i k,ft t i=some k→ip P t i=some k):∀(k:Nat) (p:Pt) (s:List It) (f:Nat→Option Value) (a:Act),Fr a n f→jg ft n k p s f=some (p',s',f')→(∀a',Fr a' n f'→Pt.wp P Q p' s' a' w)→Pt.wp P Q p s a w
 |0,p,s,f,a,h,hr,kk=>by
  simp only[jg,Option.some.injEq,Prod.mk.injEq]at hr;obtain⟨rfl,rfl,rfl⟩:=hr;exact kk a h
 | k+1,.code c,s,f,a,h,hr,kk=>by
  unfold jg at hr;split at hr
  ·exact wp_seq (eG hft k _ (.seq _::s) f a h hr kk)
  ·exact wp_block (eG hft k _ (.blk _::s) f a h hr kk)
  ·exact wp_skip (eG hft k _ s f a h hr kk)
  ·exact wp_ret (eG hft k _ s f a h hr kk)
  ·exact wp_exit (eG hft k _ s f a h hr kk)
  ·split at hr
   ·exact xt h ‹_› (eG hft k _ s f a h hr kk)
   ·exact xV h ‹_› (eG hft k _ s f a h hr kk)
   ·cases hr
  ·exact wp_region_lit (eG hft k _ s f a h hr kk)
  ·cases hr
 | k+1,.ops all rest,s,f,a,h,hr,kk=>by
  unfold jg at hr;split at hr
  ·have ih:=eG hft k _ _ f a h hr kk;exact(He ih:wpList P all (stk P Q s) [] a w)
  ·split at hr
   ·exact JL hft h ‹_› (λa' h'=>eG hft k _ s _ a' h' hr kk)
   ·cases hr
 | k +1,.ex e,s,f,a,h,hr,kk=>by
  unfold jg at hr;split at hr
  ·cases hr
  ·split at hr
   ·have ih:=eG hft k _ _ f a h hr kk;exact ih
   ·have ih:=eG hft k _ _ f a h hr kk;exact ih
   ·have ih:=eG hft k _ _ f a h hr kk;exact ih
   ·cases hr
  ·split at hr
   ·have ih:=eG hft k _ _ f a h hr kk;exact ih
   ·split at hr
    ·rename_i hb;have :=Nat.eq_of_beq_eq_true hb;subst this;have :=eG hft k _ _ f a h hr kk;simp only[Pt.wp,stk,Exit.inBlock,if_true]at this⊢;exact this
    ·rename_i hb;have hne:=Nat.ne_of_beq_eq_false hb;have :=eG hft k _ _ f a h hr kk;simp only[Pt.wp,stk,Exit.inBlock,if_neg hne]at this⊢;exact this
   ·have ih:=eG hft k _ _ f a h hr kk;exact ih
   ·cases hr
end
def ftG:List (Nat×Nat×Nat)→Nat→Nat→Option Nat
 |[],_,_=>none
 |(t,i,k)::r,G,J=>match Nat.beq t G with
  |true=>match Nat.beq i J with
   |true=>some k
   |false=>ftG r G J
  |false=>ftG r G J
def ftB(P:Program):List (Nat×Nat×Nat)→Bool
 |[]=>true
 |(t,i,k)::r=>(ip P t i==some k)&&ftB P r
theorem CD{P:Program}:∀(l:List (Nat×Nat×Nat)),ftB P l=true→∀t i k,ftG l t i=some k→ip P t i=some k
 |[],_,_,_,_,h=>by cases h
 | (t0,i0,k0)::r,hb,t,i,k,h=>by
  simp only[ftB,Bool.and_eq_true,beq_iff_eq]at hb;simp only[ftG]at h;split at h
  ·rename_i e1;split at h
   ·rename_i e2;have :=Nat.eq_of_beq_eq_true e1;have :=Nat.eq_of_beq_eq_true e2
    subst_vars
    rw[hb.1];exact h
   ·exact CD r hb.2 t i k h
  ·exact CD r hb.2 t i k h
variable{vs:List Value}
variable{i:Nat}
variable{m:Nat}{listed:Array Bool}
section
variable{P:Program}{Q:Exit→Act→World→Prop}{a:Act}{w w':World}{n:Nat}{f f':Nat→Option Value}{p p':Pt}{s s':List It}{all:Array Oper}{rest:List Oper}{d:Option Tmp}{op:Op}{ty:TypeId}{ps:String}{af:Array Edge}{g:Option (Nat×Bool)}{v:Value}
theorem rV(h:Fr a n f)(G:(gh f all g&&fL d n)=true)(O:Runs P a ty op w (.value v) w')(k:∀J,Fr J n (upo f d v)→Pt.wp P Q (.ops all rest) s J w'):Pt.wp P Q (.ops all (⟨d,op,ty,ps,af,g⟩::rest)) s a w:=Je h (Bool.and_eq_true_iff.1 G).1 (Bool.and_eq_true_iff.1 G).2 O k
theorem rS(h:Fr a n f)(G:(gh f all g&&fL d n)=true)(O:Runs P a ty op w .skip w')(k:∀J,Fr J n (upo f d undef)→Pt.wp P Q (.ops all rest) s J w'):Pt.wp P Q (.ops all (⟨d,op,ty,ps,af,g⟩::rest)) s a w:=OZ h (Bool.and_eq_true_iff.1 G).1 (Bool.and_eq_true_iff.1 G).2 O k
theorem rC{fid:FuncId}{args:List Operand}{tys:Array TypeId}{R:Ending→World→Prop}(h:Fr a n f)(G:(gh f all g&&fL d n)=true)(hv:pN f args=some vs)(O:bX P fid=true)
 (U:Calls P fid vs.toArray w R) (k:∀e w',R e w'→∃v,e=.returned v∧∀J,Fr J n (upo f d v)→Pt.wp P Q (.ops all rest) s J w'):
 Pt.wp P Q (.ops all (⟨d,.call {callee:=.value (.func fid),args:=args.toArray,argTypes:=tys},ty,ps,af,g⟩::rest)) s a w:=Pn h (Bool.and_eq_true_iff.1 G).1 (Bool.and_eq_true_iff.1 G).2 hv O U k
theorem rL{c:Code}(I:Nat→Act→World→Prop)(n₀:Nat)(h₀:I n₀ a w)(round:∀n a w,I n a w→Pt.wp P (Exit.then (λJ w'=>∃G,G<n∧I G J w') (stk P Q s)) (.code c) [] a w):Pt.wp P Q (.code (.loop c)) s a w:=wp_loop_ghost I n₀ h₀ round
theorem rX{K:Act→World→Prop}(h:K a w):Pt.wp P (Exit.then K Q) (.ex .normal) [] a w:=h
theorem rO{K:Act→World→Prop}(h:Pt.wp P Q (.ex (.exit i)) s a w):Pt.wp P (Exit.then K (stk P Q s)) (.ex (.exit i)) [] a w:=h
theorem rD{id:Nat}{l:List Oper}(S:World→Prop)(m sz:Nat)(hsz:l.length=sz)(G:P.follows .mixedOrders=true)(hs:Region.noSelect l.toArray=true)
 (k:∀w',Chg [] w w'→Region.noSelect l.toArray=true→wpAnyL P .any l.toArray (NoPanic (stk P Q s)) S m sz (Array.replicate sz false) a w'):Pt.wp P Q (.code (.region id l.toArray true)) s a w:=JX S m sz hsz G hs k
theorem rN{S:World→Prop}{fuel:Nat}(hr:Region.ready .any all listed=[])(k:Pt.wp P Q (.ex .normal) s a w):wpAnyL P .any all (NoPanic (stk P Q s)) S m fuel listed a w:=Lq hr k
theorem rE{fid:FuncId}{fn:Func}{c:Code}{args:List Value}{R:Ending→World→Prop}(N:Nat)(hf:P.funcs[fid]?=some fn)(hb:fn.body=some c)(G:fn.ntmps=N)(J:Nat.ble args.length N=true)
 (k:∀a,Fr a N (λi=>args[i]?)→Pt.wp P (bodyPost P fn R) (.code c) [] a w):Calls P fid args.toArray w R:=Ka N hf hb G J k
theorem rT{fn:Func}{R:Ending→World→Prop}{rs:List ResultVar}(h:Fr a n f)(hr:fn.results=rs.toArray)(hv:pP P f w rs vs)(G:R (.returned (oz vs)) w):Pt.wp P (bodyPost P fn R) (.ex .ret) [] a w:=ret_of h hr hv G
theorem rF{fn:Func}{R:Ending→World→Prop}{rs:List ResultVar}(h:Fr a n f)(hr:fn.results=rs.toArray)(hv:pP P f w rs vs)(G:R (.returned (oz vs)) w):Pt.wp P (bodyPost P fn R) (.ex .normal) [] a w:=MJ h hr hv G
end
def FL(ops:Array Oper)(m:Nat):List Nat→Array Bool→Bool
 |[],_=>true
 |i::r,l=>(!(Nat.beq i m)&&Region.free .any ops l i&&(Region.ready .any ops l).contains i)&&FL ops m r (l.setIfInBounds i true)
def JZ:List Nat→Array Bool→Array Bool
 |[],l=>l
 |i::r,l=>JZ r (l.setIfInBounds i true)
def CO(ft:Nat→Nat→Option Nat)(n:Nat)(ops:Array Oper):List Nat→(Nat→Option Value)→Option (Nat→Option Value)
 |[],f=>some f
 |i::r,f=>match ops[i]? with
  |some o=>match yV ft n ops o f with
   |some f'=>CO ft n ops r f'
   |none=>none
  |none=>none
theorem JN{l:Array Bool}(h:Nat.beq i m=false)(J:l.getD m false=true):(l.setIfInBounds i true).getD m false=true:=by
 have G:i≠m:=Nat.ne_of_beq_eq_false h;rw[Array.getD_eq_getD_getElem?]at J⊢;rw[Array.getElem?_setIfInBounds,if_neg G];exact J
theorem KB{P:Program}{Q:Exit→Act→World→Prop}{w:World}{n:Nat}{f':Nat→Option Value}{ops:Array Oper}{S:World→Prop}{m:Nat}{ft:Nat→Nat→Option Nat}(hft:∀t i k,ft t i=some k→ip P t i=some k)(hs:Region.noSelect ops=true):∀(is:List Nat) (fuel:Nat) (listed:Array Bool) (f:Nat→Option Value) (a:Act),FL ops m is listed=true→Fr a n f→CO ft n ops is f=some f'→(S w∨listed.getD m false=true)→(∀a',Fr a' n f'→wpAnyL P .any ops (NoPanic Q) S m fuel (JZ is listed) a' w)→wpAnyL P .any ops (NoPanic Q) S m (fuel+is.length) listed a w
 |[],fuel,listed,f,a,hc,h,hr,hS,k=>by
  simp only[CO,Option.some.injEq]at hr;subst hr;exact k a h
 | i ::r,fuel,listed,f,a,hc,h,hr,hS,k=>by
  simp only[FL,Bool.and_eq_true,Bool.not_eq_true']at hc;obtain⟨⟨⟨h1,h2⟩,h3⟩,h4⟩:=hc;unfold CO at hr;split at hr
  ·rename_i o ho;obtain⟨d,op,ty,ps,af,g⟩:=o;split at hr
   ·rename_i f1 hf1;have hS':S w∨(listed.setIfInBounds i true).getD m false=true:=hS.imp id (JN h1);have go:∀a',Fr a' n f1→wpAnyL P .any ops (NoPanic Q) S m (fuel+r.length) (listed.setIfInBounds i true) a' w:=λa' h'=>KB hft hs r fuel _ f1 a' h4 h' hr hS' k;show wpAnyL P .any ops (NoPanic Q) S m (fuel+r.length+1) listed a w;unfold yV at hf1;dsimp only at hf1;split at hf1
    ·split at hf1
     ·rename_i v hv;split at hf1
      ·injection hf1 with e;subst e
       exact dl_v i h1 ho hs h2 h3 h ‹_› ‹_› hS (λw'=>AZ hft h hv) go
      ·cases hf1
     ·cases hf1
    ·split at hf1
     ·split at hf1
      ·injection hf1 with e;subst e
       exact Pq i h1 ho hs h2 h3 h ‹_› ‹_› hS go
      ·cases hf1
     ·cases hf1
   ·cases hr
  ·cases hr
abbrev zT:List Value:=[.int .i64 0,.string ⟨([]:List UInt8).toArray⟩,.slice none 0 0,.slice none 0 0]
theorem Chg.t0{X:List Nat}{w w1 w2:World}(h:Chg X w w1)(k:Chg [] w1 w2):Chg X w w2:=h.trans k MN
theorem Chg.n1{X:List Nat}{w w1 w2:World}{c:Nat}(h:Chg X w w1)(k:Chg [c] w1 w2)(g:w.heap.size≤c):Chg X w w2:=h.trans k (OW (.inr g) MN)
section
variable{w w1:World}{b c:Nat}{t:TypeId}{cs:List Value}
theorem Blk.c0(h:Blk w b t cs)(hx:Chg [] w w1):Blk w1 b t cs:=h.chg hx nm0
end
theorem eT(a:Act)(w:World)(ty:TypeId):∃w' b,Runs prog a ty (.alloc 29) w (.value (.pointer (some ⟨b,0,none⟩))) w'∧Blk w' b 29 zT∧Chg [] w w'∧b=w.heap.size∧b<w'.heap.size:=BS zT (by kernel_rfl) a w ty
section
variable{a:Act}{w:World}{n:Nat}{f:Nat→Option Value}{tb:TypeId}{b o:Nat}{v:Value}{vs cs:List Value}
theorem eN(x y:Operand)(h:Fr a n f)(hx:aB f x=some (.pointer (some ⟨b,0,none⟩)))(hy:aB f y=some (.agg vs.toArray))(hv:vs.length=4)(G:vs.all (·.oneCell')=true)(hb:Blk w b tb cs)(J:cs.length=4)(ty:TypeId):
 ∃w',Runs prog a ty (.store 29 x y) w .skip w'∧Blk w' b tb vs∧Chg [b] w w':=If (m:=4) h hx hy (by kernel_rfl) hv G hb J ty
theorem eS(t:TypeId)(x y:Operand)(h:Fr a n f)(hx:aB f x=some (.pointer (some ⟨b,o,none⟩)))(hy:aB f y=some v)(G:dt prog t=some 1)(h1:v.oneCell'=true)(hb:Blk w b tb cs)(J:Nat.ble (o+1) cs.length=true)(ty:TypeId):
 ∃w',Runs prog a ty (.store t x y) w .skip w'∧Blk w' b tb (cs.set o v)∧Chg [b] w w':=Cv h hx hy G h1 hb (Nat.le_of_ble_eq_true J) ty
end
theorem dL{Q:Exit→Act→World→Prop}{a:Act}{w:World}{n:Nat}{f:Nat→Option Value}{ops:Array Oper}{d:Option Tmp}{op:Op}{ty:TypeId}{ps:String}{af:Array Edge}{g:Option (Nat×Bool)}{v:Value}{P:Program}{S:World→Prop}{fuel:Nat}(i:Nat)(G:Nat.beq i m=false)(hi:ops[i]?=some ⟨d,op,ty,ps,af,g⟩)(hs:Region.noSelect ops=true)(hf:(mg .any ops m i&&!listed.getD m false&&Region.free .any ops listed i&&(Region.ready .any ops listed).contains i)=true)
  (h:Fr a n f) (J:(gh f ops g&&fL d n)=true) (U:S w) (Z:∀w',S w'→Runs P a ty op w' (.value v) w')
  (k:∀O,Fr O n (upo f d v)→wpAnyL P .any ops (NoPanic Q) S m fuel (listed.setIfInBounds i true) O w):wpAnyL P .any ops (NoPanic Q) S m (fuel+1) listed a w:=by
 simp only[Bool.and_eq_true,Bool.not_eq_true']at hf;exact Po i G hf.1.1.1 hf.1.1.2 hi hs hf.1.2 hf.2 h (Bool.and_eq_true_iff.1 J).1 (Bool.and_eq_true_iff.1 J).2 U Z k
abbrev wR:= @wp_region_lit
abbrev wS:= @wp_seq_k
abbrev sN:= @He
abbrev cdT:= @xt
abbrev cdF:= @xV
abbrev nlt:= @Nat.le_trans
variable{α:Type}
theorem yqA[BEq α][LawfulBEq α]{a b:α}:(a==b)=false↔a≠b:=beq_eq_false_iff_ne
theorem yqB[BEq α][LawfulBEq α]{a b:α}:(a==b)=true↔a=b:=beq_iff_eq
theorem yqC[BEq α][LawfulBEq α]{a b:α}:(a !=b)=true↔a≠b:=bne_iff_ne
theorem yqD[BEq α][LawfulBEq α]{a b:α}:(a !=b)=false↔a=b:=bne_eq_false_iff_eq
theorem yqE{p:Prop}[Decidable p]:(decide p=true)↔p:=decide_eq_true_iff
theorem yqF{p:Prop}[Decidable p]:(decide p=false)↔¬p:=decide_eq_false_iff_not
section
variable{P:Program}{ops:Array Oper}{Q:Exit→Act→World→Prop}{a:Act}{w w':World}{rest:List Oper}{n:Nat}{f:Nat→Option Value}{ty:TypeId}{d:Option Tmp}{op:Op}{ps:String}{af:Array Edge}{g:Option (Nat×Bool)}{v:Value}{x:Operand}
theorem sV(h:Fr a n f)(G:(gh f ops g&&fL d n)=true)(O:Runs P a ty op w (.value v) w')(k:∀J,Fr J n (upo f d v)→wpList P ops Q rest J w'):wpList P ops Q (⟨d,op,ty,ps,af,g⟩::rest) a w:=Je h (Bool.and_eq_true_iff.1 G).1 (Bool.and_eq_true_iff.1 G).2 O k
theorem sA(h:Fr a n f)(J:(gh f ops g&&fL d n)=true)(hx:aB f x=some v)(k:∀G,Fr G n (upo f d v)→wpList P ops Q rest G w):wpList P ops Q (⟨d,.assign x,ty,ps,af,g⟩::rest) a w:=sV h J (vO h hx) k
theorem sM(h:Fr a n f)(J:(gh f ops g&&fL d n)=true)(hx:aB f x=some v)(k:∀G,Fr G n (upo f d v)→wpList P ops Q rest G w):wpList P ops Q (⟨d,.move x,ty,ps,af,g⟩::rest) a w:=sV h J (wH h hx) k
variable{S:World→Prop}{m fuel:Nat}{listed:Array Bool}
theorem dV(i:Nat)(G:Nat.beq i m=false)(hi:ops[i]?=some ⟨d,op,ty,ps,af,g⟩)(hs:Region.noSelect ops=true)(hf:(Region.free .any ops listed i&&(Region.ready .any ops listed).contains i)=true)
    (h:Fr a n f) (J:(gh f ops g&&fL d n)=true) (U:S w∨listed.getD m false=true) (Z:∀w',Runs P a ty op w' (.value v) w')
    (k:∀O,Fr O n (upo f d v)→wpAnyL P .any ops (NoPanic Q) S m fuel (listed.setIfInBounds i true) O w):wpAnyL P .any ops (NoPanic Q) S m (fuel+1) listed a w:=
  dl_v i G hi hs (Bool.and_eq_true_iff.1 hf).1 (Bool.and_eq_true_iff.1 hf).2 h (Bool.and_eq_true_iff.1 J).1 (Bool.and_eq_true_iff.1 J).2 U Z k
theorem dM(i:Nat)(G:Nat.beq i m=false)(hi:ops[i]?=some ⟨d,.move x,ty,ps,af,g⟩)(hs:Region.noSelect ops=true)(hf:(Region.free .any ops listed i&&(Region.ready .any ops listed).contains i)=true)
    (h:Fr a n f) (O:(gh f ops g&&fL d n)=true) (U:S w) (hx:aB f x=some v)
    (k:∀J,Fr J n (upo f d v)→wpAnyL P .any ops (NoPanic Q) S m fuel (listed.setIfInBounds i true) J w):wpAnyL P .any ops (NoPanic Q) S m (fuel+1) listed a w:=
  dV i G hi hs hf h O (.inl U) (λ_=>wH h hx) k
end
open Go.RowKit Lx Sx
set_option maxRecDepth 100000
set_option maxHeartbeats 4000000
abbrev TT:TypeId:=29
mutual
def NestC(w:World):Nat→Nat→Tree→List Value→Prop
 |lo,hi,.node k s _ ks,c=>∃B n g cs,c=[.int .i64 k,eW s,.slice none 0 0,.slice B ks.length n]∧ks.length≤n∧n≤maxLen∧lo≤hi∧(ks≠[]→B=some ⟨g,0,none⟩∧lo≤g∧g<hi∧Blk w g TT cs)∧NestK w (g+1) hi ks cs
def NestK(w:World):Nat→Nat→List Tree→List Value→Prop
 |lo,hi,[],cs=>cs=[]
 |lo,hi,t::r,cs=>∃c d mid,cs=c++d∧lo≤mid∧mid≤hi∧NestC w lo mid t c∧NestK w mid hi r d
end
variable{cs:List Value}
variable{t:Tree}
section
variable{w w':World}
theorem sw{b:Nat}{t:TypeId}(h:w'.heap[b]?=w.heap[b]?)(k:Blk w b t cs):Blk w' b t cs:=h.trans k
mutual
theorem NestC.keep:∀{lo hi:Nat} {t:Tree} {c:List Value},(∀x,lo≤x→x<hi→w'.heap[x]?=w.heap[x]?)→NestC w lo hi t c→NestC w' lo hi t c
 | lo,hi,.node k s ls ks,c,hk,h=>by
  simp only[NestC]at h⊢;obtain⟨B,n,g,cs,e,h1,h2,h3,h4,h5⟩:=h;by_cases hn:ks=[]
  ·subst hn;exact⟨B,n,g,cs,e,h1,h2,h3,λh=>absurd rfl h,by simpa only[NestK]using h5⟩
  ·obtain⟨e1,e2,e3,e4⟩:=h4 hn;exact⟨B,n,g,cs,e,h1,h2,h3,λ_=>⟨e1,e2,e3,sw (hk g e2 e3) e4⟩,NestK.keep (λx h1 h2=>hk x (by omega) h2) h5⟩
theorem NestK.keep:∀{lo hi:Nat} {ts:List Tree} {cs:List Value},(∀x,lo≤x→x<hi→w'.heap[x]?=w.heap[x]?)→NestK w lo hi ts cs→NestK w' lo hi ts cs
 |lo,hi,[],cs,hk,h=>by simpa only[NestK]using h
 |lo,hi,t::r,cs,hk,h=>by
  simp only[NestK]at h⊢;obtain⟨c,d,mid,e,h1,h2,h3,h4⟩:=h;exact⟨c,d,mid,e,h1,h2,NestC.keep (λx g1 g2=>hk x g1 (by omega)) h3,NestK.keep (λx g1 g2=>hk x (by omega) g2) h4⟩
end
theorem NestC.lo_{lo lo' hi:Nat}{c:List Value}(h:NestC w lo hi t c)(hl:lo'≤lo):NestC w lo' hi t c:=by
 obtain⟨k,s,ls,ks⟩:=t;simp only[NestC]at h⊢;obtain⟨B,n,g,cs,e,h1,h2,h3,G,J⟩:=h;exact⟨B,n,g,cs,e,h1,h2,by omega,λO=>by obtain⟨U,e2,Z,e4⟩:=G O;exact⟨U,by omega,Z,e4⟩,J⟩
theorem NestC.four{lo hi:Nat}{c:List Value}(h:NestC w lo hi t c):c.length=4:=by
 obtain⟨k,s,ls,ks⟩:=t;simp only[NestC]at h;obtain⟨B,n,g,cs,e,_⟩:=h;rw[e];rfl
theorem NestC.one{lo hi:Nat}{c:List Value}(h:NestC w lo hi t c):c.all (·.oneCell')=true:=by
 obtain⟨k,s,ls,ks⟩:=t;simp only[NestC]at h;obtain⟨B,n,g,cs,e,_⟩:=h;rw[e];rfl
theorem NestK.hi_:∀{ts:List Tree} {lo hi G:Nat} {cs:List Value},NestK w lo hi ts cs→hi≤G→NestK w lo G ts cs
 |[],lo,hi,G,cs,h,J=>by simpa only[NestK]using h
 |t::r,lo,hi,G,cs,h,J=>by
  simp only[NestK]at h⊢;obtain⟨c,d,mid,e,h1,h2,O,U⟩:=h;exact⟨c,d,mid,e,h1,by omega,O,NestK.hi_ U J⟩
theorem NestK.snoc:∀{ts:List Tree} {lo mid hi:Nat} {cs c:List Value} {t:Tree},NestK w lo mid ts cs→NestC w mid hi t c→lo≤mid→mid≤hi→NestK w lo hi (ts++[t]) (cs++c)
 |[],lo,mid,hi,cs,c,t,h,G,h1,h2=>by
  simp only[NestK]at h;subst h;simp only[List.nil_append,NestK];exact⟨c,[],hi,by simp,by omega,Nat.le_refl _,G.lo_ h1,rfl⟩
 |u::r,lo,mid,hi,cs,c,t,h,G,h1,h2=>by
  simp only[NestK]at h;obtain⟨c',d,m,e,J,O,U,Z⟩:=h;simp only[List.cons_append,NestK];exact⟨c',d++c,m,by rw[e];simp,J,by omega,U,NestK.snoc Z G O h2⟩
end
variable{A:Option Addr}
section
variable{P:Program}{a:Act}{w:World}{n:Nat}{f:Nat→Option Value}{S:Nat→Prop}
theorem KL{x y:Operand}{ls:List (List UInt8)}{t e:TypeId}{by_:Nat}{z:Value}(h:Fr a n f)(hx:aB f x=some (.slice none 0 0))(hy:aB f y=some (.slice A ls.length m))(J:RowIn S w 1 A ls.length (ls.map eW))(hl:ls.length≤1000000000)
  (ht:P.underlying t=some (.slice e)) (hi:(P.info? e).map (λi=>(i.zero,i.size,i.bytes))=some (some z,1,by_)) (hzs:z.cells.size=1) (hb:Nat.ble by_ 64=true) (ty:TypeId):
  ∃A' O w',Runs P a ty (.call {callee:=.builtin .append,args:=#[x,y],argTypes:=#[t,t]}) w (.value (.slice A' ls.length O)) w'∧ls.length≤O∧O≤maxLen∧RowIn (λb=>w.heap.size≤b) w' 1 A' ls.length (ls.map eW)∧Chg [] w w':=by
 have hb':by_≤64:=Nat.le_of_ble_eq_true hb;obtain⟨i0,hi0,U⟩:=Option.map_eq_some_iff.1 hi;simp only[Prod.mk.injEq]at U;obtain⟨hz,hs,hbb⟩:=U;have hsize:dt P e=some 1:=by simp[dt,hi0,hs]
 by_cases hn:ls=[]
 ·subst hn;refine⟨none,0,w,λ_ _ _ _=>?_,Nat.le_refl _,Nat.zero_le _,RowIn.none_,Chg.refl _ _⟩;simp only[execOp,resolve,invoke,builtin,List.map_toArray,List.map_cons,List.map_nil,h.eval hx,h.eval hy];have :=sW (P:=P) (w:=w) (ty:=ty) (A:=none) (B:=A) (k:=0) (c:=0) (d:=m) ht hsize (Nat.le_refl _);simp only[List.length_nil];simp[this]
 ·have Z:0<ls.length:=List.length_pos_iff.2 hn;obtain⟨b,off,rfl,_,_,hc⟩:=J.2 Z;have G:(ls.map eW).length=ls.length*1:=by simp
  have h63:0+ls.length≤maxLen:=by simp only[maxLen];omega
  have hby:(0+ls.length)*by_≤140737488355328:=by
   have :=Nat.mul_le_mul hl hb';rw[Nat.zero_add];omega
  obtain⟨v',w',hrun,h2,h3,_,h5⟩:=run_append_own_at (P:=P) w w.heap.size t ty e i0 z 1 by_ ht hi0 hz hs hbb hzs (by omega) (.slice none 0 0) 0 [] (World.ownsRow_nil w _ e 1) ⟨b,off,none⟩ ls.length m (ls.map eW) G
   (λj q hq=>by
    have hj:j<(ls.map eW).length:=(List.getElem?_eq_some_iff.1 hq).1;rw[mG,hc j (by rw[←G];exact hj)];exact hq) (λu hu=>by simp only[List.mem_map]at hu;obtain⟨_,_,rfl⟩:=hu;rfl) h63 hby (Nat.le_refl _)
  rw[Nat.zero_add]at h2;rw[List.nil_append]at h2;obtain⟨A',O,rfl,hm1,hm2⟩:=HU h2;refine⟨A',O,w',λ_ _ _ _=>?_,hm1,hm2,RowIn.of_own h2,Chg.grown h3⟩;simp only[execOp,resolve,invoke,builtin,List.map_toArray,List.map_cons,List.map_nil,h.eval hx,h.eval hy];simp[hrun]
end
theorem Jc{pre post:List Value}{G J U O u:Value}:(pre++[G,J,U,O]++post).set (pre.length+2) u=pre++[G,J,u,O]++post:=by
 rw[List.append_assoc,List.set_append_right _ _ (by omega)];simp
theorem BZ(pre post:List Value)(J O U G:Value):(pre++[J,O,U,G]++post)[pre.length+3]?=some G:=by
 rw[List.append_assoc,List.getElem?_append_right (by omega)];simp
section
variable{P:Program}
theorem IB{a:Act}{w:World}{n:Nat}{f:Nat→Option Value}{t tb:TypeId}{x y:Operand}{b o:Nat}{pre old post:List Value}(h:Fr a n f)(hx:aB f x=some (.pointer (some ⟨b,o,none⟩)))(hy:aB f y=some (.agg vs.toArray))(hz:dt P t=some m)(hv:vs.length=m)(hone:vs.all (·.oneCell')=true)(hb:Blk w b tb (pre++old++post))(hp:pre.length=o)(hm:old.length=m)(ty:TypeId):
  ∃w',Runs P a ty (.store t x y) w .skip w'∧Blk w' b tb (pre++vs++post)∧Chg [b] w w':=by
 obtain⟨i,hi,hs⟩:=Option.map_eq_some_iff.1 (show(P.info? t).map (·.size)=some m from hz);subst hp;have key:∀(l:List Value) (j:Nat) (w:World) (cs:List Value),Blk w b tb cs→pre.length+j+l.length≤cs.length→l.all (·.oneCell')=true→∃w',(storeCells ⟨b,pre.length,none⟩ l j).run P w=.ok () w'∧Blk w' b tb (cs.take (pre.length+j)++l++cs.drop (pre.length+j+l.length))∧Chg [b] w w':=by
  intro l
  induction l with
  |nil=>intro j w cs hb hj _;exact⟨w,by simp[storeCells],by simpa using hb,Chg.refl _ _⟩
  | cons c r ih=>
   intro j w cs hb hj hone;simp only[List.all_cons,Bool.and_eq_true]at hone;simp only[List.length_cons]at hj;have ho:pre.length+j<cs.length:=by omega
   have hc:w.cell? ⟨b,pre.length+j,none⟩=some cs[pre.length+j]:=by rw[hb.cell];simp[ho]
   have hfz:=hb.frozen (pre.length+j);have ha:(⟨b,pre.length,none⟩:Addr).add j=⟨b,pre.length+j,none⟩:=mG _ _ _;obtain⟨w2,h1,h2,h3⟩:=ih (j+1) (w.setCell ⟨b,pre.length+j,none⟩ c) (cs.set (pre.length+j) c) (hb.set _ c) (by simp;omega) hone.2;refine⟨w2,?_,?_,(Chg.set w b _ c).trans h3 (λx hx=>.inl hx)⟩
   ·simp only[storeCells,ha];have hst:=run_store P w ⟨b,pre.length+j,none⟩ c .plain hone.1;simp[hst,stored,hc,hfz];exact h1
   ·have e1:(cs.set (pre.length+j) c).take (pre.length+(j+1))=cs.take (pre.length+j)++[c]:=by
     rw[←Nat.add_assoc,List.take_succ_eq_append_getElem (by simpa using ho),List.take_set_of_le (Nat.le_refl _)];simp
    have e2:(cs.set (pre.length+j) c).drop (pre.length+(j+1)+r.length)=cs.drop (pre.length+j+(r.length+1)):=by
     rw[List.drop_set_of_lt (by omega)];congr 1;omega
    rw[e1,e2]at h2;simpa using h2
 obtain⟨w1,h1,h2,h3⟩:=key vs 0 w _ hb (by simp;omega) hone;have e1:(pre++old++post).take (pre.length+0)=pre:=by simp
 have e2:(pre++old++post).drop (pre.length+0+vs.length)=post:=by
  have :pre.length+0+vs.length=(pre++old).length:=by simp;omega
  rw[this];simp
 rw[e1,e2]at h2;refine⟨w1,λ_ _ _ _=>?_,h2,h3⟩;simp only[execOp,h.eval hx,h.eval hy];simp[Instr.storeAt,Instr.sureAddr,storeVar,sizeOf,typeInfo,hi,hs,hv,Value.cells,h1]
end
def CB(ft:Nat→Nat→Option Nat)(n:Nat):Nat→Pt→List It→(Nat→Option Value)→Pt×List It×(Nat→Option Value)
 |0,p,s,f=>(p,s,f)
 |k+1,p,s,f=>match jg ft n 1 p s f with
  |some (p',s',f')=>CB ft n k p' s' f'
  |none=>(p,s,f)
def ftR:Nat→Nat→Option Nat:=ftG [(TT,3,3),(TT,2,2),(TT,1,1),(TT,0,0)]
theorem IM:∀t i k,ftR t i=some k→ip prog t i=some k:=CD _ (by kernel_rfl)
section
variable{Q:Exit→Act→World→Prop}{a:Act}{w:World}{n:Nat}{f f':Nat→Option Value}{p p':Pt}{s s':List It}
theorem EV:∀(k:Nat) (p:Pt) (s:List It) (f:Nat→Option Value) (a:Act),Fr a n f→CB ftR n k p s f=(p',s',f')→(∀a',Fr a' n f'→Pt.wp prog Q p' s' a' w)→Pt.wp prog Q p s a w
 |0,p,s,f,a,h,hr,kk=>by
  simp only[CB,Prod.mk.injEq]at hr;obtain⟨rfl,rfl,rfl⟩:=hr;exact kk a h
 | k+1,p,s,f,a,h,hr,kk=>by
  simp only[CB]at hr;split at hr
  ·rename_i p1 s1 f1 he;exact eG IM 1 p s f a h he λa' h'=>EV k p1 s1 f1 a' h' hr kk
  ·simp only[Prod.mk.injEq]at hr;obtain⟨rfl,rfl,rfl⟩:=hr;exact kk a h
theorem rG(k:Nat)(h:Fr a n f)(hr:CB ftR n k p s f=(p',s',f'))(kk:∀G,Fr G n f'→Pt.wp prog Q p' s' G w):Pt.wp prog Q p s a w:=EV k p s f a h hr kk
theorem dG{fuel c:Nat}{ops:Array Oper}{S:World→Prop}(is:List Nat)(hs:Region.noSelect ops=true)(J:FL ops m is listed=true)(h:Fr a n f)(O:is.length=c)(hr:CO ftR n ops is f=some f')(U:S w∨listed.getD m false=true)(k:∀G,Fr G n f'→wpAnyL prog .any ops (NoPanic Q) S m fuel (JZ is listed) G w):wpAnyL prog .any ops (NoPanic Q) S m (fuel+c) listed a w:=by
 subst O;exact KB IM hs is fuel listed f a J h hr U k
end
theorem GV{S:Nat→Prop}{w:World}{ks:List Tree}(Z:KidsAre S w ks cs)(hi:i<ks.length):∃G J O U,TreeIs S w ks[i] [G,J,O,U]∧∀j,j<4→cs[i*4+j]?=([G,J,O,U]:List Value)[j]?:=by
 obtain⟨c0,c1,c2,c3,hT,h0,h1,h2,h3⟩:=Z.at_ hi;refine⟨c0,c1,c2,c3,hT,λj hj=>?_⟩;rcases(by omega:j=0∨j=1∨j=2∨j=3)with rfl|rfl|rfl|rfl
 ·exact h0
 ·exact h1
 ·exact h2
 ·exact h3
theorem Cc{ks:List Tree}(hi:i<ks.length):tbulk ks[i]≤kbulk ks:=aY (List.getElem?_eq_getElem hi)
def BH(t:Tree):Prop:=∀(w:World) (b:Nat) (pre c post ct:List Value) (lo hi:Nat) (Sf:Nat→Prop),tbulk t≤1000000000→
 Blk w b TT (pre++c++post)→NestC w lo hi t c→¬(lo≤b∧b<hi)→hi≤w.heap.size→TreeIs Sf w t ct→(∀x,Sf x→x≠b∧¬(lo≤x∧x<hi))→
 Calls prog 90 #[.pointer (some ⟨b,pre.length,none⟩),.agg ct.toArray] w λe w'=>e=.returned (.tuple #[])∧∃c',Blk w' b TT (pre++c'++post)∧ChgP (λx=>x=b∨(lo≤x∧x<hi)) w w'∧TreeIs (λx=>(lo≤x∧x<hi)∨w.heap.size≤x) w' t c'
def Bw(t:Tree):Prop:=∀(w:World) (S:Nat→Prop) (ct:List Value),tbulk t≤1000000000→TreeIs S w t ct→
 Calls prog 89 #[.agg ct.toArray] w λe w'=>∃c,e=.returned (.agg c.toArray)∧Chg [] w w'∧NestC w' w.heap.size w'.heap.size t c
theorem Iv(t:Tree)(ih:∀(i:Nat) (u:Tree),t.kids[i]?=some u→Bw u):Bw t:=by
  obtain⟨k,s,ls,ks⟩:=t;intro w S ct hbk hT;simp only[TreeIs]at hT;obtain⟨A,m,B',n',rfl,hm1,hm2,hm3,hm4,hA,kcs,hKT,hKR⟩:=hT;simp only[Tree.kids]at ih;simp only[tbulk]at hbk;have hkl:=ej ks;refine rE 36 func89 rfl rfl rfl ?_;intro a hf;refine rG 60 hf rfl ?_;clear hf a;intro a hf;obtain⟨w1,b1,he,hB1,hx1,e1,l1⟩:=yY (P:=prog) (t:=TT) (x:=(.tmp 0)) hf rfl rfl w 0;refine rV hf rfl he ?_;clear he hf a;intro a hf;obtain⟨w2,b2,he,hB2,hx2,e2,l2⟩:=eT a w1 0;refine rV hf rfl he ?_;clear he hf a;intro a hf;replace hB1:=hB1.c0 hx2;refine rG 60 hf rfl ?_;clear hf a;intro a hf;refine rV hf rfl (jf hf rfl (by kernel_rfl) hB1 rfl) ?_;clear hf a;intro a hf;refine rG 60 hf rfl ?_;clear hf a;intro a hf;refine rV hf rfl (jf hf rfl (by kernel_rfl) hB1 rfl) ?_;clear hf a;intro a hf;refine rV hf rfl (OO (z:=zT) (os:=[0,1]) (cs:=[.int .i64 k,eW s,.slice none 0 0,.slice none 0 0]) hf rfl (by kernel_rfl) (by kernel_rfl) (by kernel_rfl) rfl rfl) ?_;clear hf a;intro a hf;obtain⟨w3,b3,he,hB3,hx3,e3,l3⟩:=eT a w2 0;refine rV hf rfl he ?_;clear he hf a;intro a hf;replace hB1:=hB1.c0 hx3;replace hB2:=hB2.c0 hx3;obtain⟨w4,he,hB3',hx4⟩:=eN (.tmp 3) (.tmp 10) hf rfl rfl rfl rfl hB3 rfl 0;refine rS hf rfl he ?_;clear he hf a;intro a hf;clear hB3;have hB3:=hB3';clear hB3';have s1:=hx1.size;have s2:=hx2.size;have s3:=hx3.size;have s4:=hx4.size;replace hB1:=hB1.chg hx4 (by simp;omega);replace hB2:=hB2.chg hx4 (by simp;omega);have hC:Chg [] w w4:=((hx1.t0 hx2).t0 hx3).n1 hx4 (by omega);clear hx1 hx2 hx3 hx4;refine rG 60 hf rfl ?_;clear hf a;intro a hf;refine rV hf rfl (jf hf rfl (by kernel_rfl) hB1 rfl) ?_;clear hf a;intro a hf;refine rV hf rfl (qa hf underlying22 rfl) ?_;clear hf a;intro a hf;have hfin:∀(B:Option Addr) (nn g:Nat) (cs:List Value) (w':World),Chg [] w w'→ks.length≤nn→nn≤maxLen→(ks≠[]→B=some ⟨g,0,none⟩∧w.heap.size≤g∧g<w'.heap.size∧Blk w' g TT cs)→NestK w' (g+1) w'.heap.size ks cs→NestC w' w.heap.size w'.heap.size (.node k s ls ks) [.int .i64 k,eW s,.slice none 0 0,.slice B ks.length nn]:=λB nn g cs w' h1 h2 h3 h4 h5=>by
    simp only[NestC];exact⟨B,nn,g,cs,rfl,h2,h3,h1.size,h4,h5⟩
  by_cases hk0:ks=[]
  · skip
    subst hk0;refine rV hf rfl (CP (c:=false) hf rfl rfl (by simp)) ?_;clear hf a;intro a hf;refine rG 60 hf rfl ?_;clear hf a;intro a hf;refine rV hf rfl (jf hf rfl (by kernel_rfl) hB1 rfl) ?_;clear hf a;intro a hf;refine rV hf rfl (qa hf underlying22 rfl) ?_;clear hf a;intro a hf;refine rG 60 hf rfl ?_;clear hf a;intro a hf;refine rL (λm a w'=>m=0∧w'=w4∧Fr a 36 (fm [(2,.pointer (some ⟨b2,0,none⟩)),(3,.pointer (some ⟨b3,0,none⟩)),(22,.int .i64 ((0:Nat):Int)),(23,.int .i64 0)])) 0 ⟨rfl,rfl,hf.pick ⟨rfl,rfl,rfl,rfl,trivial⟩⟩ ?_;clear hf a;rintro _ a _ ⟨rfl,rfl,hf⟩;refine rG 60 hf rfl ?_;clear hf a;intro a hf;refine rV hf rfl (tX (c:=false) hf rfl rfl (by simp)) ?_;clear hf a;intro a hf;refine rG 60 hf rfl ?_;clear hf a;intro a hf;refine rO ?_;refine rG 60 hf rfl ?_;clear hf a;intro a hf;refine rV hf rfl (nW (m:=4) hf rfl (by kernel_rfl) hB3 rfl) ?_;clear hf a;intro a hf;obtain⟨w9,he,hB2',hx9⟩:=eN (.tmp 2) (.tmp 35) hf rfl rfl rfl rfl hB2 rfl 0;refine rS hf rfl he ?_;clear he hf a;intro a hf;refine rG 60 hf rfl ?_;clear hf a;intro a hf;exact rT (rs:=[.cell 2 TT]) hf rfl ⟨_,_,_,_,_,rfl,rfl,by kernel_rfl,hB2',rfl,rfl⟩ ⟨_,rfl,hC.n1 hx9 (by omega),hfin none 0 0 [] w9 (hC.n1 hx9 (by omega)) (Nat.le_refl _) (Nat.zero_le _) (λh=>absurd rfl h) (by simp only[NestK])⟩
  have hpos:0<ks.length:=List.length_pos_iff.2 hk0;obtain⟨kb,ko,rfl,hkS,hkb,hcell⟩:=hKR.2 hpos;refine rV hf rfl (CP (c:=true) hf rfl rfl (by simp;omega)) ?_;clear hf a;intro a hf;refine rG 60 hf rfl ?_;clear hf a;intro a hf;refine rV hf rfl (jf hf rfl (by kernel_rfl) hB1 rfl) ?_;clear hf a;intro a hf;refine rV hf rfl (qa hf underlying22 rfl) ?_;clear hf a;intro a hf;obtain⟨C,hCd⟩:∃C,C=(madeCells (Value.agg zT.toArray).cells (ks.length*4)).toList:=⟨_,rfl⟩;have hCl:C.length=ks.length*4:=by rw[hCd,Array.length_toList,size_madeCells]
  obtain⟨w5,g,he,hG,hx5,eg,lg⟩:=EW (P:=prog) (x:=.tmp 17) (y:=.tmp 17) (t:=22) (e:=TT) (m:=ks.length) (z:=.agg zT.toArray) (sz:=4) (by_:=72) (cs:=C) hf rfl rfl underlying22 (by kernel_rfl) (Nat.ble_eq_true_of_le (by omega)) (Nat.ble_eq_true_of_le (by omega)) (by rw[hCd]) w4 0;refine rV hf rfl he ?_;clear he hf a;intro a hf;replace hB1:=hB1.c0 hx5;replace hB2:=hB2.c0 hx5;replace hB3:=hB3.c0 hx5;refine rG 60 hf rfl ?_;clear hf a;intro a hf;obtain⟨w6,he,hB3',hx6⟩:=eS 22 (.tmp 19) (.tmp 18) hf rfl rfl (by kernel_rfl) rfl hB3 rfl 0;refine rS hf rfl he ?_;clear he hf a;intro a hf;clear hB3;have hB3:=hB3';clear hB3';have s5:=hx5.size;have s6:=hx6.size;replace hB1:=hB1.chg hx6 (by simp;omega);replace hB2:=hB2.chg hx6 (by simp;omega);replace hG:=hG.chg hx6 (by simp;omega);replace hC:Chg [] w w6:=(hC.t0 hx5).n1 hx6 (by omega);clear hx5 hx6;refine rG 60 hf rfl ?_;clear hf a;intro a hf;refine rV hf rfl (jf hf rfl (by kernel_rfl) hB1 rfl) ?_;clear hf a;intro a hf;refine rV hf rfl (qa hf underlying22 rfl) ?_;clear hf a;intro a hf;refine rG 60 hf rfl ?_;clear hf a;intro a hf;have hg0:w.heap.size≤g:=by omega
  have hgb:g≠b2∧g≠b3∧b2≠b3:=by omega
  have hl2:w.heap.size≤b2:=by omega
  have hl3:w.heap.size≤b3:=by omega
  have hlg:g+1≤w6.heap.size:=hG.lt;refine rL (λm a w'=>∃(i:Nat) (done rest:List Value) (mi:Nat),m=ks.length-i∧i≤ks.length∧Fr a 36 (fm [(2,.pointer (some ⟨b2,0,none⟩)),(3,.pointer (some ⟨b3,0,none⟩)),(21,.slice (some ⟨kb,ko,none⟩) ks.length n'),(22,.int .i64 (ks.length:Nat)),(23,.int .i64 (i:Nat))])∧
      Chg [] w w'∧Blk w' b2 TT zT∧Blk w' b3 TT [.int .i64 k,eW s,.slice none 0 0,.slice (some ⟨g,0,none⟩) ks.length ks.length]∧Blk w' g TT (done++rest)∧done.length=i*4∧rest.length=(ks.length-i)*4∧g+1≤mi∧mi≤w'.heap.size∧NestK w' (g+1) mi (ks.take i) done) ks.length
    ⟨0,[],C,g+1,by omega,Nat.zero_le _,hf.pick ⟨rfl,rfl,rfl,rfl,rfl,trivial⟩,hC,hB2,hB3,hG,rfl,by omega,Nat.le_refl _,hlg,by simp only[List.take_zero,NestK]⟩ ?_
  clear hf a hC hB1 hB2 hB3 hG hlg;rintro _ a w7 ⟨i,done,rest,mi,rfl,hi,hf,hC,hB2,hB3,hG,hdl,hrl,hgm,hmw,hNK⟩;by_cases hlt:i<ks.length
  · skip
    obtain⟨d0,d1,d2,d3,hT,hK⟩:=GV hKT hlt;have on_T:=hT.one;replace hT:=hT.keepB (S':=λx=>x<w7.heap.size) (w':=w7) (λx _ hx=>Nat.lt_of_lt_of_le hx hC.size) (λx _ hx=>hC.block x hx nm0);have hK7:∀j,j<4→w7.cell? ⟨kb,ko+i*4+j,none⟩=([d0,d1,d2,d3]:List Value)[j]?:=λj hj=>by
      rw[hC.cell hkb nm0,Nat.add_assoc,hcell _ (by omega)];exact hK j hj
    have htb:=Cc hlt
    match rest,hrl,hG with
    |[],hrl,hG=>simp only[List.length_nil]at hrl;omega
    |[_],hrl,hG=>simp only[List.length_cons,List.length_nil]at hrl;omega
    |[_,_],hrl,hG=>simp only[List.length_cons,List.length_nil]at hrl;omega
    |[_,_,_],hrl,hG=>simp only[List.length_cons,List.length_nil]at hrl;omega
    | r0::r1::r2::r3::rest,hrl,hG=>
      replace hG:Blk w7 g TT (done++[r0,r1,r2,r3]++rest):=by simpa using hG
      refine rG 60 hf rfl ?_;clear hf a;intro a hf;refine rV hf rfl (tX (c:=true) hf rfl rfl (by simp;omega)) ?_;clear hf a;intro a hf;refine rG 60 hf rfl ?_;clear hf a;intro a hf;refine rV hf rfl (pE (sz:=4) (k:=i) hf underlying22 (by kernel_rfl) rfl rfl rfl hlt rfl) ?_;clear hf a;intro a hf;refine rV hf rfl (ex_loadN (cs:=[d0,d1,d2,d3]) (m:=4) hf rfl (by kernel_rfl) rfl hK7) ?_;clear hf a;intro a hf;obtain⟨w8,b5,he,hB5,hx8,e5,l5⟩:=eT a w7 0;refine rV hf rfl he ?_;clear he hf a;intro a hf;replace hB2:=hB2.c0 hx8;replace hB3:=hB3.c0 hx8;replace hG:=hG.c0 hx8;replace hC:=hC.t0 hx8;have s8:=hx8.size;replace hT:=hT.keepB (S':=λx=>x<w7.heap.size) (w':=w8) (λx hx _=>hx) (λx _ hx=>hx8.block x hx nm0);replace hNK:=hNK.keep (w':=w8) (λx _ hx=>hx8.block x (by omega) nm0);refine rG 60 hf rfl ?_;clear hf a;intro a hf;obtain⟨w9,he,hB5',hx9⟩:=eN (.tmp 5) (.tmp 27) hf rfl rfl rfl on_T hB5 rfl 0;refine rS hf rfl he ?_;clear he hf a;intro a hf;clear hB5;have hB5:=hB5';clear hB5';have s9:=hx9.size;have n5:b2≠b5∧b3≠b5∧g≠b5:=⟨by omega,by omega,by omega⟩;replace hB2:=hB2.chg hx9 (by simp;omega);replace hB3:=hB3.chg hx9 (by simp;omega);replace hG:=hG.chg hx9 (by simp;omega);replace hC:=hC.n1 hx9 (by omega);replace hT:=hT.keepB (S':=λx=>x<w7.heap.size) (w':=w9) (λx hx _=>hx) (λx hx1 hx=>hx9.block x hx (by simp;omega));replace hNK:=hNK.keep (w':=w9) (λx _ hx=>hx9.block x (by omega) (by simp;omega));refine rG 60 hf rfl ?_;clear hf a;intro a hf;refine rD (λx=>Blk x b3 TT [.int .i64 k,eW s,.slice none 0 0,.slice (some ⟨g,0,none⟩) ks.length ks.length]∧Blk x b5 TT [d0,d1,d2,d3]) 6 7 rfl (by kernel_rfl) (by kernel_rfl) ?_;intro w10 hx10 hsel;replace hB2:=hB2.c0 hx10;replace hB3:=hB3.c0 hx10;replace hB5:=hB5.c0 hx10;replace hG:=hG.c0 hx10;replace hC:=hC.t0 hx10;have s10:=hx10.size;replace hT:=hT.keepB (S':=λx=>x<w7.heap.size) (w':=w10) (λx hx _=>hx) (λx hx1 hx=>hx10.block x hx nm0);replace hNK:=hNK.keep (w':=w10) (λx _ hx=>hx10.block x (by omega) nm0);refine dG [0] hsel (by kernel_rfl) hf rfl rfl (.inl ⟨hB3,hB5⟩) ?_;clear hf a;intro a hf;refine dL 1 rfl rfl hsel (by kernel_rfl) hf rfl ⟨hB3,hB5⟩ (λx hS=>jf hf rfl (by kernel_rfl) hS.1 rfl) ?_;clear hf a;intro a hf;refine dG [2] hsel (by kernel_rfl) hf rfl rfl (.inl ⟨hB3,hB5⟩) ?_;clear hf a;intro a hf;refine dL 3 rfl rfl hsel (by kernel_rfl) hf rfl ⟨hB3,hB5⟩ (λx hS=>nW (m:=4) hf rfl (by kernel_rfl) hS.2 rfl) ?_;clear hf a;intro a hf;refine NR 4 (by kernel_rfl) rfl hf rfl rfl rfl (by kernel_rfl) (ih i ks[i] (List.getElem?_eq_getElem hlt) w10 _ _ (by omega) hT) ?_;rintro _ w11 ⟨c,rfl,hx11,hN⟩;refine⟨_,rfl,?_⟩;clear hf a;intro a hf;replace hB2:=hB2.c0 hx11;replace hB3:=hB3.c0 hx11;replace hB5:=hB5.c0 hx11;replace hG:=hG.c0 hx11;replace hC:=hC.t0 hx11;have s11:=hx11.size;replace hNK:=hNK.keep (w':=w11) (λx _ hx=>hx11.block x (by omega) nm0);refine⟨.inl ⟨hB3,hB5⟩,?_⟩;refine dV 5 rfl rfl hsel (by kernel_rfl) hf rfl (.inl ⟨hB3,hB5⟩) (λx=>pE (sz:=4) (k:=i) (r:=i*4) hf underlying22 (by kernel_rfl) rfl rfl rfl hlt (Nat.zero_add _)) ?_;clear hf a;intro a hf;obtain⟨w12,he,hG',hx12⟩:=IB (P:=prog) (t:=TT) (x:=(.tmp 33)) (y:=(.tmp 32)) (m:=4) hf rfl rfl (by kernel_rfl) hN.four hN.one hG hdl rfl 0;refine Pj 6 (by kernel_rfl) rfl hf rfl rfl he ?_;clear he hf a;intro a hf;refine⟨.inr (by rfl),?_⟩;refine rN (by kernel_rfl) ?_;clear hG;have hG:=hG';clear hG';have s12:=hx12.size;have hGl:=hG.lt;replace hB2:=hB2.chg hx12 (by simp;omega);replace hB3:=hB3.chg hx12 (by simp;omega);replace hC:=hC.n1 hx12 (by omega);replace hNK:=hNK.keep (w':=w12) (λx h1 h2=>hx12.block x (by omega) (by simp;omega));replace hN:=hN.keep (w':=w12) (λx h1 h2=>hx12.block x h2 (by simp;omega));have hN4:=hN.four;refine rG 60 hf rfl ?_;clear hf a;intro a hf;refine rV hf rfl (ES (r:=((i+1:Nat):Int)) hf rfl rfl (by simp) (by omega)) ?_;clear hf a;intro a hf;refine rG 60 hf rfl ?_;clear hf a;intro a hf;refine rX ?_;refine⟨ks.length-(i+1),by omega,i+1,done++c,rest,w11.heap.size,rfl,hlt,hf.pick ⟨rfl,rfl,rfl,rfl,rfl,trivial⟩,hC,hB2,hB3,hG,by rw[List.length_append,hN4];omega,by simp only[List.length_cons]at hrl;omega,by omega,by omega,?_⟩;rw[List.take_succ_eq_append_getElem hlt];exact NestK.snoc hNK (hN.lo_ (by omega)) hgm (by omega)
  have hi':i=ks.length:=by omega
  subst hi';have hr0:rest=[]:=List.eq_nil_of_length_eq_zero (by omega);subst hr0;rw[List.append_nil]at hG;rw[List.take_length]at hNK;refine rG 60 hf rfl ?_;clear hf a;intro a hf;refine rV hf rfl (tX (c:=false) hf rfl rfl (by simp)) ?_;clear hf a;intro a hf;refine rG 60 hf rfl ?_;clear hf a;intro a hf;refine rO ?_;refine rG 60 hf rfl ?_;clear hf a;intro a hf;refine rV hf rfl (nW (m:=4) hf rfl (by kernel_rfl) hB3 rfl) ?_;clear hf a;intro a hf;obtain⟨w9,he,hB2',hx9⟩:=eN (.tmp 2) (.tmp 35) hf rfl rfl rfl rfl hB2 rfl 0;refine rS hf rfl he ?_;clear he hf a;intro a hf;refine rG 60 hf rfl ?_;clear hf a;intro a hf;have s9:=hx9.size;have hGl:=hG.lt;refine rT (rs:=[.cell 2 TT]) hf rfl ⟨_,_,_,_,_,rfl,rfl,by kernel_rfl,hB2',rfl,rfl⟩ ⟨_,rfl,hC.n1 hx9 (by omega),hfin (some ⟨g,0,none⟩) ks.length g done w9 (hC.n1 hx9 (by omega)) (Nat.le_refl _) (by simp only[maxLen];omega) (λ_=>⟨rfl,hg0,by omega,hG.chg hx9 (by simp;omega)⟩) ?_⟩;exact NestK.hi_ (hNK.keep (w':=w9) (λx h1 h2=>hx9.block x (by omega) (by simp;omega))) (by omega)
theorem JA:∀t,Bw t:=eY Iv
def vK(md:Region.Mode)(ops:Array Oper):Nat→List Nat→Nat→Bool
 |m,[],i=>mg md ops m i
 |m,q::r,i=>mg md ops m q&&vK md ops q r i
theorem Cg{md:Region.Mode}{ops:Array Oper}(h:mg md ops m i=true)(hi:listed.getD i true=false):m∉Region.ready md ops listed:=λhr=>by
 obtain⟨_,o,J,G⟩:=mem_ready.1 hr;unfold mg at h;rw[J]at h;obtain⟨e,O,hb⟩:=Array.any_eq_true'.1 h;simp only[Bool.and_eq_true,beq_iff_eq]at hb;have h1:=G e O hb.1;rw[hb.2]at h1;rcases Nat.lt_or_ge i listed.size with h'|h'
 ·simp[h']at hi h1;rw[hi]at h1;cases h1
 ·simp[Array.getElem?_eq_none h']at h1
theorem Ae{md:Region.Mode}{ops:Array Oper}{listed:Array Bool}{i:Nat}(hi:listed.getD i true=false):∀(qs:List Nat) (m:Nat),vK md ops m qs i=true→(∀q∈qs,listed.getD q true=false)→∀x∈m::qs,x∉Region.ready md ops listed
 |[],m,h,_,x,hx=>by simp only[List.mem_singleton]at hx;subst hx;exact Cg h hi
 |q::r,m,h,G,x,hx=>by
  simp only[vK,Bool.and_eq_true]at h;rcases List.mem_cons.1 hx with rfl|hx
  ·exact Cg h.1 (G q (by simp))
  ·exact Ae hi r q h.2 (λp J=>G p (by simp[J])) x hx
section
variable{P:Program}{ops:Array Oper}{Q:Exit→Act→World→Prop}{md:Region.Mode}{S:World→Prop}
theorem BA {m:Nat} {i:Nat} {qs:List Nat} {oi:Oper} {v:Value} (him:i≠m) (hch:vK md ops m qs i=true) (hi:ops[i]?=some oi) (hsel:∀(j:Nat) (o:Oper) cs b,ops[j]?=some o→o.op≠.select cs b)
    (hQ:∀c a w,Q (.panic c) (a.put oi.dst v) w→Q (.panic c) a w):
    ∀ (fuel:Nat) (listed:Array Bool) (a:Act) (w:World),
      (∀j oj,ops[j]?=some oj→j≠i→listed.getD j true=false→(∀e∈oj.after,Region.binds md e=true→e.on≠i)→oi.apart ops oj=true)→(∀q∈qs,listed.getD q true=false)→
      i∈Region.ready md ops listed→YieldsIf P ops S oi v a→S w→listed.getD m false=false→
      wpAnyL P md ops Q S m fuel (listed.setIfInBounds i true) (a.put oi.dst v) w→wpAnyL P md ops Q S m (fuel+1) listed a w:=by
  intro fuel
  induction fuel with
  | zero=>
    intro listed a w _ _ hr hy hS _ H;refine⟨λh=>(by rw[h]at hr;cases hr),λj hj=>?_⟩;by_cases hji:j=i
    ·subst hji;exact hy.wpOp hi hS ⟨.inl hS,H⟩
    · have :=ready_mono hj hji;rw[H.1]at this;cases this
  | succ fuel ih=>
    intro listed a w hfree hqs hr hy hS hlm H;refine⟨λh=>(by rw[h]at hr;cases hr),λj hj=>?_⟩;by_cases hji:j=i
    ·subst hji;exact hy.wpOp hi hS ⟨.inl hS,H⟩
    · have h1:=H.2 j (ready_mono hj hji);obtain⟨hjun,oj,hoj,hall⟩:=mem_ready.1 hj;have hnot:=pX (j:=j) hr hall;have hcn:=Ae (mem_ready.1 hr).1 qs m hch hqs;have hjm:j≠m:=λe=>hcn m (by simp) (e▸hj);have hjq:∀q∈qs,j≠q:=λq hq e=>hcn q (by simp[hq]) (e▸hj);have h2:=wpOp_putIf hoj (hfree j oj hoj hji hjun hnot) (λcs b=>hsel i oi cs b hi) (λcs b=>hsel j oj cs b hoj) hQ hy h1;have hfree':∀k ok,ops[k]?=some ok→k≠i→(listed.setIfInBounds j true).getD k true=false→
          (∀e∈ok.after,Region.binds md e=true→e.on≠i)→oi.apart ops ok=true:=λk ok hk hki hun hno=>by
        refine hfree k ok hk hki ?_ hno;by_cases hjk:j=k
        ·subst hjk;exact hjun
        ·rw[getD_set_ne true hjk]at hun;exact hun
      refine wpOp_mono (λa' w' h3=>?_) h2;have hlm':(listed.setIfInBounds j true).getD m false=false:=by rw[getD_set_ne false hjm];exact hlm
      have hqs':∀q∈qs,(listed.setIfInBounds j true).getD q true=false:=λq hq=>by rw[getD_set_ne true (hjq q hq)];exact hqs q hq
      have hS':S w':=by
        rcases h3.2.1 with h|h
        ·exact h
        · rw[Array.setIfInBounds_comm _ _ (λe=>hji e.symm),getD_set_ne false him,hlm']at h;cases h
      refine⟨.inl hS',ih (listed.setIfInBounds j true) a' w' hfree' hqs' (ready_mono hr (Ne.symm hji)) h3.1 hS' hlm' ?_⟩;rw[Array.setIfInBounds_comm _ _ hji];exact h3.2.2
theorem dLc{a:Act}{w:World}{n:Nat}{f:Nat→Option Value}{d:Option Tmp}{op:Op}{ty:TypeId}{ps:String}{af:Array Edge}{g:Option (Nat×Bool)}{v:Value}{fuel:Nat}(i:Nat)(qs:List Nat)(G:Nat.beq i m=false)(hi:ops[i]?=some ⟨d,op,ty,ps,af,g⟩)(hs:Region.noSelect ops=true)(hf:(vK .any ops m qs i&&qs.all (λq=>!listed.getD q true)&&!listed.getD m false&&Region.free .any ops listed i&&(Region.ready .any ops listed).contains i)=true)
  (h:Fr a n f) (J:(gh f ops g&&fL d n)=true) (U:S w) (Z:∀w',S w'→Runs P a ty op w' (.value v) w')
  (k:∀O,Fr O n (upo f d v)→wpAnyL P .any ops (NoPanic Q) S m fuel (listed.setIfInBounds i true) O w):wpAnyL P .any ops (NoPanic Q) S m (fuel+1) listed a w:=by
 simp only[Bool.and_eq_true,Bool.not_eq_true']at hf;obtain⟨⟨⟨⟨h1,h2⟩,h3⟩,h4⟩,h5⟩:=hf;exact BA (Nat.ne_of_beq_eq_false G) h1 hi (Region.noSelect_spec hs) (λ_ _ _ h=>h.elim) fuel listed a w (Region.free_spec hi h4) (λq hq=>by simpa using List.all_eq_true.1 h2 q hq) (by simpa using h5)
  (.inl ⟨km h (Bool.and_eq_true_iff.1 J).1,λw' hS'=>Z w' hS' _ _ _ _⟩) U h3 (k _ (h.puto (Bool.and_eq_true_iff.1 J).2 v))
end
theorem KidsAre.mono{S S':Nat→Prop}{w:World}{ts:List Tree}(h:KidsAre S w ts cs)(G:∀b,S b→S' b):KidsAre S' w ts cs:=h.keep G (λ_ _ _=>rfl)
theorem IP(t:Tree)(ih:∀(i:Nat) (u:Tree),t.kids[i]?=some u→BH u):BH t:=by
  obtain⟨k,s,ls,ks⟩:=t;intro w b pre c post ct lo hi Sf hbk hB hN hbo hhi hT hSf;simp only[NestC]at hN;obtain⟨B,n,g,cs,rfl,hn1,hn2,hlh,hg,hK⟩:=hN;simp only[TreeIs]at hT;obtain⟨A,m,B',n',rfl,hm1,hm2,hm3,hm4,hA,kcs,hKT,hKR⟩:=hT;simp only[Tree.kids]at ih;simp only[tbulk]at hbk;have hkl:=ej ks;have hll:=CX ls;have hbl:=hB.lt;refine rE 32 func90 rfl rfl rfl ?_;intro a hf;refine rG 60 hf rfl ?_;clear hf a;intro a hf;obtain⟨w1,bb,he,hbb,hx1,eb,lb⟩:=yY (P:=prog) (t:=TT) (x:=(.tmp 1)) hf rfl rfl w 0;refine rV hf rfl he ?_;clear he hf a;intro a hf;replace hB:=hB.c0 hx1;have hA1:=hA.keepB (w':=w1) (S':=Sf) (λ_ h _=>h) (λx _ hx=>hx1.block x hx nm0);refine rG 60 hf rfl ?_;clear hf a;intro a hf;refine rV hf rfl (jf hf rfl (by kernel_rfl) hbb rfl) ?_;clear hf a;intro a hf;obtain⟨A',m',w2,he,ha1,ha2,ha3,hx2⟩:=KL (P:=prog) (x:=.const (.slice none 0 0)) (y:=.tmp 7) (t:=27) (e:=9) (z:=.string ⟨#[]⟩) (by_:=16) hf rfl rfl hA1 (by omega) underlying27 (by kernel_rfl) rfl rfl 0;refine rV hf rfl he ?_;clear he hf a;intro a hf;replace hB:=hB.c0 hx2;replace hbb:=hbb.c0 hx2;refine rG 60 hf rfl ?_;clear hf a;intro a hf;obtain⟨w3,he,hB3,hx3⟩:=Cv (P:=prog) (t:=27) (x:=.tmp 10) (y:=.tmp 8) hf rfl rfl (by kernel_rfl) rfl hB (by simp) 0;refine rS hf rfl he ?_;clear he hf a;intro a hf;rw[Jc]at hB3;have s1:=hx1.size;have s2:=hx2.size;have s3:=hx3.size;have hbb3:=hbb.chg hx3 (by simp;omega);have hA3:=ha3.keepB (w':=w3) (S':=λx=>w.heap.size≤x) (λx hx _=>by omega) (λx hx hlt=>hx3.block x hlt (by simp;omega));have hC:ChgP (λx=>x=b∨(lo≤x∧x<hi)) w w3:=((ChgP.of0 hx1 (X:=λx=>x=b∨(lo≤x∧x<hi))).trans (ChgP.of0 hx2 (X:=λ_=>False)) (λ_ h=>h.elim)).trans (ChgP.of hx3) (λx hx=>by simp at hx;exact .inl (.inl hx));have hin:∀x,lo≤x→x<hi→w3.heap[x]?=w.heap[x]?:=λx h1 h2=>by
    rw[hx3.block x (by omega) (by simp;omega),hx2.block x (by omega) nm0,hx1.block x (by omega) nm0]
  have hK3:NestK w3 (g+1) hi ks cs:=by
    by_cases hk0:ks=[]
    ·subst hk0;simpa only[NestK]using hK
    · obtain⟨_,h1,h2,_⟩:=hg hk0;exact hK.keep λx g1 g2=>hin x (by omega) g2
  have hG3:ks≠[]→Blk w3 g TT ([]++cs)∧g+1≤g+1∧g+1≤hi:=λh=>by
    obtain⟨_,h1,h2,h3⟩:=hg h;exact⟨sw (hin g h1 h2) h3,Nat.le_refl _,h2⟩
  have hbw:w.heap.size≤bb:=by omega
  clear hx1 hx2 hx3 hB hbb hA1 hA hK ha3 hin;refine rG 60 hf rfl ?_;clear hf a;intro a hf;refine rV hf rfl (jf hf rfl (by kernel_rfl) hB3 (BZ _ _ _ _ _ _)) ?_;clear hf a;intro a hf;refine rV hf rfl (qa hf underlying22 rfl) ?_;clear hf a;intro a hf;refine rG 60 hf rfl ?_;clear hf a;intro a hf;refine rL (λmm a w'=>∃(i:Nat) (done rest:List Value) (mi:Nat),mm=ks.length-i∧i≤ks.length∧Fr a 32 (fm [(0,.pointer (some ⟨b,pre.length,none⟩)),(3,.pointer (some ⟨bb,0,none⟩)),(15,.int .i64 (ks.length:Nat)),(16,.int .i64 (i:Nat))])∧
      ChgP (λx=>x=b∨(lo≤x∧x<hi)) w w'∧Blk w' b TT (pre++[.int .i64 k,eW s,.slice A' ls.length m',.slice B ks.length n]++post)∧Blk w' bb TT [.int .i64 k,eW s,.slice A ls.length m,.slice B' ks.length n']∧
      RowIn (λx=>w.heap.size≤x) w' 1 A' ls.length (ls.map eW)∧(ks≠[]→Blk w' g TT (done++rest)∧g+1≤mi∧mi≤hi)∧KidsAre (λx=>(g+1≤x∧x<mi)∨w.heap.size≤x) w' (ks.take i) done∧NestK w' mi hi (ks.drop i) rest) ks.length
    ⟨0,[],cs,g+1,rfl,Nat.zero_le _,hf.pick ⟨rfl,rfl,rfl,rfl,trivial⟩,hC,hB3,hbb3,hA3,hG3,by simp[KidsAre],by simpa using hK3⟩ ?_
  clear hf a hC hB3 hbb3 hA3 hG3 hK3 s1 s2 s3;rintro _ a w4 ⟨i,done,rest,mi,rfl,hi1,hf,hC,hB,hbb,hA,hG,hKA,hNK⟩;by_cases hlt:i<ks.length
  · skip
    have hne:ks≠[]:=λh=>by subst h;simp at hlt
    obtain⟨rfl,hg1,hg2,_⟩:=hg hne;obtain⟨hG,hgm,hmh⟩:=hG hne;obtain⟨kb,ko,rfl,hkS,hkb,hcell⟩:=hKR.2 (by omega);obtain⟨d0,d1,d2,d3,hT,hK⟩:=GV hKT hlt;have hdl:=hKA.length;rw[List.length_take,Nat.min_eq_left hi1]at hdl;rw[List.drop_eq_getElem_cons hlt]at hNK;simp only[NestK]at hNK;obtain⟨c,d,mid,rfl,hm5,hm6,hNc,hNk⟩:=hNK;rw[←List.append_assoc]at hG;have htb:=Cc hlt;have sC:=hC.size;have out:∀x,Sf x→x<w.heap.size→w4.heap[x]?=w.heap[x]?:=λx h1 h2=>hC.block x h2 (λh=>by have :=hSf x h1;omega);replace hT:=hT.keepB (S':=λx=>Sf x∧x<w.heap.size) (w':=w4) (λx h1 h2=>⟨h1,h2⟩) out;have hK4:∀j,j<4→w4.cell? ⟨kb,ko+i*4+j,none⟩=([d0,d1,d2,d3]:List Value)[j]?:=λj hj=>by
      rw[World.cell?_of_block (a:=⟨kb,ko+i*4+j,none⟩) (out kb hkS hkb),Nat.add_assoc,hcell _ (by omega)];exact hK j hj
    refine rG 60 hf rfl ?_;clear hf a;intro a hf;refine rV hf rfl (tX (c:=true) hf rfl rfl (by simp;omega)) ?_;clear hf a;intro a hf;refine rG 60 hf rfl ?_;clear hf a;intro a hf;refine rD (λx=>Blk x b TT (pre++[.int .i64 k,eW s,.slice A' ls.length m',.slice (some ⟨g,0,none⟩) ks.length n]++post)∧Blk x bb TT [.int .i64 k,eW s,.slice A ls.length m,.slice (some ⟨kb,ko,none⟩) ks.length n']∧∀j,j<4→x.cell? ⟨kb,ko+i*4+j,none⟩=([d0,d1,d2,d3]:List Value)[j]?) 11 12 rfl (by kernel_rfl) (by kernel_rfl) ?_;intro w5 hx5 hsel;have e5:∀x,x<w4.heap.size→w5.heap[x]?=w4.heap[x]?:=λx hx=>hx5.block x hx nm0;have s5:=hx5.size;have hlb:=hB.lt;have hlbb:=hbb.lt;have hlg:=hG.lt;replace hB:=hB.c0 hx5;replace hbb:=hbb.c0 hx5;replace hG:=hG.c0 hx5;replace hT:=hT.keepB (S':=λx=>Sf x∧x<w.heap.size) (w':=w5) (λx h1 h2=>h1) (λx _ hx=>e5 x hx);replace hNc:=hNc.keep (w':=w5) (λx _ hx=>e5 x (by omega));replace hNk:=hNk.keep (w':=w5) (λx _ hx=>e5 x (by omega));replace hA:=hA.keepB (w':=w5) (S':=λx=>w.heap.size≤x) (λx h1 h2=>h1) (λx _ hx=>e5 x hx);replace hKA:=hKA.keepB (w':=w5) (S':=λx=>(g+1≤x∧x<mi)∨w.heap.size≤x) (λx h1 h2=>h1) (λx _ hx=>e5 x hx);replace hK4:∀j,j<4→w5.cell? ⟨kb,ko+i*4+j,none⟩=([d0,d1,d2,d3]:List Value)[j]?:=λj hj=>by
      rw[World.cell?_of_block (a:=⟨kb,ko+i*4+j,none⟩) (e5 kb (by show kb<w4.heap.size;omega))];exact hK4 j hj
    have hS:=And.intro hB (And.intro hbb hK4);replace hC:ChgP (λx=>x=b∨(lo≤x∧x<hi)) w w5:=hC.trans (ChgP.of0 hx5 (X:=λ_=>False)) (λ_ h=>h.elim);clear e5 hx5;refine dG [0,1,2] hsel (by kernel_rfl) hf rfl rfl (.inl hS) ?_;clear hf a;intro a hf;refine dLc 3 [5] rfl rfl hsel (by kernel_rfl) hf rfl hS (λx hS=>jf hf rfl (by kernel_rfl) hS.1 (BZ _ _ _ _ _ _)) ?_;clear hf a;intro a hf;refine dG [4] hsel (by kernel_rfl) hf rfl rfl (.inl hS) ?_;clear hf a;intro a hf;refine dV 5 rfl rfl hsel (by kernel_rfl) hf rfl (.inl hS) (λx=>pE (sz:=4) (k:=i) (r:=done.length) hf underlying22 (by kernel_rfl) rfl rfl rfl hlt (by omega)) ?_;clear hf a;intro a hf;refine dG [6] hsel (by kernel_rfl) hf rfl rfl (.inl hS) ?_;clear hf a;intro a hf;refine dLc 7 [10,9] rfl rfl hsel (by kernel_rfl) hf rfl hS (λx hS=>jf hf rfl (by kernel_rfl) hS.2.1 rfl) ?_;clear hf a;intro a hf;refine dG [8] hsel (by kernel_rfl) hf rfl rfl (.inl hS) ?_;clear hf a;intro a hf;refine dV 9 rfl rfl hsel (by kernel_rfl) hf rfl (.inl hS) (λx=>pE (sz:=4) (k:=i) (r:=ko+i*4) hf underlying22 (by kernel_rfl) rfl rfl rfl hlt rfl) ?_;clear hf a;intro a hf;refine dLc 10 [] rfl rfl hsel (by kernel_rfl) hf rfl hS (λx hS=>ex_loadN (cs:=[d0,d1,d2,d3]) (m:=4) hf rfl (by kernel_rfl) rfl hS.2.2) ?_;clear hf a;intro a hf;refine NR 11 (by kernel_rfl) rfl hf rfl rfl rfl (by kernel_rfl) (ih i ks[i] (List.getElem?_eq_getElem hlt) w5 g done c d [d0,d1,d2,d3] mi mid (λx=>Sf x∧x<w.heap.size) (by omega) hG hNc (by omega) (by omega) hT (λx h=>by have :=hSf x h.1;omega)) ?_;rintro _ w6 ⟨rfl,c',hG',hx6,hT'⟩;refine⟨_,rfl,?_⟩;clear hf a;intro a hf;refine⟨.inr (by rfl),?_⟩;refine rN (by kernel_rfl) ?_;have e6:∀x,x<w5.heap.size→x≠g→¬(mi≤x∧x<mid)→w6.heap[x]?=w5.heap[x]?:=λx hx h1 h2=>hx6.block x hx (by omega);have s6:=hx6.size;replace hC:ChgP (λx=>x=b∨(lo≤x∧x<hi)) w w6:=hC.trans hx6 (λx h=>by left;right;omega);replace hB:=sw (e6 b (by omega) (by omega) (by omega)) hB;replace hbb:=sw (e6 bb (by omega) (by omega) (by omega)) hbb;replace hA:=hA.keepB (w':=w6) (S':=λx=>w.heap.size≤x) (λx h1 h2=>h1) (λx h1 hx=>e6 x hx (by omega) (by omega));replace hKA:=hKA.keepB (w':=w6) (S':=λx=>(g+1≤x∧x<mid)∨w.heap.size≤x) (λx h1 h2=>by omega) (λx h1 hx=>e6 x hx (by omega) (by omega));replace hNk:=hNk.keep (w':=w6) (λx h1 h2=>e6 x (by omega) (by omega) (by omega));replace hT':=hT'.keep (S':=λx=>(g+1≤x∧x<mid)∨w.heap.size≤x) (w':=w6) (λx h=>by omega) (λ_ _ _=>rfl);refine rG 60 hf rfl ?_;clear hf a;intro a hf;refine rV hf rfl (ES (r:=((i+1:Nat):Int)) hf rfl rfl (by simp) (by omega)) ?_;clear hf a;intro a hf;refine rG 60 hf rfl ?_;clear hf a;intro a hf;refine rX ?_;refine⟨ks.length-(i+1),by omega,i+1,done++c',d,mid,rfl,hlt,hf.pick ⟨rfl,rfl,rfl,rfl,trivial⟩,hC,hB,hbb,hA,λ_=>⟨hG',by omega,by omega⟩,?_,hNk⟩;rw[List.take_succ_eq_append_getElem hlt];exact hKA.snoc hT'
  have hi':i=ks.length:=by omega
  subst hi';rw[List.take_length]at hKA;rw[List.drop_length]at hNK;simp only[NestK]at hNK;subst hNK;refine rG 60 hf rfl ?_;clear hf a;intro a hf;refine rV hf rfl (tX (c:=false) hf rfl rfl (by simp)) ?_;clear hf a;intro a hf;refine rG 60 hf rfl ?_;clear hf a;intro a hf;refine rO ?_;refine rG 60 hf rfl ?_;clear hf a;intro a hf;refine rF (rs:=[]) (vs:=[]) hf rfl rfl ⟨rfl,_,hB,hC,?_⟩;have hdl:=hKA.length;by_cases hk0:ks=[]
  · subst hk0;simp only[KidsAre]at hKA;subst hKA;exact zK (cs:=[]) ha1 ha2 hn1 hn2 (hA.keep (λx h=>.inr h) (λ_ _ _=>rfl)) (by simp only[KidsAre]) ⟨by simp,λh=>by simp at h⟩
  · obtain⟨rfl,hg1,hg2,_⟩:=hg hk0;obtain⟨hG,hgm,hmh⟩:=hG hk0;refine zK ha1 ha2 hn1 hn2 (hA.keep (λx h=>.inr h) (λ_ _ _=>rfl)) (hKA.mono λx h=>by omega) ⟨hdl,λ_=>⟨g,0,rfl,.inl ⟨hg1,hg2⟩,hG.lt,λj hj=>?_⟩⟩;rw[hG.cell,Nat.zero_add,List.append_nil]
theorem IZ:∀t,BH t:=eY IP
theorem DK(t:Tree)(w:World)(S:Nat→Prop)(ct:List Value)(hbk:tbulk t≤1000000000)(O:TreeIs S w t ct):
    Calls prog 51 #[.agg ct.toArray] w λe w'=>∃c,e=.returned (.agg c.toArray)∧Chg [] w w'∧TreeIs (λx=>w.heap.size≤x) w' t c:=by
  have h4:=O.four
  match ct,h4,O with
  |[c0,c1,c2,c3],_,O=>
  have on_T:=O.one;replace O:=O.keepB (S':=λx=>x<w.heap.size) (w':=w) (λx _ hx=>hx) (λ_ _ _=>rfl);refine rE 9 func51 rfl rfl rfl ?_;intro a hf;refine rG 60 hf rfl λa hf=>?_;obtain⟨w1,b1,he,G,hx1,e1,l1⟩:=yY (P:=prog) (t:=TT) (x:=(.tmp 0)) hf rfl rfl w 0;refine rV hf rfl he λa hf=>?_;replace O:=O.keepB (S':=λx=>x<w.heap.size) (w':=w1) (λx hx _=>hx) (λx _ hx=>hx1.block x hx nm0);obtain⟨w2,b2,he,J,hx2,e2,l2⟩:=eT a w1 0;refine rV hf rfl he λa hf=>?_;replace G:=G.c0 hx2;replace O:=O.keepB (S':=λx=>x<w.heap.size) (w':=w2) (λx hx _=>hx) (λx _ hx=>hx2.block x hx nm0);refine rG 60 hf rfl λa hf=>rV hf rfl (nW (m:=4) hf rfl (by kernel_rfl) G rfl) λa hf=>rC hf rfl rfl (by kernel_rfl) (JA t w2 _ _ hbk O) ?_;rintro _ w3 ⟨c,rfl,hx3,hN⟩;refine⟨_,rfl,λa hf=>?_⟩;replace G:=G.c0 hx3;replace J:=J.c0 hx3;replace O:=O.keepB (S':=λx=>x<w.heap.size) (w':=w3) (λx hx _=>hx) (λx _ hx=>hx3.block x hx nm0);obtain⟨w4,b4,he,hB4,U,e4,l4⟩:=eT a w3 0;refine rV hf rfl he λa hf=>?_;replace G:=G.c0 U;replace J:=J.c0 U;replace O:=O.keepB (S':=λx=>x<w.heap.size) (w':=w4) (λx hx _=>hx) (λx _ hx=>U.block x hx nm0);replace hN:=hN.keep (w':=w4) (λx _ hx=>U.block x hx nm0);obtain⟨w5,he,hB5,Z⟩:=eN (.tmp 3) (.tmp 5) hf rfl rfl hN.four hN.one hB4 rfl 0;refine rS hf rfl he λa hf=>?_;have s1:=hx1.size;have s2:=hx2.size;have s3:=hx3.size;have s4:=U.size;have s5:=Z.size;replace G:=G.chg Z (by simp;omega);replace J:=J.chg Z (by simp;omega);replace O:=O.keepB (S':=λx=>x<w.heap.size) (w':=w5) (λx hx _=>hx) (λx h1 hx=>Z.block x hx (by simp;omega));replace hN:=hN.keep (w':=w5) (λx _ hx=>Z.block x (by omega) (by simp;omega));have hC:Chg [] w w5:=(((hx1.t0 hx2).t0 hx3).t0 U).n1 Z (by omega);clear hx1 hx2 hx3 U Z hB4;refine rG 60 hf rfl λa hf=>rV hf rfl (nW (m:=4) hf rfl (by kernel_rfl) G rfl) λa hf=>rC hf rfl rfl (by kernel_rfl) (IZ t w5 b4 [] c [] [c0,c1,c2,c3] w2.heap.size w3.heap.size (λx=>x<w.heap.size) hbk (by simpa using hB5) hN (by omega) (by omega) O (λx hx=>by omega)) ?_;rintro _ w6 ⟨rfl,c',hB6,hx6,hT'⟩;refine⟨_,rfl,λa hf=>?_⟩;have s6:=hx6.size;replace J:=sw (hx6.block b2 (by omega) (by omega)) J;have hC6:Chg [] w w6:=⟨hx6.os.trans hC.os,hx6.tape.trans hC.tape,hx6.output.trans hC.output,nlt hC.size s6,λx hx h0=>by rw[hx6.block x (by omega) (by omega),hC.block x hx h0]⟩;rw[List.nil_append,List.append_nil]at hB6;have h4':=hT'.four;have on':=hT'.one;refine rG 60 hf rfl λa hf=>rV hf rfl (nW (m:=4) hf rfl (by kernel_rfl) hB6 h4') λa hf=>?_;obtain⟨w7,he,hB7,hx7⟩:=eN (.tmp 2) (.tmp 8) hf rfl rfl h4' on' J rfl 0;refine rS hf rfl he λa hf=>rG 60 hf rfl λa hf=>?_;exact rT (rs:=[.cell 2 TT]) hf rfl ⟨_,_,_,_,_,rfl,rfl,by kernel_rfl,hB7,h4',rfl⟩ ⟨_,rfl,hC6.n1 hx7 (by omega),hT'.keepB (λx h _=>by omega) (λx h hx=>hx7.block x hx (by simp;omega))⟩
section
variable{S:Nat→Prop}{w:World}
theorem Ao{ρ:Nat→Option Value}:∀{ls:List (List UInt8)} {xs:List Value},CRel S w ρ 1 (ls.map .str) xs→xs=ls.map eW
 |[],xs,h=>by simpa[CRel]using h
 |s::r,xs,h=>by
  simp only[List.map_cons,CRel,VRel]at h;obtain⟨x,ys,rfl,_,rfl,h2⟩:=h;rw[Ao h2];simp[Value.cells,eW]
mutual
theorem LRel.tree:∀{ρ:Nat→Option Value} {t:Tree} {c:List Value},LRel S w ρ (am t) c→TreeIs S w t c
 |ρ,.node k s ls ks,c,h=>by
  simp only[am,Tree.kind,Tree.text,Tree.leads,Tree.kids,LRel,VRel]at h;obtain⟨_,_,rfl,rfl,_,_,rfl,rfl,_,_,rfl,⟨A,m,xs,rfl,h1,h2,h3,h4⟩,_,_,rfl,⟨B,n,cs,rfl,h5,h6,h7,h8⟩,rfl⟩:=h;have e:=Ao h3;subst e;simp only[TreeIs];exact⟨A,m,B,n,by simp[gI],by simpa using h1,h2,by simpa[gI]using h5,h6,by simpa using h4,cs,CRel.kids h7,by simpa[gI]using h8⟩
theorem CRel.kids:∀{ρ:Nat→Option Value} {ts:List Tree} {cs:List Value},CRel S w ρ 4 (kidsV ts) cs→KidsAre S w ts cs
 |ρ,[],cs,h=>by simpa only[kidsV,CRel,KidsAre]using h
 |ρ,t::r,cs,h=>by
  simp only[kidsV,CRel,nU,VRel]at h;obtain⟨x,ys,rfl,⟨g1,g2⟩,⟨xs,rfl,h2⟩,h3⟩:=h;simp only[KidsAre];exact⟨xs,ys,by simp[Value.cells],LRel.tree h2,CRel.kids h3⟩
end
end
theorem GY(t:Tree)(ht:tbulk t≤1000000000):tR t t:=by
 refine⟨rfl,rfl,λS w ρ xs hr hx=>?_⟩;simp only[LRel]at hx;obtain⟨x,ys,rfl,hx,rfl⟩:=hx;simp only[VRel]at hx;obtain⟨ct,rfl,hx⟩:=hx;refine(DK t w S ct ht (LRel.tree hx)).mono ?_;rintro e w' ⟨c,rfl,G,J⟩;have g:=hr.chg0 G;refine⟨_,λb=>S b∨(w.heap.size≤b∧b<w'.heap.size),ρ,_,⟨0,[]⟩,rfl,rfl,⟨λi=>?_,λi b hb=>?_,λi j b hb _=>?_,g.slt.up (ρ:=ρ0) (ρ':=ρ0) ⟨λ_ h=>.inl h,λ_ _ _=>rfl,λ_ _ h=>h⟩ (λb hb=>hb.elim (g.slt b) (·.2))⟩,⟨ChgP.of0 G,λ_ h=>.inl h,λb hb=>hb.elim .inl (λh=>.inr (.inr h.1)),λid b hb=>by rw[nG]at hb;exact hb.elim,λid x h=>?_⟩,?_⟩
 ·have :=g.ob i;rw[nG]at this⊢;exact this
 ·rw[nG]at hb;exact hb.elim
 ·rw[nG]at hb;exact hb.elim
 ·simp only[tJ]at h;split at h
  ·exact h
  ·cases h
 ·simp only[VRel];exact⟨c,rfl,(J.keepB (S':=λb=>S b∨(w.heap.size≤b∧b<w'.heap.size)) (λb h1 h2=>.inr ⟨h1,h2⟩) (λ_ _ _=>rfl)).vrel⟩
theorem Lo(t:Tree)(q:List Int)(hq:q.length≤1000000000):tI t q ((atK t q).getD (.node 0 [] [] [])) (atK t q).isSome:=by
 have loop:∀m i (u:Tree),q.length-i≤m→oN (m+1) q u i ((atK u (q.drop i)).getD (.node 0 [] [] [])) (atK u (q.drop i)).isSome:=λm=>by
  induction m with
  |zero=>
   intro i u hi;refine vj 0 _ _ _ _ _ ⟨λh=>by omega,λh=>?_⟩;rw[List.drop_of_length_le (by omega)];exact⟨rfl,rfl⟩
  | succ m ihm=>
   intro i u hi;refine vj (m+1) _ _ _ _ _ ⟨λh=>?_,λh=>?_⟩
   ·obtain⟨x,hx,_⟩|h':=di q i
    ·rw[aJ hx,atK];refine⟨x,hx,λh1=>by simp[h1],λh1=>⟨λh2=>?_,λh2=>?_⟩⟩
     ·have :u.kids[x.toNat]?=none:=List.getElem?_eq_none (by omega);simp[h1,this]
     ·obtain⟨y,hy,_⟩|h3:=di u.kids x.toNat
      ·refine⟨x.toNat,by omega,y,hy,by omega,?_⟩;simp only[if_neg h1,hy];exact ihm (i+1) y (by omega)
      ·omega
    ·exact absurd h h'
   ·rw[List.drop_of_length_le (by omega)];exact⟨rfl,rfl⟩
 have :=loop q.length 0 t (by omega);exact Bb _ _ _ _ _ (by simpa using this)
theorem DW:∀(q:List Int) (t u:Tree),atK t q=some u→tbulk u≤tbulk t
 |[],t,u,h=>by simp only[atK,Option.some.injEq]at h;subst h;exact Nat.le_refl _
 | x::q,t,u,h=>by
  simp only[atK]at h;split at h
  ·cases h
  ·split at h
   ·cases h
   ·rename_i y hy;have :=DW q y u h;have :=ax hy;omega
theorem KD(t:Tree)(q:List Int)(ht:tbulk t≤1000000000)(J:q.length≤1000000000):mv t q ((atK t q).getD (.node 0 [] [] [])) (atK t q).isSome:=by
 refine Fu 0 _ _ _ _ ⟨_,_,Lo t q J,λh=>?_,λh=>?_⟩
 ·cases G:atK t q with
  |none=>exact⟨rfl,rfl⟩
  |some u=>rw[G]at h;cases h
 ·cases G:atK t q with
  |none=>rw[G]at h;cases h
  |some u=>exact⟨u,GY u (Nat.le_trans (DW q t u G) ht),rfl,rfl⟩
theorem vZ(x:Cx):∀(a b:List Tree) (d:Nat) (s:Sv),cQ x (a++b) d s=cQ x b (d+a.length) (cQ x a d s)
 |[],b,d,s=>rfl
 |f::r,b,d,s=>by
  simp only[List.cons_append,cQ,List.length_cons];rw[vZ x r b (d+1),show d+1+r.length=d+(r.length+1) by omega]
theorem vR(x:Cx):∀(a b:List Tree) (m:Nat) (s:Sv),dI x (a++b) m s=dI x b (m+a.length) (dI x a m s)
 |[],b,m,s=>rfl
 |t::r,b,m,s=>by
  simp only[List.cons_append,dI,List.length_cons];rw[vR x r b (m+1),show m+1+r.length=m+(r.length+1) by omega]
theorem ux{B:Int×Int}(x:Cx):∀(l:List Tree) (d:Nat) (s:Sv),(∀i,i<l.length→Off (x.go ((d+i:Nat):Int)))→FoB B s→FoB B (cQ x l d s)
 |[],d,s,_,hs=>hs
 |f::r,d,s,G,hs=>ux x r (d+1) _ (λi hi=>by
  have :=G (i+1) (by simp;omega);rw[show d+1+i=d+(i+1) by omega];exact this) (Lz x d f s hs (by simpa using G 0 (by simp)))
theorem xo{B:Int×Int}(x:Cx):∀(l:List Tree) (m:Nat) (s:Sv),(∀i,i<l.length→((m+i:Nat):Int)≠x.wm)→FoB B s→FoB B (dI x l m s)
 |[],m,s,_,hs=>hs
 |t::r,m,s,G,hs=>xo x r (m+1) _ (λi hi=>by
  have :=G (i+1) (by simp;omega);rw[show m+1+i=m+(i+1) by omega];exact this) (ux (x.md (m:Int)) t.kids 0 s (λi hi b hb h=>by
  have :=G 0 (by simp);exact this h.1) hs)
def c00(p:List Tree)(m:Int):CHr:=⟨p,m,[],[],false,0,[],[],[]⟩
theorem Oj{x:Cx}{root:Tree}(G:x.mo=(m:Int))(O:x.p[m]?=some root)(U:aR x.p=true)(hb:kbulk x.p≤10000000)(J:x.sg=sgM x.p x.p 0 []){w:List Int}:RX x {c00 x.p m with Want:=w}:=
 ⟨rfl,G.symm,U,hb,by omega,by have :=(List.getElem?_eq_some_iff.1 O).1;omega,J⟩
theorem OM{root:Tree}(k1:root.kind=1):∀q u,(q,u)∈nodK root []→u.kind=17→q≠([]:List Int):=λq u O J e=>by
 have G:=nodK_at root root [] rfl (q,u) O;simp only at G;rw[e]at G;have :root=u:=by simpa[atK]using G
 rw[←this,k1]at J;cases J
theorem Jn{x:Cx}{d:Nat}{root f:Tree}{s:Sv}{rest:List ar}(G:x.mo=(m:Int))(U:x.pa=[])(O:x.p[m]?=some root)(hf:root.kids[d]?=some f)(hp:aR x.p=true)(hb:kbulk x.p≤10000000)(J:x.sg=sgM x.p x.p 0 [])
  (hq:s.tg=aO x.p x.mo (nodK f [(d:Int)])++rest) (Z:s.fa.length+5*tbulk f+1≤800000000):(dR x d f s).tg=rest∧(dR x d f s).fa.length≤s.fa.length+5*tbulk f:=by
 obtain⟨hok,h23⟩:=zM hp m root d f O hf;have hX:=Oj (w:=[]) G O hp hb J;by_cases h2:f.kind=2
 ·have hg:=rz (P:=x.p) (key:=((m:Int),(d:Int))) x.p 0 m d [] root f O hf h2 (by simp);rw[Nat.zero_add]at hg;have e:dR x d f s=funS (x.go (d:Int)) f (dr x.p x.mo f) s:=by
   unfold dR;rw[if_pos h2,G,J,hg];rfl
  rw[e];obtain⟨n,rt,c1,y,c2,dd,hn,hrt,g1,g2,g3,g4,g5,g6,g7,g8⟩:=DU hX G U O hf h2 hok.s hq (OM (dm hp O).1) (by simp[c00]) Z (by rw[J];exact Fz hb);exact⟨g6,g7⟩
 ·obtain⟨b,hkb,hb'⟩:=hok.a h2;have e:dR x d f s=qt (x.go (d:Int)) d f s:=by unfold dR;rw[if_neg h2]
  rw[e];obtain⟨c1,g1,g2,g3,g4,g5⟩:=EJ hX G U O hf (by omega) hkb hb' hq (by simp[c00]) Z;exact⟨g3,g4⟩
theorem yr{x:Cx}{m:Nat}{root:Tree}{s:Sv}{rest:List ar}(hmo:x.mo=(m:Int))(hpa:x.pa=[])(hm:x.p[m]?=some root)(hp:aR x.p=true)(hb:kbulk x.p≤10000000)(hsg:x.sg=sgM x.p x.p 0 [])(hq:s.tg=aO x.p x.mo (nodKs root.kids [] 0)++rest)(hfa:s.fa.length+5*kbulk root.kids+1≤800000000):∀d,d≤root.kids.length→
  (cQ x (root.kids.take d) 0 s).tg=aO x.p x.mo (nodKs (root.kids.drop d) [] d)++rest∧(cQ x (root.kids.take d) 0 s).fa.length+5*kbulk (root.kids.drop d)≤s.fa.length+5*kbulk root.kids
 |0,_=>⟨by simpa[cQ]using hq,by simp[cQ]⟩
 | d+1,h=>by
  obtain⟨i1,i2⟩:=yr hmo hpa hm hp hb hsg hq hfa d (by omega);obtain⟨f,hf⟩:∃f,root.kids[d]?=some f:=⟨_,dn (by omega)⟩;rw[aJ hf]at i1 i2;simp only[kbulk]at i2;have hq1:(cQ x (root.kids.take d) 0 s).tg=aO x.p x.mo (nodK f [(d:Int)])++(aO x.p x.mo (nodKs (root.kids.drop (d+1)) [] (d+1))++rest):=by
   rw[i1,nodKs,kO,List.append_assoc];rfl
  obtain⟨j1,j2⟩:=Jn hmo hpa hm hf hp hb hsg hq1 (by omega);have e:root.kids.take (d+1)=root.kids.take d++[f]:=by rw[List.take_add_one,hf];rfl
  rw[e,vZ];have hl:0+(root.kids.take d).length=d:=by simp;omega
  rw[hl];exact⟨j1,by show(dR x d f _).fa.length+_≤_;omega⟩
theorem Dd{p:List Tree}(hp:aR p=true)(hb:kbulk p≤10000000)(nm:List ((Int×List UInt8)×aa))(wm:Int)(wp:List Int):∀m,m≤p.length→
  (dI (cxN p nm wm wp) (p.take m) 0 ⟨bo p,[],0,0⟩).tg=eP p m (p.drop m)∧(dI (cxN p nm wm wp) (p.take m) 0 ⟨bo p,[],0,0⟩).fa.length+5*kbulk (p.drop m)≤5*kbulk p
 |0,_=>⟨by simp[dI,bo,hp],by simp[dI]⟩
 | m+1,h=>by
  obtain⟨i1,i2⟩:=Dd hp hb nm wm wp m (by omega);obtain⟨t,ht⟩:∃t,p[m]?=some t:=⟨_,List.getElem?_eq_getElem (by omega)⟩;obtain⟨k1,k2⟩:=dm hp ht;have htb:=bp t;rw[aJ ht]at i1 i2;simp only[kbulk]at i2;have hq1:(dI (cxN p nm wm wp) (p.take m) 0 ⟨bo p,[],0,0⟩).tg=aO p (m:Int) (nodKs t.kids [] 0)++eP p (m+1) (p.drop (m+1)):=by
   rw[i1,eP,dF,aO,show cP t=false by simp[cP,k1]];rfl
  obtain⟨j1,j2⟩:=yr (x:=(cxN p nm wm wp).md (m:Int)) (m:=m) rfl rfl ht hp hb rfl hq1 (by omega) t.kids.length (Nat.le_refl _);rw[List.take_length,List.drop_length]at j1 j2;have e:p.take (m+1)=p.take m++[t]:=by rw[List.take_add_one,ht];rfl
  rw[e,vR];have hl:0+(p.take m).length=m:=by simp;omega
  rw[hl];exact⟨j1,by simp only[dI];simp[kbulk]at j2;omega⟩
theorem AN:∀(r:List Int) (b u:Tree),tyK b→atK b r=some u→tyK u
 |[],b,u,hb,h=>by
  have :b=u:=by simpa[atK]using h
  rw[←this];exact hb
 | i ::r,b,u,hb,h=>by
  unfold atK at h;split at h
  ·cases h
  ·split at h
   ·cases h
   ·rename_i v hv;rcases kp hb with⟨_,_,w,hw,hwt⟩|⟨_,hk,_⟩
    ·have :v=w:=by
      rw[hw]at hv;rcases hi:i.toNat with _|j
      ·rw[hi]at hv;simpa using hv.symm
      ·rw[hi]at hv;simp at hv
     rw[this]at h;exact AN r w u hwt h
    ·rw[hk]at hv;simp at hv
theorem GG {t u:Tree} {q:List Int} (k1:t.kind=1) (hs:shapeK t=true) (hat:atK t q=some u) (hu:dv u.kind=true):∃(d n:Nat) (f b:Tree) (r:List Int),q=(d:Int)::((n+1:Nat):Int)::r∧t.kids[d]?=some f∧f.kind=2∧shapeK f=true∧n+2=f.kids.length∧f.kids[n+1]?=some b:=by
 have hk:10≤u.kind∧u.kind≤22∧u.kind≠17:=by simpa[dv]using hu
 have one:∀{a b:Tree} {i:Int} {r:List Int},atK a (i::r)=some b→∃(d:Nat) (v:Tree),i=(d:Int)∧a.kids[d]?=some v∧atK v r=some b:=λ{a b i r} h=>by
  unfold atK at h;split at h
  ·cases h
  ·rename_i hi;split at h
   ·cases h
   ·rename_i v hv;exact⟨i.toNat,v,by omega,hv,h⟩
 match q,hat with
 |[],hat=>
  have :t=u:=by simpa[atK]using hat
  rw[←this]at hk;omega
 | i :: r,hat=>
  obtain⟨d,f,rfl,hf,hat1⟩:=one hat;have hsf:shapeK f=true:=by
   rw[bV]at hs;simp only[Bool.and_eq_true]at hs;exact(dx hs.2 hf).2
  rcases nQ k1 hs hf with⟨h2,_⟩|⟨h3,_⟩
  ·obtain⟨s1,s2,s3,s4⟩:=mw hsf h2
   match r,hat1 with
   |[],hat1=>
    have :f=u:=by simpa[atK]using hat1
    rw[←this]at hk;omega
   | j ::r,hat1=>
    obtain⟨e,v,rfl,hv,hat2⟩:=one hat1;have hlt:=(List.getElem?_eq_some_iff.1 hv).1;by_cases he:e+1=f.kids.length
    ·exact⟨d,e-1,f,v,r,by rw[show((e-1+1:Nat):Int)=(e:Int) by omega],hf,h2,hsf,by omega,by rw[show e-1+1=e by omega];exact hv⟩
    ·exfalso;by_cases he2:e+2=f.kids.length
     ·have :=AN r v u (s3 v (by rw[show f.kids.length-2=e by omega];exact hv)) hat2;have :=this.2;simp[fX]at this;omega
     ·obtain⟨w,w1,w2,w3⟩:=s2 e v hv (by omega)
      match r,hat2 with
      |[],hat2=>
       have :v=u:=by simpa[atK]using hat2
       rw[←this]at hk;omega
      | j2::r,hat2=>
       obtain⟨e3,z,rfl,hz,hat3⟩:=one hat2;have :z=w:=by
        rw[w2]at hz;rcases e3 with _|e3
        ·simpa using hz.symm
        ·simp at hz
       rw[this]at hat3;have :=(AN r w u w3 hat3).2;simp[fX]at this;omega
  ·exfalso;obtain⟨b,hkb,hb⟩:∃b,f.kids=[b]∧tyK b:=by
    have hp:aR [t]=true:=by simp[aR,k1,hs]
    exact oK (p:=[t]) (i:=0) hp rfl hf h3
   match r,hat1 with
   |[],hat1=>
    have :f=u:=by simpa[atK]using hat1
    rw[←this]at hk;omega
   | j::r,hat1=>
    obtain⟨e,v,rfl,hv,hat2⟩:=one hat1;have :v=b:=by
     rw[hkb]at hv;rcases e with _|e
     ·simpa using hv.symm
     ·simp at hv
    rw[this]at hat2;have :=(AN r b u hb hat2).2;simp[fX]at this;omega
theorem Hr {x:Cx} {s:Sv} {m d:Nat} {root f:Tree} {rest:List ar} (hmo:x.mo=(m:Int)) (hpa:x.pa=[]) (hm:x.p[m]?=some root) (hd:root.kids[d]?=some f) (hk:f.kind=2) (hs:shapeK f=true) (hKb:kbulk x.p≤10000000) (hsg:∀k g,aC k x.sg=some g→KOk 100000000 g.result)
    (hq:s.tg=aO x.p x.mo (nodK f [(d:Int)])++rest) (hfa:s.fa.length+5*tbulk f+1≤800000000) {n:Nat} (hn:n+2=f.kids.length) {b:Tree} (hb:f.kids[n+1]?=some b):
    ∃ (X:List FE) (rt:Tree),exT b∧(∀k∈f.kids.take n,yj k)∧X.length≤tbulk f∧Hyp (x.go (d:Int)) (cx (f.kids.take n) ((f.kids.take n).map λk=>tyN x.p x.mo (bz k 0))) {s with tg:=aO x.p x.mo (nodK b [(d:Int),((n+1:Nat):Int)])++rest,fa:=s.fa++X} 100000000 (tbulk b+1) (uN b)∧
      funS (x.go (d:Int)) f (dr x.p x.mo f) s=funQ (x.go (d:Int)) (n+1) (tyN x.p x.mo rt) (aA (bj (tbulk f)) (x.go (d:Int)) f (n+1) (cx (f.kids.take n) ((f.kids.take n).map λk=>tyN x.p x.mo (bz k 0))) {s with tg:=aO x.p x.mo (nodK b [(d:Int),((n+1:Nat):Int)])++rest,fa:=s.fa++X}):=by
  obtain⟨s1,s2,s3,s4⟩:=mw hs hk;have hkl:=bN f;have hB:=bp f;obtain⟨r,hr⟩:∃r,f.kids[n]?=some r:=⟨_,List.getElem?_eq_getElem (by omega)⟩;have hrt:=s3 r (by rw[show f.kids.length-2=n by omega];exact hr);have hbx:=s4 b (by rw[show f.kids.length-1=n+1 by omega];exact hb);have hsplit:f.kids=f.kids.take n++[r,b]:=by
    have e1:f.kids.drop n=[r,b]:=by
      rw[aJ hr,aJ hb,List.drop_of_length_le (by omega)]
    rw[←e1,List.take_append_drop]
  have hrb:=ax hr;have hbb:=ax hb;have hfb:tbulk f≤10000000:=by
    have :=aY hm;have :=ax hd;omega
  have hp:∀k∈f.kids.take n,yj k:=λk hk=>by
    obtain⟨i,hi⟩:=List.mem_iff_getElem?.1 hk;rw[List.getElem?_take]at hi;split at hi
    · obtain⟨v,h1,h2,h3⟩:=s2 i k hi (by omega);exact⟨v,h1,h2,h3⟩
    ·cases hi
  have hxd:(x.go (d:Int)).pa=[(d:Int)]:=by simp[Cx.go,hpa]
  have hnod:nodK f [(d:Int)]=([(d:Int)],f)::(nodKs (f.kids.take n) [(d:Int)] 0++(nodK r [(d:Int),(n:Int)]++nodK b [(d:Int),((n+1:Nat):Int)])):=by
    rw[dF]
    conv=>lhs;rw[hsplit]
    rw[we];have :(f.kids.take n).length=n:=by simp;omega
    rw[this,Nat.zero_add];simp[nodKs]
  have hq':s.tg=aO x.p x.mo (nodKs (f.kids.take n) [(d:Int)] 0)++(aO x.p x.mo (nodK r [(d:Int),(n:Int)])++(aO x.p x.mo (nodK b [(d:Int),((n+1:Nat):Int)])++rest)):=by
    rw[hq,hnod,aO,show cP f=false by simp[cP,hk]];simp[kO]
  obtain⟨X,hXX⟩:∃X,X=bv x.p x.mo (nodKs (f.kids.take n) [(d:Int)] 0):=⟨_,rfl⟩;obtain⟨Y,hYY⟩:∃Y,Y=bv x.p x.mo (nodK r [(d:Int),(n:Int)]):=⟨_,rfl⟩;have hpar:=yo (x.go (d:Int)) (f.kids.take n) 0 s _ hp (by rw[hxd];exact hq');rw[hxd]at hpar;have htyp:=sy (tbulk f) r ((x.go (d:Int)).go (n:Int)) {s with tg:=aO x.p x.mo (nodK r [(d:Int),(n:Int)])++(aO x.p x.mo (nodK b [(d:Int),((n+1:Nat):Int)])++rest),fa:=s.fa++X} (aO x.p x.mo (nodK b [(d:Int),((n+1:Nat):Int)])++rest) (by omega) hrt (by simp[Cx.go,hpa]);have hpr:((x.go (d:Int)).go (n:Int)).pa=[(d:Int),(n:Int)]:=by simp[Cx.go,hpa]
  rw[hpr]at htyp;obtain⟨sB,hsB⟩:∃sB:Sv,sB={s with tg:=aO x.p x.mo (nodK b [(d:Int),((n+1:Nat):Int)])++rest,fa:=s.fa++(X++Y)}:=⟨_,rfl⟩;have hB2:dD (tbulk f) ((x.go (d:Int)).go (n:Int)) r (iz (x.go (d:Int)) (f.kids.take n) 0 s)=sB:=by
    rw[hpar,hsB];refine Eq.trans ?_ (htyp.trans ?_)
    ·rw[hXX];rfl
    · rw[hYY];simp[Cx.go]
  have hfree:bv x.p x.mo (nodK f [(d:Int)])=X++Y:=by
    rw[hnod,yb (by simp only;omega),jz,jz,sX (tbulk b) b _ (Nat.le_refl _) hbx,List.append_nil,←hXX,←hYY]
  have hXY:(X++Y).length≤tbulk f:=by
    rw[←hfree];exact Nat.le_trans (qm _ _ _) (nodK_len f _)
  have hU:uN b=(aO x.p x.mo (nodK b [(d:Int),((n+1:Nat):Int)])).length:=(tgs_uN x.p x.mo b _).symm;have hgs:dr x.p x.mo f=⟨(f.kids.take n).map λk=>tyN x.p x.mo (bz k 0),tyN x.p x.mo r⟩:=by
    unfold dr;rw[show f.kids.length-2=n by omega,dl hr]
  have hgp:=(vU (p:=x.p) (m:=x.mo) (f:=f) (B:=tbulk f) (Nat.le_refl _)).2;rw[hgs]at hgp;refine⟨X++Y,r,hbx,hp,hXY,?_,?_⟩
  · exact ⟨by rw[hxd];simp;omega,by simp only[List.length_append]at hXY⊢;omega,by rw[hU];simp,by omega,λc hc=>by
      have :∀(ks:List Tree) (ps:List Kn),(∀q∈ps,KOk (2*tbulk f+kbulk x.p+2) q)→∀c∈cx ks ps,KOk (2*tbulk f+kbulk x.p+2) c.typ:=λks=>by
        induction ks with
        |nil=>intro ps _ c hc;simp[cx]at hc
        | cons k r ih=>
          intro ps hps c hc;cases ps with
          |nil=>simp[cx]at hc
          | cons q l=>
            simp only[cx,List.mem_cons]at hc;rcases hc with rfl|hc
            ·exact hps q List.mem_cons_self
            ·exact ih l (λq hq=>hps q (List.mem_cons_of_mem _ hq)) c hc
      exact(this _ _ hgp c hc).mono (by omega),hsg⟩
  · unfold funS;rw[hgs,show f.kids.length-1=n+1 by omega,show f.kids.length-2=n by omega,dl hr,hB2,hsB]
theorem Mr{p:List Tree}(hp:aR p=true)(hb:kbulk p≤10000000)(nm:List ((Int×List UInt8)×aa)){u:Tree}{q:List Int}(G:p[m]?=some t)(hat:atK t q=some u)(hu:dv u.kind=true):
  ∃(d:Nat) (f:Tree) (r:List Int) (y:Ty) (c':CHr),q=(d:Int)::r∧2≤q.length∧t.kids[d]?=some f∧f.kind=2∧cZ ⟨p,(m:Int),[],q,false,0,[],[],[]⟩ (d:Int) y c'∧TyR ⟨(eX p nm (m:Int) q).rs,(eX p nm (m:Int) q).rl⟩ (goT c')∧(eX p nm (m:Int) q).rl≤1000000000:=by
 obtain⟨k1,k2⟩:=dm hp G;obtain⟨d,n,f,b,r,J,hf,O,hsf,hn,hbk⟩:=GG k1 k2 hat hu;have hmlt:=(List.getElem?_eq_some_iff.1 G).1;have hdlt:=(List.getElem?_eq_some_iff.1 hf).1;have htb:=bp t;have htk:=aY G;have hfk:=ax hf;obtain⟨a1,a2⟩:=Dd hp hb nm (m:Int) q m (by omega);rw[aJ G]at a1 a2;simp only[kbulk]at a2;obtain⟨S0,hS0⟩:∃S0,S0=dI (cxN p nm (m:Int) q) (p.take m) 0 ⟨bo p,[],0,0⟩:=⟨_,rfl⟩;have o0:FoB (0,0) S0:=by
  rw[hS0];exact xo _ _ 0 _ (λi hi=>by
   have :i<m:=by simp at hi;omega
   show((0+i:Nat):Int)≠(m:Int);omega) ⟨rfl,rfl⟩
 rw[←hS0]at a1 a2;have a1':S0.tg=aO p (m:Int) (nodKs t.kids [] 0)++eP p (m+1) (p.drop (m+1)):=by
  rw[a1,eP,dF,aO,show cP t=false by simp[cP,k1]];rfl
 obtain⟨x,hx⟩:∃x,x=(cxN p nm (m:Int) q).md (m:Int):=⟨_,rfl⟩;have xp:x.p=p:=by rw[hx];rfl
 have xm:x.mo=(m:Int):=by rw[hx];rfl
 have xa:x.pa=[]:=by rw[hx];rfl
 have xs:x.sg=sgM x.p x.p 0 []:=by rw[hx];rfl
 have xw:x.wm=(m:Int):=by rw[hx];rfl
 have xq:x.wp=q:=by rw[hx];rfl
 have U:∀e:Nat,e≠d→Off (x.go (e:Int)):=λe he b hb2 h=>by
  have h2:=h.2;rw[show(x.go (e:Int)).wp=x.wp from rfl,xq,J]at h2;have :(x.go (e:Int)).pa=[(e:Int)]:=by simp[Cx.go,xa]
  rw[this]at h2;simp only[List.cons_append,List.nil_append,List.cons.injEq]at h2;have :=h2.1;omega
 obtain⟨b1,b2⟩:=yr (x:=x) (s:=S0) (root:=t) (rest:=eP p (m+1) (p.drop (m+1))) xm xa (by rw[xp];exact G) (by rw[xp];exact hp) (by rw[xp];exact hb) xs (by rw[xp,xm];exact a1') (by omega) d (by omega);obtain⟨Sd,hSd⟩:∃Sd,Sd=cQ x (t.kids.take d) 0 S0:=⟨_,rfl⟩;have o1:FoB (0,0) Sd:=by
  rw[hSd];exact ux _ _ 0 _ (λi hi=>by
   have :i<d:=by simp at hi;omega
   rw[Nat.zero_add];exact U i (by omega)) o0
 rw[←hSd]at b1 b2;rw[aJ hf]at b1 b2;simp only[kbulk]at b2;have b1':Sd.tg=aO x.p x.mo (nodK f [(d:Int)])++(aO x.p x.mo (nodKs (t.kids.drop (d+1)) [] (d+1))++eP p (m+1) (p.drop (m+1))):=by
  rw[b1,nodKs,kO,List.append_assoc];rfl
 obtain⟨X,rt,hbx,hpar,hXl,HY,Z⟩:=Hr (x:=x) (s:=Sd) xm xa (by rw[xp];exact G) hf O hsf (by rw[xp];exact hb) (by rw[xs];exact Fz (by rw[xp];exact hb)) b1' (by omega) hn hbk;obtain⟨sB,hsB⟩:∃sB:Sv,sB={Sd with tg:=aO x.p x.mo (nodK b [(d:Int),((n+1:Nat):Int)])++(aO x.p x.mo (nodKs (t.kids.drop (d+1)) [] (d+1))++eP p (m+1) (p.drop (m+1))),fa:=Sd.fa++X}:=⟨_,rfl⟩;rw[←hsB]at HY Z;have oB:sB.rs=0∧sB.rl=0:=by rw[hsB];exact o1
 have hRX:RX x ⟨p,(m:Int),[],q,false,0,[],[],[]⟩:=⟨xp.symm,xm.symm,by rw[xp];exact hp,by rw[xp];exact hb,by rw[xm];omega,by rw[xm,xp];omega,xs⟩;have hatb:atK t [(d:Int),((n+1:Nat):Int)]=some b:=by
  have :=wo t [(d:Int)] [((n+1:Nat):Int)];rw[rq hf]at this;simp only[List.cons_append,List.nil_append,Option.bind_some]at this;rw[this];exact rq hbk
 obtain⟨y,c',g1,g2,g3⟩:=Cu hRX xm xa (by rw[xp];exact G) hf hn hbk hbx hpar HY ⟨_,by rw[hsB]⟩ (λq' u' h1 h17 e=>by
  have h2:=nodK_at t b _ hatb (q',u') h1;simp only at h2 e;rw[e,hat]at h2;injection h2 with h2
  rw[←h2]at h17;rw[h17]at hu;exact absurd hu (by decide)) (by simp)
 have hG0:GR x sB ⟨p,(m:Int),[],q,false,0,[],[],[]⟩:=.inr ⟨xq.symm,xm.trans xw.symm,.inl ⟨oB.1,rfl⟩,by rw[oB.2];decide⟩;have hW:c'.Want=q:=g3.W;have hT:TyR ⟨(aA (bj (tbulk f)) (x.go (d:Int)) f (n+1) (cx (f.kids.take n) ((f.kids.take n).map λk=>tyN x.p x.mo (bz k 0))) sB).2.rs,(aA (bj (tbulk f)) (x.go (d:Int)) f (n+1) (cx (f.kids.take n) ((f.kids.take n).map λk=>tyN x.p x.mo (bz k 0))) sB).2.rl⟩ (goT c')∧(aA (bj (tbulk f)) (x.go (d:Int)) f (n+1) (cx (f.kids.take n) ((f.kids.take n).map λk=>tyN x.p x.mo (bz k 0))) sB).2.rl≤1000000000:=by
  rcases g3.g hG0 with h|⟨_,_,h⟩
  ·rw[hW,J]at h;cases h
  ·exact h
 refine⟨d,f,_,y,c',J,by rw[J];simp,hf,O,g1,?_⟩;have hrun:eX p nm (m:Int) q=dI (cxN p nm (m:Int) q) (p.drop (m+1)) (m+1) (cQ x (t.kids.drop (d+1)) (d+1) (dR x d f Sd)):=by
  have e1:p=p.take m++t::p.drop (m+1):=by rw[←aJ G,List.take_append_drop]
  have e2:t.kids=t.kids.take d++f::t.kids.drop (d+1):=by rw[←aJ hf,List.take_append_drop]
  unfold eX
  conv=>lhs;arg 2;rw[e1]
  rw[vR,←hS0];have hl:0+(p.take m).length=m:=by simp;omega
  rw[hl,dI,←hx]
  conv=>lhs;arg 4;arg 2;rw[e2]
  rw[vZ,←hSd];have hl2:0+(t.kids.take d).length=d:=by simp;omega
  rw[hl2,cQ]
 have hdef:dR x d f Sd=funS (x.go (d:Int)) f (dr x.p x.mo f) Sd:=by
  have hg:=rz (P:=x.p) (key:=((m:Int),(d:Int))) x.p 0 m d [] t f (by rw[xp];exact G) hf O (by simp);rw[Nat.zero_add]at hg;unfold dR;rw[if_pos O,xm,xs,hg];rfl
 rw[hrun,hdef,Z];generalize aA (bj (tbulk f)) (x.go (d:Int)) f (n+1) (cx (f.kids.take n) ((f.kids.take n).map λk=>tyN x.p x.mo (bz k 0))) sB=w at hT⊢;obtain⟨k,sC⟩:=w;have o2:FoB (sC.rs,sC.rl) (funQ (x.go (d:Int)) (n+1) (tyN x.p x.mo rt) (k,sC)):=by
  unfold funQ;simp only[];split
  ·exact⟨rfl,rfl⟩
  ·exact⟨rfl,rfl⟩
 have o3:=ux x (t.kids.drop (d+1)) (d+1) _ (λi hi=>U (d+1+i) (by omega)) o2;have o4:=xo (cxN p nm (m:Int) q) (p.drop (m+1)) (m+1) _ (λi hi=>by
  show((m+1+i:Nat):Int)≠(m:Int);omega) o3
 rw[o4.1,o4.2];exact hT
theorem OL{p:List Tree}(J:aR p=true)(hb:kbulk p≤10000000){q:List Int}{u:Tree}(O:p[m]?=some t)(G:mv t q u true)(hu:dv u.kind=true):∃nm,(∀n:Nat,(eX p nm (m:Int) q).rl=(n:Int)→n≤1000000000→iN p ⟨(m:Int),q⟩ (ofN (eX p nm (m:Int) q)).1 (ofN (eX p nm (m:Int) q)).2)∧((eX p nm (m:Int) q).rs=0→iN p ⟨(m:Int),q⟩ (.node 0 [] [] []) 20):=by
 obtain⟨nm,h1,h2⟩:=sa J hb;obtain⟨_,z,Z⟩:=AY J hb nm (m:Int) q;have hk:10≤u.kind∧u.kind≤22∧u.kind≠17:=by simpa[dv]using hu
 have hlt:m<p.length:=(List.getElem?_eq_some_iff.1 O).1;refine⟨nm,λn hn U=>?_,λh0=>?_⟩
 ·refine jc (n+2) _ _ _ _ (⟨_,oH p (by omega),λh=>(by rw[J]at h;cases h),λ_=>⟨λh=>absurd h (by simp),λ_=>⟨λh=>absurd h (by simp only;omega),λ_=>⟨m,rfl,t,O,u,true,G,?_⟩⟩⟩⟩);refine nH (n+1) _ _ _ _ _ _ (⟨λh=>(by cases h),λ_=>⟨λh=>absurd h (by omega),λ_=>⟨λh=>absurd h (by omega),λ_=>⟨λh=>absurd h hk.2.2,λ_=>⟨_,h2,_,Z,λh=>?_,λh=>?_⟩⟩⟩⟩⟩)
  ·have h':(eX p nm (m:Int) q).rs=0:=h;unfold ofN;rw[if_pos h'];exact⟨rfl,rfl⟩
  ·have h':¬(eX p nm (m:Int) q).rs=0:=h;unfold ofN;rw[if_neg h',hn];exact Ff hn U n _ [] 0 (by omega)
 ·refine jc 2 _ _ _ _ (⟨_,oH p (by omega),λh=>(by rw[J]at h;cases h),λ_=>⟨λh=>absurd h (by simp),λ_=>⟨λh=>absurd h (by simp only;omega),λ_=>⟨m,rfl,t,O,u,true,G,?_⟩⟩⟩⟩);exact nH 1 _ _ _ _ _ _ (⟨λh=>(by cases h),λ_=>⟨λh=>absurd h (by omega),λ_=>⟨λh=>absurd h (by omega),λ_=>⟨λh=>absurd h hk.2.2,λ_=>⟨_,h2,_,Z,λ_=>⟨rfl,rfl⟩,λh=>absurd h0 h⟩⟩⟩⟩⟩)
theorem uq:dc (.node 0 [] [] []) (.node 0 [] [] []) true:=by
 have :=zq (k:=0) (k':=0) (by decide) (by decide) 0 0;simpa[lfT,bF]using this
theorem KZ{p:List Tree}(hb:kbulk p≤10000000)(x:bw)(hx:x.Path.length≤1000000):∃(t:Tree) (e:Int) (t':Tree),iN p x t e∧iZ p x t' e∧dc t t' true:=by
 obtain⟨M,q⟩:=x;simp only at hx;have h8:=oH p (by omega);have hR:=iF p (by omega);cases hp:aR p
 ·rw[hp]at h8 hR;exact⟨_,5,_,jc 0 _ _ _ _ (⟨false,h8,λ_=>⟨rfl,rfl⟩,λh=>(by cases h)⟩),iq 0 _ _ _ _ (⟨false,hR,λ_=>⟨rfl,rfl⟩,λh=>(by cases h)⟩),uq⟩
 rw[hp]at h8 hR;by_cases h0:M<0
 ·exact⟨_,5,_,jc 0 _ _ _ _ (⟨true,h8,λh=>(by cases h),λ_=>⟨λ_=>⟨rfl,rfl⟩,λh=>absurd h0 h⟩⟩),iq 0 _ _ _ _ (⟨true,hR,λh=>(by cases h),λ_=>⟨λ_=>⟨rfl,rfl⟩,λh=>absurd h0 h⟩⟩),uq⟩
 by_cases h1:((p.length:Nat):Int)≤M
 ·exact⟨_,5,_,jc 0 _ _ _ _ (⟨true,h8,λh=>(by cases h),λ_=>⟨λh=>absurd h h0,λ_=>⟨λ_=>⟨rfl,rfl⟩,λh=>absurd h1 h⟩⟩⟩),iq 0 _ _ _ _ (⟨true,hR,λh=>(by cases h),λ_=>⟨λh=>absurd h h0,λ_=>⟨λ_=>⟨rfl,rfl⟩,λh=>absurd h1 h⟩⟩⟩),uq⟩
 obtain⟨m,rfl⟩:∃m:Nat,M=(m:Int):=⟨M.toNat,by omega⟩;obtain⟨t,ht⟩:∃t,p[m]?=some t:=⟨_,List.getElem?_eq_getElem (by omega)⟩;have htb:=aY ht;have A1:=KD t q (by omega) (by omega);have A2:=NW t q (by omega);have bad:∀(u:Tree) (b:Bool),mv t q u b→iV t q u b→(b=true→dv u.kind=false)→∃(t:Tree) (e:Int) (t':Tree),iN p ⟨(m:Int),q⟩ t e∧iZ p ⟨(m:Int),q⟩ t' e∧dc t t' true:=λu b g1 g2 g3=>by
  refine⟨_,5,_,jc 1 _ _ _ _ (⟨true,h8,λh=>(by cases h),λ_=>⟨λh=>absurd h h0,λ_=>⟨λh=>absurd h h1,λ_=>⟨m,rfl,t,ht,u,b,g1,?_⟩⟩⟩⟩),iq 1 _ _ _ _ (⟨true,hR,λh=>(by cases h),λ_=>⟨λh=>absurd h h0,λ_=>⟨λh=>absurd h h1,λ_=>⟨m,rfl,t,ht,u,b,g2,?_⟩⟩⟩⟩),uq⟩
  ·refine nH 0 _ _ _ _ _ _ (⟨λ_=>⟨rfl,rfl⟩,λhb=>⟨λ_=>⟨rfl,rfl⟩,λk1=>⟨λ_=>⟨rfl,rfl⟩,λk2=>⟨λ_=>⟨rfl,rfl⟩,λk3=>?_⟩⟩⟩⟩);exfalso;have :=g3 hb;simp[dv]at this;omega
  ·refine qg 0 _ _ _ _ _ _ (⟨λ_=>⟨rfl,rfl⟩,λhb=>⟨_,tk _,λ_=>⟨rfl,rfl⟩,λk=>?_⟩⟩);rw[g3 hb]at k;cases k
 cases hat:atK t q with
 |none=>
  rw[hat]at A1 A2;exact bad _ false A1 A2 (λh=>(by cases h))
 | some u=>
  rw[hat]at A1 A2;by_cases hu:dv u.kind=true
  ·obtain⟨nm,n2,n3⟩:=OL hp hb ht A1 hu;obtain⟨d,f,r,y,c',e1,e2,e3,e4,e5,e6,e7⟩:=Mr hp hb nm ht hat hu;have hIs:=tk u.kind;rw[hu]at hIs;have ref:∀(r0:Tree) (r1:Int),(c'.Got_Known=false→(Tree.node 0 [] [] [])=r0∧20=r1)→(c'.Got_Known=true→(Tree.node c'.Got_T_Kind c'.Got_T_Text c'.Got_T_Leads c'.Got_T_Kids)=r0∧0=r1)→iZ p ⟨(m:Int),q⟩ r0 r1:=λr0 r1 z1 z2=>by
    have hq0:q[0]?=some (d:Int):=by rw[e1];rfl
    exact iq 1 _ _ _ _ (⟨true,hR,λh=>(by cases h),λ_=>⟨λh=>absurd h h0,λ_=>⟨λh=>absurd h h1,λ_=>⟨m,rfl,t,ht,u,true,A2,qg 0 _ _ _ _ _ _ (⟨λh=>(by cases h),λ_=>⟨true,hIs,λh=>(by cases h),λ_=>⟨λh=>absurd h (by simp only;omega),λ_=>⟨m,rfl,t,ht,(d:Int),hq0,d,rfl,f,e3,λh=>absurd e4 h,λ_=>⟨(d:Int),hq0,y,c',e5,z1,z2⟩⟩⟩⟩⟩)⟩⟩⟩⟩)
   rcases e6 with⟨z1,z2⟩|⟨z1,z2,z3,n,z4,z5⟩
   ·exact⟨_,20,_,n3 z1,ref _ 20 (λ_=>⟨rfl,rfl⟩) (λh=>by
     have h':(goT c').Known=true:=h;rw[z2]at h';cases h'),uq⟩
   ·have hz:¬(eX p nm (m:Int) q).rs=0:=by simp only at z2;omega
    have h3:=n2 n z4 (by simp only at z4;omega);have eo:ofN (eX p nm (m:Int) q)=(lfT (eX p nm (m:Int) q).rs n,0):=by
     unfold ofN;simp only at z4;rw[if_neg hz,z4,Int.toNat_natCast];rfl
    rw[eo]at h3;have hs:=zq (k:=(eX p nm (m:Int) q).rs) (k':=(eX p nm (m:Int) q).rs) (by simp only at z2 z3;omega) (by simp only at z2 z3;omega) n n;rw[decide_eq_true ⟨rfl,rfl⟩]at hs;exact⟨_,0,_,h3,ref _ 0 (λh=>by
     have h':(goT c').Known=false:=h;rw[z1]at h';cases h') (λ_=>⟨z5,rfl⟩),hs⟩
  ·exact bad u true A1 A2 (λ_=>by simpa using hu)
def iU(G p1:List ac)(J:Bool):Prop:=qS 13 [.row 3 (List.map ac.w G),.row 3 (List.map ac.w p1)] (.bool J)
def fD(m:Nat)(J p1:List ac)(a:Nat)(O:Bool):Prop:=∀(K:Ctx) (G:Nat),az K []→m≤G→qLG K f13 (λu _=>u=.bool O) (xH (ai f13)) [.loop (xH (ai f13)) G,.blk 0,.seq (xE (ai f13))] 59 (mkF 59 0 [(0,.row 3 (List.map ac.w J)),(1,.row 3 (List.map ac.w p1)),(5,qi (a:Int))]) ⟨0,[]⟩
theorem rg(m:Nat)(p0 p1:List ac)(r0:Bool)(h:((p0.length≠p1.length)→false=r0)∧((p0.length=p1.length)→fD m p0 p1 0 r0)):iU p0 p1 r0:=by
 refine⟨rfl,rfl,?_⟩;refine qA 59 [] func13 λK hK=>?_;refine gR 10 rfl<|gV 7 (qi (p0.length:Int)) rfl (aI (aH ac.w _)) rfl<|gLB 6 rfl (aH ac.w _) λb=>gR 2 rfl<|gV 9 (qi (p1.length:Int)) rfl (aI (aH ac.w _)) rfl<|gLB 8 rfl (aH ac.w _) λa=>gR 3 rfl<|qXh 10 rfl rfl rfl h xr xh ?_ ?_<;>intro hd h;refine gR 8 rfl ?_;subst h;exact qN [.tmp 4];exact gR 10 rfl<|go_loop m<|qW hK h []
theorem lA(m:Nat)(G p1:List ac)(a:Nat)(J:Bool)(h:((a<G.length)→∃b,G[a]?=some b∧∃c,p1[a]?=some c∧((b.Kind≠c.Kind)→false=J)∧((b.Kind=c.Kind)→∃d,G[a]?=some d∧∃e,p1[a]?=some e∧((d.At.Module≠e.At.Module)→false=J)∧((d.At.Module=e.At.Module)→∃i,G[a]?=some i∧∃j,p1[a]?=some j∧∃g,cD i.At.Path j.At.Path g∧((g=false)→false=J)∧((g=true)→fD m G p1 (a+1) J))))∧((¬a<G.length)→true=J)):fD (m+1) G p1 a J:=by
 refine qj λK Z O t=>?_;refine gR 6 rfl<|gV 13 (qi (G.length:Int)) rfl (aI (aH ac.w _)) rfl<|gLB 12 rfl (aH ac.w _) λr=>gR 3 rfl<|qXh 14 rfl rfl rfl h cr co ?_ ?_<;>intro U h;refine gR 6 rfl<|qDs [] 42 42<|qDr [(0,2),(1,2)] rfl rfl ?_;obtain⟨b,k,h⟩:=h;refine gYd 2 rfl (by kernel_rfl) (aG (aw (f:=ac.w) k) ah rfl rfl rfl rfl) rfl rfl<|qDr (qR 3 3 2 [(6,0)]) rfl rfl ?_;obtain⟨c,l,h⟩:=h;refine bU 7 rfl (by kernel_rfl) (aG (aw (f:=ac.w) l) ah rfl rfl rfl rfl) rfl rfl ?_;refine qDr (qR 8 4 0 []) rfl rfl<|qXhZ 28 27 rfl rfl rfl rfl h dq ce ?_ ?_<;>intro U h;refine qDr (qR 12 7 2 (qR 19 8 0 (qR 27 7 2 (qR 34 8 0 [])))) rfl rfl<|qDe<|gR 2 rfl<|go_sub (F':=(mkF 59 0 [])) (H':=⟨0,[]⟩) [] [] rfl O trivial trivial rfl<|gR 8 rfl<|go_xloopR<|gR 2 rfl ?_;subst h;exact qN [.tmp 4];refine qDr [(12,2),(13,2)] rfl rfl ?_;obtain⟨d,n,h⟩:=h;refine gYd 14 rfl (by kernel_rfl) (aG (aw (f:=ac.w) n) ah rfl rfl rfl rfl) rfl rfl<|qDr (qR 15 4 2 [(19,0)]) rfl rfl ?_;obtain⟨e,o,h⟩:=h;refine bU 20 rfl (by kernel_rfl) (aG (aw (f:=ac.w) o) ah rfl rfl rfl rfl) rfl rfl ?_;refine qDr (qR 21 6 0 []) rfl rfl<|qXhZ 43 42 rfl rfl rfl rfl h dq ce ?_ ?_<;>intro U h;refine qDr (qR 27 7 2 (qR 34 8 0 [])) rfl rfl<|qDe<|gR 2 rfl<|go_sub (F':=(mkF 59 0 [])) (H':=⟨0,[]⟩) [] [] rfl O trivial trivial rfl<|gR 8 rfl<|go_xloopR<|gR 2 rfl ?_;subst h;exact qN [.tmp 4];refine qDr [(27,2),(28,2)] rfl rfl ?_;obtain⟨i,p,h⟩:=h;refine gYd 29 rfl (by kernel_rfl) (aG (aw (f:=ac.w) p) ah rfl rfl rfl rfl) rfl rfl<|qDr (qR 30 4 2 [(34,0)]) rfl rfl ?_;obtain⟨j,q,h⟩:=h;refine bU 35 rfl (by kernel_rfl) (aG (aw (f:=ac.w) q) ah rfl rfl rfl rfl) rfl rfl ?_;refine qDr (qR 36 3 0 []) rfl rfl ?_;obtain⟨g,s,h⟩:=h;refine eU 39 s (by kernel_rfl) rfl (by kernel_rfl) rfl rfl .rfl rfl rfl ?_;refine qDr [(40,0),(41,0)] rfl rfl<|qDe<|gR 1 rfl<|qXh 58 rfl rfl rfl h bt br ?_ ?_<;>intro U h;refine gR 1 rfl<|go_sub (F':=(mkF 59 0 [])) (H':=⟨0,[]⟩) [] [] rfl O trivial trivial rfl<|gR 8 rfl<|go_xloopR<|gR 2 rfl ?_;subst h;exact qN [.tmp 4];exact gR 7 rfl<|gV 16 (qi ((a+1:Nat):Int)) rfl (al (by have :=r;omega) (by omega)) rfl<|gR 2 rfl<|go_xloop<|qW O h [];refine gR 3 rfl<|go_xloopE<|gR 8 rfl ?_;subst h;exact qN [.tmp 4]
def lR(G:List Tree)(p1:bw)(J:Bool):Prop:=qS 3 [.row 4 (kidsV G),.agg (bw.c p1)] (.bool J)
theorem qr(m:Nat)(J:List Tree)(p1:bw)(G:Bool)(h:∃f,jE (Tree.node 0 [] [] J) f∧((200<f)→∃k,gk k∧k=G)∧((¬200<f)→∃g,jp (Tree.node 0 [] [] J) g∧((12<g)→∃l,gk l∧l=G)∧((¬12<g)→((60<(p1.Path.length:Int))→∃n,gk n∧n=G)∧((¬60<(p1.Path.length:Int))→∃o i,iN J p1 o i∧∃p j,iZ J p1 p j∧∃b,gk b∧((b=true)→((i=j)→∃c,dc o p c∧((c=true)→∃a,fR J a∧∃d,lh J d∧∃e,iU a d e∧e=G)∧((c=false)→false=G))∧((i≠j)→false=G))∧((b=false)→false=G))))):lR J p1 G:=by
 refine⟨rfl,rfl,?_⟩;refine qA 56 [] func3 λK O=>?_;refine gR 3 rfl<|gFP 0 rfl rfl rfl rfl<|gR 8 rfl ?_;obtain⟨f,q,h⟩:=h;refine gC0 q (by kernel_rfl) rfl rfl (.cons (.agg (.cons .rfl (.cons .rfl (.cons (.nil 1) (.cons .rfl .nil))))) .nil) rfl<|gR 2 rfl<|qBdZ 13 12 rfl rfl rfl rfl h ?_ ?_<;>intro h;refine gR 16 rfl ?_;obtain⟨k,r,h⟩:=h;refine qC0 r rfl<|gR 5 rfl ?_;subst h;exact qN [.tmp 4];refine gR 2 rfl ?_;obtain⟨g,s,h⟩:=h;refine gC0 s (by kernel_rfl) rfl rfl (.cons (.agg (.cons .rfl (.cons .rfl (.cons (.nil 1) (.cons .rfl .nil))))) .nil) rfl<|gR 3 rfl<|qBdZ 19 18 rfl rfl rfl rfl h ?_ ?_<;>intro h;refine gR 10 rfl ?_;obtain⟨l,t,h⟩:=h;refine qC0 t rfl<|gR 5 rfl ?_;subst h;exact qN [.tmp 4];refine gR 3 rfl<|gV 22 (qi (p1.Path.length:Int)) rfl (aI (aH (V.int .i64) _)) rfl<|gLB 21 rfl (aH (V.int .i64) _) λε=>gR 4 rfl<|qBd 24 rfl rfl rfl h ?_ ?_<;>intro h;refine gR 3 rfl ?_;obtain⟨n,v,h⟩:=h;refine qC0 v rfl<|gR 5 rfl ?_;subst h;exact qN [.tmp 4];refine gR 7 rfl ?_;obtain⟨o,i,x,h⟩:=h;refine qC0 x rfl<|gR 12 rfl ?_;obtain⟨p,j,y,h⟩:=h;refine qC0 y rfl<|gR 10 rfl ?_;obtain⟨b,z,h⟩:=h;refine qC0 z rfl<|gR 1 rfl<|qBiZ 39 38 rfl rfl rfl rfl h ?_ ?_<;>intro h;refine gR 5 rfl<|qBeZ 44 43 rfl rfl rfl rfl h ?_ ?_<;>intro h;refine gR 2 rfl ?_;obtain⟨c,α,h⟩:=h;refine qC0 α rfl<|gR 2 rfl<|qBiZ 49 48 rfl rfl rfl rfl h ?_ ?_<;>intro h;refine gR 1 rfl ?_;obtain⟨a,β,h⟩:=h;refine qC β [] ?_;refine gHR 3 (List.map ac.w a) rfl (vG _ a) rfl<|gR 1 rfl ?_;obtain⟨d,γ,h⟩:=h;refine qC0 γ rfl<|gFR 3 rfl (lV _ (λ_=>rfl) _) rfl rfl ?_;obtain⟨e,δ,h⟩:=h;refine qC0 δ rfl<|gR 5 rfl ?_;subst h;exact qN [.tmp 4];refine gR 10 rfl ?_;subst h;exact qN [.tmp 4];refine gR 15 rfl ?_;subst h;exact qN [.tmp 4];refine gR 20 rfl ?_;subst h;exact qN [.tmp 4]
theorem IV:tbulk nc≤1000000000:=by decide+kernel
theorem IX:(atK nc [0,1]).isSome=true:=by decide+kernel
theorem Ld:mv nc [0,1] Ny true:=by
 have h:=KD nc [0,1] IV (by decide);rw[IX]at h;exact h
theorem Kc:oe true:=by
 obtain⟨nm,_,U⟩:=(ym Bu).2 Ca;have Z:fR [nc] [⟨⟨0,[0,1,1]⟩,6⟩,⟨⟨0,[1,2,2]⟩,3⟩]:=U _ (by
  rw[NQ nm];refine Bf (by decide) (λx hx=>?_) (List.Perm.refl _) (List.pairwise_cons.2 ⟨λy hy=>?_,List.pairwise_singleton _ _⟩)
  ·simp only[List.mem_cons,List.not_mem_nil,or_false]at hx;rcases hx with rfl|rfl<;>decide
  ·simp only[List.mem_singleton]at hy;subst hy;unfold leE;decide)
 obtain⟨G,_,J⟩:=Pm (m:=0) (q:=[0,1]) Ca Bu rfl Ld Nr;have O:=J 0 (Dm G).2 (by decide);have e3:ofN (eX [nc] G ((0:Nat):Int) [0,1])=(.node 5 [] [] [],0):=by
  unfold ofN;rw[show(eX [nc] G ((0:Nat):Int) [0,1]).rs=5 from(Dm G).1,show(eX [nc] G ((0:Nat):Int) [0,1]).rl=0 from(Dm G).2];rfl
 rw[e3]at O;exact tF 0 _ (⟨nc,0,0,Lp LO,_,Z,_,_,O,λ_=>⟨λ_=>⟨λ_=>⟨λ_=>⟨_,rfl,λ_=>⟨_,rfl,_,uW _,λ_=>⟨_,rfl,λ_=>⟨_,rfl,_,uW _,rfl⟩,λh=>absurd rfl h⟩,λh=>(by cases h)⟩,λh=>absurd rfl h⟩,λh=>absurd rfl h⟩,λh=>absurd rfl h⟩,λh=>absurd rfl h⟩,λh=>absurd rfl h⟩)
theorem AJ:gk true:=Kc
theorem FY(l:List ac)(G:l.length≤1000000000):iU l l true:=by
 have loop:∀k i,k+i=l.length→fD (k+1) l l i true:=λk=>by
  induction k with
  |zero=>
   intro i hi;exact lA 0 _ _ _ _ (⟨λh=>absurd h (by omega),λ_=>rfl⟩)
  |succ k ih=>
   intro i hi;obtain⟨x,hx⟩:∃x,l[i]?=some x:=⟨_,List.getElem?_eq_getElem (by omega)⟩;exact lA (k+1) _ _ _ _ (⟨λ_=>⟨x,hx,x,hx,λh=>absurd rfl h,λ_=>⟨x,hx,x,hx,λh=>absurd rfl h,λ_=>⟨x,hx,x,hx,true,uW _,λh=>(by cases h),λ_=>ih (i+1) (by omega)⟩⟩⟩,λh=>absurd (by omega) h⟩)
 exact rg (l.length+1) _ _ _ (⟨λh=>absurd rfl h,λ_=>loop l.length 0 (by omega)⟩)
theorem KM:∀t:Tree,tbulk t≤1000000000→∃n:Int,jE t n∧0≤n∧n≤tbulk t:=eY λt ih hb=>by
 have he:=bp t;have loop:∀(k i:Nat) (z:Int),k+i=t.kids.length→0≤z→z+kbulk (t.kids.drop i)≤tbulk t→∃n:Int,jl (k+1) t z i n∧0≤n∧n≤tbulk t:=λk=>by
  induction k with
  |zero=>
   intro i z hi G h1;exact⟨z,oO 0 _ _ _ _ (⟨λh=>absurd h (by omega),λ_=>rfl⟩),G,by omega⟩
  |succ k O=>
   intro i z hi G h1;obtain⟨u,J⟩:∃u,t.kids[i]?=some u:=⟨_,dn (by omega)⟩;have hbu:=ax J;obtain⟨n,U,hn0,hn1⟩:=ih i u J (by omega);rw[aJ J,kbulk]at h1;obtain⟨r,hr,Z,hr1⟩:=O (i+1) (z+n) (by omega) (by omega) (by omega);exact⟨r,oO (k+1) _ _ _ _ (⟨λ_=>⟨u,J,n,U,⟨by omega,by omega⟩,hr⟩,λh=>absurd (by omega) h⟩),Z,hr1⟩
 obtain⟨n,U,G,h1⟩:=loop t.kids.length 0 1 (by omega) (by omega) (by rw[List.drop_zero];omega);exact⟨n,vm _ _ _ (U),G,h1⟩
theorem JH:∀t:Tree,tbulk t≤1000000000→∃n:Int,jp t n∧0≤n∧n≤tbulk t:=eY λt ih hb=>by
 have he:=bp t;have loop:∀(k i:Nat) (z:Int),k+i=t.kids.length→0≤z→z+1≤tbulk t→∃n:Int,it (k+1) t z i n∧0≤n∧n≤tbulk t:=λk=>by
  induction k with
  |zero=>
   intro i z hi G h1;exact⟨z+1,od 0 _ _ _ _ (⟨λh=>absurd h (by omega),λ_=>⟨⟨by omega,by omega⟩,rfl⟩⟩),by omega,by omega⟩
  |succ k J=>
   intro i z hi G h1;obtain⟨u,O⟩:∃u,t.kids[i]?=some u:=⟨_,dn (by omega)⟩;have hbu:=ax O;obtain⟨n,U,hn0,hn1⟩:=ih i u O (by omega);obtain⟨r,hr,Z,hr1⟩:=J (i+1) (max z n) (by omega) (by omega) (by omega);exact⟨r,od (k+1) _ _ _ _ (⟨λ_=>⟨u,O,n,U,hr⟩,λh=>absurd (by omega) h⟩),Z,hr1⟩
 obtain⟨n,U,G,h1⟩:=loop t.kids.length 0 0 (by omega) (by omega) (by omega);exact⟨n,uH _ _ _ (U),G,h1⟩
theorem Mg(p:List Tree)(x:bw)(hb:kbulk p≤10000000):lR p x true:=by
 have G:tbulk (.node 0 [] [] p)≤1000000000:=by simp only[tbulk,po,List.length_nil];omega
 obtain⟨n,s1,_⟩:=KM _ G;obtain⟨d,J,_⟩:=JH _ G;refine qr 0 _ _ _ (⟨n,s1,λ_=>⟨true,AJ,rfl⟩,λ_=>⟨d,J,λ_=>⟨true,AJ,rfl⟩,λ_=>⟨λ_=>⟨true,AJ,rfl⟩,λh=>?_⟩⟩⟩);obtain⟨t,e,O,U,Z,g3⟩:=KZ hb x (by omega);obtain⟨r,e1,e2,e3⟩:=DG hb;exact⟨t,e,U,O,e,Z,true,AJ,λ_=>⟨λ_=>⟨true,g3,λ_=>⟨r,e1,r,e2,true,FY r (by omega),rfl⟩,λh=>(by cases h)⟩,λh=>absurd rfl h⟩,λh=>(by cases h)⟩
abbrev nI(W:World):Nat→Prop:=λb=>b<W.heap.size
variable{W:World}
theorem RowIn.live{sz n:Nat}{xs:List Value}(h:RowIn Any W sz A n xs):RowIn (nI W) W sz A n xs:=⟨h.1,λJ=>by
 obtain⟨b,off,h1,_,G,O⟩:=h.2 J;exact⟨b,off,h1,G,G,O⟩⟩
mutual
theorem TreeIs.live{W:World}:∀{t:Tree} {c:List Value},TreeIs Any W t c→TreeIs (nI W) W t c
 |.node k s ls ks,c,h=>by
  simp only[TreeIs]at h⊢;obtain⟨A,m,B,n,h1,h2,h3,h4,h5,h6,cs,h7,h8⟩:=h;exact⟨A,m,B,n,h1,h2,h3,h4,h5,h6.live,cs,KidsAre.live h7,h8.live⟩
theorem KidsAre.live{W:World}:∀{ts:List Tree} {cs:List Value},KidsAre Any W ts cs→KidsAre (nI W) W ts cs
 |[],cs,h=>by simp only[KidsAre]at h⊢;exact h
 |t::r,cs,h=>by
  simp only[KidsAre]at h⊢;obtain⟨c,d,h1,h2,h3⟩:=h;exact⟨c,d,h1,TreeIs.live h2,KidsAre.live h3⟩
end
abbrev rj(W:World)(v:V)(x:Value):Prop:=VRel (nI W) W (λ_=>none) v x
theorem Pd{ts:List Tree}{cap:Nat}(h:KidsAre Any W ts cs)(hr:RowIn Any W 4 A ts.length cs)(G:ts.length≤cap)(J:cap≤maxLen):rj W (.row 4 (kidsV ts)) (.slice A ts.length cap):=by
 simp only[rj,VRel];exact⟨A,cap,cs,by rw[gI],by rw[gI];exact G,J,KidsAre.crel h.live,by rw[gI];exact hr.live⟩
theorem Fc{l:List Int}{cap:Nat}(G:l.length≤cap)(J:cap≤maxLen)(hr:RowIn Any W 1 A l.length (l.map λz=>.int .i64 z)):rj W (.row 1 (l.map (V.int .i64))) (.slice A l.length cap):=by
 simp only[rj,VRel];exact⟨A,cap,_,by simp,by simpa using G,J,Dv l,by simpa using hr.live⟩
theorem PB{fid:FuncId}{us:List V}{b:Bool}(h:qF prog fid us (.bool b))(G:∀p∈wt,VRel (nI W) W ρ0 (.box p.2 0) (.pointer (some ⟨p.1,0,none⟩)):=by exact λp Z=>nomatch Z){xs:List Value}(hx:LRel (nI W) W (λ_=>none) us xs):Calls prog fid xs.toArray W λe W'=>e=.returned (.bool b)∧Ext W W':=by
 have J:HRel (nI W) W (λ_=>none) (⟨0,[]⟩:Hp).get:=Kw ⟨λ_ h=>h,G⟩;refine(h.2.2 _ W _ xs J hx).mono ?_;rintro e W' ⟨x,S',ρ',v,H',rfl,rfl,h1,h2,U⟩;simp only[VRel]at U;subst U;have O:∀b,¬∃id,own (λ_=>none) id ((⟨0,[]⟩:Hp).get id) b:=λb ⟨id,hb⟩=>by rw[vx]at hb;exact hb
 exact⟨rfl,Chg.ext ⟨h2.chg.os,h2.chg.tape,h2.chg.output,h2.chg.size,λb hb _=>h2.chg.block b hb (O b)⟩⟩
theorem lr1{u:V}{x:Value}(h:rj W u x):LRel (nI W) W (λ_=>none) [u] [x]:=⟨x,[],rfl,h,rfl⟩
theorem lrc{u:V}{us:List V}{x:Value}{xs:List Value}(h:rj W u x)(k:LRel (nI W) W (λ_=>none) us xs):LRel (nI W) W (λ_=>none) (u::us) (x::xs):=⟨x,xs,rfl,h,k⟩
open Go.RowKit Lx Sx Go.ChangeShapes Go.WideShapes Go.Deep Go.Joins
instance:Inhabited Tree:=⟨kP⟩
theorem uJ:prog.cellsOf 29=4:=by kernel_rfl
theorem GU:prog.cellsOf 3=1:=by kernel_rfl
theorem zY:prog.cellsOf 9=1:=by kernel_rfl
theorem Jl:prog.cellsOf 27=1:=by kernel_rfl
theorem Jg:prog.cellsOf 22=1:=by kernel_rfl
theorem HJ{l:List α}(h:l.length=4):∃a b c d,l=[a,b,c,d]:=by
 match l,h with
 |[a,b,c,d],_=>exact⟨a,b,c,d,rfl⟩
theorem zR{α:Type}{c:Nat→List α}:∀(l:List Nat) (i r:Nat),(∀j∈l,(c j).length=4)→r<4→(l.flatMap c)[i*4+r]?=(l[i]?).bind λj=>(c j)[r]?
 |[],i,r,_,_=>by simp
 |j::l,0,r,h,hr=>by
  have :=h j (by simp);rw[List.flatMap_cons,List.getElem?_append_left (by omega)];simp
 |j::l,i+1,r,h,hr=>by
  have J:=h j (by simp);rw[List.flatMap_cons,List.getElem?_append_right (by omega),show(i+1)*4+r-(c j).length=i*4+r by omega,zR l i r (λq G=>h q (by simp[G])) hr];simp
section
variable{H:Type}{enc:TypeId×Value→H}{W:World}
theorem tS(b off k:Nat):(⟨b,off,none⟩:Addr).add k=⟨b,off+k,none⟩:=by unfold Addr.add;split<;>simp_all
theorem vu{g:Nat→Tree}{D:Nat→DataW H}:∀(l:List Nat),(∀i∈l,tbulk (g i)≤Rows.uptoBulk (D i))→kbulk (l.map g)≤Rows.uptoBulkAll (l.map D)
 |[],_=>by simp[kbulk,Rows.uptoBulkAll]
 |i::l,h=>by
  have :=vu l (λj G=>h j (by simp[G]));have :=h i (by simp);simp only[List.map_cons,kbulk,Rows.uptoBulkAll];omega
theorem BU{g:Nat→List UInt8}{D:Nat→DataW H}:∀(l:List Nat),(∀i∈l,D i=.lit (.string (g i)))→po (l.map g)≤Rows.uptoBulkAll (l.map D)
 |[],_=>by simp[po,Rows.uptoBulkAll]
 |i::l,h=>by
  have :=BU l (λj G=>h j (by simp[G]));have :=h i (by simp);simp only[List.map_cons,po,Rows.uptoBulkAll,this,Rows.uptoBulk];omega
theorem sr{g:Nat→Tree}{c:Nat→List Value}:∀(l:List Nat),(∀i∈l,TreeIs Any W (g i) (c i))→KidsAre Any W (l.map g) (l.flatMap c)
 |[],_=>rfl
 |i::l,h=>by
  simp only[List.map_cons,List.flatMap_cons,KidsAre];exact⟨c i,l.flatMap c,rfl,h i (by simp),sr l (λj G=>h j (by simp[G]))⟩
theorem Lb{n:Nat}{v:Value}{x:DataW H×List MemPlace}(h:DataW.trod enc prog W 0 (λ_=>true) true n 27 [v]=some x):
  ∃(ls:List (List UInt8)) (A:Option Addr) (m:Nat),v=.slice A ls.length m∧ls.length≤m∧m≤maxLen∧RowIn Any W 1 A ls.length (ls.map eW)∧po ls≤Rows.uptoBulk x.1:=by
 rcases open_slice underlying27 h with⟨G,hx⟩|⟨a,len,cap,m,n',D,Pl,G,hb,hl,hm,J,hx,hi⟩
 ·simp only[List.cons.injEq,and_true]at G;exact⟨[],none,0,G,Nat.le_refl _,by simp[maxLen],RowIn.none_,by simp[po]⟩
 ·simp only[List.cons.injEq,and_true]at G;simp only[if_true]at J;subst J G;rw[zY]at hi;obtain⟨T,O⟩:=choose_lt (α:=List UInt8) (p:=λi t=>W.cell? (a.add i)=some (eW t)∧D i=.lit (.string t)) (n:=m) (λi U=>by
   obtain⟨cs',hc,ht⟩:=hi i U;obtain⟨s,e1,f1,_⟩:=DataW.trod_string underlying9 ht;subst e1;refine⟨s.data.toList,?_,by have :=congrArg Prod.fst f1;simpa using this⟩;have :=(World.cells?_some hc).2.2 0 (by omega);simpa[Addr.add]using this)
  refine⟨(List.range len).map T,some a,m,by simp,by simpa using hl,hm,⟨by simp,λh0=>?_⟩,?_⟩
  ·simp only[List.length_map,List.length_range]at h0⊢;have hs:a.spot=none:=World.cell?_spot (a:=a) (by have :=(O 0 (by omega)).1;simpa[Addr.add]using this);obtain⟨b,off,spot⟩:=a;simp only at hs;subst hs;refine⟨b,off,rfl,trivial,?_,λj hj=>?_⟩
   ·have :=(O 0 (by omega)).1;exact World.block_lt_of_cell? W ⟨b,off,none⟩ (by simpa[Addr.add]using this)
   ·have :=(O j (by omega)).1;rw[tS]at this;rw[this];simp[show j<len by omega]
  ·rw[hx];have :=BU (g:=T) (D:=D) (List.range len) (λi Z=>(O i (by have :=List.mem_range.1 Z;omega)).2);simp only[Rows.uptoBulk];omega
theorem Ea:∀(q n:Nat) (cs:List Value) (x:DataW H×List MemPlace),Rows.uptoBulk x.1≤q→DataW.trod enc prog W 0 (λ_=>true) true n 29 cs=some x→∃t,TreeIs Any W t cs∧tbulk t≤Rows.uptoBulk x.1
 | q, n,cs,x,hq,h=>by
  obtain⟨y0,y1,y2,y3,n',hx,hl,h0,h1,h2,h3⟩:=trod_struct4 underlying29 h;rw[uJ]at hl;obtain⟨v0,v1,v2,v3,rfl⟩:=HJ hl;simp only[GU,zY,Jl,Jg,List.drop_zero,List.drop_succ_cons,List.take_succ_cons,List.take_zero]at h0 h1 h2 h3;obtain⟨k,e0,f0,_⟩:=DataW.trod_int underlying3 h0;obtain⟨s1,e1,f1,_⟩:=DataW.trod_string underlying9 h1;obtain⟨ls,A,m,e2,l1,l2,l3,l4⟩:=Lb h2;simp only[List.cons.injEq,and_true]at e0 e1;have hbk:Rows.uptoBulk x.1=Rows.uptoBulk y0.1+(Rows.uptoBulk y1.1+(Rows.uptoBulk y2.1+(Rows.uptoBulk y3.1+0)))+1:=by rw[hx];simp only[Rows.uptoBulk,Rows.uptoBulkAll]
  have hs1:Rows.uptoBulk y1.1=s1.data.toList.length+1:=by
   have :y1.1=.lit (.string s1.data.toList):=by rw[f1]
   rw[this];rfl
  have go:∃(ks:List Tree) (B:Option Addr) (c:Nat) (cells:List Value),v3=.slice B ks.length c∧ks.length≤c∧c≤maxLen∧KidsAre Any W ks cells∧RowIn Any W 4 B ks.length cells∧kbulk ks≤Rows.uptoBulk y3.1:=by
   rcases open_slice underlying22 h3 with⟨hcs,hx3⟩|⟨a,len,cap,m3,n3,D,Pl,hcs,hb,hl3,hm3,hmm,hx3,hi⟩
   ·simp only[List.cons.injEq,and_true]at hcs;exact⟨[],none,0,[],hcs,Nat.le_refl _,by simp[maxLen],rfl,RowIn.none_,by simp[kbulk]⟩
   ·simp only[List.cons.injEq,and_true]at hcs;simp only[if_true]at hmm;subst hmm hcs;rw[uJ]at hi;have hall:Rows.uptoBulk y3.1=Rows.uptoBulkAll ((List.range len).map D)+Rows.uptoBulkAll ((List.range (m3-len)).map λj=>D (len+j))+1:=by rw[hx3];simp only[Rows.uptoBulk]
    have hle:∀(l:List Nat) i,i∈l→Rows.uptoBulk (D i)≤Rows.uptoBulkAll (l.map D):=by
     intro l i hi'
     induction l with
     |nil=>cases hi'
     |cons j r ih=>
      simp only[List.map_cons,Rows.uptoBulkAll];rcases List.mem_cons.1 hi' with e|e
      ·subst e;omega
      ·have :=ih e;omega
    obtain⟨T,hT⟩:=choose_lt (α:=Tree×List Value) (p:=λi t=>i<len→W.cells? 0 (a.add (i*4)) 4=some t.2∧TreeIs Any W t.1 t.2∧tbulk t.1≤Rows.uptoBulk (D i)) (n:=m3) (λi him=>by
     by_cases hil:i<len
     ·obtain⟨cs',hc,ht⟩:=hi i him;have hb1:=hle (List.range len) i (by simp[hil]);obtain⟨t,g1,g2⟩:=Ea (q-1) n3 cs' (D i,Pl i) (by simp only;omega) ht;exact⟨(t,cs'),λ_=>⟨hc,g1,g2⟩⟩
     ·exact⟨(kP,[]),λh=>absurd h hil⟩)
    have hTl:∀i,i∈List.range len→W.cells? 0 (a.add (i*4)) 4=some (T i).2∧TreeIs Any W (T i).1 (T i).2∧tbulk (T i).1≤Rows.uptoBulk (D i):=λi hi'=>by
     have :=List.mem_range.1 hi';exact hT i (by omega) this
    refine⟨(List.range len).map λi=>(T i).1,some a,m3,(List.range len).flatMap λi=>(T i).2,by simp,by simpa using hl3,hm3,sr _ (λi hi'=>(hTl i hi').2.1),⟨?_,λh0=>?_⟩,?_⟩
    ·have :=(sr (W:=W) (g:=λi=>(T i).1) (c:=λi=>(T i).2) (List.range len) (λi hi'=>(hTl i hi').2.1)).length;rw[this]
    ·simp only[List.length_map,List.length_range]at h0⊢;have hcell:∀i,i<len→∀r,r<4→W.cell? ((a.add (i*4)).add r)=(T i).2[r]?:=λi hi' r hr=>by
      have h4:=(hTl i (by simp[hi'])).2.1.four;have :=(World.cells?_some (hTl i (by simp[hi'])).1).2.2 r (by omega);rw[this]
     have hsome:∃v,W.cell? a=some v:=by
      have h4:=(hTl 0 (by simp[h0])).2.1.four;have :=hcell 0 h0 0 (by omega);refine⟨(T 0).2[0]'(by omega),?_⟩;rw[List.getElem?_eq_getElem (by omega)]at this;simpa[Addr.add]using this
     obtain⟨vv,hvv⟩:=hsome;have hs:a.spot=none:=World.cell?_spot (a:=a) hvv;obtain⟨b,off,spot⟩:=a;simp only at hs;subst hs;refine⟨b,off,rfl,trivial,World.block_lt_of_cell? W ⟨b,off,none⟩ hvv,λj hj=>?_⟩;have e:=hcell (j/4) (by omega) (j%4) (by omega);rw[tS,tS,show off+j/4*4+j%4=off+j by omega]at e;have e2:=zR (c:=λi=>(T i).2) (List.range len) (j/4) (j%4) (λi hi'=>(hTl i hi').2.1.four) (by omega);rw[show j/4*4+j%4=j by omega]at e2;rw[e,e2];simp[show j/4<len by omega]
    ·have :=vu (g:=λi=>(T i).1) (D:=D) (List.range len) (λi hi'=>(hTl i hi').2.2);omega
  obtain⟨ks,B,c,cells,e3,k1,k2,k3,k4,k5⟩:=go;refine⟨.node k s1.data.toList ls ks,?_,?_⟩
  ·subst e0 e1 e2 e3;simp only[TreeIs];exact⟨A,m,B,c,by simp,l1,l2,k1,k2,l3,cells,k3,k4⟩
  ·simp only[tbulk];omega
 termination_by q=>q
 decreasing_by omega
end
open Go.RowKit Go.ChangeShapes Go.WideShapes Go.Deep Go.Joins
open Lx Sx
section
variable{H:Type}{enc:TypeId×Value→H}{W:World}
theorem Ox{v:Value}{d:DataW H}{p:List MemPlace}(h:DataW.Trod enc prog W 0 (λ_=>true) true 22 v d p):v.cells.toList=[v]→∃(ks:List Tree) (B:Option Addr) (c:Nat) (cells:List Value),v=.slice B ks.length c∧ks.length≤c∧c≤maxLen∧KidsAre Any W ks cells∧RowIn Any W 4 B ks.length cells∧kbulk ks≤Rows.uptoBulk d:=λhv=>by
 obtain⟨fuel,h3⟩:=h;rw[hv]at h3;rcases open_slice underlying22 h3 with⟨O,U⟩|⟨a,len,cap,m3,n3,D,Pl,O,hb,hl3,hm3,Z,U,hi⟩
 ·simp only[List.cons.injEq,and_true]at O;exact⟨[],none,0,[],O,Nat.le_refl _,by simp[maxLen],rfl,RowIn.none_,by simp[kbulk]⟩
 ·simp only[List.cons.injEq,and_true]at O;simp only[if_true]at Z;subst Z O;rw[uJ]at hi;have hall:Rows.uptoBulk d=Rows.uptoBulkAll ((List.range len).map D)+Rows.uptoBulkAll ((List.range (m3-len)).map λj=>D (len+j))+1:=by
   have :d=_:=congrArg Prod.fst U;rw[this];simp only[Rows.uptoBulk]
  obtain⟨T,hT⟩:=choose_lt (α:=Tree×List Value) (p:=λi t=>i<len→W.cells? 0 (a.add (i*4)) 4=some t.2∧TreeIs Any W t.1 t.2∧tbulk t.1≤Rows.uptoBulk (D i)) (n:=m3) (λi him=>by
   by_cases hil:i<len
   ·obtain⟨cs',hc,ht⟩:=hi i him;obtain⟨t,g1,g2⟩:=Ea _ n3 cs' (D i,Pl i) (Nat.le_refl _) ht;exact⟨(t,cs'),λ_=>⟨hc,g1,g2⟩⟩
   ·exact⟨(kP,[]),λh=>absurd h hil⟩)
  have J:∀i,i∈List.range len→W.cells? 0 (a.add (i*4)) 4=some (T i).2∧TreeIs Any W (T i).1 (T i).2∧tbulk (T i).1≤Rows.uptoBulk (D i):=λi G=>by
   have :=List.mem_range.1 G;exact hT i (by omega) this
  refine⟨(List.range len).map λi=>(T i).1,some a,m3,(List.range len).flatMap λi=>(T i).2,by simp,by simpa using hl3,hm3,sr _ (λi G=>(J i G).2.1),⟨?_,λh0=>?_⟩,?_⟩
  ·have :=(sr (W:=W) (g:=λi=>(T i).1) (c:=λi=>(T i).2) (List.range len) (λi G=>(J i G).2.1)).length;rw[this]
  ·simp only[List.length_map,List.length_range]at h0⊢;have hcell:∀i,i<len→∀r,r<4→W.cell? ((a.add (i*4)).add r)=(T i).2[r]?:=λi G r hr=>by
    have h4:=(J i (by simp[G])).2.1.four;have :=(World.cells?_some (J i (by simp[G])).1).2.2 r (by omega);rw[this]
   have hsome:∃v,W.cell? a=some v:=by
    have h4:=(J 0 (by simp[h0])).2.1.four;have :=hcell 0 h0 0 (by omega);refine⟨(T 0).2[0]'(by omega),?_⟩;rw[List.getElem?_eq_getElem (by omega)]at this;simpa[Addr.add]using this
   obtain⟨vv,hvv⟩:=hsome;have hs:a.spot=none:=World.cell?_spot (a:=a) hvv;obtain⟨b,off,spot⟩:=a;simp only at hs;subst hs;refine⟨b,off,rfl,trivial,World.block_lt_of_cell? W ⟨b,off,none⟩ hvv,λj hj=>?_⟩;have e:=hcell (j/4) (by omega) (j%4) (by omega);rw[tS,tS,show off+j/4*4+j%4=off+j by omega]at e;have e2:=zR (c:=λi=>(T i).2) (List.range len) (j/4) (j%4) (λi G=>(J i G).2.1.four) (by omega);rw[show j/4*4+j%4=j by omega]at e2;rw[e,e2];simp[show j/4<len by omega]
  ·have :=vu (g:=λi=>(T i).1) (D:=D) (List.range len) (λi G=>(J i G).2.2);omega
end
theorem xb:prog.cellsOf 3=1:=by kernel_rfl
theorem DJ:prog.cellsOf 23=1:=by kernel_rfl
theorem FC:prog.cellsOf 25=2:=by kernel_rfl
theorem KO{v a b:Value}(h:v.cells=#[a,b]):v=.agg #[a,b]:=by
 cases v<;>simp_all[Value.cells]
theorem Oi{H:Type}{enc:TypeId×Value→H}{v:Value}{d:DataW H}{p:List MemPlace}(h:DataW.Trod enc prog W 0 (λ_=>true) true 25 v d p):∃q:bw,rj W (.agg (bw.c q)) v:=by
 obtain⟨fuel,hf⟩:=h;obtain⟨y0,y1,n',hx,hl,J,h1⟩:=trod_struct2 underlying25 hf;rw[FC]at hl;obtain⟨v0,v1,e⟩:∃v0 v1,v.cells.toList=[v0,v1]:=by
  match v.cells.toList,hl with
  |[a,b],_=>exact⟨a,b,rfl⟩
 rw[e]at J h1;simp only[xb,DJ,List.drop_zero,List.drop_succ_cons,List.take_succ_cons,List.take_zero]at J h1;obtain⟨k,e0,f0,_⟩:=DataW.trod_int underlying3 J;simp only[List.cons.injEq,and_true]at e0;have O:∃zs:List Int,rj W (.row 1 (zs.map (V.int .i64))) v1:=by
  rcases open_ints underlying23 underlying3 xb h1 with⟨G,hx⟩|⟨a,len',cap',zs,G,hb,hl,hm,U,hx,hcell,hwf⟩
  ·simp only[List.cons.injEq,and_true]at G;subst G;exact⟨[],Fc (l:=[]) (A:=none) (cap:=0) (Nat.le_refl _) (Nat.zero_le _) RowIn.none_⟩
  ·simp only[List.cons.injEq,and_true]at G;subst G;simp only[if_true]at U;have Z:(zs.take len').length=len':=by simp;omega
   have hr:RowIn Any W 1 (some a) (zs.take len').length ((zs.take len').map λz=>.int .i64 z):=by
    refine⟨by simp,λJ=>?_⟩;rw[Z]at J⊢;have hs:a.spot=none:=World.cell?_spot (a:=a) (by have :=hcell 0 (by omega);simpa[Addr.add]using this);obtain⟨b,off,spot⟩:=a;simp only at hs;subst hs;have hadd:∀k,(⟨b,off,none⟩:Addr).add k=⟨b,off+k,none⟩:=λk=>by unfold Addr.add;split<;>simp_all
    refine⟨b,off,rfl,trivial,?_,λj hj=>?_⟩
    ·have :=hcell 0 (by omega);exact World.block_lt_of_cell? W ⟨b,off,none⟩ (by simpa[Addr.add]using this)
    ·have hj':j<len':=by omega
     have :=hcell j (by omega);rw[hadd]at this;rw[this];simp[hj',List.getD_eq_getElem?_getD,show j<zs.length from by omega]
   have :=Fc (W:=W) (l:=zs.take len') (A:=some a) (cap:=cap') (by omega) (by omega) hr;rw[Z]at this;exact⟨_,this⟩
 obtain⟨zs,hz⟩:=O;have e':v=.agg #[v0,v1]:=KO (by apply Array.ext';simpa using e);subst e' e0;refine⟨⟨k,zs⟩,?_⟩;simp only[rj,VRel];exact⟨_,rfl,⟨_,_,rfl,by simp only[VRel],_,_,rfl,hz,rfl⟩⟩
open Go.RowKit Go.ChangeShapes Go.WideShapes Lx Sx
theorem DL:prog.cellsOf 58=2:=by kernel_rfl
theorem IT:prog.cellsOf 3=1:=by kernel_rfl
theorem ye{n:String}{z:Int}{g:Nat}{r:List (String×DataW Unit)}{ps:List MemPlace}(hg:prog.globalNamed n=some g)(ht:(prog.globals[g]?).map (·.type)=some 58)(h:DataW.LaidVars prog W ((n,.agg [.lit (.int .i64 z),.lit (.int .i64 0)])::r) ps):
  (∃qs,DataW.LaidVars prog W r qs)∧VRel (nI W) W ρ0 (.box [.int .i64 z,.int .i64 0] 0) (.pointer (some ⟨g,0,none⟩)):=by
 obtain⟨g',t,cs,fuel,p,q,h1,h2,G,h4,h5,_⟩:=h;rw[hg]at h1;injection h1 with h1;subst h1
 rw[ht]at h2;injection h2 with h2;subst h2
 refine⟨⟨q,h5⟩,?_⟩;obtain⟨y0,y1,n',hx,hl,h6,h7⟩:=trod_struct2 underlying58 h4;rw[DL]at hl;simp only[IT]at h6 h7;obtain⟨a,O,f0,_⟩:=DataW.trod_int underlying3 h6;obtain⟨b,U,f1,_⟩:=DataW.trod_int underlying3 h7;rw[f0,f1]at hx;simp only[Prod.mk.injEq,DataW.agg.injEq,List.cons.injEq,DataW.lit.injEq,Lit.int.injEq,true_and,and_true]at hx;obtain⟨⟨rfl,rfl⟩,_⟩:=hx;have Z:cs.toList=[.int .i64 z,.int .i64 0]:=by
  match hc:cs.toList,hl with
  |[c0,c1],_=>
   rw[hc]at O U;simp only[List.drop_zero,List.drop_succ_cons,List.take_succ_cons,List.take_zero,List.cons.injEq,and_true]at O U;rw[O,U]
 unfold World.var? at G;rw[hg]at G;simp only[Option.bind_some]at G;split at G
 ·rename_i cs' ty fz hb;injection G with G;subst G
  have J:g<W.heap.size:=by
   rcases Nat.lt_or_ge g W.heap.size with h|h
   ·exact h
   ·rw[Array.getElem?_eq_none h]at hb;cases hb
  simp only[VRel];refine⟨g,0,[.int .i64 z,.int .i64 0],rfl,J,J,by simp only[LRel,VRel];exact⟨_,_,rfl,rfl,_,_,rfl,rfl,rfl⟩,λj hj=>?_⟩;rw[←Z];simp[World.cell?,hb]
 ·cases G
theorem PA{W:World}{ps:List MemPlace} (h:DataW.LaidVars prog W [("semvcs/typing.integer",Rows.laid_semvcs_typing_integer),("semvcs/typing.text",Rows.laid_semvcs_typing_text),("semvcs/typing.boolean",Rows.laid_semvcs_typing_boolean)] ps):∀p∈wt,VRel (nI W) W ρ0 (.box p.2 0) (.pointer (some ⟨p.1,0,none⟩)):=by
 obtain⟨⟨q1,h1⟩,a1⟩:=ye (g:=0) (by kernel_rfl) (by kernel_rfl) h;obtain⟨⟨q2,h2⟩,a2⟩:=ye (g:=1) (by kernel_rfl) (by kernel_rfl) h1;obtain⟨_,a3⟩:=ye (g:=2) (by kernel_rfl) (by kernel_rfl) h2;intro p hp;simp only[wt,List.mem_cons,List.not_mem_nil,or_false]at hp;rcases hp with rfl|rfl|rfl
 ·exact a1
 ·exact a2
 ·exact a3
def Jz(cs:Array Value):Obj→Obj
 |.cells _ t frozen=>.cells cs t frozen
 |o=>o
noncomputable def Hu (os:Os):World:=
 let w0:=World.holding prog os ⟨#[],#[],[]⟩
 {w0 with heap:=((w0.heap.modify 0 (Jz #[.int .i64 5,.int .i64 0])).modify 1 (Jz #[.int .i64 6,.int .i64 0])).modify 2 (Jz #[.int .i64 7,.int .i64 0])}
theorem Pc(os:Os)(args:Array Value):laidMet prog Rows.typingLayoutRow.laid ((Hu os).forCall (λ_ _=>0) ⟨#[],args,[]⟩).memory:=
 laidMet_of_run' 8 (by kernel_rfl) (by kernel_rfl)
end Go.Proofs.YtomplbgchbfjpaaGreatDoor
